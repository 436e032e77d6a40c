/- The seat's functions as plain functions: made by program (wip/gen/gen.py). -/
import Derived.Test.YtdfjdbpklbehoaaEvYa
import Derived.Test.YtdfjdbpklbehoaaShelf
namespace Go.Proofs.Ytdfjdbpklbehoaa.Ev
open Go
set_option linter.unusedVariables false
set_option maxRecDepth 20000
def tyTab : List (Nat × Ty) := [(2, i64), (3, i64), (4, .bool), (5, (.int .u8)), (6, (.int .u8)), (9, .str), (10, .str), (11, .str), (12, (.int .u64)), (21, (.int .i32)), (22, (.sl (.sl (.st 0)))), (23, (.st 2)), (24, (.st 2)), (25, (.sl (.st 1))), (26, (.st 1)), (27, (.st 1)), (30, (.sl i64)), (32, (.sl (.sl (.st 0)))), (33, (.st 2)), (34, (.st 2)), (36, (.sl (.st 1))), (37, (.st 1)), (38, (.st 1)), (47, (.sl (.int .u8))), (51, (.sl (.st 0))), (52, (.st 0)), (53, (.st 0)), (71, (.sl .bool)), (88, (.sl (.sl i64))), (98, (.sl (.st 0))), (103, (.sl (.sl .bool))), (108, (.sl (.st 1))), (109, (.st 1)), (110, (.st 1)), (129, (.st 0)), (142, (.sl .str)), (143, (.sl (.st 3))), (146, (.st 3)), (151, (.int .u64)), (159, i64), (168, (.int .u32)), (170, (.int .u64)), (177, (.int .u64)), (196, (.int .u8)), (197, (.int .u8)), (200, (.int .i32)), (201, (.int .i32))]
def tyOf (t : Nat) : Option Ty := tyFind t tyTab
def lives (f i : Nat) : List Nat × List Nat :=
  bif Nat.beq f 17 && Nat.beq i 0 then ([5, 6, 7], [8]) else
  bif Nat.beq f 20 && Nat.beq i 0 then ([5, 20, 21, 22], [8]) else
  bif Nat.beq f 21 && Nat.beq i 0 then ([0, 1, 5], []) else
  bif Nat.beq f 26 && Nat.beq i 0 then ([0, 1, 5], []) else
  bif Nat.beq f 27 && Nat.beq i 0 then ([0, 1, 5], []) else
  bif Nat.beq f 32 && Nat.beq i 0 then ([1, 18, 19, 20], [1]) else
  bif Nat.beq f 32 && Nat.beq i 2 then ([1, 4, 18, 19, 20, 24, 25, 26], [1]) else
  bif Nat.beq f 56 && Nat.beq i 0 then ([0, 1, 5], []) else
  bif Nat.beq f 57 && Nat.beq i 0 then ([0, 1, 5], []) else
  bif Nat.beq f 58 && Nat.beq i 0 then ([1, 3], [1]) else
  bif Nat.beq f 58 && Nat.beq i 2 then ([1, 3, 4], [1]) else
  bif Nat.beq f 60 && Nat.beq i 0 then ([2, 3, 5, 6, 7, 8], [2, 3, 13]) else
  bif Nat.beq f 60 && Nat.beq i 3 then ([2, 3, 5, 6, 7, 8, 9], [2, 3, 13]) else
  bif Nat.beq f 61 && Nat.beq i 0 then ([0, 3, 4], [7]) else
  bif Nat.beq f 62 && Nat.beq i 0 then ([0, 3, 4], [7]) else
  bif Nat.beq f 63 && Nat.beq i 0 then ([2, 3, 5, 6, 18, 19, 20], [2, 3, 15, 16]) else
  bif Nat.beq f 63 && Nat.beq i 2 then ([2, 3, 5, 6, 32, 33], [2, 3, 15, 16]) else
  bif Nat.beq f 63 && Nat.beq i 5 then ([2, 3, 5, 6, 9, 32, 33, 42, 43, 44], [2, 3, 15, 16]) else
  bif Nat.beq f 64 && Nat.beq i 0 then ([0, 1, 5], []) else
  bif Nat.beq f 65 && Nat.beq i 0 then ([0, 1, 5], []) else
  bif Nat.beq f 66 && Nat.beq i 0 then ([0, 1, 5], []) else
  bif Nat.beq f 67 && Nat.beq i 0 then ([0, 1, 5], []) else
  bif Nat.beq f 92 && Nat.beq i 0 then ([1, 5, 9, 10, 11], []) else
  bif Nat.beq f 93 && Nat.beq i 1 then ([38, 39, 40], []) else
  bif Nat.beq f 99 && Nat.beq i 0 then ([1, 4, 5], [1]) else
  bif Nat.beq f 100 && Nat.beq i 0 then ([0, 3, 4], [7]) else
  bif Nat.beq f 101 && Nat.beq i 0 then ([0, 1, 5], []) else
  bif Nat.beq f 102 && Nat.beq i 0 then ([0, 1, 5], []) else
  ([], [])
def livesX (f i : Nat) : List Nat × List Nat :=
  bif Nat.beq f 17 && Nat.beq i 0 then ([5], [8]) else
  bif Nat.beq f 20 && Nat.beq i 0 then ([5], [8]) else
  bif Nat.beq f 21 && Nat.beq i 0 then ([4], []) else
  bif Nat.beq f 26 && Nat.beq i 0 then ([1], []) else
  bif Nat.beq f 27 && Nat.beq i 0 then ([1, 4], []) else
  bif Nat.beq f 32 && Nat.beq i 0 then ([2], []) else
  bif Nat.beq f 32 && Nat.beq i 2 then ([1, 2, 18, 19, 20], [1]) else
  bif Nat.beq f 56 && Nat.beq i 0 then ([1, 4], []) else
  bif Nat.beq f 57 && Nat.beq i 0 then ([1, 4], []) else
  bif Nat.beq f 58 && Nat.beq i 0 then ([2], []) else
  bif Nat.beq f 58 && Nat.beq i 2 then ([1, 2, 3], [1]) else
  bif Nat.beq f 60 && Nat.beq i 0 then ([5], [13]) else
  bif Nat.beq f 60 && Nat.beq i 3 then ([2, 3, 5, 6, 7, 8], [2, 3, 13]) else
  bif Nat.beq f 61 && Nat.beq i 0 then ([3], [7]) else
  bif Nat.beq f 62 && Nat.beq i 0 then ([3], [7]) else
  bif Nat.beq f 63 && Nat.beq i 0 then ([2, 3, 5, 6], [2, 3, 15, 16]) else
  bif Nat.beq f 63 && Nat.beq i 2 then ([5], [15]) else
  bif Nat.beq f 63 && Nat.beq i 5 then ([2, 3, 5, 6, 32, 33], [2, 3, 15, 16]) else
  bif Nat.beq f 64 && Nat.beq i 0 then ([4], []) else
  bif Nat.beq f 65 && Nat.beq i 0 then ([4], []) else
  bif Nat.beq f 66 && Nat.beq i 0 then ([1], []) else
  bif Nat.beq f 67 && Nat.beq i 0 then ([1], []) else
  bif Nat.beq f 92 && Nat.beq i 0 then ([4, 5], []) else
  bif Nat.beq f 93 && Nat.beq i 1 then ([2], []) else
  bif Nat.beq f 99 && Nat.beq i 0 then ([2, 4], []) else
  bif Nat.beq f 100 && Nat.beq i 0 then ([3], [7]) else
  bif Nat.beq f 101 && Nat.beq i 0 then ([4], []) else
  bif Nat.beq f 102 && Nat.beq i 0 then ([1], []) else
  ([], [])
def promT (f i : Nat) : List (Nat × Nat × Nat × Option Nat × Nat × Ty) :=
  []
def healT (f i : Nat) : List Nat :=
  bif Nat.beq f 66 && Nat.beq i 0 then [0] else
  bif Nat.beq f 67 && Nat.beq i 0 then [0] else
  []
def renT (f i : Nat) : List (Nat × Nat) :=
  []
def inlT (f : Nat) : Bool := memN f [24, 25]
theorem okP : OkP Try.prog := OkP.mk' (by kernel_rfl) (by kernel_rfl)
def Φx (L N : Nat) : Tells := addT noTells 141 sortEnt
theorem Φx_ok (L N : Nat) : TellsOk Try.prog (Φx L N) := addT_ok (no_ok _) (sort_ok ⟨Try.f141, rfl, by kernel_rfl, by kernel_rfl⟩ sortC sortNone)
def f95.b' {R : Type} (L N : Nat) (k : Int → Option R) (x0 : (List Move)) (x1 : Int) : Option R :=
  bif (decide ((wi (x1 - (x0.length : Int))) < (0 : Int))) then
    k (-1 : Int)
  else k (wi (x1 - (x0.length : Int)))
def f95.b {R : Type} (L N : Nat) (k : Int → Option R) (x0 : (List Move)) (x1 : Int) : Option R :=
  f95.b' L N k x0 x1
def f95 (L N : Nat) (x0 : (List Move)) (x1 : Int) : Option (Int) := f95.b L N some x0 x1
def f95.ent (L N : Nat) (args : List AV) (vw : View) (site : Nat) : Ans := match roD [(.sl (.st 0)), i64] vw args with
  | some d => ⟨Int, f95 L N d.1 d.2.1, fun y => ((.tv i64 y), [], [])⟩
  | none => Ans.no
noncomputable def E95 (L N : Nat) : Env := { P := Try.prog, ty := tyOf, Φ := (Φx L N), inl := inlT, live := lives, liveX := livesX, L := L, dp := none, prom := promT, heal := healT, ren := renT }
theorem f95.b_pre {R : Type} (L N : Nat) (κ : AV → Option R) (x0 : (List Move)) (x1 : Int) :
    evBody (E95 L N) (evCallI (E95 L N) 1 2000) 1000 95 Try.f95 [(.tv (.sl (.st 0)) x0), (.tv i64 x1)] [] [] (finC (.one i64) κ)
    = f95.b' L N (fun a0 => κ (.tv i64 a0)) x0 x1 := by kernel_rfl
theorem f95.b_eq {R : Type} (L N : Nat) (κ : AV → Option R) (x0 : (List Move)) (x1 : Int) :
    evBody (E95 L N) (evCallI (E95 L N) 1 2000) 1000 95 Try.f95 [(.tv (.sl (.st 0)) x0), (.tv i64 x1)] [] [] (finC (.one i64) κ)
    = f95.b L N (fun a0 => κ (.tv i64 a0)) x0 x1 := by
  rw [f95.b_pre]
  unfold f95.b
  rfl
theorem f95.b'_nat {R R' : Type} (j : R → Option R') (L N : Nat) (k : Int → Option R) (x0 : (List Move)) (x1 : Int) :
    f95.b' L N (fun a0 => (k a0).bind j) x0 x1 = (f95.b' L N k x0 x1).bind j := by
  unfold f95.b'
  repeat' (first | (with_reducible refine cond_nat ?_ ?_) | (with_reducible refine bind_nat fun _ => ?_) | rfl)
theorem f95.b_nat {R R' : Type} (j : R → Option R') (L N : Nat) (k : Int → Option R) (x0 : (List Move)) (x1 : Int) :
    f95.b L N (fun a0 => (k a0).bind j) x0 x1 = (f95.b L N k x0 x1).bind j := by
  unfold f95.b
  exact f95.b'_nat ..
theorem f95.ok (L N : Nat) (hΦ : TellsOk Try.prog ((Φx L N))) : EntOk Try.prog 95 (f95.ent L N) := by
  intro args vw site h
  unfold f95.ent
  split
  · rename_i d ha
    intro y hy hs
    refine call_ro (dep := 1000) (E := (E95 L N)) (rs := (.one i64)) (v := (.tv i64 y)) (sound_of hΦ) okP (callI_sound (sound_of hΦ) okP 1 2000) (f := Try.f95) rfl hs ha ?_ rfl site
    refine (f95.b_eq L N some d.1 d.2.1).trans ?_
    refine ((f95.b_nat (fun y => (some (.tv i64 y) : Option AV)) L N some d.1 d.2.1)).trans ?_
    rw [show f95.b L N some d.1 d.2.1 = some y from hy]
    rfl
  · intro y hy
    cases hy
def Φ95 (L N : Nat) : Tells := (addT (Φx L N) 95 (f95.ent L N))
theorem Φ95_ok (L N : Nat) : TellsOk Try.prog (Φ95 L N) := addT_ok (Φx_ok L N) (f95.ok L N (Φx_ok L N))
def f56.s0' {R : Type} (L N : Nat) (k0_e0 : Int → Option R) (k0_r : Int → Int → Option R) (rec0 : (List (List Move)) → Int → Int → Option R) (s0 : (List (List Move))) (s1 : Int) (s2 : Int) : Option R :=
  bif (decide (s2 < (s0.length : Int))) then
    bif (decide (0 ≤ s2) && decide (s2 < (s0.length : Int))) then
      (f95 L N (listAt s0 [] s2.toNat) s1).bind fun y4 =>
      bif (decide (y4 < (0 : Int))) then
        k0_r y4 (-1 : Int)
      else rec0 s0 y4 (wi (s2 + (1 : Int)))
    else none
  else k0_e0 s1
def f56.s0 {R : Type} (L N : Nat) (k0_e0 : Int → Option R) (k0_r : Int → Int → Option R) (rec0 : (List (List Move)) → Int → Int → Option R) (s0 : (List (List Move))) (s1 : Int) (s2 : Int) : Option R :=
  f56.s0' L N k0_e0 k0_r rec0 s0 s1 s2
def f56.l0 {R : Type} (L N : Nat) (k0_e0 : Int → Option R) (k0_r : Int → Int → Option R) : Nat → (List (List Move)) → Int → Int → Option R
  | 0, _, _, _ => none
  | n + 1, s0, s1, s2 => f56.s0 L N k0_e0 k0_r (f56.l0 L N k0_e0 k0_r n) s0 s1 s2
def f56.T0 (s0 : (List (List Move))) (s1 : Int) (s2 : Int) : T := mkT 27 [(0, (.tv (.sl (.sl (.st 0))) s0)), (1, (.tv i64 s1)), (5, (.tv i64 s2))]
def f56.H0 (s0 : (List (List Move))) (s1 : Int) (s2 : Int) : H := []
def f56.T0_e0 (z3 : Int) : T := mkT 27 [(1, (.tv i64 z3))]
def f56.H0_e0 (z3 : Int) : H := []
def f56.T0_r (z5 : Int) (z6 : Int) : T := mkT 27 [(1, (.tv i64 z5)), (4, (.tv i64 z6))]
def f56.H0_r (z5 : Int) (z6 : Int) : H := []
def f56.p0_e0' {R : Type} (L N : Nat) (k : Int → Option R) (z3 : Int) : Option R :=
  k z3
def f56.p0_e0 {R : Type} (L N : Nat) (k : Int → Option R) (z3 : Int) : Option R :=
  f56.p0_e0' L N k z3
def f56.p0_r' {R : Type} (L N : Nat) (k : Int → Option R) (z5 : Int) (z6 : Int) : Option R :=
  k z6
def f56.p0_r {R : Type} (L N : Nat) (k : Int → Option R) (z5 : Int) (z6 : Int) : Option R :=
  f56.p0_r' L N k z5 z6
def f56.b' {R : Type} (L N : Nat) (k : Int → Option R) (w0 : (List (List Move)) → Int → Int → Option R) (x0 : (List (List Move))) (x1 : Int) : Option R :=
  bif (decide ((wi (x1 - (x0.length : Int))) < (0 : Int))) then
    k (-1 : Int)
  else w0 x0 (wi (x1 - (x0.length : Int))) (0 : Int)
def f56.b {R : Type} (L N : Nat) (k : Int → Option R) (x0 : (List (List Move))) (x1 : Int) : Option R :=
  f56.b' L N k (fun s0 s1 s2 => f56.l0 L N (fun z3 => f56.p0_e0 L N k z3) (fun z5 z6 => f56.p0_r L N k z5 z6) L s0 s1 s2) x0 x1
def f56 (L N : Nat) (x0 : (List (List Move))) (x1 : Int) : Option (Int) := f56.b L N some x0 x1
def f56.ent (L N : Nat) (args : List AV) (vw : View) (site : Nat) : Ans := match roD [(.sl (.sl (.st 0))), i64] vw args with
  | some d => ⟨Int, f56 L N d.1 d.2.1, fun y => ((.tv i64 y), [], [])⟩
  | none => Ans.no
noncomputable def E56 (L N : Nat) : Env := { P := Try.prog, ty := tyOf, Φ := (Φ95 L N), inl := inlT, live := lives, liveX := livesX, L := L, dp := none, prom := promT, heal := healT, ren := renT }
noncomputable def f56.c0 : Code := loopAt 0 (codeOf Try.f56)
theorem f56.s0_pre {R : Type} (L N : Nat) (κ : Ex → T → H → Option R) (rec : T → H → Option R) (s0 : (List (List Move))) (s1 : Int) (s2 : Int) :
    evRd (E56 L N) (evCallI (E56 L N) 1 2000) 1000 56 27 0 f56.c0 κ rec (f56.T0 s0 s1 s2) (f56.H0 s0 s1 s2)
    = f56.s0' L N (fun z3 => κ (.exit 0) (f56.T0_e0 z3) (f56.H0_e0 z3)) (fun z5 z6 => κ .ret (f56.T0_r z5 z6) (f56.H0_r z5 z6)) (fun s0 s1 s2 => rec (f56.T0 s0 s1 s2) (f56.H0 s0 s1 s2)) s0 s1 s2 := by kernel_rfl
theorem f56.s0_eq {R : Type} (L N : Nat) (κ : Ex → T → H → Option R) (rec : T → H → Option R) (s0 : (List (List Move))) (s1 : Int) (s2 : Int) :
    evRd (E56 L N) (evCallI (E56 L N) 1 2000) 1000 56 27 0 f56.c0 κ rec (f56.T0 s0 s1 s2) (f56.H0 s0 s1 s2)
    = f56.s0 L N (fun z3 => κ (.exit 0) (f56.T0_e0 z3) (f56.H0_e0 z3)) (fun z5 z6 => κ .ret (f56.T0_r z5 z6) (f56.H0_r z5 z6)) (fun s0 s1 s2 => rec (f56.T0 s0 s1 s2) (f56.H0 s0 s1 s2)) s0 s1 s2 := by
  rw [f56.s0_pre]
  unfold f56.s0
  rfl
theorem f56.l0_eq {R : Type} (L N : Nat) (κ : Ex → T → H → Option R) : ∀ (n : Nat) (s0 : (List (List Move))) (s1 : Int) (s2 : Int),
    evLp (E56 L N) (evCallI (E56 L N) 1 2000) 1000 56 27 0 f56.c0 κ n (f56.T0 s0 s1 s2) (f56.H0 s0 s1 s2)
    = f56.l0 L N (fun z3 => κ (.exit 0) (f56.T0_e0 z3) (f56.H0_e0 z3)) (fun z5 z6 => κ .ret (f56.T0_r z5 z6) (f56.H0_r z5 z6)) n s0 s1 s2 := by
  intro n
  induction n with
  | zero => intros; rfl
  | succ n ih =>
    intro s0 s1 s2
    rw [evLp_succ, f56.s0_eq]
    simp only [ih]
    rfl
theorem f56.p0_e0_pre {R : Type} (L N : Nat) (κ : AV → Option R) (z3 : Int) :
    (contAt (E56 L N) (evCallI (E56 L N) 1 2000) 1000 56 27 0 (codeOf Try.f56) (finK (E56 L N) 1000 Try.f56 (finC (.one i64) κ))) (.exit 0) (f56.T0_e0 z3) (f56.H0_e0 z3)
    = f56.p0_e0' L N (fun a0 => κ (.tv i64 a0)) z3 := by kernel_rfl
theorem f56.p0_e0_eq {R : Type} (L N : Nat) (κ : AV → Option R) (z3 : Int) :
    (contAt (E56 L N) (evCallI (E56 L N) 1 2000) 1000 56 27 0 (codeOf Try.f56) (finK (E56 L N) 1000 Try.f56 (finC (.one i64) κ))) (.exit 0) (f56.T0_e0 z3) (f56.H0_e0 z3)
    = f56.p0_e0 L N (fun a0 => κ (.tv i64 a0)) z3 := by
  rw [f56.p0_e0_pre]
  unfold f56.p0_e0
  rfl
theorem f56.p0_r_pre {R : Type} (L N : Nat) (κ : AV → Option R) (z5 : Int) (z6 : Int) :
    (contAt (E56 L N) (evCallI (E56 L N) 1 2000) 1000 56 27 0 (codeOf Try.f56) (finK (E56 L N) 1000 Try.f56 (finC (.one i64) κ))) .ret (f56.T0_r z5 z6) (f56.H0_r z5 z6)
    = f56.p0_r' L N (fun a0 => κ (.tv i64 a0)) z5 z6 := by kernel_rfl
theorem f56.p0_r_eq {R : Type} (L N : Nat) (κ : AV → Option R) (z5 : Int) (z6 : Int) :
    (contAt (E56 L N) (evCallI (E56 L N) 1 2000) 1000 56 27 0 (codeOf Try.f56) (finK (E56 L N) 1000 Try.f56 (finC (.one i64) κ))) .ret (f56.T0_r z5 z6) (f56.H0_r z5 z6)
    = f56.p0_r L N (fun a0 => κ (.tv i64 a0)) z5 z6 := by
  rw [f56.p0_r_pre]
  unfold f56.p0_r
  rfl
theorem f56.b_pre {R : Type} (L N : Nat) (κ : AV → Option R) (x0 : (List (List Move))) (x1 : Int) :
    evBody (E56 L N) (evCallI (E56 L N) 1 2000) 1000 56 Try.f56 [(.tv (.sl (.sl (.st 0))) x0), (.tv i64 x1)] [] [] (finC (.one i64) κ)
    = f56.b' L N (fun a0 => κ (.tv i64 a0)) (fun s0 s1 s2 => evLp (E56 L N) (evCallI (E56 L N) 1 2000) 1000 56 27 0 f56.c0 (contAt (E56 L N) (evCallI (E56 L N) 1 2000) 1000 56 27 0 (codeOf Try.f56) (finK (E56 L N) 1000 Try.f56 (finC (.one i64) κ))) L (f56.T0 s0 s1 s2) (f56.H0 s0 s1 s2)) x0 x1 := by kernel_rfl
theorem f56.b_eq {R : Type} (L N : Nat) (κ : AV → Option R) (x0 : (List (List Move))) (x1 : Int) :
    evBody (E56 L N) (evCallI (E56 L N) 1 2000) 1000 56 Try.f56 [(.tv (.sl (.sl (.st 0))) x0), (.tv i64 x1)] [] [] (finC (.one i64) κ)
    = f56.b L N (fun a0 => κ (.tv i64 a0)) x0 x1 := by
  rw [f56.b_pre]
  unfold f56.b
  simp only [f56.l0_eq, f56.p0_e0_eq, f56.p0_r_eq]
theorem f56.s0'_nat {R R' : Type} (j : R → Option R') (L N : Nat) (k0_e0 : Int → Option R) (k0_r : Int → Int → Option R) (rec0 : (List (List Move)) → Int → Int → Option R) (s0 : (List (List Move))) (s1 : Int) (s2 : Int) :
    f56.s0' L N (fun a0 => (k0_e0 a0).bind j) (fun a0 a1 => (k0_r a0 a1).bind j) (fun a0 a1 a2 => (rec0 a0 a1 a2).bind j) s0 s1 s2 = (f56.s0' L N k0_e0 k0_r rec0 s0 s1 s2).bind j := by
  unfold f56.s0'
  repeat' (first | (with_reducible refine cond_nat ?_ ?_) | (with_reducible refine bind_nat fun _ => ?_) | rfl)
theorem f56.s0_nat {R R' : Type} (j : R → Option R') (L N : Nat) (k0_e0 : Int → Option R) (k0_r : Int → Int → Option R) (rec0 : (List (List Move)) → Int → Int → Option R) (s0 : (List (List Move))) (s1 : Int) (s2 : Int) :
    f56.s0 L N (fun a0 => (k0_e0 a0).bind j) (fun a0 a1 => (k0_r a0 a1).bind j) (fun a0 a1 a2 => (rec0 a0 a1 a2).bind j) s0 s1 s2 = (f56.s0 L N k0_e0 k0_r rec0 s0 s1 s2).bind j := by
  unfold f56.s0
  exact f56.s0'_nat ..
theorem f56.l0_nat {R R' : Type} (j : R → Option R') (L N : Nat) (k0_e0 : Int → Option R) (k0_r : Int → Int → Option R) : ∀ (n : Nat) (s0 : (List (List Move))) (s1 : Int) (s2 : Int),
    f56.l0 L N (fun a0 => (k0_e0 a0).bind j) (fun a0 a1 => (k0_r a0 a1).bind j) n s0 s1 s2 = (f56.l0 L N k0_e0 k0_r n s0 s1 s2).bind j := by
  intro n
  induction n with
  | zero => intros; rfl
  | succ n ih =>
    intro s0 s1 s2
    show f56.s0 L N (fun a0 => (k0_e0 a0).bind j) (fun a0 a1 => (k0_r a0 a1).bind j) (f56.l0 L N (fun a0 => (k0_e0 a0).bind j) (fun a0 a1 => (k0_r a0 a1).bind j) n) s0 s1 s2 = _
    rw [show f56.l0 L N (fun a0 => (k0_e0 a0).bind j) (fun a0 a1 => (k0_r a0 a1).bind j) n = (fun s0 s1 s2 => (f56.l0 L N k0_e0 k0_r n s0 s1 s2).bind j) from funext fun s0 => funext fun s1 => funext fun s2 => ih s0 s1 s2]
    exact f56.s0_nat ..
theorem f56.p0_e0'_nat {R R' : Type} (j : R → Option R') (L N : Nat) (k : Int → Option R) (z3 : Int) :
    f56.p0_e0' L N (fun a0 => (k a0).bind j) z3 = (f56.p0_e0' L N k z3).bind j := by
  unfold f56.p0_e0'
  repeat' (first | (with_reducible refine cond_nat ?_ ?_) | (with_reducible refine bind_nat fun _ => ?_) | rfl)
theorem f56.p0_e0_nat {R R' : Type} (j : R → Option R') (L N : Nat) (k : Int → Option R) (z3 : Int) :
    f56.p0_e0 L N (fun a0 => (k a0).bind j) z3 = (f56.p0_e0 L N k z3).bind j := by
  unfold f56.p0_e0
  exact f56.p0_e0'_nat ..
theorem f56.p0_r'_nat {R R' : Type} (j : R → Option R') (L N : Nat) (k : Int → Option R) (z5 : Int) (z6 : Int) :
    f56.p0_r' L N (fun a0 => (k a0).bind j) z5 z6 = (f56.p0_r' L N k z5 z6).bind j := by
  unfold f56.p0_r'
  repeat' (first | (with_reducible refine cond_nat ?_ ?_) | (with_reducible refine bind_nat fun _ => ?_) | rfl)
theorem f56.p0_r_nat {R R' : Type} (j : R → Option R') (L N : Nat) (k : Int → Option R) (z5 : Int) (z6 : Int) :
    f56.p0_r L N (fun a0 => (k a0).bind j) z5 z6 = (f56.p0_r L N k z5 z6).bind j := by
  unfold f56.p0_r
  exact f56.p0_r'_nat ..
theorem f56.b'_nat {R R' : Type} (j : R → Option R') (L N : Nat) (k : Int → Option R) (w0 : (List (List Move)) → Int → Int → Option R) (x0 : (List (List Move))) (x1 : Int) :
    f56.b' L N (fun a0 => (k a0).bind j) (fun a0 a1 a2 => (w0 a0 a1 a2).bind j) x0 x1 = (f56.b' L N k w0 x0 x1).bind j := by
  unfold f56.b'
  repeat' (first | (with_reducible refine cond_nat ?_ ?_) | (with_reducible refine bind_nat fun _ => ?_) | rfl)
theorem f56.b_nat {R R' : Type} (j : R → Option R') (L N : Nat) (k : Int → Option R) (x0 : (List (List Move))) (x1 : Int) :
    f56.b L N (fun a0 => (k a0).bind j) x0 x1 = (f56.b L N k x0 x1).bind j := by
  unfold f56.b
  simp only [f56.l0_nat, f56.p0_e0_nat, f56.p0_r_nat]
  exact f56.b'_nat ..
theorem f56.ok (L N : Nat) (hΦ : TellsOk Try.prog ((Φ95 L N))) : EntOk Try.prog 56 (f56.ent L N) := by
  intro args vw site h
  unfold f56.ent
  split
  · rename_i d ha
    intro y hy hs
    refine call_ro (dep := 1000) (E := (E56 L N)) (rs := (.one i64)) (v := (.tv i64 y)) (sound_of hΦ) okP (callI_sound (sound_of hΦ) okP 1 2000) (f := Try.f56) rfl hs ha ?_ rfl site
    refine (f56.b_eq L N some d.1 d.2.1).trans ?_
    refine ((f56.b_nat (fun y => (some (.tv i64 y) : Option AV)) L N some d.1 d.2.1)).trans ?_
    rw [show f56.b L N some d.1 d.2.1 = some y from hy]
    rfl
  · intro y hy
    cases hy
def Φ56 (L N : Nat) : Tells := (addT (Φ95 L N) 56 (f56.ent L N))
theorem Φ56_ok (L N : Nat) : TellsOk Try.prog (Φ56 L N) := addT_ok (Φ95_ok L N) (f56.ok L N (Φ95_ok L N))
def f15.b' {R : Type} (L N : Nat) (k : Int → Option R) (x0 : Graph) (x1 : Int) : Option R :=
  (f56 L N x0.moves x1).bind fun y0 =>
  bif (decide (y0 < (0 : Int))) then
    k (-1 : Int)
  else k y0
def f15.b {R : Type} (L N : Nat) (k : Int → Option R) (x0 : Graph) (x1 : Int) : Option R :=
  f15.b' L N k x0 x1
def f15 (L N : Nat) (x0 : Graph) (x1 : Int) : Option (Int) := f15.b L N some x0 x1
def f15.ent (L N : Nat) (args : List AV) (vw : View) (site : Nat) : Ans := match roD [(.st 2), i64] vw args with
  | some d => ⟨Int, f15 L N d.1 d.2.1, fun y => ((.tv i64 y), [], [])⟩
  | none => Ans.no
noncomputable def E15 (L N : Nat) : Env := { P := Try.prog, ty := tyOf, Φ := (Φ56 L N), inl := inlT, live := lives, liveX := livesX, L := L, dp := none, prom := promT, heal := healT, ren := renT }
theorem f15.b_pre {R : Type} (L N : Nat) (κ : AV → Option R) (x0 : Graph) (x1 : Int) :
    evBody (E15 L N) (evCallI (E15 L N) 1 2000) 1000 15 Try.f15 [(.tv (.st 2) x0), (.tv i64 x1)] [] [] (finC (.one i64) κ)
    = f15.b' L N (fun a0 => κ (.tv i64 a0)) x0 x1 := by kernel_rfl
theorem f15.b_eq {R : Type} (L N : Nat) (κ : AV → Option R) (x0 : Graph) (x1 : Int) :
    evBody (E15 L N) (evCallI (E15 L N) 1 2000) 1000 15 Try.f15 [(.tv (.st 2) x0), (.tv i64 x1)] [] [] (finC (.one i64) κ)
    = f15.b L N (fun a0 => κ (.tv i64 a0)) x0 x1 := by
  rw [f15.b_pre]
  unfold f15.b
  rfl
theorem f15.b'_nat {R R' : Type} (j : R → Option R') (L N : Nat) (k : Int → Option R) (x0 : Graph) (x1 : Int) :
    f15.b' L N (fun a0 => (k a0).bind j) x0 x1 = (f15.b' L N k x0 x1).bind j := by
  unfold f15.b'
  repeat' (first | (with_reducible refine cond_nat ?_ ?_) | (with_reducible refine bind_nat fun _ => ?_) | rfl)
theorem f15.b_nat {R R' : Type} (j : R → Option R') (L N : Nat) (k : Int → Option R) (x0 : Graph) (x1 : Int) :
    f15.b L N (fun a0 => (k a0).bind j) x0 x1 = (f15.b L N k x0 x1).bind j := by
  unfold f15.b
  exact f15.b'_nat ..
theorem f15.ok (L N : Nat) (hΦ : TellsOk Try.prog ((Φ56 L N))) : EntOk Try.prog 15 (f15.ent L N) := by
  intro args vw site h
  unfold f15.ent
  split
  · rename_i d ha
    intro y hy hs
    refine call_ro (dep := 1000) (E := (E15 L N)) (rs := (.one i64)) (v := (.tv i64 y)) (sound_of hΦ) okP (callI_sound (sound_of hΦ) okP 1 2000) (f := Try.f15) rfl hs ha ?_ rfl site
    refine (f15.b_eq L N some d.1 d.2.1).trans ?_
    refine ((f15.b_nat (fun y => (some (.tv i64 y) : Option AV)) L N some d.1 d.2.1)).trans ?_
    rw [show f15.b L N some d.1 d.2.1 = some y from hy]
    rfl
  · intro y hy
    cases hy
def Φ15 (L N : Nat) : Tells := (addT (Φ56 L N) 15 (f15.ent L N))
theorem Φ15_ok (L N : Nat) : TellsOk Try.prog (Φ15 L N) := addT_ok (Φ56_ok L N) (f15.ok L N (Φ56_ok L N))
def f16.b' {R : Type} (L N : Nat) (self16 : Tree → Int → Option (Int)) (self57 : (List Tree) → Int → Option (Int)) (k : Int → Option R) (x0 : Tree) (x1 : Int) : Option R :=
  (self57 x0.parts x1).bind fun y0 =>
  bif (decide (y0 < (0 : Int))) then
    k (-1 : Int)
  else k y0
def f16.b {R : Type} (L N : Nat) (self16 : Tree → Int → Option (Int)) (self57 : (List Tree) → Int → Option (Int)) (k : Int → Option R) (x0 : Tree) (x1 : Int) : Option R :=
  f16.b' L N self16 self57 k x0 x1
def f57.s0' {R : Type} (L N : Nat) (self16 : Tree → Int → Option (Int)) (self57 : (List Tree) → Int → Option (Int)) (k0_e0 : Int → Option R) (k0_r : Int → Int → Option R) (rec0 : (List Tree) → Int → Int → Option R) (s0 : (List Tree)) (s1 : Int) (s2 : Int) : Option R :=
  bif (decide (s2 < (s0.length : Int))) then
    bif (decide (0 ≤ s2) && decide (s2 < (s0.length : Int))) then
      (self16 (listAt s0 (Ty.dflt (.st 1)) s2.toNat) s1).bind fun y4 =>
      bif (decide (y4 < (0 : Int))) then
        k0_r y4 (-1 : Int)
      else rec0 s0 y4 (wi (s2 + (1 : Int)))
    else none
  else k0_e0 s1
def f57.s0 {R : Type} (L N : Nat) (self16 : Tree → Int → Option (Int)) (self57 : (List Tree) → Int → Option (Int)) (k0_e0 : Int → Option R) (k0_r : Int → Int → Option R) (rec0 : (List Tree) → Int → Int → Option R) (s0 : (List Tree)) (s1 : Int) (s2 : Int) : Option R :=
  f57.s0' L N self16 self57 k0_e0 k0_r rec0 s0 s1 s2
def f57.l0 {R : Type} (L N : Nat) (self16 : Tree → Int → Option (Int)) (self57 : (List Tree) → Int → Option (Int)) (k0_e0 : Int → Option R) (k0_r : Int → Int → Option R) : Nat → (List Tree) → Int → Int → Option R
  | 0, _, _, _ => none
  | n + 1, s0, s1, s2 => f57.s0 L N self16 self57 k0_e0 k0_r (f57.l0 L N self16 self57 k0_e0 k0_r n) s0 s1 s2
def f57.T0 (s0 : (List Tree)) (s1 : Int) (s2 : Int) : T := mkT 27 [(0, (.tv (.sl (.st 1)) s0)), (1, (.tv i64 s1)), (5, (.tv i64 s2))]
def f57.H0 (s0 : (List Tree)) (s1 : Int) (s2 : Int) : H := []
def f57.T0_e0 (z3 : Int) : T := mkT 27 [(1, (.tv i64 z3))]
def f57.H0_e0 (z3 : Int) : H := []
def f57.T0_r (z5 : Int) (z6 : Int) : T := mkT 27 [(1, (.tv i64 z5)), (4, (.tv i64 z6))]
def f57.H0_r (z5 : Int) (z6 : Int) : H := []
def f57.p0_e0' {R : Type} (L N : Nat) (self16 : Tree → Int → Option (Int)) (self57 : (List Tree) → Int → Option (Int)) (k : Int → Option R) (z3 : Int) : Option R :=
  k z3
def f57.p0_e0 {R : Type} (L N : Nat) (self16 : Tree → Int → Option (Int)) (self57 : (List Tree) → Int → Option (Int)) (k : Int → Option R) (z3 : Int) : Option R :=
  f57.p0_e0' L N self16 self57 k z3
def f57.p0_r' {R : Type} (L N : Nat) (self16 : Tree → Int → Option (Int)) (self57 : (List Tree) → Int → Option (Int)) (k : Int → Option R) (z5 : Int) (z6 : Int) : Option R :=
  k z6
def f57.p0_r {R : Type} (L N : Nat) (self16 : Tree → Int → Option (Int)) (self57 : (List Tree) → Int → Option (Int)) (k : Int → Option R) (z5 : Int) (z6 : Int) : Option R :=
  f57.p0_r' L N self16 self57 k z5 z6
def f57.b' {R : Type} (L N : Nat) (self16 : Tree → Int → Option (Int)) (self57 : (List Tree) → Int → Option (Int)) (k : Int → Option R) (w0 : (List Tree) → Int → Int → Option R) (x0 : (List Tree)) (x1 : Int) : Option R :=
  bif (decide ((wi (x1 - (x0.length : Int))) < (0 : Int))) then
    k (-1 : Int)
  else w0 x0 (wi (x1 - (x0.length : Int))) (0 : Int)
def f57.b {R : Type} (L N : Nat) (self16 : Tree → Int → Option (Int)) (self57 : (List Tree) → Int → Option (Int)) (k : Int → Option R) (x0 : (List Tree)) (x1 : Int) : Option R :=
  f57.b' L N self16 self57 k (fun s0 s1 s2 => f57.l0 L N self16 self57 (fun z3 => f57.p0_e0 L N self16 self57 k z3) (fun z5 z6 => f57.p0_r L N self16 self57 k z5 z6) L s0 s1 s2) x0 x1
mutual
def f16 (L N : Nat) : Nat → Tree → Int → Option (Int)
  | 0, _, _ => none
  | n + 1, x0, x1 => f16.b L N (f16 L N n) (f57 L N n) some x0 x1
def f57 (L N : Nat) : Nat → (List Tree) → Int → Option (Int)
  | 0, _, _ => none
  | n + 1, x0, x1 => f57.b L N (f16 L N n) (f57 L N n) some x0 x1
end
def f16.ent (L N m : Nat) (args : List AV) (vw : View) (site : Nat) : Ans := match roD [(.st 1), i64] vw args with
  | some d => ⟨Int, f16 L N m d.1 d.2.1, fun y => ((.tv i64 y), [], [])⟩
  | none => Ans.no
def f57.ent (L N m : Nat) (args : List AV) (vw : View) (site : Nat) : Ans := match roD [(.sl (.st 1)), i64] vw args with
  | some d => ⟨Int, f57 L N m d.1 d.2.1, fun y => ((.tv i64 y), [], [])⟩
  | none => Ans.no
def Φ16s (L N m : Nat) : Tells := (addT (addT (Φ15 L N) 16 (f16.ent L N m)) 57 (f57.ent L N m))
noncomputable def E16 (L N m : Nat) : Env := { P := Try.prog, ty := tyOf, Φ := Φ16s L N m, inl := inlT, live := lives, liveX := livesX, L := L, dp := none, prom := promT, heal := healT, ren := renT }
theorem f16.b_pre {R : Type} (L N m : Nat) (κ : AV → Option R) (x0 : Tree) (x1 : Int) :
    evBody (E16 L N m) (evCallI (E16 L N m) 1 2000) 1000 16 Try.f16 [(.tv (.st 1) x0), (.tv i64 x1)] [] [] (finC (.one i64) κ)
    = f16.b' L N (f16 L N m) (f57 L N m) (fun a0 => κ (.tv i64 a0)) x0 x1 := by kernel_rfl
theorem f16.b_eq {R : Type} (L N m : Nat) (κ : AV → Option R) (x0 : Tree) (x1 : Int) :
    evBody (E16 L N m) (evCallI (E16 L N m) 1 2000) 1000 16 Try.f16 [(.tv (.st 1) x0), (.tv i64 x1)] [] [] (finC (.one i64) κ)
    = f16.b L N (f16 L N m) (f57 L N m) (fun a0 => κ (.tv i64 a0)) x0 x1 := by
  rw [f16.b_pre]
  unfold f16.b
  rfl
noncomputable def f57.c0 : Code := loopAt 0 (codeOf Try.f57)
theorem f57.s0_pre {R : Type} (L N m : Nat) (κ : Ex → T → H → Option R) (rec : T → H → Option R) (s0 : (List Tree)) (s1 : Int) (s2 : Int) :
    evRd (E16 L N m) (evCallI (E16 L N m) 1 2000) 1000 57 27 0 f57.c0 κ rec (f57.T0 s0 s1 s2) (f57.H0 s0 s1 s2)
    = f57.s0' L N (f16 L N m) (f57 L N m) (fun z3 => κ (.exit 0) (f57.T0_e0 z3) (f57.H0_e0 z3)) (fun z5 z6 => κ .ret (f57.T0_r z5 z6) (f57.H0_r z5 z6)) (fun s0 s1 s2 => rec (f57.T0 s0 s1 s2) (f57.H0 s0 s1 s2)) s0 s1 s2 := by kernel_rfl
theorem f57.s0_eq {R : Type} (L N m : Nat) (κ : Ex → T → H → Option R) (rec : T → H → Option R) (s0 : (List Tree)) (s1 : Int) (s2 : Int) :
    evRd (E16 L N m) (evCallI (E16 L N m) 1 2000) 1000 57 27 0 f57.c0 κ rec (f57.T0 s0 s1 s2) (f57.H0 s0 s1 s2)
    = f57.s0 L N (f16 L N m) (f57 L N m) (fun z3 => κ (.exit 0) (f57.T0_e0 z3) (f57.H0_e0 z3)) (fun z5 z6 => κ .ret (f57.T0_r z5 z6) (f57.H0_r z5 z6)) (fun s0 s1 s2 => rec (f57.T0 s0 s1 s2) (f57.H0 s0 s1 s2)) s0 s1 s2 := by
  rw [f57.s0_pre]
  unfold f57.s0
  rfl
theorem f57.l0_eq {R : Type} (L N m : Nat) (κ : Ex → T → H → Option R) : ∀ (n : Nat) (s0 : (List Tree)) (s1 : Int) (s2 : Int),
    evLp (E16 L N m) (evCallI (E16 L N m) 1 2000) 1000 57 27 0 f57.c0 κ n (f57.T0 s0 s1 s2) (f57.H0 s0 s1 s2)
    = f57.l0 L N (f16 L N m) (f57 L N m) (fun z3 => κ (.exit 0) (f57.T0_e0 z3) (f57.H0_e0 z3)) (fun z5 z6 => κ .ret (f57.T0_r z5 z6) (f57.H0_r z5 z6)) n s0 s1 s2 := by
  intro n
  induction n with
  | zero => intros; rfl
  | succ n ih =>
    intro s0 s1 s2
    rw [evLp_succ, f57.s0_eq]
    simp only [ih]
    rfl
theorem f57.p0_e0_pre {R : Type} (L N m : Nat) (κ : AV → Option R) (z3 : Int) :
    (contAt (E16 L N m) (evCallI (E16 L N m) 1 2000) 1000 57 27 0 (codeOf Try.f57) (finK (E16 L N m) 1000 Try.f57 (finC (.one i64) κ))) (.exit 0) (f57.T0_e0 z3) (f57.H0_e0 z3)
    = f57.p0_e0' L N (f16 L N m) (f57 L N m) (fun a0 => κ (.tv i64 a0)) z3 := by kernel_rfl
theorem f57.p0_e0_eq {R : Type} (L N m : Nat) (κ : AV → Option R) (z3 : Int) :
    (contAt (E16 L N m) (evCallI (E16 L N m) 1 2000) 1000 57 27 0 (codeOf Try.f57) (finK (E16 L N m) 1000 Try.f57 (finC (.one i64) κ))) (.exit 0) (f57.T0_e0 z3) (f57.H0_e0 z3)
    = f57.p0_e0 L N (f16 L N m) (f57 L N m) (fun a0 => κ (.tv i64 a0)) z3 := by
  rw [f57.p0_e0_pre]
  unfold f57.p0_e0
  rfl
theorem f57.p0_r_pre {R : Type} (L N m : Nat) (κ : AV → Option R) (z5 : Int) (z6 : Int) :
    (contAt (E16 L N m) (evCallI (E16 L N m) 1 2000) 1000 57 27 0 (codeOf Try.f57) (finK (E16 L N m) 1000 Try.f57 (finC (.one i64) κ))) .ret (f57.T0_r z5 z6) (f57.H0_r z5 z6)
    = f57.p0_r' L N (f16 L N m) (f57 L N m) (fun a0 => κ (.tv i64 a0)) z5 z6 := by kernel_rfl
theorem f57.p0_r_eq {R : Type} (L N m : Nat) (κ : AV → Option R) (z5 : Int) (z6 : Int) :
    (contAt (E16 L N m) (evCallI (E16 L N m) 1 2000) 1000 57 27 0 (codeOf Try.f57) (finK (E16 L N m) 1000 Try.f57 (finC (.one i64) κ))) .ret (f57.T0_r z5 z6) (f57.H0_r z5 z6)
    = f57.p0_r L N (f16 L N m) (f57 L N m) (fun a0 => κ (.tv i64 a0)) z5 z6 := by
  rw [f57.p0_r_pre]
  unfold f57.p0_r
  rfl
theorem f57.b_pre {R : Type} (L N m : Nat) (κ : AV → Option R) (x0 : (List Tree)) (x1 : Int) :
    evBody (E16 L N m) (evCallI (E16 L N m) 1 2000) 1000 57 Try.f57 [(.tv (.sl (.st 1)) x0), (.tv i64 x1)] [] [] (finC (.one i64) κ)
    = f57.b' L N (f16 L N m) (f57 L N m) (fun a0 => κ (.tv i64 a0)) (fun s0 s1 s2 => evLp (E16 L N m) (evCallI (E16 L N m) 1 2000) 1000 57 27 0 f57.c0 (contAt (E16 L N m) (evCallI (E16 L N m) 1 2000) 1000 57 27 0 (codeOf Try.f57) (finK (E16 L N m) 1000 Try.f57 (finC (.one i64) κ))) L (f57.T0 s0 s1 s2) (f57.H0 s0 s1 s2)) x0 x1 := by kernel_rfl
theorem f57.b_eq {R : Type} (L N m : Nat) (κ : AV → Option R) (x0 : (List Tree)) (x1 : Int) :
    evBody (E16 L N m) (evCallI (E16 L N m) 1 2000) 1000 57 Try.f57 [(.tv (.sl (.st 1)) x0), (.tv i64 x1)] [] [] (finC (.one i64) κ)
    = f57.b L N (f16 L N m) (f57 L N m) (fun a0 => κ (.tv i64 a0)) x0 x1 := by
  rw [f57.b_pre]
  unfold f57.b
  simp only [f57.l0_eq, f57.p0_e0_eq, f57.p0_r_eq]
theorem f16.b'_nat {R R' : Type} (j : R → Option R') (L N : Nat) (self16 : Tree → Int → Option (Int)) (self57 : (List Tree) → Int → Option (Int)) (k : Int → Option R) (x0 : Tree) (x1 : Int) :
    f16.b' L N self16 self57 (fun a0 => (k a0).bind j) x0 x1 = (f16.b' L N self16 self57 k x0 x1).bind j := by
  unfold f16.b'
  repeat' (first | (with_reducible refine cond_nat ?_ ?_) | (with_reducible refine bind_nat fun _ => ?_) | rfl)
theorem f16.b_nat {R R' : Type} (j : R → Option R') (L N : Nat) (self16 : Tree → Int → Option (Int)) (self57 : (List Tree) → Int → Option (Int)) (k : Int → Option R) (x0 : Tree) (x1 : Int) :
    f16.b L N self16 self57 (fun a0 => (k a0).bind j) x0 x1 = (f16.b L N self16 self57 k x0 x1).bind j := by
  unfold f16.b
  exact f16.b'_nat ..
theorem f57.s0'_nat {R R' : Type} (j : R → Option R') (L N : Nat) (self16 : Tree → Int → Option (Int)) (self57 : (List Tree) → Int → Option (Int)) (k0_e0 : Int → Option R) (k0_r : Int → Int → Option R) (rec0 : (List Tree) → Int → Int → Option R) (s0 : (List Tree)) (s1 : Int) (s2 : Int) :
    f57.s0' L N self16 self57 (fun a0 => (k0_e0 a0).bind j) (fun a0 a1 => (k0_r a0 a1).bind j) (fun a0 a1 a2 => (rec0 a0 a1 a2).bind j) s0 s1 s2 = (f57.s0' L N self16 self57 k0_e0 k0_r rec0 s0 s1 s2).bind j := by
  unfold f57.s0'
  repeat' (first | (with_reducible refine cond_nat ?_ ?_) | (with_reducible refine bind_nat fun _ => ?_) | rfl)
theorem f57.s0_nat {R R' : Type} (j : R → Option R') (L N : Nat) (self16 : Tree → Int → Option (Int)) (self57 : (List Tree) → Int → Option (Int)) (k0_e0 : Int → Option R) (k0_r : Int → Int → Option R) (rec0 : (List Tree) → Int → Int → Option R) (s0 : (List Tree)) (s1 : Int) (s2 : Int) :
    f57.s0 L N self16 self57 (fun a0 => (k0_e0 a0).bind j) (fun a0 a1 => (k0_r a0 a1).bind j) (fun a0 a1 a2 => (rec0 a0 a1 a2).bind j) s0 s1 s2 = (f57.s0 L N self16 self57 k0_e0 k0_r rec0 s0 s1 s2).bind j := by
  unfold f57.s0
  exact f57.s0'_nat ..
theorem f57.l0_nat {R R' : Type} (j : R → Option R') (L N : Nat) (self16 : Tree → Int → Option (Int)) (self57 : (List Tree) → Int → Option (Int)) (k0_e0 : Int → Option R) (k0_r : Int → Int → Option R) : ∀ (n : Nat) (s0 : (List Tree)) (s1 : Int) (s2 : Int),
    f57.l0 L N self16 self57 (fun a0 => (k0_e0 a0).bind j) (fun a0 a1 => (k0_r a0 a1).bind j) n s0 s1 s2 = (f57.l0 L N self16 self57 k0_e0 k0_r n s0 s1 s2).bind j := by
  intro n
  induction n with
  | zero => intros; rfl
  | succ n ih =>
    intro s0 s1 s2
    show f57.s0 L N self16 self57 (fun a0 => (k0_e0 a0).bind j) (fun a0 a1 => (k0_r a0 a1).bind j) (f57.l0 L N self16 self57 (fun a0 => (k0_e0 a0).bind j) (fun a0 a1 => (k0_r a0 a1).bind j) n) s0 s1 s2 = _
    rw [show f57.l0 L N self16 self57 (fun a0 => (k0_e0 a0).bind j) (fun a0 a1 => (k0_r a0 a1).bind j) n = (fun s0 s1 s2 => (f57.l0 L N self16 self57 k0_e0 k0_r n s0 s1 s2).bind j) from funext fun s0 => funext fun s1 => funext fun s2 => ih s0 s1 s2]
    exact f57.s0_nat ..
theorem f57.p0_e0'_nat {R R' : Type} (j : R → Option R') (L N : Nat) (self16 : Tree → Int → Option (Int)) (self57 : (List Tree) → Int → Option (Int)) (k : Int → Option R) (z3 : Int) :
    f57.p0_e0' L N self16 self57 (fun a0 => (k a0).bind j) z3 = (f57.p0_e0' L N self16 self57 k z3).bind j := by
  unfold f57.p0_e0'
  repeat' (first | (with_reducible refine cond_nat ?_ ?_) | (with_reducible refine bind_nat fun _ => ?_) | rfl)
theorem f57.p0_e0_nat {R R' : Type} (j : R → Option R') (L N : Nat) (self16 : Tree → Int → Option (Int)) (self57 : (List Tree) → Int → Option (Int)) (k : Int → Option R) (z3 : Int) :
    f57.p0_e0 L N self16 self57 (fun a0 => (k a0).bind j) z3 = (f57.p0_e0 L N self16 self57 k z3).bind j := by
  unfold f57.p0_e0
  exact f57.p0_e0'_nat ..
theorem f57.p0_r'_nat {R R' : Type} (j : R → Option R') (L N : Nat) (self16 : Tree → Int → Option (Int)) (self57 : (List Tree) → Int → Option (Int)) (k : Int → Option R) (z5 : Int) (z6 : Int) :
    f57.p0_r' L N self16 self57 (fun a0 => (k a0).bind j) z5 z6 = (f57.p0_r' L N self16 self57 k z5 z6).bind j := by
  unfold f57.p0_r'
  repeat' (first | (with_reducible refine cond_nat ?_ ?_) | (with_reducible refine bind_nat fun _ => ?_) | rfl)
theorem f57.p0_r_nat {R R' : Type} (j : R → Option R') (L N : Nat) (self16 : Tree → Int → Option (Int)) (self57 : (List Tree) → Int → Option (Int)) (k : Int → Option R) (z5 : Int) (z6 : Int) :
    f57.p0_r L N self16 self57 (fun a0 => (k a0).bind j) z5 z6 = (f57.p0_r L N self16 self57 k z5 z6).bind j := by
  unfold f57.p0_r
  exact f57.p0_r'_nat ..
theorem f57.b'_nat {R R' : Type} (j : R → Option R') (L N : Nat) (self16 : Tree → Int → Option (Int)) (self57 : (List Tree) → Int → Option (Int)) (k : Int → Option R) (w0 : (List Tree) → Int → Int → Option R) (x0 : (List Tree)) (x1 : Int) :
    f57.b' L N self16 self57 (fun a0 => (k a0).bind j) (fun a0 a1 a2 => (w0 a0 a1 a2).bind j) x0 x1 = (f57.b' L N self16 self57 k w0 x0 x1).bind j := by
  unfold f57.b'
  repeat' (first | (with_reducible refine cond_nat ?_ ?_) | (with_reducible refine bind_nat fun _ => ?_) | rfl)
theorem f57.b_nat {R R' : Type} (j : R → Option R') (L N : Nat) (self16 : Tree → Int → Option (Int)) (self57 : (List Tree) → Int → Option (Int)) (k : Int → Option R) (x0 : (List Tree)) (x1 : Int) :
    f57.b L N self16 self57 (fun a0 => (k a0).bind j) x0 x1 = (f57.b L N self16 self57 k x0 x1).bind j := by
  unfold f57.b
  simp only [f57.l0_nat, f57.p0_e0_nat, f57.p0_r_nat]
  exact f57.b'_nat ..
theorem f16.ok (L N m : Nat) (hΦ : TellsOk Try.prog (Φ16s L N m)) : EntOk Try.prog 16 (f16.ent L N (m + 1)) := by
  intro args vw site h
  unfold f16.ent
  split
  · rename_i d ha
    intro y hy hs
    refine call_ro (dep := 1000) (E := (E16 L N m)) (rs := (.one i64)) (v := (.tv i64 y)) (sound_of hΦ) okP (callI_sound (sound_of hΦ) okP 1 2000) (f := Try.f16) rfl hs ha ?_ rfl site
    refine (f16.b_eq L N m some d.1 d.2.1).trans ?_
    refine ((f16.b_nat (fun y => (some (.tv i64 y) : Option AV)) L N (f16 L N m) (f57 L N m) some d.1 d.2.1)).trans ?_
    rw [show f16.b L N (f16 L N m) (f57 L N m) some d.1 d.2.1 = some y from hy]
    rfl
  · intro y hy
    cases hy
theorem f57.ok (L N m : Nat) (hΦ : TellsOk Try.prog (Φ16s L N m)) : EntOk Try.prog 57 (f57.ent L N (m + 1)) := by
  intro args vw site h
  unfold f57.ent
  split
  · rename_i d ha
    intro y hy hs
    refine call_ro (dep := 1000) (E := (E16 L N m)) (rs := (.one i64)) (v := (.tv i64 y)) (sound_of hΦ) okP (callI_sound (sound_of hΦ) okP 1 2000) (f := Try.f57) rfl hs ha ?_ rfl site
    refine (f57.b_eq L N m some d.1 d.2.1).trans ?_
    refine ((f57.b_nat (fun y => (some (.tv i64 y) : Option AV)) L N (f16 L N m) (f57 L N m) some d.1 d.2.1)).trans ?_
    rw [show f57.b L N (f16 L N m) (f57 L N m) some d.1 d.2.1 = some y from hy]
    rfl
  · intro y hy
    cases hy
theorem Φ16s_ok (L N : Nat) : ∀ m, TellsOk Try.prog (Φ16s L N m) := by
  intro m
  induction m with
  | zero => exact (addT_ok (addT_ok (Φ15_ok L N) (fun args vw site h => by unfold f16.ent; split <;> (intro y hy; cases hy))) (fun args vw site h => by unfold f57.ent; split <;> (intro y hy; cases hy)))
  | succ m ih => exact (addT_ok (addT_ok (Φ15_ok L N) (f16.ok L N m ih)) (f57.ok L N m ih))
def Φ16 (L N : Nat) : Tells := (addT (addT (Φ15 L N) 16 (f16.ent L N N)) 57 (f57.ent L N N))
theorem Φ16_ok (L N : Nat) : TellsOk Try.prog (Φ16 L N) := Φ16s_ok L N N
def f96.b' {R : Type} (L N : Nat) (k : Bool → Option R) (x0 : Int) (x1 : Int) (x2 : Int) : Option R :=
  bif (decide (x0 ≥ x1)) then
    k (decide (x0 ≤ x2))
  else k false
def f96.b {R : Type} (L N : Nat) (k : Bool → Option R) (x0 : Int) (x1 : Int) (x2 : Int) : Option R :=
  f96.b' L N k x0 x1 x2
def f96 (L N : Nat) (x0 : Int) (x1 : Int) (x2 : Int) : Option (Bool) := f96.b L N some x0 x1 x2
def f96.ent (L N : Nat) (args : List AV) (vw : View) (site : Nat) : Ans := match roD [i64, i64, i64] vw args with
  | some d => ⟨Bool, f96 L N d.1 d.2.1 d.2.2.1, fun y => ((.tv .bool y), [], [])⟩
  | none => Ans.no
noncomputable def E96 (L N : Nat) : Env := { P := Try.prog, ty := tyOf, Φ := (Φ16 L N), inl := inlT, live := lives, liveX := livesX, L := L, dp := none, prom := promT, heal := healT, ren := renT }
theorem f96.b_pre {R : Type} (L N : Nat) (κ : AV → Option R) (x0 : Int) (x1 : Int) (x2 : Int) :
    evBody (E96 L N) (evCallI (E96 L N) 1 2000) 1000 96 Try.f96 [(.tv i64 x0), (.tv i64 x1), (.tv i64 x2)] [] [] (finC (.one .bool) κ)
    = f96.b' L N (fun a0 => κ (.tv .bool a0)) x0 x1 x2 := by kernel_rfl
theorem f96.b_eq {R : Type} (L N : Nat) (κ : AV → Option R) (x0 : Int) (x1 : Int) (x2 : Int) :
    evBody (E96 L N) (evCallI (E96 L N) 1 2000) 1000 96 Try.f96 [(.tv i64 x0), (.tv i64 x1), (.tv i64 x2)] [] [] (finC (.one .bool) κ)
    = f96.b L N (fun a0 => κ (.tv .bool a0)) x0 x1 x2 := by
  rw [f96.b_pre]
  unfold f96.b
  rfl
theorem f96.b'_nat {R R' : Type} (j : R → Option R') (L N : Nat) (k : Bool → Option R) (x0 : Int) (x1 : Int) (x2 : Int) :
    f96.b' L N (fun a0 => (k a0).bind j) x0 x1 x2 = (f96.b' L N k x0 x1 x2).bind j := by
  unfold f96.b'
  repeat' (first | (with_reducible refine cond_nat ?_ ?_) | (with_reducible refine bind_nat fun _ => ?_) | rfl)
theorem f96.b_nat {R R' : Type} (j : R → Option R') (L N : Nat) (k : Bool → Option R) (x0 : Int) (x1 : Int) (x2 : Int) :
    f96.b L N (fun a0 => (k a0).bind j) x0 x1 x2 = (f96.b L N k x0 x1 x2).bind j := by
  unfold f96.b
  exact f96.b'_nat ..
theorem f96.ok (L N : Nat) (hΦ : TellsOk Try.prog ((Φ16 L N))) : EntOk Try.prog 96 (f96.ent L N) := by
  intro args vw site h
  unfold f96.ent
  split
  · rename_i d ha
    intro y hy hs
    refine call_ro (dep := 1000) (E := (E96 L N)) (rs := (.one .bool)) (v := (.tv .bool y)) (sound_of hΦ) okP (callI_sound (sound_of hΦ) okP 1 2000) (f := Try.f96) rfl hs ha ?_ rfl site
    refine (f96.b_eq L N some d.1 d.2.1 d.2.2.1).trans ?_
    refine ((f96.b_nat (fun y => (some (.tv .bool y) : Option AV)) L N some d.1 d.2.1 d.2.2.1)).trans ?_
    rw [show f96.b L N some d.1 d.2.1 d.2.2.1 = some y from hy]
    rfl
  · intro y hy
    cases hy
def Φ96 (L N : Nat) : Tells := (addT (Φ16 L N) 96 (f96.ent L N))
theorem Φ96_ok (L N : Nat) : TellsOk Try.prog (Φ96 L N) := addT_ok (Φ16_ok L N) (f96.ok L N (Φ16_ok L N))
def f97.b' {R : Type} (L N : Nat) (k : Bool → Option R) (x0 : Int) : Option R :=
  (f96 L N x0 (-4 : Int) (4 : Int)).bind fun y0 =>
  k y0
def f97.b {R : Type} (L N : Nat) (k : Bool → Option R) (x0 : Int) : Option R :=
  f97.b' L N k x0
def f97 (L N : Nat) (x0 : Int) : Option (Bool) := f97.b L N some x0
def f97.ent (L N : Nat) (args : List AV) (vw : View) (site : Nat) : Ans := match roD [i64] vw args with
  | some d => ⟨Bool, f97 L N d.1, fun y => ((.tv .bool y), [], [])⟩
  | none => Ans.no
noncomputable def E97 (L N : Nat) : Env := { P := Try.prog, ty := tyOf, Φ := (Φ96 L N), inl := inlT, live := lives, liveX := livesX, L := L, dp := none, prom := promT, heal := healT, ren := renT }
theorem f97.b_pre {R : Type} (L N : Nat) (κ : AV → Option R) (x0 : Int) :
    evBody (E97 L N) (evCallI (E97 L N) 1 2000) 1000 97 Try.f97 [(.tv i64 x0)] [] [] (finC (.one .bool) κ)
    = f97.b' L N (fun a0 => κ (.tv .bool a0)) x0 := by kernel_rfl
theorem f97.b_eq {R : Type} (L N : Nat) (κ : AV → Option R) (x0 : Int) :
    evBody (E97 L N) (evCallI (E97 L N) 1 2000) 1000 97 Try.f97 [(.tv i64 x0)] [] [] (finC (.one .bool) κ)
    = f97.b L N (fun a0 => κ (.tv .bool a0)) x0 := by
  rw [f97.b_pre]
  unfold f97.b
  rfl
theorem f97.b'_nat {R R' : Type} (j : R → Option R') (L N : Nat) (k : Bool → Option R) (x0 : Int) :
    f97.b' L N (fun a0 => (k a0).bind j) x0 = (f97.b' L N k x0).bind j := by
  unfold f97.b'
  repeat' (first | (with_reducible refine cond_nat ?_ ?_) | (with_reducible refine bind_nat fun _ => ?_) | rfl)
theorem f97.b_nat {R R' : Type} (j : R → Option R') (L N : Nat) (k : Bool → Option R) (x0 : Int) :
    f97.b L N (fun a0 => (k a0).bind j) x0 = (f97.b L N k x0).bind j := by
  unfold f97.b
  exact f97.b'_nat ..
theorem f97.ok (L N : Nat) (hΦ : TellsOk Try.prog ((Φ96 L N))) : EntOk Try.prog 97 (f97.ent L N) := by
  intro args vw site h
  unfold f97.ent
  split
  · rename_i d ha
    intro y hy hs
    refine call_ro (dep := 1000) (E := (E97 L N)) (rs := (.one .bool)) (v := (.tv .bool y)) (sound_of hΦ) okP (callI_sound (sound_of hΦ) okP 1 2000) (f := Try.f97) rfl hs ha ?_ rfl site
    refine (f97.b_eq L N some d.1).trans ?_
    refine ((f97.b_nat (fun y => (some (.tv .bool y) : Option AV)) L N some d.1)).trans ?_
    rw [show f97.b L N some d.1 = some y from hy]
    rfl
  · intro y hy
    cases hy
def Φ97 (L N : Nat) : Tells := (addT (Φ96 L N) 97 (f97.ent L N))
theorem Φ97_ok (L N : Nat) : TellsOk Try.prog (Φ97 L N) := addT_ok (Φ96_ok L N) (f97.ok L N (Φ96_ok L N))
def f98.b' {R : Type} (L N : Nat) (k : Bool → Option R) (x0 : Move) (x1 : Move) : Option R :=
  bif (decide (x0.act < x1.act)) then
    k true
  else bif (x0.act == x1.act) then
    k (decide (x0.to < x1.to))
  else k false
def f98.b {R : Type} (L N : Nat) (k : Bool → Option R) (x0 : Move) (x1 : Move) : Option R :=
  f98.b' L N k x0 x1
def f98 (L N : Nat) (x0 : Move) (x1 : Move) : Option (Bool) := f98.b L N some x0 x1
def f98.ent (L N : Nat) (args : List AV) (vw : View) (site : Nat) : Ans := match roD [(.st 0), (.st 0)] vw args with
  | some d => ⟨Bool, f98 L N d.1 d.2.1, fun y => ((.tv .bool y), [], [])⟩
  | none => Ans.no
noncomputable def E98 (L N : Nat) : Env := { P := Try.prog, ty := tyOf, Φ := (Φ97 L N), inl := inlT, live := lives, liveX := livesX, L := L, dp := none, prom := promT, heal := healT, ren := renT }
theorem f98.b_pre {R : Type} (L N : Nat) (κ : AV → Option R) (x0 : Move) (x1 : Move) :
    evBody (E98 L N) (evCallI (E98 L N) 1 2000) 1000 98 Try.f98 [(.tv (.st 0) x0), (.tv (.st 0) x1)] [] [] (finC (.one .bool) κ)
    = f98.b' L N (fun a0 => κ (.tv .bool a0)) x0 x1 := by kernel_rfl
theorem f98.b_eq {R : Type} (L N : Nat) (κ : AV → Option R) (x0 : Move) (x1 : Move) :
    evBody (E98 L N) (evCallI (E98 L N) 1 2000) 1000 98 Try.f98 [(.tv (.st 0) x0), (.tv (.st 0) x1)] [] [] (finC (.one .bool) κ)
    = f98.b L N (fun a0 => κ (.tv .bool a0)) x0 x1 := by
  rw [f98.b_pre]
  unfold f98.b
  rfl
theorem f98.b'_nat {R R' : Type} (j : R → Option R') (L N : Nat) (k : Bool → Option R) (x0 : Move) (x1 : Move) :
    f98.b' L N (fun a0 => (k a0).bind j) x0 x1 = (f98.b' L N k x0 x1).bind j := by
  unfold f98.b'
  repeat' (first | (with_reducible refine cond_nat ?_ ?_) | (with_reducible refine bind_nat fun _ => ?_) | rfl)
theorem f98.b_nat {R R' : Type} (j : R → Option R') (L N : Nat) (k : Bool → Option R) (x0 : Move) (x1 : Move) :
    f98.b L N (fun a0 => (k a0).bind j) x0 x1 = (f98.b L N k x0 x1).bind j := by
  unfold f98.b
  exact f98.b'_nat ..
theorem f98.ok (L N : Nat) (hΦ : TellsOk Try.prog ((Φ97 L N))) : EntOk Try.prog 98 (f98.ent L N) := by
  intro args vw site h
  unfold f98.ent
  split
  · rename_i d ha
    intro y hy hs
    refine call_ro (dep := 1000) (E := (E98 L N)) (rs := (.one .bool)) (v := (.tv .bool y)) (sound_of hΦ) okP (callI_sound (sound_of hΦ) okP 1 2000) (f := Try.f98) rfl hs ha ?_ rfl site
    refine (f98.b_eq L N some d.1 d.2.1).trans ?_
    refine ((f98.b_nat (fun y => (some (.tv .bool y) : Option AV)) L N some d.1 d.2.1)).trans ?_
    rw [show f98.b L N some d.1 d.2.1 = some y from hy]
    rfl
  · intro y hy
    cases hy
def Φ98 (L N : Nat) : Tells := (addT (Φ97 L N) 98 (f98.ent L N))
theorem Φ98_ok (L N : Nat) : TellsOk Try.prog (Φ98 L N) := addT_ok (Φ97_ok L N) (f98.ok L N (Φ97_ok L N))
def f58.s1' {R : Type} (L N : Nat) (k1_e2 : Int → (List (List Move)) → Option R) (k1_r : Bool → Int → (List (List Move)) → Option R) (rec1 : Int → Int → (List (List Move)) → Option R) (s3 : Int) (s4 : Int) (s5 : (List (List Move))) : Option R :=
  bif (decide (0 ≤ s3) && decide (s3 < (s5.length : Int))) then
    bif (decide (s4 < ((listAt s5 [] s3.toNat).length : Int))) then
      bif (decide (0 ≤ s3) && decide (s3 < (s5.length : Int))) then
        bif (decide (0 ≤ s4) && decide (s4 < ((listAt s5 [] s3.toNat).length : Int))) then
          (f97 L N ((listAt (listAt s5 [] s3.toNat) (Ty.dflt (.st 0)) s4.toNat).act)).bind fun y8 =>
          bif (!y8) then
            k1_r false s3 s5
          else (f96 L N ((listAt (listAt s5 [] s3.toNat) (Ty.dflt (.st 0)) s4.toNat).to) (0 : Int) (wi ((s5.length : Int) - (1 : Int)))).bind fun y9 =>
          bif (!y9) then
            k1_r false s3 s5
          else bif (decide (s4 > (0 : Int))) then
            bif (decide (0 ≤ s3) && decide (s3 < (s5.length : Int))) then
              bif (decide (0 ≤ (wi (s4 - (1 : Int)))) && decide ((wi (s4 - (1 : Int))) < ((listAt s5 [] s3.toNat).length : Int))) then
                (f98 L N (listAt (listAt s5 [] s3.toNat) (Ty.dflt (.st 0)) (wi (s4 - (1 : Int))).toNat) (Move.mk ((listAt (listAt s5 [] s3.toNat) (Ty.dflt (.st 0)) s4.toNat).act) ((listAt (listAt s5 [] s3.toNat) (Ty.dflt (.st 0)) s4.toNat).to))).bind fun y10 =>
                bif (!y10) then
                  k1_r false s3 s5
                else rec1 s3 (wi (s4 + (1 : Int))) s5
              else none
            else none
          else rec1 s3 (wi (s4 + (1 : Int))) s5
        else none
      else none
    else k1_e2 s3 s5
  else none
def f58.s1 {R : Type} (L N : Nat) (k1_e2 : Int → (List (List Move)) → Option R) (k1_r : Bool → Int → (List (List Move)) → Option R) (rec1 : Int → Int → (List (List Move)) → Option R) (s3 : Int) (s4 : Int) (s5 : (List (List Move))) : Option R :=
  f58.s1' L N k1_e2 k1_r rec1 s3 s4 s5
def f58.l1 {R : Type} (L N : Nat) (k1_e2 : Int → (List (List Move)) → Option R) (k1_r : Bool → Int → (List (List Move)) → Option R) : Nat → Int → Int → (List (List Move)) → Option R
  | 0, _, _, _ => none
  | n + 1, s3, s4, s5 => f58.s1 L N k1_e2 k1_r (f58.l1 L N k1_e2 k1_r n) s3 s4 s5
def f58.T1 (s3 : Int) (s4 : Int) (s5 : (List (List Move))) : T := mkT 68 [(1, (.ptr 1001 0)), (3, (.tv i64 s3)), (4, (.tv i64 s4))]
def f58.H1 (s3 : Int) (s4 : Int) (s5 : (List (List Move))) : H := [(1001, (.box [(.tv (.sl (.sl (.st 0))) s5)]))]
def f58.T1_e2 (z6 : Int) (z7 : (List (List Move))) : T := mkT 68 [(1, (.ptr 1001 0)), (3, (.tv i64 z6))]
def f58.H1_e2 (z6 : Int) (z7 : (List (List Move))) : H := [(1001, (.box [(.tv (.sl (.sl (.st 0))) z7)]))]
def f58.T1_r (z15 : Bool) (z16 : Int) (z17 : (List (List Move))) : T := mkT 68 [(1, (.ptr 1001 0)), (2, (.tv .bool z15)), (3, (.tv i64 z16))]
def f58.H1_r (z15 : Bool) (z16 : Int) (z17 : (List (List Move))) : H := [(1001, (.box [(.tv (.sl (.sl (.st 0))) z17)]))]
def f58.p1_e2' {R : Type} (L N : Nat) (k0_e0 : Option R) (k0_r : Bool → Option R) (rec0 : Int → (List (List Move)) → Option R) (z6 : Int) (z7 : (List (List Move))) : Option R :=
  rec0 (wi (z6 + (1 : Int))) z7
def f58.p1_e2 {R : Type} (L N : Nat) (k0_e0 : Option R) (k0_r : Bool → Option R) (rec0 : Int → (List (List Move)) → Option R) (z6 : Int) (z7 : (List (List Move))) : Option R :=
  f58.p1_e2' L N k0_e0 k0_r rec0 z6 z7
def f58.p1_r' {R : Type} (L N : Nat) (k0_e0 : Option R) (k0_r : Bool → Option R) (rec0 : Int → (List (List Move)) → Option R) (z15 : Bool) (z16 : Int) (z17 : (List (List Move))) : Option R :=
  k0_r z15
def f58.p1_r {R : Type} (L N : Nat) (k0_e0 : Option R) (k0_r : Bool → Option R) (rec0 : Int → (List (List Move)) → Option R) (z15 : Bool) (z16 : Int) (z17 : (List (List Move))) : Option R :=
  f58.p1_r' L N k0_e0 k0_r rec0 z15 z16 z17
def f58.s0' {R : Type} (L N : Nat) (k0_e0 : Option R) (k0_r : Bool → Option R) (rec0 : Int → (List (List Move)) → Option R) (w1 : Int → Int → (List (List Move)) → Option R) (s1 : Int) (s2 : (List (List Move))) : Option R :=
  bif (decide (s1 < (s2.length : Int))) then
    w1 s1 (0 : Int) s2
  else k0_e0
def f58.s0 {R : Type} (L N : Nat) (k0_e0 : Option R) (k0_r : Bool → Option R) (rec0 : Int → (List (List Move)) → Option R) (s1 : Int) (s2 : (List (List Move))) : Option R :=
  f58.s0' L N k0_e0 k0_r rec0 (fun s3 s4 s5 => f58.l1 L N (fun z6 z7 => f58.p1_e2 L N k0_e0 k0_r rec0 z6 z7) (fun z15 z16 z17 => f58.p1_r L N k0_e0 k0_r rec0 z15 z16 z17) L s3 s4 s5) s1 s2
def f58.l0 {R : Type} (L N : Nat) (k0_e0 : Option R) (k0_r : Bool → Option R) : Nat → Int → (List (List Move)) → Option R
  | 0, _, _ => none
  | n + 1, s1, s2 => f58.s0 L N k0_e0 k0_r (f58.l0 L N k0_e0 k0_r n) s1 s2
def f58.T0 (s1 : Int) (s2 : (List (List Move))) : T := mkT 68 [(1, (.ptr 1001 0)), (3, (.tv i64 s1))]
def f58.H0 (s1 : Int) (s2 : (List (List Move))) : H := [(1001, (.box [(.tv (.sl (.sl (.st 0))) s2)]))]
def f58.T0_e0 : T := mkT 68 []
def f58.H0_e0 : H := []
def f58.T0_r (z21 : Bool) : T := mkT 68 [(2, (.tv .bool z21))]
def f58.H0_r (z21 : Bool) : H := []
def f58.p0_e0' {R : Type} (L N : Nat) (k : Bool → Option R) : Option R :=
  k true
def f58.p0_e0 {R : Type} (L N : Nat) (k : Bool → Option R) : Option R :=
  f58.p0_e0' L N k
def f58.p0_r' {R : Type} (L N : Nat) (k : Bool → Option R) (z21 : Bool) : Option R :=
  k z21
def f58.p0_r {R : Type} (L N : Nat) (k : Bool → Option R) (z21 : Bool) : Option R :=
  f58.p0_r' L N k z21
def f58.b' {R : Type} (L N : Nat) (k : Bool → Option R) (w0 : Int → (List (List Move)) → Option R) (x0 : Graph) : Option R :=
  (f96 L N (x0.moves.length : Int) (1 : Int) (60 : Int)).bind fun y0 =>
  bif (!y0) then
    k false
  else w0 (0 : Int) x0.moves
def f58.b {R : Type} (L N : Nat) (k : Bool → Option R) (x0 : Graph) : Option R :=
  f58.b' L N k (fun s1 s2 => f58.l0 L N (f58.p0_e0 L N k) (fun z21 => f58.p0_r L N k z21) L s1 s2) x0
def f58 (L N : Nat) (x0 : Graph) : Option (Bool) := f58.b L N some x0
def f58.ent (L N : Nat) (args : List AV) (vw : View) (site : Nat) : Ans := match roD [(.st 2)] vw args with
  | some d => ⟨Bool, f58 L N d.1, fun y => ((.tv .bool y), [], [])⟩
  | none => Ans.no
noncomputable def E58 (L N : Nat) : Env := { P := Try.prog, ty := tyOf, Φ := (Φ98 L N), inl := inlT, live := lives, liveX := livesX, L := L, dp := none, prom := promT, heal := healT, ren := renT }
noncomputable def f58.c0 : Code := loopAt 0 (codeOf Try.f58)
noncomputable def f58.c1 : Code := loopAt 2 f58.c0
theorem f58.s1_pre {R : Type} (L N : Nat) (κ : Ex → T → H → Option R) (rec : T → H → Option R) (s3 : Int) (s4 : Int) (s5 : (List (List Move))) :
    evRd (E58 L N) (evCallI (E58 L N) 1 2000) 1000 58 68 2 f58.c1 κ rec (f58.T1 s3 s4 s5) (f58.H1 s3 s4 s5)
    = f58.s1' L N (fun z6 z7 => κ (.exit 2) (f58.T1_e2 z6 z7) (f58.H1_e2 z6 z7)) (fun z15 z16 z17 => κ .ret (f58.T1_r z15 z16 z17) (f58.H1_r z15 z16 z17)) (fun s3 s4 s5 => rec (f58.T1 s3 s4 s5) (f58.H1 s3 s4 s5)) s3 s4 s5 := by kernel_rfl
theorem f58.s1_eq {R : Type} (L N : Nat) (κ : Ex → T → H → Option R) (rec : T → H → Option R) (s3 : Int) (s4 : Int) (s5 : (List (List Move))) :
    evRd (E58 L N) (evCallI (E58 L N) 1 2000) 1000 58 68 2 f58.c1 κ rec (f58.T1 s3 s4 s5) (f58.H1 s3 s4 s5)
    = f58.s1 L N (fun z6 z7 => κ (.exit 2) (f58.T1_e2 z6 z7) (f58.H1_e2 z6 z7)) (fun z15 z16 z17 => κ .ret (f58.T1_r z15 z16 z17) (f58.H1_r z15 z16 z17)) (fun s3 s4 s5 => rec (f58.T1 s3 s4 s5) (f58.H1 s3 s4 s5)) s3 s4 s5 := by
  rw [f58.s1_pre]
  unfold f58.s1
  rfl
theorem f58.l1_eq {R : Type} (L N : Nat) (κ : Ex → T → H → Option R) : ∀ (n : Nat) (s3 : Int) (s4 : Int) (s5 : (List (List Move))),
    evLp (E58 L N) (evCallI (E58 L N) 1 2000) 1000 58 68 2 f58.c1 κ n (f58.T1 s3 s4 s5) (f58.H1 s3 s4 s5)
    = f58.l1 L N (fun z6 z7 => κ (.exit 2) (f58.T1_e2 z6 z7) (f58.H1_e2 z6 z7)) (fun z15 z16 z17 => κ .ret (f58.T1_r z15 z16 z17) (f58.H1_r z15 z16 z17)) n s3 s4 s5 := by
  intro n
  induction n with
  | zero => intros; rfl
  | succ n ih =>
    intro s3 s4 s5
    rw [evLp_succ, f58.s1_eq]
    simp only [ih]
    rfl
theorem f58.p1_e2_pre {R : Type} (L N : Nat) (κ : Ex → T → H → Option R) (rec : T → H → Option R) (z6 : Int) (z7 : (List (List Move))) :
    (contAt (E58 L N) (evCallI (E58 L N) 1 2000) 1000 58 68 2 f58.c0 (stepK (outK (keepT 68 ((E58 L N).liveX 58 0).1) (keepH 1000 ((E58 L N).liveX 58 0).2) κ) fun t h => rec (backK 1000 68 ((E58 L N).live 58 0).1 ((E58 L N).live 58 0).2 ((E58 L N).heal 58 0) ((E58 L N).ren 58 0) t h).1 (backK 1000 68 ((E58 L N).live 58 0).1 ((E58 L N).live 58 0).2 ((E58 L N).heal 58 0) ((E58 L N).ren 58 0) t h).2)) (.exit 2) (f58.T1_e2 z6 z7) (f58.H1_e2 z6 z7)
    = f58.p1_e2' L N (κ (.exit 0) f58.T0_e0 f58.H0_e0) (fun z21 => κ .ret (f58.T0_r z21) (f58.H0_r z21)) (fun s1 s2 => rec (f58.T0 s1 s2) (f58.H0 s1 s2)) z6 z7 := by kernel_rfl
theorem f58.p1_e2_eq {R : Type} (L N : Nat) (κ : Ex → T → H → Option R) (rec : T → H → Option R) (z6 : Int) (z7 : (List (List Move))) :
    (contAt (E58 L N) (evCallI (E58 L N) 1 2000) 1000 58 68 2 f58.c0 (stepK (outK (keepT 68 ((E58 L N).liveX 58 0).1) (keepH 1000 ((E58 L N).liveX 58 0).2) κ) fun t h => rec (backK 1000 68 ((E58 L N).live 58 0).1 ((E58 L N).live 58 0).2 ((E58 L N).heal 58 0) ((E58 L N).ren 58 0) t h).1 (backK 1000 68 ((E58 L N).live 58 0).1 ((E58 L N).live 58 0).2 ((E58 L N).heal 58 0) ((E58 L N).ren 58 0) t h).2)) (.exit 2) (f58.T1_e2 z6 z7) (f58.H1_e2 z6 z7)
    = f58.p1_e2 L N (κ (.exit 0) f58.T0_e0 f58.H0_e0) (fun z21 => κ .ret (f58.T0_r z21) (f58.H0_r z21)) (fun s1 s2 => rec (f58.T0 s1 s2) (f58.H0 s1 s2)) z6 z7 := by
  rw [f58.p1_e2_pre]
  unfold f58.p1_e2
  rfl
theorem f58.p1_r_pre {R : Type} (L N : Nat) (κ : Ex → T → H → Option R) (rec : T → H → Option R) (z15 : Bool) (z16 : Int) (z17 : (List (List Move))) :
    (contAt (E58 L N) (evCallI (E58 L N) 1 2000) 1000 58 68 2 f58.c0 (stepK (outK (keepT 68 ((E58 L N).liveX 58 0).1) (keepH 1000 ((E58 L N).liveX 58 0).2) κ) fun t h => rec (backK 1000 68 ((E58 L N).live 58 0).1 ((E58 L N).live 58 0).2 ((E58 L N).heal 58 0) ((E58 L N).ren 58 0) t h).1 (backK 1000 68 ((E58 L N).live 58 0).1 ((E58 L N).live 58 0).2 ((E58 L N).heal 58 0) ((E58 L N).ren 58 0) t h).2)) .ret (f58.T1_r z15 z16 z17) (f58.H1_r z15 z16 z17)
    = f58.p1_r' L N (κ (.exit 0) f58.T0_e0 f58.H0_e0) (fun z21 => κ .ret (f58.T0_r z21) (f58.H0_r z21)) (fun s1 s2 => rec (f58.T0 s1 s2) (f58.H0 s1 s2)) z15 z16 z17 := by kernel_rfl
theorem f58.p1_r_eq {R : Type} (L N : Nat) (κ : Ex → T → H → Option R) (rec : T → H → Option R) (z15 : Bool) (z16 : Int) (z17 : (List (List Move))) :
    (contAt (E58 L N) (evCallI (E58 L N) 1 2000) 1000 58 68 2 f58.c0 (stepK (outK (keepT 68 ((E58 L N).liveX 58 0).1) (keepH 1000 ((E58 L N).liveX 58 0).2) κ) fun t h => rec (backK 1000 68 ((E58 L N).live 58 0).1 ((E58 L N).live 58 0).2 ((E58 L N).heal 58 0) ((E58 L N).ren 58 0) t h).1 (backK 1000 68 ((E58 L N).live 58 0).1 ((E58 L N).live 58 0).2 ((E58 L N).heal 58 0) ((E58 L N).ren 58 0) t h).2)) .ret (f58.T1_r z15 z16 z17) (f58.H1_r z15 z16 z17)
    = f58.p1_r L N (κ (.exit 0) f58.T0_e0 f58.H0_e0) (fun z21 => κ .ret (f58.T0_r z21) (f58.H0_r z21)) (fun s1 s2 => rec (f58.T0 s1 s2) (f58.H0 s1 s2)) z15 z16 z17 := by
  rw [f58.p1_r_pre]
  unfold f58.p1_r
  rfl
theorem f58.s0_pre {R : Type} (L N : Nat) (κ : Ex → T → H → Option R) (rec : T → H → Option R) (s1 : Int) (s2 : (List (List Move))) :
    evRd (E58 L N) (evCallI (E58 L N) 1 2000) 1000 58 68 0 f58.c0 κ rec (f58.T0 s1 s2) (f58.H0 s1 s2)
    = f58.s0' L N (κ (.exit 0) f58.T0_e0 f58.H0_e0) (fun z21 => κ .ret (f58.T0_r z21) (f58.H0_r z21)) (fun s1 s2 => rec (f58.T0 s1 s2) (f58.H0 s1 s2)) (fun s3 s4 s5 => evLp (E58 L N) (evCallI (E58 L N) 1 2000) 1000 58 68 2 f58.c1 (contAt (E58 L N) (evCallI (E58 L N) 1 2000) 1000 58 68 2 f58.c0 (stepK (outK (keepT 68 ((E58 L N).liveX 58 0).1) (keepH 1000 ((E58 L N).liveX 58 0).2) κ) fun t h => rec (backK 1000 68 ((E58 L N).live 58 0).1 ((E58 L N).live 58 0).2 ((E58 L N).heal 58 0) ((E58 L N).ren 58 0) t h).1 (backK 1000 68 ((E58 L N).live 58 0).1 ((E58 L N).live 58 0).2 ((E58 L N).heal 58 0) ((E58 L N).ren 58 0) t h).2)) L (f58.T1 s3 s4 s5) (f58.H1 s3 s4 s5)) s1 s2 := by kernel_rfl
theorem f58.s0_eq {R : Type} (L N : Nat) (κ : Ex → T → H → Option R) (rec : T → H → Option R) (s1 : Int) (s2 : (List (List Move))) :
    evRd (E58 L N) (evCallI (E58 L N) 1 2000) 1000 58 68 0 f58.c0 κ rec (f58.T0 s1 s2) (f58.H0 s1 s2)
    = f58.s0 L N (κ (.exit 0) f58.T0_e0 f58.H0_e0) (fun z21 => κ .ret (f58.T0_r z21) (f58.H0_r z21)) (fun s1 s2 => rec (f58.T0 s1 s2) (f58.H0 s1 s2)) s1 s2 := by
  rw [f58.s0_pre]
  unfold f58.s0
  simp only [f58.l1_eq, f58.p1_e2_eq, f58.p1_r_eq]
theorem f58.l0_eq {R : Type} (L N : Nat) (κ : Ex → T → H → Option R) : ∀ (n : Nat) (s1 : Int) (s2 : (List (List Move))),
    evLp (E58 L N) (evCallI (E58 L N) 1 2000) 1000 58 68 0 f58.c0 κ n (f58.T0 s1 s2) (f58.H0 s1 s2)
    = f58.l0 L N (κ (.exit 0) f58.T0_e0 f58.H0_e0) (fun z21 => κ .ret (f58.T0_r z21) (f58.H0_r z21)) n s1 s2 := by
  intro n
  induction n with
  | zero => intros; rfl
  | succ n ih =>
    intro s1 s2
    rw [evLp_succ, f58.s0_eq]
    simp only [ih]
    rfl
theorem f58.p0_e0_pre {R : Type} (L N : Nat) (κ : AV → Option R) :
    (contAt (E58 L N) (evCallI (E58 L N) 1 2000) 1000 58 68 0 (codeOf Try.f58) (finK (E58 L N) 1000 Try.f58 (finC (.one .bool) κ))) (.exit 0) f58.T0_e0 f58.H0_e0
    = f58.p0_e0' L N (fun a0 => κ (.tv .bool a0)) := by kernel_rfl
theorem f58.p0_e0_eq {R : Type} (L N : Nat) (κ : AV → Option R) :
    (contAt (E58 L N) (evCallI (E58 L N) 1 2000) 1000 58 68 0 (codeOf Try.f58) (finK (E58 L N) 1000 Try.f58 (finC (.one .bool) κ))) (.exit 0) f58.T0_e0 f58.H0_e0
    = f58.p0_e0 L N (fun a0 => κ (.tv .bool a0)) := by
  rw [f58.p0_e0_pre]
  unfold f58.p0_e0
  rfl
theorem f58.p0_r_pre {R : Type} (L N : Nat) (κ : AV → Option R) (z21 : Bool) :
    (contAt (E58 L N) (evCallI (E58 L N) 1 2000) 1000 58 68 0 (codeOf Try.f58) (finK (E58 L N) 1000 Try.f58 (finC (.one .bool) κ))) .ret (f58.T0_r z21) (f58.H0_r z21)
    = f58.p0_r' L N (fun a0 => κ (.tv .bool a0)) z21 := by kernel_rfl
theorem f58.p0_r_eq {R : Type} (L N : Nat) (κ : AV → Option R) (z21 : Bool) :
    (contAt (E58 L N) (evCallI (E58 L N) 1 2000) 1000 58 68 0 (codeOf Try.f58) (finK (E58 L N) 1000 Try.f58 (finC (.one .bool) κ))) .ret (f58.T0_r z21) (f58.H0_r z21)
    = f58.p0_r L N (fun a0 => κ (.tv .bool a0)) z21 := by
  rw [f58.p0_r_pre]
  unfold f58.p0_r
  rfl
theorem f58.b_pre {R : Type} (L N : Nat) (κ : AV → Option R) (x0 : Graph) :
    evBody (E58 L N) (evCallI (E58 L N) 1 2000) 1000 58 Try.f58 [(.tv (.st 2) x0)] [] [] (finC (.one .bool) κ)
    = f58.b' L N (fun a0 => κ (.tv .bool a0)) (fun s1 s2 => evLp (E58 L N) (evCallI (E58 L N) 1 2000) 1000 58 68 0 f58.c0 (contAt (E58 L N) (evCallI (E58 L N) 1 2000) 1000 58 68 0 (codeOf Try.f58) (finK (E58 L N) 1000 Try.f58 (finC (.one .bool) κ))) L (f58.T0 s1 s2) (f58.H0 s1 s2)) x0 := by kernel_rfl
theorem f58.b_eq {R : Type} (L N : Nat) (κ : AV → Option R) (x0 : Graph) :
    evBody (E58 L N) (evCallI (E58 L N) 1 2000) 1000 58 Try.f58 [(.tv (.st 2) x0)] [] [] (finC (.one .bool) κ)
    = f58.b L N (fun a0 => κ (.tv .bool a0)) x0 := by
  rw [f58.b_pre]
  unfold f58.b
  simp only [f58.l0_eq, f58.p0_e0_eq, f58.p0_r_eq]
theorem f58.s1'_nat {R R' : Type} (j : R → Option R') (L N : Nat) (k1_e2 : Int → (List (List Move)) → Option R) (k1_r : Bool → Int → (List (List Move)) → Option R) (rec1 : Int → Int → (List (List Move)) → Option R) (s3 : Int) (s4 : Int) (s5 : (List (List Move))) :
    f58.s1' L N (fun a0 a1 => (k1_e2 a0 a1).bind j) (fun a0 a1 a2 => (k1_r a0 a1 a2).bind j) (fun a0 a1 a2 => (rec1 a0 a1 a2).bind j) s3 s4 s5 = (f58.s1' L N k1_e2 k1_r rec1 s3 s4 s5).bind j := by
  unfold f58.s1'
  repeat' (first | (with_reducible refine cond_nat ?_ ?_) | (with_reducible refine bind_nat fun _ => ?_) | rfl)
theorem f58.s1_nat {R R' : Type} (j : R → Option R') (L N : Nat) (k1_e2 : Int → (List (List Move)) → Option R) (k1_r : Bool → Int → (List (List Move)) → Option R) (rec1 : Int → Int → (List (List Move)) → Option R) (s3 : Int) (s4 : Int) (s5 : (List (List Move))) :
    f58.s1 L N (fun a0 a1 => (k1_e2 a0 a1).bind j) (fun a0 a1 a2 => (k1_r a0 a1 a2).bind j) (fun a0 a1 a2 => (rec1 a0 a1 a2).bind j) s3 s4 s5 = (f58.s1 L N k1_e2 k1_r rec1 s3 s4 s5).bind j := by
  unfold f58.s1
  exact f58.s1'_nat ..
theorem f58.l1_nat {R R' : Type} (j : R → Option R') (L N : Nat) (k1_e2 : Int → (List (List Move)) → Option R) (k1_r : Bool → Int → (List (List Move)) → Option R) : ∀ (n : Nat) (s3 : Int) (s4 : Int) (s5 : (List (List Move))),
    f58.l1 L N (fun a0 a1 => (k1_e2 a0 a1).bind j) (fun a0 a1 a2 => (k1_r a0 a1 a2).bind j) n s3 s4 s5 = (f58.l1 L N k1_e2 k1_r n s3 s4 s5).bind j := by
  intro n
  induction n with
  | zero => intros; rfl
  | succ n ih =>
    intro s3 s4 s5
    show f58.s1 L N (fun a0 a1 => (k1_e2 a0 a1).bind j) (fun a0 a1 a2 => (k1_r a0 a1 a2).bind j) (f58.l1 L N (fun a0 a1 => (k1_e2 a0 a1).bind j) (fun a0 a1 a2 => (k1_r a0 a1 a2).bind j) n) s3 s4 s5 = _
    rw [show f58.l1 L N (fun a0 a1 => (k1_e2 a0 a1).bind j) (fun a0 a1 a2 => (k1_r a0 a1 a2).bind j) n = (fun s3 s4 s5 => (f58.l1 L N k1_e2 k1_r n s3 s4 s5).bind j) from funext fun s3 => funext fun s4 => funext fun s5 => ih s3 s4 s5]
    exact f58.s1_nat ..
theorem f58.p1_e2'_nat {R R' : Type} (j : R → Option R') (L N : Nat) (k0_e0 : Option R) (k0_r : Bool → Option R) (rec0 : Int → (List (List Move)) → Option R) (z6 : Int) (z7 : (List (List Move))) :
    f58.p1_e2' L N (k0_e0.bind j) (fun a0 => (k0_r a0).bind j) (fun a0 a1 => (rec0 a0 a1).bind j) z6 z7 = (f58.p1_e2' L N k0_e0 k0_r rec0 z6 z7).bind j := by
  unfold f58.p1_e2'
  repeat' (first | (with_reducible refine cond_nat ?_ ?_) | (with_reducible refine bind_nat fun _ => ?_) | rfl)
theorem f58.p1_e2_nat {R R' : Type} (j : R → Option R') (L N : Nat) (k0_e0 : Option R) (k0_r : Bool → Option R) (rec0 : Int → (List (List Move)) → Option R) (z6 : Int) (z7 : (List (List Move))) :
    f58.p1_e2 L N (k0_e0.bind j) (fun a0 => (k0_r a0).bind j) (fun a0 a1 => (rec0 a0 a1).bind j) z6 z7 = (f58.p1_e2 L N k0_e0 k0_r rec0 z6 z7).bind j := by
  unfold f58.p1_e2
  exact f58.p1_e2'_nat ..
theorem f58.p1_r'_nat {R R' : Type} (j : R → Option R') (L N : Nat) (k0_e0 : Option R) (k0_r : Bool → Option R) (rec0 : Int → (List (List Move)) → Option R) (z15 : Bool) (z16 : Int) (z17 : (List (List Move))) :
    f58.p1_r' L N (k0_e0.bind j) (fun a0 => (k0_r a0).bind j) (fun a0 a1 => (rec0 a0 a1).bind j) z15 z16 z17 = (f58.p1_r' L N k0_e0 k0_r rec0 z15 z16 z17).bind j := by
  unfold f58.p1_r'
  repeat' (first | (with_reducible refine cond_nat ?_ ?_) | (with_reducible refine bind_nat fun _ => ?_) | rfl)
theorem f58.p1_r_nat {R R' : Type} (j : R → Option R') (L N : Nat) (k0_e0 : Option R) (k0_r : Bool → Option R) (rec0 : Int → (List (List Move)) → Option R) (z15 : Bool) (z16 : Int) (z17 : (List (List Move))) :
    f58.p1_r L N (k0_e0.bind j) (fun a0 => (k0_r a0).bind j) (fun a0 a1 => (rec0 a0 a1).bind j) z15 z16 z17 = (f58.p1_r L N k0_e0 k0_r rec0 z15 z16 z17).bind j := by
  unfold f58.p1_r
  exact f58.p1_r'_nat ..
theorem f58.s0'_nat {R R' : Type} (j : R → Option R') (L N : Nat) (k0_e0 : Option R) (k0_r : Bool → Option R) (rec0 : Int → (List (List Move)) → Option R) (w1 : Int → Int → (List (List Move)) → Option R) (s1 : Int) (s2 : (List (List Move))) :
    f58.s0' L N (k0_e0.bind j) (fun a0 => (k0_r a0).bind j) (fun a0 a1 => (rec0 a0 a1).bind j) (fun a0 a1 a2 => (w1 a0 a1 a2).bind j) s1 s2 = (f58.s0' L N k0_e0 k0_r rec0 w1 s1 s2).bind j := by
  unfold f58.s0'
  repeat' (first | (with_reducible refine cond_nat ?_ ?_) | (with_reducible refine bind_nat fun _ => ?_) | rfl)
theorem f58.s0_nat {R R' : Type} (j : R → Option R') (L N : Nat) (k0_e0 : Option R) (k0_r : Bool → Option R) (rec0 : Int → (List (List Move)) → Option R) (s1 : Int) (s2 : (List (List Move))) :
    f58.s0 L N (k0_e0.bind j) (fun a0 => (k0_r a0).bind j) (fun a0 a1 => (rec0 a0 a1).bind j) s1 s2 = (f58.s0 L N k0_e0 k0_r rec0 s1 s2).bind j := by
  unfold f58.s0
  simp only [f58.l1_nat, f58.p1_e2_nat, f58.p1_r_nat]
  exact f58.s0'_nat ..
theorem f58.l0_nat {R R' : Type} (j : R → Option R') (L N : Nat) (k0_e0 : Option R) (k0_r : Bool → Option R) : ∀ (n : Nat) (s1 : Int) (s2 : (List (List Move))),
    f58.l0 L N (k0_e0.bind j) (fun a0 => (k0_r a0).bind j) n s1 s2 = (f58.l0 L N k0_e0 k0_r n s1 s2).bind j := by
  intro n
  induction n with
  | zero => intros; rfl
  | succ n ih =>
    intro s1 s2
    show f58.s0 L N (k0_e0.bind j) (fun a0 => (k0_r a0).bind j) (f58.l0 L N (k0_e0.bind j) (fun a0 => (k0_r a0).bind j) n) s1 s2 = _
    rw [show f58.l0 L N (k0_e0.bind j) (fun a0 => (k0_r a0).bind j) n = (fun s1 s2 => (f58.l0 L N k0_e0 k0_r n s1 s2).bind j) from funext fun s1 => funext fun s2 => ih s1 s2]
    exact f58.s0_nat ..
theorem f58.p0_e0'_nat {R R' : Type} (j : R → Option R') (L N : Nat) (k : Bool → Option R) :
    f58.p0_e0' L N (fun a0 => (k a0).bind j) = (f58.p0_e0' L N k).bind j := by
  unfold f58.p0_e0'
  repeat' (first | (with_reducible refine cond_nat ?_ ?_) | (with_reducible refine bind_nat fun _ => ?_) | rfl)
theorem f58.p0_e0_nat {R R' : Type} (j : R → Option R') (L N : Nat) (k : Bool → Option R) :
    f58.p0_e0 L N (fun a0 => (k a0).bind j) = (f58.p0_e0 L N k).bind j := by
  unfold f58.p0_e0
  exact f58.p0_e0'_nat ..
theorem f58.p0_r'_nat {R R' : Type} (j : R → Option R') (L N : Nat) (k : Bool → Option R) (z21 : Bool) :
    f58.p0_r' L N (fun a0 => (k a0).bind j) z21 = (f58.p0_r' L N k z21).bind j := by
  unfold f58.p0_r'
  repeat' (first | (with_reducible refine cond_nat ?_ ?_) | (with_reducible refine bind_nat fun _ => ?_) | rfl)
theorem f58.p0_r_nat {R R' : Type} (j : R → Option R') (L N : Nat) (k : Bool → Option R) (z21 : Bool) :
    f58.p0_r L N (fun a0 => (k a0).bind j) z21 = (f58.p0_r L N k z21).bind j := by
  unfold f58.p0_r
  exact f58.p0_r'_nat ..
theorem f58.b'_nat {R R' : Type} (j : R → Option R') (L N : Nat) (k : Bool → Option R) (w0 : Int → (List (List Move)) → Option R) (x0 : Graph) :
    f58.b' L N (fun a0 => (k a0).bind j) (fun a0 a1 => (w0 a0 a1).bind j) x0 = (f58.b' L N k w0 x0).bind j := by
  unfold f58.b'
  repeat' (first | (with_reducible refine cond_nat ?_ ?_) | (with_reducible refine bind_nat fun _ => ?_) | rfl)
theorem f58.b_nat {R R' : Type} (j : R → Option R') (L N : Nat) (k : Bool → Option R) (x0 : Graph) :
    f58.b L N (fun a0 => (k a0).bind j) x0 = (f58.b L N k x0).bind j := by
  unfold f58.b
  simp only [f58.l0_nat, f58.p0_e0_nat, f58.p0_r_nat]
  exact f58.b'_nat ..
theorem f58.ok (L N : Nat) (hΦ : TellsOk Try.prog ((Φ98 L N))) : EntOk Try.prog 58 (f58.ent L N) := by
  intro args vw site h
  unfold f58.ent
  split
  · rename_i d ha
    intro y hy hs
    refine call_ro (dep := 1000) (E := (E58 L N)) (rs := (.one .bool)) (v := (.tv .bool y)) (sound_of hΦ) okP (callI_sound (sound_of hΦ) okP 1 2000) (f := Try.f58) rfl hs ha ?_ rfl site
    refine (f58.b_eq L N some d.1).trans ?_
    refine ((f58.b_nat (fun y => (some (.tv .bool y) : Option AV)) L N some d.1)).trans ?_
    rw [show f58.b L N some d.1 = some y from hy]
    rfl
  · intro y hy
    cases hy
def Φ58 (L N : Nat) : Tells := (addT (Φ98 L N) 58 (f58.ent L N))
theorem Φ58_ok (L N : Nat) : TellsOk Try.prog (Φ58 L N) := addT_ok (Φ98_ok L N) (f58.ok L N (Φ98_ok L N))
def f99.s0' {R : Type} (L N : Nat) (self99 : Tree → Option (Int)) (k0_e0 : Int → Option R) (k0_r : Int → Int → Option R) (rec0 : Int → Int → Int → Int → (List Tree) → Option R) (s9 : Int) (s10 : Int) (s11 : Int) (s12 : Int) (s13 : (List Tree)) : Option R :=
  bif (decide (s10 < (s13.length : Int))) then
    bif (decide (0 ≤ s10) && decide (s10 < (s13.length : Int))) then
      (self99 (listAt s13 (Ty.dflt (.st 1)) s10.toNat)).bind fun y15 =>
      bif (y15 == (0 : Int)) then
        k0_r (0 : Int) s9
      else rec0 (bif decide ((wi (s9 + y15)) < (1000 : Int)) then (wi (s9 + y15)) else (1000 : Int)) (wi (s10 + (1 : Int))) s11 s12 s13
    else none
  else k0_e0 s9
def f99.s0 {R : Type} (L N : Nat) (self99 : Tree → Option (Int)) (k0_e0 : Int → Option R) (k0_r : Int → Int → Option R) (rec0 : Int → Int → Int → Int → (List Tree) → Option R) (s9 : Int) (s10 : Int) (s11 : Int) (s12 : Int) (s13 : (List Tree)) : Option R :=
  f99.s0' L N self99 k0_e0 k0_r rec0 s9 s10 s11 s12 s13
def f99.l0 {R : Type} (L N : Nat) (self99 : Tree → Option (Int)) (k0_e0 : Int → Option R) (k0_r : Int → Int → Option R) : Nat → Int → Int → Int → Int → (List Tree) → Option R
  | 0, _, _, _, _, _ => none
  | n + 1, s9, s10, s11, s12, s13 => f99.s0 L N self99 k0_e0 k0_r (f99.l0 L N self99 k0_e0 k0_r n) s9 s10 s11 s12 s13
def f99.T0 (s9 : Int) (s10 : Int) (s11 : Int) (s12 : Int) (s13 : (List Tree)) : T := mkT 59 [(1, (.ptr 1001 0)), (4, (.tv i64 s9)), (5, (.tv i64 s10))]
def f99.H0 (s9 : Int) (s10 : Int) (s11 : Int) (s12 : Int) (s13 : (List Tree)) : H := [(1001, (.box [(.tv i64 s11), (.tv i64 s12), (.tv (.sl (.st 1)) s13)]))]
def f99.T0_e0 (z14 : Int) : T := mkT 59 [(4, (.tv i64 z14))]
def f99.H0_e0 (z14 : Int) : H := []
def f99.T0_r (z16 : Int) (z17 : Int) : T := mkT 59 [(2, (.tv i64 z16)), (4, (.tv i64 z17))]
def f99.H0_r (z16 : Int) (z17 : Int) : H := []
def f99.p0_e0' {R : Type} (L N : Nat) (self99 : Tree → Option (Int)) (k : Int → Option R) (z14 : Int) : Option R :=
  k z14
def f99.p0_e0 {R : Type} (L N : Nat) (self99 : Tree → Option (Int)) (k : Int → Option R) (z14 : Int) : Option R :=
  f99.p0_e0' L N self99 k z14
def f99.p0_r' {R : Type} (L N : Nat) (self99 : Tree → Option (Int)) (k : Int → Option R) (z16 : Int) (z17 : Int) : Option R :=
  k z16
def f99.p0_r {R : Type} (L N : Nat) (self99 : Tree → Option (Int)) (k : Int → Option R) (z16 : Int) (z17 : Int) : Option R :=
  f99.p0_r' L N self99 k z16 z17
def f99.j0' {R : Type} (L N : Nat) (self99 : Tree → Option (Int)) (k : Int → Option R) (w0 : Int → Int → Int → Int → (List Tree) → Option R) (v6 : Int) (v7 : Int) (v8 : (List Tree)) : Option R :=
  w0 (1 : Int) (0 : Int) v6 v7 v8
def f99.b' {R : Type} (L N : Nat) (self99 : Tree → Option (Int)) (k : Int → Option R) (w0 : Int → Int → Int → Int → (List Tree) → Option R) (x0 : Tree) : Option R :=
  (f96 L N x0.op (0 : Int) (3 : Int)).bind fun y0 =>
  bif (!y0) then
    k (0 : Int)
  else bif (decide (0 ≤ x0.op) && decide (x0.op < (([(0 : Int), (1 : Int), (2 : Int), (1 : Int)] : (List Int)).length : Int))) then
    bif ((x0.parts.length : Int) != (listAt ([(0 : Int), (1 : Int), (2 : Int), (1 : Int)] : (List Int)) (0 : Int) x0.op.toNat)) then
      k (0 : Int)
    else (f97 L N x0.n).bind fun y1 =>
    bif (!y1) then
      k (0 : Int)
    else bif (x0.op != (3 : Int)) then
      bif (x0.n != (0 : Int)) then
        k (0 : Int)
      else f99.j0' L N self99 k w0 x0.op x0.n x0.parts
    else f99.j0' L N self99 k w0 x0.op x0.n x0.parts
  else none
def f99.b {R : Type} (L N : Nat) (self99 : Tree → Option (Int)) (k : Int → Option R) (x0 : Tree) : Option R :=
  f99.b' L N self99 k (fun s9 s10 s11 s12 s13 => f99.l0 L N self99 (fun z14 => f99.p0_e0 L N self99 k z14) (fun z16 z17 => f99.p0_r L N self99 k z16 z17) L s9 s10 s11 s12 s13) x0
def f99 (L N : Nat) : Nat → Tree → Option (Int)
  | 0, _ => none
  | n + 1, x0 => f99.b L N (f99 L N n) some x0
def f99.ent (L N m : Nat) (args : List AV) (vw : View) (site : Nat) : Ans := match roD [(.st 1)] vw args with
  | some d => ⟨Int, f99 L N m d.1, fun y => ((.tv i64 y), [], [])⟩
  | none => Ans.no
def Φ99s (L N m : Nat) : Tells := (addT (Φ58 L N) 99 (f99.ent L N m))
noncomputable def E99 (L N m : Nat) : Env := { P := Try.prog, ty := tyOf, Φ := Φ99s L N m, inl := inlT, live := lives, liveX := livesX, L := L, dp := none, prom := promT, heal := healT, ren := renT }
noncomputable def f99.c0 : Code := loopAt 0 (codeOf Try.f99)
theorem f99.s0_pre {R : Type} (L N m : Nat) (κ : Ex → T → H → Option R) (rec : T → H → Option R) (s9 : Int) (s10 : Int) (s11 : Int) (s12 : Int) (s13 : (List Tree)) :
    evRd (E99 L N m) (evCallI (E99 L N m) 1 2000) 1000 99 59 0 f99.c0 κ rec (f99.T0 s9 s10 s11 s12 s13) (f99.H0 s9 s10 s11 s12 s13)
    = f99.s0' L N (f99 L N m) (fun z14 => κ (.exit 0) (f99.T0_e0 z14) (f99.H0_e0 z14)) (fun z16 z17 => κ .ret (f99.T0_r z16 z17) (f99.H0_r z16 z17)) (fun s9 s10 s11 s12 s13 => rec (f99.T0 s9 s10 s11 s12 s13) (f99.H0 s9 s10 s11 s12 s13)) s9 s10 s11 s12 s13 := by kernel_rfl
theorem f99.s0_eq {R : Type} (L N m : Nat) (κ : Ex → T → H → Option R) (rec : T → H → Option R) (s9 : Int) (s10 : Int) (s11 : Int) (s12 : Int) (s13 : (List Tree)) :
    evRd (E99 L N m) (evCallI (E99 L N m) 1 2000) 1000 99 59 0 f99.c0 κ rec (f99.T0 s9 s10 s11 s12 s13) (f99.H0 s9 s10 s11 s12 s13)
    = f99.s0 L N (f99 L N m) (fun z14 => κ (.exit 0) (f99.T0_e0 z14) (f99.H0_e0 z14)) (fun z16 z17 => κ .ret (f99.T0_r z16 z17) (f99.H0_r z16 z17)) (fun s9 s10 s11 s12 s13 => rec (f99.T0 s9 s10 s11 s12 s13) (f99.H0 s9 s10 s11 s12 s13)) s9 s10 s11 s12 s13 := by
  rw [f99.s0_pre]
  unfold f99.s0
  rfl
theorem f99.l0_eq {R : Type} (L N m : Nat) (κ : Ex → T → H → Option R) : ∀ (n : Nat) (s9 : Int) (s10 : Int) (s11 : Int) (s12 : Int) (s13 : (List Tree)),
    evLp (E99 L N m) (evCallI (E99 L N m) 1 2000) 1000 99 59 0 f99.c0 κ n (f99.T0 s9 s10 s11 s12 s13) (f99.H0 s9 s10 s11 s12 s13)
    = f99.l0 L N (f99 L N m) (fun z14 => κ (.exit 0) (f99.T0_e0 z14) (f99.H0_e0 z14)) (fun z16 z17 => κ .ret (f99.T0_r z16 z17) (f99.H0_r z16 z17)) n s9 s10 s11 s12 s13 := by
  intro n
  induction n with
  | zero => intros; rfl
  | succ n ih =>
    intro s9 s10 s11 s12 s13
    rw [evLp_succ, f99.s0_eq]
    simp only [ih]
    rfl
theorem f99.p0_e0_pre {R : Type} (L N m : Nat) (κ : AV → Option R) (z14 : Int) :
    (contAt (E99 L N m) (evCallI (E99 L N m) 1 2000) 1000 99 59 0 (codeOf Try.f99) (finK (E99 L N m) 1000 Try.f99 (finC (.one i64) κ))) (.exit 0) (f99.T0_e0 z14) (f99.H0_e0 z14)
    = f99.p0_e0' L N (f99 L N m) (fun a0 => κ (.tv i64 a0)) z14 := by kernel_rfl
theorem f99.p0_e0_eq {R : Type} (L N m : Nat) (κ : AV → Option R) (z14 : Int) :
    (contAt (E99 L N m) (evCallI (E99 L N m) 1 2000) 1000 99 59 0 (codeOf Try.f99) (finK (E99 L N m) 1000 Try.f99 (finC (.one i64) κ))) (.exit 0) (f99.T0_e0 z14) (f99.H0_e0 z14)
    = f99.p0_e0 L N (f99 L N m) (fun a0 => κ (.tv i64 a0)) z14 := by
  rw [f99.p0_e0_pre]
  unfold f99.p0_e0
  rfl
theorem f99.p0_r_pre {R : Type} (L N m : Nat) (κ : AV → Option R) (z16 : Int) (z17 : Int) :
    (contAt (E99 L N m) (evCallI (E99 L N m) 1 2000) 1000 99 59 0 (codeOf Try.f99) (finK (E99 L N m) 1000 Try.f99 (finC (.one i64) κ))) .ret (f99.T0_r z16 z17) (f99.H0_r z16 z17)
    = f99.p0_r' L N (f99 L N m) (fun a0 => κ (.tv i64 a0)) z16 z17 := by kernel_rfl
theorem f99.p0_r_eq {R : Type} (L N m : Nat) (κ : AV → Option R) (z16 : Int) (z17 : Int) :
    (contAt (E99 L N m) (evCallI (E99 L N m) 1 2000) 1000 99 59 0 (codeOf Try.f99) (finK (E99 L N m) 1000 Try.f99 (finC (.one i64) κ))) .ret (f99.T0_r z16 z17) (f99.H0_r z16 z17)
    = f99.p0_r L N (f99 L N m) (fun a0 => κ (.tv i64 a0)) z16 z17 := by
  rw [f99.p0_r_pre]
  unfold f99.p0_r
  rfl
theorem f99.b_pre {R : Type} (L N m : Nat) (κ : AV → Option R) (x0 : Tree) :
    evBody (E99 L N m) (evCallI (E99 L N m) 1 2000) 1000 99 Try.f99 [(.tv (.st 1) x0)] [] [] (finC (.one i64) κ)
    = f99.b' L N (f99 L N m) (fun a0 => κ (.tv i64 a0)) (fun s9 s10 s11 s12 s13 => evLp (E99 L N m) (evCallI (E99 L N m) 1 2000) 1000 99 59 0 f99.c0 (contAt (E99 L N m) (evCallI (E99 L N m) 1 2000) 1000 99 59 0 (codeOf Try.f99) (finK (E99 L N m) 1000 Try.f99 (finC (.one i64) κ))) L (f99.T0 s9 s10 s11 s12 s13) (f99.H0 s9 s10 s11 s12 s13)) x0 := by kernel_rfl
theorem f99.b_eq {R : Type} (L N m : Nat) (κ : AV → Option R) (x0 : Tree) :
    evBody (E99 L N m) (evCallI (E99 L N m) 1 2000) 1000 99 Try.f99 [(.tv (.st 1) x0)] [] [] (finC (.one i64) κ)
    = f99.b L N (f99 L N m) (fun a0 => κ (.tv i64 a0)) x0 := by
  rw [f99.b_pre]
  unfold f99.b
  simp only [f99.l0_eq, f99.p0_e0_eq, f99.p0_r_eq]
theorem f99.s0'_nat {R R' : Type} (j : R → Option R') (L N : Nat) (self99 : Tree → Option (Int)) (k0_e0 : Int → Option R) (k0_r : Int → Int → Option R) (rec0 : Int → Int → Int → Int → (List Tree) → Option R) (s9 : Int) (s10 : Int) (s11 : Int) (s12 : Int) (s13 : (List Tree)) :
    f99.s0' L N self99 (fun a0 => (k0_e0 a0).bind j) (fun a0 a1 => (k0_r a0 a1).bind j) (fun a0 a1 a2 a3 a4 => (rec0 a0 a1 a2 a3 a4).bind j) s9 s10 s11 s12 s13 = (f99.s0' L N self99 k0_e0 k0_r rec0 s9 s10 s11 s12 s13).bind j := by
  unfold f99.s0'
  repeat' (first | (with_reducible refine cond_nat ?_ ?_) | (with_reducible refine bind_nat fun _ => ?_) | rfl)
theorem f99.s0_nat {R R' : Type} (j : R → Option R') (L N : Nat) (self99 : Tree → Option (Int)) (k0_e0 : Int → Option R) (k0_r : Int → Int → Option R) (rec0 : Int → Int → Int → Int → (List Tree) → Option R) (s9 : Int) (s10 : Int) (s11 : Int) (s12 : Int) (s13 : (List Tree)) :
    f99.s0 L N self99 (fun a0 => (k0_e0 a0).bind j) (fun a0 a1 => (k0_r a0 a1).bind j) (fun a0 a1 a2 a3 a4 => (rec0 a0 a1 a2 a3 a4).bind j) s9 s10 s11 s12 s13 = (f99.s0 L N self99 k0_e0 k0_r rec0 s9 s10 s11 s12 s13).bind j := by
  unfold f99.s0
  exact f99.s0'_nat ..
theorem f99.l0_nat {R R' : Type} (j : R → Option R') (L N : Nat) (self99 : Tree → Option (Int)) (k0_e0 : Int → Option R) (k0_r : Int → Int → Option R) : ∀ (n : Nat) (s9 : Int) (s10 : Int) (s11 : Int) (s12 : Int) (s13 : (List Tree)),
    f99.l0 L N self99 (fun a0 => (k0_e0 a0).bind j) (fun a0 a1 => (k0_r a0 a1).bind j) n s9 s10 s11 s12 s13 = (f99.l0 L N self99 k0_e0 k0_r n s9 s10 s11 s12 s13).bind j := by
  intro n
  induction n with
  | zero => intros; rfl
  | succ n ih =>
    intro s9 s10 s11 s12 s13
    show f99.s0 L N self99 (fun a0 => (k0_e0 a0).bind j) (fun a0 a1 => (k0_r a0 a1).bind j) (f99.l0 L N self99 (fun a0 => (k0_e0 a0).bind j) (fun a0 a1 => (k0_r a0 a1).bind j) n) s9 s10 s11 s12 s13 = _
    rw [show f99.l0 L N self99 (fun a0 => (k0_e0 a0).bind j) (fun a0 a1 => (k0_r a0 a1).bind j) n = (fun s9 s10 s11 s12 s13 => (f99.l0 L N self99 k0_e0 k0_r n s9 s10 s11 s12 s13).bind j) from funext fun s9 => funext fun s10 => funext fun s11 => funext fun s12 => funext fun s13 => ih s9 s10 s11 s12 s13]
    exact f99.s0_nat ..
theorem f99.p0_e0'_nat {R R' : Type} (j : R → Option R') (L N : Nat) (self99 : Tree → Option (Int)) (k : Int → Option R) (z14 : Int) :
    f99.p0_e0' L N self99 (fun a0 => (k a0).bind j) z14 = (f99.p0_e0' L N self99 k z14).bind j := by
  unfold f99.p0_e0'
  repeat' (first | (with_reducible refine cond_nat ?_ ?_) | (with_reducible refine bind_nat fun _ => ?_) | rfl)
theorem f99.p0_e0_nat {R R' : Type} (j : R → Option R') (L N : Nat) (self99 : Tree → Option (Int)) (k : Int → Option R) (z14 : Int) :
    f99.p0_e0 L N self99 (fun a0 => (k a0).bind j) z14 = (f99.p0_e0 L N self99 k z14).bind j := by
  unfold f99.p0_e0
  exact f99.p0_e0'_nat ..
theorem f99.p0_r'_nat {R R' : Type} (j : R → Option R') (L N : Nat) (self99 : Tree → Option (Int)) (k : Int → Option R) (z16 : Int) (z17 : Int) :
    f99.p0_r' L N self99 (fun a0 => (k a0).bind j) z16 z17 = (f99.p0_r' L N self99 k z16 z17).bind j := by
  unfold f99.p0_r'
  repeat' (first | (with_reducible refine cond_nat ?_ ?_) | (with_reducible refine bind_nat fun _ => ?_) | rfl)
theorem f99.p0_r_nat {R R' : Type} (j : R → Option R') (L N : Nat) (self99 : Tree → Option (Int)) (k : Int → Option R) (z16 : Int) (z17 : Int) :
    f99.p0_r L N self99 (fun a0 => (k a0).bind j) z16 z17 = (f99.p0_r L N self99 k z16 z17).bind j := by
  unfold f99.p0_r
  exact f99.p0_r'_nat ..
theorem f99.j0'_nat {R R' : Type} (j : R → Option R') (L N : Nat) (self99 : Tree → Option (Int)) (k : Int → Option R) (w0 : Int → Int → Int → Int → (List Tree) → Option R) (v6 : Int) (v7 : Int) (v8 : (List Tree)) :
    f99.j0' L N self99 (fun a0 => (k a0).bind j) (fun a0 a1 a2 a3 a4 => (w0 a0 a1 a2 a3 a4).bind j) v6 v7 v8 = (f99.j0' L N self99 k w0 v6 v7 v8).bind j := by
  unfold f99.j0'
  repeat' (first | (with_reducible refine cond_nat ?_ ?_) | (with_reducible refine bind_nat fun _ => ?_) | rfl)
theorem f99.b'_nat {R R' : Type} (j : R → Option R') (L N : Nat) (self99 : Tree → Option (Int)) (k : Int → Option R) (w0 : Int → Int → Int → Int → (List Tree) → Option R) (x0 : Tree) :
    f99.b' L N self99 (fun a0 => (k a0).bind j) (fun a0 a1 a2 a3 a4 => (w0 a0 a1 a2 a3 a4).bind j) x0 = (f99.b' L N self99 k w0 x0).bind j := by
  unfold f99.b'
  repeat' (first | (with_reducible refine cond_nat ?_ ?_) | (with_reducible refine bind_nat fun _ => ?_) | exact f99.j0'_nat .. | rfl)
theorem f99.b_nat {R R' : Type} (j : R → Option R') (L N : Nat) (self99 : Tree → Option (Int)) (k : Int → Option R) (x0 : Tree) :
    f99.b L N self99 (fun a0 => (k a0).bind j) x0 = (f99.b L N self99 k x0).bind j := by
  unfold f99.b
  simp only [f99.l0_nat, f99.p0_e0_nat, f99.p0_r_nat]
  exact f99.b'_nat ..
theorem f99.ok (L N m : Nat) (hΦ : TellsOk Try.prog (Φ99s L N m)) : EntOk Try.prog 99 (f99.ent L N (m + 1)) := by
  intro args vw site h
  unfold f99.ent
  split
  · rename_i d ha
    intro y hy hs
    refine call_ro (dep := 1000) (E := (E99 L N m)) (rs := (.one i64)) (v := (.tv i64 y)) (sound_of hΦ) okP (callI_sound (sound_of hΦ) okP 1 2000) (f := Try.f99) rfl hs ha ?_ rfl site
    refine (f99.b_eq L N m some d.1).trans ?_
    refine ((f99.b_nat (fun y => (some (.tv i64 y) : Option AV)) L N (f99 L N m) some d.1)).trans ?_
    rw [show f99.b L N (f99 L N m) some d.1 = some y from hy]
    rfl
  · intro y hy
    cases hy
theorem Φ99s_ok (L N : Nat) : ∀ m, TellsOk Try.prog (Φ99s L N m) := by
  intro m
  induction m with
  | zero => exact (addT_ok (Φ58_ok L N) (fun args vw site h => by unfold f99.ent; split <;> (intro y hy; cases hy)))
  | succ m ih => exact (addT_ok (Φ58_ok L N) (f99.ok L N m ih))
def Φ99 (L N : Nat) : Tells := (addT (Φ58 L N) 99 (f99.ent L N N))
theorem Φ99_ok (L N : Nat) : TellsOk Try.prog (Φ99 L N) := Φ99s_ok L N N
def f59.b' {R : Type} (L N : Nat) (k : Bool → Option R) (x0 : Tree) : Option R :=
  (f99 L N N (Tree.mk x0.op x0.n x0.parts)).bind fun y0 =>
  (f96 L N y0 (1 : Int) (60 : Int)).bind fun y1 =>
  k y1
def f59.b {R : Type} (L N : Nat) (k : Bool → Option R) (x0 : Tree) : Option R :=
  f59.b' L N k x0
def f59 (L N : Nat) (x0 : Tree) : Option (Bool) := f59.b L N some x0
def f59.ent (L N : Nat) (args : List AV) (vw : View) (site : Nat) : Ans := match roD [(.st 1)] vw args with
  | some d => ⟨Bool, f59 L N d.1, fun y => ((.tv .bool y), [], [])⟩
  | none => Ans.no
noncomputable def E59 (L N : Nat) : Env := { P := Try.prog, ty := tyOf, Φ := (Φ99 L N), inl := inlT, live := lives, liveX := livesX, L := L, dp := none, prom := promT, heal := healT, ren := renT }
theorem f59.b_pre {R : Type} (L N : Nat) (κ : AV → Option R) (x0 : Tree) :
    evBody (E59 L N) (evCallI (E59 L N) 1 2000) 1000 59 Try.f59 [(.tv (.st 1) x0)] [] [] (finC (.one .bool) κ)
    = f59.b' L N (fun a0 => κ (.tv .bool a0)) x0 := by kernel_rfl
theorem f59.b_eq {R : Type} (L N : Nat) (κ : AV → Option R) (x0 : Tree) :
    evBody (E59 L N) (evCallI (E59 L N) 1 2000) 1000 59 Try.f59 [(.tv (.st 1) x0)] [] [] (finC (.one .bool) κ)
    = f59.b L N (fun a0 => κ (.tv .bool a0)) x0 := by
  rw [f59.b_pre]
  unfold f59.b
  rfl
theorem f59.b'_nat {R R' : Type} (j : R → Option R') (L N : Nat) (k : Bool → Option R) (x0 : Tree) :
    f59.b' L N (fun a0 => (k a0).bind j) x0 = (f59.b' L N k x0).bind j := by
  unfold f59.b'
  repeat' (first | (with_reducible refine cond_nat ?_ ?_) | (with_reducible refine bind_nat fun _ => ?_) | rfl)
theorem f59.b_nat {R R' : Type} (j : R → Option R') (L N : Nat) (k : Bool → Option R) (x0 : Tree) :
    f59.b L N (fun a0 => (k a0).bind j) x0 = (f59.b L N k x0).bind j := by
  unfold f59.b
  exact f59.b'_nat ..
theorem f59.ok (L N : Nat) (hΦ : TellsOk Try.prog ((Φ99 L N))) : EntOk Try.prog 59 (f59.ent L N) := by
  intro args vw site h
  unfold f59.ent
  split
  · rename_i d ha
    intro y hy hs
    refine call_ro (dep := 1000) (E := (E59 L N)) (rs := (.one .bool)) (v := (.tv .bool y)) (sound_of hΦ) okP (callI_sound (sound_of hΦ) okP 1 2000) (f := Try.f59) rfl hs ha ?_ rfl site
    refine (f59.b_eq L N some d.1).trans ?_
    refine ((f59.b_nat (fun y => (some (.tv .bool y) : Option AV)) L N some d.1)).trans ?_
    rw [show f59.b L N some d.1 = some y from hy]
    rfl
  · intro y hy
    cases hy
def Φ59 (L N : Nat) : Tells := (addT (Φ99 L N) 59 (f59.ent L N))
theorem Φ59_ok (L N : Nat) : TellsOk Try.prog (Φ59 L N) := addT_ok (Φ99_ok L N) (f59.ok L N (Φ99_ok L N))
def f60.s1' {R : Type} (L N : Nat) (self60 : Graph → Tree → Option ((List Bool))) (k1_e3 : (List Bool) → (List Bool) → Int → (List (List Move)) → Int → Int → (List Tree) → (List Bool) → Option R) (rec1 : (List Bool) → (List Bool) → Int → Int → (List (List Move)) → Int → Int → (List Tree) → (List Bool) → Option R) (s18 : (List Bool)) (s19 : (List Bool)) (s20 : Int) (s21 : Int) (s22 : (List (List Move))) (s23 : Int) (s24 : Int) (s25 : (List Tree)) (s26 : (List Bool)) : Option R :=
  bif (decide (0 ≤ s20) && decide (s20 < (s22.length : Int))) then
    bif (decide (s21 < ((listAt s22 [] s20.toNat).length : Int))) then
      bif (decide (0 ≤ s20) && decide (s20 < (s26.length : Int))) then
        bif (listAt s26 false s20.toNat) then
          bif (decide (0 ≤ s20) && decide (s20 < (s26.length : Int))) then
            rec1 s18 s19 s20 (wi (s21 + (1 : Int))) s22 s23 s24 s25 (s26.set s20.toNat true)
          else none
        else bif (decide (0 ≤ s20) && decide (s20 < (s22.length : Int))) then
          bif (decide (0 ≤ s21) && decide (s21 < ((listAt s22 [] s20.toNat).length : Int))) then
            bif ((listAt (listAt s22 [] s20.toNat) (Ty.dflt (.st 0)) s21.toNat).act == s24) then
              bif (decide (0 ≤ s20) && decide (s20 < (s22.length : Int))) then
                bif (decide (0 ≤ s21) && decide (s21 < ((listAt s22 [] s20.toNat).length : Int))) then
                  bif (decide (0 ≤ (listAt (listAt s22 [] s20.toNat) (Ty.dflt (.st 0)) s21.toNat).to) && decide ((listAt (listAt s22 [] s20.toNat) (Ty.dflt (.st 0)) s21.toNat).to < (s18.length : Int))) then
                    bif (decide (0 ≤ s20) && decide (s20 < (s26.length : Int))) then
                      rec1 s18 s19 s20 (wi (s21 + (1 : Int))) s22 s23 s24 s25 (s26.set s20.toNat (listAt s18 false ((listAt (listAt s22 [] s20.toNat) (Ty.dflt (.st 0)) s21.toNat).to).toNat))
                    else none
                  else none
                else none
              else none
            else bif (decide (0 ≤ s20) && decide (s20 < (s26.length : Int))) then
              rec1 s18 s19 s20 (wi (s21 + (1 : Int))) s22 s23 s24 s25 (s26.set s20.toNat false)
            else none
          else none
        else none
      else none
    else k1_e3 s18 s19 s20 s22 s23 s24 s25 s26
  else none
def f60.s1 {R : Type} (L N : Nat) (self60 : Graph → Tree → Option ((List Bool))) (k1_e3 : (List Bool) → (List Bool) → Int → (List (List Move)) → Int → Int → (List Tree) → (List Bool) → Option R) (rec1 : (List Bool) → (List Bool) → Int → Int → (List (List Move)) → Int → Int → (List Tree) → (List Bool) → Option R) (s18 : (List Bool)) (s19 : (List Bool)) (s20 : Int) (s21 : Int) (s22 : (List (List Move))) (s23 : Int) (s24 : Int) (s25 : (List Tree)) (s26 : (List Bool)) : Option R :=
  f60.s1' L N self60 k1_e3 rec1 s18 s19 s20 s21 s22 s23 s24 s25 s26
def f60.l1 {R : Type} (L N : Nat) (self60 : Graph → Tree → Option ((List Bool))) (k1_e3 : (List Bool) → (List Bool) → Int → (List (List Move)) → Int → Int → (List Tree) → (List Bool) → Option R) : Nat → (List Bool) → (List Bool) → Int → Int → (List (List Move)) → Int → Int → (List Tree) → (List Bool) → Option R
  | 0, _, _, _, _, _, _, _, _, _ => none
  | n + 1, s18, s19, s20, s21, s22, s23, s24, s25, s26 => f60.s1 L N self60 k1_e3 (f60.l1 L N self60 k1_e3 n) s18 s19 s20 s21 s22 s23 s24 s25 s26
def f60.T1 (s18 : (List Bool)) (s19 : (List Bool)) (s20 : Int) (s21 : Int) (s22 : (List (List Move))) (s23 : Int) (s24 : Int) (s25 : (List Tree)) (s26 : (List Bool)) : T := mkT 120 [(2, (.ptr 1002 0)), (3, (.ptr 1003 0)), (5, (.row 1013)), (6, (.tv (.sl .bool) s18)), (7, (.tv (.sl .bool) s19)), (8, (.tv i64 s20)), (9, (.tv i64 s21))]
def f60.H1 (s18 : (List Bool)) (s19 : (List Bool)) (s20 : Int) (s21 : Int) (s22 : (List (List Move))) (s23 : Int) (s24 : Int) (s25 : (List Tree)) (s26 : (List Bool)) : H := [(1002, (.box [(.tv (.sl (.sl (.st 0))) s22)])), (1003, (.box [(.tv i64 s23), (.tv i64 s24), (.tv (.sl (.st 1)) s25)])), (1013, (.row 4 .bool s26))]
def f60.T1_e3 (z27 : (List Bool)) (z28 : (List Bool)) (z29 : Int) (z30 : (List (List Move))) (z31 : Int) (z32 : Int) (z33 : (List Tree)) (z34 : (List Bool)) : T := mkT 120 [(2, (.ptr 1002 0)), (3, (.ptr 1003 0)), (5, (.row 1013)), (6, (.tv (.sl .bool) z27)), (7, (.tv (.sl .bool) z28)), (8, (.tv i64 z29))]
def f60.H1_e3 (z27 : (List Bool)) (z28 : (List Bool)) (z29 : Int) (z30 : (List (List Move))) (z31 : Int) (z32 : Int) (z33 : (List Tree)) (z34 : (List Bool)) : H := [(1002, (.box [(.tv (.sl (.sl (.st 0))) z30)])), (1003, (.box [(.tv i64 z31), (.tv i64 z32), (.tv (.sl (.st 1)) z33)])), (1013, (.row 4 .bool z34))]
def f60.p1_e3' {R : Type} (L N : Nat) (self60 : Graph → Tree → Option ((List Bool))) (k0_e0 : (List Bool) → Option R) (rec0 : (List Bool) → (List Bool) → Int → (List (List Move)) → Int → Int → (List Tree) → (List Bool) → Option R) (z27 : (List Bool)) (z28 : (List Bool)) (z29 : Int) (z30 : (List (List Move))) (z31 : Int) (z32 : Int) (z33 : (List Tree)) (z34 : (List Bool)) : Option R :=
  rec0 z27 z28 (wi (z29 + (1 : Int))) z30 z31 z32 z33 z34
def f60.p1_e3 {R : Type} (L N : Nat) (self60 : Graph → Tree → Option ((List Bool))) (k0_e0 : (List Bool) → Option R) (rec0 : (List Bool) → (List Bool) → Int → (List (List Move)) → Int → Int → (List Tree) → (List Bool) → Option R) (z27 : (List Bool)) (z28 : (List Bool)) (z29 : Int) (z30 : (List (List Move))) (z31 : Int) (z32 : Int) (z33 : (List Tree)) (z34 : (List Bool)) : Option R :=
  f60.p1_e3' L N self60 k0_e0 rec0 z27 z28 z29 z30 z31 z32 z33 z34
def f60.s0' {R : Type} (L N : Nat) (self60 : Graph → Tree → Option ((List Bool))) (k0_e0 : (List Bool) → Option R) (rec0 : (List Bool) → (List Bool) → Int → (List (List Move)) → Int → Int → (List Tree) → (List Bool) → Option R) (w1 : (List Bool) → (List Bool) → Int → Int → (List (List Move)) → Int → Int → (List Tree) → (List Bool) → Option R) (s9 : (List Bool)) (s10 : (List Bool)) (s11 : Int) (s12 : (List (List Move))) (s13 : Int) (s14 : Int) (s15 : (List Tree)) (s16 : (List Bool)) : Option R :=
  bif (decide (s11 < (s16.length : Int))) then
    bif (s13 == (0 : Int)) then
      bif (decide (0 ≤ s11) && decide (s11 < (s16.length : Int))) then
        rec0 s9 s10 (wi (s11 + (1 : Int))) s12 s13 s14 s15 (s16.set s11.toNat true)
      else none
    else bif (s13 == (1 : Int)) then
      bif (decide (0 ≤ s11) && decide (s11 < (s9.length : Int))) then
        bif (decide (0 ≤ s11) && decide (s11 < (s16.length : Int))) then
          rec0 s9 s10 (wi (s11 + (1 : Int))) s12 s13 s14 s15 (s16.set s11.toNat (!(listAt s9 false s11.toNat)))
        else none
      else none
    else bif (s13 == (2 : Int)) then
      bif (decide (0 ≤ s11) && decide (s11 < (s9.length : Int))) then
        bif (listAt s9 false s11.toNat) then
          bif (decide (0 ≤ s11) && decide (s11 < (s10.length : Int))) then
            bif (decide (0 ≤ s11) && decide (s11 < (s16.length : Int))) then
              rec0 s9 s10 (wi (s11 + (1 : Int))) s12 s13 s14 s15 (s16.set s11.toNat (listAt s10 false s11.toNat))
            else none
          else none
        else bif (decide (0 ≤ s11) && decide (s11 < (s16.length : Int))) then
          rec0 s9 s10 (wi (s11 + (1 : Int))) s12 s13 s14 s15 (s16.set s11.toNat false)
        else none
      else none
    else w1 s9 s10 s11 (0 : Int) s12 s13 s14 s15 s16
  else k0_e0 s16
def f60.s0 {R : Type} (L N : Nat) (self60 : Graph → Tree → Option ((List Bool))) (k0_e0 : (List Bool) → Option R) (rec0 : (List Bool) → (List Bool) → Int → (List (List Move)) → Int → Int → (List Tree) → (List Bool) → Option R) (s9 : (List Bool)) (s10 : (List Bool)) (s11 : Int) (s12 : (List (List Move))) (s13 : Int) (s14 : Int) (s15 : (List Tree)) (s16 : (List Bool)) : Option R :=
  f60.s0' L N self60 k0_e0 rec0 (fun s18 s19 s20 s21 s22 s23 s24 s25 s26 => f60.l1 L N self60 (fun z27 z28 z29 z30 z31 z32 z33 z34 => f60.p1_e3 L N self60 k0_e0 rec0 z27 z28 z29 z30 z31 z32 z33 z34) L s18 s19 s20 s21 s22 s23 s24 s25 s26) s9 s10 s11 s12 s13 s14 s15 s16
def f60.l0 {R : Type} (L N : Nat) (self60 : Graph → Tree → Option ((List Bool))) (k0_e0 : (List Bool) → Option R) : Nat → (List Bool) → (List Bool) → Int → (List (List Move)) → Int → Int → (List Tree) → (List Bool) → Option R
  | 0, _, _, _, _, _, _, _, _ => none
  | n + 1, s9, s10, s11, s12, s13, s14, s15, s16 => f60.s0 L N self60 k0_e0 (f60.l0 L N self60 k0_e0 n) s9 s10 s11 s12 s13 s14 s15 s16
def f60.T0 (s9 : (List Bool)) (s10 : (List Bool)) (s11 : Int) (s12 : (List (List Move))) (s13 : Int) (s14 : Int) (s15 : (List Tree)) (s16 : (List Bool)) : T := mkT 120 [(2, (.ptr 1002 0)), (3, (.ptr 1003 0)), (5, (.row 1013)), (6, (.tv (.sl .bool) s9)), (7, (.tv (.sl .bool) s10)), (8, (.tv i64 s11))]
def f60.H0 (s9 : (List Bool)) (s10 : (List Bool)) (s11 : Int) (s12 : (List (List Move))) (s13 : Int) (s14 : Int) (s15 : (List Tree)) (s16 : (List Bool)) : H := [(1002, (.box [(.tv (.sl (.sl (.st 0))) s12)])), (1003, (.box [(.tv i64 s13), (.tv i64 s14), (.tv (.sl (.st 1)) s15)])), (1013, (.row 4 .bool s16))]
def f60.T0_e0 (z17 : (List Bool)) : T := mkT 120 [(5, (.row 1013))]
def f60.H0_e0 (z17 : (List Bool)) : H := [(1013, (.row 4 .bool z17))]
def f60.p0_e0' {R : Type} (L N : Nat) (self60 : Graph → Tree → Option ((List Bool))) (k : (List Bool) → Option R) (z17 : (List Bool)) : Option R :=
  k z17
def f60.p0_e0 {R : Type} (L N : Nat) (self60 : Graph → Tree → Option ((List Bool))) (k : (List Bool) → Option R) (z17 : (List Bool)) : Option R :=
  f60.p0_e0' L N self60 k z17
def f60.s3' {R : Type} (L N : Nat) (self60 : Graph → Tree → Option ((List Bool))) (k3_e3 : Int → (List (List Move)) → Int → Int → (List Tree) → (List Bool) → Option R) (rec3 : Int → Int → (List (List Move)) → Int → Int → (List Tree) → (List Bool) → Option R) (s64 : Int) (s65 : Int) (s66 : (List (List Move))) (s67 : Int) (s68 : Int) (s69 : (List Tree)) (s70 : (List Bool)) : Option R :=
  bif (decide (0 ≤ s64) && decide (s64 < (s66.length : Int))) then
    bif (decide (s65 < ((listAt s66 [] s64.toNat).length : Int))) then
      bif (decide (0 ≤ s64) && decide (s64 < (s70.length : Int))) then
        bif (listAt s70 false s64.toNat) then
          bif (decide (0 ≤ s64) && decide (s64 < (s70.length : Int))) then
            rec3 s64 (wi (s65 + (1 : Int))) s66 s67 s68 s69 (s70.set s64.toNat true)
          else none
        else bif (decide (0 ≤ s64) && decide (s64 < (s66.length : Int))) then
          bif (decide (0 ≤ s65) && decide (s65 < ((listAt s66 [] s64.toNat).length : Int))) then
            bif ((listAt (listAt s66 [] s64.toNat) (Ty.dflt (.st 0)) s65.toNat).act == s68) then
              bif (decide (0 ≤ s64) && decide (s64 < (s66.length : Int))) then
                bif (decide (0 ≤ s65) && decide (s65 < ((listAt s66 [] s64.toNat).length : Int))) then
                  bif (decide (0 ≤ (listAt (listAt s66 [] s64.toNat) (Ty.dflt (.st 0)) s65.toNat).to) && decide ((listAt (listAt s66 [] s64.toNat) (Ty.dflt (.st 0)) s65.toNat).to < (s70.length : Int))) then
                    bif (decide (0 ≤ s64) && decide (s64 < (s70.length : Int))) then
                      rec3 s64 (wi (s65 + (1 : Int))) s66 s67 s68 s69 (s70.set s64.toNat (listAt s70 false ((listAt (listAt s66 [] s64.toNat) (Ty.dflt (.st 0)) s65.toNat).to).toNat))
                    else none
                  else none
                else none
              else none
            else bif (decide (0 ≤ s64) && decide (s64 < (s70.length : Int))) then
              rec3 s64 (wi (s65 + (1 : Int))) s66 s67 s68 s69 (s70.set s64.toNat false)
            else none
          else none
        else none
      else none
    else k3_e3 s64 s66 s67 s68 s69 s70
  else none
def f60.s3 {R : Type} (L N : Nat) (self60 : Graph → Tree → Option ((List Bool))) (k3_e3 : Int → (List (List Move)) → Int → Int → (List Tree) → (List Bool) → Option R) (rec3 : Int → Int → (List (List Move)) → Int → Int → (List Tree) → (List Bool) → Option R) (s64 : Int) (s65 : Int) (s66 : (List (List Move))) (s67 : Int) (s68 : Int) (s69 : (List Tree)) (s70 : (List Bool)) : Option R :=
  f60.s3' L N self60 k3_e3 rec3 s64 s65 s66 s67 s68 s69 s70
def f60.l3 {R : Type} (L N : Nat) (self60 : Graph → Tree → Option ((List Bool))) (k3_e3 : Int → (List (List Move)) → Int → Int → (List Tree) → (List Bool) → Option R) : Nat → Int → Int → (List (List Move)) → Int → Int → (List Tree) → (List Bool) → Option R
  | 0, _, _, _, _, _, _, _ => none
  | n + 1, s64, s65, s66, s67, s68, s69, s70 => f60.s3 L N self60 k3_e3 (f60.l3 L N self60 k3_e3 n) s64 s65 s66 s67 s68 s69 s70
def f60.T3 (s64 : Int) (s65 : Int) (s66 : (List (List Move))) (s67 : Int) (s68 : Int) (s69 : (List Tree)) (s70 : (List Bool)) : T := mkT 120 [(2, (.ptr 1002 0)), (3, (.ptr 1003 0)), (5, (.row 1013)), (6, (.row 1013)), (7, (.row 1013)), (8, (.tv i64 s64)), (9, (.tv i64 s65))]
def f60.H3 (s64 : Int) (s65 : Int) (s66 : (List (List Move))) (s67 : Int) (s68 : Int) (s69 : (List Tree)) (s70 : (List Bool)) : H := [(1002, (.box [(.tv (.sl (.sl (.st 0))) s66)])), (1003, (.box [(.tv i64 s67), (.tv i64 s68), (.tv (.sl (.st 1)) s69)])), (1013, (.row 4 .bool s70))]
def f60.T3_e3 (z71 : Int) (z72 : (List (List Move))) (z73 : Int) (z74 : Int) (z75 : (List Tree)) (z76 : (List Bool)) : T := mkT 120 [(2, (.ptr 1002 0)), (3, (.ptr 1003 0)), (5, (.row 1013)), (6, (.row 1013)), (7, (.row 1013)), (8, (.tv i64 z71))]
def f60.H3_e3 (z71 : Int) (z72 : (List (List Move))) (z73 : Int) (z74 : Int) (z75 : (List Tree)) (z76 : (List Bool)) : H := [(1002, (.box [(.tv (.sl (.sl (.st 0))) z72)])), (1003, (.box [(.tv i64 z73), (.tv i64 z74), (.tv (.sl (.st 1)) z75)])), (1013, (.row 4 .bool z76))]
def f60.p3_e3' {R : Type} (L N : Nat) (self60 : Graph → Tree → Option ((List Bool))) (k2_e0 : (List Bool) → Option R) (rec2 : Int → (List (List Move)) → Int → Int → (List Tree) → (List Bool) → Option R) (z71 : Int) (z72 : (List (List Move))) (z73 : Int) (z74 : Int) (z75 : (List Tree)) (z76 : (List Bool)) : Option R :=
  rec2 (wi (z71 + (1 : Int))) z72 z73 z74 z75 z76
def f60.p3_e3 {R : Type} (L N : Nat) (self60 : Graph → Tree → Option ((List Bool))) (k2_e0 : (List Bool) → Option R) (rec2 : Int → (List (List Move)) → Int → Int → (List Tree) → (List Bool) → Option R) (z71 : Int) (z72 : (List (List Move))) (z73 : Int) (z74 : Int) (z75 : (List Tree)) (z76 : (List Bool)) : Option R :=
  f60.p3_e3' L N self60 k2_e0 rec2 z71 z72 z73 z74 z75 z76
def f60.s2' {R : Type} (L N : Nat) (self60 : Graph → Tree → Option ((List Bool))) (k2_e0 : (List Bool) → Option R) (rec2 : Int → (List (List Move)) → Int → Int → (List Tree) → (List Bool) → Option R) (w3 : Int → Int → (List (List Move)) → Int → Int → (List Tree) → (List Bool) → Option R) (s57 : Int) (s58 : (List (List Move))) (s59 : Int) (s60 : Int) (s61 : (List Tree)) (s62 : (List Bool)) : Option R :=
  bif (decide (s57 < (s62.length : Int))) then
    bif (s59 == (0 : Int)) then
      bif (decide (0 ≤ s57) && decide (s57 < (s62.length : Int))) then
        rec2 (wi (s57 + (1 : Int))) s58 s59 s60 s61 (s62.set s57.toNat true)
      else none
    else bif (s59 == (1 : Int)) then
      bif (decide (0 ≤ s57) && decide (s57 < (s62.length : Int))) then
        bif (decide (0 ≤ s57) && decide (s57 < (s62.length : Int))) then
          rec2 (wi (s57 + (1 : Int))) s58 s59 s60 s61 (s62.set s57.toNat (!(listAt s62 false s57.toNat)))
        else none
      else none
    else bif (s59 == (2 : Int)) then
      bif (decide (0 ≤ s57) && decide (s57 < (s62.length : Int))) then
        bif (listAt s62 false s57.toNat) then
          bif (decide (0 ≤ s57) && decide (s57 < (s62.length : Int))) then
            bif (decide (0 ≤ s57) && decide (s57 < (s62.length : Int))) then
              rec2 (wi (s57 + (1 : Int))) s58 s59 s60 s61 (s62.set s57.toNat (listAt s62 false s57.toNat))
            else none
          else none
        else bif (decide (0 ≤ s57) && decide (s57 < (s62.length : Int))) then
          rec2 (wi (s57 + (1 : Int))) s58 s59 s60 s61 (s62.set s57.toNat false)
        else none
      else none
    else w3 s57 (0 : Int) s58 s59 s60 s61 s62
  else k2_e0 s62
def f60.s2 {R : Type} (L N : Nat) (self60 : Graph → Tree → Option ((List Bool))) (k2_e0 : (List Bool) → Option R) (rec2 : Int → (List (List Move)) → Int → Int → (List Tree) → (List Bool) → Option R) (s57 : Int) (s58 : (List (List Move))) (s59 : Int) (s60 : Int) (s61 : (List Tree)) (s62 : (List Bool)) : Option R :=
  f60.s2' L N self60 k2_e0 rec2 (fun s64 s65 s66 s67 s68 s69 s70 => f60.l3 L N self60 (fun z71 z72 z73 z74 z75 z76 => f60.p3_e3 L N self60 k2_e0 rec2 z71 z72 z73 z74 z75 z76) L s64 s65 s66 s67 s68 s69 s70) s57 s58 s59 s60 s61 s62
def f60.l2 {R : Type} (L N : Nat) (self60 : Graph → Tree → Option ((List Bool))) (k2_e0 : (List Bool) → Option R) : Nat → Int → (List (List Move)) → Int → Int → (List Tree) → (List Bool) → Option R
  | 0, _, _, _, _, _, _ => none
  | n + 1, s57, s58, s59, s60, s61, s62 => f60.s2 L N self60 k2_e0 (f60.l2 L N self60 k2_e0 n) s57 s58 s59 s60 s61 s62
def f60.T2 (s57 : Int) (s58 : (List (List Move))) (s59 : Int) (s60 : Int) (s61 : (List Tree)) (s62 : (List Bool)) : T := mkT 120 [(2, (.ptr 1002 0)), (3, (.ptr 1003 0)), (5, (.row 1013)), (6, (.row 1013)), (7, (.row 1013)), (8, (.tv i64 s57))]
def f60.H2 (s57 : Int) (s58 : (List (List Move))) (s59 : Int) (s60 : Int) (s61 : (List Tree)) (s62 : (List Bool)) : H := [(1002, (.box [(.tv (.sl (.sl (.st 0))) s58)])), (1003, (.box [(.tv i64 s59), (.tv i64 s60), (.tv (.sl (.st 1)) s61)])), (1013, (.row 4 .bool s62))]
def f60.T2_e0 (z63 : (List Bool)) : T := mkT 120 [(5, (.row 1013))]
def f60.H2_e0 (z63 : (List Bool)) : H := [(1013, (.row 4 .bool z63))]
def f60.p2_e0' {R : Type} (L N : Nat) (self60 : Graph → Tree → Option ((List Bool))) (k : (List Bool) → Option R) (z63 : (List Bool)) : Option R :=
  k z63
def f60.p2_e0 {R : Type} (L N : Nat) (self60 : Graph → Tree → Option ((List Bool))) (k : (List Bool) → Option R) (z63 : (List Bool)) : Option R :=
  f60.p2_e0' L N self60 k z63
def f60.j0' {R : Type} (L N : Nat) (self60 : Graph → Tree → Option ((List Bool))) (k : (List Bool) → Option R) (w0 : (List Bool) → (List Bool) → Int → (List (List Move)) → Int → Int → (List Tree) → (List Bool) → Option R) (v2 : (List Bool)) (v3 : (List Bool)) (v4 : (List (List Move))) (v5 : Int) (v6 : Int) (v7 : (List Tree)) (v8 : (List Bool)) : Option R :=
  w0 v2 v3 (0 : Int) v4 v5 v6 v7 v8
def f60.j1' {R : Type} (L N : Nat) (self60 : Graph → Tree → Option ((List Bool))) (k : (List Bool) → Option R) (w2 : Int → (List (List Move)) → Int → Int → (List Tree) → (List Bool) → Option R) (v52 : (List (List Move))) (v53 : Int) (v54 : Int) (v55 : (List Tree)) (v56 : (List Bool)) : Option R :=
  w2 (0 : Int) v52 v53 v54 v55 v56
def f60.b' {R : Type} (L N : Nat) (self60 : Graph → Tree → Option ((List Bool))) (k : (List Bool) → Option R) (w0 : (List Bool) → (List Bool) → Int → (List (List Move)) → Int → Int → (List Tree) → (List Bool) → Option R) (w2 : Int → (List (List Move)) → Int → Int → (List Tree) → (List Bool) → Option R) (x0 : Graph) (x1 : Tree) : Option R :=
  bif (decide (0 ≤ (x0.moves.length : Int)) && decide ((x0.moves.length : Int) ≤ (lim : Int))) then
    bif (decide ((x1.parts.length : Int) > (0 : Int))) then
      bif (decide (0 ≤ (0 : Int)) && decide ((0 : Int) < (x1.parts.length : Int))) then
        (self60 (Graph.mk x0.moves) (listAt x1.parts (Ty.dflt (.st 1)) (0 : Int).toNat)).bind fun y0 =>
        bif (decide (0 ≤ (wi ((x1.parts.length : Int) - (1 : Int)))) && decide ((wi ((x1.parts.length : Int) - (1 : Int))) < (x1.parts.length : Int))) then
          (self60 (Graph.mk x0.moves) (listAt x1.parts (Ty.dflt (.st 1)) (wi ((x1.parts.length : Int) - (1 : Int))).toNat)).bind fun y1 =>
          f60.j0' L N self60 k w0 y0 y1 x0.moves x1.op x1.n x1.parts (List.replicate (x0.moves.length : Int).toNat false)
        else none
      else none
    else f60.j1' L N self60 k w2 x0.moves x1.op x1.n x1.parts (List.replicate (x0.moves.length : Int).toNat false)
  else none
def f60.b {R : Type} (L N : Nat) (self60 : Graph → Tree → Option ((List Bool))) (k : (List Bool) → Option R) (x0 : Graph) (x1 : Tree) : Option R :=
  f60.b' L N self60 k (fun s9 s10 s11 s12 s13 s14 s15 s16 => f60.l0 L N self60 (fun z17 => f60.p0_e0 L N self60 k z17) L s9 s10 s11 s12 s13 s14 s15 s16) (fun s57 s58 s59 s60 s61 s62 => f60.l2 L N self60 (fun z63 => f60.p2_e0 L N self60 k z63) L s57 s58 s59 s60 s61 s62) x0 x1
def f60 (L N : Nat) : Nat → Graph → Tree → Option ((List Bool))
  | 0, _, _ => none
  | n + 1, x0, x1 => f60.b L N (f60 L N n) some x0 x1
def f60.ent (L N m : Nat) (args : List AV) (vw : View) (site : Nat) : Ans := match coeD [(.st 2), (.st 1)] vw args with
  | some (d, u) => ⟨(List Bool), f60 L N m d.1 d.2.1, fun y => ((.tv (.sl .bool) y), u, [])⟩
  | none => Ans.no
def Φ60s (L N m : Nat) : Tells := (addT (Φ59 L N) 60 (f60.ent L N m))
noncomputable def E60 (L N m : Nat) : Env := { P := Try.prog, ty := tyOf, Φ := Φ60s L N m, inl := inlT, live := lives, liveX := livesX, L := L, dp := none, prom := promT, heal := healT, ren := renT }
noncomputable def f60.c0 : Code := loopAt 0 (codeOf Try.f60)
noncomputable def f60.c1 : Code := loopAt 3 f60.c0
theorem f60.s1_pre {R : Type} (L N m : Nat) (κ : Ex → T → H → Option R) (rec : T → H → Option R) (s18 : (List Bool)) (s19 : (List Bool)) (s20 : Int) (s21 : Int) (s22 : (List (List Move))) (s23 : Int) (s24 : Int) (s25 : (List Tree)) (s26 : (List Bool)) :
    evRd (E60 L N m) (evCallI (E60 L N m) 1 2000) 1000 60 120 3 f60.c1 κ rec (f60.T1 s18 s19 s20 s21 s22 s23 s24 s25 s26) (f60.H1 s18 s19 s20 s21 s22 s23 s24 s25 s26)
    = f60.s1' L N (f60 L N m) (fun z27 z28 z29 z30 z31 z32 z33 z34 => κ (.exit 3) (f60.T1_e3 z27 z28 z29 z30 z31 z32 z33 z34) (f60.H1_e3 z27 z28 z29 z30 z31 z32 z33 z34)) (fun s18 s19 s20 s21 s22 s23 s24 s25 s26 => rec (f60.T1 s18 s19 s20 s21 s22 s23 s24 s25 s26) (f60.H1 s18 s19 s20 s21 s22 s23 s24 s25 s26)) s18 s19 s20 s21 s22 s23 s24 s25 s26 := by kernel_rfl
theorem f60.s1_eq {R : Type} (L N m : Nat) (κ : Ex → T → H → Option R) (rec : T → H → Option R) (s18 : (List Bool)) (s19 : (List Bool)) (s20 : Int) (s21 : Int) (s22 : (List (List Move))) (s23 : Int) (s24 : Int) (s25 : (List Tree)) (s26 : (List Bool)) :
    evRd (E60 L N m) (evCallI (E60 L N m) 1 2000) 1000 60 120 3 f60.c1 κ rec (f60.T1 s18 s19 s20 s21 s22 s23 s24 s25 s26) (f60.H1 s18 s19 s20 s21 s22 s23 s24 s25 s26)
    = f60.s1 L N (f60 L N m) (fun z27 z28 z29 z30 z31 z32 z33 z34 => κ (.exit 3) (f60.T1_e3 z27 z28 z29 z30 z31 z32 z33 z34) (f60.H1_e3 z27 z28 z29 z30 z31 z32 z33 z34)) (fun s18 s19 s20 s21 s22 s23 s24 s25 s26 => rec (f60.T1 s18 s19 s20 s21 s22 s23 s24 s25 s26) (f60.H1 s18 s19 s20 s21 s22 s23 s24 s25 s26)) s18 s19 s20 s21 s22 s23 s24 s25 s26 := by
  rw [f60.s1_pre]
  unfold f60.s1
  rfl
theorem f60.l1_eq {R : Type} (L N m : Nat) (κ : Ex → T → H → Option R) : ∀ (n : Nat) (s18 : (List Bool)) (s19 : (List Bool)) (s20 : Int) (s21 : Int) (s22 : (List (List Move))) (s23 : Int) (s24 : Int) (s25 : (List Tree)) (s26 : (List Bool)),
    evLp (E60 L N m) (evCallI (E60 L N m) 1 2000) 1000 60 120 3 f60.c1 κ n (f60.T1 s18 s19 s20 s21 s22 s23 s24 s25 s26) (f60.H1 s18 s19 s20 s21 s22 s23 s24 s25 s26)
    = f60.l1 L N (f60 L N m) (fun z27 z28 z29 z30 z31 z32 z33 z34 => κ (.exit 3) (f60.T1_e3 z27 z28 z29 z30 z31 z32 z33 z34) (f60.H1_e3 z27 z28 z29 z30 z31 z32 z33 z34)) n s18 s19 s20 s21 s22 s23 s24 s25 s26 := by
  intro n
  induction n with
  | zero => intros; rfl
  | succ n ih =>
    intro s18 s19 s20 s21 s22 s23 s24 s25 s26
    rw [evLp_succ, f60.s1_eq]
    simp only [ih]
    rfl
theorem f60.p1_e3_pre {R : Type} (L N m : Nat) (κ : Ex → T → H → Option R) (rec : T → H → Option R) (z27 : (List Bool)) (z28 : (List Bool)) (z29 : Int) (z30 : (List (List Move))) (z31 : Int) (z32 : Int) (z33 : (List Tree)) (z34 : (List Bool)) :
    (contAt (E60 L N m) (evCallI (E60 L N m) 1 2000) 1000 60 120 3 f60.c0 (stepK (outK (keepT 120 ((E60 L N m).liveX 60 0).1) (keepH 1000 ((E60 L N m).liveX 60 0).2) κ) fun t h => rec (backK 1000 120 ((E60 L N m).live 60 0).1 ((E60 L N m).live 60 0).2 ((E60 L N m).heal 60 0) ((E60 L N m).ren 60 0) t h).1 (backK 1000 120 ((E60 L N m).live 60 0).1 ((E60 L N m).live 60 0).2 ((E60 L N m).heal 60 0) ((E60 L N m).ren 60 0) t h).2)) (.exit 3) (f60.T1_e3 z27 z28 z29 z30 z31 z32 z33 z34) (f60.H1_e3 z27 z28 z29 z30 z31 z32 z33 z34)
    = f60.p1_e3' L N (f60 L N m) (fun z17 => κ (.exit 0) (f60.T0_e0 z17) (f60.H0_e0 z17)) (fun s9 s10 s11 s12 s13 s14 s15 s16 => rec (f60.T0 s9 s10 s11 s12 s13 s14 s15 s16) (f60.H0 s9 s10 s11 s12 s13 s14 s15 s16)) z27 z28 z29 z30 z31 z32 z33 z34 := by kernel_rfl
theorem f60.p1_e3_eq {R : Type} (L N m : Nat) (κ : Ex → T → H → Option R) (rec : T → H → Option R) (z27 : (List Bool)) (z28 : (List Bool)) (z29 : Int) (z30 : (List (List Move))) (z31 : Int) (z32 : Int) (z33 : (List Tree)) (z34 : (List Bool)) :
    (contAt (E60 L N m) (evCallI (E60 L N m) 1 2000) 1000 60 120 3 f60.c0 (stepK (outK (keepT 120 ((E60 L N m).liveX 60 0).1) (keepH 1000 ((E60 L N m).liveX 60 0).2) κ) fun t h => rec (backK 1000 120 ((E60 L N m).live 60 0).1 ((E60 L N m).live 60 0).2 ((E60 L N m).heal 60 0) ((E60 L N m).ren 60 0) t h).1 (backK 1000 120 ((E60 L N m).live 60 0).1 ((E60 L N m).live 60 0).2 ((E60 L N m).heal 60 0) ((E60 L N m).ren 60 0) t h).2)) (.exit 3) (f60.T1_e3 z27 z28 z29 z30 z31 z32 z33 z34) (f60.H1_e3 z27 z28 z29 z30 z31 z32 z33 z34)
    = f60.p1_e3 L N (f60 L N m) (fun z17 => κ (.exit 0) (f60.T0_e0 z17) (f60.H0_e0 z17)) (fun s9 s10 s11 s12 s13 s14 s15 s16 => rec (f60.T0 s9 s10 s11 s12 s13 s14 s15 s16) (f60.H0 s9 s10 s11 s12 s13 s14 s15 s16)) z27 z28 z29 z30 z31 z32 z33 z34 := by
  rw [f60.p1_e3_pre]
  unfold f60.p1_e3
  rfl
theorem f60.s0_pre {R : Type} (L N m : Nat) (κ : Ex → T → H → Option R) (rec : T → H → Option R) (s9 : (List Bool)) (s10 : (List Bool)) (s11 : Int) (s12 : (List (List Move))) (s13 : Int) (s14 : Int) (s15 : (List Tree)) (s16 : (List Bool)) :
    evRd (E60 L N m) (evCallI (E60 L N m) 1 2000) 1000 60 120 0 f60.c0 κ rec (f60.T0 s9 s10 s11 s12 s13 s14 s15 s16) (f60.H0 s9 s10 s11 s12 s13 s14 s15 s16)
    = f60.s0' L N (f60 L N m) (fun z17 => κ (.exit 0) (f60.T0_e0 z17) (f60.H0_e0 z17)) (fun s9 s10 s11 s12 s13 s14 s15 s16 => rec (f60.T0 s9 s10 s11 s12 s13 s14 s15 s16) (f60.H0 s9 s10 s11 s12 s13 s14 s15 s16)) (fun s18 s19 s20 s21 s22 s23 s24 s25 s26 => evLp (E60 L N m) (evCallI (E60 L N m) 1 2000) 1000 60 120 3 f60.c1 (contAt (E60 L N m) (evCallI (E60 L N m) 1 2000) 1000 60 120 3 f60.c0 (stepK (outK (keepT 120 ((E60 L N m).liveX 60 0).1) (keepH 1000 ((E60 L N m).liveX 60 0).2) κ) fun t h => rec (backK 1000 120 ((E60 L N m).live 60 0).1 ((E60 L N m).live 60 0).2 ((E60 L N m).heal 60 0) ((E60 L N m).ren 60 0) t h).1 (backK 1000 120 ((E60 L N m).live 60 0).1 ((E60 L N m).live 60 0).2 ((E60 L N m).heal 60 0) ((E60 L N m).ren 60 0) t h).2)) L (f60.T1 s18 s19 s20 s21 s22 s23 s24 s25 s26) (f60.H1 s18 s19 s20 s21 s22 s23 s24 s25 s26)) s9 s10 s11 s12 s13 s14 s15 s16 := by kernel_rfl
theorem f60.s0_eq {R : Type} (L N m : Nat) (κ : Ex → T → H → Option R) (rec : T → H → Option R) (s9 : (List Bool)) (s10 : (List Bool)) (s11 : Int) (s12 : (List (List Move))) (s13 : Int) (s14 : Int) (s15 : (List Tree)) (s16 : (List Bool)) :
    evRd (E60 L N m) (evCallI (E60 L N m) 1 2000) 1000 60 120 0 f60.c0 κ rec (f60.T0 s9 s10 s11 s12 s13 s14 s15 s16) (f60.H0 s9 s10 s11 s12 s13 s14 s15 s16)
    = f60.s0 L N (f60 L N m) (fun z17 => κ (.exit 0) (f60.T0_e0 z17) (f60.H0_e0 z17)) (fun s9 s10 s11 s12 s13 s14 s15 s16 => rec (f60.T0 s9 s10 s11 s12 s13 s14 s15 s16) (f60.H0 s9 s10 s11 s12 s13 s14 s15 s16)) s9 s10 s11 s12 s13 s14 s15 s16 := by
  rw [f60.s0_pre]
  unfold f60.s0
  simp only [f60.l1_eq, f60.p1_e3_eq]
theorem f60.l0_eq {R : Type} (L N m : Nat) (κ : Ex → T → H → Option R) : ∀ (n : Nat) (s9 : (List Bool)) (s10 : (List Bool)) (s11 : Int) (s12 : (List (List Move))) (s13 : Int) (s14 : Int) (s15 : (List Tree)) (s16 : (List Bool)),
    evLp (E60 L N m) (evCallI (E60 L N m) 1 2000) 1000 60 120 0 f60.c0 κ n (f60.T0 s9 s10 s11 s12 s13 s14 s15 s16) (f60.H0 s9 s10 s11 s12 s13 s14 s15 s16)
    = f60.l0 L N (f60 L N m) (fun z17 => κ (.exit 0) (f60.T0_e0 z17) (f60.H0_e0 z17)) n s9 s10 s11 s12 s13 s14 s15 s16 := by
  intro n
  induction n with
  | zero => intros; rfl
  | succ n ih =>
    intro s9 s10 s11 s12 s13 s14 s15 s16
    rw [evLp_succ, f60.s0_eq]
    simp only [ih]
    rfl
theorem f60.p0_e0_pre {R : Type} (L N m : Nat) (κ : AV → Option R) (z17 : (List Bool)) :
    (contAt (E60 L N m) (evCallI (E60 L N m) 1 2000) 1000 60 120 0 (codeOf Try.f60) (finK (E60 L N m) 1000 Try.f60 (finC (.one (.sl .bool)) κ))) (.exit 0) (f60.T0_e0 z17) (f60.H0_e0 z17)
    = f60.p0_e0' L N (f60 L N m) (fun a0 => κ (.tv (.sl .bool) a0)) z17 := by kernel_rfl
theorem f60.p0_e0_eq {R : Type} (L N m : Nat) (κ : AV → Option R) (z17 : (List Bool)) :
    (contAt (E60 L N m) (evCallI (E60 L N m) 1 2000) 1000 60 120 0 (codeOf Try.f60) (finK (E60 L N m) 1000 Try.f60 (finC (.one (.sl .bool)) κ))) (.exit 0) (f60.T0_e0 z17) (f60.H0_e0 z17)
    = f60.p0_e0 L N (f60 L N m) (fun a0 => κ (.tv (.sl .bool) a0)) z17 := by
  rw [f60.p0_e0_pre]
  unfold f60.p0_e0
  rfl
noncomputable def f60.c2 : Code := loopAt 0 (codeOf Try.f60)
noncomputable def f60.c3 : Code := loopAt 3 f60.c2
theorem f60.s3_pre {R : Type} (L N m : Nat) (κ : Ex → T → H → Option R) (rec : T → H → Option R) (s64 : Int) (s65 : Int) (s66 : (List (List Move))) (s67 : Int) (s68 : Int) (s69 : (List Tree)) (s70 : (List Bool)) :
    evRd (E60 L N m) (evCallI (E60 L N m) 1 2000) 1000 60 120 3 f60.c3 κ rec (f60.T3 s64 s65 s66 s67 s68 s69 s70) (f60.H3 s64 s65 s66 s67 s68 s69 s70)
    = f60.s3' L N (f60 L N m) (fun z71 z72 z73 z74 z75 z76 => κ (.exit 3) (f60.T3_e3 z71 z72 z73 z74 z75 z76) (f60.H3_e3 z71 z72 z73 z74 z75 z76)) (fun s64 s65 s66 s67 s68 s69 s70 => rec (f60.T3 s64 s65 s66 s67 s68 s69 s70) (f60.H3 s64 s65 s66 s67 s68 s69 s70)) s64 s65 s66 s67 s68 s69 s70 := by kernel_rfl
theorem f60.s3_eq {R : Type} (L N m : Nat) (κ : Ex → T → H → Option R) (rec : T → H → Option R) (s64 : Int) (s65 : Int) (s66 : (List (List Move))) (s67 : Int) (s68 : Int) (s69 : (List Tree)) (s70 : (List Bool)) :
    evRd (E60 L N m) (evCallI (E60 L N m) 1 2000) 1000 60 120 3 f60.c3 κ rec (f60.T3 s64 s65 s66 s67 s68 s69 s70) (f60.H3 s64 s65 s66 s67 s68 s69 s70)
    = f60.s3 L N (f60 L N m) (fun z71 z72 z73 z74 z75 z76 => κ (.exit 3) (f60.T3_e3 z71 z72 z73 z74 z75 z76) (f60.H3_e3 z71 z72 z73 z74 z75 z76)) (fun s64 s65 s66 s67 s68 s69 s70 => rec (f60.T3 s64 s65 s66 s67 s68 s69 s70) (f60.H3 s64 s65 s66 s67 s68 s69 s70)) s64 s65 s66 s67 s68 s69 s70 := by
  rw [f60.s3_pre]
  unfold f60.s3
  rfl
theorem f60.l3_eq {R : Type} (L N m : Nat) (κ : Ex → T → H → Option R) : ∀ (n : Nat) (s64 : Int) (s65 : Int) (s66 : (List (List Move))) (s67 : Int) (s68 : Int) (s69 : (List Tree)) (s70 : (List Bool)),
    evLp (E60 L N m) (evCallI (E60 L N m) 1 2000) 1000 60 120 3 f60.c3 κ n (f60.T3 s64 s65 s66 s67 s68 s69 s70) (f60.H3 s64 s65 s66 s67 s68 s69 s70)
    = f60.l3 L N (f60 L N m) (fun z71 z72 z73 z74 z75 z76 => κ (.exit 3) (f60.T3_e3 z71 z72 z73 z74 z75 z76) (f60.H3_e3 z71 z72 z73 z74 z75 z76)) n s64 s65 s66 s67 s68 s69 s70 := by
  intro n
  induction n with
  | zero => intros; rfl
  | succ n ih =>
    intro s64 s65 s66 s67 s68 s69 s70
    rw [evLp_succ, f60.s3_eq]
    simp only [ih]
    rfl
theorem f60.p3_e3_pre {R : Type} (L N m : Nat) (κ : Ex → T → H → Option R) (rec : T → H → Option R) (z71 : Int) (z72 : (List (List Move))) (z73 : Int) (z74 : Int) (z75 : (List Tree)) (z76 : (List Bool)) :
    (contAt (E60 L N m) (evCallI (E60 L N m) 1 2000) 1000 60 120 3 f60.c2 (stepK (outK (keepT 120 ((E60 L N m).liveX 60 0).1) (keepH 1000 ((E60 L N m).liveX 60 0).2) κ) fun t h => rec (backK 1000 120 ((E60 L N m).live 60 0).1 ((E60 L N m).live 60 0).2 ((E60 L N m).heal 60 0) ((E60 L N m).ren 60 0) t h).1 (backK 1000 120 ((E60 L N m).live 60 0).1 ((E60 L N m).live 60 0).2 ((E60 L N m).heal 60 0) ((E60 L N m).ren 60 0) t h).2)) (.exit 3) (f60.T3_e3 z71 z72 z73 z74 z75 z76) (f60.H3_e3 z71 z72 z73 z74 z75 z76)
    = f60.p3_e3' L N (f60 L N m) (fun z63 => κ (.exit 0) (f60.T2_e0 z63) (f60.H2_e0 z63)) (fun s57 s58 s59 s60 s61 s62 => rec (f60.T2 s57 s58 s59 s60 s61 s62) (f60.H2 s57 s58 s59 s60 s61 s62)) z71 z72 z73 z74 z75 z76 := by kernel_rfl
theorem f60.p3_e3_eq {R : Type} (L N m : Nat) (κ : Ex → T → H → Option R) (rec : T → H → Option R) (z71 : Int) (z72 : (List (List Move))) (z73 : Int) (z74 : Int) (z75 : (List Tree)) (z76 : (List Bool)) :
    (contAt (E60 L N m) (evCallI (E60 L N m) 1 2000) 1000 60 120 3 f60.c2 (stepK (outK (keepT 120 ((E60 L N m).liveX 60 0).1) (keepH 1000 ((E60 L N m).liveX 60 0).2) κ) fun t h => rec (backK 1000 120 ((E60 L N m).live 60 0).1 ((E60 L N m).live 60 0).2 ((E60 L N m).heal 60 0) ((E60 L N m).ren 60 0) t h).1 (backK 1000 120 ((E60 L N m).live 60 0).1 ((E60 L N m).live 60 0).2 ((E60 L N m).heal 60 0) ((E60 L N m).ren 60 0) t h).2)) (.exit 3) (f60.T3_e3 z71 z72 z73 z74 z75 z76) (f60.H3_e3 z71 z72 z73 z74 z75 z76)
    = f60.p3_e3 L N (f60 L N m) (fun z63 => κ (.exit 0) (f60.T2_e0 z63) (f60.H2_e0 z63)) (fun s57 s58 s59 s60 s61 s62 => rec (f60.T2 s57 s58 s59 s60 s61 s62) (f60.H2 s57 s58 s59 s60 s61 s62)) z71 z72 z73 z74 z75 z76 := by
  rw [f60.p3_e3_pre]
  unfold f60.p3_e3
  rfl
theorem f60.s2_pre {R : Type} (L N m : Nat) (κ : Ex → T → H → Option R) (rec : T → H → Option R) (s57 : Int) (s58 : (List (List Move))) (s59 : Int) (s60 : Int) (s61 : (List Tree)) (s62 : (List Bool)) :
    evRd (E60 L N m) (evCallI (E60 L N m) 1 2000) 1000 60 120 0 f60.c2 κ rec (f60.T2 s57 s58 s59 s60 s61 s62) (f60.H2 s57 s58 s59 s60 s61 s62)
    = f60.s2' L N (f60 L N m) (fun z63 => κ (.exit 0) (f60.T2_e0 z63) (f60.H2_e0 z63)) (fun s57 s58 s59 s60 s61 s62 => rec (f60.T2 s57 s58 s59 s60 s61 s62) (f60.H2 s57 s58 s59 s60 s61 s62)) (fun s64 s65 s66 s67 s68 s69 s70 => evLp (E60 L N m) (evCallI (E60 L N m) 1 2000) 1000 60 120 3 f60.c3 (contAt (E60 L N m) (evCallI (E60 L N m) 1 2000) 1000 60 120 3 f60.c2 (stepK (outK (keepT 120 ((E60 L N m).liveX 60 0).1) (keepH 1000 ((E60 L N m).liveX 60 0).2) κ) fun t h => rec (backK 1000 120 ((E60 L N m).live 60 0).1 ((E60 L N m).live 60 0).2 ((E60 L N m).heal 60 0) ((E60 L N m).ren 60 0) t h).1 (backK 1000 120 ((E60 L N m).live 60 0).1 ((E60 L N m).live 60 0).2 ((E60 L N m).heal 60 0) ((E60 L N m).ren 60 0) t h).2)) L (f60.T3 s64 s65 s66 s67 s68 s69 s70) (f60.H3 s64 s65 s66 s67 s68 s69 s70)) s57 s58 s59 s60 s61 s62 := by kernel_rfl
theorem f60.s2_eq {R : Type} (L N m : Nat) (κ : Ex → T → H → Option R) (rec : T → H → Option R) (s57 : Int) (s58 : (List (List Move))) (s59 : Int) (s60 : Int) (s61 : (List Tree)) (s62 : (List Bool)) :
    evRd (E60 L N m) (evCallI (E60 L N m) 1 2000) 1000 60 120 0 f60.c2 κ rec (f60.T2 s57 s58 s59 s60 s61 s62) (f60.H2 s57 s58 s59 s60 s61 s62)
    = f60.s2 L N (f60 L N m) (fun z63 => κ (.exit 0) (f60.T2_e0 z63) (f60.H2_e0 z63)) (fun s57 s58 s59 s60 s61 s62 => rec (f60.T2 s57 s58 s59 s60 s61 s62) (f60.H2 s57 s58 s59 s60 s61 s62)) s57 s58 s59 s60 s61 s62 := by
  rw [f60.s2_pre]
  unfold f60.s2
  simp only [f60.l3_eq, f60.p3_e3_eq]
theorem f60.l2_eq {R : Type} (L N m : Nat) (κ : Ex → T → H → Option R) : ∀ (n : Nat) (s57 : Int) (s58 : (List (List Move))) (s59 : Int) (s60 : Int) (s61 : (List Tree)) (s62 : (List Bool)),
    evLp (E60 L N m) (evCallI (E60 L N m) 1 2000) 1000 60 120 0 f60.c2 κ n (f60.T2 s57 s58 s59 s60 s61 s62) (f60.H2 s57 s58 s59 s60 s61 s62)
    = f60.l2 L N (f60 L N m) (fun z63 => κ (.exit 0) (f60.T2_e0 z63) (f60.H2_e0 z63)) n s57 s58 s59 s60 s61 s62 := by
  intro n
  induction n with
  | zero => intros; rfl
  | succ n ih =>
    intro s57 s58 s59 s60 s61 s62
    rw [evLp_succ, f60.s2_eq]
    simp only [ih]
    rfl
theorem f60.p2_e0_pre {R : Type} (L N m : Nat) (κ : AV → Option R) (z63 : (List Bool)) :
    (contAt (E60 L N m) (evCallI (E60 L N m) 1 2000) 1000 60 120 0 (codeOf Try.f60) (finK (E60 L N m) 1000 Try.f60 (finC (.one (.sl .bool)) κ))) (.exit 0) (f60.T2_e0 z63) (f60.H2_e0 z63)
    = f60.p2_e0' L N (f60 L N m) (fun a0 => κ (.tv (.sl .bool) a0)) z63 := by kernel_rfl
theorem f60.p2_e0_eq {R : Type} (L N m : Nat) (κ : AV → Option R) (z63 : (List Bool)) :
    (contAt (E60 L N m) (evCallI (E60 L N m) 1 2000) 1000 60 120 0 (codeOf Try.f60) (finK (E60 L N m) 1000 Try.f60 (finC (.one (.sl .bool)) κ))) (.exit 0) (f60.T2_e0 z63) (f60.H2_e0 z63)
    = f60.p2_e0 L N (f60 L N m) (fun a0 => κ (.tv (.sl .bool) a0)) z63 := by
  rw [f60.p2_e0_pre]
  unfold f60.p2_e0
  rfl
theorem f60.b_pre {R : Type} (L N m : Nat) (κ : AV → Option R) (x0 : Graph) (x1 : Tree) :
    evBody (E60 L N m) (evCallI (E60 L N m) 1 2000) 1000 60 Try.f60 [(.tv (.st 2) x0), (.tv (.st 1) x1)] [] [] (finC (.one (.sl .bool)) κ)
    = f60.b' L N (f60 L N m) (fun a0 => κ (.tv (.sl .bool) a0)) (fun s9 s10 s11 s12 s13 s14 s15 s16 => evLp (E60 L N m) (evCallI (E60 L N m) 1 2000) 1000 60 120 0 f60.c0 (contAt (E60 L N m) (evCallI (E60 L N m) 1 2000) 1000 60 120 0 (codeOf Try.f60) (finK (E60 L N m) 1000 Try.f60 (finC (.one (.sl .bool)) κ))) L (f60.T0 s9 s10 s11 s12 s13 s14 s15 s16) (f60.H0 s9 s10 s11 s12 s13 s14 s15 s16)) (fun s57 s58 s59 s60 s61 s62 => evLp (E60 L N m) (evCallI (E60 L N m) 1 2000) 1000 60 120 0 f60.c2 (contAt (E60 L N m) (evCallI (E60 L N m) 1 2000) 1000 60 120 0 (codeOf Try.f60) (finK (E60 L N m) 1000 Try.f60 (finC (.one (.sl .bool)) κ))) L (f60.T2 s57 s58 s59 s60 s61 s62) (f60.H2 s57 s58 s59 s60 s61 s62)) x0 x1 := by kernel_rfl
theorem f60.b_eq {R : Type} (L N m : Nat) (κ : AV → Option R) (x0 : Graph) (x1 : Tree) :
    evBody (E60 L N m) (evCallI (E60 L N m) 1 2000) 1000 60 Try.f60 [(.tv (.st 2) x0), (.tv (.st 1) x1)] [] [] (finC (.one (.sl .bool)) κ)
    = f60.b L N (f60 L N m) (fun a0 => κ (.tv (.sl .bool) a0)) x0 x1 := by
  rw [f60.b_pre]
  unfold f60.b
  simp only [f60.l0_eq, f60.l2_eq, f60.p0_e0_eq, f60.p2_e0_eq]
theorem f60.s1'_nat {R R' : Type} (j : R → Option R') (L N : Nat) (self60 : Graph → Tree → Option ((List Bool))) (k1_e3 : (List Bool) → (List Bool) → Int → (List (List Move)) → Int → Int → (List Tree) → (List Bool) → Option R) (rec1 : (List Bool) → (List Bool) → Int → Int → (List (List Move)) → Int → Int → (List Tree) → (List Bool) → Option R) (s18 : (List Bool)) (s19 : (List Bool)) (s20 : Int) (s21 : Int) (s22 : (List (List Move))) (s23 : Int) (s24 : Int) (s25 : (List Tree)) (s26 : (List Bool)) :
    f60.s1' L N self60 (fun a0 a1 a2 a3 a4 a5 a6 a7 => (k1_e3 a0 a1 a2 a3 a4 a5 a6 a7).bind j) (fun a0 a1 a2 a3 a4 a5 a6 a7 a8 => (rec1 a0 a1 a2 a3 a4 a5 a6 a7 a8).bind j) s18 s19 s20 s21 s22 s23 s24 s25 s26 = (f60.s1' L N self60 k1_e3 rec1 s18 s19 s20 s21 s22 s23 s24 s25 s26).bind j := by
  unfold f60.s1'
  repeat' (first | (with_reducible refine cond_nat ?_ ?_) | (with_reducible refine bind_nat fun _ => ?_) | rfl)
theorem f60.s1_nat {R R' : Type} (j : R → Option R') (L N : Nat) (self60 : Graph → Tree → Option ((List Bool))) (k1_e3 : (List Bool) → (List Bool) → Int → (List (List Move)) → Int → Int → (List Tree) → (List Bool) → Option R) (rec1 : (List Bool) → (List Bool) → Int → Int → (List (List Move)) → Int → Int → (List Tree) → (List Bool) → Option R) (s18 : (List Bool)) (s19 : (List Bool)) (s20 : Int) (s21 : Int) (s22 : (List (List Move))) (s23 : Int) (s24 : Int) (s25 : (List Tree)) (s26 : (List Bool)) :
    f60.s1 L N self60 (fun a0 a1 a2 a3 a4 a5 a6 a7 => (k1_e3 a0 a1 a2 a3 a4 a5 a6 a7).bind j) (fun a0 a1 a2 a3 a4 a5 a6 a7 a8 => (rec1 a0 a1 a2 a3 a4 a5 a6 a7 a8).bind j) s18 s19 s20 s21 s22 s23 s24 s25 s26 = (f60.s1 L N self60 k1_e3 rec1 s18 s19 s20 s21 s22 s23 s24 s25 s26).bind j := by
  unfold f60.s1
  exact f60.s1'_nat ..
theorem f60.l1_nat {R R' : Type} (j : R → Option R') (L N : Nat) (self60 : Graph → Tree → Option ((List Bool))) (k1_e3 : (List Bool) → (List Bool) → Int → (List (List Move)) → Int → Int → (List Tree) → (List Bool) → Option R) : ∀ (n : Nat) (s18 : (List Bool)) (s19 : (List Bool)) (s20 : Int) (s21 : Int) (s22 : (List (List Move))) (s23 : Int) (s24 : Int) (s25 : (List Tree)) (s26 : (List Bool)),
    f60.l1 L N self60 (fun a0 a1 a2 a3 a4 a5 a6 a7 => (k1_e3 a0 a1 a2 a3 a4 a5 a6 a7).bind j) n s18 s19 s20 s21 s22 s23 s24 s25 s26 = (f60.l1 L N self60 k1_e3 n s18 s19 s20 s21 s22 s23 s24 s25 s26).bind j := by
  intro n
  induction n with
  | zero => intros; rfl
  | succ n ih =>
    intro s18 s19 s20 s21 s22 s23 s24 s25 s26
    show f60.s1 L N self60 (fun a0 a1 a2 a3 a4 a5 a6 a7 => (k1_e3 a0 a1 a2 a3 a4 a5 a6 a7).bind j) (f60.l1 L N self60 (fun a0 a1 a2 a3 a4 a5 a6 a7 => (k1_e3 a0 a1 a2 a3 a4 a5 a6 a7).bind j) n) s18 s19 s20 s21 s22 s23 s24 s25 s26 = _
    rw [show f60.l1 L N self60 (fun a0 a1 a2 a3 a4 a5 a6 a7 => (k1_e3 a0 a1 a2 a3 a4 a5 a6 a7).bind j) n = (fun s18 s19 s20 s21 s22 s23 s24 s25 s26 => (f60.l1 L N self60 k1_e3 n s18 s19 s20 s21 s22 s23 s24 s25 s26).bind j) from funext fun s18 => funext fun s19 => funext fun s20 => funext fun s21 => funext fun s22 => funext fun s23 => funext fun s24 => funext fun s25 => funext fun s26 => ih s18 s19 s20 s21 s22 s23 s24 s25 s26]
    exact f60.s1_nat ..
theorem f60.p1_e3'_nat {R R' : Type} (j : R → Option R') (L N : Nat) (self60 : Graph → Tree → Option ((List Bool))) (k0_e0 : (List Bool) → Option R) (rec0 : (List Bool) → (List Bool) → Int → (List (List Move)) → Int → Int → (List Tree) → (List Bool) → Option R) (z27 : (List Bool)) (z28 : (List Bool)) (z29 : Int) (z30 : (List (List Move))) (z31 : Int) (z32 : Int) (z33 : (List Tree)) (z34 : (List Bool)) :
    f60.p1_e3' L N self60 (fun a0 => (k0_e0 a0).bind j) (fun a0 a1 a2 a3 a4 a5 a6 a7 => (rec0 a0 a1 a2 a3 a4 a5 a6 a7).bind j) z27 z28 z29 z30 z31 z32 z33 z34 = (f60.p1_e3' L N self60 k0_e0 rec0 z27 z28 z29 z30 z31 z32 z33 z34).bind j := by
  unfold f60.p1_e3'
  repeat' (first | (with_reducible refine cond_nat ?_ ?_) | (with_reducible refine bind_nat fun _ => ?_) | rfl)
theorem f60.p1_e3_nat {R R' : Type} (j : R → Option R') (L N : Nat) (self60 : Graph → Tree → Option ((List Bool))) (k0_e0 : (List Bool) → Option R) (rec0 : (List Bool) → (List Bool) → Int → (List (List Move)) → Int → Int → (List Tree) → (List Bool) → Option R) (z27 : (List Bool)) (z28 : (List Bool)) (z29 : Int) (z30 : (List (List Move))) (z31 : Int) (z32 : Int) (z33 : (List Tree)) (z34 : (List Bool)) :
    f60.p1_e3 L N self60 (fun a0 => (k0_e0 a0).bind j) (fun a0 a1 a2 a3 a4 a5 a6 a7 => (rec0 a0 a1 a2 a3 a4 a5 a6 a7).bind j) z27 z28 z29 z30 z31 z32 z33 z34 = (f60.p1_e3 L N self60 k0_e0 rec0 z27 z28 z29 z30 z31 z32 z33 z34).bind j := by
  unfold f60.p1_e3
  exact f60.p1_e3'_nat ..
theorem f60.s0'_nat {R R' : Type} (j : R → Option R') (L N : Nat) (self60 : Graph → Tree → Option ((List Bool))) (k0_e0 : (List Bool) → Option R) (rec0 : (List Bool) → (List Bool) → Int → (List (List Move)) → Int → Int → (List Tree) → (List Bool) → Option R) (w1 : (List Bool) → (List Bool) → Int → Int → (List (List Move)) → Int → Int → (List Tree) → (List Bool) → Option R) (s9 : (List Bool)) (s10 : (List Bool)) (s11 : Int) (s12 : (List (List Move))) (s13 : Int) (s14 : Int) (s15 : (List Tree)) (s16 : (List Bool)) :
    f60.s0' L N self60 (fun a0 => (k0_e0 a0).bind j) (fun a0 a1 a2 a3 a4 a5 a6 a7 => (rec0 a0 a1 a2 a3 a4 a5 a6 a7).bind j) (fun a0 a1 a2 a3 a4 a5 a6 a7 a8 => (w1 a0 a1 a2 a3 a4 a5 a6 a7 a8).bind j) s9 s10 s11 s12 s13 s14 s15 s16 = (f60.s0' L N self60 k0_e0 rec0 w1 s9 s10 s11 s12 s13 s14 s15 s16).bind j := by
  unfold f60.s0'
  repeat' (first | (with_reducible refine cond_nat ?_ ?_) | (with_reducible refine bind_nat fun _ => ?_) | rfl)
theorem f60.s0_nat {R R' : Type} (j : R → Option R') (L N : Nat) (self60 : Graph → Tree → Option ((List Bool))) (k0_e0 : (List Bool) → Option R) (rec0 : (List Bool) → (List Bool) → Int → (List (List Move)) → Int → Int → (List Tree) → (List Bool) → Option R) (s9 : (List Bool)) (s10 : (List Bool)) (s11 : Int) (s12 : (List (List Move))) (s13 : Int) (s14 : Int) (s15 : (List Tree)) (s16 : (List Bool)) :
    f60.s0 L N self60 (fun a0 => (k0_e0 a0).bind j) (fun a0 a1 a2 a3 a4 a5 a6 a7 => (rec0 a0 a1 a2 a3 a4 a5 a6 a7).bind j) s9 s10 s11 s12 s13 s14 s15 s16 = (f60.s0 L N self60 k0_e0 rec0 s9 s10 s11 s12 s13 s14 s15 s16).bind j := by
  unfold f60.s0
  simp only [f60.l1_nat, f60.p1_e3_nat]
  exact f60.s0'_nat ..
theorem f60.l0_nat {R R' : Type} (j : R → Option R') (L N : Nat) (self60 : Graph → Tree → Option ((List Bool))) (k0_e0 : (List Bool) → Option R) : ∀ (n : Nat) (s9 : (List Bool)) (s10 : (List Bool)) (s11 : Int) (s12 : (List (List Move))) (s13 : Int) (s14 : Int) (s15 : (List Tree)) (s16 : (List Bool)),
    f60.l0 L N self60 (fun a0 => (k0_e0 a0).bind j) n s9 s10 s11 s12 s13 s14 s15 s16 = (f60.l0 L N self60 k0_e0 n s9 s10 s11 s12 s13 s14 s15 s16).bind j := by
  intro n
  induction n with
  | zero => intros; rfl
  | succ n ih =>
    intro s9 s10 s11 s12 s13 s14 s15 s16
    show f60.s0 L N self60 (fun a0 => (k0_e0 a0).bind j) (f60.l0 L N self60 (fun a0 => (k0_e0 a0).bind j) n) s9 s10 s11 s12 s13 s14 s15 s16 = _
    rw [show f60.l0 L N self60 (fun a0 => (k0_e0 a0).bind j) n = (fun s9 s10 s11 s12 s13 s14 s15 s16 => (f60.l0 L N self60 k0_e0 n s9 s10 s11 s12 s13 s14 s15 s16).bind j) from funext fun s9 => funext fun s10 => funext fun s11 => funext fun s12 => funext fun s13 => funext fun s14 => funext fun s15 => funext fun s16 => ih s9 s10 s11 s12 s13 s14 s15 s16]
    exact f60.s0_nat ..
theorem f60.p0_e0'_nat {R R' : Type} (j : R → Option R') (L N : Nat) (self60 : Graph → Tree → Option ((List Bool))) (k : (List Bool) → Option R) (z17 : (List Bool)) :
    f60.p0_e0' L N self60 (fun a0 => (k a0).bind j) z17 = (f60.p0_e0' L N self60 k z17).bind j := by
  unfold f60.p0_e0'
  repeat' (first | (with_reducible refine cond_nat ?_ ?_) | (with_reducible refine bind_nat fun _ => ?_) | rfl)
theorem f60.p0_e0_nat {R R' : Type} (j : R → Option R') (L N : Nat) (self60 : Graph → Tree → Option ((List Bool))) (k : (List Bool) → Option R) (z17 : (List Bool)) :
    f60.p0_e0 L N self60 (fun a0 => (k a0).bind j) z17 = (f60.p0_e0 L N self60 k z17).bind j := by
  unfold f60.p0_e0
  exact f60.p0_e0'_nat ..
theorem f60.s3'_nat {R R' : Type} (j : R → Option R') (L N : Nat) (self60 : Graph → Tree → Option ((List Bool))) (k3_e3 : Int → (List (List Move)) → Int → Int → (List Tree) → (List Bool) → Option R) (rec3 : Int → Int → (List (List Move)) → Int → Int → (List Tree) → (List Bool) → Option R) (s64 : Int) (s65 : Int) (s66 : (List (List Move))) (s67 : Int) (s68 : Int) (s69 : (List Tree)) (s70 : (List Bool)) :
    f60.s3' L N self60 (fun a0 a1 a2 a3 a4 a5 => (k3_e3 a0 a1 a2 a3 a4 a5).bind j) (fun a0 a1 a2 a3 a4 a5 a6 => (rec3 a0 a1 a2 a3 a4 a5 a6).bind j) s64 s65 s66 s67 s68 s69 s70 = (f60.s3' L N self60 k3_e3 rec3 s64 s65 s66 s67 s68 s69 s70).bind j := by
  unfold f60.s3'
  repeat' (first | (with_reducible refine cond_nat ?_ ?_) | (with_reducible refine bind_nat fun _ => ?_) | rfl)
theorem f60.s3_nat {R R' : Type} (j : R → Option R') (L N : Nat) (self60 : Graph → Tree → Option ((List Bool))) (k3_e3 : Int → (List (List Move)) → Int → Int → (List Tree) → (List Bool) → Option R) (rec3 : Int → Int → (List (List Move)) → Int → Int → (List Tree) → (List Bool) → Option R) (s64 : Int) (s65 : Int) (s66 : (List (List Move))) (s67 : Int) (s68 : Int) (s69 : (List Tree)) (s70 : (List Bool)) :
    f60.s3 L N self60 (fun a0 a1 a2 a3 a4 a5 => (k3_e3 a0 a1 a2 a3 a4 a5).bind j) (fun a0 a1 a2 a3 a4 a5 a6 => (rec3 a0 a1 a2 a3 a4 a5 a6).bind j) s64 s65 s66 s67 s68 s69 s70 = (f60.s3 L N self60 k3_e3 rec3 s64 s65 s66 s67 s68 s69 s70).bind j := by
  unfold f60.s3
  exact f60.s3'_nat ..
theorem f60.l3_nat {R R' : Type} (j : R → Option R') (L N : Nat) (self60 : Graph → Tree → Option ((List Bool))) (k3_e3 : Int → (List (List Move)) → Int → Int → (List Tree) → (List Bool) → Option R) : ∀ (n : Nat) (s64 : Int) (s65 : Int) (s66 : (List (List Move))) (s67 : Int) (s68 : Int) (s69 : (List Tree)) (s70 : (List Bool)),
    f60.l3 L N self60 (fun a0 a1 a2 a3 a4 a5 => (k3_e3 a0 a1 a2 a3 a4 a5).bind j) n s64 s65 s66 s67 s68 s69 s70 = (f60.l3 L N self60 k3_e3 n s64 s65 s66 s67 s68 s69 s70).bind j := by
  intro n
  induction n with
  | zero => intros; rfl
  | succ n ih =>
    intro s64 s65 s66 s67 s68 s69 s70
    show f60.s3 L N self60 (fun a0 a1 a2 a3 a4 a5 => (k3_e3 a0 a1 a2 a3 a4 a5).bind j) (f60.l3 L N self60 (fun a0 a1 a2 a3 a4 a5 => (k3_e3 a0 a1 a2 a3 a4 a5).bind j) n) s64 s65 s66 s67 s68 s69 s70 = _
    rw [show f60.l3 L N self60 (fun a0 a1 a2 a3 a4 a5 => (k3_e3 a0 a1 a2 a3 a4 a5).bind j) n = (fun s64 s65 s66 s67 s68 s69 s70 => (f60.l3 L N self60 k3_e3 n s64 s65 s66 s67 s68 s69 s70).bind j) from funext fun s64 => funext fun s65 => funext fun s66 => funext fun s67 => funext fun s68 => funext fun s69 => funext fun s70 => ih s64 s65 s66 s67 s68 s69 s70]
    exact f60.s3_nat ..
theorem f60.p3_e3'_nat {R R' : Type} (j : R → Option R') (L N : Nat) (self60 : Graph → Tree → Option ((List Bool))) (k2_e0 : (List Bool) → Option R) (rec2 : Int → (List (List Move)) → Int → Int → (List Tree) → (List Bool) → Option R) (z71 : Int) (z72 : (List (List Move))) (z73 : Int) (z74 : Int) (z75 : (List Tree)) (z76 : (List Bool)) :
    f60.p3_e3' L N self60 (fun a0 => (k2_e0 a0).bind j) (fun a0 a1 a2 a3 a4 a5 => (rec2 a0 a1 a2 a3 a4 a5).bind j) z71 z72 z73 z74 z75 z76 = (f60.p3_e3' L N self60 k2_e0 rec2 z71 z72 z73 z74 z75 z76).bind j := by
  unfold f60.p3_e3'
  repeat' (first | (with_reducible refine cond_nat ?_ ?_) | (with_reducible refine bind_nat fun _ => ?_) | rfl)
theorem f60.p3_e3_nat {R R' : Type} (j : R → Option R') (L N : Nat) (self60 : Graph → Tree → Option ((List Bool))) (k2_e0 : (List Bool) → Option R) (rec2 : Int → (List (List Move)) → Int → Int → (List Tree) → (List Bool) → Option R) (z71 : Int) (z72 : (List (List Move))) (z73 : Int) (z74 : Int) (z75 : (List Tree)) (z76 : (List Bool)) :
    f60.p3_e3 L N self60 (fun a0 => (k2_e0 a0).bind j) (fun a0 a1 a2 a3 a4 a5 => (rec2 a0 a1 a2 a3 a4 a5).bind j) z71 z72 z73 z74 z75 z76 = (f60.p3_e3 L N self60 k2_e0 rec2 z71 z72 z73 z74 z75 z76).bind j := by
  unfold f60.p3_e3
  exact f60.p3_e3'_nat ..
theorem f60.s2'_nat {R R' : Type} (j : R → Option R') (L N : Nat) (self60 : Graph → Tree → Option ((List Bool))) (k2_e0 : (List Bool) → Option R) (rec2 : Int → (List (List Move)) → Int → Int → (List Tree) → (List Bool) → Option R) (w3 : Int → Int → (List (List Move)) → Int → Int → (List Tree) → (List Bool) → Option R) (s57 : Int) (s58 : (List (List Move))) (s59 : Int) (s60 : Int) (s61 : (List Tree)) (s62 : (List Bool)) :
    f60.s2' L N self60 (fun a0 => (k2_e0 a0).bind j) (fun a0 a1 a2 a3 a4 a5 => (rec2 a0 a1 a2 a3 a4 a5).bind j) (fun a0 a1 a2 a3 a4 a5 a6 => (w3 a0 a1 a2 a3 a4 a5 a6).bind j) s57 s58 s59 s60 s61 s62 = (f60.s2' L N self60 k2_e0 rec2 w3 s57 s58 s59 s60 s61 s62).bind j := by
  unfold f60.s2'
  repeat' (first | (with_reducible refine cond_nat ?_ ?_) | (with_reducible refine bind_nat fun _ => ?_) | rfl)
theorem f60.s2_nat {R R' : Type} (j : R → Option R') (L N : Nat) (self60 : Graph → Tree → Option ((List Bool))) (k2_e0 : (List Bool) → Option R) (rec2 : Int → (List (List Move)) → Int → Int → (List Tree) → (List Bool) → Option R) (s57 : Int) (s58 : (List (List Move))) (s59 : Int) (s60 : Int) (s61 : (List Tree)) (s62 : (List Bool)) :
    f60.s2 L N self60 (fun a0 => (k2_e0 a0).bind j) (fun a0 a1 a2 a3 a4 a5 => (rec2 a0 a1 a2 a3 a4 a5).bind j) s57 s58 s59 s60 s61 s62 = (f60.s2 L N self60 k2_e0 rec2 s57 s58 s59 s60 s61 s62).bind j := by
  unfold f60.s2
  simp only [f60.l3_nat, f60.p3_e3_nat]
  exact f60.s2'_nat ..
theorem f60.l2_nat {R R' : Type} (j : R → Option R') (L N : Nat) (self60 : Graph → Tree → Option ((List Bool))) (k2_e0 : (List Bool) → Option R) : ∀ (n : Nat) (s57 : Int) (s58 : (List (List Move))) (s59 : Int) (s60 : Int) (s61 : (List Tree)) (s62 : (List Bool)),
    f60.l2 L N self60 (fun a0 => (k2_e0 a0).bind j) n s57 s58 s59 s60 s61 s62 = (f60.l2 L N self60 k2_e0 n s57 s58 s59 s60 s61 s62).bind j := by
  intro n
  induction n with
  | zero => intros; rfl
  | succ n ih =>
    intro s57 s58 s59 s60 s61 s62
    show f60.s2 L N self60 (fun a0 => (k2_e0 a0).bind j) (f60.l2 L N self60 (fun a0 => (k2_e0 a0).bind j) n) s57 s58 s59 s60 s61 s62 = _
    rw [show f60.l2 L N self60 (fun a0 => (k2_e0 a0).bind j) n = (fun s57 s58 s59 s60 s61 s62 => (f60.l2 L N self60 k2_e0 n s57 s58 s59 s60 s61 s62).bind j) from funext fun s57 => funext fun s58 => funext fun s59 => funext fun s60 => funext fun s61 => funext fun s62 => ih s57 s58 s59 s60 s61 s62]
    exact f60.s2_nat ..
theorem f60.p2_e0'_nat {R R' : Type} (j : R → Option R') (L N : Nat) (self60 : Graph → Tree → Option ((List Bool))) (k : (List Bool) → Option R) (z63 : (List Bool)) :
    f60.p2_e0' L N self60 (fun a0 => (k a0).bind j) z63 = (f60.p2_e0' L N self60 k z63).bind j := by
  unfold f60.p2_e0'
  repeat' (first | (with_reducible refine cond_nat ?_ ?_) | (with_reducible refine bind_nat fun _ => ?_) | rfl)
theorem f60.p2_e0_nat {R R' : Type} (j : R → Option R') (L N : Nat) (self60 : Graph → Tree → Option ((List Bool))) (k : (List Bool) → Option R) (z63 : (List Bool)) :
    f60.p2_e0 L N self60 (fun a0 => (k a0).bind j) z63 = (f60.p2_e0 L N self60 k z63).bind j := by
  unfold f60.p2_e0
  exact f60.p2_e0'_nat ..
theorem f60.j0'_nat {R R' : Type} (j : R → Option R') (L N : Nat) (self60 : Graph → Tree → Option ((List Bool))) (k : (List Bool) → Option R) (w0 : (List Bool) → (List Bool) → Int → (List (List Move)) → Int → Int → (List Tree) → (List Bool) → Option R) (v2 : (List Bool)) (v3 : (List Bool)) (v4 : (List (List Move))) (v5 : Int) (v6 : Int) (v7 : (List Tree)) (v8 : (List Bool)) :
    f60.j0' L N self60 (fun a0 => (k a0).bind j) (fun a0 a1 a2 a3 a4 a5 a6 a7 => (w0 a0 a1 a2 a3 a4 a5 a6 a7).bind j) v2 v3 v4 v5 v6 v7 v8 = (f60.j0' L N self60 k w0 v2 v3 v4 v5 v6 v7 v8).bind j := by
  unfold f60.j0'
  repeat' (first | (with_reducible refine cond_nat ?_ ?_) | (with_reducible refine bind_nat fun _ => ?_) | rfl)
theorem f60.j1'_nat {R R' : Type} (j : R → Option R') (L N : Nat) (self60 : Graph → Tree → Option ((List Bool))) (k : (List Bool) → Option R) (w2 : Int → (List (List Move)) → Int → Int → (List Tree) → (List Bool) → Option R) (v52 : (List (List Move))) (v53 : Int) (v54 : Int) (v55 : (List Tree)) (v56 : (List Bool)) :
    f60.j1' L N self60 (fun a0 => (k a0).bind j) (fun a0 a1 a2 a3 a4 a5 => (w2 a0 a1 a2 a3 a4 a5).bind j) v52 v53 v54 v55 v56 = (f60.j1' L N self60 k w2 v52 v53 v54 v55 v56).bind j := by
  unfold f60.j1'
  repeat' (first | (with_reducible refine cond_nat ?_ ?_) | (with_reducible refine bind_nat fun _ => ?_) | rfl)
theorem f60.b'_nat {R R' : Type} (j : R → Option R') (L N : Nat) (self60 : Graph → Tree → Option ((List Bool))) (k : (List Bool) → Option R) (w0 : (List Bool) → (List Bool) → Int → (List (List Move)) → Int → Int → (List Tree) → (List Bool) → Option R) (w2 : Int → (List (List Move)) → Int → Int → (List Tree) → (List Bool) → Option R) (x0 : Graph) (x1 : Tree) :
    f60.b' L N self60 (fun a0 => (k a0).bind j) (fun a0 a1 a2 a3 a4 a5 a6 a7 => (w0 a0 a1 a2 a3 a4 a5 a6 a7).bind j) (fun a0 a1 a2 a3 a4 a5 => (w2 a0 a1 a2 a3 a4 a5).bind j) x0 x1 = (f60.b' L N self60 k w0 w2 x0 x1).bind j := by
  unfold f60.b'
  repeat' (first | (with_reducible refine cond_nat ?_ ?_) | (with_reducible refine bind_nat fun _ => ?_) | exact f60.j0'_nat .. | exact f60.j1'_nat .. | rfl)
theorem f60.b_nat {R R' : Type} (j : R → Option R') (L N : Nat) (self60 : Graph → Tree → Option ((List Bool))) (k : (List Bool) → Option R) (x0 : Graph) (x1 : Tree) :
    f60.b L N self60 (fun a0 => (k a0).bind j) x0 x1 = (f60.b L N self60 k x0 x1).bind j := by
  unfold f60.b
  simp only [f60.l0_nat, f60.l2_nat, f60.p0_e0_nat, f60.p2_e0_nat]
  exact f60.b'_nat ..
theorem f60.ok (L N m : Nat) (hΦ : TellsOk Try.prog (Φ60s L N m)) : EntOk Try.prog 60 (f60.ent L N (m + 1)) := by
  intro args vw site h
  unfold f60.ent
  split
  · rename_i d u ha
    intro y hy hs
    refine call_data (dep := 1000) (E := (E60 L N m)) (rs := (.one (.sl .bool))) (v' := (.tv (.sl .bool) y)) (sound_of hΦ) okP (callI_sound (sound_of hΦ) okP 1 2000) (f := Try.f60) rfl hs ha ?_ site
    refine (f60.b_eq L N m some d.1 d.2.1).trans ?_
    refine ((f60.b_nat (fun y => (some (.tv (.sl .bool) y) : Option AV)) L N (f60 L N m) some d.1 d.2.1)).trans ?_
    rw [show f60.b L N (f60 L N m) some d.1 d.2.1 = some y from hy]
    rfl
  · intro y hy
    cases hy
theorem Φ60s_ok (L N : Nat) : ∀ m, TellsOk Try.prog (Φ60s L N m) := by
  intro m
  induction m with
  | zero => exact (addT_ok (Φ59_ok L N) (fun args vw site h => by unfold f60.ent; split <;> (intro y hy; cases hy)))
  | succ m ih => exact (addT_ok (Φ59_ok L N) (f60.ok L N m ih))
def Φ60 (L N : Nat) : Tells := (addT (Φ59 L N) 60 (f60.ent L N N))
theorem Φ60_ok (L N : Nat) : TellsOk Try.prog (Φ60 L N) := Φ60s_ok L N N
def f17.s0' {R : Type} (L N : Nat) (k0_e0 : (List Int) → Option R) (rec0 : (List Bool) → Int → (List Int) → Option R) (s14 : (List Bool)) (s15 : Int) (s16 : (List Int)) : Option R :=
  bif (decide (s15 < (s14.length : Int))) then
    bif (decide (0 ≤ s15) && decide (s15 < (s14.length : Int))) then
      bif (listAt s14 false s15.toNat) then
        bif (decide (s16.length + ([s15] : (List Int)).length ≤ lim)) then
          rec0 s14 (wi (s15 + (1 : Int))) (s16 ++ ([s15] : (List Int)))
        else none
      else rec0 s14 (wi (s15 + (1 : Int))) s16
    else none
  else k0_e0 s16
def f17.s0 {R : Type} (L N : Nat) (k0_e0 : (List Int) → Option R) (rec0 : (List Bool) → Int → (List Int) → Option R) (s14 : (List Bool)) (s15 : Int) (s16 : (List Int)) : Option R :=
  f17.s0' L N k0_e0 rec0 s14 s15 s16
def f17.l0 {R : Type} (L N : Nat) (k0_e0 : (List Int) → Option R) : Nat → (List Bool) → Int → (List Int) → Option R
  | 0, _, _, _ => none
  | n + 1, s14, s15, s16 => f17.s0 L N k0_e0 (f17.l0 L N k0_e0 n) s14 s15 s16
def f17.T0 (s14 : (List Bool)) (s15 : Int) (s16 : (List Int)) : T := mkT 36 [(5, (.row 1008)), (6, (.tv (.sl .bool) s14)), (7, (.tv i64 s15))]
def f17.H0 (s14 : (List Bool)) (s15 : Int) (s16 : (List Int)) : H := [(1008, (.row 3 i64 s16))]
def f17.T0_e0 (z17 : (List Int)) : T := mkT 36 [(5, (.row 1008))]
def f17.H0_e0 (z17 : (List Int)) : H := [(1008, (.row 3 i64 z17))]
def f17.p0_e0' {R : Type} (L N : Nat) (k : (List Int) → Option R) (z17 : (List Int)) : Option R :=
  k z17
def f17.p0_e0 {R : Type} (L N : Nat) (k : (List Int) → Option R) (z17 : (List Int)) : Option R :=
  f17.p0_e0' L N k z17
def f17.j0' {R : Type} (L N : Nat) (k : (List Int) → Option R) (w0 : (List Bool) → Int → (List Int) → Option R) (v8 : (List (List Move))) (v9 : Int) (v10 : Int) (v11 : (List Tree)) (v12 : (List Int)) : Option R :=
  (f60 L N N (Graph.mk v8) (Tree.mk v9 v10 v11)).bind fun y13 =>
  w0 y13 (0 : Int) v12
def f17.b' {R : Type} (L N : Nat) (k : (List Int) → Option R) (w0 : (List Bool) → Int → (List Int) → Option R) (x0 : Graph) (x1 : Tree) : Option R :=
  (f58 L N (Graph.mk x0.moves)).bind fun y0 =>
  bif (!y0) then
    k ([] : (List Int))
  else (f59 L N (Tree.mk x1.op x1.n x1.parts)).bind fun y1 =>
  bif (!y1) then
    k ([] : (List Int))
  else f17.j0' L N k w0 x0.moves x1.op x1.n x1.parts ([] : (List Int))
def f17.b {R : Type} (L N : Nat) (k : (List Int) → Option R) (x0 : Graph) (x1 : Tree) : Option R :=
  f17.b' L N k (fun s14 s15 s16 => f17.l0 L N (fun z17 => f17.p0_e0 L N k z17) L s14 s15 s16) x0 x1
def f17 (L N : Nat) (x0 : Graph) (x1 : Tree) : Option ((List Int)) := f17.b L N some x0 x1
def f17.ent (L N : Nat) (args : List AV) (vw : View) (site : Nat) : Ans := match coeD [(.st 2), (.st 1)] vw args with
  | some (d, u) => ⟨(List Int), f17 L N d.1 d.2.1, fun y => ((.tv (.sl i64) y), u, [])⟩
  | none => Ans.no
noncomputable def E17 (L N : Nat) : Env := { P := Try.prog, ty := tyOf, Φ := (Φ60 L N), inl := inlT, live := lives, liveX := livesX, L := L, dp := none, prom := promT, heal := healT, ren := renT }
noncomputable def f17.c0 : Code := loopAt 0 (codeOf Try.f17)
theorem f17.s0_pre {R : Type} (L N : Nat) (κ : Ex → T → H → Option R) (rec : T → H → Option R) (s14 : (List Bool)) (s15 : Int) (s16 : (List Int)) :
    evRd (E17 L N) (evCallI (E17 L N) 1 2000) 1000 17 36 0 f17.c0 κ rec (f17.T0 s14 s15 s16) (f17.H0 s14 s15 s16)
    = f17.s0' L N (fun z17 => κ (.exit 0) (f17.T0_e0 z17) (f17.H0_e0 z17)) (fun s14 s15 s16 => rec (f17.T0 s14 s15 s16) (f17.H0 s14 s15 s16)) s14 s15 s16 := by kernel_rfl
theorem f17.s0_eq {R : Type} (L N : Nat) (κ : Ex → T → H → Option R) (rec : T → H → Option R) (s14 : (List Bool)) (s15 : Int) (s16 : (List Int)) :
    evRd (E17 L N) (evCallI (E17 L N) 1 2000) 1000 17 36 0 f17.c0 κ rec (f17.T0 s14 s15 s16) (f17.H0 s14 s15 s16)
    = f17.s0 L N (fun z17 => κ (.exit 0) (f17.T0_e0 z17) (f17.H0_e0 z17)) (fun s14 s15 s16 => rec (f17.T0 s14 s15 s16) (f17.H0 s14 s15 s16)) s14 s15 s16 := by
  rw [f17.s0_pre]
  unfold f17.s0
  rfl
theorem f17.l0_eq {R : Type} (L N : Nat) (κ : Ex → T → H → Option R) : ∀ (n : Nat) (s14 : (List Bool)) (s15 : Int) (s16 : (List Int)),
    evLp (E17 L N) (evCallI (E17 L N) 1 2000) 1000 17 36 0 f17.c0 κ n (f17.T0 s14 s15 s16) (f17.H0 s14 s15 s16)
    = f17.l0 L N (fun z17 => κ (.exit 0) (f17.T0_e0 z17) (f17.H0_e0 z17)) n s14 s15 s16 := by
  intro n
  induction n with
  | zero => intros; rfl
  | succ n ih =>
    intro s14 s15 s16
    rw [evLp_succ, f17.s0_eq]
    simp only [ih]
    rfl
theorem f17.p0_e0_pre {R : Type} (L N : Nat) (κ : AV → Option R) (z17 : (List Int)) :
    (contAt (E17 L N) (evCallI (E17 L N) 1 2000) 1000 17 36 0 (codeOf Try.f17) (finK (E17 L N) 1000 Try.f17 (finC (.one (.sl i64)) κ))) (.exit 0) (f17.T0_e0 z17) (f17.H0_e0 z17)
    = f17.p0_e0' L N (fun a0 => κ (.tv (.sl i64) a0)) z17 := by kernel_rfl
theorem f17.p0_e0_eq {R : Type} (L N : Nat) (κ : AV → Option R) (z17 : (List Int)) :
    (contAt (E17 L N) (evCallI (E17 L N) 1 2000) 1000 17 36 0 (codeOf Try.f17) (finK (E17 L N) 1000 Try.f17 (finC (.one (.sl i64)) κ))) (.exit 0) (f17.T0_e0 z17) (f17.H0_e0 z17)
    = f17.p0_e0 L N (fun a0 => κ (.tv (.sl i64) a0)) z17 := by
  rw [f17.p0_e0_pre]
  unfold f17.p0_e0
  rfl
theorem f17.b_pre {R : Type} (L N : Nat) (κ : AV → Option R) (x0 : Graph) (x1 : Tree) :
    evBody (E17 L N) (evCallI (E17 L N) 1 2000) 1000 17 Try.f17 [(.tv (.st 2) x0), (.tv (.st 1) x1)] [] [] (finC (.one (.sl i64)) κ)
    = f17.b' L N (fun a0 => κ (.tv (.sl i64) a0)) (fun s14 s15 s16 => evLp (E17 L N) (evCallI (E17 L N) 1 2000) 1000 17 36 0 f17.c0 (contAt (E17 L N) (evCallI (E17 L N) 1 2000) 1000 17 36 0 (codeOf Try.f17) (finK (E17 L N) 1000 Try.f17 (finC (.one (.sl i64)) κ))) L (f17.T0 s14 s15 s16) (f17.H0 s14 s15 s16)) x0 x1 := by kernel_rfl
theorem f17.b_eq {R : Type} (L N : Nat) (κ : AV → Option R) (x0 : Graph) (x1 : Tree) :
    evBody (E17 L N) (evCallI (E17 L N) 1 2000) 1000 17 Try.f17 [(.tv (.st 2) x0), (.tv (.st 1) x1)] [] [] (finC (.one (.sl i64)) κ)
    = f17.b L N (fun a0 => κ (.tv (.sl i64) a0)) x0 x1 := by
  rw [f17.b_pre]
  unfold f17.b
  simp only [f17.l0_eq, f17.p0_e0_eq]
theorem f17.s0'_nat {R R' : Type} (j : R → Option R') (L N : Nat) (k0_e0 : (List Int) → Option R) (rec0 : (List Bool) → Int → (List Int) → Option R) (s14 : (List Bool)) (s15 : Int) (s16 : (List Int)) :
    f17.s0' L N (fun a0 => (k0_e0 a0).bind j) (fun a0 a1 a2 => (rec0 a0 a1 a2).bind j) s14 s15 s16 = (f17.s0' L N k0_e0 rec0 s14 s15 s16).bind j := by
  unfold f17.s0'
  repeat' (first | (with_reducible refine cond_nat ?_ ?_) | (with_reducible refine bind_nat fun _ => ?_) | rfl)
theorem f17.s0_nat {R R' : Type} (j : R → Option R') (L N : Nat) (k0_e0 : (List Int) → Option R) (rec0 : (List Bool) → Int → (List Int) → Option R) (s14 : (List Bool)) (s15 : Int) (s16 : (List Int)) :
    f17.s0 L N (fun a0 => (k0_e0 a0).bind j) (fun a0 a1 a2 => (rec0 a0 a1 a2).bind j) s14 s15 s16 = (f17.s0 L N k0_e0 rec0 s14 s15 s16).bind j := by
  unfold f17.s0
  exact f17.s0'_nat ..
theorem f17.l0_nat {R R' : Type} (j : R → Option R') (L N : Nat) (k0_e0 : (List Int) → Option R) : ∀ (n : Nat) (s14 : (List Bool)) (s15 : Int) (s16 : (List Int)),
    f17.l0 L N (fun a0 => (k0_e0 a0).bind j) n s14 s15 s16 = (f17.l0 L N k0_e0 n s14 s15 s16).bind j := by
  intro n
  induction n with
  | zero => intros; rfl
  | succ n ih =>
    intro s14 s15 s16
    show f17.s0 L N (fun a0 => (k0_e0 a0).bind j) (f17.l0 L N (fun a0 => (k0_e0 a0).bind j) n) s14 s15 s16 = _
    rw [show f17.l0 L N (fun a0 => (k0_e0 a0).bind j) n = (fun s14 s15 s16 => (f17.l0 L N k0_e0 n s14 s15 s16).bind j) from funext fun s14 => funext fun s15 => funext fun s16 => ih s14 s15 s16]
    exact f17.s0_nat ..
theorem f17.p0_e0'_nat {R R' : Type} (j : R → Option R') (L N : Nat) (k : (List Int) → Option R) (z17 : (List Int)) :
    f17.p0_e0' L N (fun a0 => (k a0).bind j) z17 = (f17.p0_e0' L N k z17).bind j := by
  unfold f17.p0_e0'
  repeat' (first | (with_reducible refine cond_nat ?_ ?_) | (with_reducible refine bind_nat fun _ => ?_) | rfl)
theorem f17.p0_e0_nat {R R' : Type} (j : R → Option R') (L N : Nat) (k : (List Int) → Option R) (z17 : (List Int)) :
    f17.p0_e0 L N (fun a0 => (k a0).bind j) z17 = (f17.p0_e0 L N k z17).bind j := by
  unfold f17.p0_e0
  exact f17.p0_e0'_nat ..
theorem f17.j0'_nat {R R' : Type} (j : R → Option R') (L N : Nat) (k : (List Int) → Option R) (w0 : (List Bool) → Int → (List Int) → Option R) (v8 : (List (List Move))) (v9 : Int) (v10 : Int) (v11 : (List Tree)) (v12 : (List Int)) :
    f17.j0' L N (fun a0 => (k a0).bind j) (fun a0 a1 a2 => (w0 a0 a1 a2).bind j) v8 v9 v10 v11 v12 = (f17.j0' L N k w0 v8 v9 v10 v11 v12).bind j := by
  unfold f17.j0'
  repeat' (first | (with_reducible refine cond_nat ?_ ?_) | (with_reducible refine bind_nat fun _ => ?_) | rfl)
theorem f17.b'_nat {R R' : Type} (j : R → Option R') (L N : Nat) (k : (List Int) → Option R) (w0 : (List Bool) → Int → (List Int) → Option R) (x0 : Graph) (x1 : Tree) :
    f17.b' L N (fun a0 => (k a0).bind j) (fun a0 a1 a2 => (w0 a0 a1 a2).bind j) x0 x1 = (f17.b' L N k w0 x0 x1).bind j := by
  unfold f17.b'
  repeat' (first | (with_reducible refine cond_nat ?_ ?_) | (with_reducible refine bind_nat fun _ => ?_) | exact f17.j0'_nat .. | rfl)
theorem f17.b_nat {R R' : Type} (j : R → Option R') (L N : Nat) (k : (List Int) → Option R) (x0 : Graph) (x1 : Tree) :
    f17.b L N (fun a0 => (k a0).bind j) x0 x1 = (f17.b L N k x0 x1).bind j := by
  unfold f17.b
  simp only [f17.l0_nat, f17.p0_e0_nat]
  exact f17.b'_nat ..
theorem f17.ok (L N : Nat) (hΦ : TellsOk Try.prog ((Φ60 L N))) : EntOk Try.prog 17 (f17.ent L N) := by
  intro args vw site h
  unfold f17.ent
  split
  · rename_i d u ha
    intro y hy hs
    refine call_data (dep := 1000) (E := (E17 L N)) (rs := (.one (.sl i64))) (v' := (.tv (.sl i64) y)) (sound_of hΦ) okP (callI_sound (sound_of hΦ) okP 1 2000) (f := Try.f17) rfl hs ha ?_ site
    refine (f17.b_eq L N some d.1 d.2.1).trans ?_
    refine ((f17.b_nat (fun y => (some (.tv (.sl i64) y) : Option AV)) L N some d.1 d.2.1)).trans ?_
    rw [show f17.b L N some d.1 d.2.1 = some y from hy]
    rfl
  · intro y hy
    cases hy
def Φ17 (L N : Nat) : Tells := (addT (Φ60 L N) 17 (f17.ent L N))
theorem Φ17_ok (L N : Nat) : TellsOk Try.prog (Φ17 L N) := addT_ok (Φ60_ok L N) (f17.ok L N (Φ60_ok L N))
def f128.b' {R : Type} (L N : Nat) (k : Move → Option R) (x0 : Move) : Option R :=
  k (Move.mk ((Move.mk x0.act x0.to).act) ((Move.mk x0.act x0.to).to))
def f128.b {R : Type} (L N : Nat) (k : Move → Option R) (x0 : Move) : Option R :=
  f128.b' L N k x0
def f128 (L N : Nat) (x0 : Move) : Option (Move) := f128.b L N some x0
def f128.ent (L N : Nat) (args : List AV) (vw : View) (site : Nat) : Ans := match coeD [(.st 0)] vw args with
  | some (d, u) => ⟨Move, f128 L N d.1, fun y => ((.tv (.st 0) y), u, [])⟩
  | none => Ans.no
noncomputable def E128 (L N : Nat) : Env := { P := Try.prog, ty := tyOf, Φ := (Φ17 L N), inl := inlT, live := lives, liveX := livesX, L := L, dp := none, prom := promT, heal := healT, ren := renT }
theorem f128.b_pre {R : Type} (L N : Nat) (κ : AV → Option R) (x0 : Move) :
    evBody (E128 L N) (evCallI (E128 L N) 1 2000) 1000 128 Try.f128 [(.tv (.st 0) x0)] [] [] (finC (.one (.st 0)) κ)
    = f128.b' L N (fun a0 => κ (.tv (.st 0) a0)) x0 := by kernel_rfl
theorem f128.b_eq {R : Type} (L N : Nat) (κ : AV → Option R) (x0 : Move) :
    evBody (E128 L N) (evCallI (E128 L N) 1 2000) 1000 128 Try.f128 [(.tv (.st 0) x0)] [] [] (finC (.one (.st 0)) κ)
    = f128.b L N (fun a0 => κ (.tv (.st 0) a0)) x0 := by
  rw [f128.b_pre]
  unfold f128.b
  rfl
theorem f128.b'_nat {R R' : Type} (j : R → Option R') (L N : Nat) (k : Move → Option R) (x0 : Move) :
    f128.b' L N (fun a0 => (k a0).bind j) x0 = (f128.b' L N k x0).bind j := by
  unfold f128.b'
  repeat' (first | (with_reducible refine cond_nat ?_ ?_) | (with_reducible refine bind_nat fun _ => ?_) | rfl)
theorem f128.b_nat {R R' : Type} (j : R → Option R') (L N : Nat) (k : Move → Option R) (x0 : Move) :
    f128.b L N (fun a0 => (k a0).bind j) x0 = (f128.b L N k x0).bind j := by
  unfold f128.b
  exact f128.b'_nat ..
theorem f128.ok (L N : Nat) (hΦ : TellsOk Try.prog ((Φ17 L N))) : EntOk Try.prog 128 (f128.ent L N) := by
  intro args vw site h
  unfold f128.ent
  split
  · rename_i d u ha
    intro y hy hs
    refine call_data (dep := 1000) (E := (E128 L N)) (rs := (.one (.st 0))) (v' := (.tv (.st 0) y)) (sound_of hΦ) okP (callI_sound (sound_of hΦ) okP 1 2000) (f := Try.f128) rfl hs ha ?_ site
    refine (f128.b_eq L N some d.1).trans ?_
    refine ((f128.b_nat (fun y => (some (.tv (.st 0) y) : Option AV)) L N some d.1)).trans ?_
    rw [show f128.b L N some d.1 = some y from hy]
    rfl
  · intro y hy
    cases hy
def Φ128 (L N : Nat) : Tells := (addT (Φ17 L N) 128 (f128.ent L N))
theorem Φ128_ok (L N : Nat) : TellsOk Try.prog (Φ128 L N) := addT_ok (Φ17_ok L N) (f128.ok L N (Φ17_ok L N))
def f100.s0' {R : Type} (L N : Nat) (k0_e0 : (List Move) → Option R) (rec0 : (List Move) → Int → (List Move) → Option R) (s0 : (List Move)) (s1 : Int) (s2 : (List Move)) : Option R :=
  bif (decide (s1 < (s0.length : Int))) then
    bif (decide (0 ≤ s1) && decide (s1 < (s0.length : Int))) then
      (f128 L N (listAt s0 (Ty.dflt (.st 0)) s1.toNat)).bind fun y4 =>
      bif (decide (0 ≤ s1) && decide (s1 < (s2.length : Int))) then
        rec0 s0 (wi (s1 + (1 : Int))) (s2.set s1.toNat y4)
      else none
    else none
  else k0_e0 s2
def f100.s0 {R : Type} (L N : Nat) (k0_e0 : (List Move) → Option R) (rec0 : (List Move) → Int → (List Move) → Option R) (s0 : (List Move)) (s1 : Int) (s2 : (List Move)) : Option R :=
  f100.s0' L N k0_e0 rec0 s0 s1 s2
def f100.l0 {R : Type} (L N : Nat) (k0_e0 : (List Move) → Option R) : Nat → (List Move) → Int → (List Move) → Option R
  | 0, _, _, _ => none
  | n + 1, s0, s1, s2 => f100.s0 L N k0_e0 (f100.l0 L N k0_e0 n) s0 s1 s2
def f100.T0 (s0 : (List Move)) (s1 : Int) (s2 : (List Move)) : T := mkT 23 [(0, (.tv (.sl (.st 0)) s0)), (3, (.row 1007)), (4, (.tv i64 s1))]
def f100.H0 (s0 : (List Move)) (s1 : Int) (s2 : (List Move)) : H := [(1007, (.row 53 (.st 0) s2))]
def f100.T0_e0 (z3 : (List Move)) : T := mkT 23 [(3, (.row 1007))]
def f100.H0_e0 (z3 : (List Move)) : H := [(1007, (.row 53 (.st 0) z3))]
def f100.p0_e0' {R : Type} (L N : Nat) (k : (List Move) → Option R) (z3 : (List Move)) : Option R :=
  k z3
def f100.p0_e0 {R : Type} (L N : Nat) (k : (List Move) → Option R) (z3 : (List Move)) : Option R :=
  f100.p0_e0' L N k z3
def f100.b' {R : Type} (L N : Nat) (k : (List Move) → Option R) (w0 : (List Move) → Int → (List Move) → Option R) (x0 : (List Move)) : Option R :=
  bif (decide (0 ≤ (x0.length : Int)) && decide ((x0.length : Int) ≤ (lim : Int))) then
    w0 x0 (0 : Int) (List.replicate (x0.length : Int).toNat (Ty.dflt (.st 0)))
  else none
def f100.b {R : Type} (L N : Nat) (k : (List Move) → Option R) (x0 : (List Move)) : Option R :=
  f100.b' L N k (fun s0 s1 s2 => f100.l0 L N (fun z3 => f100.p0_e0 L N k z3) L s0 s1 s2) x0
def f100 (L N : Nat) (x0 : (List Move)) : Option ((List Move)) := f100.b L N some x0
def f100.ent (L N : Nat) (args : List AV) (vw : View) (site : Nat) : Ans := match roD [(.sl (.st 0))] vw args with
  | some d => ⟨(List Move), f100 L N d.1, fun y => (RN.av site .row (), [(site, some (mkO none 53 (.st 0) y))], [])⟩
  | none => Ans.no
noncomputable def E100 (L N : Nat) : Env := { P := Try.prog, ty := tyOf, Φ := (Φ128 L N), inl := inlT, live := lives, liveX := livesX, L := L, dp := none, prom := promT, heal := healT, ren := renT }
noncomputable def f100.c0 : Code := loopAt 0 (codeOf Try.f100)
theorem f100.s0_pre {R : Type} (L N : Nat) (κ : Ex → T → H → Option R) (rec : T → H → Option R) (s0 : (List Move)) (s1 : Int) (s2 : (List Move)) :
    evRd (E100 L N) (evCallI (E100 L N) 1 2000) 1000 100 23 0 f100.c0 κ rec (f100.T0 s0 s1 s2) (f100.H0 s0 s1 s2)
    = f100.s0' L N (fun z3 => κ (.exit 0) (f100.T0_e0 z3) (f100.H0_e0 z3)) (fun s0 s1 s2 => rec (f100.T0 s0 s1 s2) (f100.H0 s0 s1 s2)) s0 s1 s2 := by kernel_rfl
theorem f100.s0_eq {R : Type} (L N : Nat) (κ : Ex → T → H → Option R) (rec : T → H → Option R) (s0 : (List Move)) (s1 : Int) (s2 : (List Move)) :
    evRd (E100 L N) (evCallI (E100 L N) 1 2000) 1000 100 23 0 f100.c0 κ rec (f100.T0 s0 s1 s2) (f100.H0 s0 s1 s2)
    = f100.s0 L N (fun z3 => κ (.exit 0) (f100.T0_e0 z3) (f100.H0_e0 z3)) (fun s0 s1 s2 => rec (f100.T0 s0 s1 s2) (f100.H0 s0 s1 s2)) s0 s1 s2 := by
  rw [f100.s0_pre]
  unfold f100.s0
  rfl
theorem f100.l0_eq {R : Type} (L N : Nat) (κ : Ex → T → H → Option R) : ∀ (n : Nat) (s0 : (List Move)) (s1 : Int) (s2 : (List Move)),
    evLp (E100 L N) (evCallI (E100 L N) 1 2000) 1000 100 23 0 f100.c0 κ n (f100.T0 s0 s1 s2) (f100.H0 s0 s1 s2)
    = f100.l0 L N (fun z3 => κ (.exit 0) (f100.T0_e0 z3) (f100.H0_e0 z3)) n s0 s1 s2 := by
  intro n
  induction n with
  | zero => intros; rfl
  | succ n ih =>
    intro s0 s1 s2
    rw [evLp_succ, f100.s0_eq]
    simp only [ih]
    rfl
theorem f100.p0_e0_pre {R : Type} (L N : Nat) (κ : RN.Den .row → List Move → Option R) (z3 : (List Move)) :
    (contAt (E100 L N) (evCallI (E100 L N) 1 2000) 1000 100 23 0 (codeOf Try.f100) (finK (E100 L N) 1000 Try.f100 (finN .row none 53 (.st 0) κ))) (.exit 0) (f100.T0_e0 z3) (f100.H0_e0 z3)
    = f100.p0_e0' L N (fun a0 => κ () a0) z3 := by kernel_rfl
theorem f100.p0_e0_eq {R : Type} (L N : Nat) (κ : RN.Den .row → List Move → Option R) (z3 : (List Move)) :
    (contAt (E100 L N) (evCallI (E100 L N) 1 2000) 1000 100 23 0 (codeOf Try.f100) (finK (E100 L N) 1000 Try.f100 (finN .row none 53 (.st 0) κ))) (.exit 0) (f100.T0_e0 z3) (f100.H0_e0 z3)
    = f100.p0_e0 L N (fun a0 => κ () a0) z3 := by
  rw [f100.p0_e0_pre]
  unfold f100.p0_e0
  rfl
theorem f100.b_pre {R : Type} (L N : Nat) (κ : RN.Den .row → List Move → Option R) (x0 : (List Move)) :
    evBody (E100 L N) (evCallI (E100 L N) 1 2000) 1000 100 Try.f100 [(.tv (.sl (.st 0)) x0)] [] [] (finN .row none 53 (.st 0) κ)
    = f100.b' L N (fun a0 => κ () a0) (fun s0 s1 s2 => evLp (E100 L N) (evCallI (E100 L N) 1 2000) 1000 100 23 0 f100.c0 (contAt (E100 L N) (evCallI (E100 L N) 1 2000) 1000 100 23 0 (codeOf Try.f100) (finK (E100 L N) 1000 Try.f100 (finN .row none 53 (.st 0) κ))) L (f100.T0 s0 s1 s2) (f100.H0 s0 s1 s2)) x0 := by kernel_rfl
theorem f100.b_eq {R : Type} (L N : Nat) (κ : RN.Den .row → List Move → Option R) (x0 : (List Move)) :
    evBody (E100 L N) (evCallI (E100 L N) 1 2000) 1000 100 Try.f100 [(.tv (.sl (.st 0)) x0)] [] [] (finN .row none 53 (.st 0) κ)
    = f100.b L N (fun a0 => κ () a0) x0 := by
  rw [f100.b_pre]
  unfold f100.b
  simp only [f100.l0_eq, f100.p0_e0_eq]
theorem f100.s0'_nat {R R' : Type} (j : R → Option R') (L N : Nat) (k0_e0 : (List Move) → Option R) (rec0 : (List Move) → Int → (List Move) → Option R) (s0 : (List Move)) (s1 : Int) (s2 : (List Move)) :
    f100.s0' L N (fun a0 => (k0_e0 a0).bind j) (fun a0 a1 a2 => (rec0 a0 a1 a2).bind j) s0 s1 s2 = (f100.s0' L N k0_e0 rec0 s0 s1 s2).bind j := by
  unfold f100.s0'
  repeat' (first | (with_reducible refine cond_nat ?_ ?_) | (with_reducible refine bind_nat fun _ => ?_) | rfl)
theorem f100.s0_nat {R R' : Type} (j : R → Option R') (L N : Nat) (k0_e0 : (List Move) → Option R) (rec0 : (List Move) → Int → (List Move) → Option R) (s0 : (List Move)) (s1 : Int) (s2 : (List Move)) :
    f100.s0 L N (fun a0 => (k0_e0 a0).bind j) (fun a0 a1 a2 => (rec0 a0 a1 a2).bind j) s0 s1 s2 = (f100.s0 L N k0_e0 rec0 s0 s1 s2).bind j := by
  unfold f100.s0
  exact f100.s0'_nat ..
theorem f100.l0_nat {R R' : Type} (j : R → Option R') (L N : Nat) (k0_e0 : (List Move) → Option R) : ∀ (n : Nat) (s0 : (List Move)) (s1 : Int) (s2 : (List Move)),
    f100.l0 L N (fun a0 => (k0_e0 a0).bind j) n s0 s1 s2 = (f100.l0 L N k0_e0 n s0 s1 s2).bind j := by
  intro n
  induction n with
  | zero => intros; rfl
  | succ n ih =>
    intro s0 s1 s2
    show f100.s0 L N (fun a0 => (k0_e0 a0).bind j) (f100.l0 L N (fun a0 => (k0_e0 a0).bind j) n) s0 s1 s2 = _
    rw [show f100.l0 L N (fun a0 => (k0_e0 a0).bind j) n = (fun s0 s1 s2 => (f100.l0 L N k0_e0 n s0 s1 s2).bind j) from funext fun s0 => funext fun s1 => funext fun s2 => ih s0 s1 s2]
    exact f100.s0_nat ..
theorem f100.p0_e0'_nat {R R' : Type} (j : R → Option R') (L N : Nat) (k : (List Move) → Option R) (z3 : (List Move)) :
    f100.p0_e0' L N (fun a0 => (k a0).bind j) z3 = (f100.p0_e0' L N k z3).bind j := by
  unfold f100.p0_e0'
  repeat' (first | (with_reducible refine cond_nat ?_ ?_) | (with_reducible refine bind_nat fun _ => ?_) | rfl)
theorem f100.p0_e0_nat {R R' : Type} (j : R → Option R') (L N : Nat) (k : (List Move) → Option R) (z3 : (List Move)) :
    f100.p0_e0 L N (fun a0 => (k a0).bind j) z3 = (f100.p0_e0 L N k z3).bind j := by
  unfold f100.p0_e0
  exact f100.p0_e0'_nat ..
theorem f100.b'_nat {R R' : Type} (j : R → Option R') (L N : Nat) (k : (List Move) → Option R) (w0 : (List Move) → Int → (List Move) → Option R) (x0 : (List Move)) :
    f100.b' L N (fun a0 => (k a0).bind j) (fun a0 a1 a2 => (w0 a0 a1 a2).bind j) x0 = (f100.b' L N k w0 x0).bind j := by
  unfold f100.b'
  repeat' (first | (with_reducible refine cond_nat ?_ ?_) | (with_reducible refine bind_nat fun _ => ?_) | rfl)
theorem f100.b_nat {R R' : Type} (j : R → Option R') (L N : Nat) (k : (List Move) → Option R) (x0 : (List Move)) :
    f100.b L N (fun a0 => (k a0).bind j) x0 = (f100.b L N k x0).bind j := by
  unfold f100.b
  simp only [f100.l0_nat, f100.p0_e0_nat]
  exact f100.b'_nat ..
theorem f100.ok (L N : Nat) (hΦ : TellsOk Try.prog ((Φ128 L N))) : EntOk Try.prog 100 (f100.ent L N) := by
  intro args vw site h
  unfold f100.ent
  split
  · rename_i d ha
    intro y hy hs
    refine call_ron (dep := 1000) (E := (E100 L N)) (ts := [(.sl (.st 0))]) (rn := .row) (q := none) (el := 53) (ty := (.st 0)) (d1 := ()) (xs := y) (sound_of hΦ) okP (callI_sound (sound_of hΦ) okP 1 2000) (f := Try.f100) rfl hs ha ?_ rfl site
    refine (f100.b_eq L N (fun d xs => some (d, xs)) d.1).trans ?_
    refine ((f100.b_nat (fun y => (some ((), y) : Option (RN.Den .row × List Move))) L N some d.1)).trans ?_
    rw [show f100.b L N some d.1 = some y from hy]
    rfl
  · intro y hy
    cases hy
def Φ100 (L N : Nat) : Tells := (addT (Φ128 L N) 100 (f100.ent L N))
theorem Φ100_ok (L N : Nat) : TellsOk Try.prog (Φ100 L N) := addT_ok (Φ128_ok L N) (f100.ok L N (Φ128_ok L N))
def f61.s0' {R : Type} (L N : Nat) (k0_e0 : (List (List Move)) → Option R) (rec0 : (List (List Move)) → Int → (List (List Move)) → Option R) (s0 : (List (List Move))) (s1 : Int) (s2 : (List (List Move))) : Option R :=
  bif (decide (s1 < (s0.length : Int))) then
    bif (decide (0 ≤ s1) && decide (s1 < (s0.length : Int))) then
      (f100 L N (listAt s0 [] s1.toNat)).bind fun y4 =>
      bif (decide (0 ≤ s1) && decide (s1 < (s2.length : Int))) then
        rec0 s0 (wi (s1 + (1 : Int))) (s2.set s1.toNat y4)
      else none
    else none
  else k0_e0 s2
def f61.s0 {R : Type} (L N : Nat) (k0_e0 : (List (List Move)) → Option R) (rec0 : (List (List Move)) → Int → (List (List Move)) → Option R) (s0 : (List (List Move))) (s1 : Int) (s2 : (List (List Move))) : Option R :=
  f61.s0' L N k0_e0 rec0 s0 s1 s2
def f61.l0 {R : Type} (L N : Nat) (k0_e0 : (List (List Move)) → Option R) : Nat → (List (List Move)) → Int → (List (List Move)) → Option R
  | 0, _, _, _ => none
  | n + 1, s0, s1, s2 => f61.s0 L N k0_e0 (f61.l0 L N k0_e0 n) s0 s1 s2
def f61.T0 (s0 : (List (List Move))) (s1 : Int) (s2 : (List (List Move))) : T := mkT 23 [(0, (.tv (.sl (.sl (.st 0))) s0)), (3, (.row 1007)), (4, (.tv i64 s1))]
def f61.H0 (s0 : (List (List Move))) (s1 : Int) (s2 : (List (List Move))) : H := [(1007, (.deep 0 (.sl (.st 0)) s2 none))]
def f61.T0_e0 (z3 : (List (List Move))) : T := mkT 23 [(3, (.row 1007))]
def f61.H0_e0 (z3 : (List (List Move))) : H := [(1007, (.deep 0 (.sl (.st 0)) z3 none))]
def f61.p0_e0' {R : Type} (L N : Nat) (k : (List (List Move)) → Option R) (z3 : (List (List Move))) : Option R :=
  k z3
def f61.p0_e0 {R : Type} (L N : Nat) (k : (List (List Move)) → Option R) (z3 : (List (List Move))) : Option R :=
  f61.p0_e0' L N k z3
def f61.b' {R : Type} (L N : Nat) (k : (List (List Move)) → Option R) (w0 : (List (List Move)) → Int → (List (List Move)) → Option R) (x0 : (List (List Move))) : Option R :=
  bif (decide (0 ≤ (x0.length : Int)) && decide ((x0.length : Int) ≤ (lim : Int))) then
    w0 x0 (0 : Int) (List.replicate (x0.length : Int).toNat [])
  else none
def f61.b {R : Type} (L N : Nat) (k : (List (List Move)) → Option R) (x0 : (List (List Move))) : Option R :=
  f61.b' L N k (fun s0 s1 s2 => f61.l0 L N (fun z3 => f61.p0_e0 L N k z3) L s0 s1 s2) x0
def f61 (L N : Nat) (x0 : (List (List Move))) : Option ((List (List Move))) := f61.b L N some x0
def f61.ent (L N : Nat) (args : List AV) (vw : View) (site : Nat) : Ans := match roD [(.sl (.sl (.st 0)))] vw args with
  | some d => ⟨(List (List Move)), f61 L N d.1, fun y => (RN.av site .row (), [(site, some (mkO (some 0) 51 (.sl (.st 0)) y))], [])⟩
  | none => Ans.no
noncomputable def E61 (L N : Nat) : Env := { P := Try.prog, ty := tyOf, Φ := (Φ100 L N), inl := inlT, live := lives, liveX := livesX, L := L, dp := (some 0), prom := promT, heal := healT, ren := renT }
noncomputable def f61.c0 : Code := loopAt 0 (codeOf Try.f61)
theorem f61.s0_pre {R : Type} (L N : Nat) (κ : Ex → T → H → Option R) (rec : T → H → Option R) (s0 : (List (List Move))) (s1 : Int) (s2 : (List (List Move))) :
    evRd (E61 L N) (evCallI (E61 L N) 1 2000) 1000 61 23 0 f61.c0 κ rec (f61.T0 s0 s1 s2) (f61.H0 s0 s1 s2)
    = f61.s0' L N (fun z3 => κ (.exit 0) (f61.T0_e0 z3) (f61.H0_e0 z3)) (fun s0 s1 s2 => rec (f61.T0 s0 s1 s2) (f61.H0 s0 s1 s2)) s0 s1 s2 := by kernel_rfl
theorem f61.s0_eq {R : Type} (L N : Nat) (κ : Ex → T → H → Option R) (rec : T → H → Option R) (s0 : (List (List Move))) (s1 : Int) (s2 : (List (List Move))) :
    evRd (E61 L N) (evCallI (E61 L N) 1 2000) 1000 61 23 0 f61.c0 κ rec (f61.T0 s0 s1 s2) (f61.H0 s0 s1 s2)
    = f61.s0 L N (fun z3 => κ (.exit 0) (f61.T0_e0 z3) (f61.H0_e0 z3)) (fun s0 s1 s2 => rec (f61.T0 s0 s1 s2) (f61.H0 s0 s1 s2)) s0 s1 s2 := by
  rw [f61.s0_pre]
  unfold f61.s0
  rfl
theorem f61.l0_eq {R : Type} (L N : Nat) (κ : Ex → T → H → Option R) : ∀ (n : Nat) (s0 : (List (List Move))) (s1 : Int) (s2 : (List (List Move))),
    evLp (E61 L N) (evCallI (E61 L N) 1 2000) 1000 61 23 0 f61.c0 κ n (f61.T0 s0 s1 s2) (f61.H0 s0 s1 s2)
    = f61.l0 L N (fun z3 => κ (.exit 0) (f61.T0_e0 z3) (f61.H0_e0 z3)) n s0 s1 s2 := by
  intro n
  induction n with
  | zero => intros; rfl
  | succ n ih =>
    intro s0 s1 s2
    rw [evLp_succ, f61.s0_eq]
    simp only [ih]
    rfl
theorem f61.p0_e0_pre {R : Type} (L N : Nat) (κ : RN.Den .row → List (List Move) → Option R) (z3 : (List (List Move))) :
    (contAt (E61 L N) (evCallI (E61 L N) 1 2000) 1000 61 23 0 (codeOf Try.f61) (finK (E61 L N) 1000 Try.f61 (finN .row (some 0) 51 (.sl (.st 0)) κ))) (.exit 0) (f61.T0_e0 z3) (f61.H0_e0 z3)
    = f61.p0_e0' L N (fun a0 => κ () a0) z3 := by kernel_rfl
theorem f61.p0_e0_eq {R : Type} (L N : Nat) (κ : RN.Den .row → List (List Move) → Option R) (z3 : (List (List Move))) :
    (contAt (E61 L N) (evCallI (E61 L N) 1 2000) 1000 61 23 0 (codeOf Try.f61) (finK (E61 L N) 1000 Try.f61 (finN .row (some 0) 51 (.sl (.st 0)) κ))) (.exit 0) (f61.T0_e0 z3) (f61.H0_e0 z3)
    = f61.p0_e0 L N (fun a0 => κ () a0) z3 := by
  rw [f61.p0_e0_pre]
  unfold f61.p0_e0
  rfl
theorem f61.b_pre {R : Type} (L N : Nat) (κ : RN.Den .row → List (List Move) → Option R) (x0 : (List (List Move))) :
    evBody (E61 L N) (evCallI (E61 L N) 1 2000) 1000 61 Try.f61 [(.tv (.sl (.sl (.st 0))) x0)] [] [] (finN .row (some 0) 51 (.sl (.st 0)) κ)
    = f61.b' L N (fun a0 => κ () a0) (fun s0 s1 s2 => evLp (E61 L N) (evCallI (E61 L N) 1 2000) 1000 61 23 0 f61.c0 (contAt (E61 L N) (evCallI (E61 L N) 1 2000) 1000 61 23 0 (codeOf Try.f61) (finK (E61 L N) 1000 Try.f61 (finN .row (some 0) 51 (.sl (.st 0)) κ))) L (f61.T0 s0 s1 s2) (f61.H0 s0 s1 s2)) x0 := by kernel_rfl
theorem f61.b_eq {R : Type} (L N : Nat) (κ : RN.Den .row → List (List Move) → Option R) (x0 : (List (List Move))) :
    evBody (E61 L N) (evCallI (E61 L N) 1 2000) 1000 61 Try.f61 [(.tv (.sl (.sl (.st 0))) x0)] [] [] (finN .row (some 0) 51 (.sl (.st 0)) κ)
    = f61.b L N (fun a0 => κ () a0) x0 := by
  rw [f61.b_pre]
  unfold f61.b
  simp only [f61.l0_eq, f61.p0_e0_eq]
theorem f61.s0'_nat {R R' : Type} (j : R → Option R') (L N : Nat) (k0_e0 : (List (List Move)) → Option R) (rec0 : (List (List Move)) → Int → (List (List Move)) → Option R) (s0 : (List (List Move))) (s1 : Int) (s2 : (List (List Move))) :
    f61.s0' L N (fun a0 => (k0_e0 a0).bind j) (fun a0 a1 a2 => (rec0 a0 a1 a2).bind j) s0 s1 s2 = (f61.s0' L N k0_e0 rec0 s0 s1 s2).bind j := by
  unfold f61.s0'
  repeat' (first | (with_reducible refine cond_nat ?_ ?_) | (with_reducible refine bind_nat fun _ => ?_) | rfl)
theorem f61.s0_nat {R R' : Type} (j : R → Option R') (L N : Nat) (k0_e0 : (List (List Move)) → Option R) (rec0 : (List (List Move)) → Int → (List (List Move)) → Option R) (s0 : (List (List Move))) (s1 : Int) (s2 : (List (List Move))) :
    f61.s0 L N (fun a0 => (k0_e0 a0).bind j) (fun a0 a1 a2 => (rec0 a0 a1 a2).bind j) s0 s1 s2 = (f61.s0 L N k0_e0 rec0 s0 s1 s2).bind j := by
  unfold f61.s0
  exact f61.s0'_nat ..
theorem f61.l0_nat {R R' : Type} (j : R → Option R') (L N : Nat) (k0_e0 : (List (List Move)) → Option R) : ∀ (n : Nat) (s0 : (List (List Move))) (s1 : Int) (s2 : (List (List Move))),
    f61.l0 L N (fun a0 => (k0_e0 a0).bind j) n s0 s1 s2 = (f61.l0 L N k0_e0 n s0 s1 s2).bind j := by
  intro n
  induction n with
  | zero => intros; rfl
  | succ n ih =>
    intro s0 s1 s2
    show f61.s0 L N (fun a0 => (k0_e0 a0).bind j) (f61.l0 L N (fun a0 => (k0_e0 a0).bind j) n) s0 s1 s2 = _
    rw [show f61.l0 L N (fun a0 => (k0_e0 a0).bind j) n = (fun s0 s1 s2 => (f61.l0 L N k0_e0 n s0 s1 s2).bind j) from funext fun s0 => funext fun s1 => funext fun s2 => ih s0 s1 s2]
    exact f61.s0_nat ..
theorem f61.p0_e0'_nat {R R' : Type} (j : R → Option R') (L N : Nat) (k : (List (List Move)) → Option R) (z3 : (List (List Move))) :
    f61.p0_e0' L N (fun a0 => (k a0).bind j) z3 = (f61.p0_e0' L N k z3).bind j := by
  unfold f61.p0_e0'
  repeat' (first | (with_reducible refine cond_nat ?_ ?_) | (with_reducible refine bind_nat fun _ => ?_) | rfl)
theorem f61.p0_e0_nat {R R' : Type} (j : R → Option R') (L N : Nat) (k : (List (List Move)) → Option R) (z3 : (List (List Move))) :
    f61.p0_e0 L N (fun a0 => (k a0).bind j) z3 = (f61.p0_e0 L N k z3).bind j := by
  unfold f61.p0_e0
  exact f61.p0_e0'_nat ..
theorem f61.b'_nat {R R' : Type} (j : R → Option R') (L N : Nat) (k : (List (List Move)) → Option R) (w0 : (List (List Move)) → Int → (List (List Move)) → Option R) (x0 : (List (List Move))) :
    f61.b' L N (fun a0 => (k a0).bind j) (fun a0 a1 a2 => (w0 a0 a1 a2).bind j) x0 = (f61.b' L N k w0 x0).bind j := by
  unfold f61.b'
  repeat' (first | (with_reducible refine cond_nat ?_ ?_) | (with_reducible refine bind_nat fun _ => ?_) | rfl)
theorem f61.b_nat {R R' : Type} (j : R → Option R') (L N : Nat) (k : (List (List Move)) → Option R) (x0 : (List (List Move))) :
    f61.b L N (fun a0 => (k a0).bind j) x0 = (f61.b L N k x0).bind j := by
  unfold f61.b
  simp only [f61.l0_nat, f61.p0_e0_nat]
  exact f61.b'_nat ..
theorem f61.ok (L N : Nat) (hΦ : TellsOk Try.prog ((Φ100 L N))) : EntOk Try.prog 61 (f61.ent L N) := by
  intro args vw site h
  unfold f61.ent
  split
  · rename_i d ha
    intro y hy hs
    refine call_ron (dep := 1000) (E := (E61 L N)) (ts := [(.sl (.sl (.st 0)))]) (rn := .row) (q := (some 0)) (el := 51) (ty := (.sl (.st 0))) (d1 := ()) (xs := y) (sound_of hΦ) okP (callI_sound (sound_of hΦ) okP 1 2000) (f := Try.f61) rfl hs ha ?_ rfl site
    refine (f61.b_eq L N (fun d xs => some (d, xs)) d.1).trans ?_
    refine ((f61.b_nat (fun y => (some ((), y) : Option (RN.Den .row × List (List Move)))) L N some d.1)).trans ?_
    rw [show f61.b L N some d.1 = some y from hy]
    rfl
  · intro y hy
    cases hy
def Φ61 (L N : Nat) : Tells := (addT (Φ100 L N) 61 (f61.ent L N))
theorem Φ61_ok (L N : Nat) : TellsOk Try.prog (Φ61 L N) := addT_ok (Φ100_ok L N) (f61.ok L N (Φ100_ok L N))
def f18.b' {R : Type} (L N : Nat) (k : (List (List Move)) → Option R) (x0 : Graph) : Option R :=
  (f61 L N x0.moves).bind fun y0 =>
  k y0
def f18.b {R : Type} (L N : Nat) (k : (List (List Move)) → Option R) (x0 : Graph) : Option R :=
  f18.b' L N k x0
def f18 (L N : Nat) (x0 : Graph) : Option ((List (List Move))) := f18.b L N some x0
def f18.ent (L N : Nat) (args : List AV) (vw : View) (site : Nat) : Ans := match roD [(.st 2)] vw args with
  | some d => ⟨(List (List Move)), f18 L N d.1, fun y => (RN.av site (.agg []) (()), [(site, some (mkO (some 0) 51 (.sl (.st 0)) y))], [])⟩
  | none => Ans.no
noncomputable def E18 (L N : Nat) : Env := { P := Try.prog, ty := tyOf, Φ := (Φ61 L N), inl := inlT, live := lives, liveX := livesX, L := L, dp := (some 0), prom := promT, heal := healT, ren := renT }
theorem f18.b_pre {R : Type} (L N : Nat) (κ : RN.Den (.agg []) → List (List Move) → Option R) (x0 : Graph) :
    evBody (E18 L N) (evCallI (E18 L N) 1 2000) 1000 18 Try.f18 [(.tv (.st 2) x0)] [] [] (finN (.agg []) (some 0) 51 (.sl (.st 0)) κ)
    = f18.b' L N (fun a0 => κ (()) a0) x0 := by kernel_rfl
theorem f18.b_eq {R : Type} (L N : Nat) (κ : RN.Den (.agg []) → List (List Move) → Option R) (x0 : Graph) :
    evBody (E18 L N) (evCallI (E18 L N) 1 2000) 1000 18 Try.f18 [(.tv (.st 2) x0)] [] [] (finN (.agg []) (some 0) 51 (.sl (.st 0)) κ)
    = f18.b L N (fun a0 => κ (()) a0) x0 := by
  rw [f18.b_pre]
  unfold f18.b
  rfl
theorem f18.b'_nat {R R' : Type} (j : R → Option R') (L N : Nat) (k : (List (List Move)) → Option R) (x0 : Graph) :
    f18.b' L N (fun a0 => (k a0).bind j) x0 = (f18.b' L N k x0).bind j := by
  unfold f18.b'
  repeat' (first | (with_reducible refine cond_nat ?_ ?_) | (with_reducible refine bind_nat fun _ => ?_) | rfl)
theorem f18.b_nat {R R' : Type} (j : R → Option R') (L N : Nat) (k : (List (List Move)) → Option R) (x0 : Graph) :
    f18.b L N (fun a0 => (k a0).bind j) x0 = (f18.b L N k x0).bind j := by
  unfold f18.b
  exact f18.b'_nat ..
theorem f18.ok (L N : Nat) (hΦ : TellsOk Try.prog ((Φ61 L N))) : EntOk Try.prog 18 (f18.ent L N) := by
  intro args vw site h
  unfold f18.ent
  split
  · rename_i d ha
    intro y hy hs
    refine call_ron (dep := 1000) (E := (E18 L N)) (ts := [(.st 2)]) (rn := (.agg [])) (q := (some 0)) (el := 51) (ty := (.sl (.st 0))) (d1 := (())) (xs := y) (sound_of hΦ) okP (callI_sound (sound_of hΦ) okP 1 2000) (f := Try.f18) rfl hs ha ?_ rfl site
    refine (f18.b_eq L N (fun d xs => some (d, xs)) d.1).trans ?_
    refine ((f18.b_nat (fun y => (some ((()), y) : Option (RN.Den (.agg []) × List (List Move)))) L N some d.1)).trans ?_
    rw [show f18.b L N some d.1 = some y from hy]
    rfl
  · intro y hy
    cases hy
def Φ18 (L N : Nat) : Tells := (addT (Φ61 L N) 18 (f18.ent L N))
theorem Φ18_ok (L N : Nat) : TellsOk Try.prog (Φ18 L N) := addT_ok (Φ61_ok L N) (f18.ok L N (Φ61_ok L N))
def f19.b' {R : Type} (L N : Nat) (self19 : Tree → Option (Int × Int × (List Tree))) (self62 : (List Tree) → Option ((List Tree))) (k : Int → Int → (List Tree) → Option R) (x0 : Tree) : Option R :=
  (self62 x0.parts).bind fun y0 =>
  k x0.op x0.n y0
def f19.b {R : Type} (L N : Nat) (self19 : Tree → Option (Int × Int × (List Tree))) (self62 : (List Tree) → Option ((List Tree))) (k : Int → Int → (List Tree) → Option R) (x0 : Tree) : Option R :=
  f19.b' L N self19 self62 k x0
def f62.s0' {R : Type} (L N : Nat) (self19 : Tree → Option (Int × Int × (List Tree))) (self62 : (List Tree) → Option ((List Tree))) (k0_e0 : (List Tree) → Option R) (rec0 : (List Tree) → Int → (List Tree) → Option R) (s0 : (List Tree)) (s1 : Int) (s2 : (List Tree)) : Option R :=
  bif (decide (s1 < (s0.length : Int))) then
    bif (decide (0 ≤ s1) && decide (s1 < (s0.length : Int))) then
      (self19 (listAt s0 (Ty.dflt (.st 1)) s1.toNat)).bind fun y4 =>
      bif (decide (0 ≤ s1) && decide (s1 < (s2.length : Int))) then
        rec0 s0 (wi (s1 + (1 : Int))) (s2.set s1.toNat (Tree.mk y4.1 y4.2.1 y4.2.2))
      else none
    else none
  else k0_e0 s2
def f62.s0 {R : Type} (L N : Nat) (self19 : Tree → Option (Int × Int × (List Tree))) (self62 : (List Tree) → Option ((List Tree))) (k0_e0 : (List Tree) → Option R) (rec0 : (List Tree) → Int → (List Tree) → Option R) (s0 : (List Tree)) (s1 : Int) (s2 : (List Tree)) : Option R :=
  f62.s0' L N self19 self62 k0_e0 rec0 s0 s1 s2
def f62.l0 {R : Type} (L N : Nat) (self19 : Tree → Option (Int × Int × (List Tree))) (self62 : (List Tree) → Option ((List Tree))) (k0_e0 : (List Tree) → Option R) : Nat → (List Tree) → Int → (List Tree) → Option R
  | 0, _, _, _ => none
  | n + 1, s0, s1, s2 => f62.s0 L N self19 self62 k0_e0 (f62.l0 L N self19 self62 k0_e0 n) s0 s1 s2
def f62.T0 (s0 : (List Tree)) (s1 : Int) (s2 : (List Tree)) : T := mkT 23 [(0, (.tv (.sl (.st 1)) s0)), (3, (.row 1007)), (4, (.tv i64 s1))]
def f62.H0 (s0 : (List Tree)) (s1 : Int) (s2 : (List Tree)) : H := [(1007, (.deep 1 (.st 1) s2 none))]
def f62.T0_e0 (z3 : (List Tree)) : T := mkT 23 [(3, (.row 1007))]
def f62.H0_e0 (z3 : (List Tree)) : H := [(1007, (.deep 1 (.st 1) z3 none))]
def f62.p0_e0' {R : Type} (L N : Nat) (self19 : Tree → Option (Int × Int × (List Tree))) (self62 : (List Tree) → Option ((List Tree))) (k : (List Tree) → Option R) (z3 : (List Tree)) : Option R :=
  k z3
def f62.p0_e0 {R : Type} (L N : Nat) (self19 : Tree → Option (Int × Int × (List Tree))) (self62 : (List Tree) → Option ((List Tree))) (k : (List Tree) → Option R) (z3 : (List Tree)) : Option R :=
  f62.p0_e0' L N self19 self62 k z3
def f62.b' {R : Type} (L N : Nat) (self19 : Tree → Option (Int × Int × (List Tree))) (self62 : (List Tree) → Option ((List Tree))) (k : (List Tree) → Option R) (w0 : (List Tree) → Int → (List Tree) → Option R) (x0 : (List Tree)) : Option R :=
  bif (decide (0 ≤ (x0.length : Int)) && decide ((x0.length : Int) ≤ (lim : Int))) then
    w0 x0 (0 : Int) (List.replicate (x0.length : Int).toNat (Ty.dflt (.st 1)))
  else none
def f62.b {R : Type} (L N : Nat) (self19 : Tree → Option (Int × Int × (List Tree))) (self62 : (List Tree) → Option ((List Tree))) (k : (List Tree) → Option R) (x0 : (List Tree)) : Option R :=
  f62.b' L N self19 self62 k (fun s0 s1 s2 => f62.l0 L N self19 self62 (fun z3 => f62.p0_e0 L N self19 self62 k z3) L s0 s1 s2) x0
mutual
def f19 (L N : Nat) : Nat → Tree → Option (Int × Int × (List Tree))
  | 0, _ => none
  | n + 1, x0 => f19.b L N (f19 L N n) (f62 L N n) (fun a0 a1 a2 => some (a0, a1, a2)) x0
def f62 (L N : Nat) : Nat → (List Tree) → Option ((List Tree))
  | 0, _ => none
  | n + 1, x0 => f62.b L N (f19 L N n) (f62 L N n) some x0
end
def f19.ent (L N m : Nat) (args : List AV) (vw : View) (site : Nat) : Ans := match roD [(.st 1)] vw args with
  | some d => ⟨Int × Int × (List Tree), f19 L N m d.1, fun y => (RN.av site (.agg [i64, i64]) (y.1, y.2.1, ()), [(site, some (mkO (some 1) 38 (.st 1) y.2.2))], [])⟩
  | none => Ans.no
def f62.ent (L N m : Nat) (args : List AV) (vw : View) (site : Nat) : Ans := match roD [(.sl (.st 1))] vw args with
  | some d => ⟨(List Tree), f62 L N m d.1, fun y => (RN.av site .row (), [(site, some (mkO (some 1) 38 (.st 1) y))], [])⟩
  | none => Ans.no
def Φ19s (L N m : Nat) : Tells := (addT (addT (Φ18 L N) 19 (f19.ent L N m)) 62 (f62.ent L N m))
noncomputable def E19 (L N m : Nat) : Env := { P := Try.prog, ty := tyOf, Φ := Φ19s L N m, inl := inlT, live := lives, liveX := livesX, L := L, dp := (some 1), prom := promT, heal := healT, ren := renT }
theorem f19.b_pre {R : Type} (L N m : Nat) (κ : RN.Den (.agg [i64, i64]) → List Tree → Option R) (x0 : Tree) :
    evBody (E19 L N m) (evCallI (E19 L N m) 1 2000) 1000 19 Try.f19 [(.tv (.st 1) x0)] [] [] (finN (.agg [i64, i64]) (some 1) 38 (.st 1) κ)
    = f19.b' L N (f19 L N m) (f62 L N m) (fun a0 a1 a2 => κ (a0, a1, ()) a2) x0 := by kernel_rfl
theorem f19.b_eq {R : Type} (L N m : Nat) (κ : RN.Den (.agg [i64, i64]) → List Tree → Option R) (x0 : Tree) :
    evBody (E19 L N m) (evCallI (E19 L N m) 1 2000) 1000 19 Try.f19 [(.tv (.st 1) x0)] [] [] (finN (.agg [i64, i64]) (some 1) 38 (.st 1) κ)
    = f19.b L N (f19 L N m) (f62 L N m) (fun a0 a1 a2 => κ (a0, a1, ()) a2) x0 := by
  rw [f19.b_pre]
  unfold f19.b
  rfl
noncomputable def f62.c0 : Code := loopAt 0 (codeOf Try.f62)
theorem f62.s0_pre {R : Type} (L N m : Nat) (κ : Ex → T → H → Option R) (rec : T → H → Option R) (s0 : (List Tree)) (s1 : Int) (s2 : (List Tree)) :
    evRd (E19 L N m) (evCallI (E19 L N m) 1 2000) 1000 62 23 0 f62.c0 κ rec (f62.T0 s0 s1 s2) (f62.H0 s0 s1 s2)
    = f62.s0' L N (f19 L N m) (f62 L N m) (fun z3 => κ (.exit 0) (f62.T0_e0 z3) (f62.H0_e0 z3)) (fun s0 s1 s2 => rec (f62.T0 s0 s1 s2) (f62.H0 s0 s1 s2)) s0 s1 s2 := by kernel_rfl
theorem f62.s0_eq {R : Type} (L N m : Nat) (κ : Ex → T → H → Option R) (rec : T → H → Option R) (s0 : (List Tree)) (s1 : Int) (s2 : (List Tree)) :
    evRd (E19 L N m) (evCallI (E19 L N m) 1 2000) 1000 62 23 0 f62.c0 κ rec (f62.T0 s0 s1 s2) (f62.H0 s0 s1 s2)
    = f62.s0 L N (f19 L N m) (f62 L N m) (fun z3 => κ (.exit 0) (f62.T0_e0 z3) (f62.H0_e0 z3)) (fun s0 s1 s2 => rec (f62.T0 s0 s1 s2) (f62.H0 s0 s1 s2)) s0 s1 s2 := by
  rw [f62.s0_pre]
  unfold f62.s0
  rfl
theorem f62.l0_eq {R : Type} (L N m : Nat) (κ : Ex → T → H → Option R) : ∀ (n : Nat) (s0 : (List Tree)) (s1 : Int) (s2 : (List Tree)),
    evLp (E19 L N m) (evCallI (E19 L N m) 1 2000) 1000 62 23 0 f62.c0 κ n (f62.T0 s0 s1 s2) (f62.H0 s0 s1 s2)
    = f62.l0 L N (f19 L N m) (f62 L N m) (fun z3 => κ (.exit 0) (f62.T0_e0 z3) (f62.H0_e0 z3)) n s0 s1 s2 := by
  intro n
  induction n with
  | zero => intros; rfl
  | succ n ih =>
    intro s0 s1 s2
    rw [evLp_succ, f62.s0_eq]
    simp only [ih]
    rfl
theorem f62.p0_e0_pre {R : Type} (L N m : Nat) (κ : RN.Den .row → List Tree → Option R) (z3 : (List Tree)) :
    (contAt (E19 L N m) (evCallI (E19 L N m) 1 2000) 1000 62 23 0 (codeOf Try.f62) (finK (E19 L N m) 1000 Try.f62 (finN .row (some 1) 38 (.st 1) κ))) (.exit 0) (f62.T0_e0 z3) (f62.H0_e0 z3)
    = f62.p0_e0' L N (f19 L N m) (f62 L N m) (fun a0 => κ () a0) z3 := by kernel_rfl
theorem f62.p0_e0_eq {R : Type} (L N m : Nat) (κ : RN.Den .row → List Tree → Option R) (z3 : (List Tree)) :
    (contAt (E19 L N m) (evCallI (E19 L N m) 1 2000) 1000 62 23 0 (codeOf Try.f62) (finK (E19 L N m) 1000 Try.f62 (finN .row (some 1) 38 (.st 1) κ))) (.exit 0) (f62.T0_e0 z3) (f62.H0_e0 z3)
    = f62.p0_e0 L N (f19 L N m) (f62 L N m) (fun a0 => κ () a0) z3 := by
  rw [f62.p0_e0_pre]
  unfold f62.p0_e0
  rfl
theorem f62.b_pre {R : Type} (L N m : Nat) (κ : RN.Den .row → List Tree → Option R) (x0 : (List Tree)) :
    evBody (E19 L N m) (evCallI (E19 L N m) 1 2000) 1000 62 Try.f62 [(.tv (.sl (.st 1)) x0)] [] [] (finN .row (some 1) 38 (.st 1) κ)
    = f62.b' L N (f19 L N m) (f62 L N m) (fun a0 => κ () a0) (fun s0 s1 s2 => evLp (E19 L N m) (evCallI (E19 L N m) 1 2000) 1000 62 23 0 f62.c0 (contAt (E19 L N m) (evCallI (E19 L N m) 1 2000) 1000 62 23 0 (codeOf Try.f62) (finK (E19 L N m) 1000 Try.f62 (finN .row (some 1) 38 (.st 1) κ))) L (f62.T0 s0 s1 s2) (f62.H0 s0 s1 s2)) x0 := by kernel_rfl
theorem f62.b_eq {R : Type} (L N m : Nat) (κ : RN.Den .row → List Tree → Option R) (x0 : (List Tree)) :
    evBody (E19 L N m) (evCallI (E19 L N m) 1 2000) 1000 62 Try.f62 [(.tv (.sl (.st 1)) x0)] [] [] (finN .row (some 1) 38 (.st 1) κ)
    = f62.b L N (f19 L N m) (f62 L N m) (fun a0 => κ () a0) x0 := by
  rw [f62.b_pre]
  unfold f62.b
  simp only [f62.l0_eq, f62.p0_e0_eq]
theorem f19.b'_nat {R R' : Type} (j : R → Option R') (L N : Nat) (self19 : Tree → Option (Int × Int × (List Tree))) (self62 : (List Tree) → Option ((List Tree))) (k : Int → Int → (List Tree) → Option R) (x0 : Tree) :
    f19.b' L N self19 self62 (fun a0 a1 a2 => (k a0 a1 a2).bind j) x0 = (f19.b' L N self19 self62 k x0).bind j := by
  unfold f19.b'
  repeat' (first | (with_reducible refine cond_nat ?_ ?_) | (with_reducible refine bind_nat fun _ => ?_) | rfl)
theorem f19.b_nat {R R' : Type} (j : R → Option R') (L N : Nat) (self19 : Tree → Option (Int × Int × (List Tree))) (self62 : (List Tree) → Option ((List Tree))) (k : Int → Int → (List Tree) → Option R) (x0 : Tree) :
    f19.b L N self19 self62 (fun a0 a1 a2 => (k a0 a1 a2).bind j) x0 = (f19.b L N self19 self62 k x0).bind j := by
  unfold f19.b
  exact f19.b'_nat ..
theorem f62.s0'_nat {R R' : Type} (j : R → Option R') (L N : Nat) (self19 : Tree → Option (Int × Int × (List Tree))) (self62 : (List Tree) → Option ((List Tree))) (k0_e0 : (List Tree) → Option R) (rec0 : (List Tree) → Int → (List Tree) → Option R) (s0 : (List Tree)) (s1 : Int) (s2 : (List Tree)) :
    f62.s0' L N self19 self62 (fun a0 => (k0_e0 a0).bind j) (fun a0 a1 a2 => (rec0 a0 a1 a2).bind j) s0 s1 s2 = (f62.s0' L N self19 self62 k0_e0 rec0 s0 s1 s2).bind j := by
  unfold f62.s0'
  repeat' (first | (with_reducible refine cond_nat ?_ ?_) | (with_reducible refine bind_nat fun _ => ?_) | rfl)
theorem f62.s0_nat {R R' : Type} (j : R → Option R') (L N : Nat) (self19 : Tree → Option (Int × Int × (List Tree))) (self62 : (List Tree) → Option ((List Tree))) (k0_e0 : (List Tree) → Option R) (rec0 : (List Tree) → Int → (List Tree) → Option R) (s0 : (List Tree)) (s1 : Int) (s2 : (List Tree)) :
    f62.s0 L N self19 self62 (fun a0 => (k0_e0 a0).bind j) (fun a0 a1 a2 => (rec0 a0 a1 a2).bind j) s0 s1 s2 = (f62.s0 L N self19 self62 k0_e0 rec0 s0 s1 s2).bind j := by
  unfold f62.s0
  exact f62.s0'_nat ..
theorem f62.l0_nat {R R' : Type} (j : R → Option R') (L N : Nat) (self19 : Tree → Option (Int × Int × (List Tree))) (self62 : (List Tree) → Option ((List Tree))) (k0_e0 : (List Tree) → Option R) : ∀ (n : Nat) (s0 : (List Tree)) (s1 : Int) (s2 : (List Tree)),
    f62.l0 L N self19 self62 (fun a0 => (k0_e0 a0).bind j) n s0 s1 s2 = (f62.l0 L N self19 self62 k0_e0 n s0 s1 s2).bind j := by
  intro n
  induction n with
  | zero => intros; rfl
  | succ n ih =>
    intro s0 s1 s2
    show f62.s0 L N self19 self62 (fun a0 => (k0_e0 a0).bind j) (f62.l0 L N self19 self62 (fun a0 => (k0_e0 a0).bind j) n) s0 s1 s2 = _
    rw [show f62.l0 L N self19 self62 (fun a0 => (k0_e0 a0).bind j) n = (fun s0 s1 s2 => (f62.l0 L N self19 self62 k0_e0 n s0 s1 s2).bind j) from funext fun s0 => funext fun s1 => funext fun s2 => ih s0 s1 s2]
    exact f62.s0_nat ..
theorem f62.p0_e0'_nat {R R' : Type} (j : R → Option R') (L N : Nat) (self19 : Tree → Option (Int × Int × (List Tree))) (self62 : (List Tree) → Option ((List Tree))) (k : (List Tree) → Option R) (z3 : (List Tree)) :
    f62.p0_e0' L N self19 self62 (fun a0 => (k a0).bind j) z3 = (f62.p0_e0' L N self19 self62 k z3).bind j := by
  unfold f62.p0_e0'
  repeat' (first | (with_reducible refine cond_nat ?_ ?_) | (with_reducible refine bind_nat fun _ => ?_) | rfl)
theorem f62.p0_e0_nat {R R' : Type} (j : R → Option R') (L N : Nat) (self19 : Tree → Option (Int × Int × (List Tree))) (self62 : (List Tree) → Option ((List Tree))) (k : (List Tree) → Option R) (z3 : (List Tree)) :
    f62.p0_e0 L N self19 self62 (fun a0 => (k a0).bind j) z3 = (f62.p0_e0 L N self19 self62 k z3).bind j := by
  unfold f62.p0_e0
  exact f62.p0_e0'_nat ..
theorem f62.b'_nat {R R' : Type} (j : R → Option R') (L N : Nat) (self19 : Tree → Option (Int × Int × (List Tree))) (self62 : (List Tree) → Option ((List Tree))) (k : (List Tree) → Option R) (w0 : (List Tree) → Int → (List Tree) → Option R) (x0 : (List Tree)) :
    f62.b' L N self19 self62 (fun a0 => (k a0).bind j) (fun a0 a1 a2 => (w0 a0 a1 a2).bind j) x0 = (f62.b' L N self19 self62 k w0 x0).bind j := by
  unfold f62.b'
  repeat' (first | (with_reducible refine cond_nat ?_ ?_) | (with_reducible refine bind_nat fun _ => ?_) | rfl)
theorem f62.b_nat {R R' : Type} (j : R → Option R') (L N : Nat) (self19 : Tree → Option (Int × Int × (List Tree))) (self62 : (List Tree) → Option ((List Tree))) (k : (List Tree) → Option R) (x0 : (List Tree)) :
    f62.b L N self19 self62 (fun a0 => (k a0).bind j) x0 = (f62.b L N self19 self62 k x0).bind j := by
  unfold f62.b
  simp only [f62.l0_nat, f62.p0_e0_nat]
  exact f62.b'_nat ..
theorem f19.ok (L N m : Nat) (hΦ : TellsOk Try.prog (Φ19s L N m)) : EntOk Try.prog 19 (f19.ent L N (m + 1)) := by
  intro args vw site h
  unfold f19.ent
  split
  · rename_i d ha
    intro y hy hs
    refine call_ron (dep := 1000) (E := (E19 L N m)) (ts := [(.st 1)]) (rn := (.agg [i64, i64])) (q := (some 1)) (el := 38) (ty := (.st 1)) (d1 := (y.1, y.2.1, ())) (xs := y.2.2) (sound_of hΦ) okP (callI_sound (sound_of hΦ) okP 1 2000) (f := Try.f19) rfl hs ha ?_ rfl site
    refine (f19.b_eq L N m (fun d xs => some (d, xs)) d.1).trans ?_
    refine ((f19.b_nat (fun y => (some ((y.1, y.2.1, ()), y.2.2) : Option (RN.Den (.agg [i64, i64]) × List Tree))) L N (f19 L N m) (f62 L N m) (fun a0 a1 a2 => some (a0, a1, a2)) d.1)).trans ?_
    rw [show f19.b L N (f19 L N m) (f62 L N m) (fun a0 a1 a2 => some (a0, a1, a2)) d.1 = some y from hy]
    rfl
  · intro y hy
    cases hy
theorem f62.ok (L N m : Nat) (hΦ : TellsOk Try.prog (Φ19s L N m)) : EntOk Try.prog 62 (f62.ent L N (m + 1)) := by
  intro args vw site h
  unfold f62.ent
  split
  · rename_i d ha
    intro y hy hs
    refine call_ron (dep := 1000) (E := (E19 L N m)) (ts := [(.sl (.st 1))]) (rn := .row) (q := (some 1)) (el := 38) (ty := (.st 1)) (d1 := ()) (xs := y) (sound_of hΦ) okP (callI_sound (sound_of hΦ) okP 1 2000) (f := Try.f62) rfl hs ha ?_ rfl site
    refine (f62.b_eq L N m (fun d xs => some (d, xs)) d.1).trans ?_
    refine ((f62.b_nat (fun y => (some ((), y) : Option (RN.Den .row × List Tree))) L N (f19 L N m) (f62 L N m) some d.1)).trans ?_
    rw [show f62.b L N (f19 L N m) (f62 L N m) some d.1 = some y from hy]
    rfl
  · intro y hy
    cases hy
theorem Φ19s_ok (L N : Nat) : ∀ m, TellsOk Try.prog (Φ19s L N m) := by
  intro m
  induction m with
  | zero => exact (addT_ok (addT_ok (Φ18_ok L N) (fun args vw site h => by unfold f19.ent; split <;> (intro y hy; cases hy))) (fun args vw site h => by unfold f62.ent; split <;> (intro y hy; cases hy)))
  | succ m ih => exact (addT_ok (addT_ok (Φ18_ok L N) (f19.ok L N m ih)) (f62.ok L N m ih))
def Φ19 (L N : Nat) : Tells := (addT (addT (Φ18 L N) 19 (f19.ent L N N)) 62 (f62.ent L N N))
theorem Φ19_ok (L N : Nat) : TellsOk Try.prog (Φ19 L N) := Φ19s_ok L N N
def f72.b' {R : Type} (L N : Nat) (k : Bool → Option R) (x0 : Int) : Option R :=
  bif (decide (x0 ≥ (-4 : Int))) then
    k (decide (x0 ≤ (4 : Int)))
  else k false
def f72.b {R : Type} (L N : Nat) (k : Bool → Option R) (x0 : Int) : Option R :=
  f72.b' L N k x0
def f72 (L N : Nat) (x0 : Int) : Option (Bool) := f72.b L N some x0
def f72.ent (L N : Nat) (args : List AV) (vw : View) (site : Nat) : Ans := match roD [i64] vw args with
  | some d => ⟨Bool, f72 L N d.1, fun y => ((.tv .bool y), [], [])⟩
  | none => Ans.no
noncomputable def E72 (L N : Nat) : Env := { P := Try.prog, ty := tyOf, Φ := (Φ19 L N), inl := inlT, live := lives, liveX := livesX, L := L, dp := none, prom := promT, heal := healT, ren := renT }
theorem f72.b_pre {R : Type} (L N : Nat) (κ : AV → Option R) (x0 : Int) :
    evBody (E72 L N) (evCallI (E72 L N) 1 2000) 1000 72 Try.f72 [(.tv i64 x0)] [] [] (finC (.one .bool) κ)
    = f72.b' L N (fun a0 => κ (.tv .bool a0)) x0 := by kernel_rfl
theorem f72.b_eq {R : Type} (L N : Nat) (κ : AV → Option R) (x0 : Int) :
    evBody (E72 L N) (evCallI (E72 L N) 1 2000) 1000 72 Try.f72 [(.tv i64 x0)] [] [] (finC (.one .bool) κ)
    = f72.b L N (fun a0 => κ (.tv .bool a0)) x0 := by
  rw [f72.b_pre]
  unfold f72.b
  rfl
theorem f72.b'_nat {R R' : Type} (j : R → Option R') (L N : Nat) (k : Bool → Option R) (x0 : Int) :
    f72.b' L N (fun a0 => (k a0).bind j) x0 = (f72.b' L N k x0).bind j := by
  unfold f72.b'
  repeat' (first | (with_reducible refine cond_nat ?_ ?_) | (with_reducible refine bind_nat fun _ => ?_) | rfl)
theorem f72.b_nat {R R' : Type} (j : R → Option R') (L N : Nat) (k : Bool → Option R) (x0 : Int) :
    f72.b L N (fun a0 => (k a0).bind j) x0 = (f72.b L N k x0).bind j := by
  unfold f72.b
  exact f72.b'_nat ..
theorem f72.ok (L N : Nat) (hΦ : TellsOk Try.prog ((Φ19 L N))) : EntOk Try.prog 72 (f72.ent L N) := by
  intro args vw site h
  unfold f72.ent
  split
  · rename_i d ha
    intro y hy hs
    refine call_ro (dep := 1000) (E := (E72 L N)) (rs := (.one .bool)) (v := (.tv .bool y)) (sound_of hΦ) okP (callI_sound (sound_of hΦ) okP 1 2000) (f := Try.f72) rfl hs ha ?_ rfl site
    refine (f72.b_eq L N some d.1).trans ?_
    refine ((f72.b_nat (fun y => (some (.tv .bool y) : Option AV)) L N some d.1)).trans ?_
    rw [show f72.b L N some d.1 = some y from hy]
    rfl
  · intro y hy
    cases hy
def Φ72 (L N : Nat) : Tells := (addT (Φ19 L N) 72 (f72.ent L N))
theorem Φ72_ok (L N : Nat) : TellsOk Try.prog (Φ72 L N) := addT_ok (Φ19_ok L N) (f72.ok L N (Φ19_ok L N))
def f136.b' {R : Type} (L N : Nat) (k : Bool → Option R) (x0 : Int) : Option R :=
  k (x0 != x0)
def f136.b {R : Type} (L N : Nat) (k : Bool → Option R) (x0 : Int) : Option R :=
  f136.b' L N k x0
def f136 (L N : Nat) (x0 : Int) : Option (Bool) := f136.b L N some x0
def f136.ent (L N : Nat) (args : List AV) (vw : View) (site : Nat) : Ans := match roD [i64] vw args with
  | some d => ⟨Bool, f136 L N d.1, fun y => ((.tv .bool y), [], [])⟩
  | none => Ans.no
noncomputable def E136 (L N : Nat) : Env := { P := Try.prog, ty := tyOf, Φ := (Φ72 L N), inl := inlT, live := lives, liveX := livesX, L := L, dp := none, prom := promT, heal := healT, ren := renT }
theorem f136.b_pre {R : Type} (L N : Nat) (κ : AV → Option R) (x0 : Int) :
    evBody (E136 L N) (evCallI (E136 L N) 1 2000) 1000 136 Try.f136 [(.tv i64 x0)] [] [] (finC (.one .bool) κ)
    = f136.b' L N (fun a0 => κ (.tv .bool a0)) x0 := by kernel_rfl
theorem f136.b_eq {R : Type} (L N : Nat) (κ : AV → Option R) (x0 : Int) :
    evBody (E136 L N) (evCallI (E136 L N) 1 2000) 1000 136 Try.f136 [(.tv i64 x0)] [] [] (finC (.one .bool) κ)
    = f136.b L N (fun a0 => κ (.tv .bool a0)) x0 := by
  rw [f136.b_pre]
  unfold f136.b
  rfl
theorem f136.b'_nat {R R' : Type} (j : R → Option R') (L N : Nat) (k : Bool → Option R) (x0 : Int) :
    f136.b' L N (fun a0 => (k a0).bind j) x0 = (f136.b' L N k x0).bind j := by
  unfold f136.b'
  repeat' (first | (with_reducible refine cond_nat ?_ ?_) | (with_reducible refine bind_nat fun _ => ?_) | rfl)
theorem f136.b_nat {R R' : Type} (j : R → Option R') (L N : Nat) (k : Bool → Option R) (x0 : Int) :
    f136.b L N (fun a0 => (k a0).bind j) x0 = (f136.b L N k x0).bind j := by
  unfold f136.b
  exact f136.b'_nat ..
theorem f136.ok (L N : Nat) (hΦ : TellsOk Try.prog ((Φ72 L N))) : EntOk Try.prog 136 (f136.ent L N) := by
  intro args vw site h
  unfold f136.ent
  split
  · rename_i d ha
    intro y hy hs
    refine call_ro (dep := 1000) (E := (E136 L N)) (rs := (.one .bool)) (v := (.tv .bool y)) (sound_of hΦ) okP (callI_sound (sound_of hΦ) okP 1 2000) (f := Try.f136) rfl hs ha ?_ rfl site
    refine (f136.b_eq L N some d.1).trans ?_
    refine ((f136.b_nat (fun y => (some (.tv .bool y) : Option AV)) L N some d.1)).trans ?_
    rw [show f136.b L N some d.1 = some y from hy]
    rfl
  · intro y hy
    cases hy
def Φ136 (L N : Nat) : Tells := (addT (Φ72 L N) 136 (f136.ent L N))
theorem Φ136_ok (L N : Nat) : TellsOk Try.prog (Φ136 L N) := addT_ok (Φ72_ok L N) (f136.ok L N (Φ72_ok L N))
def f108.b' {R : Type} (L N : Nat) (k : Int → Option R) (x0 : Int) (x1 : Int) : Option R :=
  (f136 L N x0).bind fun y0 =>
  (f136 L N x1).bind fun y1 =>
  bif y0 then
    bif y1 then
      k (0 : Int)
    else k (-1 : Int)
  else bif y1 then
    k (1 : Int)
  else bif (decide (x0 < x1)) then
    k (-1 : Int)
  else bif (decide (x0 > x1)) then
    k (1 : Int)
  else k (0 : Int)
def f108.b {R : Type} (L N : Nat) (k : Int → Option R) (x0 : Int) (x1 : Int) : Option R :=
  f108.b' L N k x0 x1
def f108 (L N : Nat) (x0 : Int) (x1 : Int) : Option (Int) := f108.b L N some x0 x1
def f108.ent (L N : Nat) (args : List AV) (vw : View) (site : Nat) : Ans := match roD [i64, i64] vw args with
  | some d => ⟨Int, f108 L N d.1 d.2.1, fun y => ((.tv i64 y), [], [])⟩
  | none => Ans.no
noncomputable def E108 (L N : Nat) : Env := { P := Try.prog, ty := tyOf, Φ := (Φ136 L N), inl := inlT, live := lives, liveX := livesX, L := L, dp := none, prom := promT, heal := healT, ren := renT }
theorem f108.b_pre {R : Type} (L N : Nat) (κ : AV → Option R) (x0 : Int) (x1 : Int) :
    evBody (E108 L N) (evCallI (E108 L N) 1 2000) 1000 108 Try.f108 [(.tv i64 x0), (.tv i64 x1)] [] [] (finC (.one i64) κ)
    = f108.b' L N (fun a0 => κ (.tv i64 a0)) x0 x1 := by kernel_rfl
theorem f108.b_eq {R : Type} (L N : Nat) (κ : AV → Option R) (x0 : Int) (x1 : Int) :
    evBody (E108 L N) (evCallI (E108 L N) 1 2000) 1000 108 Try.f108 [(.tv i64 x0), (.tv i64 x1)] [] [] (finC (.one i64) κ)
    = f108.b L N (fun a0 => κ (.tv i64 a0)) x0 x1 := by
  rw [f108.b_pre]
  unfold f108.b
  rfl
theorem f108.b'_nat {R R' : Type} (j : R → Option R') (L N : Nat) (k : Int → Option R) (x0 : Int) (x1 : Int) :
    f108.b' L N (fun a0 => (k a0).bind j) x0 x1 = (f108.b' L N k x0 x1).bind j := by
  unfold f108.b'
  repeat' (first | (with_reducible refine cond_nat ?_ ?_) | (with_reducible refine bind_nat fun _ => ?_) | rfl)
theorem f108.b_nat {R R' : Type} (j : R → Option R') (L N : Nat) (k : Int → Option R) (x0 : Int) (x1 : Int) :
    f108.b L N (fun a0 => (k a0).bind j) x0 x1 = (f108.b L N k x0 x1).bind j := by
  unfold f108.b
  exact f108.b'_nat ..
theorem f108.ok (L N : Nat) (hΦ : TellsOk Try.prog ((Φ136 L N))) : EntOk Try.prog 108 (f108.ent L N) := by
  intro args vw site h
  unfold f108.ent
  split
  · rename_i d ha
    intro y hy hs
    refine call_ro (dep := 1000) (E := (E108 L N)) (rs := (.one i64)) (v := (.tv i64 y)) (sound_of hΦ) okP (callI_sound (sound_of hΦ) okP 1 2000) (f := Try.f108) rfl hs ha ?_ rfl site
    refine (f108.b_eq L N some d.1 d.2.1).trans ?_
    refine ((f108.b_nat (fun y => (some (.tv i64 y) : Option AV)) L N some d.1 d.2.1)).trans ?_
    rw [show f108.b L N some d.1 d.2.1 = some y from hy]
    rfl
  · intro y hy
    cases hy
def Φ108 (L N : Nat) : Tells := (addT (Φ136 L N) 108 (f108.ent L N))
theorem Φ108_ok (L N : Nat) : TellsOk Try.prog (Φ108 L N) := addT_ok (Φ136_ok L N) (f108.ok L N (Φ136_ok L N))
def f73.b' {R : Type} (L N : Nat) (k : Int → Option R) (x0 : Move) (x1 : Move) : Option R :=
  (f108 L N x0.act x1.act).bind fun y0 =>
  bif (y0 != (0 : Int)) then
    k y0
  else (f108 L N x0.to x1.to).bind fun y1 =>
  k y1
def f73.b {R : Type} (L N : Nat) (k : Int → Option R) (x0 : Move) (x1 : Move) : Option R :=
  f73.b' L N k x0 x1
def f73 (L N : Nat) (x0 : Move) (x1 : Move) : Option (Int) := f73.b L N some x0 x1
def f73.ent (L N : Nat) (args : List AV) (vw : View) (site : Nat) : Ans := match roD [(.st 0), (.st 0)] vw args with
  | some d => ⟨Int, f73 L N d.1 d.2.1, fun y => ((.tv i64 y), [], [])⟩
  | none => Ans.no
noncomputable def E73 (L N : Nat) : Env := { P := Try.prog, ty := tyOf, Φ := (Φ108 L N), inl := inlT, live := lives, liveX := livesX, L := L, dp := none, prom := promT, heal := healT, ren := renT }
theorem f73.b_pre {R : Type} (L N : Nat) (κ : AV → Option R) (x0 : Move) (x1 : Move) :
    evBody (E73 L N) (evCallI (E73 L N) 1 2000) 1000 73 Try.f73 [(.tv (.st 0) x0), (.tv (.st 0) x1)] [] [] (finC (.one i64) κ)
    = f73.b' L N (fun a0 => κ (.tv i64 a0)) x0 x1 := by kernel_rfl
theorem f73.b_eq {R : Type} (L N : Nat) (κ : AV → Option R) (x0 : Move) (x1 : Move) :
    evBody (E73 L N) (evCallI (E73 L N) 1 2000) 1000 73 Try.f73 [(.tv (.st 0) x0), (.tv (.st 0) x1)] [] [] (finC (.one i64) κ)
    = f73.b L N (fun a0 => κ (.tv i64 a0)) x0 x1 := by
  rw [f73.b_pre]
  unfold f73.b
  rfl
theorem f73.b'_nat {R R' : Type} (j : R → Option R') (L N : Nat) (k : Int → Option R) (x0 : Move) (x1 : Move) :
    f73.b' L N (fun a0 => (k a0).bind j) x0 x1 = (f73.b' L N k x0 x1).bind j := by
  unfold f73.b'
  repeat' (first | (with_reducible refine cond_nat ?_ ?_) | (with_reducible refine bind_nat fun _ => ?_) | rfl)
theorem f73.b_nat {R R' : Type} (j : R → Option R') (L N : Nat) (k : Int → Option R) (x0 : Move) (x1 : Move) :
    f73.b L N (fun a0 => (k a0).bind j) x0 x1 = (f73.b L N k x0 x1).bind j := by
  unfold f73.b
  exact f73.b'_nat ..
theorem f73.ok (L N : Nat) (hΦ : TellsOk Try.prog ((Φ108 L N))) : EntOk Try.prog 73 (f73.ent L N) := by
  intro args vw site h
  unfold f73.ent
  split
  · rename_i d ha
    intro y hy hs
    refine call_ro (dep := 1000) (E := (E73 L N)) (rs := (.one i64)) (v := (.tv i64 y)) (sound_of hΦ) okP (callI_sound (sound_of hΦ) okP 1 2000) (f := Try.f73) rfl hs ha ?_ rfl site
    refine (f73.b_eq L N some d.1 d.2.1).trans ?_
    refine ((f73.b_nat (fun y => (some (.tv i64 y) : Option AV)) L N some d.1 d.2.1)).trans ?_
    rw [show f73.b L N some d.1 d.2.1 = some y from hy]
    rfl
  · intro y hy
    cases hy
def Φ73 (L N : Nat) : Tells := (addT (Φ108 L N) 73 (f73.ent L N))
theorem Φ73_ok (L N : Nat) : TellsOk Try.prog (Φ73 L N) := addT_ok (Φ108_ok L N) (f73.ok L N (Φ108_ok L N))
def f32.s1' {R : Type} (L N : Nat) (k1_e2 : (List (List Move)) → Int → Int → (List (List Move)) → Option R) (k1_r : Bool → (List (List Move)) → Int → Int → (List (List Move)) → Option R) (rec1 : (List Move) → (List (List Move)) → Int → Int → (List Move) → Int → Int → (List (List Move)) → Option R) (s7 : (List Move)) (s8 : (List (List Move))) (s9 : Int) (s10 : Int) (s11 : (List Move)) (s12 : Int) (s13 : Int) (s14 : (List (List Move))) : Option R :=
  bif (decide (s13 < s12)) then
    bif (decide (0 ≤ s13) && decide (s13 < (s11.length : Int))) then
      (f72 L N ((listAt s11 (Ty.dflt (.st 0)) s13.toNat).act)).bind fun y19 =>
      bif (!y19) then
        k1_r false s8 s9 s10 s14
      else bif (decide ((listAt s11 (Ty.dflt (.st 0)) s13.toNat).to < (0 : Int))) then
        k1_r false s8 s9 s10 s14
      else bif (decide ((listAt s11 (Ty.dflt (.st 0)) s13.toNat).to ≥ (s14.length : Int))) then
        k1_r false s8 s9 s10 s14
      else bif (decide (s13 > (0 : Int))) then
        bif (decide (0 ≤ (wi (s13 - (1 : Int)))) && decide ((wi (s13 - (1 : Int))) < (s7.length : Int))) then
          (f73 L N (listAt s7 (Ty.dflt (.st 0)) (wi (s13 - (1 : Int))).toNat) (Move.mk ((listAt s11 (Ty.dflt (.st 0)) s13.toNat).act) ((listAt s11 (Ty.dflt (.st 0)) s13.toNat).to))).bind fun y20 =>
          bif (decide (y20 ≥ (0 : Int))) then
            k1_r false s8 s9 s10 s14
          else rec1 s7 s8 s9 s10 s11 s12 (wi (s13 + (1 : Int))) s14
        else none
      else rec1 s7 s8 s9 s10 s11 s12 (wi (s13 + (1 : Int))) s14
    else none
  else k1_e2 s8 s9 s10 s14
def f32.s1 {R : Type} (L N : Nat) (k1_e2 : (List (List Move)) → Int → Int → (List (List Move)) → Option R) (k1_r : Bool → (List (List Move)) → Int → Int → (List (List Move)) → Option R) (rec1 : (List Move) → (List (List Move)) → Int → Int → (List Move) → Int → Int → (List (List Move)) → Option R) (s7 : (List Move)) (s8 : (List (List Move))) (s9 : Int) (s10 : Int) (s11 : (List Move)) (s12 : Int) (s13 : Int) (s14 : (List (List Move))) : Option R :=
  f32.s1' L N k1_e2 k1_r rec1 s7 s8 s9 s10 s11 s12 s13 s14
def f32.l1 {R : Type} (L N : Nat) (k1_e2 : (List (List Move)) → Int → Int → (List (List Move)) → Option R) (k1_r : Bool → (List (List Move)) → Int → Int → (List (List Move)) → Option R) : Nat → (List Move) → (List (List Move)) → Int → Int → (List Move) → Int → Int → (List (List Move)) → Option R
  | 0, _, _, _, _, _, _, _, _ => none
  | n + 1, s7, s8, s9, s10, s11, s12, s13, s14 => f32.s1 L N k1_e2 k1_r (f32.l1 L N k1_e2 k1_r n) s7 s8 s9 s10 s11 s12 s13 s14
def f32.T1 (s7 : (List Move)) (s8 : (List (List Move))) (s9 : Int) (s10 : Int) (s11 : (List Move)) (s12 : Int) (s13 : Int) (s14 : (List (List Move))) : T := mkT 64 [(1, (.ptr 1001 0)), (4, (.tv (.sl (.st 0)) s7)), (18, (.tv (.sl (.sl (.st 0))) s8)), (19, (.tv i64 s9)), (20, (.tv i64 s10)), (24, (.tv (.sl (.st 0)) s11)), (25, (.tv i64 s12)), (26, (.tv i64 s13))]
def f32.H1 (s7 : (List Move)) (s8 : (List (List Move))) (s9 : Int) (s10 : Int) (s11 : (List Move)) (s12 : Int) (s13 : Int) (s14 : (List (List Move))) : H := [(1001, (.box [(.tv (.sl (.sl (.st 0))) s14)]))]
def f32.T1_e2 (z15 : (List (List Move))) (z16 : Int) (z17 : Int) (z18 : (List (List Move))) : T := mkT 64 [(1, (.ptr 1001 0)), (18, (.tv (.sl (.sl (.st 0))) z15)), (19, (.tv i64 z16)), (20, (.tv i64 z17))]
def f32.H1_e2 (z15 : (List (List Move))) (z16 : Int) (z17 : Int) (z18 : (List (List Move))) : H := [(1001, (.box [(.tv (.sl (.sl (.st 0))) z18)]))]
def f32.T1_r (z30 : Bool) (z31 : (List (List Move))) (z32 : Int) (z33 : Int) (z34 : (List (List Move))) : T := mkT 64 [(1, (.ptr 1001 0)), (2, (.tv .bool z30)), (18, (.tv (.sl (.sl (.st 0))) z31)), (19, (.tv i64 z32)), (20, (.tv i64 z33))]
def f32.H1_r (z30 : Bool) (z31 : (List (List Move))) (z32 : Int) (z33 : Int) (z34 : (List (List Move))) : H := [(1001, (.box [(.tv (.sl (.sl (.st 0))) z34)]))]
def f32.p1_e2' {R : Type} (L N : Nat) (k0_e0 : Option R) (k0_r : Bool → Option R) (rec0 : (List (List Move)) → Int → Int → (List (List Move)) → Option R) (z15 : (List (List Move))) (z16 : Int) (z17 : Int) (z18 : (List (List Move))) : Option R :=
  rec0 z15 z16 (wi (z17 + (1 : Int))) z18
def f32.p1_e2 {R : Type} (L N : Nat) (k0_e0 : Option R) (k0_r : Bool → Option R) (rec0 : (List (List Move)) → Int → Int → (List (List Move)) → Option R) (z15 : (List (List Move))) (z16 : Int) (z17 : Int) (z18 : (List (List Move))) : Option R :=
  f32.p1_e2' L N k0_e0 k0_r rec0 z15 z16 z17 z18
def f32.p1_r' {R : Type} (L N : Nat) (k0_e0 : Option R) (k0_r : Bool → Option R) (rec0 : (List (List Move)) → Int → Int → (List (List Move)) → Option R) (z30 : Bool) (z31 : (List (List Move))) (z32 : Int) (z33 : Int) (z34 : (List (List Move))) : Option R :=
  k0_r z30
def f32.p1_r {R : Type} (L N : Nat) (k0_e0 : Option R) (k0_r : Bool → Option R) (rec0 : (List (List Move)) → Int → Int → (List (List Move)) → Option R) (z30 : Bool) (z31 : (List (List Move))) (z32 : Int) (z33 : Int) (z34 : (List (List Move))) : Option R :=
  f32.p1_r' L N k0_e0 k0_r rec0 z30 z31 z32 z33 z34
def f32.s0' {R : Type} (L N : Nat) (k0_e0 : Option R) (k0_r : Bool → Option R) (rec0 : (List (List Move)) → Int → Int → (List (List Move)) → Option R) (w1 : (List Move) → (List (List Move)) → Int → Int → (List Move) → Int → Int → (List (List Move)) → Option R) (s3 : (List (List Move))) (s4 : Int) (s5 : Int) (s6 : (List (List Move))) : Option R :=
  bif (decide (s5 < s4)) then
    bif (decide (0 ≤ s5) && decide (s5 < (s3.length : Int))) then
      w1 (listAt s3 [] s5.toNat) s3 s4 s5 (listAt s3 [] s5.toNat) ((listAt s3 [] s5.toNat).length : Int) (0 : Int) s6
    else none
  else k0_e0
def f32.s0 {R : Type} (L N : Nat) (k0_e0 : Option R) (k0_r : Bool → Option R) (rec0 : (List (List Move)) → Int → Int → (List (List Move)) → Option R) (s3 : (List (List Move))) (s4 : Int) (s5 : Int) (s6 : (List (List Move))) : Option R :=
  f32.s0' L N k0_e0 k0_r rec0 (fun s7 s8 s9 s10 s11 s12 s13 s14 => f32.l1 L N (fun z15 z16 z17 z18 => f32.p1_e2 L N k0_e0 k0_r rec0 z15 z16 z17 z18) (fun z30 z31 z32 z33 z34 => f32.p1_r L N k0_e0 k0_r rec0 z30 z31 z32 z33 z34) L s7 s8 s9 s10 s11 s12 s13 s14) s3 s4 s5 s6
def f32.l0 {R : Type} (L N : Nat) (k0_e0 : Option R) (k0_r : Bool → Option R) : Nat → (List (List Move)) → Int → Int → (List (List Move)) → Option R
  | 0, _, _, _, _ => none
  | n + 1, s3, s4, s5, s6 => f32.s0 L N k0_e0 k0_r (f32.l0 L N k0_e0 k0_r n) s3 s4 s5 s6
def f32.T0 (s3 : (List (List Move))) (s4 : Int) (s5 : Int) (s6 : (List (List Move))) : T := mkT 64 [(1, (.ptr 1001 0)), (18, (.tv (.sl (.sl (.st 0))) s3)), (19, (.tv i64 s4)), (20, (.tv i64 s5))]
def f32.H0 (s3 : (List (List Move))) (s4 : Int) (s5 : Int) (s6 : (List (List Move))) : H := [(1001, (.box [(.tv (.sl (.sl (.st 0))) s6)]))]
def f32.T0_e0 : T := mkT 64 []
def f32.H0_e0 : H := []
def f32.T0_r (z43 : Bool) : T := mkT 64 [(2, (.tv .bool z43))]
def f32.H0_r (z43 : Bool) : H := []
def f32.p0_e0' {R : Type} (L N : Nat) (k : Bool → Option R) : Option R :=
  k true
def f32.p0_e0 {R : Type} (L N : Nat) (k : Bool → Option R) : Option R :=
  f32.p0_e0' L N k
def f32.p0_r' {R : Type} (L N : Nat) (k : Bool → Option R) (z43 : Bool) : Option R :=
  k z43
def f32.p0_r {R : Type} (L N : Nat) (k : Bool → Option R) (z43 : Bool) : Option R :=
  f32.p0_r' L N k z43
def f32.j0' {R : Type} (L N : Nat) (k : Bool → Option R) (w0 : (List (List Move)) → Int → Int → (List (List Move)) → Option R) (v2 : (List (List Move))) : Option R :=
  w0 v2 (v2.length : Int) (0 : Int) v2
def f32.b' {R : Type} (L N : Nat) (k : Bool → Option R) (w0 : (List (List Move)) → Int → Int → (List (List Move)) → Option R) (x0 : Graph) : Option R :=
  bif (decide ((x0.moves.length : Int) < (1 : Int))) then
    k false
  else bif (decide ((x0.moves.length : Int) > (60 : Int))) then
    k false
  else f32.j0' L N k w0 x0.moves
def f32.b {R : Type} (L N : Nat) (k : Bool → Option R) (x0 : Graph) : Option R :=
  f32.b' L N k (fun s3 s4 s5 s6 => f32.l0 L N (f32.p0_e0 L N k) (fun z43 => f32.p0_r L N k z43) L s3 s4 s5 s6) x0
def f32 (L N : Nat) (x0 : Graph) : Option (Bool) := f32.b L N some x0
def f32.ent (L N : Nat) (args : List AV) (vw : View) (site : Nat) : Ans := match roD [(.st 2)] vw args with
  | some d => ⟨Bool, f32 L N d.1, fun y => ((.tv .bool y), [], [])⟩
  | none => Ans.no
noncomputable def E32 (L N : Nat) : Env := { P := Try.prog, ty := tyOf, Φ := (Φ73 L N), inl := inlT, live := lives, liveX := livesX, L := L, dp := none, prom := promT, heal := healT, ren := renT }
noncomputable def f32.c0 : Code := loopAt 0 (codeOf Try.f32)
noncomputable def f32.c1 : Code := loopAt 2 f32.c0
theorem f32.s1_pre {R : Type} (L N : Nat) (κ : Ex → T → H → Option R) (rec : T → H → Option R) (s7 : (List Move)) (s8 : (List (List Move))) (s9 : Int) (s10 : Int) (s11 : (List Move)) (s12 : Int) (s13 : Int) (s14 : (List (List Move))) :
    evRd (E32 L N) (evCallI (E32 L N) 1 2000) 1000 32 64 2 f32.c1 κ rec (f32.T1 s7 s8 s9 s10 s11 s12 s13 s14) (f32.H1 s7 s8 s9 s10 s11 s12 s13 s14)
    = f32.s1' L N (fun z15 z16 z17 z18 => κ (.exit 2) (f32.T1_e2 z15 z16 z17 z18) (f32.H1_e2 z15 z16 z17 z18)) (fun z30 z31 z32 z33 z34 => κ .ret (f32.T1_r z30 z31 z32 z33 z34) (f32.H1_r z30 z31 z32 z33 z34)) (fun s7 s8 s9 s10 s11 s12 s13 s14 => rec (f32.T1 s7 s8 s9 s10 s11 s12 s13 s14) (f32.H1 s7 s8 s9 s10 s11 s12 s13 s14)) s7 s8 s9 s10 s11 s12 s13 s14 := by kernel_rfl
theorem f32.s1_eq {R : Type} (L N : Nat) (κ : Ex → T → H → Option R) (rec : T → H → Option R) (s7 : (List Move)) (s8 : (List (List Move))) (s9 : Int) (s10 : Int) (s11 : (List Move)) (s12 : Int) (s13 : Int) (s14 : (List (List Move))) :
    evRd (E32 L N) (evCallI (E32 L N) 1 2000) 1000 32 64 2 f32.c1 κ rec (f32.T1 s7 s8 s9 s10 s11 s12 s13 s14) (f32.H1 s7 s8 s9 s10 s11 s12 s13 s14)
    = f32.s1 L N (fun z15 z16 z17 z18 => κ (.exit 2) (f32.T1_e2 z15 z16 z17 z18) (f32.H1_e2 z15 z16 z17 z18)) (fun z30 z31 z32 z33 z34 => κ .ret (f32.T1_r z30 z31 z32 z33 z34) (f32.H1_r z30 z31 z32 z33 z34)) (fun s7 s8 s9 s10 s11 s12 s13 s14 => rec (f32.T1 s7 s8 s9 s10 s11 s12 s13 s14) (f32.H1 s7 s8 s9 s10 s11 s12 s13 s14)) s7 s8 s9 s10 s11 s12 s13 s14 := by
  rw [f32.s1_pre]
  unfold f32.s1
  rfl
theorem f32.l1_eq {R : Type} (L N : Nat) (κ : Ex → T → H → Option R) : ∀ (n : Nat) (s7 : (List Move)) (s8 : (List (List Move))) (s9 : Int) (s10 : Int) (s11 : (List Move)) (s12 : Int) (s13 : Int) (s14 : (List (List Move))),
    evLp (E32 L N) (evCallI (E32 L N) 1 2000) 1000 32 64 2 f32.c1 κ n (f32.T1 s7 s8 s9 s10 s11 s12 s13 s14) (f32.H1 s7 s8 s9 s10 s11 s12 s13 s14)
    = f32.l1 L N (fun z15 z16 z17 z18 => κ (.exit 2) (f32.T1_e2 z15 z16 z17 z18) (f32.H1_e2 z15 z16 z17 z18)) (fun z30 z31 z32 z33 z34 => κ .ret (f32.T1_r z30 z31 z32 z33 z34) (f32.H1_r z30 z31 z32 z33 z34)) n s7 s8 s9 s10 s11 s12 s13 s14 := by
  intro n
  induction n with
  | zero => intros; rfl
  | succ n ih =>
    intro s7 s8 s9 s10 s11 s12 s13 s14
    rw [evLp_succ, f32.s1_eq]
    simp only [ih]
    rfl
theorem f32.p1_e2_pre {R : Type} (L N : Nat) (κ : Ex → T → H → Option R) (rec : T → H → Option R) (z15 : (List (List Move))) (z16 : Int) (z17 : Int) (z18 : (List (List Move))) :
    (contAt (E32 L N) (evCallI (E32 L N) 1 2000) 1000 32 64 2 f32.c0 (stepK (outK (keepT 64 ((E32 L N).liveX 32 0).1) (keepH 1000 ((E32 L N).liveX 32 0).2) κ) fun t h => rec (backK 1000 64 ((E32 L N).live 32 0).1 ((E32 L N).live 32 0).2 ((E32 L N).heal 32 0) ((E32 L N).ren 32 0) t h).1 (backK 1000 64 ((E32 L N).live 32 0).1 ((E32 L N).live 32 0).2 ((E32 L N).heal 32 0) ((E32 L N).ren 32 0) t h).2)) (.exit 2) (f32.T1_e2 z15 z16 z17 z18) (f32.H1_e2 z15 z16 z17 z18)
    = f32.p1_e2' L N (κ (.exit 0) f32.T0_e0 f32.H0_e0) (fun z43 => κ .ret (f32.T0_r z43) (f32.H0_r z43)) (fun s3 s4 s5 s6 => rec (f32.T0 s3 s4 s5 s6) (f32.H0 s3 s4 s5 s6)) z15 z16 z17 z18 := by kernel_rfl
theorem f32.p1_e2_eq {R : Type} (L N : Nat) (κ : Ex → T → H → Option R) (rec : T → H → Option R) (z15 : (List (List Move))) (z16 : Int) (z17 : Int) (z18 : (List (List Move))) :
    (contAt (E32 L N) (evCallI (E32 L N) 1 2000) 1000 32 64 2 f32.c0 (stepK (outK (keepT 64 ((E32 L N).liveX 32 0).1) (keepH 1000 ((E32 L N).liveX 32 0).2) κ) fun t h => rec (backK 1000 64 ((E32 L N).live 32 0).1 ((E32 L N).live 32 0).2 ((E32 L N).heal 32 0) ((E32 L N).ren 32 0) t h).1 (backK 1000 64 ((E32 L N).live 32 0).1 ((E32 L N).live 32 0).2 ((E32 L N).heal 32 0) ((E32 L N).ren 32 0) t h).2)) (.exit 2) (f32.T1_e2 z15 z16 z17 z18) (f32.H1_e2 z15 z16 z17 z18)
    = f32.p1_e2 L N (κ (.exit 0) f32.T0_e0 f32.H0_e0) (fun z43 => κ .ret (f32.T0_r z43) (f32.H0_r z43)) (fun s3 s4 s5 s6 => rec (f32.T0 s3 s4 s5 s6) (f32.H0 s3 s4 s5 s6)) z15 z16 z17 z18 := by
  rw [f32.p1_e2_pre]
  unfold f32.p1_e2
  rfl
theorem f32.p1_r_pre {R : Type} (L N : Nat) (κ : Ex → T → H → Option R) (rec : T → H → Option R) (z30 : Bool) (z31 : (List (List Move))) (z32 : Int) (z33 : Int) (z34 : (List (List Move))) :
    (contAt (E32 L N) (evCallI (E32 L N) 1 2000) 1000 32 64 2 f32.c0 (stepK (outK (keepT 64 ((E32 L N).liveX 32 0).1) (keepH 1000 ((E32 L N).liveX 32 0).2) κ) fun t h => rec (backK 1000 64 ((E32 L N).live 32 0).1 ((E32 L N).live 32 0).2 ((E32 L N).heal 32 0) ((E32 L N).ren 32 0) t h).1 (backK 1000 64 ((E32 L N).live 32 0).1 ((E32 L N).live 32 0).2 ((E32 L N).heal 32 0) ((E32 L N).ren 32 0) t h).2)) .ret (f32.T1_r z30 z31 z32 z33 z34) (f32.H1_r z30 z31 z32 z33 z34)
    = f32.p1_r' L N (κ (.exit 0) f32.T0_e0 f32.H0_e0) (fun z43 => κ .ret (f32.T0_r z43) (f32.H0_r z43)) (fun s3 s4 s5 s6 => rec (f32.T0 s3 s4 s5 s6) (f32.H0 s3 s4 s5 s6)) z30 z31 z32 z33 z34 := by kernel_rfl
theorem f32.p1_r_eq {R : Type} (L N : Nat) (κ : Ex → T → H → Option R) (rec : T → H → Option R) (z30 : Bool) (z31 : (List (List Move))) (z32 : Int) (z33 : Int) (z34 : (List (List Move))) :
    (contAt (E32 L N) (evCallI (E32 L N) 1 2000) 1000 32 64 2 f32.c0 (stepK (outK (keepT 64 ((E32 L N).liveX 32 0).1) (keepH 1000 ((E32 L N).liveX 32 0).2) κ) fun t h => rec (backK 1000 64 ((E32 L N).live 32 0).1 ((E32 L N).live 32 0).2 ((E32 L N).heal 32 0) ((E32 L N).ren 32 0) t h).1 (backK 1000 64 ((E32 L N).live 32 0).1 ((E32 L N).live 32 0).2 ((E32 L N).heal 32 0) ((E32 L N).ren 32 0) t h).2)) .ret (f32.T1_r z30 z31 z32 z33 z34) (f32.H1_r z30 z31 z32 z33 z34)
    = f32.p1_r L N (κ (.exit 0) f32.T0_e0 f32.H0_e0) (fun z43 => κ .ret (f32.T0_r z43) (f32.H0_r z43)) (fun s3 s4 s5 s6 => rec (f32.T0 s3 s4 s5 s6) (f32.H0 s3 s4 s5 s6)) z30 z31 z32 z33 z34 := by
  rw [f32.p1_r_pre]
  unfold f32.p1_r
  rfl
theorem f32.s0_pre {R : Type} (L N : Nat) (κ : Ex → T → H → Option R) (rec : T → H → Option R) (s3 : (List (List Move))) (s4 : Int) (s5 : Int) (s6 : (List (List Move))) :
    evRd (E32 L N) (evCallI (E32 L N) 1 2000) 1000 32 64 0 f32.c0 κ rec (f32.T0 s3 s4 s5 s6) (f32.H0 s3 s4 s5 s6)
    = f32.s0' L N (κ (.exit 0) f32.T0_e0 f32.H0_e0) (fun z43 => κ .ret (f32.T0_r z43) (f32.H0_r z43)) (fun s3 s4 s5 s6 => rec (f32.T0 s3 s4 s5 s6) (f32.H0 s3 s4 s5 s6)) (fun s7 s8 s9 s10 s11 s12 s13 s14 => evLp (E32 L N) (evCallI (E32 L N) 1 2000) 1000 32 64 2 f32.c1 (contAt (E32 L N) (evCallI (E32 L N) 1 2000) 1000 32 64 2 f32.c0 (stepK (outK (keepT 64 ((E32 L N).liveX 32 0).1) (keepH 1000 ((E32 L N).liveX 32 0).2) κ) fun t h => rec (backK 1000 64 ((E32 L N).live 32 0).1 ((E32 L N).live 32 0).2 ((E32 L N).heal 32 0) ((E32 L N).ren 32 0) t h).1 (backK 1000 64 ((E32 L N).live 32 0).1 ((E32 L N).live 32 0).2 ((E32 L N).heal 32 0) ((E32 L N).ren 32 0) t h).2)) L (f32.T1 s7 s8 s9 s10 s11 s12 s13 s14) (f32.H1 s7 s8 s9 s10 s11 s12 s13 s14)) s3 s4 s5 s6 := by kernel_rfl
theorem f32.s0_eq {R : Type} (L N : Nat) (κ : Ex → T → H → Option R) (rec : T → H → Option R) (s3 : (List (List Move))) (s4 : Int) (s5 : Int) (s6 : (List (List Move))) :
    evRd (E32 L N) (evCallI (E32 L N) 1 2000) 1000 32 64 0 f32.c0 κ rec (f32.T0 s3 s4 s5 s6) (f32.H0 s3 s4 s5 s6)
    = f32.s0 L N (κ (.exit 0) f32.T0_e0 f32.H0_e0) (fun z43 => κ .ret (f32.T0_r z43) (f32.H0_r z43)) (fun s3 s4 s5 s6 => rec (f32.T0 s3 s4 s5 s6) (f32.H0 s3 s4 s5 s6)) s3 s4 s5 s6 := by
  rw [f32.s0_pre]
  unfold f32.s0
  simp only [f32.l1_eq, f32.p1_e2_eq, f32.p1_r_eq]
theorem f32.l0_eq {R : Type} (L N : Nat) (κ : Ex → T → H → Option R) : ∀ (n : Nat) (s3 : (List (List Move))) (s4 : Int) (s5 : Int) (s6 : (List (List Move))),
    evLp (E32 L N) (evCallI (E32 L N) 1 2000) 1000 32 64 0 f32.c0 κ n (f32.T0 s3 s4 s5 s6) (f32.H0 s3 s4 s5 s6)
    = f32.l0 L N (κ (.exit 0) f32.T0_e0 f32.H0_e0) (fun z43 => κ .ret (f32.T0_r z43) (f32.H0_r z43)) n s3 s4 s5 s6 := by
  intro n
  induction n with
  | zero => intros; rfl
  | succ n ih =>
    intro s3 s4 s5 s6
    rw [evLp_succ, f32.s0_eq]
    simp only [ih]
    rfl
theorem f32.p0_e0_pre {R : Type} (L N : Nat) (κ : AV → Option R) :
    (contAt (E32 L N) (evCallI (E32 L N) 1 2000) 1000 32 64 0 (codeOf Try.f32) (finK (E32 L N) 1000 Try.f32 (finC (.one .bool) κ))) (.exit 0) f32.T0_e0 f32.H0_e0
    = f32.p0_e0' L N (fun a0 => κ (.tv .bool a0)) := by kernel_rfl
end Go.Proofs.Ytdfjdbpklbehoaa.Ev
