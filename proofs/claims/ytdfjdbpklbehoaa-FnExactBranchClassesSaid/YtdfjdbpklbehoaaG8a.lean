/- The seat's functions as plain functions: made by program (wip/gen/gen.py). -/
import Derived.Test.YtdfjdbpklbehoaaEvYa
import Derived.Test.YtdfjdbpklbehoaaShelf
namespace Go.Proofs.Ytdfjdbpklbehoaa.Ev
open Go
set_option linter.unusedVariables false
set_option maxRecDepth 20000
def tyTab : List (Nat × Ty) := [(2, i64), (3, i64), (4, .bool), (5, (.int .u8)), (6, (.int .u8)), (9, .str), (10, .str), (11, .str), (12, (.int .u64)), (21, (.int .i32)), (22, (.sl (.sl (.st 0)))), (23, (.st 2)), (24, (.st 2)), (25, (.sl (.st 1))), (26, (.st 1)), (27, (.st 1)), (30, (.sl i64)), (32, (.sl (.sl (.st 0)))), (33, (.st 2)), (34, (.st 2)), (36, (.sl (.st 1))), (37, (.st 1)), (38, (.st 1)), (47, (.sl (.int .u8))), (51, (.sl (.st 0))), (52, (.st 0)), (53, (.st 0)), (71, (.sl .bool)), (88, (.sl (.sl i64))), (98, (.sl (.st 0))), (103, (.sl (.sl .bool))), (108, (.sl (.st 1))), (109, (.st 1)), (110, (.st 1)), (129, (.st 0)), (142, (.sl .str)), (143, (.sl (.st 3))), (146, (.st 3)), (151, (.int .u64)), (159, i64), (168, (.int .u32)), (170, (.int .u64)), (177, (.int .u64)), (196, (.int .u8)), (197, (.int .u8)), (200, (.int .i32)), (201, (.int .i32))]
def tyOf (t : Nat) : Option Ty := tyFind t tyTab
def lives (f i : Nat) : List Nat × List Nat :=
  bif Nat.beq f 21 && Nat.beq i 0 then ([0, 1, 5], []) else
  bif Nat.beq f 26 && Nat.beq i 0 then ([0, 1, 5], []) else
  bif Nat.beq f 27 && Nat.beq i 0 then ([0, 1, 5], []) else
  bif Nat.beq f 32 && Nat.beq i 0 then ([1, 18, 19, 20], [1]) else
  bif Nat.beq f 32 && Nat.beq i 2 then ([1, 4, 18, 19, 20, 24, 25, 26], [1]) else
  bif Nat.beq f 56 && Nat.beq i 0 then ([0, 1, 5], []) else
  bif Nat.beq f 58 && Nat.beq i 0 then ([1, 3], [1]) else
  bif Nat.beq f 58 && Nat.beq i 2 then ([1, 3, 4], [1]) else
  bif Nat.beq f 61 && Nat.beq i 0 then ([0, 3, 4], [7]) else
  bif Nat.beq f 64 && Nat.beq i 0 then ([0, 1, 5], []) else
  bif Nat.beq f 66 && Nat.beq i 0 then ([0, 1, 5], []) else
  bif Nat.beq f 80 && Nat.beq i 0 then ([1, 3], [1, 11]) else
  bif Nat.beq f 80 && Nat.beq i 2 then ([1, 3, 4, 5], [1, 11, 12]) else
  bif Nat.beq f 80 && Nat.beq i 4 then ([1, 3, 4, 5, 6, 7], [1, 11, 12]) else
  bif Nat.beq f 81 && Nat.beq i 0 then ([3, 5], [3, 10]) else
  bif Nat.beq f 83 && Nat.beq i 0 then ([1, 2, 3, 7, 8, 9, 10], [3, 13, 14, 18]) else
  bif Nat.beq f 83 && Nat.beq i 2 then ([1, 2, 3, 7, 8, 9, 10, 32, 33, 34], [3, 13, 14, 18]) else
  bif Nat.beq f 100 && Nat.beq i 0 then ([0, 3, 4], [7]) else
  bif Nat.beq f 101 && Nat.beq i 0 then ([0, 1, 5], []) else
  bif Nat.beq f 102 && Nat.beq i 0 then ([0, 1, 5], []) else
  bif Nat.beq f 114 && Nat.beq i 0 then ([0, 1, 5], []) else
  bif Nat.beq f 115 && Nat.beq i 0 then ([1, 2, 3, 7, 8, 9, 10], [3, 16, 19, 23]) else
  bif Nat.beq f 115 && Nat.beq i 2 then ([1, 2, 3, 7, 8, 9, 10, 11, 12], [3, 16, 19, 23]) else
  bif Nat.beq f 116 && Nat.beq i 0 then ([0, 1, 5], []) else
  bif Nat.beq f 117 && Nat.beq i 0 then ([0, 1, 5, 6, 16, 17], [11, 14]) else
  bif Nat.beq f 117 && Nat.beq i 2 then ([0, 1, 5, 6, 7, 8, 16, 17], [11, 14]) else
  bif Nat.beq f 119 && Nat.beq i 0 then ([0, 1, 12, 13], []) else
  bif Nat.beq f 123 && Nat.beq i 0 then ([0, 3, 4], [7]) else
  bif Nat.beq f 123 && Nat.beq i 2 then ([0, 3, 4, 5], [7]) else
  bif Nat.beq f 123 && Nat.beq i 4 then ([0, 3, 4, 5, 6], [7]) else
  bif Nat.beq f 142 && Nat.beq i 0 then ([0, 1, 12, 13], []) else
  ([], [])
def livesX (f i : Nat) : List Nat × List Nat :=
  bif Nat.beq f 21 && Nat.beq i 0 then ([4], []) else
  bif Nat.beq f 26 && Nat.beq i 0 then ([1], []) else
  bif Nat.beq f 27 && Nat.beq i 0 then ([1, 4], []) else
  bif Nat.beq f 32 && Nat.beq i 0 then ([2], []) else
  bif Nat.beq f 32 && Nat.beq i 2 then ([1, 2, 18, 19, 20], [1]) else
  bif Nat.beq f 56 && Nat.beq i 0 then ([1, 4], []) else
  bif Nat.beq f 58 && Nat.beq i 0 then ([2], []) else
  bif Nat.beq f 58 && Nat.beq i 2 then ([1, 2, 3], [1]) else
  bif Nat.beq f 61 && Nat.beq i 0 then ([3], [7]) else
  bif Nat.beq f 64 && Nat.beq i 0 then ([4], []) else
  bif Nat.beq f 66 && Nat.beq i 0 then ([1], []) else
  bif Nat.beq f 80 && Nat.beq i 0 then ([2], [11]) else
  bif Nat.beq f 80 && Nat.beq i 2 then ([1, 3, 4], [1, 11, 12]) else
  bif Nat.beq f 80 && Nat.beq i 4 then ([1, 3, 4, 5, 6], [1, 11, 12]) else
  bif Nat.beq f 81 && Nat.beq i 0 then ([4], [10]) else
  bif Nat.beq f 83 && Nat.beq i 0 then ([7], [13]) else
  bif Nat.beq f 83 && Nat.beq i 2 then ([1, 2, 3, 7, 8, 9, 10], [3, 13, 14, 18]) else
  bif Nat.beq f 100 && Nat.beq i 0 then ([3], [7]) else
  bif Nat.beq f 101 && Nat.beq i 0 then ([4], []) else
  bif Nat.beq f 102 && Nat.beq i 0 then ([1], []) else
  bif Nat.beq f 114 && Nat.beq i 0 then ([4], []) else
  bif Nat.beq f 115 && Nat.beq i 0 then ([9], [23]) else
  bif Nat.beq f 115 && Nat.beq i 2 then ([1, 2, 3, 7, 8, 9, 10], [3, 16, 19, 23]) else
  bif Nat.beq f 116 && Nat.beq i 0 then ([4], []) else
  bif Nat.beq f 117 && Nat.beq i 0 then ([5], [11]) else
  bif Nat.beq f 117 && Nat.beq i 2 then ([0, 1, 5, 6, 16, 17], [11, 14]) else
  bif Nat.beq f 119 && Nat.beq i 0 then ([4], []) else
  bif Nat.beq f 123 && Nat.beq i 0 then ([3], [7]) else
  bif Nat.beq f 123 && Nat.beq i 2 then ([0, 3, 4, 5], [7]) else
  bif Nat.beq f 123 && Nat.beq i 4 then ([0, 3, 4, 5], [7]) else
  bif Nat.beq f 142 && Nat.beq i 0 then ([4], []) else
  ([], [])
def promT (f i : Nat) : List (Nat × Nat × Nat × Option Nat × Nat × Ty) :=
  []
def healT (f i : Nat) : List Nat :=
  bif Nat.beq f 66 && Nat.beq i 0 then [0] else
  []
def renT (f i : Nat) : List (Nat × Nat) :=
  bif Nat.beq f 80 && Nat.beq i 0 then [(11, 12)] else
  []
def inlT (f : Nat) : Bool := memN f [24, 25]
theorem okP : OkP Try.prog := OkP.mk' (by kernel_rfl) (by kernel_rfl)
def Φx (L N : Nat) : Tells := addT (addT (addT noTells 141 sortEnt) 120 tidyEnt) 84 (cloneEnt 3)
theorem Φx_ok (L N : Nat) : TellsOk Try.prog (Φx L N) := addT_ok (addT_ok (addT_ok (no_ok _) (sort_ok ⟨Try.f141, rfl, by kernel_rfl, by kernel_rfl⟩ sortC sortNone)) (tidy_ok ⟨Try.f120, rfl, by kernel_rfl, by kernel_rfl⟩ tidyC tidyNone)) (clone_ok ⟨Try.f84, rfl, by kernel_rfl, by kernel_rfl⟩ cloneC cloneZero cloneNil)
def f95.b' {R : Type} (L N : Nat) (k : Int → Option R) (x0 : LM) (x1 : Int) : Option R :=
  bif (decide ((wi (x1 - (x0.length : Int))) < (0 : Int))) then
    k (-1 : Int)
  else k (wi (x1 - (x0.length : Int)))
def f95.b {R : Type} (L N : Nat) (k : Int → Option R) (x0 : LM) (x1 : Int) : Option R :=
  f95.b' L N k x0 x1
def f95 (L N : Nat) (x0 : LM) (x1 : Int) : Option (Int) := f95.b L N some x0 x1
def f95.ent (L N : Nat) (args : List AV) (vw : View) (site : Nat) : Ans := match roD [(.sl (.st 0)), i64] vw args with
  | some d => ⟨Int, f95 L N d.1 d.2.1, fun y => ((.tv i64 y), [], [])⟩
  | none => Ans.no
noncomputable def E95 (L N : Nat) : Env := { P := Try.prog, ty := tyOf, Φ := (Φx L N), inl := inlT, live := lives, liveX := livesX, L := L, dp := none, prom := promT, heal := healT, ren := renT }
theorem f95.b_pre {R : Type} (L N : Nat) (κ : AV → Option R) (x0 : LM) (x1 : Int) :
    evBody (E95 L N) (evCallI (E95 L N) 1 2000) 1000 95 Try.f95 [(.tv (.sl (.st 0)) x0), (.tv i64 x1)] [] [] (finC (.one i64) κ)
    = f95.b' L N (fun a0 => κ (.tv i64 a0)) x0 x1 := by kernel_rfl
theorem f95.b_eq {R : Type} (L N : Nat) (κ : AV → Option R) (x0 : LM) (x1 : Int) :
    evBody (E95 L N) (evCallI (E95 L N) 1 2000) 1000 95 Try.f95 [(.tv (.sl (.st 0)) x0), (.tv i64 x1)] [] [] (finC (.one i64) κ)
    = f95.b L N (fun a0 => κ (.tv i64 a0)) x0 x1 := by
  rw [f95.b_pre]
  unfold f95.b
  rfl
theorem f95.b'_nat {R R' : Type} (j : R → Option R') (L N : Nat) (k : Int → Option R) (x0 : LM) (x1 : Int) :
    f95.b' L N (fun a0 => (k a0).bind j) x0 x1 = (f95.b' L N k x0 x1).bind j := by
  unfold f95.b'
  repeat' (first | (with_reducible refine cond_nat ?_ ?_) | (with_reducible refine bind_nat fun _ => ?_) | rfl)
theorem f95.b_nat {R R' : Type} (j : R → Option R') (L N : Nat) (k : Int → Option R) (x0 : LM) (x1 : Int) :
    f95.b L N (fun a0 => (k a0).bind j) x0 x1 = (f95.b L N k x0 x1).bind j := by
  unfold f95.b
  exact f95.b'_nat ..
theorem f95.ok (L N : Nat) (hΦ : TellsOk Try.prog ((Φx L N))) : EntOk Try.prog 95 (f95.ent L N) := by
  intro args vw site h
  unfold f95.ent
  split
  · rename_i d ha
    intro y hy hs
    refine call_ro (dep := 1000) (E := (E95 L N)) (rs := (.one i64)) (v := (.tv i64 y)) (sound_of hΦ) okP (callI_sound (sound_of hΦ) okP 1 2000) (f := Try.f95) rfl hs ha ?_ rfl site
    refine (f95.b_eq L N some d.1 d.2.1).trans ?_
    refine ((f95.b_nat (fun y => (some (.tv i64 y) : Option AV)) L N some d.1 d.2.1)).trans ?_
    rw [show f95.b L N some d.1 d.2.1 = some y from hy]
    rfl
  · intro y hy
    cases hy
def Φ95 (L N : Nat) : Tells := (addT (Φx L N) 95 (f95.ent L N))
theorem Φ95_ok (L N : Nat) : TellsOk Try.prog (Φ95 L N) := addT_ok (Φx_ok L N) (f95.ok L N (Φx_ok L N))
def f56.s0' {R : Type} (L N : Nat) (k0_e0 : Int → Option R) (k0_r : Int → Int → Option R) (rec0 : LLM → Int → Int → Option R) (s0 : LLM) (s1 : Int) (s2 : Int) : Option R :=
  bif (decide (s2 < (s0.length : Int))) then
    bif (decide (0 ≤ s2) && decide (s2 < (s0.length : Int))) then
      (f95 L N (listAt s0 [] s2.toNat) s1).bind fun y4 =>
      bif (decide (y4 < (0 : Int))) then
        k0_r y4 (-1 : Int)
      else rec0 s0 y4 (wi (s2 + (1 : Int)))
    else none
  else k0_e0 s1
def f56.s0 {R : Type} (L N : Nat) (k0_e0 : Int → Option R) (k0_r : Int → Int → Option R) (rec0 : LLM → Int → Int → Option R) (s0 : LLM) (s1 : Int) (s2 : Int) : Option R :=
  f56.s0' L N k0_e0 k0_r rec0 s0 s1 s2
def f56.l0 {R : Type} (L N : Nat) (k0_e0 : Int → Option R) (k0_r : Int → Int → Option R) : Nat → LLM → Int → Int → Option R
  | 0, _, _, _ => none
  | n + 1, s0, s1, s2 => f56.s0 L N k0_e0 k0_r (f56.l0 L N k0_e0 k0_r n) s0 s1 s2
def f56.T0 (s0 : LLM) (s1 : Int) (s2 : Int) : T := mkT 27 [(0, (.tv (.sl (.sl (.st 0))) s0)), (1, (.tv i64 s1)), (5, (.tv i64 s2))]
def f56.H0 (s0 : LLM) (s1 : Int) (s2 : Int) : H := []
def f56.T0_e0 (z3 : Int) : T := mkT 27 [(1, (.tv i64 z3))]
def f56.H0_e0 (z3 : Int) : H := []
def f56.T0_r (z5 : Int) (z6 : Int) : T := mkT 27 [(1, (.tv i64 z5)), (4, (.tv i64 z6))]
def f56.H0_r (z5 : Int) (z6 : Int) : H := []
def f56.p0_e0' {R : Type} (L N : Nat) (k : Int → Option R) (z3 : Int) : Option R :=
  k z3
def f56.p0_e0 {R : Type} (L N : Nat) (k : Int → Option R) (z3 : Int) : Option R :=
  f56.p0_e0' L N k z3
def f56.p0_r' {R : Type} (L N : Nat) (k : Int → Option R) (z5 : Int) (z6 : Int) : Option R :=
  k z6
def f56.p0_r {R : Type} (L N : Nat) (k : Int → Option R) (z5 : Int) (z6 : Int) : Option R :=
  f56.p0_r' L N k z5 z6
def f56.b' {R : Type} (L N : Nat) (k : Int → Option R) (w0 : LLM → Int → Int → Option R) (x0 : LLM) (x1 : Int) : Option R :=
  bif (decide ((wi (x1 - (x0.length : Int))) < (0 : Int))) then
    k (-1 : Int)
  else w0 x0 (wi (x1 - (x0.length : Int))) (0 : Int)
def f56.b {R : Type} (L N : Nat) (k : Int → Option R) (x0 : LLM) (x1 : Int) : Option R :=
  f56.b' L N k (fun s0 s1 s2 => f56.l0 L N (fun z3 => f56.p0_e0 L N k z3) (fun z5 z6 => f56.p0_r L N k z5 z6) L s0 s1 s2) x0 x1
def f56 (L N : Nat) (x0 : LLM) (x1 : Int) : Option (Int) := f56.b L N some x0 x1
def f56.ent (L N : Nat) (args : List AV) (vw : View) (site : Nat) : Ans := match roD [(.sl (.sl (.st 0))), i64] vw args with
  | some d => ⟨Int, f56 L N d.1 d.2.1, fun y => ((.tv i64 y), [], [])⟩
  | none => Ans.no
noncomputable def E56 (L N : Nat) : Env := { P := Try.prog, ty := tyOf, Φ := (Φ95 L N), inl := inlT, live := lives, liveX := livesX, L := L, dp := none, prom := promT, heal := healT, ren := renT }
noncomputable def f56.c0 : Code := loopAt 0 (codeOf Try.f56)
theorem f56.s0_pre {R : Type} (L N : Nat) (κ : Ex → T → H → Option R) (rec : T → H → Option R) (s0 : LLM) (s1 : Int) (s2 : Int) :
    evRd (E56 L N) (evCallI (E56 L N) 1 2000) 1000 56 27 0 f56.c0 κ rec (f56.T0 s0 s1 s2) (f56.H0 s0 s1 s2)
    = f56.s0' L N (fun z3 => κ (.exit 0) (f56.T0_e0 z3) (f56.H0_e0 z3)) (fun z5 z6 => κ .ret (f56.T0_r z5 z6) (f56.H0_r z5 z6)) (fun s0 s1 s2 => rec (f56.T0 s0 s1 s2) (f56.H0 s0 s1 s2)) s0 s1 s2 := by kernel_rfl
theorem f56.s0_eq {R : Type} (L N : Nat) (κ : Ex → T → H → Option R) (rec : T → H → Option R) (s0 : LLM) (s1 : Int) (s2 : Int) :
    evRd (E56 L N) (evCallI (E56 L N) 1 2000) 1000 56 27 0 f56.c0 κ rec (f56.T0 s0 s1 s2) (f56.H0 s0 s1 s2)
    = f56.s0 L N (fun z3 => κ (.exit 0) (f56.T0_e0 z3) (f56.H0_e0 z3)) (fun z5 z6 => κ .ret (f56.T0_r z5 z6) (f56.H0_r z5 z6)) (fun s0 s1 s2 => rec (f56.T0 s0 s1 s2) (f56.H0 s0 s1 s2)) s0 s1 s2 := by
  rw [f56.s0_pre]
  unfold f56.s0
  rfl
theorem f56.l0_eq {R : Type} (L N : Nat) (κ : Ex → T → H → Option R) : ∀ (n : Nat) (s0 : LLM) (s1 : Int) (s2 : Int),
    evLp (E56 L N) (evCallI (E56 L N) 1 2000) 1000 56 27 0 f56.c0 κ n (f56.T0 s0 s1 s2) (f56.H0 s0 s1 s2)
    = f56.l0 L N (fun z3 => κ (.exit 0) (f56.T0_e0 z3) (f56.H0_e0 z3)) (fun z5 z6 => κ .ret (f56.T0_r z5 z6) (f56.H0_r z5 z6)) n s0 s1 s2 := by
  intro n
  induction n with
  | zero => intros; rfl
  | succ n ih =>
    intro s0 s1 s2
    rw [evLp_succ, f56.s0_eq]
    simp only [ih]
    rfl
theorem f56.p0_e0_pre {R : Type} (L N : Nat) (κ : AV → Option R) (z3 : Int) :
    (contAt (E56 L N) (evCallI (E56 L N) 1 2000) 1000 56 27 0 (codeOf Try.f56) (finK (E56 L N) 1000 Try.f56 (finC (.one i64) κ))) (.exit 0) (f56.T0_e0 z3) (f56.H0_e0 z3)
    = f56.p0_e0' L N (fun a0 => κ (.tv i64 a0)) z3 := by kernel_rfl
theorem f56.p0_e0_eq {R : Type} (L N : Nat) (κ : AV → Option R) (z3 : Int) :
    (contAt (E56 L N) (evCallI (E56 L N) 1 2000) 1000 56 27 0 (codeOf Try.f56) (finK (E56 L N) 1000 Try.f56 (finC (.one i64) κ))) (.exit 0) (f56.T0_e0 z3) (f56.H0_e0 z3)
    = f56.p0_e0 L N (fun a0 => κ (.tv i64 a0)) z3 := by
  rw [f56.p0_e0_pre]
  unfold f56.p0_e0
  rfl
theorem f56.p0_r_pre {R : Type} (L N : Nat) (κ : AV → Option R) (z5 : Int) (z6 : Int) :
    (contAt (E56 L N) (evCallI (E56 L N) 1 2000) 1000 56 27 0 (codeOf Try.f56) (finK (E56 L N) 1000 Try.f56 (finC (.one i64) κ))) .ret (f56.T0_r z5 z6) (f56.H0_r z5 z6)
    = f56.p0_r' L N (fun a0 => κ (.tv i64 a0)) z5 z6 := by kernel_rfl
theorem f56.p0_r_eq {R : Type} (L N : Nat) (κ : AV → Option R) (z5 : Int) (z6 : Int) :
    (contAt (E56 L N) (evCallI (E56 L N) 1 2000) 1000 56 27 0 (codeOf Try.f56) (finK (E56 L N) 1000 Try.f56 (finC (.one i64) κ))) .ret (f56.T0_r z5 z6) (f56.H0_r z5 z6)
    = f56.p0_r L N (fun a0 => κ (.tv i64 a0)) z5 z6 := by
  rw [f56.p0_r_pre]
  unfold f56.p0_r
  rfl
theorem f56.b_pre {R : Type} (L N : Nat) (κ : AV → Option R) (x0 : LLM) (x1 : Int) :
    evBody (E56 L N) (evCallI (E56 L N) 1 2000) 1000 56 Try.f56 [(.tv (.sl (.sl (.st 0))) x0), (.tv i64 x1)] [] [] (finC (.one i64) κ)
    = f56.b' L N (fun a0 => κ (.tv i64 a0)) (fun s0 s1 s2 => evLp (E56 L N) (evCallI (E56 L N) 1 2000) 1000 56 27 0 f56.c0 (contAt (E56 L N) (evCallI (E56 L N) 1 2000) 1000 56 27 0 (codeOf Try.f56) (finK (E56 L N) 1000 Try.f56 (finC (.one i64) κ))) L (f56.T0 s0 s1 s2) (f56.H0 s0 s1 s2)) x0 x1 := by kernel_rfl
theorem f56.b_eq {R : Type} (L N : Nat) (κ : AV → Option R) (x0 : LLM) (x1 : Int) :
    evBody (E56 L N) (evCallI (E56 L N) 1 2000) 1000 56 Try.f56 [(.tv (.sl (.sl (.st 0))) x0), (.tv i64 x1)] [] [] (finC (.one i64) κ)
    = f56.b L N (fun a0 => κ (.tv i64 a0)) x0 x1 := by
  rw [f56.b_pre]
  unfold f56.b
  simp only [f56.l0_eq, f56.p0_e0_eq, f56.p0_r_eq]
theorem f56.s0'_nat {R R' : Type} (j : R → Option R') (L N : Nat) (k0_e0 : Int → Option R) (k0_r : Int → Int → Option R) (rec0 : LLM → Int → Int → Option R) (s0 : LLM) (s1 : Int) (s2 : Int) :
    f56.s0' L N (fun a0 => (k0_e0 a0).bind j) (fun a0 a1 => (k0_r a0 a1).bind j) (fun a0 a1 a2 => (rec0 a0 a1 a2).bind j) s0 s1 s2 = (f56.s0' L N k0_e0 k0_r rec0 s0 s1 s2).bind j := by
  unfold f56.s0'
  repeat' (first | (with_reducible refine cond_nat ?_ ?_) | (with_reducible refine bind_nat fun _ => ?_) | rfl)
theorem f56.s0_nat {R R' : Type} (j : R → Option R') (L N : Nat) (k0_e0 : Int → Option R) (k0_r : Int → Int → Option R) (rec0 : LLM → Int → Int → Option R) (s0 : LLM) (s1 : Int) (s2 : Int) :
    f56.s0 L N (fun a0 => (k0_e0 a0).bind j) (fun a0 a1 => (k0_r a0 a1).bind j) (fun a0 a1 a2 => (rec0 a0 a1 a2).bind j) s0 s1 s2 = (f56.s0 L N k0_e0 k0_r rec0 s0 s1 s2).bind j := by
  unfold f56.s0
  exact f56.s0'_nat ..
theorem f56.l0_nat {R R' : Type} (j : R → Option R') (L N : Nat) (k0_e0 : Int → Option R) (k0_r : Int → Int → Option R) : ∀ (n : Nat) (s0 : LLM) (s1 : Int) (s2 : Int),
    f56.l0 L N (fun a0 => (k0_e0 a0).bind j) (fun a0 a1 => (k0_r a0 a1).bind j) n s0 s1 s2 = (f56.l0 L N k0_e0 k0_r n s0 s1 s2).bind j := by
  intro n
  induction n with
  | zero => intros; rfl
  | succ n ih =>
    intro s0 s1 s2
    show f56.s0 L N (fun a0 => (k0_e0 a0).bind j) (fun a0 a1 => (k0_r a0 a1).bind j) (f56.l0 L N (fun a0 => (k0_e0 a0).bind j) (fun a0 a1 => (k0_r a0 a1).bind j) n) s0 s1 s2 = _
    rw [show f56.l0 L N (fun a0 => (k0_e0 a0).bind j) (fun a0 a1 => (k0_r a0 a1).bind j) n = (fun s0 s1 s2 => (f56.l0 L N k0_e0 k0_r n s0 s1 s2).bind j) from funext fun s0 => funext fun s1 => funext fun s2 => ih s0 s1 s2]
    exact f56.s0_nat ..
theorem f56.p0_e0'_nat {R R' : Type} (j : R → Option R') (L N : Nat) (k : Int → Option R) (z3 : Int) :
    f56.p0_e0' L N (fun a0 => (k a0).bind j) z3 = (f56.p0_e0' L N k z3).bind j := by
  unfold f56.p0_e0'
  repeat' (first | (with_reducible refine cond_nat ?_ ?_) | (with_reducible refine bind_nat fun _ => ?_) | rfl)
theorem f56.p0_e0_nat {R R' : Type} (j : R → Option R') (L N : Nat) (k : Int → Option R) (z3 : Int) :
    f56.p0_e0 L N (fun a0 => (k a0).bind j) z3 = (f56.p0_e0 L N k z3).bind j := by
  unfold f56.p0_e0
  exact f56.p0_e0'_nat ..
theorem f56.p0_r'_nat {R R' : Type} (j : R → Option R') (L N : Nat) (k : Int → Option R) (z5 : Int) (z6 : Int) :
    f56.p0_r' L N (fun a0 => (k a0).bind j) z5 z6 = (f56.p0_r' L N k z5 z6).bind j := by
  unfold f56.p0_r'
  repeat' (first | (with_reducible refine cond_nat ?_ ?_) | (with_reducible refine bind_nat fun _ => ?_) | rfl)
theorem f56.p0_r_nat {R R' : Type} (j : R → Option R') (L N : Nat) (k : Int → Option R) (z5 : Int) (z6 : Int) :
    f56.p0_r L N (fun a0 => (k a0).bind j) z5 z6 = (f56.p0_r L N k z5 z6).bind j := by
  unfold f56.p0_r
  exact f56.p0_r'_nat ..
theorem f56.b'_nat {R R' : Type} (j : R → Option R') (L N : Nat) (k : Int → Option R) (w0 : LLM → Int → Int → Option R) (x0 : LLM) (x1 : Int) :
    f56.b' L N (fun a0 => (k a0).bind j) (fun a0 a1 a2 => (w0 a0 a1 a2).bind j) x0 x1 = (f56.b' L N k w0 x0 x1).bind j := by
  unfold f56.b'
  repeat' (first | (with_reducible refine cond_nat ?_ ?_) | (with_reducible refine bind_nat fun _ => ?_) | rfl)
theorem f56.b_nat {R R' : Type} (j : R → Option R') (L N : Nat) (k : Int → Option R) (x0 : LLM) (x1 : Int) :
    f56.b L N (fun a0 => (k a0).bind j) x0 x1 = (f56.b L N k x0 x1).bind j := by
  unfold f56.b
  simp only [f56.l0_nat, f56.p0_e0_nat, f56.p0_r_nat]
  exact f56.b'_nat ..
theorem f56.ok (L N : Nat) (hΦ : TellsOk Try.prog ((Φ95 L N))) : EntOk Try.prog 56 (f56.ent L N) := by
  intro args vw site h
  unfold f56.ent
  split
  · rename_i d ha
    intro y hy hs
    refine call_ro (dep := 1000) (E := (E56 L N)) (rs := (.one i64)) (v := (.tv i64 y)) (sound_of hΦ) okP (callI_sound (sound_of hΦ) okP 1 2000) (f := Try.f56) rfl hs ha ?_ rfl site
    refine (f56.b_eq L N some d.1 d.2.1).trans ?_
    refine ((f56.b_nat (fun y => (some (.tv i64 y) : Option AV)) L N some d.1 d.2.1)).trans ?_
    rw [show f56.b L N some d.1 d.2.1 = some y from hy]
    rfl
  · intro y hy
    cases hy
def Φ56 (L N : Nat) : Tells := (addT (Φ95 L N) 56 (f56.ent L N))
theorem Φ56_ok (L N : Nat) : TellsOk Try.prog (Φ56 L N) := addT_ok (Φ95_ok L N) (f56.ok L N (Φ95_ok L N))
def f15.b' {R : Type} (L N : Nat) (k : Int → Option R) (x0 : Graph) (x1 : Int) : Option R :=
  (f56 L N x0.moves x1).bind fun y0 =>
  bif (decide (y0 < (0 : Int))) then
    k (-1 : Int)
  else k y0
def f15.b {R : Type} (L N : Nat) (k : Int → Option R) (x0 : Graph) (x1 : Int) : Option R :=
  f15.b' L N k x0 x1
def f15 (L N : Nat) (x0 : Graph) (x1 : Int) : Option (Int) := f15.b L N some x0 x1
def f15.ent (L N : Nat) (args : List AV) (vw : View) (site : Nat) : Ans := match roD [(.st 2), i64] vw args with
  | some d => ⟨Int, f15 L N d.1 d.2.1, fun y => ((.tv i64 y), [], [])⟩
  | none => Ans.no
noncomputable def E15 (L N : Nat) : Env := { P := Try.prog, ty := tyOf, Φ := (Φ56 L N), inl := inlT, live := lives, liveX := livesX, L := L, dp := none, prom := promT, heal := healT, ren := renT }
theorem f15.b_pre {R : Type} (L N : Nat) (κ : AV → Option R) (x0 : Graph) (x1 : Int) :
    evBody (E15 L N) (evCallI (E15 L N) 1 2000) 1000 15 Try.f15 [(.tv (.st 2) x0), (.tv i64 x1)] [] [] (finC (.one i64) κ)
    = f15.b' L N (fun a0 => κ (.tv i64 a0)) x0 x1 := by kernel_rfl
theorem f15.b_eq {R : Type} (L N : Nat) (κ : AV → Option R) (x0 : Graph) (x1 : Int) :
    evBody (E15 L N) (evCallI (E15 L N) 1 2000) 1000 15 Try.f15 [(.tv (.st 2) x0), (.tv i64 x1)] [] [] (finC (.one i64) κ)
    = f15.b L N (fun a0 => κ (.tv i64 a0)) x0 x1 := by
  rw [f15.b_pre]
  unfold f15.b
  rfl
theorem f15.b'_nat {R R' : Type} (j : R → Option R') (L N : Nat) (k : Int → Option R) (x0 : Graph) (x1 : Int) :
    f15.b' L N (fun a0 => (k a0).bind j) x0 x1 = (f15.b' L N k x0 x1).bind j := by
  unfold f15.b'
  repeat' (first | (with_reducible refine cond_nat ?_ ?_) | (with_reducible refine bind_nat fun _ => ?_) | rfl)
theorem f15.b_nat {R R' : Type} (j : R → Option R') (L N : Nat) (k : Int → Option R) (x0 : Graph) (x1 : Int) :
    f15.b L N (fun a0 => (k a0).bind j) x0 x1 = (f15.b L N k x0 x1).bind j := by
  unfold f15.b
  exact f15.b'_nat ..
theorem f15.ok (L N : Nat) (hΦ : TellsOk Try.prog ((Φ56 L N))) : EntOk Try.prog 15 (f15.ent L N) := by
  intro args vw site h
  unfold f15.ent
  split
  · rename_i d ha
    intro y hy hs
    refine call_ro (dep := 1000) (E := (E15 L N)) (rs := (.one i64)) (v := (.tv i64 y)) (sound_of hΦ) okP (callI_sound (sound_of hΦ) okP 1 2000) (f := Try.f15) rfl hs ha ?_ rfl site
    refine (f15.b_eq L N some d.1 d.2.1).trans ?_
    refine ((f15.b_nat (fun y => (some (.tv i64 y) : Option AV)) L N some d.1 d.2.1)).trans ?_
    rw [show f15.b L N some d.1 d.2.1 = some y from hy]
    rfl
  · intro y hy
    cases hy
def Φ15 (L N : Nat) : Tells := (addT (Φ56 L N) 15 (f15.ent L N))
theorem Φ15_ok (L N : Nat) : TellsOk Try.prog (Φ15 L N) := addT_ok (Φ56_ok L N) (f15.ok L N (Φ56_ok L N))
def f128.b' {R : Type} (L N : Nat) (k : Move → Option R) (x0 : Move) : Option R :=
  k (Move.mk ((Move.mk x0.act x0.to).act) ((Move.mk x0.act x0.to).to))
def f128.b {R : Type} (L N : Nat) (k : Move → Option R) (x0 : Move) : Option R :=
  f128.b' L N k x0
def f128 (L N : Nat) (x0 : Move) : Option (Move) := f128.b L N some x0
def f128.ent (L N : Nat) (args : List AV) (vw : View) (site : Nat) : Ans := match coeD [(.st 0)] vw args with
  | some (d, u) => ⟨Move, f128 L N d.1, fun y => ((.tv (.st 0) y), u, [])⟩
  | none => Ans.no
noncomputable def E128 (L N : Nat) : Env := { P := Try.prog, ty := tyOf, Φ := (Φ15 L N), inl := inlT, live := lives, liveX := livesX, L := L, dp := none, prom := promT, heal := healT, ren := renT }
theorem f128.b_pre {R : Type} (L N : Nat) (κ : AV → Option R) (x0 : Move) :
    evBody (E128 L N) (evCallI (E128 L N) 1 2000) 1000 128 Try.f128 [(.tv (.st 0) x0)] [] [] (finC (.one (.st 0)) κ)
    = f128.b' L N (fun a0 => κ (.tv (.st 0) a0)) x0 := by kernel_rfl
theorem f128.b_eq {R : Type} (L N : Nat) (κ : AV → Option R) (x0 : Move) :
    evBody (E128 L N) (evCallI (E128 L N) 1 2000) 1000 128 Try.f128 [(.tv (.st 0) x0)] [] [] (finC (.one (.st 0)) κ)
    = f128.b L N (fun a0 => κ (.tv (.st 0) a0)) x0 := by
  rw [f128.b_pre]
  unfold f128.b
  rfl
theorem f128.b'_nat {R R' : Type} (j : R → Option R') (L N : Nat) (k : Move → Option R) (x0 : Move) :
    f128.b' L N (fun a0 => (k a0).bind j) x0 = (f128.b' L N k x0).bind j := by
  unfold f128.b'
  repeat' (first | (with_reducible refine cond_nat ?_ ?_) | (with_reducible refine bind_nat fun _ => ?_) | rfl)
theorem f128.b_nat {R R' : Type} (j : R → Option R') (L N : Nat) (k : Move → Option R) (x0 : Move) :
    f128.b L N (fun a0 => (k a0).bind j) x0 = (f128.b L N k x0).bind j := by
  unfold f128.b
  exact f128.b'_nat ..
theorem f128.ok (L N : Nat) (hΦ : TellsOk Try.prog ((Φ15 L N))) : EntOk Try.prog 128 (f128.ent L N) := by
  intro args vw site h
  unfold f128.ent
  split
  · rename_i d u ha
    intro y hy hs
    refine call_data (dep := 1000) (E := (E128 L N)) (rs := (.one (.st 0))) (v' := (.tv (.st 0) y)) (sound_of hΦ) okP (callI_sound (sound_of hΦ) okP 1 2000) (f := Try.f128) rfl hs ha ?_ site
    refine (f128.b_eq L N some d.1).trans ?_
    refine ((f128.b_nat (fun y => (some (.tv (.st 0) y) : Option AV)) L N some d.1)).trans ?_
    rw [show f128.b L N some d.1 = some y from hy]
    rfl
  · intro y hy
    cases hy
def Φ128 (L N : Nat) : Tells := (addT (Φ15 L N) 128 (f128.ent L N))
theorem Φ128_ok (L N : Nat) : TellsOk Try.prog (Φ128 L N) := addT_ok (Φ15_ok L N) (f128.ok L N (Φ15_ok L N))
def f100.s0' {R : Type} (L N : Nat) (k0_e0 : LM → Option R) (rec0 : LM → Int → LM → Option R) (s0 : LM) (s1 : Int) (s2 : LM) : Option R :=
  bif (decide (s1 < (s0.length : Int))) then
    bif (decide (0 ≤ s1) && decide (s1 < (s0.length : Int))) then
      (f128 L N (listAt s0 (Ty.dflt (.st 0)) s1.toNat)).bind fun y4 =>
      bif (decide (0 ≤ s1) && decide (s1 < (s2.length : Int))) then
        rec0 s0 (wi (s1 + (1 : Int))) (s2.set s1.toNat y4)
      else none
    else none
  else k0_e0 s2
def f100.s0 {R : Type} (L N : Nat) (k0_e0 : LM → Option R) (rec0 : LM → Int → LM → Option R) (s0 : LM) (s1 : Int) (s2 : LM) : Option R :=
  f100.s0' L N k0_e0 rec0 s0 s1 s2
def f100.l0 {R : Type} (L N : Nat) (k0_e0 : LM → Option R) : Nat → LM → Int → LM → Option R
  | 0, _, _, _ => none
  | n + 1, s0, s1, s2 => f100.s0 L N k0_e0 (f100.l0 L N k0_e0 n) s0 s1 s2
def f100.T0 (s0 : LM) (s1 : Int) (s2 : LM) : T := mkT 23 [(0, (.tv (.sl (.st 0)) s0)), (3, (.row 1007)), (4, (.tv i64 s1))]
def f100.H0 (s0 : LM) (s1 : Int) (s2 : LM) : H := [(1007, (.row 53 (.st 0) s2))]
def f100.T0_e0 (z3 : LM) : T := mkT 23 [(3, (.row 1007))]
def f100.H0_e0 (z3 : LM) : H := [(1007, (.row 53 (.st 0) z3))]
def f100.p0_e0' {R : Type} (L N : Nat) (k : LM → Option R) (z3 : LM) : Option R :=
  k z3
def f100.p0_e0 {R : Type} (L N : Nat) (k : LM → Option R) (z3 : LM) : Option R :=
  f100.p0_e0' L N k z3
def f100.b' {R : Type} (L N : Nat) (k : LM → Option R) (w0 : LM → Int → LM → Option R) (x0 : LM) : Option R :=
  bif (decide (0 ≤ (x0.length : Int)) && decide ((x0.length : Int) ≤ (lim : Int))) then
    w0 x0 (0 : Int) (List.replicate (x0.length : Int).toNat (Ty.dflt (.st 0)))
  else none
def f100.b {R : Type} (L N : Nat) (k : LM → Option R) (x0 : LM) : Option R :=
  f100.b' L N k (fun s0 s1 s2 => f100.l0 L N (fun z3 => f100.p0_e0 L N k z3) L s0 s1 s2) x0
def f100 (L N : Nat) (x0 : LM) : Option (LM) := f100.b L N some x0
def f100.ent (L N : Nat) (args : List AV) (vw : View) (site : Nat) : Ans := match roD [(.sl (.st 0))] vw args with
  | some d => ⟨LM, f100 L N d.1, fun y => (RN.av site .row (), [(site, some (mkO none 53 (.st 0) y))], [])⟩
  | none => Ans.no
noncomputable def E100 (L N : Nat) : Env := { P := Try.prog, ty := tyOf, Φ := (Φ128 L N), inl := inlT, live := lives, liveX := livesX, L := L, dp := none, prom := promT, heal := healT, ren := renT }
noncomputable def f100.c0 : Code := loopAt 0 (codeOf Try.f100)
theorem f100.s0_pre {R : Type} (L N : Nat) (κ : Ex → T → H → Option R) (rec : T → H → Option R) (s0 : LM) (s1 : Int) (s2 : LM) :
    evRd (E100 L N) (evCallI (E100 L N) 1 2000) 1000 100 23 0 f100.c0 κ rec (f100.T0 s0 s1 s2) (f100.H0 s0 s1 s2)
    = f100.s0' L N (fun z3 => κ (.exit 0) (f100.T0_e0 z3) (f100.H0_e0 z3)) (fun s0 s1 s2 => rec (f100.T0 s0 s1 s2) (f100.H0 s0 s1 s2)) s0 s1 s2 := by kernel_rfl
theorem f100.s0_eq {R : Type} (L N : Nat) (κ : Ex → T → H → Option R) (rec : T → H → Option R) (s0 : LM) (s1 : Int) (s2 : LM) :
    evRd (E100 L N) (evCallI (E100 L N) 1 2000) 1000 100 23 0 f100.c0 κ rec (f100.T0 s0 s1 s2) (f100.H0 s0 s1 s2)
    = f100.s0 L N (fun z3 => κ (.exit 0) (f100.T0_e0 z3) (f100.H0_e0 z3)) (fun s0 s1 s2 => rec (f100.T0 s0 s1 s2) (f100.H0 s0 s1 s2)) s0 s1 s2 := by
  rw [f100.s0_pre]
  unfold f100.s0
  rfl
theorem f100.l0_eq {R : Type} (L N : Nat) (κ : Ex → T → H → Option R) : ∀ (n : Nat) (s0 : LM) (s1 : Int) (s2 : LM),
    evLp (E100 L N) (evCallI (E100 L N) 1 2000) 1000 100 23 0 f100.c0 κ n (f100.T0 s0 s1 s2) (f100.H0 s0 s1 s2)
    = f100.l0 L N (fun z3 => κ (.exit 0) (f100.T0_e0 z3) (f100.H0_e0 z3)) n s0 s1 s2 := by
  intro n
  induction n with
  | zero => intros; rfl
  | succ n ih =>
    intro s0 s1 s2
    rw [evLp_succ, f100.s0_eq]
    simp only [ih]
    rfl
theorem f100.p0_e0_pre {R : Type} (L N : Nat) (κ : RN.Den .row → List Move → Option R) (z3 : LM) :
    (contAt (E100 L N) (evCallI (E100 L N) 1 2000) 1000 100 23 0 (codeOf Try.f100) (finK (E100 L N) 1000 Try.f100 (finN .row none 53 (.st 0) κ))) (.exit 0) (f100.T0_e0 z3) (f100.H0_e0 z3)
    = f100.p0_e0' L N (fun a0 => κ () a0) z3 := by kernel_rfl
theorem f100.p0_e0_eq {R : Type} (L N : Nat) (κ : RN.Den .row → List Move → Option R) (z3 : LM) :
    (contAt (E100 L N) (evCallI (E100 L N) 1 2000) 1000 100 23 0 (codeOf Try.f100) (finK (E100 L N) 1000 Try.f100 (finN .row none 53 (.st 0) κ))) (.exit 0) (f100.T0_e0 z3) (f100.H0_e0 z3)
    = f100.p0_e0 L N (fun a0 => κ () a0) z3 := by
  rw [f100.p0_e0_pre]
  unfold f100.p0_e0
  rfl
theorem f100.b_pre {R : Type} (L N : Nat) (κ : RN.Den .row → List Move → Option R) (x0 : LM) :
    evBody (E100 L N) (evCallI (E100 L N) 1 2000) 1000 100 Try.f100 [(.tv (.sl (.st 0)) x0)] [] [] (finN .row none 53 (.st 0) κ)
    = f100.b' L N (fun a0 => κ () a0) (fun s0 s1 s2 => evLp (E100 L N) (evCallI (E100 L N) 1 2000) 1000 100 23 0 f100.c0 (contAt (E100 L N) (evCallI (E100 L N) 1 2000) 1000 100 23 0 (codeOf Try.f100) (finK (E100 L N) 1000 Try.f100 (finN .row none 53 (.st 0) κ))) L (f100.T0 s0 s1 s2) (f100.H0 s0 s1 s2)) x0 := by kernel_rfl
theorem f100.b_eq {R : Type} (L N : Nat) (κ : RN.Den .row → List Move → Option R) (x0 : LM) :
    evBody (E100 L N) (evCallI (E100 L N) 1 2000) 1000 100 Try.f100 [(.tv (.sl (.st 0)) x0)] [] [] (finN .row none 53 (.st 0) κ)
    = f100.b L N (fun a0 => κ () a0) x0 := by
  rw [f100.b_pre]
  unfold f100.b
  simp only [f100.l0_eq, f100.p0_e0_eq]
theorem f100.s0'_nat {R R' : Type} (j : R → Option R') (L N : Nat) (k0_e0 : LM → Option R) (rec0 : LM → Int → LM → Option R) (s0 : LM) (s1 : Int) (s2 : LM) :
    f100.s0' L N (fun a0 => (k0_e0 a0).bind j) (fun a0 a1 a2 => (rec0 a0 a1 a2).bind j) s0 s1 s2 = (f100.s0' L N k0_e0 rec0 s0 s1 s2).bind j := by
  unfold f100.s0'
  repeat' (first | (with_reducible refine cond_nat ?_ ?_) | (with_reducible refine bind_nat fun _ => ?_) | rfl)
theorem f100.s0_nat {R R' : Type} (j : R → Option R') (L N : Nat) (k0_e0 : LM → Option R) (rec0 : LM → Int → LM → Option R) (s0 : LM) (s1 : Int) (s2 : LM) :
    f100.s0 L N (fun a0 => (k0_e0 a0).bind j) (fun a0 a1 a2 => (rec0 a0 a1 a2).bind j) s0 s1 s2 = (f100.s0 L N k0_e0 rec0 s0 s1 s2).bind j := by
  unfold f100.s0
  exact f100.s0'_nat ..
theorem f100.l0_nat {R R' : Type} (j : R → Option R') (L N : Nat) (k0_e0 : LM → Option R) : ∀ (n : Nat) (s0 : LM) (s1 : Int) (s2 : LM),
    f100.l0 L N (fun a0 => (k0_e0 a0).bind j) n s0 s1 s2 = (f100.l0 L N k0_e0 n s0 s1 s2).bind j := by
  intro n
  induction n with
  | zero => intros; rfl
  | succ n ih =>
    intro s0 s1 s2
    show f100.s0 L N (fun a0 => (k0_e0 a0).bind j) (f100.l0 L N (fun a0 => (k0_e0 a0).bind j) n) s0 s1 s2 = _
    rw [show f100.l0 L N (fun a0 => (k0_e0 a0).bind j) n = (fun s0 s1 s2 => (f100.l0 L N k0_e0 n s0 s1 s2).bind j) from funext fun s0 => funext fun s1 => funext fun s2 => ih s0 s1 s2]
    exact f100.s0_nat ..
theorem f100.p0_e0'_nat {R R' : Type} (j : R → Option R') (L N : Nat) (k : LM → Option R) (z3 : LM) :
    f100.p0_e0' L N (fun a0 => (k a0).bind j) z3 = (f100.p0_e0' L N k z3).bind j := by
  unfold f100.p0_e0'
  repeat' (first | (with_reducible refine cond_nat ?_ ?_) | (with_reducible refine bind_nat fun _ => ?_) | rfl)
theorem f100.p0_e0_nat {R R' : Type} (j : R → Option R') (L N : Nat) (k : LM → Option R) (z3 : LM) :
    f100.p0_e0 L N (fun a0 => (k a0).bind j) z3 = (f100.p0_e0 L N k z3).bind j := by
  unfold f100.p0_e0
  exact f100.p0_e0'_nat ..
theorem f100.b'_nat {R R' : Type} (j : R → Option R') (L N : Nat) (k : LM → Option R) (w0 : LM → Int → LM → Option R) (x0 : LM) :
    f100.b' L N (fun a0 => (k a0).bind j) (fun a0 a1 a2 => (w0 a0 a1 a2).bind j) x0 = (f100.b' L N k w0 x0).bind j := by
  unfold f100.b'
  repeat' (first | (with_reducible refine cond_nat ?_ ?_) | (with_reducible refine bind_nat fun _ => ?_) | rfl)
theorem f100.b_nat {R R' : Type} (j : R → Option R') (L N : Nat) (k : LM → Option R) (x0 : LM) :
    f100.b L N (fun a0 => (k a0).bind j) x0 = (f100.b L N k x0).bind j := by
  unfold f100.b
  simp only [f100.l0_nat, f100.p0_e0_nat]
  exact f100.b'_nat ..
theorem f100.ok (L N : Nat) (hΦ : TellsOk Try.prog ((Φ128 L N))) : EntOk Try.prog 100 (f100.ent L N) := by
  intro args vw site h
  unfold f100.ent
  split
  · rename_i d ha
    intro y hy hs
    refine call_ron (dep := 1000) (E := (E100 L N)) (ts := [(.sl (.st 0))]) (rn := .row) (q := none) (el := 53) (ty := (.st 0)) (d1 := ()) (xs := y) (sound_of hΦ) okP (callI_sound (sound_of hΦ) okP 1 2000) (f := Try.f100) rfl hs ha ?_ rfl site
    refine (f100.b_eq L N (fun d xs => some (d, xs)) d.1).trans ?_
    refine ((f100.b_nat (fun y => (some ((), y) : Option (RN.Den .row × List Move))) L N some d.1)).trans ?_
    rw [show f100.b L N some d.1 = some y from hy]
    rfl
  · intro y hy
    cases hy
def Φ100 (L N : Nat) : Tells := (addT (Φ128 L N) 100 (f100.ent L N))
theorem Φ100_ok (L N : Nat) : TellsOk Try.prog (Φ100 L N) := addT_ok (Φ128_ok L N) (f100.ok L N (Φ128_ok L N))
def f61.s0' {R : Type} (L N : Nat) (k0_e0 : LLM → Option R) (rec0 : LLM → Int → LLM → Option R) (s0 : LLM) (s1 : Int) (s2 : LLM) : Option R :=
  bif (decide (s1 < (s0.length : Int))) then
    bif (decide (0 ≤ s1) && decide (s1 < (s0.length : Int))) then
      (f100 L N (listAt s0 [] s1.toNat)).bind fun y4 =>
      bif (decide (0 ≤ s1) && decide (s1 < (s2.length : Int))) then
        rec0 s0 (wi (s1 + (1 : Int))) (s2.set s1.toNat y4)
      else none
    else none
  else k0_e0 s2
def f61.s0 {R : Type} (L N : Nat) (k0_e0 : LLM → Option R) (rec0 : LLM → Int → LLM → Option R) (s0 : LLM) (s1 : Int) (s2 : LLM) : Option R :=
  f61.s0' L N k0_e0 rec0 s0 s1 s2
def f61.l0 {R : Type} (L N : Nat) (k0_e0 : LLM → Option R) : Nat → LLM → Int → LLM → Option R
  | 0, _, _, _ => none
  | n + 1, s0, s1, s2 => f61.s0 L N k0_e0 (f61.l0 L N k0_e0 n) s0 s1 s2
def f61.T0 (s0 : LLM) (s1 : Int) (s2 : LLM) : T := mkT 23 [(0, (.tv (.sl (.sl (.st 0))) s0)), (3, (.row 1007)), (4, (.tv i64 s1))]
def f61.H0 (s0 : LLM) (s1 : Int) (s2 : LLM) : H := [(1007, (.deep 0 (.sl (.st 0)) s2 none))]
def f61.T0_e0 (z3 : LLM) : T := mkT 23 [(3, (.row 1007))]
def f61.H0_e0 (z3 : LLM) : H := [(1007, (.deep 0 (.sl (.st 0)) z3 none))]
def f61.p0_e0' {R : Type} (L N : Nat) (k : LLM → Option R) (z3 : LLM) : Option R :=
  k z3
def f61.p0_e0 {R : Type} (L N : Nat) (k : LLM → Option R) (z3 : LLM) : Option R :=
  f61.p0_e0' L N k z3
def f61.b' {R : Type} (L N : Nat) (k : LLM → Option R) (w0 : LLM → Int → LLM → Option R) (x0 : LLM) : Option R :=
  bif (decide (0 ≤ (x0.length : Int)) && decide ((x0.length : Int) ≤ (lim : Int))) then
    w0 x0 (0 : Int) (List.replicate (x0.length : Int).toNat [])
  else none
def f61.b {R : Type} (L N : Nat) (k : LLM → Option R) (x0 : LLM) : Option R :=
  f61.b' L N k (fun s0 s1 s2 => f61.l0 L N (fun z3 => f61.p0_e0 L N k z3) L s0 s1 s2) x0
def f61 (L N : Nat) (x0 : LLM) : Option (LLM) := f61.b L N some x0
def f61.ent (L N : Nat) (args : List AV) (vw : View) (site : Nat) : Ans := match roD [(.sl (.sl (.st 0)))] vw args with
  | some d => ⟨LLM, f61 L N d.1, fun y => (RN.av site .row (), [(site, some (mkO (some 0) 51 (.sl (.st 0)) y))], [])⟩
  | none => Ans.no
noncomputable def E61 (L N : Nat) : Env := { P := Try.prog, ty := tyOf, Φ := (Φ100 L N), inl := inlT, live := lives, liveX := livesX, L := L, dp := (some 0), prom := promT, heal := healT, ren := renT }
noncomputable def f61.c0 : Code := loopAt 0 (codeOf Try.f61)
theorem f61.s0_pre {R : Type} (L N : Nat) (κ : Ex → T → H → Option R) (rec : T → H → Option R) (s0 : LLM) (s1 : Int) (s2 : LLM) :
    evRd (E61 L N) (evCallI (E61 L N) 1 2000) 1000 61 23 0 f61.c0 κ rec (f61.T0 s0 s1 s2) (f61.H0 s0 s1 s2)
    = f61.s0' L N (fun z3 => κ (.exit 0) (f61.T0_e0 z3) (f61.H0_e0 z3)) (fun s0 s1 s2 => rec (f61.T0 s0 s1 s2) (f61.H0 s0 s1 s2)) s0 s1 s2 := by kernel_rfl
theorem f61.s0_eq {R : Type} (L N : Nat) (κ : Ex → T → H → Option R) (rec : T → H → Option R) (s0 : LLM) (s1 : Int) (s2 : LLM) :
    evRd (E61 L N) (evCallI (E61 L N) 1 2000) 1000 61 23 0 f61.c0 κ rec (f61.T0 s0 s1 s2) (f61.H0 s0 s1 s2)
    = f61.s0 L N (fun z3 => κ (.exit 0) (f61.T0_e0 z3) (f61.H0_e0 z3)) (fun s0 s1 s2 => rec (f61.T0 s0 s1 s2) (f61.H0 s0 s1 s2)) s0 s1 s2 := by
  rw [f61.s0_pre]
  unfold f61.s0
  rfl
theorem f61.l0_eq {R : Type} (L N : Nat) (κ : Ex → T → H → Option R) : ∀ (n : Nat) (s0 : LLM) (s1 : Int) (s2 : LLM),
    evLp (E61 L N) (evCallI (E61 L N) 1 2000) 1000 61 23 0 f61.c0 κ n (f61.T0 s0 s1 s2) (f61.H0 s0 s1 s2)
    = f61.l0 L N (fun z3 => κ (.exit 0) (f61.T0_e0 z3) (f61.H0_e0 z3)) n s0 s1 s2 := by
  intro n
  induction n with
  | zero => intros; rfl
  | succ n ih =>
    intro s0 s1 s2
    rw [evLp_succ, f61.s0_eq]
    simp only [ih]
    rfl
theorem f61.p0_e0_pre {R : Type} (L N : Nat) (κ : RN.Den .row → List LM → Option R) (z3 : LLM) :
    (contAt (E61 L N) (evCallI (E61 L N) 1 2000) 1000 61 23 0 (codeOf Try.f61) (finK (E61 L N) 1000 Try.f61 (finN .row (some 0) 51 (.sl (.st 0)) κ))) (.exit 0) (f61.T0_e0 z3) (f61.H0_e0 z3)
    = f61.p0_e0' L N (fun a0 => κ () a0) z3 := by kernel_rfl
theorem f61.p0_e0_eq {R : Type} (L N : Nat) (κ : RN.Den .row → List LM → Option R) (z3 : LLM) :
    (contAt (E61 L N) (evCallI (E61 L N) 1 2000) 1000 61 23 0 (codeOf Try.f61) (finK (E61 L N) 1000 Try.f61 (finN .row (some 0) 51 (.sl (.st 0)) κ))) (.exit 0) (f61.T0_e0 z3) (f61.H0_e0 z3)
    = f61.p0_e0 L N (fun a0 => κ () a0) z3 := by
  rw [f61.p0_e0_pre]
  unfold f61.p0_e0
  rfl
theorem f61.b_pre {R : Type} (L N : Nat) (κ : RN.Den .row → List LM → Option R) (x0 : LLM) :
    evBody (E61 L N) (evCallI (E61 L N) 1 2000) 1000 61 Try.f61 [(.tv (.sl (.sl (.st 0))) x0)] [] [] (finN .row (some 0) 51 (.sl (.st 0)) κ)
    = f61.b' L N (fun a0 => κ () a0) (fun s0 s1 s2 => evLp (E61 L N) (evCallI (E61 L N) 1 2000) 1000 61 23 0 f61.c0 (contAt (E61 L N) (evCallI (E61 L N) 1 2000) 1000 61 23 0 (codeOf Try.f61) (finK (E61 L N) 1000 Try.f61 (finN .row (some 0) 51 (.sl (.st 0)) κ))) L (f61.T0 s0 s1 s2) (f61.H0 s0 s1 s2)) x0 := by kernel_rfl
theorem f61.b_eq {R : Type} (L N : Nat) (κ : RN.Den .row → List LM → Option R) (x0 : LLM) :
    evBody (E61 L N) (evCallI (E61 L N) 1 2000) 1000 61 Try.f61 [(.tv (.sl (.sl (.st 0))) x0)] [] [] (finN .row (some 0) 51 (.sl (.st 0)) κ)
    = f61.b L N (fun a0 => κ () a0) x0 := by
  rw [f61.b_pre]
  unfold f61.b
  simp only [f61.l0_eq, f61.p0_e0_eq]
theorem f61.s0'_nat {R R' : Type} (j : R → Option R') (L N : Nat) (k0_e0 : LLM → Option R) (rec0 : LLM → Int → LLM → Option R) (s0 : LLM) (s1 : Int) (s2 : LLM) :
    f61.s0' L N (fun a0 => (k0_e0 a0).bind j) (fun a0 a1 a2 => (rec0 a0 a1 a2).bind j) s0 s1 s2 = (f61.s0' L N k0_e0 rec0 s0 s1 s2).bind j := by
  unfold f61.s0'
  repeat' (first | (with_reducible refine cond_nat ?_ ?_) | (with_reducible refine bind_nat fun _ => ?_) | rfl)
theorem f61.s0_nat {R R' : Type} (j : R → Option R') (L N : Nat) (k0_e0 : LLM → Option R) (rec0 : LLM → Int → LLM → Option R) (s0 : LLM) (s1 : Int) (s2 : LLM) :
    f61.s0 L N (fun a0 => (k0_e0 a0).bind j) (fun a0 a1 a2 => (rec0 a0 a1 a2).bind j) s0 s1 s2 = (f61.s0 L N k0_e0 rec0 s0 s1 s2).bind j := by
  unfold f61.s0
  exact f61.s0'_nat ..
theorem f61.l0_nat {R R' : Type} (j : R → Option R') (L N : Nat) (k0_e0 : LLM → Option R) : ∀ (n : Nat) (s0 : LLM) (s1 : Int) (s2 : LLM),
    f61.l0 L N (fun a0 => (k0_e0 a0).bind j) n s0 s1 s2 = (f61.l0 L N k0_e0 n s0 s1 s2).bind j := by
  intro n
  induction n with
  | zero => intros; rfl
  | succ n ih =>
    intro s0 s1 s2
    show f61.s0 L N (fun a0 => (k0_e0 a0).bind j) (f61.l0 L N (fun a0 => (k0_e0 a0).bind j) n) s0 s1 s2 = _
    rw [show f61.l0 L N (fun a0 => (k0_e0 a0).bind j) n = (fun s0 s1 s2 => (f61.l0 L N k0_e0 n s0 s1 s2).bind j) from funext fun s0 => funext fun s1 => funext fun s2 => ih s0 s1 s2]
    exact f61.s0_nat ..
theorem f61.p0_e0'_nat {R R' : Type} (j : R → Option R') (L N : Nat) (k : LLM → Option R) (z3 : LLM) :
    f61.p0_e0' L N (fun a0 => (k a0).bind j) z3 = (f61.p0_e0' L N k z3).bind j := by
  unfold f61.p0_e0'
  repeat' (first | (with_reducible refine cond_nat ?_ ?_) | (with_reducible refine bind_nat fun _ => ?_) | rfl)
theorem f61.p0_e0_nat {R R' : Type} (j : R → Option R') (L N : Nat) (k : LLM → Option R) (z3 : LLM) :
    f61.p0_e0 L N (fun a0 => (k a0).bind j) z3 = (f61.p0_e0 L N k z3).bind j := by
  unfold f61.p0_e0
  exact f61.p0_e0'_nat ..
theorem f61.b'_nat {R R' : Type} (j : R → Option R') (L N : Nat) (k : LLM → Option R) (w0 : LLM → Int → LLM → Option R) (x0 : LLM) :
    f61.b' L N (fun a0 => (k a0).bind j) (fun a0 a1 a2 => (w0 a0 a1 a2).bind j) x0 = (f61.b' L N k w0 x0).bind j := by
  unfold f61.b'
  repeat' (first | (with_reducible refine cond_nat ?_ ?_) | (with_reducible refine bind_nat fun _ => ?_) | rfl)
theorem f61.b_nat {R R' : Type} (j : R → Option R') (L N : Nat) (k : LLM → Option R) (x0 : LLM) :
    f61.b L N (fun a0 => (k a0).bind j) x0 = (f61.b L N k x0).bind j := by
  unfold f61.b
  simp only [f61.l0_nat, f61.p0_e0_nat]
  exact f61.b'_nat ..
theorem f61.ok (L N : Nat) (hΦ : TellsOk Try.prog ((Φ100 L N))) : EntOk Try.prog 61 (f61.ent L N) := by
  intro args vw site h
  unfold f61.ent
  split
  · rename_i d ha
    intro y hy hs
    refine call_ron (dep := 1000) (E := (E61 L N)) (ts := [(.sl (.sl (.st 0)))]) (rn := .row) (q := (some 0)) (el := 51) (ty := (.sl (.st 0))) (d1 := ()) (xs := y) (sound_of hΦ) okP (callI_sound (sound_of hΦ) okP 1 2000) (f := Try.f61) rfl hs ha ?_ rfl site
    refine (f61.b_eq L N (fun d xs => some (d, xs)) d.1).trans ?_
    refine ((f61.b_nat (fun y => (some ((), y) : Option (RN.Den .row × List LM))) L N some d.1)).trans ?_
    rw [show f61.b L N some d.1 = some y from hy]
    rfl
  · intro y hy
    cases hy
def Φ61 (L N : Nat) : Tells := (addT (Φ100 L N) 61 (f61.ent L N))
theorem Φ61_ok (L N : Nat) : TellsOk Try.prog (Φ61 L N) := addT_ok (Φ100_ok L N) (f61.ok L N (Φ100_ok L N))
def f18.b' {R : Type} (L N : Nat) (k : LLM → Option R) (x0 : Graph) : Option R :=
  (f61 L N x0.moves).bind fun y0 =>
  k y0
def f18.b {R : Type} (L N : Nat) (k : LLM → Option R) (x0 : Graph) : Option R :=
  f18.b' L N k x0
def f18 (L N : Nat) (x0 : Graph) : Option (LLM) := f18.b L N some x0
def f18.ent (L N : Nat) (args : List AV) (vw : View) (site : Nat) : Ans := match roD [(.st 2)] vw args with
  | some d => ⟨LLM, f18 L N d.1, fun y => (RN.av site (.agg []) (()), [(site, some (mkO (some 0) 51 (.sl (.st 0)) y))], [])⟩
  | none => Ans.no
noncomputable def E18 (L N : Nat) : Env := { P := Try.prog, ty := tyOf, Φ := (Φ61 L N), inl := inlT, live := lives, liveX := livesX, L := L, dp := (some 0), prom := promT, heal := healT, ren := renT }
theorem f18.b_pre {R : Type} (L N : Nat) (κ : RN.Den (.agg []) → List LM → Option R) (x0 : Graph) :
    evBody (E18 L N) (evCallI (E18 L N) 1 2000) 1000 18 Try.f18 [(.tv (.st 2) x0)] [] [] (finN (.agg []) (some 0) 51 (.sl (.st 0)) κ)
    = f18.b' L N (fun a0 => κ (()) a0) x0 := by kernel_rfl
theorem f18.b_eq {R : Type} (L N : Nat) (κ : RN.Den (.agg []) → List LM → Option R) (x0 : Graph) :
    evBody (E18 L N) (evCallI (E18 L N) 1 2000) 1000 18 Try.f18 [(.tv (.st 2) x0)] [] [] (finN (.agg []) (some 0) 51 (.sl (.st 0)) κ)
    = f18.b L N (fun a0 => κ (()) a0) x0 := by
  rw [f18.b_pre]
  unfold f18.b
  rfl
theorem f18.b'_nat {R R' : Type} (j : R → Option R') (L N : Nat) (k : LLM → Option R) (x0 : Graph) :
    f18.b' L N (fun a0 => (k a0).bind j) x0 = (f18.b' L N k x0).bind j := by
  unfold f18.b'
  repeat' (first | (with_reducible refine cond_nat ?_ ?_) | (with_reducible refine bind_nat fun _ => ?_) | rfl)
theorem f18.b_nat {R R' : Type} (j : R → Option R') (L N : Nat) (k : LLM → Option R) (x0 : Graph) :
    f18.b L N (fun a0 => (k a0).bind j) x0 = (f18.b L N k x0).bind j := by
  unfold f18.b
  exact f18.b'_nat ..
theorem f18.ok (L N : Nat) (hΦ : TellsOk Try.prog ((Φ61 L N))) : EntOk Try.prog 18 (f18.ent L N) := by
  intro args vw site h
  unfold f18.ent
  split
  · rename_i d ha
    intro y hy hs
    refine call_ron (dep := 1000) (E := (E18 L N)) (ts := [(.st 2)]) (rn := (.agg [])) (q := (some 0)) (el := 51) (ty := (.sl (.st 0))) (d1 := (())) (xs := y) (sound_of hΦ) okP (callI_sound (sound_of hΦ) okP 1 2000) (f := Try.f18) rfl hs ha ?_ rfl site
    refine (f18.b_eq L N (fun d xs => some (d, xs)) d.1).trans ?_
    refine ((f18.b_nat (fun y => (some ((()), y) : Option (RN.Den (.agg []) × List LM))) L N some d.1)).trans ?_
    rw [show f18.b L N some d.1 = some y from hy]
    rfl
  · intro y hy
    cases hy
def Φ18 (L N : Nat) : Tells := (addT (Φ61 L N) 18 (f18.ent L N))
theorem Φ18_ok (L N : Nat) : TellsOk Try.prog (Φ18 L N) := addT_ok (Φ61_ok L N) (f18.ok L N (Φ61_ok L N))
def f21.s0' {R : Type} (L N : Nat) (k0_e0 : Option R) (k0_r : Bool → Option R) (rec0 : LI → LI → Int → Option R) (s0 : LI) (s1 : LI) (s2 : Int) : Option R :=
  bif (decide (s2 < (s0.length : Int))) then
    bif (decide (0 ≤ s2) && decide (s2 < (s0.length : Int))) then
      bif (decide (0 ≤ s2) && decide (s2 < (s1.length : Int))) then
        bif ((listAt s0 (0 : Int) s2.toNat) != (listAt s1 (0 : Int) s2.toNat)) then
          k0_r false
        else rec0 s0 s1 (wi (s2 + (1 : Int)))
      else none
    else none
  else k0_e0
def f21.s0 {R : Type} (L N : Nat) (k0_e0 : Option R) (k0_r : Bool → Option R) (rec0 : LI → LI → Int → Option R) (s0 : LI) (s1 : LI) (s2 : Int) : Option R :=
  f21.s0' L N k0_e0 k0_r rec0 s0 s1 s2
def f21.l0 {R : Type} (L N : Nat) (k0_e0 : Option R) (k0_r : Bool → Option R) : Nat → LI → LI → Int → Option R
  | 0, _, _, _ => none
  | n + 1, s0, s1, s2 => f21.s0 L N k0_e0 k0_r (f21.l0 L N k0_e0 k0_r n) s0 s1 s2
def f21.T0 (s0 : LI) (s1 : LI) (s2 : Int) : T := mkT 26 [(0, (.tv (.sl i64) s0)), (1, (.tv (.sl i64) s1)), (5, (.tv i64 s2))]
def f21.H0 (s0 : LI) (s1 : LI) (s2 : Int) : H := []
def f21.T0_e0 : T := mkT 26 []
def f21.H0_e0 : H := []
def f21.T0_r (z3 : Bool) : T := mkT 26 [(4, (.tv .bool z3))]
def f21.H0_r (z3 : Bool) : H := []
def f21.p0_e0' {R : Type} (L N : Nat) (k : Bool → Option R) : Option R :=
  k true
def f21.p0_e0 {R : Type} (L N : Nat) (k : Bool → Option R) : Option R :=
  f21.p0_e0' L N k
def f21.p0_r' {R : Type} (L N : Nat) (k : Bool → Option R) (z3 : Bool) : Option R :=
  k z3
def f21.p0_r {R : Type} (L N : Nat) (k : Bool → Option R) (z3 : Bool) : Option R :=
  f21.p0_r' L N k z3
def f21.b' {R : Type} (L N : Nat) (k : Bool → Option R) (w0 : LI → LI → Int → Option R) (x0 : LI) (x1 : LI) : Option R :=
  bif ((x0.length : Int) != (x1.length : Int)) then
    k false
  else w0 x0 x1 (0 : Int)
def f21.b {R : Type} (L N : Nat) (k : Bool → Option R) (x0 : LI) (x1 : LI) : Option R :=
  f21.b' L N k (fun s0 s1 s2 => f21.l0 L N (f21.p0_e0 L N k) (fun z3 => f21.p0_r L N k z3) L s0 s1 s2) x0 x1
def f21 (L N : Nat) (x0 : LI) (x1 : LI) : Option (Bool) := f21.b L N some x0 x1
def f21.ent (L N : Nat) (args : List AV) (vw : View) (site : Nat) : Ans := match roD [(.sl i64), (.sl i64)] vw args with
  | some d => ⟨Bool, f21 L N d.1 d.2.1, fun y => ((.tv .bool y), [], [])⟩
  | none => Ans.no
noncomputable def E21 (L N : Nat) : Env := { P := Try.prog, ty := tyOf, Φ := (Φ18 L N), inl := inlT, live := lives, liveX := livesX, L := L, dp := none, prom := promT, heal := healT, ren := renT }
noncomputable def f21.c0 : Code := loopAt 0 (codeOf Try.f21)
theorem f21.s0_pre {R : Type} (L N : Nat) (κ : Ex → T → H → Option R) (rec : T → H → Option R) (s0 : LI) (s1 : LI) (s2 : Int) :
    evRd (E21 L N) (evCallI (E21 L N) 1 2000) 1000 21 26 0 f21.c0 κ rec (f21.T0 s0 s1 s2) (f21.H0 s0 s1 s2)
    = f21.s0' L N (κ (.exit 0) f21.T0_e0 f21.H0_e0) (fun z3 => κ .ret (f21.T0_r z3) (f21.H0_r z3)) (fun s0 s1 s2 => rec (f21.T0 s0 s1 s2) (f21.H0 s0 s1 s2)) s0 s1 s2 := by kernel_rfl
theorem f21.s0_eq {R : Type} (L N : Nat) (κ : Ex → T → H → Option R) (rec : T → H → Option R) (s0 : LI) (s1 : LI) (s2 : Int) :
    evRd (E21 L N) (evCallI (E21 L N) 1 2000) 1000 21 26 0 f21.c0 κ rec (f21.T0 s0 s1 s2) (f21.H0 s0 s1 s2)
    = f21.s0 L N (κ (.exit 0) f21.T0_e0 f21.H0_e0) (fun z3 => κ .ret (f21.T0_r z3) (f21.H0_r z3)) (fun s0 s1 s2 => rec (f21.T0 s0 s1 s2) (f21.H0 s0 s1 s2)) s0 s1 s2 := by
  rw [f21.s0_pre]
  unfold f21.s0
  rfl
theorem f21.l0_eq {R : Type} (L N : Nat) (κ : Ex → T → H → Option R) : ∀ (n : Nat) (s0 : LI) (s1 : LI) (s2 : Int),
    evLp (E21 L N) (evCallI (E21 L N) 1 2000) 1000 21 26 0 f21.c0 κ n (f21.T0 s0 s1 s2) (f21.H0 s0 s1 s2)
    = f21.l0 L N (κ (.exit 0) f21.T0_e0 f21.H0_e0) (fun z3 => κ .ret (f21.T0_r z3) (f21.H0_r z3)) n s0 s1 s2 := by
  intro n
  induction n with
  | zero => intros; rfl
  | succ n ih =>
    intro s0 s1 s2
    rw [evLp_succ, f21.s0_eq]
    simp only [ih]
    rfl
theorem f21.p0_e0_pre {R : Type} (L N : Nat) (κ : AV → Option R) :
    (contAt (E21 L N) (evCallI (E21 L N) 1 2000) 1000 21 26 0 (codeOf Try.f21) (finK (E21 L N) 1000 Try.f21 (finC (.one .bool) κ))) (.exit 0) f21.T0_e0 f21.H0_e0
    = f21.p0_e0' L N (fun a0 => κ (.tv .bool a0)) := by kernel_rfl
theorem f21.p0_e0_eq {R : Type} (L N : Nat) (κ : AV → Option R) :
    (contAt (E21 L N) (evCallI (E21 L N) 1 2000) 1000 21 26 0 (codeOf Try.f21) (finK (E21 L N) 1000 Try.f21 (finC (.one .bool) κ))) (.exit 0) f21.T0_e0 f21.H0_e0
    = f21.p0_e0 L N (fun a0 => κ (.tv .bool a0)) := by
  rw [f21.p0_e0_pre]
  unfold f21.p0_e0
  rfl
theorem f21.p0_r_pre {R : Type} (L N : Nat) (κ : AV → Option R) (z3 : Bool) :
    (contAt (E21 L N) (evCallI (E21 L N) 1 2000) 1000 21 26 0 (codeOf Try.f21) (finK (E21 L N) 1000 Try.f21 (finC (.one .bool) κ))) .ret (f21.T0_r z3) (f21.H0_r z3)
    = f21.p0_r' L N (fun a0 => κ (.tv .bool a0)) z3 := by kernel_rfl
theorem f21.p0_r_eq {R : Type} (L N : Nat) (κ : AV → Option R) (z3 : Bool) :
    (contAt (E21 L N) (evCallI (E21 L N) 1 2000) 1000 21 26 0 (codeOf Try.f21) (finK (E21 L N) 1000 Try.f21 (finC (.one .bool) κ))) .ret (f21.T0_r z3) (f21.H0_r z3)
    = f21.p0_r L N (fun a0 => κ (.tv .bool a0)) z3 := by
  rw [f21.p0_r_pre]
  unfold f21.p0_r
  rfl
theorem f21.b_pre {R : Type} (L N : Nat) (κ : AV → Option R) (x0 : LI) (x1 : LI) :
    evBody (E21 L N) (evCallI (E21 L N) 1 2000) 1000 21 Try.f21 [(.tv (.sl i64) x0), (.tv (.sl i64) x1)] [] [] (finC (.one .bool) κ)
    = f21.b' L N (fun a0 => κ (.tv .bool a0)) (fun s0 s1 s2 => evLp (E21 L N) (evCallI (E21 L N) 1 2000) 1000 21 26 0 f21.c0 (contAt (E21 L N) (evCallI (E21 L N) 1 2000) 1000 21 26 0 (codeOf Try.f21) (finK (E21 L N) 1000 Try.f21 (finC (.one .bool) κ))) L (f21.T0 s0 s1 s2) (f21.H0 s0 s1 s2)) x0 x1 := by kernel_rfl
theorem f21.b_eq {R : Type} (L N : Nat) (κ : AV → Option R) (x0 : LI) (x1 : LI) :
    evBody (E21 L N) (evCallI (E21 L N) 1 2000) 1000 21 Try.f21 [(.tv (.sl i64) x0), (.tv (.sl i64) x1)] [] [] (finC (.one .bool) κ)
    = f21.b L N (fun a0 => κ (.tv .bool a0)) x0 x1 := by
  rw [f21.b_pre]
  unfold f21.b
  simp only [f21.l0_eq, f21.p0_e0_eq, f21.p0_r_eq]
theorem f21.s0'_nat {R R' : Type} (j : R → Option R') (L N : Nat) (k0_e0 : Option R) (k0_r : Bool → Option R) (rec0 : LI → LI → Int → Option R) (s0 : LI) (s1 : LI) (s2 : Int) :
    f21.s0' L N (k0_e0.bind j) (fun a0 => (k0_r a0).bind j) (fun a0 a1 a2 => (rec0 a0 a1 a2).bind j) s0 s1 s2 = (f21.s0' L N k0_e0 k0_r rec0 s0 s1 s2).bind j := by
  unfold f21.s0'
  repeat' (first | (with_reducible refine cond_nat ?_ ?_) | (with_reducible refine bind_nat fun _ => ?_) | rfl)
theorem f21.s0_nat {R R' : Type} (j : R → Option R') (L N : Nat) (k0_e0 : Option R) (k0_r : Bool → Option R) (rec0 : LI → LI → Int → Option R) (s0 : LI) (s1 : LI) (s2 : Int) :
    f21.s0 L N (k0_e0.bind j) (fun a0 => (k0_r a0).bind j) (fun a0 a1 a2 => (rec0 a0 a1 a2).bind j) s0 s1 s2 = (f21.s0 L N k0_e0 k0_r rec0 s0 s1 s2).bind j := by
  unfold f21.s0
  exact f21.s0'_nat ..
theorem f21.l0_nat {R R' : Type} (j : R → Option R') (L N : Nat) (k0_e0 : Option R) (k0_r : Bool → Option R) : ∀ (n : Nat) (s0 : LI) (s1 : LI) (s2 : Int),
    f21.l0 L N (k0_e0.bind j) (fun a0 => (k0_r a0).bind j) n s0 s1 s2 = (f21.l0 L N k0_e0 k0_r n s0 s1 s2).bind j := by
  intro n
  induction n with
  | zero => intros; rfl
  | succ n ih =>
    intro s0 s1 s2
    show f21.s0 L N (k0_e0.bind j) (fun a0 => (k0_r a0).bind j) (f21.l0 L N (k0_e0.bind j) (fun a0 => (k0_r a0).bind j) n) s0 s1 s2 = _
    rw [show f21.l0 L N (k0_e0.bind j) (fun a0 => (k0_r a0).bind j) n = (fun s0 s1 s2 => (f21.l0 L N k0_e0 k0_r n s0 s1 s2).bind j) from funext fun s0 => funext fun s1 => funext fun s2 => ih s0 s1 s2]
    exact f21.s0_nat ..
theorem f21.p0_e0'_nat {R R' : Type} (j : R → Option R') (L N : Nat) (k : Bool → Option R) :
    f21.p0_e0' L N (fun a0 => (k a0).bind j) = (f21.p0_e0' L N k).bind j := by
  unfold f21.p0_e0'
  repeat' (first | (with_reducible refine cond_nat ?_ ?_) | (with_reducible refine bind_nat fun _ => ?_) | rfl)
theorem f21.p0_e0_nat {R R' : Type} (j : R → Option R') (L N : Nat) (k : Bool → Option R) :
    f21.p0_e0 L N (fun a0 => (k a0).bind j) = (f21.p0_e0 L N k).bind j := by
  unfold f21.p0_e0
  exact f21.p0_e0'_nat ..
theorem f21.p0_r'_nat {R R' : Type} (j : R → Option R') (L N : Nat) (k : Bool → Option R) (z3 : Bool) :
    f21.p0_r' L N (fun a0 => (k a0).bind j) z3 = (f21.p0_r' L N k z3).bind j := by
  unfold f21.p0_r'
  repeat' (first | (with_reducible refine cond_nat ?_ ?_) | (with_reducible refine bind_nat fun _ => ?_) | rfl)
theorem f21.p0_r_nat {R R' : Type} (j : R → Option R') (L N : Nat) (k : Bool → Option R) (z3 : Bool) :
    f21.p0_r L N (fun a0 => (k a0).bind j) z3 = (f21.p0_r L N k z3).bind j := by
  unfold f21.p0_r
  exact f21.p0_r'_nat ..
theorem f21.b'_nat {R R' : Type} (j : R → Option R') (L N : Nat) (k : Bool → Option R) (w0 : LI → LI → Int → Option R) (x0 : LI) (x1 : LI) :
    f21.b' L N (fun a0 => (k a0).bind j) (fun a0 a1 a2 => (w0 a0 a1 a2).bind j) x0 x1 = (f21.b' L N k w0 x0 x1).bind j := by
  unfold f21.b'
  repeat' (first | (with_reducible refine cond_nat ?_ ?_) | (with_reducible refine bind_nat fun _ => ?_) | rfl)
theorem f21.b_nat {R R' : Type} (j : R → Option R') (L N : Nat) (k : Bool → Option R) (x0 : LI) (x1 : LI) :
    f21.b L N (fun a0 => (k a0).bind j) x0 x1 = (f21.b L N k x0 x1).bind j := by
  unfold f21.b
  simp only [f21.l0_nat, f21.p0_e0_nat, f21.p0_r_nat]
  exact f21.b'_nat ..
theorem f21.ok (L N : Nat) (hΦ : TellsOk Try.prog ((Φ18 L N))) : EntOk Try.prog 21 (f21.ent L N) := by
  intro args vw site h
  unfold f21.ent
  split
  · rename_i d ha
    intro y hy hs
    refine call_ro (dep := 1000) (E := (E21 L N)) (rs := (.one .bool)) (v := (.tv .bool y)) (sound_of hΦ) okP (callI_sound (sound_of hΦ) okP 1 2000) (f := Try.f21) rfl hs ha ?_ rfl site
    refine (f21.b_eq L N some d.1 d.2.1).trans ?_
    refine ((f21.b_nat (fun y => (some (.tv .bool y) : Option AV)) L N some d.1 d.2.1)).trans ?_
    rw [show f21.b L N some d.1 d.2.1 = some y from hy]
    rfl
  · intro y hy
    cases hy
def Φ21 (L N : Nat) : Tells := (addT (Φ18 L N) 21 (f21.ent L N))
theorem Φ21_ok (L N : Nat) : TellsOk Try.prog (Φ21 L N) := addT_ok (Φ18_ok L N) (f21.ok L N (Φ18_ok L N))
def f129.b' {R : Type} (L N : Nat) (k : Bool → Option R) (x0 : Move) (x1 : Move) : Option R :=
  bif (x0.act != x1.act) then
    k false
  else bif (x0.to != x1.to) then
    k false
  else k true
def f129.b {R : Type} (L N : Nat) (k : Bool → Option R) (x0 : Move) (x1 : Move) : Option R :=
  f129.b' L N k x0 x1
def f129 (L N : Nat) (x0 : Move) (x1 : Move) : Option (Bool) := f129.b L N some x0 x1
def f129.ent (L N : Nat) (args : List AV) (vw : View) (site : Nat) : Ans := match roD [(.st 0), (.st 0)] vw args with
  | some d => ⟨Bool, f129 L N d.1 d.2.1, fun y => ((.tv .bool y), [], [])⟩
  | none => Ans.no
noncomputable def E129 (L N : Nat) : Env := { P := Try.prog, ty := tyOf, Φ := (Φ21 L N), inl := inlT, live := lives, liveX := livesX, L := L, dp := none, prom := promT, heal := healT, ren := renT }
theorem f129.b_pre {R : Type} (L N : Nat) (κ : AV → Option R) (x0 : Move) (x1 : Move) :
    evBody (E129 L N) (evCallI (E129 L N) 1 2000) 1000 129 Try.f129 [(.tv (.st 0) x0), (.tv (.st 0) x1)] [] [] (finC (.one .bool) κ)
    = f129.b' L N (fun a0 => κ (.tv .bool a0)) x0 x1 := by kernel_rfl
theorem f129.b_eq {R : Type} (L N : Nat) (κ : AV → Option R) (x0 : Move) (x1 : Move) :
    evBody (E129 L N) (evCallI (E129 L N) 1 2000) 1000 129 Try.f129 [(.tv (.st 0) x0), (.tv (.st 0) x1)] [] [] (finC (.one .bool) κ)
    = f129.b L N (fun a0 => κ (.tv .bool a0)) x0 x1 := by
  rw [f129.b_pre]
  unfold f129.b
  rfl
theorem f129.b'_nat {R R' : Type} (j : R → Option R') (L N : Nat) (k : Bool → Option R) (x0 : Move) (x1 : Move) :
    f129.b' L N (fun a0 => (k a0).bind j) x0 x1 = (f129.b' L N k x0 x1).bind j := by
  unfold f129.b'
  repeat' (first | (with_reducible refine cond_nat ?_ ?_) | (with_reducible refine bind_nat fun _ => ?_) | rfl)
theorem f129.b_nat {R R' : Type} (j : R → Option R') (L N : Nat) (k : Bool → Option R) (x0 : Move) (x1 : Move) :
    f129.b L N (fun a0 => (k a0).bind j) x0 x1 = (f129.b L N k x0 x1).bind j := by
  unfold f129.b
  exact f129.b'_nat ..
theorem f129.ok (L N : Nat) (hΦ : TellsOk Try.prog ((Φ21 L N))) : EntOk Try.prog 129 (f129.ent L N) := by
  intro args vw site h
  unfold f129.ent
  split
  · rename_i d ha
    intro y hy hs
    refine call_ro (dep := 1000) (E := (E129 L N)) (rs := (.one .bool)) (v := (.tv .bool y)) (sound_of hΦ) okP (callI_sound (sound_of hΦ) okP 1 2000) (f := Try.f129) rfl hs ha ?_ rfl site
    refine (f129.b_eq L N some d.1 d.2.1).trans ?_
    refine ((f129.b_nat (fun y => (some (.tv .bool y) : Option AV)) L N some d.1 d.2.1)).trans ?_
    rw [show f129.b L N some d.1 d.2.1 = some y from hy]
    rfl
  · intro y hy
    cases hy
def Φ129 (L N : Nat) : Tells := (addT (Φ21 L N) 129 (f129.ent L N))
theorem Φ129_ok (L N : Nat) : TellsOk Try.prog (Φ129 L N) := addT_ok (Φ21_ok L N) (f129.ok L N (Φ21_ok L N))
def f101.s0' {R : Type} (L N : Nat) (k0_e0 : Option R) (k0_r : Bool → Option R) (rec0 : LM → LM → Int → Option R) (s0 : LM) (s1 : LM) (s2 : Int) : Option R :=
  bif (decide (s2 < (s0.length : Int))) then
    bif (decide (0 ≤ s2) && decide (s2 < (s0.length : Int))) then
      bif (decide (0 ≤ s2) && decide (s2 < (s1.length : Int))) then
        (f129 L N (listAt s0 (Ty.dflt (.st 0)) s2.toNat) (listAt s1 (Ty.dflt (.st 0)) s2.toNat)).bind fun y3 =>
        bif (!y3) then
          k0_r false
        else rec0 s0 s1 (wi (s2 + (1 : Int)))
      else none
    else none
  else k0_e0
def f101.s0 {R : Type} (L N : Nat) (k0_e0 : Option R) (k0_r : Bool → Option R) (rec0 : LM → LM → Int → Option R) (s0 : LM) (s1 : LM) (s2 : Int) : Option R :=
  f101.s0' L N k0_e0 k0_r rec0 s0 s1 s2
def f101.l0 {R : Type} (L N : Nat) (k0_e0 : Option R) (k0_r : Bool → Option R) : Nat → LM → LM → Int → Option R
  | 0, _, _, _ => none
  | n + 1, s0, s1, s2 => f101.s0 L N k0_e0 k0_r (f101.l0 L N k0_e0 k0_r n) s0 s1 s2
def f101.T0 (s0 : LM) (s1 : LM) (s2 : Int) : T := mkT 27 [(0, (.tv (.sl (.st 0)) s0)), (1, (.tv (.sl (.st 0)) s1)), (5, (.tv i64 s2))]
def f101.H0 (s0 : LM) (s1 : LM) (s2 : Int) : H := []
def f101.T0_e0 : T := mkT 27 []
def f101.H0_e0 : H := []
def f101.T0_r (z4 : Bool) : T := mkT 27 [(4, (.tv .bool z4))]
def f101.H0_r (z4 : Bool) : H := []
def f101.p0_e0' {R : Type} (L N : Nat) (k : Bool → Option R) : Option R :=
  k true
def f101.p0_e0 {R : Type} (L N : Nat) (k : Bool → Option R) : Option R :=
  f101.p0_e0' L N k
def f101.p0_r' {R : Type} (L N : Nat) (k : Bool → Option R) (z4 : Bool) : Option R :=
  k z4
def f101.p0_r {R : Type} (L N : Nat) (k : Bool → Option R) (z4 : Bool) : Option R :=
  f101.p0_r' L N k z4
def f101.b' {R : Type} (L N : Nat) (k : Bool → Option R) (w0 : LM → LM → Int → Option R) (x0 : LM) (x1 : LM) : Option R :=
  bif ((x0.length : Int) != (x1.length : Int)) then
    k false
  else w0 x0 x1 (0 : Int)
def f101.b {R : Type} (L N : Nat) (k : Bool → Option R) (x0 : LM) (x1 : LM) : Option R :=
  f101.b' L N k (fun s0 s1 s2 => f101.l0 L N (f101.p0_e0 L N k) (fun z4 => f101.p0_r L N k z4) L s0 s1 s2) x0 x1
def f101 (L N : Nat) (x0 : LM) (x1 : LM) : Option (Bool) := f101.b L N some x0 x1
def f101.ent (L N : Nat) (args : List AV) (vw : View) (site : Nat) : Ans := match roD [(.sl (.st 0)), (.sl (.st 0))] vw args with
  | some d => ⟨Bool, f101 L N d.1 d.2.1, fun y => ((.tv .bool y), [], [])⟩
  | none => Ans.no
noncomputable def E101 (L N : Nat) : Env := { P := Try.prog, ty := tyOf, Φ := (Φ129 L N), inl := inlT, live := lives, liveX := livesX, L := L, dp := none, prom := promT, heal := healT, ren := renT }
noncomputable def f101.c0 : Code := loopAt 0 (codeOf Try.f101)
theorem f101.s0_pre {R : Type} (L N : Nat) (κ : Ex → T → H → Option R) (rec : T → H → Option R) (s0 : LM) (s1 : LM) (s2 : Int) :
    evRd (E101 L N) (evCallI (E101 L N) 1 2000) 1000 101 27 0 f101.c0 κ rec (f101.T0 s0 s1 s2) (f101.H0 s0 s1 s2)
    = f101.s0' L N (κ (.exit 0) f101.T0_e0 f101.H0_e0) (fun z4 => κ .ret (f101.T0_r z4) (f101.H0_r z4)) (fun s0 s1 s2 => rec (f101.T0 s0 s1 s2) (f101.H0 s0 s1 s2)) s0 s1 s2 := by kernel_rfl
theorem f101.s0_eq {R : Type} (L N : Nat) (κ : Ex → T → H → Option R) (rec : T → H → Option R) (s0 : LM) (s1 : LM) (s2 : Int) :
    evRd (E101 L N) (evCallI (E101 L N) 1 2000) 1000 101 27 0 f101.c0 κ rec (f101.T0 s0 s1 s2) (f101.H0 s0 s1 s2)
    = f101.s0 L N (κ (.exit 0) f101.T0_e0 f101.H0_e0) (fun z4 => κ .ret (f101.T0_r z4) (f101.H0_r z4)) (fun s0 s1 s2 => rec (f101.T0 s0 s1 s2) (f101.H0 s0 s1 s2)) s0 s1 s2 := by
  rw [f101.s0_pre]
  unfold f101.s0
  rfl
theorem f101.l0_eq {R : Type} (L N : Nat) (κ : Ex → T → H → Option R) : ∀ (n : Nat) (s0 : LM) (s1 : LM) (s2 : Int),
    evLp (E101 L N) (evCallI (E101 L N) 1 2000) 1000 101 27 0 f101.c0 κ n (f101.T0 s0 s1 s2) (f101.H0 s0 s1 s2)
    = f101.l0 L N (κ (.exit 0) f101.T0_e0 f101.H0_e0) (fun z4 => κ .ret (f101.T0_r z4) (f101.H0_r z4)) n s0 s1 s2 := by
  intro n
  induction n with
  | zero => intros; rfl
  | succ n ih =>
    intro s0 s1 s2
    rw [evLp_succ, f101.s0_eq]
    simp only [ih]
    rfl
theorem f101.p0_e0_pre {R : Type} (L N : Nat) (κ : AV → Option R) :
    (contAt (E101 L N) (evCallI (E101 L N) 1 2000) 1000 101 27 0 (codeOf Try.f101) (finK (E101 L N) 1000 Try.f101 (finC (.one .bool) κ))) (.exit 0) f101.T0_e0 f101.H0_e0
    = f101.p0_e0' L N (fun a0 => κ (.tv .bool a0)) := by kernel_rfl
theorem f101.p0_e0_eq {R : Type} (L N : Nat) (κ : AV → Option R) :
    (contAt (E101 L N) (evCallI (E101 L N) 1 2000) 1000 101 27 0 (codeOf Try.f101) (finK (E101 L N) 1000 Try.f101 (finC (.one .bool) κ))) (.exit 0) f101.T0_e0 f101.H0_e0
    = f101.p0_e0 L N (fun a0 => κ (.tv .bool a0)) := by
  rw [f101.p0_e0_pre]
  unfold f101.p0_e0
  rfl
theorem f101.p0_r_pre {R : Type} (L N : Nat) (κ : AV → Option R) (z4 : Bool) :
    (contAt (E101 L N) (evCallI (E101 L N) 1 2000) 1000 101 27 0 (codeOf Try.f101) (finK (E101 L N) 1000 Try.f101 (finC (.one .bool) κ))) .ret (f101.T0_r z4) (f101.H0_r z4)
    = f101.p0_r' L N (fun a0 => κ (.tv .bool a0)) z4 := by kernel_rfl
theorem f101.p0_r_eq {R : Type} (L N : Nat) (κ : AV → Option R) (z4 : Bool) :
    (contAt (E101 L N) (evCallI (E101 L N) 1 2000) 1000 101 27 0 (codeOf Try.f101) (finK (E101 L N) 1000 Try.f101 (finC (.one .bool) κ))) .ret (f101.T0_r z4) (f101.H0_r z4)
    = f101.p0_r L N (fun a0 => κ (.tv .bool a0)) z4 := by
  rw [f101.p0_r_pre]
  unfold f101.p0_r
  rfl
theorem f101.b_pre {R : Type} (L N : Nat) (κ : AV → Option R) (x0 : LM) (x1 : LM) :
    evBody (E101 L N) (evCallI (E101 L N) 1 2000) 1000 101 Try.f101 [(.tv (.sl (.st 0)) x0), (.tv (.sl (.st 0)) x1)] [] [] (finC (.one .bool) κ)
    = f101.b' L N (fun a0 => κ (.tv .bool a0)) (fun s0 s1 s2 => evLp (E101 L N) (evCallI (E101 L N) 1 2000) 1000 101 27 0 f101.c0 (contAt (E101 L N) (evCallI (E101 L N) 1 2000) 1000 101 27 0 (codeOf Try.f101) (finK (E101 L N) 1000 Try.f101 (finC (.one .bool) κ))) L (f101.T0 s0 s1 s2) (f101.H0 s0 s1 s2)) x0 x1 := by kernel_rfl
theorem f101.b_eq {R : Type} (L N : Nat) (κ : AV → Option R) (x0 : LM) (x1 : LM) :
    evBody (E101 L N) (evCallI (E101 L N) 1 2000) 1000 101 Try.f101 [(.tv (.sl (.st 0)) x0), (.tv (.sl (.st 0)) x1)] [] [] (finC (.one .bool) κ)
    = f101.b L N (fun a0 => κ (.tv .bool a0)) x0 x1 := by
  rw [f101.b_pre]
  unfold f101.b
  simp only [f101.l0_eq, f101.p0_e0_eq, f101.p0_r_eq]
theorem f101.s0'_nat {R R' : Type} (j : R → Option R') (L N : Nat) (k0_e0 : Option R) (k0_r : Bool → Option R) (rec0 : LM → LM → Int → Option R) (s0 : LM) (s1 : LM) (s2 : Int) :
    f101.s0' L N (k0_e0.bind j) (fun a0 => (k0_r a0).bind j) (fun a0 a1 a2 => (rec0 a0 a1 a2).bind j) s0 s1 s2 = (f101.s0' L N k0_e0 k0_r rec0 s0 s1 s2).bind j := by
  unfold f101.s0'
  repeat' (first | (with_reducible refine cond_nat ?_ ?_) | (with_reducible refine bind_nat fun _ => ?_) | rfl)
theorem f101.s0_nat {R R' : Type} (j : R → Option R') (L N : Nat) (k0_e0 : Option R) (k0_r : Bool → Option R) (rec0 : LM → LM → Int → Option R) (s0 : LM) (s1 : LM) (s2 : Int) :
    f101.s0 L N (k0_e0.bind j) (fun a0 => (k0_r a0).bind j) (fun a0 a1 a2 => (rec0 a0 a1 a2).bind j) s0 s1 s2 = (f101.s0 L N k0_e0 k0_r rec0 s0 s1 s2).bind j := by
  unfold f101.s0
  exact f101.s0'_nat ..
theorem f101.l0_nat {R R' : Type} (j : R → Option R') (L N : Nat) (k0_e0 : Option R) (k0_r : Bool → Option R) : ∀ (n : Nat) (s0 : LM) (s1 : LM) (s2 : Int),
    f101.l0 L N (k0_e0.bind j) (fun a0 => (k0_r a0).bind j) n s0 s1 s2 = (f101.l0 L N k0_e0 k0_r n s0 s1 s2).bind j := by
  intro n
  induction n with
  | zero => intros; rfl
  | succ n ih =>
    intro s0 s1 s2
    show f101.s0 L N (k0_e0.bind j) (fun a0 => (k0_r a0).bind j) (f101.l0 L N (k0_e0.bind j) (fun a0 => (k0_r a0).bind j) n) s0 s1 s2 = _
    rw [show f101.l0 L N (k0_e0.bind j) (fun a0 => (k0_r a0).bind j) n = (fun s0 s1 s2 => (f101.l0 L N k0_e0 k0_r n s0 s1 s2).bind j) from funext fun s0 => funext fun s1 => funext fun s2 => ih s0 s1 s2]
    exact f101.s0_nat ..
theorem f101.p0_e0'_nat {R R' : Type} (j : R → Option R') (L N : Nat) (k : Bool → Option R) :
    f101.p0_e0' L N (fun a0 => (k a0).bind j) = (f101.p0_e0' L N k).bind j := by
  unfold f101.p0_e0'
  repeat' (first | (with_reducible refine cond_nat ?_ ?_) | (with_reducible refine bind_nat fun _ => ?_) | rfl)
theorem f101.p0_e0_nat {R R' : Type} (j : R → Option R') (L N : Nat) (k : Bool → Option R) :
    f101.p0_e0 L N (fun a0 => (k a0).bind j) = (f101.p0_e0 L N k).bind j := by
  unfold f101.p0_e0
  exact f101.p0_e0'_nat ..
theorem f101.p0_r'_nat {R R' : Type} (j : R → Option R') (L N : Nat) (k : Bool → Option R) (z4 : Bool) :
    f101.p0_r' L N (fun a0 => (k a0).bind j) z4 = (f101.p0_r' L N k z4).bind j := by
  unfold f101.p0_r'
  repeat' (first | (with_reducible refine cond_nat ?_ ?_) | (with_reducible refine bind_nat fun _ => ?_) | rfl)
theorem f101.p0_r_nat {R R' : Type} (j : R → Option R') (L N : Nat) (k : Bool → Option R) (z4 : Bool) :
    f101.p0_r L N (fun a0 => (k a0).bind j) z4 = (f101.p0_r L N k z4).bind j := by
  unfold f101.p0_r
  exact f101.p0_r'_nat ..
theorem f101.b'_nat {R R' : Type} (j : R → Option R') (L N : Nat) (k : Bool → Option R) (w0 : LM → LM → Int → Option R) (x0 : LM) (x1 : LM) :
    f101.b' L N (fun a0 => (k a0).bind j) (fun a0 a1 a2 => (w0 a0 a1 a2).bind j) x0 x1 = (f101.b' L N k w0 x0 x1).bind j := by
  unfold f101.b'
  repeat' (first | (with_reducible refine cond_nat ?_ ?_) | (with_reducible refine bind_nat fun _ => ?_) | rfl)
theorem f101.b_nat {R R' : Type} (j : R → Option R') (L N : Nat) (k : Bool → Option R) (x0 : LM) (x1 : LM) :
    f101.b L N (fun a0 => (k a0).bind j) x0 x1 = (f101.b L N k x0 x1).bind j := by
  unfold f101.b
  simp only [f101.l0_nat, f101.p0_e0_nat, f101.p0_r_nat]
  exact f101.b'_nat ..
theorem f101.ok (L N : Nat) (hΦ : TellsOk Try.prog ((Φ129 L N))) : EntOk Try.prog 101 (f101.ent L N) := by
  intro args vw site h
  unfold f101.ent
  split
  · rename_i d ha
    intro y hy hs
    refine call_ro (dep := 1000) (E := (E101 L N)) (rs := (.one .bool)) (v := (.tv .bool y)) (sound_of hΦ) okP (callI_sound (sound_of hΦ) okP 1 2000) (f := Try.f101) rfl hs ha ?_ rfl site
    refine (f101.b_eq L N some d.1 d.2.1).trans ?_
    refine ((f101.b_nat (fun y => (some (.tv .bool y) : Option AV)) L N some d.1 d.2.1)).trans ?_
    rw [show f101.b L N some d.1 d.2.1 = some y from hy]
    rfl
  · intro y hy
    cases hy
def Φ101 (L N : Nat) : Tells := (addT (Φ129 L N) 101 (f101.ent L N))
theorem Φ101_ok (L N : Nat) : TellsOk Try.prog (Φ101 L N) := addT_ok (Φ129_ok L N) (f101.ok L N (Φ129_ok L N))
def f64.s0' {R : Type} (L N : Nat) (k0_e0 : Option R) (k0_r : Bool → Option R) (rec0 : LLM → LLM → Int → Option R) (s0 : LLM) (s1 : LLM) (s2 : Int) : Option R :=
  bif (decide (s2 < (s0.length : Int))) then
    bif (decide (0 ≤ s2) && decide (s2 < (s0.length : Int))) then
      bif (decide (0 ≤ s2) && decide (s2 < (s1.length : Int))) then
        (f101 L N (listAt s0 [] s2.toNat) (listAt s1 [] s2.toNat)).bind fun y3 =>
        bif (!y3) then
          k0_r false
        else rec0 s0 s1 (wi (s2 + (1 : Int)))
      else none
    else none
  else k0_e0
def f64.s0 {R : Type} (L N : Nat) (k0_e0 : Option R) (k0_r : Bool → Option R) (rec0 : LLM → LLM → Int → Option R) (s0 : LLM) (s1 : LLM) (s2 : Int) : Option R :=
  f64.s0' L N k0_e0 k0_r rec0 s0 s1 s2
def f64.l0 {R : Type} (L N : Nat) (k0_e0 : Option R) (k0_r : Bool → Option R) : Nat → LLM → LLM → Int → Option R
  | 0, _, _, _ => none
  | n + 1, s0, s1, s2 => f64.s0 L N k0_e0 k0_r (f64.l0 L N k0_e0 k0_r n) s0 s1 s2
def f64.T0 (s0 : LLM) (s1 : LLM) (s2 : Int) : T := mkT 27 [(0, (.tv (.sl (.sl (.st 0))) s0)), (1, (.tv (.sl (.sl (.st 0))) s1)), (5, (.tv i64 s2))]
def f64.H0 (s0 : LLM) (s1 : LLM) (s2 : Int) : H := []
def f64.T0_e0 : T := mkT 27 []
def f64.H0_e0 : H := []
def f64.T0_r (z4 : Bool) : T := mkT 27 [(4, (.tv .bool z4))]
def f64.H0_r (z4 : Bool) : H := []
def f64.p0_e0' {R : Type} (L N : Nat) (k : Bool → Option R) : Option R :=
  k true
def f64.p0_e0 {R : Type} (L N : Nat) (k : Bool → Option R) : Option R :=
  f64.p0_e0' L N k
def f64.p0_r' {R : Type} (L N : Nat) (k : Bool → Option R) (z4 : Bool) : Option R :=
  k z4
def f64.p0_r {R : Type} (L N : Nat) (k : Bool → Option R) (z4 : Bool) : Option R :=
  f64.p0_r' L N k z4
def f64.b' {R : Type} (L N : Nat) (k : Bool → Option R) (w0 : LLM → LLM → Int → Option R) (x0 : LLM) (x1 : LLM) : Option R :=
  bif ((x0.length : Int) != (x1.length : Int)) then
    k false
  else w0 x0 x1 (0 : Int)
def f64.b {R : Type} (L N : Nat) (k : Bool → Option R) (x0 : LLM) (x1 : LLM) : Option R :=
  f64.b' L N k (fun s0 s1 s2 => f64.l0 L N (f64.p0_e0 L N k) (fun z4 => f64.p0_r L N k z4) L s0 s1 s2) x0 x1
def f64 (L N : Nat) (x0 : LLM) (x1 : LLM) : Option (Bool) := f64.b L N some x0 x1
def f64.ent (L N : Nat) (args : List AV) (vw : View) (site : Nat) : Ans := match roD [(.sl (.sl (.st 0))), (.sl (.sl (.st 0)))] vw args with
  | some d => ⟨Bool, f64 L N d.1 d.2.1, fun y => ((.tv .bool y), [], [])⟩
  | none => Ans.no
noncomputable def E64 (L N : Nat) : Env := { P := Try.prog, ty := tyOf, Φ := (Φ101 L N), inl := inlT, live := lives, liveX := livesX, L := L, dp := none, prom := promT, heal := healT, ren := renT }
noncomputable def f64.c0 : Code := loopAt 0 (codeOf Try.f64)
theorem f64.s0_pre {R : Type} (L N : Nat) (κ : Ex → T → H → Option R) (rec : T → H → Option R) (s0 : LLM) (s1 : LLM) (s2 : Int) :
    evRd (E64 L N) (evCallI (E64 L N) 1 2000) 1000 64 27 0 f64.c0 κ rec (f64.T0 s0 s1 s2) (f64.H0 s0 s1 s2)
    = f64.s0' L N (κ (.exit 0) f64.T0_e0 f64.H0_e0) (fun z4 => κ .ret (f64.T0_r z4) (f64.H0_r z4)) (fun s0 s1 s2 => rec (f64.T0 s0 s1 s2) (f64.H0 s0 s1 s2)) s0 s1 s2 := by kernel_rfl
theorem f64.s0_eq {R : Type} (L N : Nat) (κ : Ex → T → H → Option R) (rec : T → H → Option R) (s0 : LLM) (s1 : LLM) (s2 : Int) :
    evRd (E64 L N) (evCallI (E64 L N) 1 2000) 1000 64 27 0 f64.c0 κ rec (f64.T0 s0 s1 s2) (f64.H0 s0 s1 s2)
    = f64.s0 L N (κ (.exit 0) f64.T0_e0 f64.H0_e0) (fun z4 => κ .ret (f64.T0_r z4) (f64.H0_r z4)) (fun s0 s1 s2 => rec (f64.T0 s0 s1 s2) (f64.H0 s0 s1 s2)) s0 s1 s2 := by
  rw [f64.s0_pre]
  unfold f64.s0
  rfl
theorem f64.l0_eq {R : Type} (L N : Nat) (κ : Ex → T → H → Option R) : ∀ (n : Nat) (s0 : LLM) (s1 : LLM) (s2 : Int),
    evLp (E64 L N) (evCallI (E64 L N) 1 2000) 1000 64 27 0 f64.c0 κ n (f64.T0 s0 s1 s2) (f64.H0 s0 s1 s2)
    = f64.l0 L N (κ (.exit 0) f64.T0_e0 f64.H0_e0) (fun z4 => κ .ret (f64.T0_r z4) (f64.H0_r z4)) n s0 s1 s2 := by
  intro n
  induction n with
  | zero => intros; rfl
  | succ n ih =>
    intro s0 s1 s2
    rw [evLp_succ, f64.s0_eq]
    simp only [ih]
    rfl
theorem f64.p0_e0_pre {R : Type} (L N : Nat) (κ : AV → Option R) :
    (contAt (E64 L N) (evCallI (E64 L N) 1 2000) 1000 64 27 0 (codeOf Try.f64) (finK (E64 L N) 1000 Try.f64 (finC (.one .bool) κ))) (.exit 0) f64.T0_e0 f64.H0_e0
    = f64.p0_e0' L N (fun a0 => κ (.tv .bool a0)) := by kernel_rfl
theorem f64.p0_e0_eq {R : Type} (L N : Nat) (κ : AV → Option R) :
    (contAt (E64 L N) (evCallI (E64 L N) 1 2000) 1000 64 27 0 (codeOf Try.f64) (finK (E64 L N) 1000 Try.f64 (finC (.one .bool) κ))) (.exit 0) f64.T0_e0 f64.H0_e0
    = f64.p0_e0 L N (fun a0 => κ (.tv .bool a0)) := by
  rw [f64.p0_e0_pre]
  unfold f64.p0_e0
  rfl
theorem f64.p0_r_pre {R : Type} (L N : Nat) (κ : AV → Option R) (z4 : Bool) :
    (contAt (E64 L N) (evCallI (E64 L N) 1 2000) 1000 64 27 0 (codeOf Try.f64) (finK (E64 L N) 1000 Try.f64 (finC (.one .bool) κ))) .ret (f64.T0_r z4) (f64.H0_r z4)
    = f64.p0_r' L N (fun a0 => κ (.tv .bool a0)) z4 := by kernel_rfl
theorem f64.p0_r_eq {R : Type} (L N : Nat) (κ : AV → Option R) (z4 : Bool) :
    (contAt (E64 L N) (evCallI (E64 L N) 1 2000) 1000 64 27 0 (codeOf Try.f64) (finK (E64 L N) 1000 Try.f64 (finC (.one .bool) κ))) .ret (f64.T0_r z4) (f64.H0_r z4)
    = f64.p0_r L N (fun a0 => κ (.tv .bool a0)) z4 := by
  rw [f64.p0_r_pre]
  unfold f64.p0_r
  rfl
theorem f64.b_pre {R : Type} (L N : Nat) (κ : AV → Option R) (x0 : LLM) (x1 : LLM) :
    evBody (E64 L N) (evCallI (E64 L N) 1 2000) 1000 64 Try.f64 [(.tv (.sl (.sl (.st 0))) x0), (.tv (.sl (.sl (.st 0))) x1)] [] [] (finC (.one .bool) κ)
    = f64.b' L N (fun a0 => κ (.tv .bool a0)) (fun s0 s1 s2 => evLp (E64 L N) (evCallI (E64 L N) 1 2000) 1000 64 27 0 f64.c0 (contAt (E64 L N) (evCallI (E64 L N) 1 2000) 1000 64 27 0 (codeOf Try.f64) (finK (E64 L N) 1000 Try.f64 (finC (.one .bool) κ))) L (f64.T0 s0 s1 s2) (f64.H0 s0 s1 s2)) x0 x1 := by kernel_rfl
theorem f64.b_eq {R : Type} (L N : Nat) (κ : AV → Option R) (x0 : LLM) (x1 : LLM) :
    evBody (E64 L N) (evCallI (E64 L N) 1 2000) 1000 64 Try.f64 [(.tv (.sl (.sl (.st 0))) x0), (.tv (.sl (.sl (.st 0))) x1)] [] [] (finC (.one .bool) κ)
    = f64.b L N (fun a0 => κ (.tv .bool a0)) x0 x1 := by
  rw [f64.b_pre]
  unfold f64.b
  simp only [f64.l0_eq, f64.p0_e0_eq, f64.p0_r_eq]
theorem f64.s0'_nat {R R' : Type} (j : R → Option R') (L N : Nat) (k0_e0 : Option R) (k0_r : Bool → Option R) (rec0 : LLM → LLM → Int → Option R) (s0 : LLM) (s1 : LLM) (s2 : Int) :
    f64.s0' L N (k0_e0.bind j) (fun a0 => (k0_r a0).bind j) (fun a0 a1 a2 => (rec0 a0 a1 a2).bind j) s0 s1 s2 = (f64.s0' L N k0_e0 k0_r rec0 s0 s1 s2).bind j := by
  unfold f64.s0'
  repeat' (first | (with_reducible refine cond_nat ?_ ?_) | (with_reducible refine bind_nat fun _ => ?_) | rfl)
theorem f64.s0_nat {R R' : Type} (j : R → Option R') (L N : Nat) (k0_e0 : Option R) (k0_r : Bool → Option R) (rec0 : LLM → LLM → Int → Option R) (s0 : LLM) (s1 : LLM) (s2 : Int) :
    f64.s0 L N (k0_e0.bind j) (fun a0 => (k0_r a0).bind j) (fun a0 a1 a2 => (rec0 a0 a1 a2).bind j) s0 s1 s2 = (f64.s0 L N k0_e0 k0_r rec0 s0 s1 s2).bind j := by
  unfold f64.s0
  exact f64.s0'_nat ..
theorem f64.l0_nat {R R' : Type} (j : R → Option R') (L N : Nat) (k0_e0 : Option R) (k0_r : Bool → Option R) : ∀ (n : Nat) (s0 : LLM) (s1 : LLM) (s2 : Int),
    f64.l0 L N (k0_e0.bind j) (fun a0 => (k0_r a0).bind j) n s0 s1 s2 = (f64.l0 L N k0_e0 k0_r n s0 s1 s2).bind j := by
  intro n
  induction n with
  | zero => intros; rfl
  | succ n ih =>
    intro s0 s1 s2
    show f64.s0 L N (k0_e0.bind j) (fun a0 => (k0_r a0).bind j) (f64.l0 L N (k0_e0.bind j) (fun a0 => (k0_r a0).bind j) n) s0 s1 s2 = _
    rw [show f64.l0 L N (k0_e0.bind j) (fun a0 => (k0_r a0).bind j) n = (fun s0 s1 s2 => (f64.l0 L N k0_e0 k0_r n s0 s1 s2).bind j) from funext fun s0 => funext fun s1 => funext fun s2 => ih s0 s1 s2]
    exact f64.s0_nat ..
theorem f64.p0_e0'_nat {R R' : Type} (j : R → Option R') (L N : Nat) (k : Bool → Option R) :
    f64.p0_e0' L N (fun a0 => (k a0).bind j) = (f64.p0_e0' L N k).bind j := by
  unfold f64.p0_e0'
  repeat' (first | (with_reducible refine cond_nat ?_ ?_) | (with_reducible refine bind_nat fun _ => ?_) | rfl)
theorem f64.p0_e0_nat {R R' : Type} (j : R → Option R') (L N : Nat) (k : Bool → Option R) :
    f64.p0_e0 L N (fun a0 => (k a0).bind j) = (f64.p0_e0 L N k).bind j := by
  unfold f64.p0_e0
  exact f64.p0_e0'_nat ..
theorem f64.p0_r'_nat {R R' : Type} (j : R → Option R') (L N : Nat) (k : Bool → Option R) (z4 : Bool) :
    f64.p0_r' L N (fun a0 => (k a0).bind j) z4 = (f64.p0_r' L N k z4).bind j := by
  unfold f64.p0_r'
  repeat' (first | (with_reducible refine cond_nat ?_ ?_) | (with_reducible refine bind_nat fun _ => ?_) | rfl)
theorem f64.p0_r_nat {R R' : Type} (j : R → Option R') (L N : Nat) (k : Bool → Option R) (z4 : Bool) :
    f64.p0_r L N (fun a0 => (k a0).bind j) z4 = (f64.p0_r L N k z4).bind j := by
  unfold f64.p0_r
  exact f64.p0_r'_nat ..
theorem f64.b'_nat {R R' : Type} (j : R → Option R') (L N : Nat) (k : Bool → Option R) (w0 : LLM → LLM → Int → Option R) (x0 : LLM) (x1 : LLM) :
    f64.b' L N (fun a0 => (k a0).bind j) (fun a0 a1 a2 => (w0 a0 a1 a2).bind j) x0 x1 = (f64.b' L N k w0 x0 x1).bind j := by
  unfold f64.b'
  repeat' (first | (with_reducible refine cond_nat ?_ ?_) | (with_reducible refine bind_nat fun _ => ?_) | rfl)
theorem f64.b_nat {R R' : Type} (j : R → Option R') (L N : Nat) (k : Bool → Option R) (x0 : LLM) (x1 : LLM) :
    f64.b L N (fun a0 => (k a0).bind j) x0 x1 = (f64.b L N k x0 x1).bind j := by
  unfold f64.b
  simp only [f64.l0_nat, f64.p0_e0_nat, f64.p0_r_nat]
  exact f64.b'_nat ..
theorem f64.ok (L N : Nat) (hΦ : TellsOk Try.prog ((Φ101 L N))) : EntOk Try.prog 64 (f64.ent L N) := by
  intro args vw site h
  unfold f64.ent
  split
  · rename_i d ha
    intro y hy hs
    refine call_ro (dep := 1000) (E := (E64 L N)) (rs := (.one .bool)) (v := (.tv .bool y)) (sound_of hΦ) okP (callI_sound (sound_of hΦ) okP 1 2000) (f := Try.f64) rfl hs ha ?_ rfl site
    refine (f64.b_eq L N some d.1 d.2.1).trans ?_
    refine ((f64.b_nat (fun y => (some (.tv .bool y) : Option AV)) L N some d.1 d.2.1)).trans ?_
    rw [show f64.b L N some d.1 d.2.1 = some y from hy]
    rfl
  · intro y hy
    cases hy
def Φ64 (L N : Nat) : Tells := (addT (Φ101 L N) 64 (f64.ent L N))
theorem Φ64_ok (L N : Nat) : TellsOk Try.prog (Φ64 L N) := addT_ok (Φ101_ok L N) (f64.ok L N (Φ101_ok L N))
def f22.b' {R : Type} (L N : Nat) (k : Bool → Option R) (x0 : Graph) (x1 : Graph) : Option R :=
  (f64 L N x0.moves x1.moves).bind fun y0 =>
  bif (!y0) then
    k false
  else k true
def f22.b {R : Type} (L N : Nat) (k : Bool → Option R) (x0 : Graph) (x1 : Graph) : Option R :=
  f22.b' L N k x0 x1
def f22 (L N : Nat) (x0 : Graph) (x1 : Graph) : Option (Bool) := f22.b L N some x0 x1
def f22.ent (L N : Nat) (args : List AV) (vw : View) (site : Nat) : Ans := match roD [(.st 2), (.st 2)] vw args with
  | some d => ⟨Bool, f22 L N d.1 d.2.1, fun y => ((.tv .bool y), [], [])⟩
  | none => Ans.no
noncomputable def E22 (L N : Nat) : Env := { P := Try.prog, ty := tyOf, Φ := (Φ64 L N), inl := inlT, live := lives, liveX := livesX, L := L, dp := none, prom := promT, heal := healT, ren := renT }
theorem f22.b_pre {R : Type} (L N : Nat) (κ : AV → Option R) (x0 : Graph) (x1 : Graph) :
    evBody (E22 L N) (evCallI (E22 L N) 1 2000) 1000 22 Try.f22 [(.tv (.st 2) x0), (.tv (.st 2) x1)] [] [] (finC (.one .bool) κ)
    = f22.b' L N (fun a0 => κ (.tv .bool a0)) x0 x1 := by kernel_rfl
theorem f22.b_eq {R : Type} (L N : Nat) (κ : AV → Option R) (x0 : Graph) (x1 : Graph) :
    evBody (E22 L N) (evCallI (E22 L N) 1 2000) 1000 22 Try.f22 [(.tv (.st 2) x0), (.tv (.st 2) x1)] [] [] (finC (.one .bool) κ)
    = f22.b L N (fun a0 => κ (.tv .bool a0)) x0 x1 := by
  rw [f22.b_pre]
  unfold f22.b
  rfl
theorem f22.b'_nat {R R' : Type} (j : R → Option R') (L N : Nat) (k : Bool → Option R) (x0 : Graph) (x1 : Graph) :
    f22.b' L N (fun a0 => (k a0).bind j) x0 x1 = (f22.b' L N k x0 x1).bind j := by
  unfold f22.b'
  repeat' (first | (with_reducible refine cond_nat ?_ ?_) | (with_reducible refine bind_nat fun _ => ?_) | rfl)
theorem f22.b_nat {R R' : Type} (j : R → Option R') (L N : Nat) (k : Bool → Option R) (x0 : Graph) (x1 : Graph) :
    f22.b L N (fun a0 => (k a0).bind j) x0 x1 = (f22.b L N k x0 x1).bind j := by
  unfold f22.b
  exact f22.b'_nat ..
theorem f22.ok (L N : Nat) (hΦ : TellsOk Try.prog ((Φ64 L N))) : EntOk Try.prog 22 (f22.ent L N) := by
  intro args vw site h
  unfold f22.ent
  split
  · rename_i d ha
    intro y hy hs
    refine call_ro (dep := 1000) (E := (E22 L N)) (rs := (.one .bool)) (v := (.tv .bool y)) (sound_of hΦ) okP (callI_sound (sound_of hΦ) okP 1 2000) (f := Try.f22) rfl hs ha ?_ rfl site
    refine (f22.b_eq L N some d.1 d.2.1).trans ?_
    refine ((f22.b_nat (fun y => (some (.tv .bool y) : Option AV)) L N some d.1 d.2.1)).trans ?_
    rw [show f22.b L N some d.1 d.2.1 = some y from hy]
    rfl
  · intro y hy
    cases hy
def Φ22 (L N : Nat) : Tells := (addT (Φ64 L N) 22 (f22.ent L N))
theorem Φ22_ok (L N : Nat) : TellsOk Try.prog (Φ22 L N) := addT_ok (Φ64_ok L N) (f22.ok L N (Φ64_ok L N))
def f26.s0' {R : Type} (L N : Nat) (n0 : Nat) (k0_e0 : Int → LI → Option R) (rec0 : Int → Int → LI → Option R) (s0 : Int) (s1 : Int) (s2 : LI) : Option R :=
  bif (decide (s1 < (s2.length : Int))) then
    bif (decide (0 ≤ s1) && decide (s1 < (s2.length : Int))) then
      rec0 (wi (s0 + (1 : Int))) (wi (s1 + (1 : Int))) (s2.set s1.toNat s0)
    else none
  else k0_e0 s0 s2
def f26.s0 {R : Type} (L N : Nat) (n0 : Nat) (k0_e0 : Int → LI → Option R) (rec0 : Int → Int → LI → Option R) (s0 : Int) (s1 : Int) (s2 : LI) : Option R :=
  f26.s0' L N n0 k0_e0 rec0 s0 s1 s2
def f26.l0 {R : Type} (L N : Nat) (n0 : Nat) (k0_e0 : Int → LI → Option R) : Nat → Int → Int → LI → Option R
  | 0, _, _, _ => none
  | n + 1, s0, s1, s2 => f26.s0 L N n0 k0_e0 (f26.l0 L N n0 k0_e0 n) s0 s1 s2
def f26.T0 (s0 : Int) (s1 : Int) (s2 : LI) : T := mkT 19 [(0, (.row 0)), (1, (.tv i64 s0)), (5, (.tv i64 s1))] ++ [.row 0]
def f26.H0 (s0 : Int) (s1 : Int) (s2 : LI) : H := [(0, (.row 3 i64 s2))]
def f26.T0_e0 (z3 : Int) (z4 : LI) : T := mkT 19 [(1, (.tv i64 z3))] ++ [.row 0]
def f26.H0_e0 (z3 : Int) (z4 : LI) : H := [(0, (.row 3 i64 z4))]
def f26.p0_e0' {R : Type} (L N : Nat) (n0 : Nat) (k : Int → LI → Option R) (z3 : Int) (z4 : LI) : Option R :=
  bif (Nat.beq z4.length n0) then
    k z3 z4
  else none
def f26.p0_e0 {R : Type} (L N : Nat) (n0 : Nat) (k : Int → LI → Option R) (z3 : Int) (z4 : LI) : Option R :=
  f26.p0_e0' L N n0 k z3 z4
def f26.b' {R : Type} (L N : Nat) (n0 : Nat) (k : Int → LI → Option R) (w0 : Int → Int → LI → Option R) (oo : List Int) (x0 : Int) : Option R :=
  w0 x0 (0 : Int) oo
def f26.b {R : Type} (L N : Nat) (n0 : Nat) (k : Int → LI → Option R) (oo : List Int) (x0 : Int) : Option R :=
  f26.b' L N n0 k (fun s0 s1 s2 => f26.l0 L N n0 (fun z3 z4 => f26.p0_e0 L N n0 k z3 z4) L s0 s1 s2) oo x0
def f26 (L N : Nat) (oo : List Int) (x0 : Int) : Option (Int × LI) := f26.b L N oo.length (fun a0 a1 => some (a0, a1)) oo x0
def f26.ent (L N : Nat) (args : List AV) (vw : View) (site : Nat) : Ans := match ownD none 3 i64 [i64] vw args with
  | some (o, xs, d, u) => ⟨Int × LI, f26 L N xs d.1, fun y => ((.tv i64 y.1), u ++ [(o, some (mkO none 3 i64 y.2))], [])⟩
  | none => Ans.no
noncomputable def E26 (L N : Nat) : Env := { P := Try.prog, ty := tyOf, Φ := (Φ22 L N), inl := inlT, live := lives, liveX := livesX, L := L, dp := none, prom := promT, heal := healT, ren := renT }
noncomputable def f26.c0 : Code := loopAt 0 (codeOf Try.f26)
theorem f26.s0_pre {R : Type} (L N n0 : Nat) (κ : Ex → T → H → Option R) (rec : T → H → Option R) (s0 : Int) (s1 : Int) (s2 : LI) :
    evRd (E26 L N) (evCallI (E26 L N) 1 2000) 1000 26 19 0 f26.c0 κ rec (f26.T0 s0 s1 s2) (f26.H0 s0 s1 s2)
    = f26.s0' L N n0 (fun z3 z4 => κ (.exit 0) (f26.T0_e0 z3 z4) (f26.H0_e0 z3 z4)) (fun s0 s1 s2 => rec (f26.T0 s0 s1 s2) (f26.H0 s0 s1 s2)) s0 s1 s2 := by kernel_rfl
theorem f26.s0_eq {R : Type} (L N n0 : Nat) (κ : Ex → T → H → Option R) (rec : T → H → Option R) (s0 : Int) (s1 : Int) (s2 : LI) :
    evRd (E26 L N) (evCallI (E26 L N) 1 2000) 1000 26 19 0 f26.c0 κ rec (f26.T0 s0 s1 s2) (f26.H0 s0 s1 s2)
    = f26.s0 L N n0 (fun z3 z4 => κ (.exit 0) (f26.T0_e0 z3 z4) (f26.H0_e0 z3 z4)) (fun s0 s1 s2 => rec (f26.T0 s0 s1 s2) (f26.H0 s0 s1 s2)) s0 s1 s2 := by
  rw [f26.s0_pre L N n0]
  unfold f26.s0
  rfl
theorem f26.l0_eq {R : Type} (L N n0 : Nat) (κ : Ex → T → H → Option R) : ∀ (n : Nat) (s0 : Int) (s1 : Int) (s2 : LI),
    evLp (E26 L N) (evCallI (E26 L N) 1 2000) 1000 26 19 0 f26.c0 κ n (f26.T0 s0 s1 s2) (f26.H0 s0 s1 s2)
    = f26.l0 L N n0 (fun z3 z4 => κ (.exit 0) (f26.T0_e0 z3 z4) (f26.H0_e0 z3 z4)) n s0 s1 s2 := by
  intro n
  induction n with
  | zero => intros; rfl
  | succ n ih =>
    intro s0 s1 s2
    rw [evLp_succ, f26.s0_eq L N n0]
    simp only [ih]
    rfl
theorem f26.p0_e0_pre {R : Type} (L N n0 : Nat) (κ : AV → List Int → Option R) (z3 : Int) (z4 : LI) :
    (contAt (E26 L N) (evCallI (E26 L N) 1 2000) 1000 26 19 0 (codeOf Try.f26) (finK (E26 L N) 1000 Try.f26 (finO (.one i64) none 3 i64 n0 κ))) (.exit 0) (f26.T0_e0 z3 z4) (f26.H0_e0 z3 z4)
    = f26.p0_e0' L N n0 (fun a0 a1 => κ (.tv i64 a0) a1) z3 z4 := by kernel_rfl
theorem f26.p0_e0_eq {R : Type} (L N n0 : Nat) (κ : AV → List Int → Option R) (z3 : Int) (z4 : LI) :
    (contAt (E26 L N) (evCallI (E26 L N) 1 2000) 1000 26 19 0 (codeOf Try.f26) (finK (E26 L N) 1000 Try.f26 (finO (.one i64) none 3 i64 n0 κ))) (.exit 0) (f26.T0_e0 z3 z4) (f26.H0_e0 z3 z4)
    = f26.p0_e0 L N n0 (fun a0 a1 => κ (.tv i64 a0) a1) z3 z4 := by
  rw [f26.p0_e0_pre L N n0]
  unfold f26.p0_e0
  rfl
theorem f26.b_pre {R : Type} (L N n0 : Nat) (κ : AV → List Int → Option R) (oo : List Int) (x0 : Int) :
    evBody (E26 L N) (evCallI (E26 L N) 1 2000) 1000 26 Try.f26 [(.row 0), (.tv i64 x0)] [.row 0] [(0, (.row 3 i64 oo))] (finO (.one i64) none 3 i64 n0 κ)
    = f26.b' L N n0 (fun a0 a1 => κ (.tv i64 a0) a1) (fun s0 s1 s2 => evLp (E26 L N) (evCallI (E26 L N) 1 2000) 1000 26 19 0 f26.c0 (contAt (E26 L N) (evCallI (E26 L N) 1 2000) 1000 26 19 0 (codeOf Try.f26) (finK (E26 L N) 1000 Try.f26 (finO (.one i64) none 3 i64 n0 κ))) L (f26.T0 s0 s1 s2) (f26.H0 s0 s1 s2)) oo x0 := by kernel_rfl
theorem f26.b_eq {R : Type} (L N n0 : Nat) (κ : AV → List Int → Option R) (oo : List Int) (x0 : Int) :
    evBody (E26 L N) (evCallI (E26 L N) 1 2000) 1000 26 Try.f26 [(.row 0), (.tv i64 x0)] [.row 0] [(0, (.row 3 i64 oo))] (finO (.one i64) none 3 i64 n0 κ)
    = f26.b L N n0 (fun a0 a1 => κ (.tv i64 a0) a1) oo x0 := by
  rw [f26.b_pre L N n0]
  unfold f26.b
  simp only [f26.l0_eq L N n0, f26.p0_e0_eq L N n0]
theorem f26.s0'_nat {R R' : Type} (j : R → Option R') (L N : Nat) (n0 : Nat) (k0_e0 : Int → LI → Option R) (rec0 : Int → Int → LI → Option R) (s0 : Int) (s1 : Int) (s2 : LI) :
    f26.s0' L N n0 (fun a0 a1 => (k0_e0 a0 a1).bind j) (fun a0 a1 a2 => (rec0 a0 a1 a2).bind j) s0 s1 s2 = (f26.s0' L N n0 k0_e0 rec0 s0 s1 s2).bind j := by
  unfold f26.s0'
  repeat' (first | (with_reducible refine cond_nat ?_ ?_) | (with_reducible refine bind_nat fun _ => ?_) | rfl)
theorem f26.s0_nat {R R' : Type} (j : R → Option R') (L N : Nat) (n0 : Nat) (k0_e0 : Int → LI → Option R) (rec0 : Int → Int → LI → Option R) (s0 : Int) (s1 : Int) (s2 : LI) :
    f26.s0 L N n0 (fun a0 a1 => (k0_e0 a0 a1).bind j) (fun a0 a1 a2 => (rec0 a0 a1 a2).bind j) s0 s1 s2 = (f26.s0 L N n0 k0_e0 rec0 s0 s1 s2).bind j := by
  unfold f26.s0
  exact f26.s0'_nat ..
theorem f26.l0_nat {R R' : Type} (j : R → Option R') (L N : Nat) (n0 : Nat) (k0_e0 : Int → LI → Option R) : ∀ (n : Nat) (s0 : Int) (s1 : Int) (s2 : LI),
    f26.l0 L N n0 (fun a0 a1 => (k0_e0 a0 a1).bind j) n s0 s1 s2 = (f26.l0 L N n0 k0_e0 n s0 s1 s2).bind j := by
  intro n
  induction n with
  | zero => intros; rfl
  | succ n ih =>
    intro s0 s1 s2
    show f26.s0 L N n0 (fun a0 a1 => (k0_e0 a0 a1).bind j) (f26.l0 L N n0 (fun a0 a1 => (k0_e0 a0 a1).bind j) n) s0 s1 s2 = _
    rw [show f26.l0 L N n0 (fun a0 a1 => (k0_e0 a0 a1).bind j) n = (fun s0 s1 s2 => (f26.l0 L N n0 k0_e0 n s0 s1 s2).bind j) from funext fun s0 => funext fun s1 => funext fun s2 => ih s0 s1 s2]
    exact f26.s0_nat ..
theorem f26.p0_e0'_nat {R R' : Type} (j : R → Option R') (L N : Nat) (n0 : Nat) (k : Int → LI → Option R) (z3 : Int) (z4 : LI) :
    f26.p0_e0' L N n0 (fun a0 a1 => (k a0 a1).bind j) z3 z4 = (f26.p0_e0' L N n0 k z3 z4).bind j := by
  unfold f26.p0_e0'
  repeat' (first | (with_reducible refine cond_nat ?_ ?_) | (with_reducible refine bind_nat fun _ => ?_) | rfl)
theorem f26.p0_e0_nat {R R' : Type} (j : R → Option R') (L N : Nat) (n0 : Nat) (k : Int → LI → Option R) (z3 : Int) (z4 : LI) :
    f26.p0_e0 L N n0 (fun a0 a1 => (k a0 a1).bind j) z3 z4 = (f26.p0_e0 L N n0 k z3 z4).bind j := by
  unfold f26.p0_e0
  exact f26.p0_e0'_nat ..
theorem f26.b'_nat {R R' : Type} (j : R → Option R') (L N : Nat) (n0 : Nat) (k : Int → LI → Option R) (w0 : Int → Int → LI → Option R) (oo : List Int) (x0 : Int) :
    f26.b' L N n0 (fun a0 a1 => (k a0 a1).bind j) (fun a0 a1 a2 => (w0 a0 a1 a2).bind j) oo x0 = (f26.b' L N n0 k w0 oo x0).bind j := by
  unfold f26.b'
  repeat' (first | (with_reducible refine cond_nat ?_ ?_) | (with_reducible refine bind_nat fun _ => ?_) | rfl)
theorem f26.b_nat {R R' : Type} (j : R → Option R') (L N : Nat) (n0 : Nat) (k : Int → LI → Option R) (oo : List Int) (x0 : Int) :
    f26.b L N n0 (fun a0 a1 => (k a0 a1).bind j) oo x0 = (f26.b L N n0 k oo x0).bind j := by
  unfold f26.b
  simp only [f26.l0_nat, f26.p0_e0_nat]
  exact f26.b'_nat ..
theorem f26.ok (L N : Nat) (hΦ : TellsOk Try.prog ((Φ22 L N))) : EntOk Try.prog 26 (f26.ent L N) := by
  intro args vw site h
  unfold f26.ent
  split
  · rename_i o xs d u ha
    intro y hy hs
    obtain ⟨rest, rfl, ho, hr, hu⟩ := ownD_some ha
    refine call_own (dep := 1000) (E := (E26 L N)) (tr := [i64]) (q := none) (el := 3) (ty := i64) (rs := (.one i64)) (v' := (.tv i64 y.1)) (ys := y.2) (sound_of hΦ) okP (callI_sound (sound_of hΦ) okP 1 2000) (f := Try.f26) rfl hs ho hr hu ?_ site
    refine (f26.b_eq L N xs.length (fun v d => some (v, d)) xs d.1).trans ?_
    refine ((f26.b_nat (fun y => (some ((.tv i64 y.1), y.2) : Option (AV × List Int))) L N xs.length (fun a0 a1 => some (a0, a1)) xs d.1)).trans ?_
    rw [show f26.b L N xs.length (fun a0 a1 => some (a0, a1)) xs d.1 = some y from hy]
    rfl
  · intro y hy
    cases hy
def Φ26 (L N : Nat) : Tells := (addT (Φ22 L N) 26 (f26.ent L N))
theorem Φ26_ok (L N : Nat) : TellsOk Try.prog (Φ26 L N) := addT_ok (Φ22_ok L N) (f26.ok L N (Φ22_ok L N))
def f27.s0' {R : Type} (L N : Nat) (k0_e0 : Int → Option R) (k0_r : Int → Int → Option R) (rec0 : LI → Int → Int → Option R) (s0 : LI) (s1 : Int) (s2 : Int) : Option R :=
  bif (decide (s2 < (s0.length : Int))) then
    bif (decide (0 ≤ s2) && decide (s2 < (s0.length : Int))) then
      bif ((listAt s0 (0 : Int) s2.toNat) != s1) then
        k0_r s1 (-1 : Int)
      else rec0 s0 (wi (s1 + (1 : Int))) (wi (s2 + (1 : Int)))
    else none
  else k0_e0 s1
def f27.s0 {R : Type} (L N : Nat) (k0_e0 : Int → Option R) (k0_r : Int → Int → Option R) (rec0 : LI → Int → Int → Option R) (s0 : LI) (s1 : Int) (s2 : Int) : Option R :=
  f27.s0' L N k0_e0 k0_r rec0 s0 s1 s2
def f27.l0 {R : Type} (L N : Nat) (k0_e0 : Int → Option R) (k0_r : Int → Int → Option R) : Nat → LI → Int → Int → Option R
  | 0, _, _, _ => none
  | n + 1, s0, s1, s2 => f27.s0 L N k0_e0 k0_r (f27.l0 L N k0_e0 k0_r n) s0 s1 s2
def f27.T0 (s0 : LI) (s1 : Int) (s2 : Int) : T := mkT 21 [(0, (.tv (.sl i64) s0)), (1, (.tv i64 s1)), (5, (.tv i64 s2))]
def f27.H0 (s0 : LI) (s1 : Int) (s2 : Int) : H := []
def f27.T0_e0 (z3 : Int) : T := mkT 21 [(1, (.tv i64 z3))]
def f27.H0_e0 (z3 : Int) : H := []
def f27.T0_r (z4 : Int) (z5 : Int) : T := mkT 21 [(1, (.tv i64 z4)), (4, (.tv i64 z5))]
def f27.H0_r (z4 : Int) (z5 : Int) : H := []
def f27.p0_e0' {R : Type} (L N : Nat) (k : Int → Option R) (z3 : Int) : Option R :=
  k z3
def f27.p0_e0 {R : Type} (L N : Nat) (k : Int → Option R) (z3 : Int) : Option R :=
  f27.p0_e0' L N k z3
def f27.p0_r' {R : Type} (L N : Nat) (k : Int → Option R) (z4 : Int) (z5 : Int) : Option R :=
  k z5
def f27.p0_r {R : Type} (L N : Nat) (k : Int → Option R) (z4 : Int) (z5 : Int) : Option R :=
  f27.p0_r' L N k z4 z5
def f27.b' {R : Type} (L N : Nat) (k : Int → Option R) (w0 : LI → Int → Int → Option R) (x0 : LI) (x1 : Int) : Option R :=
  w0 x0 x1 (0 : Int)
def f27.b {R : Type} (L N : Nat) (k : Int → Option R) (x0 : LI) (x1 : Int) : Option R :=
  f27.b' L N k (fun s0 s1 s2 => f27.l0 L N (fun z3 => f27.p0_e0 L N k z3) (fun z4 z5 => f27.p0_r L N k z4 z5) L s0 s1 s2) x0 x1
def f27 (L N : Nat) (x0 : LI) (x1 : Int) : Option (Int) := f27.b L N some x0 x1
def f27.ent (L N : Nat) (args : List AV) (vw : View) (site : Nat) : Ans := match roD [(.sl i64), i64] vw args with
  | some d => ⟨Int, f27 L N d.1 d.2.1, fun y => ((.tv i64 y), [], [])⟩
  | none => Ans.no
noncomputable def E27 (L N : Nat) : Env := { P := Try.prog, ty := tyOf, Φ := (Φ26 L N), inl := inlT, live := lives, liveX := livesX, L := L, dp := none, prom := promT, heal := healT, ren := renT }
noncomputable def f27.c0 : Code := loopAt 0 (codeOf Try.f27)
theorem f27.s0_pre {R : Type} (L N : Nat) (κ : Ex → T → H → Option R) (rec : T → H → Option R) (s0 : LI) (s1 : Int) (s2 : Int) :
    evRd (E27 L N) (evCallI (E27 L N) 1 2000) 1000 27 21 0 f27.c0 κ rec (f27.T0 s0 s1 s2) (f27.H0 s0 s1 s2)
    = f27.s0' L N (fun z3 => κ (.exit 0) (f27.T0_e0 z3) (f27.H0_e0 z3)) (fun z4 z5 => κ .ret (f27.T0_r z4 z5) (f27.H0_r z4 z5)) (fun s0 s1 s2 => rec (f27.T0 s0 s1 s2) (f27.H0 s0 s1 s2)) s0 s1 s2 := by kernel_rfl
theorem f27.s0_eq {R : Type} (L N : Nat) (κ : Ex → T → H → Option R) (rec : T → H → Option R) (s0 : LI) (s1 : Int) (s2 : Int) :
    evRd (E27 L N) (evCallI (E27 L N) 1 2000) 1000 27 21 0 f27.c0 κ rec (f27.T0 s0 s1 s2) (f27.H0 s0 s1 s2)
    = f27.s0 L N (fun z3 => κ (.exit 0) (f27.T0_e0 z3) (f27.H0_e0 z3)) (fun z4 z5 => κ .ret (f27.T0_r z4 z5) (f27.H0_r z4 z5)) (fun s0 s1 s2 => rec (f27.T0 s0 s1 s2) (f27.H0 s0 s1 s2)) s0 s1 s2 := by
  rw [f27.s0_pre]
  unfold f27.s0
  rfl
theorem f27.l0_eq {R : Type} (L N : Nat) (κ : Ex → T → H → Option R) : ∀ (n : Nat) (s0 : LI) (s1 : Int) (s2 : Int),
    evLp (E27 L N) (evCallI (E27 L N) 1 2000) 1000 27 21 0 f27.c0 κ n (f27.T0 s0 s1 s2) (f27.H0 s0 s1 s2)
    = f27.l0 L N (fun z3 => κ (.exit 0) (f27.T0_e0 z3) (f27.H0_e0 z3)) (fun z4 z5 => κ .ret (f27.T0_r z4 z5) (f27.H0_r z4 z5)) n s0 s1 s2 := by
  intro n
  induction n with
  | zero => intros; rfl
  | succ n ih =>
    intro s0 s1 s2
    rw [evLp_succ, f27.s0_eq]
    simp only [ih]
    rfl
theorem f27.p0_e0_pre {R : Type} (L N : Nat) (κ : AV → Option R) (z3 : Int) :
    (contAt (E27 L N) (evCallI (E27 L N) 1 2000) 1000 27 21 0 (codeOf Try.f27) (finK (E27 L N) 1000 Try.f27 (finC (.one i64) κ))) (.exit 0) (f27.T0_e0 z3) (f27.H0_e0 z3)
    = f27.p0_e0' L N (fun a0 => κ (.tv i64 a0)) z3 := by kernel_rfl
theorem f27.p0_e0_eq {R : Type} (L N : Nat) (κ : AV → Option R) (z3 : Int) :
    (contAt (E27 L N) (evCallI (E27 L N) 1 2000) 1000 27 21 0 (codeOf Try.f27) (finK (E27 L N) 1000 Try.f27 (finC (.one i64) κ))) (.exit 0) (f27.T0_e0 z3) (f27.H0_e0 z3)
    = f27.p0_e0 L N (fun a0 => κ (.tv i64 a0)) z3 := by
  rw [f27.p0_e0_pre]
  unfold f27.p0_e0
  rfl
theorem f27.p0_r_pre {R : Type} (L N : Nat) (κ : AV → Option R) (z4 : Int) (z5 : Int) :
    (contAt (E27 L N) (evCallI (E27 L N) 1 2000) 1000 27 21 0 (codeOf Try.f27) (finK (E27 L N) 1000 Try.f27 (finC (.one i64) κ))) .ret (f27.T0_r z4 z5) (f27.H0_r z4 z5)
    = f27.p0_r' L N (fun a0 => κ (.tv i64 a0)) z4 z5 := by kernel_rfl
theorem f27.p0_r_eq {R : Type} (L N : Nat) (κ : AV → Option R) (z4 : Int) (z5 : Int) :
    (contAt (E27 L N) (evCallI (E27 L N) 1 2000) 1000 27 21 0 (codeOf Try.f27) (finK (E27 L N) 1000 Try.f27 (finC (.one i64) κ))) .ret (f27.T0_r z4 z5) (f27.H0_r z4 z5)
    = f27.p0_r L N (fun a0 => κ (.tv i64 a0)) z4 z5 := by
  rw [f27.p0_r_pre]
  unfold f27.p0_r
  rfl
theorem f27.b_pre {R : Type} (L N : Nat) (κ : AV → Option R) (x0 : LI) (x1 : Int) :
    evBody (E27 L N) (evCallI (E27 L N) 1 2000) 1000 27 Try.f27 [(.tv (.sl i64) x0), (.tv i64 x1)] [] [] (finC (.one i64) κ)
    = f27.b' L N (fun a0 => κ (.tv i64 a0)) (fun s0 s1 s2 => evLp (E27 L N) (evCallI (E27 L N) 1 2000) 1000 27 21 0 f27.c0 (contAt (E27 L N) (evCallI (E27 L N) 1 2000) 1000 27 21 0 (codeOf Try.f27) (finK (E27 L N) 1000 Try.f27 (finC (.one i64) κ))) L (f27.T0 s0 s1 s2) (f27.H0 s0 s1 s2)) x0 x1 := by kernel_rfl
theorem f27.b_eq {R : Type} (L N : Nat) (κ : AV → Option R) (x0 : LI) (x1 : Int) :
    evBody (E27 L N) (evCallI (E27 L N) 1 2000) 1000 27 Try.f27 [(.tv (.sl i64) x0), (.tv i64 x1)] [] [] (finC (.one i64) κ)
    = f27.b L N (fun a0 => κ (.tv i64 a0)) x0 x1 := by
  rw [f27.b_pre]
  unfold f27.b
  simp only [f27.l0_eq, f27.p0_e0_eq, f27.p0_r_eq]
theorem f27.s0'_nat {R R' : Type} (j : R → Option R') (L N : Nat) (k0_e0 : Int → Option R) (k0_r : Int → Int → Option R) (rec0 : LI → Int → Int → Option R) (s0 : LI) (s1 : Int) (s2 : Int) :
    f27.s0' L N (fun a0 => (k0_e0 a0).bind j) (fun a0 a1 => (k0_r a0 a1).bind j) (fun a0 a1 a2 => (rec0 a0 a1 a2).bind j) s0 s1 s2 = (f27.s0' L N k0_e0 k0_r rec0 s0 s1 s2).bind j := by
  unfold f27.s0'
  repeat' (first | (with_reducible refine cond_nat ?_ ?_) | (with_reducible refine bind_nat fun _ => ?_) | rfl)
theorem f27.s0_nat {R R' : Type} (j : R → Option R') (L N : Nat) (k0_e0 : Int → Option R) (k0_r : Int → Int → Option R) (rec0 : LI → Int → Int → Option R) (s0 : LI) (s1 : Int) (s2 : Int) :
    f27.s0 L N (fun a0 => (k0_e0 a0).bind j) (fun a0 a1 => (k0_r a0 a1).bind j) (fun a0 a1 a2 => (rec0 a0 a1 a2).bind j) s0 s1 s2 = (f27.s0 L N k0_e0 k0_r rec0 s0 s1 s2).bind j := by
  unfold f27.s0
  exact f27.s0'_nat ..
theorem f27.l0_nat {R R' : Type} (j : R → Option R') (L N : Nat) (k0_e0 : Int → Option R) (k0_r : Int → Int → Option R) : ∀ (n : Nat) (s0 : LI) (s1 : Int) (s2 : Int),
    f27.l0 L N (fun a0 => (k0_e0 a0).bind j) (fun a0 a1 => (k0_r a0 a1).bind j) n s0 s1 s2 = (f27.l0 L N k0_e0 k0_r n s0 s1 s2).bind j := by
  intro n
  induction n with
  | zero => intros; rfl
  | succ n ih =>
    intro s0 s1 s2
    show f27.s0 L N (fun a0 => (k0_e0 a0).bind j) (fun a0 a1 => (k0_r a0 a1).bind j) (f27.l0 L N (fun a0 => (k0_e0 a0).bind j) (fun a0 a1 => (k0_r a0 a1).bind j) n) s0 s1 s2 = _
    rw [show f27.l0 L N (fun a0 => (k0_e0 a0).bind j) (fun a0 a1 => (k0_r a0 a1).bind j) n = (fun s0 s1 s2 => (f27.l0 L N k0_e0 k0_r n s0 s1 s2).bind j) from funext fun s0 => funext fun s1 => funext fun s2 => ih s0 s1 s2]
    exact f27.s0_nat ..
theorem f27.p0_e0'_nat {R R' : Type} (j : R → Option R') (L N : Nat) (k : Int → Option R) (z3 : Int) :
    f27.p0_e0' L N (fun a0 => (k a0).bind j) z3 = (f27.p0_e0' L N k z3).bind j := by
  unfold f27.p0_e0'
  repeat' (first | (with_reducible refine cond_nat ?_ ?_) | (with_reducible refine bind_nat fun _ => ?_) | rfl)
theorem f27.p0_e0_nat {R R' : Type} (j : R → Option R') (L N : Nat) (k : Int → Option R) (z3 : Int) :
    f27.p0_e0 L N (fun a0 => (k a0).bind j) z3 = (f27.p0_e0 L N k z3).bind j := by
  unfold f27.p0_e0
  exact f27.p0_e0'_nat ..
theorem f27.p0_r'_nat {R R' : Type} (j : R → Option R') (L N : Nat) (k : Int → Option R) (z4 : Int) (z5 : Int) :
    f27.p0_r' L N (fun a0 => (k a0).bind j) z4 z5 = (f27.p0_r' L N k z4 z5).bind j := by
  unfold f27.p0_r'
  repeat' (first | (with_reducible refine cond_nat ?_ ?_) | (with_reducible refine bind_nat fun _ => ?_) | rfl)
theorem f27.p0_r_nat {R R' : Type} (j : R → Option R') (L N : Nat) (k : Int → Option R) (z4 : Int) (z5 : Int) :
    f27.p0_r L N (fun a0 => (k a0).bind j) z4 z5 = (f27.p0_r L N k z4 z5).bind j := by
  unfold f27.p0_r
  exact f27.p0_r'_nat ..
theorem f27.b'_nat {R R' : Type} (j : R → Option R') (L N : Nat) (k : Int → Option R) (w0 : LI → Int → Int → Option R) (x0 : LI) (x1 : Int) :
    f27.b' L N (fun a0 => (k a0).bind j) (fun a0 a1 a2 => (w0 a0 a1 a2).bind j) x0 x1 = (f27.b' L N k w0 x0 x1).bind j := by
  unfold f27.b'
  repeat' (first | (with_reducible refine cond_nat ?_ ?_) | (with_reducible refine bind_nat fun _ => ?_) | rfl)
theorem f27.b_nat {R R' : Type} (j : R → Option R') (L N : Nat) (k : Int → Option R) (x0 : LI) (x1 : Int) :
    f27.b L N (fun a0 => (k a0).bind j) x0 x1 = (f27.b L N k x0 x1).bind j := by
  unfold f27.b
  simp only [f27.l0_nat, f27.p0_e0_nat, f27.p0_r_nat]
  exact f27.b'_nat ..
theorem f27.ok (L N : Nat) (hΦ : TellsOk Try.prog ((Φ26 L N))) : EntOk Try.prog 27 (f27.ent L N) := by
  intro args vw site h
  unfold f27.ent
  split
  · rename_i d ha
    intro y hy hs
    refine call_ro (dep := 1000) (E := (E27 L N)) (rs := (.one i64)) (v := (.tv i64 y)) (sound_of hΦ) okP (callI_sound (sound_of hΦ) okP 1 2000) (f := Try.f27) rfl hs ha ?_ rfl site
    refine (f27.b_eq L N some d.1 d.2.1).trans ?_
    refine ((f27.b_nat (fun y => (some (.tv i64 y) : Option AV)) L N some d.1 d.2.1)).trans ?_
    rw [show f27.b L N some d.1 d.2.1 = some y from hy]
    rfl
  · intro y hy
    cases hy
def Φ27 (L N : Nat) : Tells := (addT (Φ26 L N) 27 (f27.ent L N))
theorem Φ27_ok (L N : Nat) : TellsOk Try.prog (Φ27 L N) := addT_ok (Φ26_ok L N) (f27.ok L N (Φ26_ok L N))
def f96.b' {R : Type} (L N : Nat) (k : Bool → Option R) (x0 : Int) (x1 : Int) (x2 : Int) : Option R :=
  bif (decide (x0 ≥ x1)) then
    k (decide (x0 ≤ x2))
  else k false
def f96.b {R : Type} (L N : Nat) (k : Bool → Option R) (x0 : Int) (x1 : Int) (x2 : Int) : Option R :=
  f96.b' L N k x0 x1 x2
def f96 (L N : Nat) (x0 : Int) (x1 : Int) (x2 : Int) : Option (Bool) := f96.b L N some x0 x1 x2
def f96.ent (L N : Nat) (args : List AV) (vw : View) (site : Nat) : Ans := match roD [i64, i64, i64] vw args with
  | some d => ⟨Bool, f96 L N d.1 d.2.1 d.2.2.1, fun y => ((.tv .bool y), [], [])⟩
  | none => Ans.no
noncomputable def E96 (L N : Nat) : Env := { P := Try.prog, ty := tyOf, Φ := (Φ27 L N), inl := inlT, live := lives, liveX := livesX, L := L, dp := none, prom := promT, heal := healT, ren := renT }
theorem f96.b_pre {R : Type} (L N : Nat) (κ : AV → Option R) (x0 : Int) (x1 : Int) (x2 : Int) :
    evBody (E96 L N) (evCallI (E96 L N) 1 2000) 1000 96 Try.f96 [(.tv i64 x0), (.tv i64 x1), (.tv i64 x2)] [] [] (finC (.one .bool) κ)
    = f96.b' L N (fun a0 => κ (.tv .bool a0)) x0 x1 x2 := by kernel_rfl
theorem f96.b_eq {R : Type} (L N : Nat) (κ : AV → Option R) (x0 : Int) (x1 : Int) (x2 : Int) :
    evBody (E96 L N) (evCallI (E96 L N) 1 2000) 1000 96 Try.f96 [(.tv i64 x0), (.tv i64 x1), (.tv i64 x2)] [] [] (finC (.one .bool) κ)
    = f96.b L N (fun a0 => κ (.tv .bool a0)) x0 x1 x2 := by
  rw [f96.b_pre]
  unfold f96.b
  rfl
theorem f96.b'_nat {R R' : Type} (j : R → Option R') (L N : Nat) (k : Bool → Option R) (x0 : Int) (x1 : Int) (x2 : Int) :
    f96.b' L N (fun a0 => (k a0).bind j) x0 x1 x2 = (f96.b' L N k x0 x1 x2).bind j := by
  unfold f96.b'
  repeat' (first | (with_reducible refine cond_nat ?_ ?_) | (with_reducible refine bind_nat fun _ => ?_) | rfl)
theorem f96.b_nat {R R' : Type} (j : R → Option R') (L N : Nat) (k : Bool → Option R) (x0 : Int) (x1 : Int) (x2 : Int) :
    f96.b L N (fun a0 => (k a0).bind j) x0 x1 x2 = (f96.b L N k x0 x1 x2).bind j := by
  unfold f96.b
  exact f96.b'_nat ..
theorem f96.ok (L N : Nat) (hΦ : TellsOk Try.prog ((Φ27 L N))) : EntOk Try.prog 96 (f96.ent L N) := by
  intro args vw site h
  unfold f96.ent
  split
  · rename_i d ha
    intro y hy hs
    refine call_ro (dep := 1000) (E := (E96 L N)) (rs := (.one .bool)) (v := (.tv .bool y)) (sound_of hΦ) okP (callI_sound (sound_of hΦ) okP 1 2000) (f := Try.f96) rfl hs ha ?_ rfl site
    refine (f96.b_eq L N some d.1 d.2.1 d.2.2.1).trans ?_
    refine ((f96.b_nat (fun y => (some (.tv .bool y) : Option AV)) L N some d.1 d.2.1 d.2.2.1)).trans ?_
    rw [show f96.b L N some d.1 d.2.1 d.2.2.1 = some y from hy]
    rfl
  · intro y hy
    cases hy
def Φ96 (L N : Nat) : Tells := (addT (Φ27 L N) 96 (f96.ent L N))
theorem Φ96_ok (L N : Nat) : TellsOk Try.prog (Φ96 L N) := addT_ok (Φ27_ok L N) (f96.ok L N (Φ27_ok L N))
def f97.b' {R : Type} (L N : Nat) (k : Bool → Option R) (x0 : Int) : Option R :=
  (f96 L N x0 (-4 : Int) (4 : Int)).bind fun y0 =>
  k y0
def f97.b {R : Type} (L N : Nat) (k : Bool → Option R) (x0 : Int) : Option R :=
  f97.b' L N k x0
def f97 (L N : Nat) (x0 : Int) : Option (Bool) := f97.b L N some x0
def f97.ent (L N : Nat) (args : List AV) (vw : View) (site : Nat) : Ans := match roD [i64] vw args with
  | some d => ⟨Bool, f97 L N d.1, fun y => ((.tv .bool y), [], [])⟩
  | none => Ans.no
noncomputable def E97 (L N : Nat) : Env := { P := Try.prog, ty := tyOf, Φ := (Φ96 L N), inl := inlT, live := lives, liveX := livesX, L := L, dp := none, prom := promT, heal := healT, ren := renT }
theorem f97.b_pre {R : Type} (L N : Nat) (κ : AV → Option R) (x0 : Int) :
    evBody (E97 L N) (evCallI (E97 L N) 1 2000) 1000 97 Try.f97 [(.tv i64 x0)] [] [] (finC (.one .bool) κ)
    = f97.b' L N (fun a0 => κ (.tv .bool a0)) x0 := by kernel_rfl
theorem f97.b_eq {R : Type} (L N : Nat) (κ : AV → Option R) (x0 : Int) :
    evBody (E97 L N) (evCallI (E97 L N) 1 2000) 1000 97 Try.f97 [(.tv i64 x0)] [] [] (finC (.one .bool) κ)
    = f97.b L N (fun a0 => κ (.tv .bool a0)) x0 := by
  rw [f97.b_pre]
  unfold f97.b
  rfl
theorem f97.b'_nat {R R' : Type} (j : R → Option R') (L N : Nat) (k : Bool → Option R) (x0 : Int) :
    f97.b' L N (fun a0 => (k a0).bind j) x0 = (f97.b' L N k x0).bind j := by
  unfold f97.b'
  repeat' (first | (with_reducible refine cond_nat ?_ ?_) | (with_reducible refine bind_nat fun _ => ?_) | rfl)
theorem f97.b_nat {R R' : Type} (j : R → Option R') (L N : Nat) (k : Bool → Option R) (x0 : Int) :
    f97.b L N (fun a0 => (k a0).bind j) x0 = (f97.b L N k x0).bind j := by
  unfold f97.b
  exact f97.b'_nat ..
theorem f97.ok (L N : Nat) (hΦ : TellsOk Try.prog ((Φ96 L N))) : EntOk Try.prog 97 (f97.ent L N) := by
  intro args vw site h
  unfold f97.ent
  split
  · rename_i d ha
    intro y hy hs
    refine call_ro (dep := 1000) (E := (E97 L N)) (rs := (.one .bool)) (v := (.tv .bool y)) (sound_of hΦ) okP (callI_sound (sound_of hΦ) okP 1 2000) (f := Try.f97) rfl hs ha ?_ rfl site
    refine (f97.b_eq L N some d.1).trans ?_
    refine ((f97.b_nat (fun y => (some (.tv .bool y) : Option AV)) L N some d.1)).trans ?_
    rw [show f97.b L N some d.1 = some y from hy]
    rfl
  · intro y hy
    cases hy
def Φ97 (L N : Nat) : Tells := (addT (Φ96 L N) 97 (f97.ent L N))
theorem Φ97_ok (L N : Nat) : TellsOk Try.prog (Φ97 L N) := addT_ok (Φ96_ok L N) (f97.ok L N (Φ96_ok L N))
def f98.b' {R : Type} (L N : Nat) (k : Bool → Option R) (x0 : Move) (x1 : Move) : Option R :=
  bif (decide (x0.act < x1.act)) then
    k true
  else bif (x0.act == x1.act) then
    k (decide (x0.to < x1.to))
  else k false
def f98.b {R : Type} (L N : Nat) (k : Bool → Option R) (x0 : Move) (x1 : Move) : Option R :=
  f98.b' L N k x0 x1
def f98 (L N : Nat) (x0 : Move) (x1 : Move) : Option (Bool) := f98.b L N some x0 x1
def f98.ent (L N : Nat) (args : List AV) (vw : View) (site : Nat) : Ans := match roD [(.st 0), (.st 0)] vw args with
  | some d => ⟨Bool, f98 L N d.1 d.2.1, fun y => ((.tv .bool y), [], [])⟩
  | none => Ans.no
noncomputable def E98 (L N : Nat) : Env := { P := Try.prog, ty := tyOf, Φ := (Φ97 L N), inl := inlT, live := lives, liveX := livesX, L := L, dp := none, prom := promT, heal := healT, ren := renT }
theorem f98.b_pre {R : Type} (L N : Nat) (κ : AV → Option R) (x0 : Move) (x1 : Move) :
    evBody (E98 L N) (evCallI (E98 L N) 1 2000) 1000 98 Try.f98 [(.tv (.st 0) x0), (.tv (.st 0) x1)] [] [] (finC (.one .bool) κ)
    = f98.b' L N (fun a0 => κ (.tv .bool a0)) x0 x1 := by kernel_rfl
theorem f98.b_eq {R : Type} (L N : Nat) (κ : AV → Option R) (x0 : Move) (x1 : Move) :
    evBody (E98 L N) (evCallI (E98 L N) 1 2000) 1000 98 Try.f98 [(.tv (.st 0) x0), (.tv (.st 0) x1)] [] [] (finC (.one .bool) κ)
    = f98.b L N (fun a0 => κ (.tv .bool a0)) x0 x1 := by
  rw [f98.b_pre]
  unfold f98.b
  rfl
theorem f98.b'_nat {R R' : Type} (j : R → Option R') (L N : Nat) (k : Bool → Option R) (x0 : Move) (x1 : Move) :
    f98.b' L N (fun a0 => (k a0).bind j) x0 x1 = (f98.b' L N k x0 x1).bind j := by
  unfold f98.b'
  repeat' (first | (with_reducible refine cond_nat ?_ ?_) | (with_reducible refine bind_nat fun _ => ?_) | rfl)
theorem f98.b_nat {R R' : Type} (j : R → Option R') (L N : Nat) (k : Bool → Option R) (x0 : Move) (x1 : Move) :
    f98.b L N (fun a0 => (k a0).bind j) x0 x1 = (f98.b L N k x0 x1).bind j := by
  unfold f98.b
  exact f98.b'_nat ..
theorem f98.ok (L N : Nat) (hΦ : TellsOk Try.prog ((Φ97 L N))) : EntOk Try.prog 98 (f98.ent L N) := by
  intro args vw site h
  unfold f98.ent
  split
  · rename_i d ha
    intro y hy hs
    refine call_ro (dep := 1000) (E := (E98 L N)) (rs := (.one .bool)) (v := (.tv .bool y)) (sound_of hΦ) okP (callI_sound (sound_of hΦ) okP 1 2000) (f := Try.f98) rfl hs ha ?_ rfl site
    refine (f98.b_eq L N some d.1 d.2.1).trans ?_
    refine ((f98.b_nat (fun y => (some (.tv .bool y) : Option AV)) L N some d.1 d.2.1)).trans ?_
    rw [show f98.b L N some d.1 d.2.1 = some y from hy]
    rfl
  · intro y hy
    cases hy
def Φ98 (L N : Nat) : Tells := (addT (Φ97 L N) 98 (f98.ent L N))
theorem Φ98_ok (L N : Nat) : TellsOk Try.prog (Φ98 L N) := addT_ok (Φ97_ok L N) (f98.ok L N (Φ97_ok L N))
def f58.s1' {R : Type} (L N : Nat) (k1_e2 : Int → LLM → Option R) (k1_r : Bool → Int → LLM → Option R) (rec1 : Int → Int → LLM → Option R) (s3 : Int) (s4 : Int) (s5 : LLM) : Option R :=
  bif (decide (0 ≤ s3) && decide (s3 < (s5.length : Int))) then
    bif (decide (s4 < ((listAt s5 [] s3.toNat).length : Int))) then
      bif (decide (0 ≤ s3) && decide (s3 < (s5.length : Int))) then
        bif (decide (0 ≤ s4) && decide (s4 < ((listAt s5 [] s3.toNat).length : Int))) then
          (f97 L N ((listAt (listAt s5 [] s3.toNat) (Ty.dflt (.st 0)) s4.toNat).act)).bind fun y8 =>
          bif (!y8) then
            k1_r false s3 s5
          else (f96 L N ((listAt (listAt s5 [] s3.toNat) (Ty.dflt (.st 0)) s4.toNat).to) (0 : Int) (wi ((s5.length : Int) - (1 : Int)))).bind fun y9 =>
          bif (!y9) then
            k1_r false s3 s5
          else bif (decide (s4 > (0 : Int))) then
            bif (decide (0 ≤ s3) && decide (s3 < (s5.length : Int))) then
              bif (decide (0 ≤ (wi (s4 - (1 : Int)))) && decide ((wi (s4 - (1 : Int))) < ((listAt s5 [] s3.toNat).length : Int))) then
                (f98 L N (listAt (listAt s5 [] s3.toNat) (Ty.dflt (.st 0)) (wi (s4 - (1 : Int))).toNat) (Move.mk ((listAt (listAt s5 [] s3.toNat) (Ty.dflt (.st 0)) s4.toNat).act) ((listAt (listAt s5 [] s3.toNat) (Ty.dflt (.st 0)) s4.toNat).to))).bind fun y10 =>
                bif (!y10) then
                  k1_r false s3 s5
                else rec1 s3 (wi (s4 + (1 : Int))) s5
              else none
            else none
          else rec1 s3 (wi (s4 + (1 : Int))) s5
        else none
      else none
    else k1_e2 s3 s5
  else none
def f58.s1 {R : Type} (L N : Nat) (k1_e2 : Int → LLM → Option R) (k1_r : Bool → Int → LLM → Option R) (rec1 : Int → Int → LLM → Option R) (s3 : Int) (s4 : Int) (s5 : LLM) : Option R :=
  f58.s1' L N k1_e2 k1_r rec1 s3 s4 s5
def f58.l1 {R : Type} (L N : Nat) (k1_e2 : Int → LLM → Option R) (k1_r : Bool → Int → LLM → Option R) : Nat → Int → Int → LLM → Option R
  | 0, _, _, _ => none
  | n + 1, s3, s4, s5 => f58.s1 L N k1_e2 k1_r (f58.l1 L N k1_e2 k1_r n) s3 s4 s5
def f58.T1 (s3 : Int) (s4 : Int) (s5 : LLM) : T := mkT 68 [(1, (.ptr 1001 0)), (3, (.tv i64 s3)), (4, (.tv i64 s4))]
def f58.H1 (s3 : Int) (s4 : Int) (s5 : LLM) : H := [(1001, (.box [(.tv (.sl (.sl (.st 0))) s5)]))]
def f58.T1_e2 (z6 : Int) (z7 : LLM) : T := mkT 68 [(1, (.ptr 1001 0)), (3, (.tv i64 z6))]
def f58.H1_e2 (z6 : Int) (z7 : LLM) : H := [(1001, (.box [(.tv (.sl (.sl (.st 0))) z7)]))]
def f58.T1_r (z15 : Bool) (z16 : Int) (z17 : LLM) : T := mkT 68 [(1, (.ptr 1001 0)), (2, (.tv .bool z15)), (3, (.tv i64 z16))]
def f58.H1_r (z15 : Bool) (z16 : Int) (z17 : LLM) : H := [(1001, (.box [(.tv (.sl (.sl (.st 0))) z17)]))]
def f58.p1_e2' {R : Type} (L N : Nat) (k0_e0 : Option R) (k0_r : Bool → Option R) (rec0 : Int → LLM → Option R) (z6 : Int) (z7 : LLM) : Option R :=
  rec0 (wi (z6 + (1 : Int))) z7
def f58.p1_e2 {R : Type} (L N : Nat) (k0_e0 : Option R) (k0_r : Bool → Option R) (rec0 : Int → LLM → Option R) (z6 : Int) (z7 : LLM) : Option R :=
  f58.p1_e2' L N k0_e0 k0_r rec0 z6 z7
def f58.p1_r' {R : Type} (L N : Nat) (k0_e0 : Option R) (k0_r : Bool → Option R) (rec0 : Int → LLM → Option R) (z15 : Bool) (z16 : Int) (z17 : LLM) : Option R :=
  k0_r z15
def f58.p1_r {R : Type} (L N : Nat) (k0_e0 : Option R) (k0_r : Bool → Option R) (rec0 : Int → LLM → Option R) (z15 : Bool) (z16 : Int) (z17 : LLM) : Option R :=
  f58.p1_r' L N k0_e0 k0_r rec0 z15 z16 z17
def f58.s0' {R : Type} (L N : Nat) (k0_e0 : Option R) (k0_r : Bool → Option R) (rec0 : Int → LLM → Option R) (w1 : Int → Int → LLM → Option R) (s1 : Int) (s2 : LLM) : Option R :=
  bif (decide (s1 < (s2.length : Int))) then
    w1 s1 (0 : Int) s2
  else k0_e0
def f58.s0 {R : Type} (L N : Nat) (k0_e0 : Option R) (k0_r : Bool → Option R) (rec0 : Int → LLM → Option R) (s1 : Int) (s2 : LLM) : Option R :=
  f58.s0' L N k0_e0 k0_r rec0 (fun s3 s4 s5 => f58.l1 L N (fun z6 z7 => f58.p1_e2 L N k0_e0 k0_r rec0 z6 z7) (fun z15 z16 z17 => f58.p1_r L N k0_e0 k0_r rec0 z15 z16 z17) L s3 s4 s5) s1 s2
def f58.l0 {R : Type} (L N : Nat) (k0_e0 : Option R) (k0_r : Bool → Option R) : Nat → Int → LLM → Option R
  | 0, _, _ => none
  | n + 1, s1, s2 => f58.s0 L N k0_e0 k0_r (f58.l0 L N k0_e0 k0_r n) s1 s2
def f58.T0 (s1 : Int) (s2 : LLM) : T := mkT 68 [(1, (.ptr 1001 0)), (3, (.tv i64 s1))]
def f58.H0 (s1 : Int) (s2 : LLM) : H := [(1001, (.box [(.tv (.sl (.sl (.st 0))) s2)]))]
def f58.T0_e0 : T := mkT 68 []
def f58.H0_e0 : H := []
def f58.T0_r (z21 : Bool) : T := mkT 68 [(2, (.tv .bool z21))]
def f58.H0_r (z21 : Bool) : H := []
def f58.p0_e0' {R : Type} (L N : Nat) (k : Bool → Option R) : Option R :=
  k true
def f58.p0_e0 {R : Type} (L N : Nat) (k : Bool → Option R) : Option R :=
  f58.p0_e0' L N k
def f58.p0_r' {R : Type} (L N : Nat) (k : Bool → Option R) (z21 : Bool) : Option R :=
  k z21
def f58.p0_r {R : Type} (L N : Nat) (k : Bool → Option R) (z21 : Bool) : Option R :=
  f58.p0_r' L N k z21
def f58.b' {R : Type} (L N : Nat) (k : Bool → Option R) (w0 : Int → LLM → Option R) (x0 : Graph) : Option R :=
  (f96 L N (x0.moves.length : Int) (1 : Int) (60 : Int)).bind fun y0 =>
  bif (!y0) then
    k false
  else w0 (0 : Int) x0.moves
def f58.b {R : Type} (L N : Nat) (k : Bool → Option R) (x0 : Graph) : Option R :=
  f58.b' L N k (fun s1 s2 => f58.l0 L N (f58.p0_e0 L N k) (fun z21 => f58.p0_r L N k z21) L s1 s2) x0
def f58 (L N : Nat) (x0 : Graph) : Option (Bool) := f58.b L N some x0
def f58.ent (L N : Nat) (args : List AV) (vw : View) (site : Nat) : Ans := match roD [(.st 2)] vw args with
  | some d => ⟨Bool, f58 L N d.1, fun y => ((.tv .bool y), [], [])⟩
  | none => Ans.no
noncomputable def E58 (L N : Nat) : Env := { P := Try.prog, ty := tyOf, Φ := (Φ98 L N), inl := inlT, live := lives, liveX := livesX, L := L, dp := none, prom := promT, heal := healT, ren := renT }
noncomputable def f58.c0 : Code := loopAt 0 (codeOf Try.f58)
noncomputable def f58.c1 : Code := loopAt 2 f58.c0
theorem f58.s1_pre {R : Type} (L N : Nat) (κ : Ex → T → H → Option R) (rec : T → H → Option R) (s3 : Int) (s4 : Int) (s5 : LLM) :
    evRd (E58 L N) (evCallI (E58 L N) 1 2000) 1000 58 68 2 f58.c1 κ rec (f58.T1 s3 s4 s5) (f58.H1 s3 s4 s5)
    = f58.s1' L N (fun z6 z7 => κ (.exit 2) (f58.T1_e2 z6 z7) (f58.H1_e2 z6 z7)) (fun z15 z16 z17 => κ .ret (f58.T1_r z15 z16 z17) (f58.H1_r z15 z16 z17)) (fun s3 s4 s5 => rec (f58.T1 s3 s4 s5) (f58.H1 s3 s4 s5)) s3 s4 s5 := by kernel_rfl
theorem f58.s1_eq {R : Type} (L N : Nat) (κ : Ex → T → H → Option R) (rec : T → H → Option R) (s3 : Int) (s4 : Int) (s5 : LLM) :
    evRd (E58 L N) (evCallI (E58 L N) 1 2000) 1000 58 68 2 f58.c1 κ rec (f58.T1 s3 s4 s5) (f58.H1 s3 s4 s5)
    = f58.s1 L N (fun z6 z7 => κ (.exit 2) (f58.T1_e2 z6 z7) (f58.H1_e2 z6 z7)) (fun z15 z16 z17 => κ .ret (f58.T1_r z15 z16 z17) (f58.H1_r z15 z16 z17)) (fun s3 s4 s5 => rec (f58.T1 s3 s4 s5) (f58.H1 s3 s4 s5)) s3 s4 s5 := by
  rw [f58.s1_pre]
  unfold f58.s1
  rfl
theorem f58.l1_eq {R : Type} (L N : Nat) (κ : Ex → T → H → Option R) : ∀ (n : Nat) (s3 : Int) (s4 : Int) (s5 : LLM),
    evLp (E58 L N) (evCallI (E58 L N) 1 2000) 1000 58 68 2 f58.c1 κ n (f58.T1 s3 s4 s5) (f58.H1 s3 s4 s5)
    = f58.l1 L N (fun z6 z7 => κ (.exit 2) (f58.T1_e2 z6 z7) (f58.H1_e2 z6 z7)) (fun z15 z16 z17 => κ .ret (f58.T1_r z15 z16 z17) (f58.H1_r z15 z16 z17)) n s3 s4 s5 := by
  intro n
  induction n with
  | zero => intros; rfl
  | succ n ih =>
    intro s3 s4 s5
    rw [evLp_succ, f58.s1_eq]
    simp only [ih]
    rfl
theorem f58.p1_e2_pre {R : Type} (L N : Nat) (κ : Ex → T → H → Option R) (rec : T → H → Option R) (z6 : Int) (z7 : LLM) :
    (contAt (E58 L N) (evCallI (E58 L N) 1 2000) 1000 58 68 2 f58.c0 (stepK (outK (keepT 68 ((E58 L N).liveX 58 0).1) (keepH 1000 ((E58 L N).liveX 58 0).2) κ) fun t h => rec (backK 1000 68 ((E58 L N).live 58 0).1 ((E58 L N).live 58 0).2 ((E58 L N).heal 58 0) ((E58 L N).ren 58 0) t h).1 (backK 1000 68 ((E58 L N).live 58 0).1 ((E58 L N).live 58 0).2 ((E58 L N).heal 58 0) ((E58 L N).ren 58 0) t h).2)) (.exit 2) (f58.T1_e2 z6 z7) (f58.H1_e2 z6 z7)
    = f58.p1_e2' L N (κ (.exit 0) f58.T0_e0 f58.H0_e0) (fun z21 => κ .ret (f58.T0_r z21) (f58.H0_r z21)) (fun s1 s2 => rec (f58.T0 s1 s2) (f58.H0 s1 s2)) z6 z7 := by kernel_rfl
theorem f58.p1_e2_eq {R : Type} (L N : Nat) (κ : Ex → T → H → Option R) (rec : T → H → Option R) (z6 : Int) (z7 : LLM) :
    (contAt (E58 L N) (evCallI (E58 L N) 1 2000) 1000 58 68 2 f58.c0 (stepK (outK (keepT 68 ((E58 L N).liveX 58 0).1) (keepH 1000 ((E58 L N).liveX 58 0).2) κ) fun t h => rec (backK 1000 68 ((E58 L N).live 58 0).1 ((E58 L N).live 58 0).2 ((E58 L N).heal 58 0) ((E58 L N).ren 58 0) t h).1 (backK 1000 68 ((E58 L N).live 58 0).1 ((E58 L N).live 58 0).2 ((E58 L N).heal 58 0) ((E58 L N).ren 58 0) t h).2)) (.exit 2) (f58.T1_e2 z6 z7) (f58.H1_e2 z6 z7)
    = f58.p1_e2 L N (κ (.exit 0) f58.T0_e0 f58.H0_e0) (fun z21 => κ .ret (f58.T0_r z21) (f58.H0_r z21)) (fun s1 s2 => rec (f58.T0 s1 s2) (f58.H0 s1 s2)) z6 z7 := by
  rw [f58.p1_e2_pre]
  unfold f58.p1_e2
  rfl
theorem f58.p1_r_pre {R : Type} (L N : Nat) (κ : Ex → T → H → Option R) (rec : T → H → Option R) (z15 : Bool) (z16 : Int) (z17 : LLM) :
    (contAt (E58 L N) (evCallI (E58 L N) 1 2000) 1000 58 68 2 f58.c0 (stepK (outK (keepT 68 ((E58 L N).liveX 58 0).1) (keepH 1000 ((E58 L N).liveX 58 0).2) κ) fun t h => rec (backK 1000 68 ((E58 L N).live 58 0).1 ((E58 L N).live 58 0).2 ((E58 L N).heal 58 0) ((E58 L N).ren 58 0) t h).1 (backK 1000 68 ((E58 L N).live 58 0).1 ((E58 L N).live 58 0).2 ((E58 L N).heal 58 0) ((E58 L N).ren 58 0) t h).2)) .ret (f58.T1_r z15 z16 z17) (f58.H1_r z15 z16 z17)
    = f58.p1_r' L N (κ (.exit 0) f58.T0_e0 f58.H0_e0) (fun z21 => κ .ret (f58.T0_r z21) (f58.H0_r z21)) (fun s1 s2 => rec (f58.T0 s1 s2) (f58.H0 s1 s2)) z15 z16 z17 := by kernel_rfl
theorem f58.p1_r_eq {R : Type} (L N : Nat) (κ : Ex → T → H → Option R) (rec : T → H → Option R) (z15 : Bool) (z16 : Int) (z17 : LLM) :
    (contAt (E58 L N) (evCallI (E58 L N) 1 2000) 1000 58 68 2 f58.c0 (stepK (outK (keepT 68 ((E58 L N).liveX 58 0).1) (keepH 1000 ((E58 L N).liveX 58 0).2) κ) fun t h => rec (backK 1000 68 ((E58 L N).live 58 0).1 ((E58 L N).live 58 0).2 ((E58 L N).heal 58 0) ((E58 L N).ren 58 0) t h).1 (backK 1000 68 ((E58 L N).live 58 0).1 ((E58 L N).live 58 0).2 ((E58 L N).heal 58 0) ((E58 L N).ren 58 0) t h).2)) .ret (f58.T1_r z15 z16 z17) (f58.H1_r z15 z16 z17)
    = f58.p1_r L N (κ (.exit 0) f58.T0_e0 f58.H0_e0) (fun z21 => κ .ret (f58.T0_r z21) (f58.H0_r z21)) (fun s1 s2 => rec (f58.T0 s1 s2) (f58.H0 s1 s2)) z15 z16 z17 := by
  rw [f58.p1_r_pre]
  unfold f58.p1_r
  rfl
theorem f58.s0_pre {R : Type} (L N : Nat) (κ : Ex → T → H → Option R) (rec : T → H → Option R) (s1 : Int) (s2 : LLM) :
    evRd (E58 L N) (evCallI (E58 L N) 1 2000) 1000 58 68 0 f58.c0 κ rec (f58.T0 s1 s2) (f58.H0 s1 s2)
    = f58.s0' L N (κ (.exit 0) f58.T0_e0 f58.H0_e0) (fun z21 => κ .ret (f58.T0_r z21) (f58.H0_r z21)) (fun s1 s2 => rec (f58.T0 s1 s2) (f58.H0 s1 s2)) (fun s3 s4 s5 => evLp (E58 L N) (evCallI (E58 L N) 1 2000) 1000 58 68 2 f58.c1 (contAt (E58 L N) (evCallI (E58 L N) 1 2000) 1000 58 68 2 f58.c0 (stepK (outK (keepT 68 ((E58 L N).liveX 58 0).1) (keepH 1000 ((E58 L N).liveX 58 0).2) κ) fun t h => rec (backK 1000 68 ((E58 L N).live 58 0).1 ((E58 L N).live 58 0).2 ((E58 L N).heal 58 0) ((E58 L N).ren 58 0) t h).1 (backK 1000 68 ((E58 L N).live 58 0).1 ((E58 L N).live 58 0).2 ((E58 L N).heal 58 0) ((E58 L N).ren 58 0) t h).2)) L (f58.T1 s3 s4 s5) (f58.H1 s3 s4 s5)) s1 s2 := by kernel_rfl
theorem f58.s0_eq {R : Type} (L N : Nat) (κ : Ex → T → H → Option R) (rec : T → H → Option R) (s1 : Int) (s2 : LLM) :
    evRd (E58 L N) (evCallI (E58 L N) 1 2000) 1000 58 68 0 f58.c0 κ rec (f58.T0 s1 s2) (f58.H0 s1 s2)
    = f58.s0 L N (κ (.exit 0) f58.T0_e0 f58.H0_e0) (fun z21 => κ .ret (f58.T0_r z21) (f58.H0_r z21)) (fun s1 s2 => rec (f58.T0 s1 s2) (f58.H0 s1 s2)) s1 s2 := by
  rw [f58.s0_pre]
  unfold f58.s0
  simp only [f58.l1_eq, f58.p1_e2_eq, f58.p1_r_eq]
theorem f58.l0_eq {R : Type} (L N : Nat) (κ : Ex → T → H → Option R) : ∀ (n : Nat) (s1 : Int) (s2 : LLM),
    evLp (E58 L N) (evCallI (E58 L N) 1 2000) 1000 58 68 0 f58.c0 κ n (f58.T0 s1 s2) (f58.H0 s1 s2)
    = f58.l0 L N (κ (.exit 0) f58.T0_e0 f58.H0_e0) (fun z21 => κ .ret (f58.T0_r z21) (f58.H0_r z21)) n s1 s2 := by
  intro n
  induction n with
  | zero => intros; rfl
  | succ n ih =>
    intro s1 s2
    rw [evLp_succ, f58.s0_eq]
    simp only [ih]
    rfl
theorem f58.p0_e0_pre {R : Type} (L N : Nat) (κ : AV → Option R) :
    (contAt (E58 L N) (evCallI (E58 L N) 1 2000) 1000 58 68 0 (codeOf Try.f58) (finK (E58 L N) 1000 Try.f58 (finC (.one .bool) κ))) (.exit 0) f58.T0_e0 f58.H0_e0
    = f58.p0_e0' L N (fun a0 => κ (.tv .bool a0)) := by kernel_rfl
theorem f58.p0_e0_eq {R : Type} (L N : Nat) (κ : AV → Option R) :
    (contAt (E58 L N) (evCallI (E58 L N) 1 2000) 1000 58 68 0 (codeOf Try.f58) (finK (E58 L N) 1000 Try.f58 (finC (.one .bool) κ))) (.exit 0) f58.T0_e0 f58.H0_e0
    = f58.p0_e0 L N (fun a0 => κ (.tv .bool a0)) := by
  rw [f58.p0_e0_pre]
  unfold f58.p0_e0
  rfl
theorem f58.p0_r_pre {R : Type} (L N : Nat) (κ : AV → Option R) (z21 : Bool) :
    (contAt (E58 L N) (evCallI (E58 L N) 1 2000) 1000 58 68 0 (codeOf Try.f58) (finK (E58 L N) 1000 Try.f58 (finC (.one .bool) κ))) .ret (f58.T0_r z21) (f58.H0_r z21)
    = f58.p0_r' L N (fun a0 => κ (.tv .bool a0)) z21 := by kernel_rfl
theorem f58.p0_r_eq {R : Type} (L N : Nat) (κ : AV → Option R) (z21 : Bool) :
    (contAt (E58 L N) (evCallI (E58 L N) 1 2000) 1000 58 68 0 (codeOf Try.f58) (finK (E58 L N) 1000 Try.f58 (finC (.one .bool) κ))) .ret (f58.T0_r z21) (f58.H0_r z21)
    = f58.p0_r L N (fun a0 => κ (.tv .bool a0)) z21 := by
  rw [f58.p0_r_pre]
  unfold f58.p0_r
  rfl
theorem f58.b_pre {R : Type} (L N : Nat) (κ : AV → Option R) (x0 : Graph) :
    evBody (E58 L N) (evCallI (E58 L N) 1 2000) 1000 58 Try.f58 [(.tv (.st 2) x0)] [] [] (finC (.one .bool) κ)
    = f58.b' L N (fun a0 => κ (.tv .bool a0)) (fun s1 s2 => evLp (E58 L N) (evCallI (E58 L N) 1 2000) 1000 58 68 0 f58.c0 (contAt (E58 L N) (evCallI (E58 L N) 1 2000) 1000 58 68 0 (codeOf Try.f58) (finK (E58 L N) 1000 Try.f58 (finC (.one .bool) κ))) L (f58.T0 s1 s2) (f58.H0 s1 s2)) x0 := by kernel_rfl
theorem f58.b_eq {R : Type} (L N : Nat) (κ : AV → Option R) (x0 : Graph) :
    evBody (E58 L N) (evCallI (E58 L N) 1 2000) 1000 58 Try.f58 [(.tv (.st 2) x0)] [] [] (finC (.one .bool) κ)
    = f58.b L N (fun a0 => κ (.tv .bool a0)) x0 := by
  rw [f58.b_pre]
  unfold f58.b
  simp only [f58.l0_eq, f58.p0_e0_eq, f58.p0_r_eq]
theorem f58.s1'_nat {R R' : Type} (j : R → Option R') (L N : Nat) (k1_e2 : Int → LLM → Option R) (k1_r : Bool → Int → LLM → Option R) (rec1 : Int → Int → LLM → Option R) (s3 : Int) (s4 : Int) (s5 : LLM) :
    f58.s1' L N (fun a0 a1 => (k1_e2 a0 a1).bind j) (fun a0 a1 a2 => (k1_r a0 a1 a2).bind j) (fun a0 a1 a2 => (rec1 a0 a1 a2).bind j) s3 s4 s5 = (f58.s1' L N k1_e2 k1_r rec1 s3 s4 s5).bind j := by
  unfold f58.s1'
  repeat' (first | (with_reducible refine cond_nat ?_ ?_) | (with_reducible refine bind_nat fun _ => ?_) | rfl)
theorem f58.s1_nat {R R' : Type} (j : R → Option R') (L N : Nat) (k1_e2 : Int → LLM → Option R) (k1_r : Bool → Int → LLM → Option R) (rec1 : Int → Int → LLM → Option R) (s3 : Int) (s4 : Int) (s5 : LLM) :
    f58.s1 L N (fun a0 a1 => (k1_e2 a0 a1).bind j) (fun a0 a1 a2 => (k1_r a0 a1 a2).bind j) (fun a0 a1 a2 => (rec1 a0 a1 a2).bind j) s3 s4 s5 = (f58.s1 L N k1_e2 k1_r rec1 s3 s4 s5).bind j := by
  unfold f58.s1
  exact f58.s1'_nat ..
theorem f58.l1_nat {R R' : Type} (j : R → Option R') (L N : Nat) (k1_e2 : Int → LLM → Option R) (k1_r : Bool → Int → LLM → Option R) : ∀ (n : Nat) (s3 : Int) (s4 : Int) (s5 : LLM),
    f58.l1 L N (fun a0 a1 => (k1_e2 a0 a1).bind j) (fun a0 a1 a2 => (k1_r a0 a1 a2).bind j) n s3 s4 s5 = (f58.l1 L N k1_e2 k1_r n s3 s4 s5).bind j := by
  intro n
  induction n with
  | zero => intros; rfl
  | succ n ih =>
    intro s3 s4 s5
    show f58.s1 L N (fun a0 a1 => (k1_e2 a0 a1).bind j) (fun a0 a1 a2 => (k1_r a0 a1 a2).bind j) (f58.l1 L N (fun a0 a1 => (k1_e2 a0 a1).bind j) (fun a0 a1 a2 => (k1_r a0 a1 a2).bind j) n) s3 s4 s5 = _
    rw [show f58.l1 L N (fun a0 a1 => (k1_e2 a0 a1).bind j) (fun a0 a1 a2 => (k1_r a0 a1 a2).bind j) n = (fun s3 s4 s5 => (f58.l1 L N k1_e2 k1_r n s3 s4 s5).bind j) from funext fun s3 => funext fun s4 => funext fun s5 => ih s3 s4 s5]
    exact f58.s1_nat ..
theorem f58.p1_e2'_nat {R R' : Type} (j : R → Option R') (L N : Nat) (k0_e0 : Option R) (k0_r : Bool → Option R) (rec0 : Int → LLM → Option R) (z6 : Int) (z7 : LLM) :
    f58.p1_e2' L N (k0_e0.bind j) (fun a0 => (k0_r a0).bind j) (fun a0 a1 => (rec0 a0 a1).bind j) z6 z7 = (f58.p1_e2' L N k0_e0 k0_r rec0 z6 z7).bind j := by
  unfold f58.p1_e2'
  repeat' (first | (with_reducible refine cond_nat ?_ ?_) | (with_reducible refine bind_nat fun _ => ?_) | rfl)
theorem f58.p1_e2_nat {R R' : Type} (j : R → Option R') (L N : Nat) (k0_e0 : Option R) (k0_r : Bool → Option R) (rec0 : Int → LLM → Option R) (z6 : Int) (z7 : LLM) :
    f58.p1_e2 L N (k0_e0.bind j) (fun a0 => (k0_r a0).bind j) (fun a0 a1 => (rec0 a0 a1).bind j) z6 z7 = (f58.p1_e2 L N k0_e0 k0_r rec0 z6 z7).bind j := by
  unfold f58.p1_e2
  exact f58.p1_e2'_nat ..
theorem f58.p1_r'_nat {R R' : Type} (j : R → Option R') (L N : Nat) (k0_e0 : Option R) (k0_r : Bool → Option R) (rec0 : Int → LLM → Option R) (z15 : Bool) (z16 : Int) (z17 : LLM) :
    f58.p1_r' L N (k0_e0.bind j) (fun a0 => (k0_r a0).bind j) (fun a0 a1 => (rec0 a0 a1).bind j) z15 z16 z17 = (f58.p1_r' L N k0_e0 k0_r rec0 z15 z16 z17).bind j := by
  unfold f58.p1_r'
  repeat' (first | (with_reducible refine cond_nat ?_ ?_) | (with_reducible refine bind_nat fun _ => ?_) | rfl)
theorem f58.p1_r_nat {R R' : Type} (j : R → Option R') (L N : Nat) (k0_e0 : Option R) (k0_r : Bool → Option R) (rec0 : Int → LLM → Option R) (z15 : Bool) (z16 : Int) (z17 : LLM) :
    f58.p1_r L N (k0_e0.bind j) (fun a0 => (k0_r a0).bind j) (fun a0 a1 => (rec0 a0 a1).bind j) z15 z16 z17 = (f58.p1_r L N k0_e0 k0_r rec0 z15 z16 z17).bind j := by
  unfold f58.p1_r
  exact f58.p1_r'_nat ..
theorem f58.s0'_nat {R R' : Type} (j : R → Option R') (L N : Nat) (k0_e0 : Option R) (k0_r : Bool → Option R) (rec0 : Int → LLM → Option R) (w1 : Int → Int → LLM → Option R) (s1 : Int) (s2 : LLM) :
    f58.s0' L N (k0_e0.bind j) (fun a0 => (k0_r a0).bind j) (fun a0 a1 => (rec0 a0 a1).bind j) (fun a0 a1 a2 => (w1 a0 a1 a2).bind j) s1 s2 = (f58.s0' L N k0_e0 k0_r rec0 w1 s1 s2).bind j := by
  unfold f58.s0'
  repeat' (first | (with_reducible refine cond_nat ?_ ?_) | (with_reducible refine bind_nat fun _ => ?_) | rfl)
theorem f58.s0_nat {R R' : Type} (j : R → Option R') (L N : Nat) (k0_e0 : Option R) (k0_r : Bool → Option R) (rec0 : Int → LLM → Option R) (s1 : Int) (s2 : LLM) :
    f58.s0 L N (k0_e0.bind j) (fun a0 => (k0_r a0).bind j) (fun a0 a1 => (rec0 a0 a1).bind j) s1 s2 = (f58.s0 L N k0_e0 k0_r rec0 s1 s2).bind j := by
  unfold f58.s0
  simp only [f58.l1_nat, f58.p1_e2_nat, f58.p1_r_nat]
  exact f58.s0'_nat ..
theorem f58.l0_nat {R R' : Type} (j : R → Option R') (L N : Nat) (k0_e0 : Option R) (k0_r : Bool → Option R) : ∀ (n : Nat) (s1 : Int) (s2 : LLM),
    f58.l0 L N (k0_e0.bind j) (fun a0 => (k0_r a0).bind j) n s1 s2 = (f58.l0 L N k0_e0 k0_r n s1 s2).bind j := by
  intro n
  induction n with
  | zero => intros; rfl
  | succ n ih =>
    intro s1 s2
    show f58.s0 L N (k0_e0.bind j) (fun a0 => (k0_r a0).bind j) (f58.l0 L N (k0_e0.bind j) (fun a0 => (k0_r a0).bind j) n) s1 s2 = _
    rw [show f58.l0 L N (k0_e0.bind j) (fun a0 => (k0_r a0).bind j) n = (fun s1 s2 => (f58.l0 L N k0_e0 k0_r n s1 s2).bind j) from funext fun s1 => funext fun s2 => ih s1 s2]
    exact f58.s0_nat ..
theorem f58.p0_e0'_nat {R R' : Type} (j : R → Option R') (L N : Nat) (k : Bool → Option R) :
    f58.p0_e0' L N (fun a0 => (k a0).bind j) = (f58.p0_e0' L N k).bind j := by
  unfold f58.p0_e0'
  repeat' (first | (with_reducible refine cond_nat ?_ ?_) | (with_reducible refine bind_nat fun _ => ?_) | rfl)
theorem f58.p0_e0_nat {R R' : Type} (j : R → Option R') (L N : Nat) (k : Bool → Option R) :
    f58.p0_e0 L N (fun a0 => (k a0).bind j) = (f58.p0_e0 L N k).bind j := by
  unfold f58.p0_e0
  exact f58.p0_e0'_nat ..
theorem f58.p0_r'_nat {R R' : Type} (j : R → Option R') (L N : Nat) (k : Bool → Option R) (z21 : Bool) :
    f58.p0_r' L N (fun a0 => (k a0).bind j) z21 = (f58.p0_r' L N k z21).bind j := by
  unfold f58.p0_r'
  repeat' (first | (with_reducible refine cond_nat ?_ ?_) | (with_reducible refine bind_nat fun _ => ?_) | rfl)
theorem f58.p0_r_nat {R R' : Type} (j : R → Option R') (L N : Nat) (k : Bool → Option R) (z21 : Bool) :
    f58.p0_r L N (fun a0 => (k a0).bind j) z21 = (f58.p0_r L N k z21).bind j := by
  unfold f58.p0_r
  exact f58.p0_r'_nat ..
theorem f58.b'_nat {R R' : Type} (j : R → Option R') (L N : Nat) (k : Bool → Option R) (w0 : Int → LLM → Option R) (x0 : Graph) :
    f58.b' L N (fun a0 => (k a0).bind j) (fun a0 a1 => (w0 a0 a1).bind j) x0 = (f58.b' L N k w0 x0).bind j := by
  unfold f58.b'
  repeat' (first | (with_reducible refine cond_nat ?_ ?_) | (with_reducible refine bind_nat fun _ => ?_) | rfl)
theorem f58.b_nat {R R' : Type} (j : R → Option R') (L N : Nat) (k : Bool → Option R) (x0 : Graph) :
    f58.b L N (fun a0 => (k a0).bind j) x0 = (f58.b L N k x0).bind j := by
  unfold f58.b
  simp only [f58.l0_nat, f58.p0_e0_nat, f58.p0_r_nat]
  exact f58.b'_nat ..
theorem f58.ok (L N : Nat) (hΦ : TellsOk Try.prog ((Φ98 L N))) : EntOk Try.prog 58 (f58.ent L N) := by
  intro args vw site h
  unfold f58.ent
  split
  · rename_i d ha
    intro y hy hs
    refine call_ro (dep := 1000) (E := (E58 L N)) (rs := (.one .bool)) (v := (.tv .bool y)) (sound_of hΦ) okP (callI_sound (sound_of hΦ) okP 1 2000) (f := Try.f58) rfl hs ha ?_ rfl site
    refine (f58.b_eq L N some d.1).trans ?_
    refine ((f58.b_nat (fun y => (some (.tv .bool y) : Option AV)) L N some d.1)).trans ?_
    rw [show f58.b L N some d.1 = some y from hy]
    rfl
  · intro y hy
    cases hy
def Φ58 (L N : Nat) : Tells := (addT (Φ98 L N) 58 (f58.ent L N))
theorem Φ58_ok (L N : Nat) : TellsOk Try.prog (Φ58 L N) := addT_ok (Φ98_ok L N) (f58.ok L N (Φ98_ok L N))
def f114.s0' {R : Type} (L N : Nat) (k0_e0 : Option R) (k0_r : Bool → Option R) (rec0 : LM → LM → Int → Option R) (s0 : LM) (s1 : LM) (s2 : Int) : Option R :=
  bif (decide (s2 < (s0.length : Int))) then
    bif (decide (0 ≤ s2) && decide (s2 < (s0.length : Int))) then
      bif (decide (0 ≤ s2) && decide (s2 < (s1.length : Int))) then
        bif (!(Move.eqb (listAt s0 (Ty.dflt (.st 0)) s2.toNat) (listAt s1 (Ty.dflt (.st 0)) s2.toNat))) then
          k0_r false
        else rec0 s0 s1 (wi (s2 + (1 : Int)))
      else none
    else none
  else k0_e0
def f114.s0 {R : Type} (L N : Nat) (k0_e0 : Option R) (k0_r : Bool → Option R) (rec0 : LM → LM → Int → Option R) (s0 : LM) (s1 : LM) (s2 : Int) : Option R :=
  f114.s0' L N k0_e0 k0_r rec0 s0 s1 s2
def f114.l0 {R : Type} (L N : Nat) (k0_e0 : Option R) (k0_r : Bool → Option R) : Nat → LM → LM → Int → Option R
  | 0, _, _, _ => none
  | n + 1, s0, s1, s2 => f114.s0 L N k0_e0 k0_r (f114.l0 L N k0_e0 k0_r n) s0 s1 s2
def f114.T0 (s0 : LM) (s1 : LM) (s2 : Int) : T := mkT 26 [(0, (.tv (.sl (.st 0)) s0)), (1, (.tv (.sl (.st 0)) s1)), (5, (.tv i64 s2))]
def f114.H0 (s0 : LM) (s1 : LM) (s2 : Int) : H := []
def f114.T0_e0 : T := mkT 26 []
def f114.H0_e0 : H := []
def f114.T0_r (z3 : Bool) : T := mkT 26 [(4, (.tv .bool z3))]
def f114.H0_r (z3 : Bool) : H := []
def f114.p0_e0' {R : Type} (L N : Nat) (k : Bool → Option R) : Option R :=
  k true
def f114.p0_e0 {R : Type} (L N : Nat) (k : Bool → Option R) : Option R :=
  f114.p0_e0' L N k
def f114.p0_r' {R : Type} (L N : Nat) (k : Bool → Option R) (z3 : Bool) : Option R :=
  k z3
def f114.p0_r {R : Type} (L N : Nat) (k : Bool → Option R) (z3 : Bool) : Option R :=
  f114.p0_r' L N k z3
def f114.b' {R : Type} (L N : Nat) (k : Bool → Option R) (w0 : LM → LM → Int → Option R) (x0 : LM) (x1 : LM) : Option R :=
  bif ((x0.length : Int) != (x1.length : Int)) then
    k false
  else w0 x0 x1 (0 : Int)
def f114.b {R : Type} (L N : Nat) (k : Bool → Option R) (x0 : LM) (x1 : LM) : Option R :=
  f114.b' L N k (fun s0 s1 s2 => f114.l0 L N (f114.p0_e0 L N k) (fun z3 => f114.p0_r L N k z3) L s0 s1 s2) x0 x1
def f114 (L N : Nat) (x0 : LM) (x1 : LM) : Option (Bool) := f114.b L N some x0 x1
def f114.ent (L N : Nat) (args : List AV) (vw : View) (site : Nat) : Ans := match roD [(.sl (.st 0)), (.sl (.st 0))] vw args with
  | some d => ⟨Bool, f114 L N d.1 d.2.1, fun y => ((.tv .bool y), [], [])⟩
  | none => Ans.no
noncomputable def E114 (L N : Nat) : Env := { P := Try.prog, ty := tyOf, Φ := (Φ58 L N), inl := inlT, live := lives, liveX := livesX, L := L, dp := none, prom := promT, heal := healT, ren := renT }
noncomputable def f114.c0 : Code := loopAt 0 (codeOf Try.f114)
theorem f114.s0_pre {R : Type} (L N : Nat) (κ : Ex → T → H → Option R) (rec : T → H → Option R) (s0 : LM) (s1 : LM) (s2 : Int) :
    evRd (E114 L N) (evCallI (E114 L N) 1 2000) 1000 114 26 0 f114.c0 κ rec (f114.T0 s0 s1 s2) (f114.H0 s0 s1 s2)
    = f114.s0' L N (κ (.exit 0) f114.T0_e0 f114.H0_e0) (fun z3 => κ .ret (f114.T0_r z3) (f114.H0_r z3)) (fun s0 s1 s2 => rec (f114.T0 s0 s1 s2) (f114.H0 s0 s1 s2)) s0 s1 s2 := by kernel_rfl
theorem f114.s0_eq {R : Type} (L N : Nat) (κ : Ex → T → H → Option R) (rec : T → H → Option R) (s0 : LM) (s1 : LM) (s2 : Int) :
    evRd (E114 L N) (evCallI (E114 L N) 1 2000) 1000 114 26 0 f114.c0 κ rec (f114.T0 s0 s1 s2) (f114.H0 s0 s1 s2)
    = f114.s0 L N (κ (.exit 0) f114.T0_e0 f114.H0_e0) (fun z3 => κ .ret (f114.T0_r z3) (f114.H0_r z3)) (fun s0 s1 s2 => rec (f114.T0 s0 s1 s2) (f114.H0 s0 s1 s2)) s0 s1 s2 := by
  rw [f114.s0_pre]
  unfold f114.s0
  rfl
theorem f114.l0_eq {R : Type} (L N : Nat) (κ : Ex → T → H → Option R) : ∀ (n : Nat) (s0 : LM) (s1 : LM) (s2 : Int),
    evLp (E114 L N) (evCallI (E114 L N) 1 2000) 1000 114 26 0 f114.c0 κ n (f114.T0 s0 s1 s2) (f114.H0 s0 s1 s2)
    = f114.l0 L N (κ (.exit 0) f114.T0_e0 f114.H0_e0) (fun z3 => κ .ret (f114.T0_r z3) (f114.H0_r z3)) n s0 s1 s2 := by
  intro n
  induction n with
  | zero => intros; rfl
  | succ n ih =>
    intro s0 s1 s2
    rw [evLp_succ, f114.s0_eq]
    simp only [ih]
    rfl
theorem f114.p0_e0_pre {R : Type} (L N : Nat) (κ : AV → Option R) :
    (contAt (E114 L N) (evCallI (E114 L N) 1 2000) 1000 114 26 0 (codeOf Try.f114) (finK (E114 L N) 1000 Try.f114 (finC (.one .bool) κ))) (.exit 0) f114.T0_e0 f114.H0_e0
    = f114.p0_e0' L N (fun a0 => κ (.tv .bool a0)) := by kernel_rfl
theorem f114.p0_e0_eq {R : Type} (L N : Nat) (κ : AV → Option R) :
    (contAt (E114 L N) (evCallI (E114 L N) 1 2000) 1000 114 26 0 (codeOf Try.f114) (finK (E114 L N) 1000 Try.f114 (finC (.one .bool) κ))) (.exit 0) f114.T0_e0 f114.H0_e0
    = f114.p0_e0 L N (fun a0 => κ (.tv .bool a0)) := by
  rw [f114.p0_e0_pre]
  unfold f114.p0_e0
  rfl
theorem f114.p0_r_pre {R : Type} (L N : Nat) (κ : AV → Option R) (z3 : Bool) :
    (contAt (E114 L N) (evCallI (E114 L N) 1 2000) 1000 114 26 0 (codeOf Try.f114) (finK (E114 L N) 1000 Try.f114 (finC (.one .bool) κ))) .ret (f114.T0_r z3) (f114.H0_r z3)
    = f114.p0_r' L N (fun a0 => κ (.tv .bool a0)) z3 := by kernel_rfl
theorem f114.p0_r_eq {R : Type} (L N : Nat) (κ : AV → Option R) (z3 : Bool) :
    (contAt (E114 L N) (evCallI (E114 L N) 1 2000) 1000 114 26 0 (codeOf Try.f114) (finK (E114 L N) 1000 Try.f114 (finC (.one .bool) κ))) .ret (f114.T0_r z3) (f114.H0_r z3)
    = f114.p0_r L N (fun a0 => κ (.tv .bool a0)) z3 := by
  rw [f114.p0_r_pre]
  unfold f114.p0_r
  rfl
theorem f114.b_pre {R : Type} (L N : Nat) (κ : AV → Option R) (x0 : LM) (x1 : LM) :
    evBody (E114 L N) (evCallI (E114 L N) 1 2000) 1000 114 Try.f114 [(.tv (.sl (.st 0)) x0), (.tv (.sl (.st 0)) x1)] [] [] (finC (.one .bool) κ)
    = f114.b' L N (fun a0 => κ (.tv .bool a0)) (fun s0 s1 s2 => evLp (E114 L N) (evCallI (E114 L N) 1 2000) 1000 114 26 0 f114.c0 (contAt (E114 L N) (evCallI (E114 L N) 1 2000) 1000 114 26 0 (codeOf Try.f114) (finK (E114 L N) 1000 Try.f114 (finC (.one .bool) κ))) L (f114.T0 s0 s1 s2) (f114.H0 s0 s1 s2)) x0 x1 := by kernel_rfl
theorem f114.b_eq {R : Type} (L N : Nat) (κ : AV → Option R) (x0 : LM) (x1 : LM) :
    evBody (E114 L N) (evCallI (E114 L N) 1 2000) 1000 114 Try.f114 [(.tv (.sl (.st 0)) x0), (.tv (.sl (.st 0)) x1)] [] [] (finC (.one .bool) κ)
    = f114.b L N (fun a0 => κ (.tv .bool a0)) x0 x1 := by
  rw [f114.b_pre]
  unfold f114.b
  simp only [f114.l0_eq, f114.p0_e0_eq, f114.p0_r_eq]
theorem f114.s0'_nat {R R' : Type} (j : R → Option R') (L N : Nat) (k0_e0 : Option R) (k0_r : Bool → Option R) (rec0 : LM → LM → Int → Option R) (s0 : LM) (s1 : LM) (s2 : Int) :
    f114.s0' L N (k0_e0.bind j) (fun a0 => (k0_r a0).bind j) (fun a0 a1 a2 => (rec0 a0 a1 a2).bind j) s0 s1 s2 = (f114.s0' L N k0_e0 k0_r rec0 s0 s1 s2).bind j := by
  unfold f114.s0'
  repeat' (first | (with_reducible refine cond_nat ?_ ?_) | (with_reducible refine bind_nat fun _ => ?_) | rfl)
theorem f114.s0_nat {R R' : Type} (j : R → Option R') (L N : Nat) (k0_e0 : Option R) (k0_r : Bool → Option R) (rec0 : LM → LM → Int → Option R) (s0 : LM) (s1 : LM) (s2 : Int) :
    f114.s0 L N (k0_e0.bind j) (fun a0 => (k0_r a0).bind j) (fun a0 a1 a2 => (rec0 a0 a1 a2).bind j) s0 s1 s2 = (f114.s0 L N k0_e0 k0_r rec0 s0 s1 s2).bind j := by
  unfold f114.s0
  exact f114.s0'_nat ..
theorem f114.l0_nat {R R' : Type} (j : R → Option R') (L N : Nat) (k0_e0 : Option R) (k0_r : Bool → Option R) : ∀ (n : Nat) (s0 : LM) (s1 : LM) (s2 : Int),
    f114.l0 L N (k0_e0.bind j) (fun a0 => (k0_r a0).bind j) n s0 s1 s2 = (f114.l0 L N k0_e0 k0_r n s0 s1 s2).bind j := by
  intro n
  induction n with
  | zero => intros; rfl
  | succ n ih =>
    intro s0 s1 s2
    show f114.s0 L N (k0_e0.bind j) (fun a0 => (k0_r a0).bind j) (f114.l0 L N (k0_e0.bind j) (fun a0 => (k0_r a0).bind j) n) s0 s1 s2 = _
    rw [show f114.l0 L N (k0_e0.bind j) (fun a0 => (k0_r a0).bind j) n = (fun s0 s1 s2 => (f114.l0 L N k0_e0 k0_r n s0 s1 s2).bind j) from funext fun s0 => funext fun s1 => funext fun s2 => ih s0 s1 s2]
    exact f114.s0_nat ..
theorem f114.p0_e0'_nat {R R' : Type} (j : R → Option R') (L N : Nat) (k : Bool → Option R) :
    f114.p0_e0' L N (fun a0 => (k a0).bind j) = (f114.p0_e0' L N k).bind j := by
  unfold f114.p0_e0'
  repeat' (first | (with_reducible refine cond_nat ?_ ?_) | (with_reducible refine bind_nat fun _ => ?_) | rfl)
theorem f114.p0_e0_nat {R R' : Type} (j : R → Option R') (L N : Nat) (k : Bool → Option R) :
    f114.p0_e0 L N (fun a0 => (k a0).bind j) = (f114.p0_e0 L N k).bind j := by
  unfold f114.p0_e0
  exact f114.p0_e0'_nat ..
theorem f114.p0_r'_nat {R R' : Type} (j : R → Option R') (L N : Nat) (k : Bool → Option R) (z3 : Bool) :
    f114.p0_r' L N (fun a0 => (k a0).bind j) z3 = (f114.p0_r' L N k z3).bind j := by
  unfold f114.p0_r'
  repeat' (first | (with_reducible refine cond_nat ?_ ?_) | (with_reducible refine bind_nat fun _ => ?_) | rfl)
theorem f114.p0_r_nat {R R' : Type} (j : R → Option R') (L N : Nat) (k : Bool → Option R) (z3 : Bool) :
    f114.p0_r L N (fun a0 => (k a0).bind j) z3 = (f114.p0_r L N k z3).bind j := by
  unfold f114.p0_r
  exact f114.p0_r'_nat ..
theorem f114.b'_nat {R R' : Type} (j : R → Option R') (L N : Nat) (k : Bool → Option R) (w0 : LM → LM → Int → Option R) (x0 : LM) (x1 : LM) :
    f114.b' L N (fun a0 => (k a0).bind j) (fun a0 a1 a2 => (w0 a0 a1 a2).bind j) x0 x1 = (f114.b' L N k w0 x0 x1).bind j := by
  unfold f114.b'
  repeat' (first | (with_reducible refine cond_nat ?_ ?_) | (with_reducible refine bind_nat fun _ => ?_) | rfl)
theorem f114.b_nat {R R' : Type} (j : R → Option R') (L N : Nat) (k : Bool → Option R) (x0 : LM) (x1 : LM) :
    f114.b L N (fun a0 => (k a0).bind j) x0 x1 = (f114.b L N k x0 x1).bind j := by
  unfold f114.b
  simp only [f114.l0_nat, f114.p0_e0_nat, f114.p0_r_nat]
  exact f114.b'_nat ..
theorem f114.ok (L N : Nat) (hΦ : TellsOk Try.prog ((Φ58 L N))) : EntOk Try.prog 114 (f114.ent L N) := by
  intro args vw site h
  unfold f114.ent
  split
  · rename_i d ha
    intro y hy hs
    refine call_ro (dep := 1000) (E := (E114 L N)) (rs := (.one .bool)) (v := (.tv .bool y)) (sound_of hΦ) okP (callI_sound (sound_of hΦ) okP 1 2000) (f := Try.f114) rfl hs ha ?_ rfl site
    refine (f114.b_eq L N some d.1 d.2.1).trans ?_
    refine ((f114.b_nat (fun y => (some (.tv .bool y) : Option AV)) L N some d.1 d.2.1)).trans ?_
    rw [show f114.b L N some d.1 d.2.1 = some y from hy]
    rfl
  · intro y hy
    cases hy
def Φ114 (L N : Nat) : Tells := (addT (Φ58 L N) 114 (f114.ent L N))
theorem Φ114_ok (L N : Nat) : TellsOk Try.prog (Φ114 L N) := addT_ok (Φ58_ok L N) (f114.ok L N (Φ58_ok L N))
def f123.s1' {R : Type} (L N : Nat) (k1_e2 : LM → Int → Int → LM → Option R) (rec1 : LM → Int → Int → LM → Option R) (s4 : LM) (s5 : Int) (s6 : Int) (s7 : LM) : Option R :=
  bif (decide (s6 > (0 : Int))) then
    bif (decide (0 ≤ s5) && decide (s5 < (s4.length : Int))) then
      bif (decide (0 ≤ (wi (s6 - (1 : Int)))) && decide ((wi (s6 - (1 : Int))) < (s7.length : Int))) then
        (f98 L N (listAt s4 (Ty.dflt (.st 0)) s5.toNat) (listAt s7 (Ty.dflt (.st 0)) (wi (s6 - (1 : Int))).toNat)).bind fun y8 =>
        bif y8 then
          rec1 s4 s5 (wi (s6 - (1 : Int))) s7
        else k1_e2 s4 s5 s6 s7
      else none
    else none
  else k1_e2 s4 s5 s6 s7
def f123.s1 {R : Type} (L N : Nat) (k1_e2 : LM → Int → Int → LM → Option R) (rec1 : LM → Int → Int → LM → Option R) (s4 : LM) (s5 : Int) (s6 : Int) (s7 : LM) : Option R :=
  f123.s1' L N k1_e2 rec1 s4 s5 s6 s7
def f123.l1 {R : Type} (L N : Nat) (k1_e2 : LM → Int → Int → LM → Option R) : Nat → LM → Int → Int → LM → Option R
  | 0, _, _, _, _ => none
  | n + 1, s4, s5, s6, s7 => f123.s1 L N k1_e2 (f123.l1 L N k1_e2 n) s4 s5 s6 s7
def f123.T1 (s4 : LM) (s5 : Int) (s6 : Int) (s7 : LM) : T := mkT 74 [(0, (.tv (.sl (.st 0)) s4)), (3, (.row 1007)), (4, (.tv i64 s5)), (5, (.tv i64 s6))]
def f123.H1 (s4 : LM) (s5 : Int) (s6 : Int) (s7 : LM) : H := [(1007, (.row 53 (.st 0) s7))]
def f123.T1_e2 (z14 : LM) (z15 : Int) (z16 : Int) (z17 : LM) : T := mkT 74 [(0, (.tv (.sl (.st 0)) z14)), (3, (.row 1007)), (4, (.tv i64 z15)), (5, (.tv i64 z16))]
def f123.H1_e2 (z14 : LM) (z15 : Int) (z16 : Int) (z17 : LM) : H := [(1007, (.row 53 (.st 0) z17))]
def f123.s2' {R : Type} (L N : Nat) (k2_e4 : LM → Int → Int → LM → Option R) (rec2 : LM → Int → Int → Int → LM → Option R) (s31 : LM) (s32 : Int) (s33 : Int) (s34 : Int) (s35 : LM) : Option R :=
  bif (decide (s34 > s33)) then
    bif (decide (0 ≤ (wi (s34 - (1 : Int)))) && decide ((wi (s34 - (1 : Int))) < (s35.length : Int))) then
      bif (decide (0 ≤ s34) && decide (s34 < (s35.length : Int))) then
        rec2 s31 s32 s33 (wi (s34 - (1 : Int))) (s35.set s34.toNat (listAt s35 (Ty.dflt (.st 0)) (wi (s34 - (1 : Int))).toNat))
      else none
    else none
  else k2_e4 s31 s32 s33 s35
def f123.s2 {R : Type} (L N : Nat) (k2_e4 : LM → Int → Int → LM → Option R) (rec2 : LM → Int → Int → Int → LM → Option R) (s31 : LM) (s32 : Int) (s33 : Int) (s34 : Int) (s35 : LM) : Option R :=
  f123.s2' L N k2_e4 rec2 s31 s32 s33 s34 s35
def f123.l2 {R : Type} (L N : Nat) (k2_e4 : LM → Int → Int → LM → Option R) : Nat → LM → Int → Int → Int → LM → Option R
  | 0, _, _, _, _, _ => none
  | n + 1, s31, s32, s33, s34, s35 => f123.s2 L N k2_e4 (f123.l2 L N k2_e4 n) s31 s32 s33 s34 s35
def f123.T2 (s31 : LM) (s32 : Int) (s33 : Int) (s34 : Int) (s35 : LM) : T := mkT 74 [(0, (.tv (.sl (.st 0)) s31)), (3, (.row 1007)), (4, (.tv i64 s32)), (5, (.tv i64 s33)), (6, (.tv i64 s34))]
def f123.H2 (s31 : LM) (s32 : Int) (s33 : Int) (s34 : Int) (s35 : LM) : H := [(1007, (.row 53 (.st 0) s35))]
def f123.T2_e4 (z36 : LM) (z37 : Int) (z38 : Int) (z39 : LM) : T := mkT 74 [(0, (.tv (.sl (.st 0)) z36)), (3, (.row 1007)), (4, (.tv i64 z37)), (5, (.tv i64 z38))]
def f123.H2_e4 (z36 : LM) (z37 : Int) (z38 : Int) (z39 : LM) : H := [(1007, (.row 53 (.st 0) z39))]
def f123.p2_e4' {R : Type} (L N : Nat) (k0_e0 : LM → Option R) (rec0 : LM → Int → LM → Option R) (z36 : LM) (z37 : Int) (z38 : Int) (z39 : LM) : Option R :=
  bif (decide (0 ≤ z37) && decide (z37 < (z36.length : Int))) then
    bif (decide (0 ≤ z38) && decide (z38 < (z39.length : Int))) then
      rec0 z36 (wi (z37 + (1 : Int))) (z39.set z38.toNat (listAt z36 (Ty.dflt (.st 0)) z37.toNat))
    else none
  else none
def f123.p2_e4 {R : Type} (L N : Nat) (k0_e0 : LM → Option R) (rec0 : LM → Int → LM → Option R) (z36 : LM) (z37 : Int) (z38 : Int) (z39 : LM) : Option R :=
  f123.p2_e4' L N k0_e0 rec0 z36 z37 z38 z39
def f123.j0' {R : Type} (L N : Nat) (k0_e0 : LM → Option R) (rec0 : LM → Int → LM → Option R) (w2 : LM → Int → Int → Int → LM → Option R) (v27 : LM) (v28 : Int) (v29 : Int) (v30 : LM) : Option R :=
  bif (decide (v30.length + ([(Move.mk (0 : Int) (0 : Int))] : LM).length ≤ lim)) then
    w2 v27 v28 v29 (wi (((v30 ++ ([(Move.mk (0 : Int) (0 : Int))] : LM)).length : Int) - (1 : Int))) (v30 ++ ([(Move.mk (0 : Int) (0 : Int))] : LM))
  else none
def f123.p1_e2' {R : Type} (L N : Nat) (k0_e0 : LM → Option R) (rec0 : LM → Int → LM → Option R) (w2 : LM → Int → Int → Int → LM → Option R) (z14 : LM) (z15 : Int) (z16 : Int) (z17 : LM) : Option R :=
  bif (decide (z16 > (0 : Int))) then
    bif (decide (0 ≤ (wi (z16 - (1 : Int)))) && decide ((wi (z16 - (1 : Int))) < (z17.length : Int))) then
      bif (decide (0 ≤ z15) && decide (z15 < (z14.length : Int))) then
        bif (Move.eqb (listAt z17 (Ty.dflt (.st 0)) (wi (z16 - (1 : Int))).toNat) (listAt z14 (Ty.dflt (.st 0)) z15.toNat)) then
          rec0 z14 (wi (z15 + (1 : Int))) z17
        else f123.j0' L N k0_e0 rec0 w2 z14 z15 z16 z17
      else none
    else none
  else f123.j0' L N k0_e0 rec0 w2 z14 z15 z16 z17
def f123.p1_e2 {R : Type} (L N : Nat) (k0_e0 : LM → Option R) (rec0 : LM → Int → LM → Option R) (z14 : LM) (z15 : Int) (z16 : Int) (z17 : LM) : Option R :=
  f123.p1_e2' L N k0_e0 rec0 (fun s31 s32 s33 s34 s35 => f123.l2 L N (fun z36 z37 z38 z39 => f123.p2_e4 L N k0_e0 rec0 z36 z37 z38 z39) L s31 s32 s33 s34 s35) z14 z15 z16 z17
def f123.s0' {R : Type} (L N : Nat) (k0_e0 : LM → Option R) (rec0 : LM → Int → LM → Option R) (w1 : LM → Int → Int → LM → Option R) (s0 : LM) (s1 : Int) (s2 : LM) : Option R :=
  bif (decide (s1 < (s0.length : Int))) then
    w1 s0 s1 (s2.length : Int) s2
  else k0_e0 s2
def f123.s0 {R : Type} (L N : Nat) (k0_e0 : LM → Option R) (rec0 : LM → Int → LM → Option R) (s0 : LM) (s1 : Int) (s2 : LM) : Option R :=
  f123.s0' L N k0_e0 rec0 (fun s4 s5 s6 s7 => f123.l1 L N (fun z14 z15 z16 z17 => f123.p1_e2 L N k0_e0 rec0 z14 z15 z16 z17) L s4 s5 s6 s7) s0 s1 s2
def f123.l0 {R : Type} (L N : Nat) (k0_e0 : LM → Option R) : Nat → LM → Int → LM → Option R
  | 0, _, _, _ => none
  | n + 1, s0, s1, s2 => f123.s0 L N k0_e0 (f123.l0 L N k0_e0 n) s0 s1 s2
def f123.T0 (s0 : LM) (s1 : Int) (s2 : LM) : T := mkT 74 [(0, (.tv (.sl (.st 0)) s0)), (3, (.row 1007)), (4, (.tv i64 s1))]
def f123.H0 (s0 : LM) (s1 : Int) (s2 : LM) : H := [(1007, (.row 53 (.st 0) s2))]
def f123.T0_e0 (z3 : LM) : T := mkT 74 [(3, (.row 1007))]
def f123.H0_e0 (z3 : LM) : H := [(1007, (.row 53 (.st 0) z3))]
def f123.p0_e0' {R : Type} (L N : Nat) (k : LM → Option R) (z3 : LM) : Option R :=
  k z3
def f123.p0_e0 {R : Type} (L N : Nat) (k : LM → Option R) (z3 : LM) : Option R :=
  f123.p0_e0' L N k z3
def f123.b' {R : Type} (L N : Nat) (k : LM → Option R) (w0 : LM → Int → LM → Option R) (x0 : LM) : Option R :=
  w0 x0 (0 : Int) ([] : LM)
def f123.b {R : Type} (L N : Nat) (k : LM → Option R) (x0 : LM) : Option R :=
  f123.b' L N k (fun s0 s1 s2 => f123.l0 L N (fun z3 => f123.p0_e0 L N k z3) L s0 s1 s2) x0
def f123 (L N : Nat) (x0 : LM) : Option (LM) := f123.b L N some x0
def f123.ent (L N : Nat) (args : List AV) (vw : View) (site : Nat) : Ans := match roD [(.sl (.st 0))] vw args with
  | some d => ⟨LM, f123 L N d.1, fun y => (RN.av site .row (), [(site, some (mkO none 53 (.st 0) y))], [])⟩
  | none => Ans.no
noncomputable def E123 (L N : Nat) : Env := { P := Try.prog, ty := tyOf, Φ := (Φ114 L N), inl := inlT, live := lives, liveX := livesX, L := L, dp := none, prom := promT, heal := healT, ren := renT }
noncomputable def f123.c0 : Code := loopAt 0 (codeOf Try.f123)
noncomputable def f123.c1 : Code := loopAt 2 f123.c0
theorem f123.s1_pre {R : Type} (L N : Nat) (κ : Ex → T → H → Option R) (rec : T → H → Option R) (s4 : LM) (s5 : Int) (s6 : Int) (s7 : LM) :
    evRd (E123 L N) (evCallI (E123 L N) 1 2000) 1000 123 74 2 f123.c1 κ rec (f123.T1 s4 s5 s6 s7) (f123.H1 s4 s5 s6 s7)
    = f123.s1' L N (fun z14 z15 z16 z17 => κ (.exit 2) (f123.T1_e2 z14 z15 z16 z17) (f123.H1_e2 z14 z15 z16 z17)) (fun s4 s5 s6 s7 => rec (f123.T1 s4 s5 s6 s7) (f123.H1 s4 s5 s6 s7)) s4 s5 s6 s7 := by kernel_rfl
theorem f123.s1_eq {R : Type} (L N : Nat) (κ : Ex → T → H → Option R) (rec : T → H → Option R) (s4 : LM) (s5 : Int) (s6 : Int) (s7 : LM) :
    evRd (E123 L N) (evCallI (E123 L N) 1 2000) 1000 123 74 2 f123.c1 κ rec (f123.T1 s4 s5 s6 s7) (f123.H1 s4 s5 s6 s7)
    = f123.s1 L N (fun z14 z15 z16 z17 => κ (.exit 2) (f123.T1_e2 z14 z15 z16 z17) (f123.H1_e2 z14 z15 z16 z17)) (fun s4 s5 s6 s7 => rec (f123.T1 s4 s5 s6 s7) (f123.H1 s4 s5 s6 s7)) s4 s5 s6 s7 := by
  rw [f123.s1_pre]
  unfold f123.s1
  rfl
theorem f123.l1_eq {R : Type} (L N : Nat) (κ : Ex → T → H → Option R) : ∀ (n : Nat) (s4 : LM) (s5 : Int) (s6 : Int) (s7 : LM),
    evLp (E123 L N) (evCallI (E123 L N) 1 2000) 1000 123 74 2 f123.c1 κ n (f123.T1 s4 s5 s6 s7) (f123.H1 s4 s5 s6 s7)
    = f123.l1 L N (fun z14 z15 z16 z17 => κ (.exit 2) (f123.T1_e2 z14 z15 z16 z17) (f123.H1_e2 z14 z15 z16 z17)) n s4 s5 s6 s7 := by
  intro n
  induction n with
  | zero => intros; rfl
  | succ n ih =>
    intro s4 s5 s6 s7
    rw [evLp_succ, f123.s1_eq]
    simp only [ih]
    rfl
noncomputable def f123.c2 : Code := loopAt 4 f123.c0
theorem f123.s2_pre {R : Type} (L N : Nat) (κ : Ex → T → H → Option R) (rec : T → H → Option R) (s31 : LM) (s32 : Int) (s33 : Int) (s34 : Int) (s35 : LM) :
    evRd (E123 L N) (evCallI (E123 L N) 1 2000) 1000 123 74 4 f123.c2 κ rec (f123.T2 s31 s32 s33 s34 s35) (f123.H2 s31 s32 s33 s34 s35)
    = f123.s2' L N (fun z36 z37 z38 z39 => κ (.exit 4) (f123.T2_e4 z36 z37 z38 z39) (f123.H2_e4 z36 z37 z38 z39)) (fun s31 s32 s33 s34 s35 => rec (f123.T2 s31 s32 s33 s34 s35) (f123.H2 s31 s32 s33 s34 s35)) s31 s32 s33 s34 s35 := by kernel_rfl
theorem f123.s2_eq {R : Type} (L N : Nat) (κ : Ex → T → H → Option R) (rec : T → H → Option R) (s31 : LM) (s32 : Int) (s33 : Int) (s34 : Int) (s35 : LM) :
    evRd (E123 L N) (evCallI (E123 L N) 1 2000) 1000 123 74 4 f123.c2 κ rec (f123.T2 s31 s32 s33 s34 s35) (f123.H2 s31 s32 s33 s34 s35)
    = f123.s2 L N (fun z36 z37 z38 z39 => κ (.exit 4) (f123.T2_e4 z36 z37 z38 z39) (f123.H2_e4 z36 z37 z38 z39)) (fun s31 s32 s33 s34 s35 => rec (f123.T2 s31 s32 s33 s34 s35) (f123.H2 s31 s32 s33 s34 s35)) s31 s32 s33 s34 s35 := by
  rw [f123.s2_pre]
  unfold f123.s2
  rfl
theorem f123.l2_eq {R : Type} (L N : Nat) (κ : Ex → T → H → Option R) : ∀ (n : Nat) (s31 : LM) (s32 : Int) (s33 : Int) (s34 : Int) (s35 : LM),
    evLp (E123 L N) (evCallI (E123 L N) 1 2000) 1000 123 74 4 f123.c2 κ n (f123.T2 s31 s32 s33 s34 s35) (f123.H2 s31 s32 s33 s34 s35)
    = f123.l2 L N (fun z36 z37 z38 z39 => κ (.exit 4) (f123.T2_e4 z36 z37 z38 z39) (f123.H2_e4 z36 z37 z38 z39)) n s31 s32 s33 s34 s35 := by
  intro n
  induction n with
  | zero => intros; rfl
  | succ n ih =>
    intro s31 s32 s33 s34 s35
    rw [evLp_succ, f123.s2_eq]
    simp only [ih]
    rfl
theorem f123.p2_e4_pre {R : Type} (L N : Nat) (κ : Ex → T → H → Option R) (rec : T → H → Option R) (z36 : LM) (z37 : Int) (z38 : Int) (z39 : LM) :
    (contAt (E123 L N) (evCallI (E123 L N) 1 2000) 1000 123 74 4 f123.c0 (stepK (outK (keepT 74 ((E123 L N).liveX 123 0).1) (keepH 1000 ((E123 L N).liveX 123 0).2) κ) fun t h => rec (backK 1000 74 ((E123 L N).live 123 0).1 ((E123 L N).live 123 0).2 ((E123 L N).heal 123 0) ((E123 L N).ren 123 0) t h).1 (backK 1000 74 ((E123 L N).live 123 0).1 ((E123 L N).live 123 0).2 ((E123 L N).heal 123 0) ((E123 L N).ren 123 0) t h).2)) (.exit 4) (f123.T2_e4 z36 z37 z38 z39) (f123.H2_e4 z36 z37 z38 z39)
    = f123.p2_e4' L N (fun z3 => κ (.exit 0) (f123.T0_e0 z3) (f123.H0_e0 z3)) (fun s0 s1 s2 => rec (f123.T0 s0 s1 s2) (f123.H0 s0 s1 s2)) z36 z37 z38 z39 := by kernel_rfl
theorem f123.p2_e4_eq {R : Type} (L N : Nat) (κ : Ex → T → H → Option R) (rec : T → H → Option R) (z36 : LM) (z37 : Int) (z38 : Int) (z39 : LM) :
    (contAt (E123 L N) (evCallI (E123 L N) 1 2000) 1000 123 74 4 f123.c0 (stepK (outK (keepT 74 ((E123 L N).liveX 123 0).1) (keepH 1000 ((E123 L N).liveX 123 0).2) κ) fun t h => rec (backK 1000 74 ((E123 L N).live 123 0).1 ((E123 L N).live 123 0).2 ((E123 L N).heal 123 0) ((E123 L N).ren 123 0) t h).1 (backK 1000 74 ((E123 L N).live 123 0).1 ((E123 L N).live 123 0).2 ((E123 L N).heal 123 0) ((E123 L N).ren 123 0) t h).2)) (.exit 4) (f123.T2_e4 z36 z37 z38 z39) (f123.H2_e4 z36 z37 z38 z39)
    = f123.p2_e4 L N (fun z3 => κ (.exit 0) (f123.T0_e0 z3) (f123.H0_e0 z3)) (fun s0 s1 s2 => rec (f123.T0 s0 s1 s2) (f123.H0 s0 s1 s2)) z36 z37 z38 z39 := by
  rw [f123.p2_e4_pre]
  unfold f123.p2_e4
  rfl
theorem f123.p1_e2_pre {R : Type} (L N : Nat) (κ : Ex → T → H → Option R) (rec : T → H → Option R) (z14 : LM) (z15 : Int) (z16 : Int) (z17 : LM) :
    (contAt (E123 L N) (evCallI (E123 L N) 1 2000) 1000 123 74 2 f123.c0 (stepK (outK (keepT 74 ((E123 L N).liveX 123 0).1) (keepH 1000 ((E123 L N).liveX 123 0).2) κ) fun t h => rec (backK 1000 74 ((E123 L N).live 123 0).1 ((E123 L N).live 123 0).2 ((E123 L N).heal 123 0) ((E123 L N).ren 123 0) t h).1 (backK 1000 74 ((E123 L N).live 123 0).1 ((E123 L N).live 123 0).2 ((E123 L N).heal 123 0) ((E123 L N).ren 123 0) t h).2)) (.exit 2) (f123.T1_e2 z14 z15 z16 z17) (f123.H1_e2 z14 z15 z16 z17)
    = f123.p1_e2' L N (fun z3 => κ (.exit 0) (f123.T0_e0 z3) (f123.H0_e0 z3)) (fun s0 s1 s2 => rec (f123.T0 s0 s1 s2) (f123.H0 s0 s1 s2)) (fun s31 s32 s33 s34 s35 => evLp (E123 L N) (evCallI (E123 L N) 1 2000) 1000 123 74 4 f123.c2 (contAt (E123 L N) (evCallI (E123 L N) 1 2000) 1000 123 74 4 f123.c0 (stepK (outK (keepT 74 ((E123 L N).liveX 123 0).1) (keepH 1000 ((E123 L N).liveX 123 0).2) κ) fun t h => rec (backK 1000 74 ((E123 L N).live 123 0).1 ((E123 L N).live 123 0).2 ((E123 L N).heal 123 0) ((E123 L N).ren 123 0) t h).1 (backK 1000 74 ((E123 L N).live 123 0).1 ((E123 L N).live 123 0).2 ((E123 L N).heal 123 0) ((E123 L N).ren 123 0) t h).2)) L (f123.T2 s31 s32 s33 s34 s35) (f123.H2 s31 s32 s33 s34 s35)) z14 z15 z16 z17 := by kernel_rfl
theorem f123.p1_e2_eq {R : Type} (L N : Nat) (κ : Ex → T → H → Option R) (rec : T → H → Option R) (z14 : LM) (z15 : Int) (z16 : Int) (z17 : LM) :
    (contAt (E123 L N) (evCallI (E123 L N) 1 2000) 1000 123 74 2 f123.c0 (stepK (outK (keepT 74 ((E123 L N).liveX 123 0).1) (keepH 1000 ((E123 L N).liveX 123 0).2) κ) fun t h => rec (backK 1000 74 ((E123 L N).live 123 0).1 ((E123 L N).live 123 0).2 ((E123 L N).heal 123 0) ((E123 L N).ren 123 0) t h).1 (backK 1000 74 ((E123 L N).live 123 0).1 ((E123 L N).live 123 0).2 ((E123 L N).heal 123 0) ((E123 L N).ren 123 0) t h).2)) (.exit 2) (f123.T1_e2 z14 z15 z16 z17) (f123.H1_e2 z14 z15 z16 z17)
    = f123.p1_e2 L N (fun z3 => κ (.exit 0) (f123.T0_e0 z3) (f123.H0_e0 z3)) (fun s0 s1 s2 => rec (f123.T0 s0 s1 s2) (f123.H0 s0 s1 s2)) z14 z15 z16 z17 := by
  rw [f123.p1_e2_pre]
  unfold f123.p1_e2
  simp only [f123.l2_eq, f123.p2_e4_eq]
theorem f123.s0_pre {R : Type} (L N : Nat) (κ : Ex → T → H → Option R) (rec : T → H → Option R) (s0 : LM) (s1 : Int) (s2 : LM) :
    evRd (E123 L N) (evCallI (E123 L N) 1 2000) 1000 123 74 0 f123.c0 κ rec (f123.T0 s0 s1 s2) (f123.H0 s0 s1 s2)
    = f123.s0' L N (fun z3 => κ (.exit 0) (f123.T0_e0 z3) (f123.H0_e0 z3)) (fun s0 s1 s2 => rec (f123.T0 s0 s1 s2) (f123.H0 s0 s1 s2)) (fun s4 s5 s6 s7 => evLp (E123 L N) (evCallI (E123 L N) 1 2000) 1000 123 74 2 f123.c1 (contAt (E123 L N) (evCallI (E123 L N) 1 2000) 1000 123 74 2 f123.c0 (stepK (outK (keepT 74 ((E123 L N).liveX 123 0).1) (keepH 1000 ((E123 L N).liveX 123 0).2) κ) fun t h => rec (backK 1000 74 ((E123 L N).live 123 0).1 ((E123 L N).live 123 0).2 ((E123 L N).heal 123 0) ((E123 L N).ren 123 0) t h).1 (backK 1000 74 ((E123 L N).live 123 0).1 ((E123 L N).live 123 0).2 ((E123 L N).heal 123 0) ((E123 L N).ren 123 0) t h).2)) L (f123.T1 s4 s5 s6 s7) (f123.H1 s4 s5 s6 s7)) s0 s1 s2 := by kernel_rfl
theorem f123.s0_eq {R : Type} (L N : Nat) (κ : Ex → T → H → Option R) (rec : T → H → Option R) (s0 : LM) (s1 : Int) (s2 : LM) :
    evRd (E123 L N) (evCallI (E123 L N) 1 2000) 1000 123 74 0 f123.c0 κ rec (f123.T0 s0 s1 s2) (f123.H0 s0 s1 s2)
    = f123.s0 L N (fun z3 => κ (.exit 0) (f123.T0_e0 z3) (f123.H0_e0 z3)) (fun s0 s1 s2 => rec (f123.T0 s0 s1 s2) (f123.H0 s0 s1 s2)) s0 s1 s2 := by
  rw [f123.s0_pre]
  unfold f123.s0
  simp only [f123.l1_eq, f123.p1_e2_eq]
theorem f123.l0_eq {R : Type} (L N : Nat) (κ : Ex → T → H → Option R) : ∀ (n : Nat) (s0 : LM) (s1 : Int) (s2 : LM),
    evLp (E123 L N) (evCallI (E123 L N) 1 2000) 1000 123 74 0 f123.c0 κ n (f123.T0 s0 s1 s2) (f123.H0 s0 s1 s2)
    = f123.l0 L N (fun z3 => κ (.exit 0) (f123.T0_e0 z3) (f123.H0_e0 z3)) n s0 s1 s2 := by
  intro n
  induction n with
  | zero => intros; rfl
  | succ n ih =>
    intro s0 s1 s2
    rw [evLp_succ, f123.s0_eq]
    simp only [ih]
    rfl
theorem f123.p0_e0_pre {R : Type} (L N : Nat) (κ : RN.Den .row → List Move → Option R) (z3 : LM) :
    (contAt (E123 L N) (evCallI (E123 L N) 1 2000) 1000 123 74 0 (codeOf Try.f123) (finK (E123 L N) 1000 Try.f123 (finN .row none 53 (.st 0) κ))) (.exit 0) (f123.T0_e0 z3) (f123.H0_e0 z3)
    = f123.p0_e0' L N (fun a0 => κ () a0) z3 := by kernel_rfl
theorem f123.p0_e0_eq {R : Type} (L N : Nat) (κ : RN.Den .row → List Move → Option R) (z3 : LM) :
    (contAt (E123 L N) (evCallI (E123 L N) 1 2000) 1000 123 74 0 (codeOf Try.f123) (finK (E123 L N) 1000 Try.f123 (finN .row none 53 (.st 0) κ))) (.exit 0) (f123.T0_e0 z3) (f123.H0_e0 z3)
    = f123.p0_e0 L N (fun a0 => κ () a0) z3 := by
  rw [f123.p0_e0_pre]
  unfold f123.p0_e0
  rfl
theorem f123.b_pre {R : Type} (L N : Nat) (κ : RN.Den .row → List Move → Option R) (x0 : LM) :
    evBody (E123 L N) (evCallI (E123 L N) 1 2000) 1000 123 Try.f123 [(.tv (.sl (.st 0)) x0)] [] [] (finN .row none 53 (.st 0) κ)
    = f123.b' L N (fun a0 => κ () a0) (fun s0 s1 s2 => evLp (E123 L N) (evCallI (E123 L N) 1 2000) 1000 123 74 0 f123.c0 (contAt (E123 L N) (evCallI (E123 L N) 1 2000) 1000 123 74 0 (codeOf Try.f123) (finK (E123 L N) 1000 Try.f123 (finN .row none 53 (.st 0) κ))) L (f123.T0 s0 s1 s2) (f123.H0 s0 s1 s2)) x0 := by kernel_rfl
theorem f123.b_eq {R : Type} (L N : Nat) (κ : RN.Den .row → List Move → Option R) (x0 : LM) :
    evBody (E123 L N) (evCallI (E123 L N) 1 2000) 1000 123 Try.f123 [(.tv (.sl (.st 0)) x0)] [] [] (finN .row none 53 (.st 0) κ)
    = f123.b L N (fun a0 => κ () a0) x0 := by
  rw [f123.b_pre]
  unfold f123.b
  simp only [f123.l0_eq, f123.p0_e0_eq]
theorem f123.s1'_nat {R R' : Type} (j : R → Option R') (L N : Nat) (k1_e2 : LM → Int → Int → LM → Option R) (rec1 : LM → Int → Int → LM → Option R) (s4 : LM) (s5 : Int) (s6 : Int) (s7 : LM) :
    f123.s1' L N (fun a0 a1 a2 a3 => (k1_e2 a0 a1 a2 a3).bind j) (fun a0 a1 a2 a3 => (rec1 a0 a1 a2 a3).bind j) s4 s5 s6 s7 = (f123.s1' L N k1_e2 rec1 s4 s5 s6 s7).bind j := by
  unfold f123.s1'
  repeat' (first | (with_reducible refine cond_nat ?_ ?_) | (with_reducible refine bind_nat fun _ => ?_) | rfl)
theorem f123.s1_nat {R R' : Type} (j : R → Option R') (L N : Nat) (k1_e2 : LM → Int → Int → LM → Option R) (rec1 : LM → Int → Int → LM → Option R) (s4 : LM) (s5 : Int) (s6 : Int) (s7 : LM) :
    f123.s1 L N (fun a0 a1 a2 a3 => (k1_e2 a0 a1 a2 a3).bind j) (fun a0 a1 a2 a3 => (rec1 a0 a1 a2 a3).bind j) s4 s5 s6 s7 = (f123.s1 L N k1_e2 rec1 s4 s5 s6 s7).bind j := by
  unfold f123.s1
  exact f123.s1'_nat ..
theorem f123.l1_nat {R R' : Type} (j : R → Option R') (L N : Nat) (k1_e2 : LM → Int → Int → LM → Option R) : ∀ (n : Nat) (s4 : LM) (s5 : Int) (s6 : Int) (s7 : LM),
    f123.l1 L N (fun a0 a1 a2 a3 => (k1_e2 a0 a1 a2 a3).bind j) n s4 s5 s6 s7 = (f123.l1 L N k1_e2 n s4 s5 s6 s7).bind j := by
  intro n
  induction n with
  | zero => intros; rfl
  | succ n ih =>
    intro s4 s5 s6 s7
    show f123.s1 L N (fun a0 a1 a2 a3 => (k1_e2 a0 a1 a2 a3).bind j) (f123.l1 L N (fun a0 a1 a2 a3 => (k1_e2 a0 a1 a2 a3).bind j) n) s4 s5 s6 s7 = _
    rw [show f123.l1 L N (fun a0 a1 a2 a3 => (k1_e2 a0 a1 a2 a3).bind j) n = (fun s4 s5 s6 s7 => (f123.l1 L N k1_e2 n s4 s5 s6 s7).bind j) from funext fun s4 => funext fun s5 => funext fun s6 => funext fun s7 => ih s4 s5 s6 s7]
    exact f123.s1_nat ..
theorem f123.s2'_nat {R R' : Type} (j : R → Option R') (L N : Nat) (k2_e4 : LM → Int → Int → LM → Option R) (rec2 : LM → Int → Int → Int → LM → Option R) (s31 : LM) (s32 : Int) (s33 : Int) (s34 : Int) (s35 : LM) :
    f123.s2' L N (fun a0 a1 a2 a3 => (k2_e4 a0 a1 a2 a3).bind j) (fun a0 a1 a2 a3 a4 => (rec2 a0 a1 a2 a3 a4).bind j) s31 s32 s33 s34 s35 = (f123.s2' L N k2_e4 rec2 s31 s32 s33 s34 s35).bind j := by
  unfold f123.s2'
  repeat' (first | (with_reducible refine cond_nat ?_ ?_) | (with_reducible refine bind_nat fun _ => ?_) | rfl)
theorem f123.s2_nat {R R' : Type} (j : R → Option R') (L N : Nat) (k2_e4 : LM → Int → Int → LM → Option R) (rec2 : LM → Int → Int → Int → LM → Option R) (s31 : LM) (s32 : Int) (s33 : Int) (s34 : Int) (s35 : LM) :
    f123.s2 L N (fun a0 a1 a2 a3 => (k2_e4 a0 a1 a2 a3).bind j) (fun a0 a1 a2 a3 a4 => (rec2 a0 a1 a2 a3 a4).bind j) s31 s32 s33 s34 s35 = (f123.s2 L N k2_e4 rec2 s31 s32 s33 s34 s35).bind j := by
  unfold f123.s2
  exact f123.s2'_nat ..
theorem f123.l2_nat {R R' : Type} (j : R → Option R') (L N : Nat) (k2_e4 : LM → Int → Int → LM → Option R) : ∀ (n : Nat) (s31 : LM) (s32 : Int) (s33 : Int) (s34 : Int) (s35 : LM),
    f123.l2 L N (fun a0 a1 a2 a3 => (k2_e4 a0 a1 a2 a3).bind j) n s31 s32 s33 s34 s35 = (f123.l2 L N k2_e4 n s31 s32 s33 s34 s35).bind j := by
  intro n
  induction n with
  | zero => intros; rfl
  | succ n ih =>
    intro s31 s32 s33 s34 s35
    show f123.s2 L N (fun a0 a1 a2 a3 => (k2_e4 a0 a1 a2 a3).bind j) (f123.l2 L N (fun a0 a1 a2 a3 => (k2_e4 a0 a1 a2 a3).bind j) n) s31 s32 s33 s34 s35 = _
    rw [show f123.l2 L N (fun a0 a1 a2 a3 => (k2_e4 a0 a1 a2 a3).bind j) n = (fun s31 s32 s33 s34 s35 => (f123.l2 L N k2_e4 n s31 s32 s33 s34 s35).bind j) from funext fun s31 => funext fun s32 => funext fun s33 => funext fun s34 => funext fun s35 => ih s31 s32 s33 s34 s35]
    exact f123.s2_nat ..
theorem f123.p2_e4'_nat {R R' : Type} (j : R → Option R') (L N : Nat) (k0_e0 : LM → Option R) (rec0 : LM → Int → LM → Option R) (z36 : LM) (z37 : Int) (z38 : Int) (z39 : LM) :
    f123.p2_e4' L N (fun a0 => (k0_e0 a0).bind j) (fun a0 a1 a2 => (rec0 a0 a1 a2).bind j) z36 z37 z38 z39 = (f123.p2_e4' L N k0_e0 rec0 z36 z37 z38 z39).bind j := by
  unfold f123.p2_e4'
  repeat' (first | (with_reducible refine cond_nat ?_ ?_) | (with_reducible refine bind_nat fun _ => ?_) | rfl)
theorem f123.p2_e4_nat {R R' : Type} (j : R → Option R') (L N : Nat) (k0_e0 : LM → Option R) (rec0 : LM → Int → LM → Option R) (z36 : LM) (z37 : Int) (z38 : Int) (z39 : LM) :
    f123.p2_e4 L N (fun a0 => (k0_e0 a0).bind j) (fun a0 a1 a2 => (rec0 a0 a1 a2).bind j) z36 z37 z38 z39 = (f123.p2_e4 L N k0_e0 rec0 z36 z37 z38 z39).bind j := by
  unfold f123.p2_e4
  exact f123.p2_e4'_nat ..
theorem f123.j0'_nat {R R' : Type} (j : R → Option R') (L N : Nat) (k0_e0 : LM → Option R) (rec0 : LM → Int → LM → Option R) (w2 : LM → Int → Int → Int → LM → Option R) (v27 : LM) (v28 : Int) (v29 : Int) (v30 : LM) :
    f123.j0' L N (fun a0 => (k0_e0 a0).bind j) (fun a0 a1 a2 => (rec0 a0 a1 a2).bind j) (fun a0 a1 a2 a3 a4 => (w2 a0 a1 a2 a3 a4).bind j) v27 v28 v29 v30 = (f123.j0' L N k0_e0 rec0 w2 v27 v28 v29 v30).bind j := by
  unfold f123.j0'
  repeat' (first | (with_reducible refine cond_nat ?_ ?_) | (with_reducible refine bind_nat fun _ => ?_) | rfl)
theorem f123.p1_e2'_nat {R R' : Type} (j : R → Option R') (L N : Nat) (k0_e0 : LM → Option R) (rec0 : LM → Int → LM → Option R) (w2 : LM → Int → Int → Int → LM → Option R) (z14 : LM) (z15 : Int) (z16 : Int) (z17 : LM) :
    f123.p1_e2' L N (fun a0 => (k0_e0 a0).bind j) (fun a0 a1 a2 => (rec0 a0 a1 a2).bind j) (fun a0 a1 a2 a3 a4 => (w2 a0 a1 a2 a3 a4).bind j) z14 z15 z16 z17 = (f123.p1_e2' L N k0_e0 rec0 w2 z14 z15 z16 z17).bind j := by
  unfold f123.p1_e2'
  repeat' (first | (with_reducible refine cond_nat ?_ ?_) | (with_reducible refine bind_nat fun _ => ?_) | exact f123.j0'_nat .. | rfl)
theorem f123.p1_e2_nat {R R' : Type} (j : R → Option R') (L N : Nat) (k0_e0 : LM → Option R) (rec0 : LM → Int → LM → Option R) (z14 : LM) (z15 : Int) (z16 : Int) (z17 : LM) :
    f123.p1_e2 L N (fun a0 => (k0_e0 a0).bind j) (fun a0 a1 a2 => (rec0 a0 a1 a2).bind j) z14 z15 z16 z17 = (f123.p1_e2 L N k0_e0 rec0 z14 z15 z16 z17).bind j := by
  unfold f123.p1_e2
  simp only [f123.l2_nat, f123.p2_e4_nat]
  exact f123.p1_e2'_nat ..
theorem f123.s0'_nat {R R' : Type} (j : R → Option R') (L N : Nat) (k0_e0 : LM → Option R) (rec0 : LM → Int → LM → Option R) (w1 : LM → Int → Int → LM → Option R) (s0 : LM) (s1 : Int) (s2 : LM) :
    f123.s0' L N (fun a0 => (k0_e0 a0).bind j) (fun a0 a1 a2 => (rec0 a0 a1 a2).bind j) (fun a0 a1 a2 a3 => (w1 a0 a1 a2 a3).bind j) s0 s1 s2 = (f123.s0' L N k0_e0 rec0 w1 s0 s1 s2).bind j := by
  unfold f123.s0'
  repeat' (first | (with_reducible refine cond_nat ?_ ?_) | (with_reducible refine bind_nat fun _ => ?_) | rfl)
theorem f123.s0_nat {R R' : Type} (j : R → Option R') (L N : Nat) (k0_e0 : LM → Option R) (rec0 : LM → Int → LM → Option R) (s0 : LM) (s1 : Int) (s2 : LM) :
    f123.s0 L N (fun a0 => (k0_e0 a0).bind j) (fun a0 a1 a2 => (rec0 a0 a1 a2).bind j) s0 s1 s2 = (f123.s0 L N k0_e0 rec0 s0 s1 s2).bind j := by
  unfold f123.s0
  simp only [f123.l1_nat, f123.p1_e2_nat]
  exact f123.s0'_nat ..
theorem f123.l0_nat {R R' : Type} (j : R → Option R') (L N : Nat) (k0_e0 : LM → Option R) : ∀ (n : Nat) (s0 : LM) (s1 : Int) (s2 : LM),
    f123.l0 L N (fun a0 => (k0_e0 a0).bind j) n s0 s1 s2 = (f123.l0 L N k0_e0 n s0 s1 s2).bind j := by
  intro n
  induction n with
  | zero => intros; rfl
  | succ n ih =>
    intro s0 s1 s2
    show f123.s0 L N (fun a0 => (k0_e0 a0).bind j) (f123.l0 L N (fun a0 => (k0_e0 a0).bind j) n) s0 s1 s2 = _
    rw [show f123.l0 L N (fun a0 => (k0_e0 a0).bind j) n = (fun s0 s1 s2 => (f123.l0 L N k0_e0 n s0 s1 s2).bind j) from funext fun s0 => funext fun s1 => funext fun s2 => ih s0 s1 s2]
    exact f123.s0_nat ..
theorem f123.p0_e0'_nat {R R' : Type} (j : R → Option R') (L N : Nat) (k : LM → Option R) (z3 : LM) :
    f123.p0_e0' L N (fun a0 => (k a0).bind j) z3 = (f123.p0_e0' L N k z3).bind j := by
  unfold f123.p0_e0'
  repeat' (first | (with_reducible refine cond_nat ?_ ?_) | (with_reducible refine bind_nat fun _ => ?_) | rfl)
theorem f123.p0_e0_nat {R R' : Type} (j : R → Option R') (L N : Nat) (k : LM → Option R) (z3 : LM) :
    f123.p0_e0 L N (fun a0 => (k a0).bind j) z3 = (f123.p0_e0 L N k z3).bind j := by
  unfold f123.p0_e0
  exact f123.p0_e0'_nat ..
theorem f123.b'_nat {R R' : Type} (j : R → Option R') (L N : Nat) (k : LM → Option R) (w0 : LM → Int → LM → Option R) (x0 : LM) :
    f123.b' L N (fun a0 => (k a0).bind j) (fun a0 a1 a2 => (w0 a0 a1 a2).bind j) x0 = (f123.b' L N k w0 x0).bind j := by
  unfold f123.b'
  repeat' (first | (with_reducible refine cond_nat ?_ ?_) | (with_reducible refine bind_nat fun _ => ?_) | rfl)
theorem f123.b_nat {R R' : Type} (j : R → Option R') (L N : Nat) (k : LM → Option R) (x0 : LM) :
    f123.b L N (fun a0 => (k a0).bind j) x0 = (f123.b L N k x0).bind j := by
  unfold f123.b
  simp only [f123.l0_nat, f123.p0_e0_nat]
  exact f123.b'_nat ..
theorem f123.ok (L N : Nat) (hΦ : TellsOk Try.prog ((Φ114 L N))) : EntOk Try.prog 123 (f123.ent L N) := by
  intro args vw site h
  unfold f123.ent
  split
  · rename_i d ha
    intro y hy hs
    refine call_ron (dep := 1000) (E := (E123 L N)) (ts := [(.sl (.st 0))]) (rn := .row) (q := none) (el := 53) (ty := (.st 0)) (d1 := ()) (xs := y) (sound_of hΦ) okP (callI_sound (sound_of hΦ) okP 1 2000) (f := Try.f123) rfl hs ha ?_ rfl site
    refine (f123.b_eq L N (fun d xs => some (d, xs)) d.1).trans ?_
    refine ((f123.b_nat (fun y => (some ((), y) : Option (RN.Den .row × List Move))) L N some d.1)).trans ?_
    rw [show f123.b L N some d.1 = some y from hy]
    rfl
  · intro y hy
    cases hy
def Φ123 (L N : Nat) : Tells := (addT (Φ114 L N) 123 (f123.ent L N))
theorem Φ123_ok (L N : Nat) : TellsOk Try.prog (Φ123 L N) := addT_ok (Φ114_ok L N) (f123.ok L N (Φ114_ok L N))
def f115.j0' {R : Type} (L N : Nat) (k1_e2 : Int → LI → Int → LLM → LI → LB → LM → Option R) (rec1 : Int → LI → Int → LM → Int → LLM → LI → LB → LM → Option R) (v48 : Int) (v49 : LI) (v50 : Int) (v51 : LM) (v52 : Int) (v53 : Bool) (v54 : LLM) (v55 : Int) (v56 : Int) (v57 : LI) (v58 : LB) (v59 : LM) : Option R :=
  bif v53 then
    bif (decide (0 ≤ v56) && decide (v56 < (v58.length : Int))) then
      bif (decide (v57.length + ([v56] : LI).length ≤ lim)) then
        rec1 v48 v49 v50 v51 (wi (v52 + (1 : Int))) v54 (v57 ++ ([v56] : LI)) (v58.set v56.toNat true) v59
      else none
    else none
  else rec1 v48 v49 v50 v51 (wi (v52 + (1 : Int))) v54 v57 v58 v59
def f115.j1' {R : Type} (L N : Nat) (k1_e2 : Int → LI → Int → LLM → LI → LB → LM → Option R) (rec1 : Int → LI → Int → LM → Int → LLM → LI → LB → LM → Option R) (v36 : Int) (v37 : LI) (v38 : Int) (v39 : LM) (v40 : Int) (v41 : Bool) (v42 : LLM) (v43 : Int) (v44 : Int) (v45 : LI) (v46 : LB) (v47 : LM) : Option R :=
  bif v41 then
    bif (decide (0 ≤ v44) && decide (v44 < (v46.length : Int))) then
      f115.j0' L N k1_e2 rec1 v36 v37 v38 v39 v40 (!(listAt v46 false v44.toNat)) v42 v43 v44 v45 v46 v47
    else none
  else f115.j0' L N k1_e2 rec1 v36 v37 v38 v39 v40 false v42 v43 v44 v45 v46 v47
def f115.j2' {R : Type} (L N : Nat) (k1_e2 : Int → LI → Int → LLM → LI → LB → LM → Option R) (rec1 : Int → LI → Int → LM → Int → LLM → LI → LB → LM → Option R) (v24 : Int) (v25 : LI) (v26 : Int) (v27 : LM) (v28 : Int) (v29 : Bool) (v30 : LLM) (v31 : Int) (v32 : Int) (v33 : LI) (v34 : LB) (v35 : LM) : Option R :=
  bif (!v29) then
    bif (decide (0 ≤ v32) && decide (v32 < (v25.length : Int))) then
      bif (decide (v35.length + ([(Move.mk v31 (listAt v25 (0 : Int) v32.toNat))] : LM).length ≤ lim)) then
        f115.j1' L N k1_e2 rec1 v24 v25 v26 v27 v28 v29 v30 v31 v32 v33 v34 (v35 ++ ([(Move.mk v31 (listAt v25 (0 : Int) v32.toNat))] : LM))
      else none
    else none
  else f115.j1' L N k1_e2 rec1 v24 v25 v26 v27 v28 v29 v30 v31 v32 v33 v34 v35
def f115.s1' {R : Type} (L N : Nat) (k1_e2 : Int → LI → Int → LLM → LI → LB → LM → Option R) (rec1 : Int → LI → Int → LM → Int → LLM → LI → LB → LM → Option R) (s8 : Int) (s9 : LI) (s10 : Int) (s11 : LM) (s12 : Int) (s13 : LLM) (s14 : LI) (s15 : LB) (s16 : LM) : Option R :=
  bif (decide (s12 < (s11.length : Int))) then
    bif (decide (0 ≤ s12) && decide (s12 < (s11.length : Int))) then
      bif ((listAt s11 (Ty.dflt (.st 0)) s12.toNat).act == (0 : Int)) then
        bif (decide (0 ≤ (listAt s11 (Ty.dflt (.st 0)) s12.toNat).to) && decide ((listAt s11 (Ty.dflt (.st 0)) s12.toNat).to < (s9.length : Int))) then
          bif (decide (0 ≤ s8) && decide (s8 < (s9.length : Int))) then
            f115.j2' L N k1_e2 rec1 s8 s9 s10 s11 s12 ((listAt s9 (0 : Int) ((listAt s11 (Ty.dflt (.st 0)) s12.toNat).to).toNat) == (listAt s9 (0 : Int) s8.toNat)) s13 ((listAt s11 (Ty.dflt (.st 0)) s12.toNat).act) ((listAt s11 (Ty.dflt (.st 0)) s12.toNat).to) s14 s15 s16
          else none
        else none
      else f115.j2' L N k1_e2 rec1 s8 s9 s10 s11 s12 false s13 ((listAt s11 (Ty.dflt (.st 0)) s12.toNat).act) ((listAt s11 (Ty.dflt (.st 0)) s12.toNat).to) s14 s15 s16
    else none
  else k1_e2 s8 s9 s10 s13 s14 s15 s16
def f115.s1 {R : Type} (L N : Nat) (k1_e2 : Int → LI → Int → LLM → LI → LB → LM → Option R) (rec1 : Int → LI → Int → LM → Int → LLM → LI → LB → LM → Option R) (s8 : Int) (s9 : LI) (s10 : Int) (s11 : LM) (s12 : Int) (s13 : LLM) (s14 : LI) (s15 : LB) (s16 : LM) : Option R :=
  f115.s1' L N k1_e2 rec1 s8 s9 s10 s11 s12 s13 s14 s15 s16
def f115.l1 {R : Type} (L N : Nat) (k1_e2 : Int → LI → Int → LLM → LI → LB → LM → Option R) : Nat → Int → LI → Int → LM → Int → LLM → LI → LB → LM → Option R
  | 0, _, _, _, _, _, _, _, _, _ => none
  | n + 1, s8, s9, s10, s11, s12, s13, s14, s15, s16 => f115.s1 L N k1_e2 (f115.l1 L N k1_e2 n) s8 s9 s10 s11 s12 s13 s14 s15 s16
def f115.T1 (s8 : Int) (s9 : LI) (s10 : Int) (s11 : LM) (s12 : Int) (s13 : LLM) (s14 : LI) (s15 : LB) (s16 : LM) : T := mkT 96 [(1, (.tv i64 s8)), (2, (.tv (.sl i64) s9)), (3, (.ptr 1003 0)), (7, (.row 1016)), (8, (.row 1019)), (9, (.row 1023)), (10, (.tv i64 s10)), (11, (.tv (.sl (.st 0)) s11)), (12, (.tv i64 s12))]
def f115.H1 (s8 : Int) (s9 : LI) (s10 : Int) (s11 : LM) (s12 : Int) (s13 : LLM) (s14 : LI) (s15 : LB) (s16 : LM) : H := [(1003, (.box [(.tv (.sl (.sl (.st 0))) s13)])), (1016, (.row 3 i64 s14)), (1019, (.row 4 .bool s15)), (1023, (.row 53 (.st 0) s16))]
def f115.T1_e2 (z17 : Int) (z18 : LI) (z19 : Int) (z20 : LLM) (z21 : LI) (z22 : LB) (z23 : LM) : T := mkT 96 [(1, (.tv i64 z17)), (2, (.tv (.sl i64) z18)), (3, (.ptr 1003 0)), (7, (.row 1016)), (8, (.row 1019)), (9, (.row 1023)), (10, (.tv i64 z19))]
def f115.H1_e2 (z17 : Int) (z18 : LI) (z19 : Int) (z20 : LLM) (z21 : LI) (z22 : LB) (z23 : LM) : H := [(1003, (.box [(.tv (.sl (.sl (.st 0))) z20)])), (1016, (.row 3 i64 z21)), (1019, (.row 4 .bool z22)), (1023, (.row 53 (.st 0) z23))]
def f115.p1_e2' {R : Type} (L N : Nat) (k0_e0 : LM → Option R) (rec0 : Int → LI → Int → LLM → LI → LB → LM → Option R) (z17 : Int) (z18 : LI) (z19 : Int) (z20 : LLM) (z21 : LI) (z22 : LB) (z23 : LM) : Option R :=
  rec0 z17 z18 (wi (z19 + (1 : Int))) z20 z21 z22 z23
def f115.p1_e2 {R : Type} (L N : Nat) (k0_e0 : LM → Option R) (rec0 : Int → LI → Int → LLM → LI → LB → LM → Option R) (z17 : Int) (z18 : LI) (z19 : Int) (z20 : LLM) (z21 : LI) (z22 : LB) (z23 : LM) : Option R :=
  f115.p1_e2' L N k0_e0 rec0 z17 z18 z19 z20 z21 z22 z23
def f115.s0' {R : Type} (L N : Nat) (k0_e0 : LM → Option R) (rec0 : Int → LI → Int → LLM → LI → LB → LM → Option R) (w1 : Int → LI → Int → LM → Int → LLM → LI → LB → LM → Option R) (s0 : Int) (s1 : LI) (s2 : Int) (s3 : LLM) (s4 : LI) (s5 : LB) (s6 : LM) : Option R :=
  bif (decide (s2 < (s4.length : Int))) then
    bif (decide (0 ≤ s2) && decide (s2 < (s4.length : Int))) then
      bif (decide (0 ≤ (listAt s4 (0 : Int) s2.toNat)) && decide ((listAt s4 (0 : Int) s2.toNat) < (s3.length : Int))) then
        w1 s0 s1 s2 (listAt s3 [] (listAt s4 (0 : Int) s2.toNat).toNat) (0 : Int) s3 s4 s5 s6
      else none
    else none
  else k0_e0 s6
def f115.s0 {R : Type} (L N : Nat) (k0_e0 : LM → Option R) (rec0 : Int → LI → Int → LLM → LI → LB → LM → Option R) (s0 : Int) (s1 : LI) (s2 : Int) (s3 : LLM) (s4 : LI) (s5 : LB) (s6 : LM) : Option R :=
  f115.s0' L N k0_e0 rec0 (fun s8 s9 s10 s11 s12 s13 s14 s15 s16 => f115.l1 L N (fun z17 z18 z19 z20 z21 z22 z23 => f115.p1_e2 L N k0_e0 rec0 z17 z18 z19 z20 z21 z22 z23) L s8 s9 s10 s11 s12 s13 s14 s15 s16) s0 s1 s2 s3 s4 s5 s6
def f115.l0 {R : Type} (L N : Nat) (k0_e0 : LM → Option R) : Nat → Int → LI → Int → LLM → LI → LB → LM → Option R
  | 0, _, _, _, _, _, _, _ => none
  | n + 1, s0, s1, s2, s3, s4, s5, s6 => f115.s0 L N k0_e0 (f115.l0 L N k0_e0 n) s0 s1 s2 s3 s4 s5 s6
def f115.T0 (s0 : Int) (s1 : LI) (s2 : Int) (s3 : LLM) (s4 : LI) (s5 : LB) (s6 : LM) : T := mkT 96 [(1, (.tv i64 s0)), (2, (.tv (.sl i64) s1)), (3, (.ptr 1003 0)), (7, (.row 1016)), (8, (.row 1019)), (9, (.row 1023)), (10, (.tv i64 s2))]
def f115.H0 (s0 : Int) (s1 : LI) (s2 : Int) (s3 : LLM) (s4 : LI) (s5 : LB) (s6 : LM) : H := [(1003, (.box [(.tv (.sl (.sl (.st 0))) s3)])), (1016, (.row 3 i64 s4)), (1019, (.row 4 .bool s5)), (1023, (.row 53 (.st 0) s6))]
def f115.T0_e0 (z7 : LM) : T := mkT 96 [(9, (.row 1023))]
def f115.H0_e0 (z7 : LM) : H := [(1023, (.row 53 (.st 0) z7))]
def f115.p0_e0' {R : Type} (L N : Nat) (k : LM → Option R) (z7 : LM) : Option R :=
  (f123 L N z7).bind fun y69 =>
  k y69
def f115.p0_e0 {R : Type} (L N : Nat) (k : LM → Option R) (z7 : LM) : Option R :=
  f115.p0_e0' L N k z7
def f115.b' {R : Type} (L N : Nat) (k : LM → Option R) (w0 : Int → LI → Int → LLM → LI → LB → LM → Option R) (x0 : Graph) (x1 : Int) (x2 : LI) : Option R :=
  bif (decide (0 ≤ (x2.length : Int)) && decide ((x2.length : Int) ≤ (lim : Int))) then
    bif (decide (0 ≤ x1) && decide (x1 < ((List.replicate (x2.length : Int).toNat false).length : Int))) then
      w0 x1 x2 (0 : Int) x0.moves ([x1] : LI) ((List.replicate (x2.length : Int).toNat false).set x1.toNat true) ([] : LM)
    else none
  else none
def f115.b {R : Type} (L N : Nat) (k : LM → Option R) (x0 : Graph) (x1 : Int) (x2 : LI) : Option R :=
  f115.b' L N k (fun s0 s1 s2 s3 s4 s5 s6 => f115.l0 L N (fun z7 => f115.p0_e0 L N k z7) L s0 s1 s2 s3 s4 s5 s6) x0 x1 x2
def f115 (L N : Nat) (x0 : Graph) (x1 : Int) (x2 : LI) : Option (LM) := f115.b L N some x0 x1 x2
def f115.ent (L N : Nat) (args : List AV) (vw : View) (site : Nat) : Ans := match roD [(.st 2), i64, (.sl i64)] vw args with
  | some d => ⟨LM, f115 L N d.1 d.2.1 d.2.2.1, fun y => (RN.av site .row (), [(site, some (mkO none 53 (.st 0) y))], [])⟩
  | none => Ans.no
noncomputable def E115 (L N : Nat) : Env := { P := Try.prog, ty := tyOf, Φ := (Φ123 L N), inl := inlT, live := lives, liveX := livesX, L := L, dp := none, prom := promT, heal := healT, ren := renT }
noncomputable def f115.c0 : Code := loopAt 0 (codeOf Try.f115)
noncomputable def f115.c1 : Code := loopAt 2 f115.c0
theorem f115.s1_pre {R : Type} (L N : Nat) (κ : Ex → T → H → Option R) (rec : T → H → Option R) (s8 : Int) (s9 : LI) (s10 : Int) (s11 : LM) (s12 : Int) (s13 : LLM) (s14 : LI) (s15 : LB) (s16 : LM) :
    evRd (E115 L N) (evCallI (E115 L N) 1 2000) 1000 115 96 2 f115.c1 κ rec (f115.T1 s8 s9 s10 s11 s12 s13 s14 s15 s16) (f115.H1 s8 s9 s10 s11 s12 s13 s14 s15 s16)
    = f115.s1' L N (fun z17 z18 z19 z20 z21 z22 z23 => κ (.exit 2) (f115.T1_e2 z17 z18 z19 z20 z21 z22 z23) (f115.H1_e2 z17 z18 z19 z20 z21 z22 z23)) (fun s8 s9 s10 s11 s12 s13 s14 s15 s16 => rec (f115.T1 s8 s9 s10 s11 s12 s13 s14 s15 s16) (f115.H1 s8 s9 s10 s11 s12 s13 s14 s15 s16)) s8 s9 s10 s11 s12 s13 s14 s15 s16 := by kernel_rfl
theorem f115.s1_eq {R : Type} (L N : Nat) (κ : Ex → T → H → Option R) (rec : T → H → Option R) (s8 : Int) (s9 : LI) (s10 : Int) (s11 : LM) (s12 : Int) (s13 : LLM) (s14 : LI) (s15 : LB) (s16 : LM) :
    evRd (E115 L N) (evCallI (E115 L N) 1 2000) 1000 115 96 2 f115.c1 κ rec (f115.T1 s8 s9 s10 s11 s12 s13 s14 s15 s16) (f115.H1 s8 s9 s10 s11 s12 s13 s14 s15 s16)
    = f115.s1 L N (fun z17 z18 z19 z20 z21 z22 z23 => κ (.exit 2) (f115.T1_e2 z17 z18 z19 z20 z21 z22 z23) (f115.H1_e2 z17 z18 z19 z20 z21 z22 z23)) (fun s8 s9 s10 s11 s12 s13 s14 s15 s16 => rec (f115.T1 s8 s9 s10 s11 s12 s13 s14 s15 s16) (f115.H1 s8 s9 s10 s11 s12 s13 s14 s15 s16)) s8 s9 s10 s11 s12 s13 s14 s15 s16 := by
  rw [f115.s1_pre]
  unfold f115.s1
  rfl
theorem f115.l1_eq {R : Type} (L N : Nat) (κ : Ex → T → H → Option R) : ∀ (n : Nat) (s8 : Int) (s9 : LI) (s10 : Int) (s11 : LM) (s12 : Int) (s13 : LLM) (s14 : LI) (s15 : LB) (s16 : LM),
    evLp (E115 L N) (evCallI (E115 L N) 1 2000) 1000 115 96 2 f115.c1 κ n (f115.T1 s8 s9 s10 s11 s12 s13 s14 s15 s16) (f115.H1 s8 s9 s10 s11 s12 s13 s14 s15 s16)
    = f115.l1 L N (fun z17 z18 z19 z20 z21 z22 z23 => κ (.exit 2) (f115.T1_e2 z17 z18 z19 z20 z21 z22 z23) (f115.H1_e2 z17 z18 z19 z20 z21 z22 z23)) n s8 s9 s10 s11 s12 s13 s14 s15 s16 := by
  intro n
  induction n with
  | zero => intros; rfl
  | succ n ih =>
    intro s8 s9 s10 s11 s12 s13 s14 s15 s16
    rw [evLp_succ, f115.s1_eq]
    simp only [ih]
    rfl
theorem f115.p1_e2_pre {R : Type} (L N : Nat) (κ : Ex → T → H → Option R) (rec : T → H → Option R) (z17 : Int) (z18 : LI) (z19 : Int) (z20 : LLM) (z21 : LI) (z22 : LB) (z23 : LM) :
    (contAt (E115 L N) (evCallI (E115 L N) 1 2000) 1000 115 96 2 f115.c0 (stepK (outK (keepT 96 ((E115 L N).liveX 115 0).1) (keepH 1000 ((E115 L N).liveX 115 0).2) κ) fun t h => rec (backK 1000 96 ((E115 L N).live 115 0).1 ((E115 L N).live 115 0).2 ((E115 L N).heal 115 0) ((E115 L N).ren 115 0) t h).1 (backK 1000 96 ((E115 L N).live 115 0).1 ((E115 L N).live 115 0).2 ((E115 L N).heal 115 0) ((E115 L N).ren 115 0) t h).2)) (.exit 2) (f115.T1_e2 z17 z18 z19 z20 z21 z22 z23) (f115.H1_e2 z17 z18 z19 z20 z21 z22 z23)
    = f115.p1_e2' L N (fun z7 => κ (.exit 0) (f115.T0_e0 z7) (f115.H0_e0 z7)) (fun s0 s1 s2 s3 s4 s5 s6 => rec (f115.T0 s0 s1 s2 s3 s4 s5 s6) (f115.H0 s0 s1 s2 s3 s4 s5 s6)) z17 z18 z19 z20 z21 z22 z23 := by kernel_rfl
theorem f115.p1_e2_eq {R : Type} (L N : Nat) (κ : Ex → T → H → Option R) (rec : T → H → Option R) (z17 : Int) (z18 : LI) (z19 : Int) (z20 : LLM) (z21 : LI) (z22 : LB) (z23 : LM) :
    (contAt (E115 L N) (evCallI (E115 L N) 1 2000) 1000 115 96 2 f115.c0 (stepK (outK (keepT 96 ((E115 L N).liveX 115 0).1) (keepH 1000 ((E115 L N).liveX 115 0).2) κ) fun t h => rec (backK 1000 96 ((E115 L N).live 115 0).1 ((E115 L N).live 115 0).2 ((E115 L N).heal 115 0) ((E115 L N).ren 115 0) t h).1 (backK 1000 96 ((E115 L N).live 115 0).1 ((E115 L N).live 115 0).2 ((E115 L N).heal 115 0) ((E115 L N).ren 115 0) t h).2)) (.exit 2) (f115.T1_e2 z17 z18 z19 z20 z21 z22 z23) (f115.H1_e2 z17 z18 z19 z20 z21 z22 z23)
    = f115.p1_e2 L N (fun z7 => κ (.exit 0) (f115.T0_e0 z7) (f115.H0_e0 z7)) (fun s0 s1 s2 s3 s4 s5 s6 => rec (f115.T0 s0 s1 s2 s3 s4 s5 s6) (f115.H0 s0 s1 s2 s3 s4 s5 s6)) z17 z18 z19 z20 z21 z22 z23 := by
  rw [f115.p1_e2_pre]
  unfold f115.p1_e2
  rfl
theorem f115.s0_pre {R : Type} (L N : Nat) (κ : Ex → T → H → Option R) (rec : T → H → Option R) (s0 : Int) (s1 : LI) (s2 : Int) (s3 : LLM) (s4 : LI) (s5 : LB) (s6 : LM) :
    evRd (E115 L N) (evCallI (E115 L N) 1 2000) 1000 115 96 0 f115.c0 κ rec (f115.T0 s0 s1 s2 s3 s4 s5 s6) (f115.H0 s0 s1 s2 s3 s4 s5 s6)
    = f115.s0' L N (fun z7 => κ (.exit 0) (f115.T0_e0 z7) (f115.H0_e0 z7)) (fun s0 s1 s2 s3 s4 s5 s6 => rec (f115.T0 s0 s1 s2 s3 s4 s5 s6) (f115.H0 s0 s1 s2 s3 s4 s5 s6)) (fun s8 s9 s10 s11 s12 s13 s14 s15 s16 => evLp (E115 L N) (evCallI (E115 L N) 1 2000) 1000 115 96 2 f115.c1 (contAt (E115 L N) (evCallI (E115 L N) 1 2000) 1000 115 96 2 f115.c0 (stepK (outK (keepT 96 ((E115 L N).liveX 115 0).1) (keepH 1000 ((E115 L N).liveX 115 0).2) κ) fun t h => rec (backK 1000 96 ((E115 L N).live 115 0).1 ((E115 L N).live 115 0).2 ((E115 L N).heal 115 0) ((E115 L N).ren 115 0) t h).1 (backK 1000 96 ((E115 L N).live 115 0).1 ((E115 L N).live 115 0).2 ((E115 L N).heal 115 0) ((E115 L N).ren 115 0) t h).2)) L (f115.T1 s8 s9 s10 s11 s12 s13 s14 s15 s16) (f115.H1 s8 s9 s10 s11 s12 s13 s14 s15 s16)) s0 s1 s2 s3 s4 s5 s6 := by kernel_rfl
theorem f115.s0_eq {R : Type} (L N : Nat) (κ : Ex → T → H → Option R) (rec : T → H → Option R) (s0 : Int) (s1 : LI) (s2 : Int) (s3 : LLM) (s4 : LI) (s5 : LB) (s6 : LM) :
    evRd (E115 L N) (evCallI (E115 L N) 1 2000) 1000 115 96 0 f115.c0 κ rec (f115.T0 s0 s1 s2 s3 s4 s5 s6) (f115.H0 s0 s1 s2 s3 s4 s5 s6)
    = f115.s0 L N (fun z7 => κ (.exit 0) (f115.T0_e0 z7) (f115.H0_e0 z7)) (fun s0 s1 s2 s3 s4 s5 s6 => rec (f115.T0 s0 s1 s2 s3 s4 s5 s6) (f115.H0 s0 s1 s2 s3 s4 s5 s6)) s0 s1 s2 s3 s4 s5 s6 := by
  rw [f115.s0_pre]
  unfold f115.s0
  simp only [f115.l1_eq, f115.p1_e2_eq]
theorem f115.l0_eq {R : Type} (L N : Nat) (κ : Ex → T → H → Option R) : ∀ (n : Nat) (s0 : Int) (s1 : LI) (s2 : Int) (s3 : LLM) (s4 : LI) (s5 : LB) (s6 : LM),
    evLp (E115 L N) (evCallI (E115 L N) 1 2000) 1000 115 96 0 f115.c0 κ n (f115.T0 s0 s1 s2 s3 s4 s5 s6) (f115.H0 s0 s1 s2 s3 s4 s5 s6)
    = f115.l0 L N (fun z7 => κ (.exit 0) (f115.T0_e0 z7) (f115.H0_e0 z7)) n s0 s1 s2 s3 s4 s5 s6 := by
  intro n
  induction n with
  | zero => intros; rfl
  | succ n ih =>
    intro s0 s1 s2 s3 s4 s5 s6
    rw [evLp_succ, f115.s0_eq]
    simp only [ih]
    rfl
theorem f115.p0_e0_pre {R : Type} (L N : Nat) (κ : RN.Den .row → List Move → Option R) (z7 : LM) :
    (contAt (E115 L N) (evCallI (E115 L N) 1 2000) 1000 115 96 0 (codeOf Try.f115) (finK (E115 L N) 1000 Try.f115 (finN .row none 53 (.st 0) κ))) (.exit 0) (f115.T0_e0 z7) (f115.H0_e0 z7)
    = f115.p0_e0' L N (fun a0 => κ () a0) z7 := by kernel_rfl
theorem f115.p0_e0_eq {R : Type} (L N : Nat) (κ : RN.Den .row → List Move → Option R) (z7 : LM) :
    (contAt (E115 L N) (evCallI (E115 L N) 1 2000) 1000 115 96 0 (codeOf Try.f115) (finK (E115 L N) 1000 Try.f115 (finN .row none 53 (.st 0) κ))) (.exit 0) (f115.T0_e0 z7) (f115.H0_e0 z7)
    = f115.p0_e0 L N (fun a0 => κ () a0) z7 := by
  rw [f115.p0_e0_pre]
  unfold f115.p0_e0
  rfl
theorem f115.b_pre {R : Type} (L N : Nat) (κ : RN.Den .row → List Move → Option R) (x0 : Graph) (x1 : Int) (x2 : LI) :
    evBody (E115 L N) (evCallI (E115 L N) 1 2000) 1000 115 Try.f115 [(.tv (.st 2) x0), (.tv i64 x1), (.tv (.sl i64) x2)] [] [] (finN .row none 53 (.st 0) κ)
    = f115.b' L N (fun a0 => κ () a0) (fun s0 s1 s2 s3 s4 s5 s6 => evLp (E115 L N) (evCallI (E115 L N) 1 2000) 1000 115 96 0 f115.c0 (contAt (E115 L N) (evCallI (E115 L N) 1 2000) 1000 115 96 0 (codeOf Try.f115) (finK (E115 L N) 1000 Try.f115 (finN .row none 53 (.st 0) κ))) L (f115.T0 s0 s1 s2 s3 s4 s5 s6) (f115.H0 s0 s1 s2 s3 s4 s5 s6)) x0 x1 x2 := by kernel_rfl
theorem f115.b_eq {R : Type} (L N : Nat) (κ : RN.Den .row → List Move → Option R) (x0 : Graph) (x1 : Int) (x2 : LI) :
    evBody (E115 L N) (evCallI (E115 L N) 1 2000) 1000 115 Try.f115 [(.tv (.st 2) x0), (.tv i64 x1), (.tv (.sl i64) x2)] [] [] (finN .row none 53 (.st 0) κ)
    = f115.b L N (fun a0 => κ () a0) x0 x1 x2 := by
  rw [f115.b_pre]
  unfold f115.b
  simp only [f115.l0_eq, f115.p0_e0_eq]
theorem f115.j0'_nat {R R' : Type} (j : R → Option R') (L N : Nat) (k1_e2 : Int → LI → Int → LLM → LI → LB → LM → Option R) (rec1 : Int → LI → Int → LM → Int → LLM → LI → LB → LM → Option R) (v48 : Int) (v49 : LI) (v50 : Int) (v51 : LM) (v52 : Int) (v53 : Bool) (v54 : LLM) (v55 : Int) (v56 : Int) (v57 : LI) (v58 : LB) (v59 : LM) :
    f115.j0' L N (fun a0 a1 a2 a3 a4 a5 a6 => (k1_e2 a0 a1 a2 a3 a4 a5 a6).bind j) (fun a0 a1 a2 a3 a4 a5 a6 a7 a8 => (rec1 a0 a1 a2 a3 a4 a5 a6 a7 a8).bind j) v48 v49 v50 v51 v52 v53 v54 v55 v56 v57 v58 v59 = (f115.j0' L N k1_e2 rec1 v48 v49 v50 v51 v52 v53 v54 v55 v56 v57 v58 v59).bind j := by
  unfold f115.j0'
  repeat' (first | (with_reducible refine cond_nat ?_ ?_) | (with_reducible refine bind_nat fun _ => ?_) | rfl)
theorem f115.j1'_nat {R R' : Type} (j : R → Option R') (L N : Nat) (k1_e2 : Int → LI → Int → LLM → LI → LB → LM → Option R) (rec1 : Int → LI → Int → LM → Int → LLM → LI → LB → LM → Option R) (v36 : Int) (v37 : LI) (v38 : Int) (v39 : LM) (v40 : Int) (v41 : Bool) (v42 : LLM) (v43 : Int) (v44 : Int) (v45 : LI) (v46 : LB) (v47 : LM) :
    f115.j1' L N (fun a0 a1 a2 a3 a4 a5 a6 => (k1_e2 a0 a1 a2 a3 a4 a5 a6).bind j) (fun a0 a1 a2 a3 a4 a5 a6 a7 a8 => (rec1 a0 a1 a2 a3 a4 a5 a6 a7 a8).bind j) v36 v37 v38 v39 v40 v41 v42 v43 v44 v45 v46 v47 = (f115.j1' L N k1_e2 rec1 v36 v37 v38 v39 v40 v41 v42 v43 v44 v45 v46 v47).bind j := by
  unfold f115.j1'
  repeat' (first | (with_reducible refine cond_nat ?_ ?_) | (with_reducible refine bind_nat fun _ => ?_) | exact f115.j0'_nat .. | rfl)
theorem f115.j2'_nat {R R' : Type} (j : R → Option R') (L N : Nat) (k1_e2 : Int → LI → Int → LLM → LI → LB → LM → Option R) (rec1 : Int → LI → Int → LM → Int → LLM → LI → LB → LM → Option R) (v24 : Int) (v25 : LI) (v26 : Int) (v27 : LM) (v28 : Int) (v29 : Bool) (v30 : LLM) (v31 : Int) (v32 : Int) (v33 : LI) (v34 : LB) (v35 : LM) :
    f115.j2' L N (fun a0 a1 a2 a3 a4 a5 a6 => (k1_e2 a0 a1 a2 a3 a4 a5 a6).bind j) (fun a0 a1 a2 a3 a4 a5 a6 a7 a8 => (rec1 a0 a1 a2 a3 a4 a5 a6 a7 a8).bind j) v24 v25 v26 v27 v28 v29 v30 v31 v32 v33 v34 v35 = (f115.j2' L N k1_e2 rec1 v24 v25 v26 v27 v28 v29 v30 v31 v32 v33 v34 v35).bind j := by
  unfold f115.j2'
  repeat' (first | (with_reducible refine cond_nat ?_ ?_) | (with_reducible refine bind_nat fun _ => ?_) | exact f115.j0'_nat .. | exact f115.j1'_nat .. | rfl)
theorem f115.s1'_nat {R R' : Type} (j : R → Option R') (L N : Nat) (k1_e2 : Int → LI → Int → LLM → LI → LB → LM → Option R) (rec1 : Int → LI → Int → LM → Int → LLM → LI → LB → LM → Option R) (s8 : Int) (s9 : LI) (s10 : Int) (s11 : LM) (s12 : Int) (s13 : LLM) (s14 : LI) (s15 : LB) (s16 : LM) :
    f115.s1' L N (fun a0 a1 a2 a3 a4 a5 a6 => (k1_e2 a0 a1 a2 a3 a4 a5 a6).bind j) (fun a0 a1 a2 a3 a4 a5 a6 a7 a8 => (rec1 a0 a1 a2 a3 a4 a5 a6 a7 a8).bind j) s8 s9 s10 s11 s12 s13 s14 s15 s16 = (f115.s1' L N k1_e2 rec1 s8 s9 s10 s11 s12 s13 s14 s15 s16).bind j := by
  unfold f115.s1'
  repeat' (first | (with_reducible refine cond_nat ?_ ?_) | (with_reducible refine bind_nat fun _ => ?_) | exact f115.j0'_nat .. | exact f115.j1'_nat .. | exact f115.j2'_nat .. | rfl)
theorem f115.s1_nat {R R' : Type} (j : R → Option R') (L N : Nat) (k1_e2 : Int → LI → Int → LLM → LI → LB → LM → Option R) (rec1 : Int → LI → Int → LM → Int → LLM → LI → LB → LM → Option R) (s8 : Int) (s9 : LI) (s10 : Int) (s11 : LM) (s12 : Int) (s13 : LLM) (s14 : LI) (s15 : LB) (s16 : LM) :
    f115.s1 L N (fun a0 a1 a2 a3 a4 a5 a6 => (k1_e2 a0 a1 a2 a3 a4 a5 a6).bind j) (fun a0 a1 a2 a3 a4 a5 a6 a7 a8 => (rec1 a0 a1 a2 a3 a4 a5 a6 a7 a8).bind j) s8 s9 s10 s11 s12 s13 s14 s15 s16 = (f115.s1 L N k1_e2 rec1 s8 s9 s10 s11 s12 s13 s14 s15 s16).bind j := by
  unfold f115.s1
  exact f115.s1'_nat ..
theorem f115.l1_nat {R R' : Type} (j : R → Option R') (L N : Nat) (k1_e2 : Int → LI → Int → LLM → LI → LB → LM → Option R) : ∀ (n : Nat) (s8 : Int) (s9 : LI) (s10 : Int) (s11 : LM) (s12 : Int) (s13 : LLM) (s14 : LI) (s15 : LB) (s16 : LM),
    f115.l1 L N (fun a0 a1 a2 a3 a4 a5 a6 => (k1_e2 a0 a1 a2 a3 a4 a5 a6).bind j) n s8 s9 s10 s11 s12 s13 s14 s15 s16 = (f115.l1 L N k1_e2 n s8 s9 s10 s11 s12 s13 s14 s15 s16).bind j := by
  intro n
  induction n with
  | zero => intros; rfl
  | succ n ih =>
    intro s8 s9 s10 s11 s12 s13 s14 s15 s16
    show f115.s1 L N (fun a0 a1 a2 a3 a4 a5 a6 => (k1_e2 a0 a1 a2 a3 a4 a5 a6).bind j) (f115.l1 L N (fun a0 a1 a2 a3 a4 a5 a6 => (k1_e2 a0 a1 a2 a3 a4 a5 a6).bind j) n) s8 s9 s10 s11 s12 s13 s14 s15 s16 = _
    rw [show f115.l1 L N (fun a0 a1 a2 a3 a4 a5 a6 => (k1_e2 a0 a1 a2 a3 a4 a5 a6).bind j) n = (fun s8 s9 s10 s11 s12 s13 s14 s15 s16 => (f115.l1 L N k1_e2 n s8 s9 s10 s11 s12 s13 s14 s15 s16).bind j) from funext fun s8 => funext fun s9 => funext fun s10 => funext fun s11 => funext fun s12 => funext fun s13 => funext fun s14 => funext fun s15 => funext fun s16 => ih s8 s9 s10 s11 s12 s13 s14 s15 s16]
    exact f115.s1_nat ..
theorem f115.p1_e2'_nat {R R' : Type} (j : R → Option R') (L N : Nat) (k0_e0 : LM → Option R) (rec0 : Int → LI → Int → LLM → LI → LB → LM → Option R) (z17 : Int) (z18 : LI) (z19 : Int) (z20 : LLM) (z21 : LI) (z22 : LB) (z23 : LM) :
    f115.p1_e2' L N (fun a0 => (k0_e0 a0).bind j) (fun a0 a1 a2 a3 a4 a5 a6 => (rec0 a0 a1 a2 a3 a4 a5 a6).bind j) z17 z18 z19 z20 z21 z22 z23 = (f115.p1_e2' L N k0_e0 rec0 z17 z18 z19 z20 z21 z22 z23).bind j := by
  unfold f115.p1_e2'
  repeat' (first | (with_reducible refine cond_nat ?_ ?_) | (with_reducible refine bind_nat fun _ => ?_) | rfl)
theorem f115.p1_e2_nat {R R' : Type} (j : R → Option R') (L N : Nat) (k0_e0 : LM → Option R) (rec0 : Int → LI → Int → LLM → LI → LB → LM → Option R) (z17 : Int) (z18 : LI) (z19 : Int) (z20 : LLM) (z21 : LI) (z22 : LB) (z23 : LM) :
    f115.p1_e2 L N (fun a0 => (k0_e0 a0).bind j) (fun a0 a1 a2 a3 a4 a5 a6 => (rec0 a0 a1 a2 a3 a4 a5 a6).bind j) z17 z18 z19 z20 z21 z22 z23 = (f115.p1_e2 L N k0_e0 rec0 z17 z18 z19 z20 z21 z22 z23).bind j := by
  unfold f115.p1_e2
  exact f115.p1_e2'_nat ..
theorem f115.s0'_nat {R R' : Type} (j : R → Option R') (L N : Nat) (k0_e0 : LM → Option R) (rec0 : Int → LI → Int → LLM → LI → LB → LM → Option R) (w1 : Int → LI → Int → LM → Int → LLM → LI → LB → LM → Option R) (s0 : Int) (s1 : LI) (s2 : Int) (s3 : LLM) (s4 : LI) (s5 : LB) (s6 : LM) :
    f115.s0' L N (fun a0 => (k0_e0 a0).bind j) (fun a0 a1 a2 a3 a4 a5 a6 => (rec0 a0 a1 a2 a3 a4 a5 a6).bind j) (fun a0 a1 a2 a3 a4 a5 a6 a7 a8 => (w1 a0 a1 a2 a3 a4 a5 a6 a7 a8).bind j) s0 s1 s2 s3 s4 s5 s6 = (f115.s0' L N k0_e0 rec0 w1 s0 s1 s2 s3 s4 s5 s6).bind j := by
  unfold f115.s0'
  repeat' (first | (with_reducible refine cond_nat ?_ ?_) | (with_reducible refine bind_nat fun _ => ?_) | rfl)
theorem f115.s0_nat {R R' : Type} (j : R → Option R') (L N : Nat) (k0_e0 : LM → Option R) (rec0 : Int → LI → Int → LLM → LI → LB → LM → Option R) (s0 : Int) (s1 : LI) (s2 : Int) (s3 : LLM) (s4 : LI) (s5 : LB) (s6 : LM) :
    f115.s0 L N (fun a0 => (k0_e0 a0).bind j) (fun a0 a1 a2 a3 a4 a5 a6 => (rec0 a0 a1 a2 a3 a4 a5 a6).bind j) s0 s1 s2 s3 s4 s5 s6 = (f115.s0 L N k0_e0 rec0 s0 s1 s2 s3 s4 s5 s6).bind j := by
  unfold f115.s0
  simp only [f115.l1_nat, f115.p1_e2_nat]
  exact f115.s0'_nat ..
theorem f115.l0_nat {R R' : Type} (j : R → Option R') (L N : Nat) (k0_e0 : LM → Option R) : ∀ (n : Nat) (s0 : Int) (s1 : LI) (s2 : Int) (s3 : LLM) (s4 : LI) (s5 : LB) (s6 : LM),
    f115.l0 L N (fun a0 => (k0_e0 a0).bind j) n s0 s1 s2 s3 s4 s5 s6 = (f115.l0 L N k0_e0 n s0 s1 s2 s3 s4 s5 s6).bind j := by
  intro n
  induction n with
  | zero => intros; rfl
  | succ n ih =>
    intro s0 s1 s2 s3 s4 s5 s6
    show f115.s0 L N (fun a0 => (k0_e0 a0).bind j) (f115.l0 L N (fun a0 => (k0_e0 a0).bind j) n) s0 s1 s2 s3 s4 s5 s6 = _
    rw [show f115.l0 L N (fun a0 => (k0_e0 a0).bind j) n = (fun s0 s1 s2 s3 s4 s5 s6 => (f115.l0 L N k0_e0 n s0 s1 s2 s3 s4 s5 s6).bind j) from funext fun s0 => funext fun s1 => funext fun s2 => funext fun s3 => funext fun s4 => funext fun s5 => funext fun s6 => ih s0 s1 s2 s3 s4 s5 s6]
    exact f115.s0_nat ..
theorem f115.p0_e0'_nat {R R' : Type} (j : R → Option R') (L N : Nat) (k : LM → Option R) (z7 : LM) :
    f115.p0_e0' L N (fun a0 => (k a0).bind j) z7 = (f115.p0_e0' L N k z7).bind j := by
  unfold f115.p0_e0'
  repeat' (first | (with_reducible refine cond_nat ?_ ?_) | (with_reducible refine bind_nat fun _ => ?_) | rfl)
theorem f115.p0_e0_nat {R R' : Type} (j : R → Option R') (L N : Nat) (k : LM → Option R) (z7 : LM) :
    f115.p0_e0 L N (fun a0 => (k a0).bind j) z7 = (f115.p0_e0 L N k z7).bind j := by
  unfold f115.p0_e0
  exact f115.p0_e0'_nat ..
theorem f115.b'_nat {R R' : Type} (j : R → Option R') (L N : Nat) (k : LM → Option R) (w0 : Int → LI → Int → LLM → LI → LB → LM → Option R) (x0 : Graph) (x1 : Int) (x2 : LI) :
    f115.b' L N (fun a0 => (k a0).bind j) (fun a0 a1 a2 a3 a4 a5 a6 => (w0 a0 a1 a2 a3 a4 a5 a6).bind j) x0 x1 x2 = (f115.b' L N k w0 x0 x1 x2).bind j := by
  unfold f115.b'
  repeat' (first | (with_reducible refine cond_nat ?_ ?_) | (with_reducible refine bind_nat fun _ => ?_) | rfl)
theorem f115.b_nat {R R' : Type} (j : R → Option R') (L N : Nat) (k : LM → Option R) (x0 : Graph) (x1 : Int) (x2 : LI) :
    f115.b L N (fun a0 => (k a0).bind j) x0 x1 x2 = (f115.b L N k x0 x1 x2).bind j := by
  unfold f115.b
  simp only [f115.l0_nat, f115.p0_e0_nat]
  exact f115.b'_nat ..
theorem f115.ok (L N : Nat) (hΦ : TellsOk Try.prog ((Φ123 L N))) : EntOk Try.prog 115 (f115.ent L N) := by
  intro args vw site h
  unfold f115.ent
  split
  · rename_i d ha
    intro y hy hs
    refine call_ron (dep := 1000) (E := (E115 L N)) (ts := [(.st 2), i64, (.sl i64)]) (rn := .row) (q := none) (el := 53) (ty := (.st 0)) (d1 := ()) (xs := y) (sound_of hΦ) okP (callI_sound (sound_of hΦ) okP 1 2000) (f := Try.f115) rfl hs ha ?_ rfl site
    refine (f115.b_eq L N (fun d xs => some (d, xs)) d.1 d.2.1 d.2.2.1).trans ?_
    refine ((f115.b_nat (fun y => (some ((), y) : Option (RN.Den .row × List Move))) L N some d.1 d.2.1 d.2.2.1)).trans ?_
    rw [show f115.b L N some d.1 d.2.1 d.2.2.1 = some y from hy]
    rfl
  · intro y hy
    cases hy
def Φ115 (L N : Nat) : Tells := (addT (Φ123 L N) 115 (f115.ent L N))
theorem Φ115_ok (L N : Nat) : TellsOk Try.prog (Φ115 L N) := addT_ok (Φ123_ok L N) (f115.ok L N (Φ123_ok L N))
def f116.s0' {R : Type} (L N : Nat) (k0_e0 : Option R) (k0_r : Bool → Option R) (rec0 : LI → LI → Int → Option R) (s0 : LI) (s1 : LI) (s2 : Int) : Option R :=
  bif (decide (s2 < (s0.length : Int))) then
    bif (decide (0 ≤ s2) && decide (s2 < (s0.length : Int))) then
      bif (decide (0 ≤ s2) && decide (s2 < (s1.length : Int))) then
        bif ((listAt s0 (0 : Int) s2.toNat) != (listAt s1 (0 : Int) s2.toNat)) then
          k0_r false
        else rec0 s0 s1 (wi (s2 + (1 : Int)))
      else none
    else none
  else k0_e0
def f116.s0 {R : Type} (L N : Nat) (k0_e0 : Option R) (k0_r : Bool → Option R) (rec0 : LI → LI → Int → Option R) (s0 : LI) (s1 : LI) (s2 : Int) : Option R :=
  f116.s0' L N k0_e0 k0_r rec0 s0 s1 s2
def f116.l0 {R : Type} (L N : Nat) (k0_e0 : Option R) (k0_r : Bool → Option R) : Nat → LI → LI → Int → Option R
  | 0, _, _, _ => none
  | n + 1, s0, s1, s2 => f116.s0 L N k0_e0 k0_r (f116.l0 L N k0_e0 k0_r n) s0 s1 s2
def f116.T0 (s0 : LI) (s1 : LI) (s2 : Int) : T := mkT 26 [(0, (.tv (.sl i64) s0)), (1, (.tv (.sl i64) s1)), (5, (.tv i64 s2))]
def f116.H0 (s0 : LI) (s1 : LI) (s2 : Int) : H := []
def f116.T0_e0 : T := mkT 26 []
def f116.H0_e0 : H := []
def f116.T0_r (z3 : Bool) : T := mkT 26 [(4, (.tv .bool z3))]
def f116.H0_r (z3 : Bool) : H := []
def f116.p0_e0' {R : Type} (L N : Nat) (k : Bool → Option R) : Option R :=
  k true
def f116.p0_e0 {R : Type} (L N : Nat) (k : Bool → Option R) : Option R :=
  f116.p0_e0' L N k
def f116.p0_r' {R : Type} (L N : Nat) (k : Bool → Option R) (z3 : Bool) : Option R :=
  k z3
def f116.p0_r {R : Type} (L N : Nat) (k : Bool → Option R) (z3 : Bool) : Option R :=
  f116.p0_r' L N k z3
def f116.b' {R : Type} (L N : Nat) (k : Bool → Option R) (w0 : LI → LI → Int → Option R) (x0 : LI) (x1 : LI) : Option R :=
  bif ((x0.length : Int) != (x1.length : Int)) then
    k false
  else w0 x0 x1 (0 : Int)
def f116.b {R : Type} (L N : Nat) (k : Bool → Option R) (x0 : LI) (x1 : LI) : Option R :=
  f116.b' L N k (fun s0 s1 s2 => f116.l0 L N (f116.p0_e0 L N k) (fun z3 => f116.p0_r L N k z3) L s0 s1 s2) x0 x1
def f116 (L N : Nat) (x0 : LI) (x1 : LI) : Option (Bool) := f116.b L N some x0 x1
def f116.ent (L N : Nat) (args : List AV) (vw : View) (site : Nat) : Ans := match roD [(.sl i64), (.sl i64)] vw args with
  | some d => ⟨Bool, f116 L N d.1 d.2.1, fun y => ((.tv .bool y), [], [])⟩
  | none => Ans.no
noncomputable def E116 (L N : Nat) : Env := { P := Try.prog, ty := tyOf, Φ := (Φ115 L N), inl := inlT, live := lives, liveX := livesX, L := L, dp := none, prom := promT, heal := healT, ren := renT }
noncomputable def f116.c0 : Code := loopAt 0 (codeOf Try.f116)
theorem f116.s0_pre {R : Type} (L N : Nat) (κ : Ex → T → H → Option R) (rec : T → H → Option R) (s0 : LI) (s1 : LI) (s2 : Int) :
    evRd (E116 L N) (evCallI (E116 L N) 1 2000) 1000 116 26 0 f116.c0 κ rec (f116.T0 s0 s1 s2) (f116.H0 s0 s1 s2)
    = f116.s0' L N (κ (.exit 0) f116.T0_e0 f116.H0_e0) (fun z3 => κ .ret (f116.T0_r z3) (f116.H0_r z3)) (fun s0 s1 s2 => rec (f116.T0 s0 s1 s2) (f116.H0 s0 s1 s2)) s0 s1 s2 := by kernel_rfl
theorem f116.s0_eq {R : Type} (L N : Nat) (κ : Ex → T → H → Option R) (rec : T → H → Option R) (s0 : LI) (s1 : LI) (s2 : Int) :
    evRd (E116 L N) (evCallI (E116 L N) 1 2000) 1000 116 26 0 f116.c0 κ rec (f116.T0 s0 s1 s2) (f116.H0 s0 s1 s2)
    = f116.s0 L N (κ (.exit 0) f116.T0_e0 f116.H0_e0) (fun z3 => κ .ret (f116.T0_r z3) (f116.H0_r z3)) (fun s0 s1 s2 => rec (f116.T0 s0 s1 s2) (f116.H0 s0 s1 s2)) s0 s1 s2 := by
  rw [f116.s0_pre]
  unfold f116.s0
  rfl
theorem f116.l0_eq {R : Type} (L N : Nat) (κ : Ex → T → H → Option R) : ∀ (n : Nat) (s0 : LI) (s1 : LI) (s2 : Int),
    evLp (E116 L N) (evCallI (E116 L N) 1 2000) 1000 116 26 0 f116.c0 κ n (f116.T0 s0 s1 s2) (f116.H0 s0 s1 s2)
    = f116.l0 L N (κ (.exit 0) f116.T0_e0 f116.H0_e0) (fun z3 => κ .ret (f116.T0_r z3) (f116.H0_r z3)) n s0 s1 s2 := by
  intro n
  induction n with
  | zero => intros; rfl
  | succ n ih =>
    intro s0 s1 s2
    rw [evLp_succ, f116.s0_eq]
    simp only [ih]
    rfl
theorem f116.p0_e0_pre {R : Type} (L N : Nat) (κ : AV → Option R) :
    (contAt (E116 L N) (evCallI (E116 L N) 1 2000) 1000 116 26 0 (codeOf Try.f116) (finK (E116 L N) 1000 Try.f116 (finC (.one .bool) κ))) (.exit 0) f116.T0_e0 f116.H0_e0
    = f116.p0_e0' L N (fun a0 => κ (.tv .bool a0)) := by kernel_rfl
theorem f116.p0_e0_eq {R : Type} (L N : Nat) (κ : AV → Option R) :
    (contAt (E116 L N) (evCallI (E116 L N) 1 2000) 1000 116 26 0 (codeOf Try.f116) (finK (E116 L N) 1000 Try.f116 (finC (.one .bool) κ))) (.exit 0) f116.T0_e0 f116.H0_e0
    = f116.p0_e0 L N (fun a0 => κ (.tv .bool a0)) := by
  rw [f116.p0_e0_pre]
  unfold f116.p0_e0
  rfl
theorem f116.p0_r_pre {R : Type} (L N : Nat) (κ : AV → Option R) (z3 : Bool) :
    (contAt (E116 L N) (evCallI (E116 L N) 1 2000) 1000 116 26 0 (codeOf Try.f116) (finK (E116 L N) 1000 Try.f116 (finC (.one .bool) κ))) .ret (f116.T0_r z3) (f116.H0_r z3)
    = f116.p0_r' L N (fun a0 => κ (.tv .bool a0)) z3 := by kernel_rfl
theorem f116.p0_r_eq {R : Type} (L N : Nat) (κ : AV → Option R) (z3 : Bool) :
    (contAt (E116 L N) (evCallI (E116 L N) 1 2000) 1000 116 26 0 (codeOf Try.f116) (finK (E116 L N) 1000 Try.f116 (finC (.one .bool) κ))) .ret (f116.T0_r z3) (f116.H0_r z3)
    = f116.p0_r L N (fun a0 => κ (.tv .bool a0)) z3 := by
  rw [f116.p0_r_pre]
  unfold f116.p0_r
  rfl
theorem f116.b_pre {R : Type} (L N : Nat) (κ : AV → Option R) (x0 : LI) (x1 : LI) :
    evBody (E116 L N) (evCallI (E116 L N) 1 2000) 1000 116 Try.f116 [(.tv (.sl i64) x0), (.tv (.sl i64) x1)] [] [] (finC (.one .bool) κ)
    = f116.b' L N (fun a0 => κ (.tv .bool a0)) (fun s0 s1 s2 => evLp (E116 L N) (evCallI (E116 L N) 1 2000) 1000 116 26 0 f116.c0 (contAt (E116 L N) (evCallI (E116 L N) 1 2000) 1000 116 26 0 (codeOf Try.f116) (finK (E116 L N) 1000 Try.f116 (finC (.one .bool) κ))) L (f116.T0 s0 s1 s2) (f116.H0 s0 s1 s2)) x0 x1 := by kernel_rfl
theorem f116.b_eq {R : Type} (L N : Nat) (κ : AV → Option R) (x0 : LI) (x1 : LI) :
    evBody (E116 L N) (evCallI (E116 L N) 1 2000) 1000 116 Try.f116 [(.tv (.sl i64) x0), (.tv (.sl i64) x1)] [] [] (finC (.one .bool) κ)
    = f116.b L N (fun a0 => κ (.tv .bool a0)) x0 x1 := by
  rw [f116.b_pre]
  unfold f116.b
  simp only [f116.l0_eq, f116.p0_e0_eq, f116.p0_r_eq]
theorem f116.s0'_nat {R R' : Type} (j : R → Option R') (L N : Nat) (k0_e0 : Option R) (k0_r : Bool → Option R) (rec0 : LI → LI → Int → Option R) (s0 : LI) (s1 : LI) (s2 : Int) :
    f116.s0' L N (k0_e0.bind j) (fun a0 => (k0_r a0).bind j) (fun a0 a1 a2 => (rec0 a0 a1 a2).bind j) s0 s1 s2 = (f116.s0' L N k0_e0 k0_r rec0 s0 s1 s2).bind j := by
  unfold f116.s0'
  repeat' (first | (with_reducible refine cond_nat ?_ ?_) | (with_reducible refine bind_nat fun _ => ?_) | rfl)
theorem f116.s0_nat {R R' : Type} (j : R → Option R') (L N : Nat) (k0_e0 : Option R) (k0_r : Bool → Option R) (rec0 : LI → LI → Int → Option R) (s0 : LI) (s1 : LI) (s2 : Int) :
    f116.s0 L N (k0_e0.bind j) (fun a0 => (k0_r a0).bind j) (fun a0 a1 a2 => (rec0 a0 a1 a2).bind j) s0 s1 s2 = (f116.s0 L N k0_e0 k0_r rec0 s0 s1 s2).bind j := by
  unfold f116.s0
  exact f116.s0'_nat ..
theorem f116.l0_nat {R R' : Type} (j : R → Option R') (L N : Nat) (k0_e0 : Option R) (k0_r : Bool → Option R) : ∀ (n : Nat) (s0 : LI) (s1 : LI) (s2 : Int),
    f116.l0 L N (k0_e0.bind j) (fun a0 => (k0_r a0).bind j) n s0 s1 s2 = (f116.l0 L N k0_e0 k0_r n s0 s1 s2).bind j := by
  intro n
  induction n with
  | zero => intros; rfl
  | succ n ih =>
    intro s0 s1 s2
    show f116.s0 L N (k0_e0.bind j) (fun a0 => (k0_r a0).bind j) (f116.l0 L N (k0_e0.bind j) (fun a0 => (k0_r a0).bind j) n) s0 s1 s2 = _
    rw [show f116.l0 L N (k0_e0.bind j) (fun a0 => (k0_r a0).bind j) n = (fun s0 s1 s2 => (f116.l0 L N k0_e0 k0_r n s0 s1 s2).bind j) from funext fun s0 => funext fun s1 => funext fun s2 => ih s0 s1 s2]
    exact f116.s0_nat ..
theorem f116.p0_e0'_nat {R R' : Type} (j : R → Option R') (L N : Nat) (k : Bool → Option R) :
    f116.p0_e0' L N (fun a0 => (k a0).bind j) = (f116.p0_e0' L N k).bind j := by
  unfold f116.p0_e0'
  repeat' (first | (with_reducible refine cond_nat ?_ ?_) | (with_reducible refine bind_nat fun _ => ?_) | rfl)
theorem f116.p0_e0_nat {R R' : Type} (j : R → Option R') (L N : Nat) (k : Bool → Option R) :
    f116.p0_e0 L N (fun a0 => (k a0).bind j) = (f116.p0_e0 L N k).bind j := by
  unfold f116.p0_e0
  exact f116.p0_e0'_nat ..
theorem f116.p0_r'_nat {R R' : Type} (j : R → Option R') (L N : Nat) (k : Bool → Option R) (z3 : Bool) :
    f116.p0_r' L N (fun a0 => (k a0).bind j) z3 = (f116.p0_r' L N k z3).bind j := by
  unfold f116.p0_r'
  repeat' (first | (with_reducible refine cond_nat ?_ ?_) | (with_reducible refine bind_nat fun _ => ?_) | rfl)
theorem f116.p0_r_nat {R R' : Type} (j : R → Option R') (L N : Nat) (k : Bool → Option R) (z3 : Bool) :
    f116.p0_r L N (fun a0 => (k a0).bind j) z3 = (f116.p0_r L N k z3).bind j := by
  unfold f116.p0_r
  exact f116.p0_r'_nat ..
theorem f116.b'_nat {R R' : Type} (j : R → Option R') (L N : Nat) (k : Bool → Option R) (w0 : LI → LI → Int → Option R) (x0 : LI) (x1 : LI) :
    f116.b' L N (fun a0 => (k a0).bind j) (fun a0 a1 a2 => (w0 a0 a1 a2).bind j) x0 x1 = (f116.b' L N k w0 x0 x1).bind j := by
  unfold f116.b'
  repeat' (first | (with_reducible refine cond_nat ?_ ?_) | (with_reducible refine bind_nat fun _ => ?_) | rfl)
theorem f116.b_nat {R R' : Type} (j : R → Option R') (L N : Nat) (k : Bool → Option R) (x0 : LI) (x1 : LI) :
    f116.b L N (fun a0 => (k a0).bind j) x0 x1 = (f116.b L N k x0 x1).bind j := by
  unfold f116.b
  simp only [f116.l0_nat, f116.p0_e0_nat, f116.p0_r_nat]
  exact f116.b'_nat ..
theorem f116.ok (L N : Nat) (hΦ : TellsOk Try.prog ((Φ115 L N))) : EntOk Try.prog 116 (f116.ent L N) := by
  intro args vw site h
  unfold f116.ent
  split
  · rename_i d ha
    intro y hy hs
    refine call_ro (dep := 1000) (E := (E116 L N)) (rs := (.one .bool)) (v := (.tv .bool y)) (sound_of hΦ) okP (callI_sound (sound_of hΦ) okP 1 2000) (f := Try.f116) rfl hs ha ?_ rfl site
    refine (f116.b_eq L N some d.1 d.2.1).trans ?_
    refine ((f116.b_nat (fun y => (some (.tv .bool y) : Option AV)) L N some d.1 d.2.1)).trans ?_
    rw [show f116.b L N some d.1 d.2.1 = some y from hy]
    rfl
  · intro y hy
    cases hy
def Φ116 (L N : Nat) : Tells := (addT (Φ115 L N) 116 (f116.ent L N))
theorem Φ116_ok (L N : Nat) : TellsOk Try.prog (Φ116 L N) := addT_ok (Φ115_ok L N) (f116.ok L N (Φ115_ok L N))
def f80.s2' {R : Type} (L N : Nat) (k2_e4 : Int → Int → LLM → LI → LI → Option R) (rec2 : Int → Int → Int → LLM → LI → LI → Option R) (s9 : Int) (s10 : Int) (s11 : Int) (s12 : LLM) (s13 : LI) (s14 : LI) : Option R :=
  bif (decide (s11 ≥ (0 : Int))) then
    bif (decide (0 ≤ s11) && decide (s11 < (s13.length : Int))) then
      bif (decide (0 ≤ s9) && decide (s9 < (s13.length : Int))) then
        bif ((listAt s13 (0 : Int) s11.toNat) == (listAt s13 (0 : Int) s9.toNat)) then
          (f115 L N (Graph.mk s12) s9 s13).bind fun y20 =>
          (f115 L N (Graph.mk s12) s11 s13).bind fun y21 =>
          (f114 L N y20 y21).bind fun y22 =>
          bif y22 then
            rec2 s9 s11 (wi (s11 - (1 : Int))) s12 s13 s14
          else rec2 s9 s10 (wi (s11 - (1 : Int))) s12 s13 s14
        else rec2 s9 s10 (wi (s11 - (1 : Int))) s12 s13 s14
      else none
    else none
  else k2_e4 s9 s10 s12 s13 s14
def f80.s2 {R : Type} (L N : Nat) (k2_e4 : Int → Int → LLM → LI → LI → Option R) (rec2 : Int → Int → Int → LLM → LI → LI → Option R) (s9 : Int) (s10 : Int) (s11 : Int) (s12 : LLM) (s13 : LI) (s14 : LI) : Option R :=
  f80.s2' L N k2_e4 rec2 s9 s10 s11 s12 s13 s14
def f80.l2 {R : Type} (L N : Nat) (k2_e4 : Int → Int → LLM → LI → LI → Option R) : Nat → Int → Int → Int → LLM → LI → LI → Option R
  | 0, _, _, _, _, _, _ => none
  | n + 1, s9, s10, s11, s12, s13, s14 => f80.s2 L N k2_e4 (f80.l2 L N k2_e4 n) s9 s10 s11 s12 s13 s14
def f80.T2 (s9 : Int) (s10 : Int) (s11 : Int) (s12 : LLM) (s13 : LI) (s14 : LI) : T := mkT 56 [(1, (.ptr 1001 0)), (3, (.row 1011)), (4, (.row 1012)), (5, (.tv i64 s9)), (6, (.tv i64 s10)), (7, (.tv i64 s11))]
def f80.H2 (s9 : Int) (s10 : Int) (s11 : Int) (s12 : LLM) (s13 : LI) (s14 : LI) : H := [(1001, (.box [(.tv (.sl (.sl (.st 0))) s12)])), (1011, (.row 3 i64 s13)), (1012, (.row 3 i64 s14))]
def f80.T2_e4 (z15 : Int) (z16 : Int) (z17 : LLM) (z18 : LI) (z19 : LI) : T := mkT 56 [(1, (.ptr 1001 0)), (3, (.row 1011)), (4, (.row 1012)), (5, (.tv i64 z15)), (6, (.tv i64 z16))]
def f80.H2_e4 (z15 : Int) (z16 : Int) (z17 : LLM) (z18 : LI) (z19 : LI) : H := [(1001, (.box [(.tv (.sl (.sl (.st 0))) z17)])), (1011, (.row 3 i64 z18)), (1012, (.row 3 i64 z19))]
def f80.p2_e4' {R : Type} (L N : Nat) (k1_e2 : LLM → LI → LI → Option R) (rec1 : Int → LLM → LI → LI → Option R) (z15 : Int) (z16 : Int) (z17 : LLM) (z18 : LI) (z19 : LI) : Option R :=
  bif (decide (z19.length + ([z16] : LI).length ≤ lim)) then
    rec1 (wi (z15 + (1 : Int))) z17 z18 (z19 ++ ([z16] : LI))
  else none
def f80.p2_e4 {R : Type} (L N : Nat) (k1_e2 : LLM → LI → LI → Option R) (rec1 : Int → LLM → LI → LI → Option R) (z15 : Int) (z16 : Int) (z17 : LLM) (z18 : LI) (z19 : LI) : Option R :=
  f80.p2_e4' L N k1_e2 rec1 z15 z16 z17 z18 z19
def f80.s1' {R : Type} (L N : Nat) (k1_e2 : LLM → LI → LI → Option R) (rec1 : Int → LLM → LI → LI → Option R) (w2 : Int → Int → Int → LLM → LI → LI → Option R) (s2 : Int) (s3 : LLM) (s4 : LI) (s5 : LI) : Option R :=
  bif (decide (s2 < (s4.length : Int))) then
    w2 s2 s2 (wi (s2 - (1 : Int))) s3 s4 s5
  else k1_e2 s3 s4 s5
def f80.s1 {R : Type} (L N : Nat) (k1_e2 : LLM → LI → LI → Option R) (rec1 : Int → LLM → LI → LI → Option R) (s2 : Int) (s3 : LLM) (s4 : LI) (s5 : LI) : Option R :=
  f80.s1' L N k1_e2 rec1 (fun s9 s10 s11 s12 s13 s14 => f80.l2 L N (fun z15 z16 z17 z18 z19 => f80.p2_e4 L N k1_e2 rec1 z15 z16 z17 z18 z19) L s9 s10 s11 s12 s13 s14) s2 s3 s4 s5
def f80.l1 {R : Type} (L N : Nat) (k1_e2 : LLM → LI → LI → Option R) : Nat → Int → LLM → LI → LI → Option R
  | 0, _, _, _, _ => none
  | n + 1, s2, s3, s4, s5 => f80.s1 L N k1_e2 (f80.l1 L N k1_e2 n) s2 s3 s4 s5
def f80.T1 (s2 : Int) (s3 : LLM) (s4 : LI) (s5 : LI) : T := mkT 56 [(1, (.ptr 1001 0)), (3, (.row 1011)), (4, (.row 1012)), (5, (.tv i64 s2))]
def f80.H1 (s2 : Int) (s3 : LLM) (s4 : LI) (s5 : LI) : H := [(1001, (.box [(.tv (.sl (.sl (.st 0))) s3)])), (1011, (.row 3 i64 s4)), (1012, (.row 3 i64 s5))]
def f80.T1_e2 (z6 : LLM) (z7 : LI) (z8 : LI) : T := mkT 56 [(1, (.ptr 1001 0)), (3, (.row 1011)), (4, (.row 1012))]
def f80.H1_e2 (z6 : LLM) (z7 : LI) (z8 : LI) : H := [(1001, (.box [(.tv (.sl (.sl (.st 0))) z6)])), (1011, (.row 3 i64 z7)), (1012, (.row 3 i64 z8))]
def f80.p1_e2' {R : Type} (L N : Nat) (k0_r : LI → Option R) (rec0 : LLM → LI → Option R) (z6 : LLM) (z7 : LI) (z8 : LI) : Option R :=
  (f116 L N z8 z7).bind fun y36 =>
  bif y36 then
    k0_r z7
  else rec0 z6 z8
def f80.p1_e2 {R : Type} (L N : Nat) (k0_r : LI → Option R) (rec0 : LLM → LI → Option R) (z6 : LLM) (z7 : LI) (z8 : LI) : Option R :=
  f80.p1_e2' L N k0_r rec0 z6 z7 z8
def f80.s0' {R : Type} (L N : Nat) (k0_r : LI → Option R) (rec0 : LLM → LI → Option R) (w1 : Int → LLM → LI → LI → Option R) (s0 : LLM) (s1 : LI) : Option R :=
  w1 (0 : Int) s0 s1 ([] : LI)
def f80.s0 {R : Type} (L N : Nat) (k0_r : LI → Option R) (rec0 : LLM → LI → Option R) (s0 : LLM) (s1 : LI) : Option R :=
  f80.s0' L N k0_r rec0 (fun s2 s3 s4 s5 => f80.l1 L N (fun z6 z7 z8 => f80.p1_e2 L N k0_r rec0 z6 z7 z8) L s2 s3 s4 s5) s0 s1
def f80.l0 {R : Type} (L N : Nat) (k0_r : LI → Option R) : Nat → LLM → LI → Option R
  | 0, _, _ => none
  | n + 1, s0, s1 => f80.s0 L N k0_r (f80.l0 L N k0_r n) s0 s1
def f80.T0 (s0 : LLM) (s1 : LI) : T := mkT 56 [(1, (.ptr 1001 0)), (3, (.row 1011))]
def f80.H0 (s0 : LLM) (s1 : LI) : H := [(1001, (.box [(.tv (.sl (.sl (.st 0))) s0)])), (1011, (.row 3 i64 s1))]
def f80.T0_r (z37 : LI) : T := mkT 56 [(2, (.row 1011))]
def f80.H0_r (z37 : LI) : H := [(1011, (.row 3 i64 z37))]
def f80.p0_r' {R : Type} (L N : Nat) (k : LI → Option R) (z37 : LI) : Option R :=
  k z37
def f80.p0_r {R : Type} (L N : Nat) (k : LI → Option R) (z37 : LI) : Option R :=
  f80.p0_r' L N k z37
def f80.b' {R : Type} (L N : Nat) (k : LI → Option R) (w0 : LLM → LI → Option R) (x0 : Graph) : Option R :=
  bif (decide (0 ≤ (x0.moves.length : Int)) && decide ((x0.moves.length : Int) ≤ (lim : Int))) then
    w0 x0.moves (List.replicate (x0.moves.length : Int).toNat (0 : Int))
  else none
def f80.b {R : Type} (L N : Nat) (k : LI → Option R) (x0 : Graph) : Option R :=
  f80.b' L N k (fun s0 s1 => f80.l0 L N (fun z37 => f80.p0_r L N k z37) L s0 s1) x0
def f80 (L N : Nat) (x0 : Graph) : Option (LI) := f80.b L N some x0
def f80.ent (L N : Nat) (args : List AV) (vw : View) (site : Nat) : Ans := match coeD [(.st 2)] vw args with
  | some (d, u) => ⟨LI, f80 L N d.1, fun y => ((.tv (.sl i64) y), u, [])⟩
  | none => Ans.no
noncomputable def E80 (L N : Nat) : Env := { P := Try.prog, ty := tyOf, Φ := (Φ116 L N), inl := inlT, live := lives, liveX := livesX, L := L, dp := none, prom := promT, heal := healT, ren := renT }
noncomputable def f80.c0 : Code := loopAt 0 (codeOf Try.f80)
noncomputable def f80.c1 : Code := loopAt 2 f80.c0
noncomputable def f80.c2 : Code := loopAt 4 f80.c1
theorem f80.s2_pre {R : Type} (L N : Nat) (κ : Ex → T → H → Option R) (rec : T → H → Option R) (s9 : Int) (s10 : Int) (s11 : Int) (s12 : LLM) (s13 : LI) (s14 : LI) :
    evRd (E80 L N) (evCallI (E80 L N) 1 2000) 1000 80 56 4 f80.c2 κ rec (f80.T2 s9 s10 s11 s12 s13 s14) (f80.H2 s9 s10 s11 s12 s13 s14)
    = f80.s2' L N (fun z15 z16 z17 z18 z19 => κ (.exit 4) (f80.T2_e4 z15 z16 z17 z18 z19) (f80.H2_e4 z15 z16 z17 z18 z19)) (fun s9 s10 s11 s12 s13 s14 => rec (f80.T2 s9 s10 s11 s12 s13 s14) (f80.H2 s9 s10 s11 s12 s13 s14)) s9 s10 s11 s12 s13 s14 := by kernel_rfl
theorem f80.s2_eq {R : Type} (L N : Nat) (κ : Ex → T → H → Option R) (rec : T → H → Option R) (s9 : Int) (s10 : Int) (s11 : Int) (s12 : LLM) (s13 : LI) (s14 : LI) :
    evRd (E80 L N) (evCallI (E80 L N) 1 2000) 1000 80 56 4 f80.c2 κ rec (f80.T2 s9 s10 s11 s12 s13 s14) (f80.H2 s9 s10 s11 s12 s13 s14)
    = f80.s2 L N (fun z15 z16 z17 z18 z19 => κ (.exit 4) (f80.T2_e4 z15 z16 z17 z18 z19) (f80.H2_e4 z15 z16 z17 z18 z19)) (fun s9 s10 s11 s12 s13 s14 => rec (f80.T2 s9 s10 s11 s12 s13 s14) (f80.H2 s9 s10 s11 s12 s13 s14)) s9 s10 s11 s12 s13 s14 := by
  rw [f80.s2_pre]
  unfold f80.s2
  rfl
theorem f80.l2_eq {R : Type} (L N : Nat) (κ : Ex → T → H → Option R) : ∀ (n : Nat) (s9 : Int) (s10 : Int) (s11 : Int) (s12 : LLM) (s13 : LI) (s14 : LI),
    evLp (E80 L N) (evCallI (E80 L N) 1 2000) 1000 80 56 4 f80.c2 κ n (f80.T2 s9 s10 s11 s12 s13 s14) (f80.H2 s9 s10 s11 s12 s13 s14)
    = f80.l2 L N (fun z15 z16 z17 z18 z19 => κ (.exit 4) (f80.T2_e4 z15 z16 z17 z18 z19) (f80.H2_e4 z15 z16 z17 z18 z19)) n s9 s10 s11 s12 s13 s14 := by
  intro n
  induction n with
  | zero => intros; rfl
  | succ n ih =>
    intro s9 s10 s11 s12 s13 s14
    rw [evLp_succ, f80.s2_eq]
    simp only [ih]
    rfl
theorem f80.p2_e4_pre {R : Type} (L N : Nat) (κ : Ex → T → H → Option R) (rec : T → H → Option R) (z15 : Int) (z16 : Int) (z17 : LLM) (z18 : LI) (z19 : LI) :
    (contAt (E80 L N) (evCallI (E80 L N) 1 2000) 1000 80 56 4 f80.c1 (stepK (outK (keepT 56 ((E80 L N).liveX 80 2).1) (keepH 1000 ((E80 L N).liveX 80 2).2) κ) fun t h => rec (backK 1000 56 ((E80 L N).live 80 2).1 ((E80 L N).live 80 2).2 ((E80 L N).heal 80 2) ((E80 L N).ren 80 2) t h).1 (backK 1000 56 ((E80 L N).live 80 2).1 ((E80 L N).live 80 2).2 ((E80 L N).heal 80 2) ((E80 L N).ren 80 2) t h).2)) (.exit 4) (f80.T2_e4 z15 z16 z17 z18 z19) (f80.H2_e4 z15 z16 z17 z18 z19)
    = f80.p2_e4' L N (fun z6 z7 z8 => κ (.exit 2) (f80.T1_e2 z6 z7 z8) (f80.H1_e2 z6 z7 z8)) (fun s2 s3 s4 s5 => rec (f80.T1 s2 s3 s4 s5) (f80.H1 s2 s3 s4 s5)) z15 z16 z17 z18 z19 := by kernel_rfl
theorem f80.p2_e4_eq {R : Type} (L N : Nat) (κ : Ex → T → H → Option R) (rec : T → H → Option R) (z15 : Int) (z16 : Int) (z17 : LLM) (z18 : LI) (z19 : LI) :
    (contAt (E80 L N) (evCallI (E80 L N) 1 2000) 1000 80 56 4 f80.c1 (stepK (outK (keepT 56 ((E80 L N).liveX 80 2).1) (keepH 1000 ((E80 L N).liveX 80 2).2) κ) fun t h => rec (backK 1000 56 ((E80 L N).live 80 2).1 ((E80 L N).live 80 2).2 ((E80 L N).heal 80 2) ((E80 L N).ren 80 2) t h).1 (backK 1000 56 ((E80 L N).live 80 2).1 ((E80 L N).live 80 2).2 ((E80 L N).heal 80 2) ((E80 L N).ren 80 2) t h).2)) (.exit 4) (f80.T2_e4 z15 z16 z17 z18 z19) (f80.H2_e4 z15 z16 z17 z18 z19)
    = f80.p2_e4 L N (fun z6 z7 z8 => κ (.exit 2) (f80.T1_e2 z6 z7 z8) (f80.H1_e2 z6 z7 z8)) (fun s2 s3 s4 s5 => rec (f80.T1 s2 s3 s4 s5) (f80.H1 s2 s3 s4 s5)) z15 z16 z17 z18 z19 := by
  rw [f80.p2_e4_pre]
  unfold f80.p2_e4
  rfl
theorem f80.s1_pre {R : Type} (L N : Nat) (κ : Ex → T → H → Option R) (rec : T → H → Option R) (s2 : Int) (s3 : LLM) (s4 : LI) (s5 : LI) :
    evRd (E80 L N) (evCallI (E80 L N) 1 2000) 1000 80 56 2 f80.c1 κ rec (f80.T1 s2 s3 s4 s5) (f80.H1 s2 s3 s4 s5)
    = f80.s1' L N (fun z6 z7 z8 => κ (.exit 2) (f80.T1_e2 z6 z7 z8) (f80.H1_e2 z6 z7 z8)) (fun s2 s3 s4 s5 => rec (f80.T1 s2 s3 s4 s5) (f80.H1 s2 s3 s4 s5)) (fun s9 s10 s11 s12 s13 s14 => evLp (E80 L N) (evCallI (E80 L N) 1 2000) 1000 80 56 4 f80.c2 (contAt (E80 L N) (evCallI (E80 L N) 1 2000) 1000 80 56 4 f80.c1 (stepK (outK (keepT 56 ((E80 L N).liveX 80 2).1) (keepH 1000 ((E80 L N).liveX 80 2).2) κ) fun t h => rec (backK 1000 56 ((E80 L N).live 80 2).1 ((E80 L N).live 80 2).2 ((E80 L N).heal 80 2) ((E80 L N).ren 80 2) t h).1 (backK 1000 56 ((E80 L N).live 80 2).1 ((E80 L N).live 80 2).2 ((E80 L N).heal 80 2) ((E80 L N).ren 80 2) t h).2)) L (f80.T2 s9 s10 s11 s12 s13 s14) (f80.H2 s9 s10 s11 s12 s13 s14)) s2 s3 s4 s5 := by kernel_rfl
theorem f80.s1_eq {R : Type} (L N : Nat) (κ : Ex → T → H → Option R) (rec : T → H → Option R) (s2 : Int) (s3 : LLM) (s4 : LI) (s5 : LI) :
    evRd (E80 L N) (evCallI (E80 L N) 1 2000) 1000 80 56 2 f80.c1 κ rec (f80.T1 s2 s3 s4 s5) (f80.H1 s2 s3 s4 s5)
    = f80.s1 L N (fun z6 z7 z8 => κ (.exit 2) (f80.T1_e2 z6 z7 z8) (f80.H1_e2 z6 z7 z8)) (fun s2 s3 s4 s5 => rec (f80.T1 s2 s3 s4 s5) (f80.H1 s2 s3 s4 s5)) s2 s3 s4 s5 := by
  rw [f80.s1_pre]
  unfold f80.s1
  simp only [f80.l2_eq, f80.p2_e4_eq]
theorem f80.l1_eq {R : Type} (L N : Nat) (κ : Ex → T → H → Option R) : ∀ (n : Nat) (s2 : Int) (s3 : LLM) (s4 : LI) (s5 : LI),
    evLp (E80 L N) (evCallI (E80 L N) 1 2000) 1000 80 56 2 f80.c1 κ n (f80.T1 s2 s3 s4 s5) (f80.H1 s2 s3 s4 s5)
    = f80.l1 L N (fun z6 z7 z8 => κ (.exit 2) (f80.T1_e2 z6 z7 z8) (f80.H1_e2 z6 z7 z8)) n s2 s3 s4 s5 := by
  intro n
  induction n with
  | zero => intros; rfl
  | succ n ih =>
    intro s2 s3 s4 s5
    rw [evLp_succ, f80.s1_eq]
    simp only [ih]
    rfl
theorem f80.p1_e2_pre {R : Type} (L N : Nat) (κ : Ex → T → H → Option R) (rec : T → H → Option R) (z6 : LLM) (z7 : LI) (z8 : LI) :
    (contAt (E80 L N) (evCallI (E80 L N) 1 2000) 1000 80 56 2 f80.c0 (stepK (outK (keepT 56 ((E80 L N).liveX 80 0).1) (keepH 1000 ((E80 L N).liveX 80 0).2) κ) fun t h => rec (backK 1000 56 ((E80 L N).live 80 0).1 ((E80 L N).live 80 0).2 ((E80 L N).heal 80 0) ((E80 L N).ren 80 0) t h).1 (backK 1000 56 ((E80 L N).live 80 0).1 ((E80 L N).live 80 0).2 ((E80 L N).heal 80 0) ((E80 L N).ren 80 0) t h).2)) (.exit 2) (f80.T1_e2 z6 z7 z8) (f80.H1_e2 z6 z7 z8)
    = f80.p1_e2' L N (fun z37 => κ .ret (f80.T0_r z37) (f80.H0_r z37)) (fun s0 s1 => rec (f80.T0 s0 s1) (f80.H0 s0 s1)) z6 z7 z8 := by kernel_rfl
end Go.Proofs.Ytdfjdbpklbehoaa.Ev
