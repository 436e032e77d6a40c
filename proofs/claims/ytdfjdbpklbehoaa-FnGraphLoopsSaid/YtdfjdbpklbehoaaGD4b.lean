/- The seat's functions as plain functions, continued: made by program (wip/gen/gen.py). -/
import Derived.Test.YtdfjdbpklbehoaaGD4a
namespace Go.Proofs.Ytdfjdbpklbehoaa.Ev
open Go
set_option linter.unusedVariables false
set_option maxRecDepth 20000
def f133.s1 {R : Type} (L N : Nat) (k1_e2 : LT → Int → LT → LY → LM → LLM → Option R) (k1_r : LT → Bool → Int → LT → LY → LM → LLM → Option R) (rec1 : LT → Int → Int → LT → LY → LS → LM → LLM → Option R) (s8 : LT) (s9 : Int) (s10 : Int) (s11 : LT) (s12 : LY) (s13 : LS) (s14 : LM) (s15 : LLM) : Option R :=
  f133.s1' L N k1_e2 k1_r rec1 (fun s23 s24 s25 s26 s27 s28 s29 s30 s31 s32 => f133.l2 L N (fun z44 z45 z46 z47 z48 z49 z50 z51 z52 z53 => f133.p2_e4 L N k1_e2 k1_r rec1 z44 z45 z46 z47 z48 z49 z50 z51 z52 z53) L s23 s24 s25 s26 s27 s28 s29 s30 s31 s32) s8 s9 s10 s11 s12 s13 s14 s15
def f133.l1 {R : Type} (L N : Nat) (k1_e2 : LT → Int → LT → LY → LM → LLM → Option R) (k1_r : LT → Bool → Int → LT → LY → LM → LLM → Option R) : Nat → LT → Int → Int → LT → LY → LS → LM → LLM → Option R
  | 0, _, _, _, _, _, _, _, _ => none
  | n + 1, s8, s9, s10, s11, s12, s13, s14, s15 => f133.s1 L N k1_e2 k1_r (f133.l1 L N k1_e2 k1_r n) s8 s9 s10 s11 s12 s13 s14 s15
def f133.T1 (s8 : LT) (s9 : Int) (s10 : Int) (s11 : LT) (s12 : LY) (s13 : LS) (s14 : LM) (s15 : LLM) : T := mkT 106 [(1, (.tv (.sl (.st 1)) s8)), (4, (.ptr 1004 0)), (6, (.row 1016)), (7, (.row 1019)), (8, (.ptr 1008 0)), (9, (.tv i64 s9)), (10, (.row 1032)), (11, (.row 1033)), (12, (.tv i64 s10))]
def f133.H1 (s8 : LT) (s9 : Int) (s10 : Int) (s11 : LT) (s12 : LY) (s13 : LS) (s14 : LM) (s15 : LLM) : H := [(1004, (.box [.nil])), (1008, (.box [(.row 1900)])), (1016, (.row 110 (.st 1) s11)), (1019, (.row 9 .str s12)), (1032, (.row 146 (.st 3) s13)), (1033, (.row 53 (.st 0) s14)), (1900, (.row 51 (.sl (.st 0)) s15))]
def f133.T1_e2 (z16 : LT) (z17 : Int) (z18 : LT) (z19 : LY) (z20 : LM) (z21 : LLM) : T := mkT 106 [(1, (.tv (.sl (.st 1)) z16)), (4, (.ptr 1004 0)), (6, (.row 1016)), (7, (.row 1019)), (8, (.ptr 1008 0)), (9, (.tv i64 z17)), (11, (.row 1033))]
def f133.H1_e2 (z16 : LT) (z17 : Int) (z18 : LT) (z19 : LY) (z20 : LM) (z21 : LLM) : H := [(1004, (.box [.nil])), (1008, (.box [(.row 1900)])), (1016, (.row 110 (.st 1) z18)), (1019, (.row 9 .str z19)), (1033, (.row 53 (.st 0) z20)), (1900, (.row 51 (.sl (.st 0)) z21))]
def f133.T1_r (z76 : LT) (z77 : Bool) (z78 : Int) (z79 : LT) (z80 : LY) (z81 : LM) (z82 : LLM) : T := mkT 106 [(1, (.tv (.sl (.st 1)) z76)), (4, (.ptr 1004 0)), (5, (.tv .bool z77)), (6, (.row 1016)), (7, (.row 1019)), (8, (.ptr 1008 0)), (9, (.tv i64 z78)), (11, (.row 1033))]
def f133.H1_r (z76 : LT) (z77 : Bool) (z78 : Int) (z79 : LT) (z80 : LY) (z81 : LM) (z82 : LLM) : H := [(1004, (.box [.nil])), (1008, (.box [(.row 1900)])), (1016, (.row 110 (.st 1) z79)), (1019, (.row 9 .str z80)), (1033, (.row 53 (.st 0) z81)), (1900, (.row 51 (.sl (.st 0)) z82))]
def f133.p1_e2' {R : Type} (L N : Nat) (k0_e0 : LLM → Option R) (k0_r : Bool → LLM → Option R) (rec0 : LT → Int → LT → LY → LLM → Option R) (z16 : LT) (z17 : Int) (z18 : LT) (z19 : LY) (z20 : LM) (z21 : LLM) : Option R :=
  (f123 L N z20).bind fun y104 =>
  bif (decide (z21.length + ([y104] : LLM).length ≤ lim)) then
    rec0 z16 (wi (z17 + (1 : Int))) z18 z19 (z21 ++ ([y104] : LLM))
  else none
def f133.p1_e2 {R : Type} (L N : Nat) (k0_e0 : LLM → Option R) (k0_r : Bool → LLM → Option R) (rec0 : LT → Int → LT → LY → LLM → Option R) (z16 : LT) (z17 : Int) (z18 : LT) (z19 : LY) (z20 : LM) (z21 : LLM) : Option R :=
  f133.p1_e2' L N k0_e0 k0_r rec0 z16 z17 z18 z19 z20 z21
def f133.p1_r' {R : Type} (L N : Nat) (k0_e0 : LLM → Option R) (k0_r : Bool → LLM → Option R) (rec0 : LT → Int → LT → LY → LLM → Option R) (z76 : LT) (z77 : Bool) (z78 : Int) (z79 : LT) (z80 : LY) (z81 : LM) (z82 : LLM) : Option R :=
  k0_r z77 z82
def f133.p1_r {R : Type} (L N : Nat) (k0_e0 : LLM → Option R) (k0_r : Bool → LLM → Option R) (rec0 : LT → Int → LT → LY → LLM → Option R) (z76 : LT) (z77 : Bool) (z78 : Int) (z79 : LT) (z80 : LY) (z81 : LM) (z82 : LLM) : Option R :=
  f133.p1_r' L N k0_e0 k0_r rec0 z76 z77 z78 z79 z80 z81 z82
def f133.s0' {R : Type} (L N : Nat) (k0_e0 : LLM → Option R) (k0_r : Bool → LLM → Option R) (rec0 : LT → Int → LT → LY → LLM → Option R) (w1 : LT → Int → Int → LT → LY → LS → LM → LLM → Option R) (s1 : LT) (s2 : Int) (s3 : LT) (s4 : LY) (s5 : LLM) : Option R :=
  bif (decide (s2 < (s3.length : Int))) then
    bif (decide (0 ≤ s2) && decide (s2 < (s3.length : Int))) then
      (f151 L N N (listAt s3 (Ty.dflt (.st 1)) s2.toNat) s1).bind fun y7 =>
      w1 s1 s2 (0 : Int) s3 s4 y7 ([] : LM) s5
    else none
  else k0_e0 s5
def f133.s0 {R : Type} (L N : Nat) (k0_e0 : LLM → Option R) (k0_r : Bool → LLM → Option R) (rec0 : LT → Int → LT → LY → LLM → Option R) (s1 : LT) (s2 : Int) (s3 : LT) (s4 : LY) (s5 : LLM) : Option R :=
  f133.s0' L N k0_e0 k0_r rec0 (fun s8 s9 s10 s11 s12 s13 s14 s15 => f133.l1 L N (fun z16 z17 z18 z19 z20 z21 => f133.p1_e2 L N k0_e0 k0_r rec0 z16 z17 z18 z19 z20 z21) (fun z76 z77 z78 z79 z80 z81 z82 => f133.p1_r L N k0_e0 k0_r rec0 z76 z77 z78 z79 z80 z81 z82) L s8 s9 s10 s11 s12 s13 s14 s15) s1 s2 s3 s4 s5
def f133.l0 {R : Type} (L N : Nat) (k0_e0 : LLM → Option R) (k0_r : Bool → LLM → Option R) : Nat → LT → Int → LT → LY → LLM → Option R
  | 0, _, _, _, _, _ => none
  | n + 1, s1, s2, s3, s4, s5 => f133.s0 L N k0_e0 k0_r (f133.l0 L N k0_e0 k0_r n) s1 s2 s3 s4 s5
def f133.T0 (s1 : LT) (s2 : Int) (s3 : LT) (s4 : LY) (s5 : LLM) : T := mkT 106 [(1, (.tv (.sl (.st 1)) s1)), (4, (.ptr 1004 0)), (6, (.row 1016)), (7, (.row 1019)), (8, (.ptr 1008 0)), (9, (.tv i64 s2))]
def f133.H0 (s1 : LT) (s2 : Int) (s3 : LT) (s4 : LY) (s5 : LLM) : H := [(1004, (.box [.nil])), (1008, (.box [(.row 1900)])), (1016, (.row 110 (.st 1) s3)), (1019, (.row 9 .str s4)), (1900, (.row 51 (.sl (.st 0)) s5))]
def f133.T0_e0 (z6 : LLM) : T := mkT 106 [(4, (.ptr 1004 0)), (8, (.ptr 1008 0))]
def f133.H0_e0 (z6 : LLM) : H := [(1004, (.box [.nil])), (1008, (.box [(.row 1900)])), (1900, (.row 51 (.sl (.st 0)) z6))]
def f133.T0_r (z102 : Bool) (z103 : LLM) : T := mkT 106 [(4, (.ptr 1004 0)), (5, (.tv .bool z102)), (8, (.ptr 1008 0))]
def f133.H0_r (z102 : Bool) (z103 : LLM) : H := [(1004, (.box [.nil])), (1008, (.box [(.row 1900)])), (1900, (.row 51 (.sl (.st 0)) z103))]
def f133.p0_e0' {R : Type} (L N : Nat) (k : Graph → Bool → Option R) (z6 : LLM) : Option R :=
  k (Graph.mk z6) true
def f133.p0_e0 {R : Type} (L N : Nat) (k : Graph → Bool → Option R) (z6 : LLM) : Option R :=
  f133.p0_e0' L N k z6
def f133.p0_r' {R : Type} (L N : Nat) (k : Graph → Bool → Option R) (z102 : Bool) (z103 : LLM) : Option R :=
  k (Graph.mk []) z102
def f133.p0_r {R : Type} (L N : Nat) (k : Graph → Bool → Option R) (z102 : Bool) (z103 : LLM) : Option R :=
  f133.p0_r' L N k z102 z103
def f133.b' {R : Type} (L N : Nat) (k : Graph → Bool → Option R) (w0 : LT → Int → LT → LY → LLM → Option R) (x0 : Tree) (x1 : LT) : Option R :=
  (f150 L N N (Tree.mk x0.op x0.n x0.parts)).bind fun y0 =>
  w0 x1 (0 : Int) ([(Tree.mk x0.op x0.n x0.parts)] : LT) ([y0] : LY) ([] : LLM)
def f133.b {R : Type} (L N : Nat) (k : Graph → Bool → Option R) (x0 : Tree) (x1 : LT) : Option R :=
  f133.b' L N k (fun s1 s2 s3 s4 s5 => f133.l0 L N (fun z6 => f133.p0_e0 L N k z6) (fun z102 z103 => f133.p0_r L N k z102 z103) L s1 s2 s3 s4 s5) x0 x1
def f133 (L N : Nat) (x0 : Tree) (x1 : LT) : Option (Graph × Bool) := f133.b L N (fun a0 a1 => some (a0, a1)) x0 x1
def f133.ent (L N : Nat) (args : List AV) (vw : View) (site : Nat) : Ans := match coeD [(.st 1), (.sl (.st 1))] vw args with
  | some (d, u) => ⟨Graph × Bool, f133 L N d.1 d.2.1, fun y => ((.tup [(.tv (.st 2) y.1), (.tv .bool y.2)]), u, [])⟩
  | none => Ans.no
noncomputable def E133 (L N : Nat) : Env := { P := Try.prog, ty := tyOf, Φ := (Φ151 L N), inl := inlT, live := lives, liveX := livesX, L := L, dp := none, prom := promT, heal := healT, ren := renT }
noncomputable def f133.c0 : Code := loopAt 0 (codeOf Try.f133)
noncomputable def f133.c1 : Code := loopAt 2 f133.c0
noncomputable def f133.c2 : Code := loopAt 4 f133.c1
theorem f133.s2_pre {R : Type} (L N : Nat) (κ : Ex → T → H → Option R) (rec : T → H → Option R) (s23 : LT) (s24 : Int) (s25 : Int) (s26 : ByteArray) (s27 : Int) (s28 : LT) (s29 : LY) (s30 : LS) (s31 : LM) (s32 : LLM) :
    evRd (E133 L N) (evCallI (E133 L N) 1 2000) 1000 133 106 4 f133.c2 κ rec (f133.T2 s23 s24 s25 s26 s27 s28 s29 s30 s31 s32) (f133.H2 s23 s24 s25 s26 s27 s28 s29 s30 s31 s32)
    = f133.s2' L N (fun z44 z45 z46 z47 z48 z49 z50 z51 z52 z53 => κ (.exit 4) (f133.T2_e4 z44 z45 z46 z47 z48 z49 z50 z51 z52 z53) (f133.H2_e4 z44 z45 z46 z47 z48 z49 z50 z51 z52 z53)) (fun s23 s24 s25 s26 s27 s28 s29 s30 s31 s32 => rec (f133.T2 s23 s24 s25 s26 s27 s28 s29 s30 s31 s32) (f133.H2 s23 s24 s25 s26 s27 s28 s29 s30 s31 s32)) s23 s24 s25 s26 s27 s28 s29 s30 s31 s32 := by kernel_rfl
theorem f133.s2_eq {R : Type} (L N : Nat) (κ : Ex → T → H → Option R) (rec : T → H → Option R) (s23 : LT) (s24 : Int) (s25 : Int) (s26 : ByteArray) (s27 : Int) (s28 : LT) (s29 : LY) (s30 : LS) (s31 : LM) (s32 : LLM) :
    evRd (E133 L N) (evCallI (E133 L N) 1 2000) 1000 133 106 4 f133.c2 κ rec (f133.T2 s23 s24 s25 s26 s27 s28 s29 s30 s31 s32) (f133.H2 s23 s24 s25 s26 s27 s28 s29 s30 s31 s32)
    = f133.s2 L N (fun z44 z45 z46 z47 z48 z49 z50 z51 z52 z53 => κ (.exit 4) (f133.T2_e4 z44 z45 z46 z47 z48 z49 z50 z51 z52 z53) (f133.H2_e4 z44 z45 z46 z47 z48 z49 z50 z51 z52 z53)) (fun s23 s24 s25 s26 s27 s28 s29 s30 s31 s32 => rec (f133.T2 s23 s24 s25 s26 s27 s28 s29 s30 s31 s32) (f133.H2 s23 s24 s25 s26 s27 s28 s29 s30 s31 s32)) s23 s24 s25 s26 s27 s28 s29 s30 s31 s32 := by
  rw [f133.s2_pre]
  unfold f133.s2
  rfl
theorem f133.l2_eq {R : Type} (L N : Nat) (κ : Ex → T → H → Option R) : ∀ (n : Nat) (s23 : LT) (s24 : Int) (s25 : Int) (s26 : ByteArray) (s27 : Int) (s28 : LT) (s29 : LY) (s30 : LS) (s31 : LM) (s32 : LLM),
    evLp (E133 L N) (evCallI (E133 L N) 1 2000) 1000 133 106 4 f133.c2 κ n (f133.T2 s23 s24 s25 s26 s27 s28 s29 s30 s31 s32) (f133.H2 s23 s24 s25 s26 s27 s28 s29 s30 s31 s32)
    = f133.l2 L N (fun z44 z45 z46 z47 z48 z49 z50 z51 z52 z53 => κ (.exit 4) (f133.T2_e4 z44 z45 z46 z47 z48 z49 z50 z51 z52 z53) (f133.H2_e4 z44 z45 z46 z47 z48 z49 z50 z51 z52 z53)) n s23 s24 s25 s26 s27 s28 s29 s30 s31 s32 := by
  intro n
  induction n with
  | zero => intros; rfl
  | succ n ih =>
    intro s23 s24 s25 s26 s27 s28 s29 s30 s31 s32
    rw [evLp_succ, f133.s2_eq]
    simp only [ih]
    rfl
theorem f133.p2_e4_pre {R : Type} (L N : Nat) (κ : Ex → T → H → Option R) (rec : T → H → Option R) (z44 : LT) (z45 : Int) (z46 : Int) (z47 : ByteArray) (z48 : Int) (z49 : LT) (z50 : LY) (z51 : LS) (z52 : LM) (z53 : LLM) :
    (contAt (E133 L N) (evCallI (E133 L N) 1 2000) 1000 133 106 4 f133.c1 (stepK (outK (keepT 106 ((E133 L N).liveX 133 2).1) (keepH 1000 ((E133 L N).liveX 133 2).2) κ) fun t h => rec (backK 1000 106 ((E133 L N).live 133 2).1 ((E133 L N).live 133 2).2 ((E133 L N).heal 133 2) ((E133 L N).ren 133 2) t h).1 (backK 1000 106 ((E133 L N).live 133 2).1 ((E133 L N).live 133 2).2 ((E133 L N).heal 133 2) ((E133 L N).ren 133 2) t h).2)) (.exit 4) (f133.T2_e4 z44 z45 z46 z47 z48 z49 z50 z51 z52 z53) (f133.H2_e4 z44 z45 z46 z47 z48 z49 z50 z51 z52 z53)
    = f133.p2_e4' L N (fun z16 z17 z18 z19 z20 z21 => κ (.exit 2) (f133.T1_e2 z16 z17 z18 z19 z20 z21) (f133.H1_e2 z16 z17 z18 z19 z20 z21)) (fun z76 z77 z78 z79 z80 z81 z82 => κ .ret (f133.T1_r z76 z77 z78 z79 z80 z81 z82) (f133.H1_r z76 z77 z78 z79 z80 z81 z82)) (fun s8 s9 s10 s11 s12 s13 s14 s15 => rec (f133.T1 s8 s9 s10 s11 s12 s13 s14 s15) (f133.H1 s8 s9 s10 s11 s12 s13 s14 s15)) z44 z45 z46 z47 z48 z49 z50 z51 z52 z53 := by kernel_rfl
theorem f133.p2_e4_eq {R : Type} (L N : Nat) (κ : Ex → T → H → Option R) (rec : T → H → Option R) (z44 : LT) (z45 : Int) (z46 : Int) (z47 : ByteArray) (z48 : Int) (z49 : LT) (z50 : LY) (z51 : LS) (z52 : LM) (z53 : LLM) :
    (contAt (E133 L N) (evCallI (E133 L N) 1 2000) 1000 133 106 4 f133.c1 (stepK (outK (keepT 106 ((E133 L N).liveX 133 2).1) (keepH 1000 ((E133 L N).liveX 133 2).2) κ) fun t h => rec (backK 1000 106 ((E133 L N).live 133 2).1 ((E133 L N).live 133 2).2 ((E133 L N).heal 133 2) ((E133 L N).ren 133 2) t h).1 (backK 1000 106 ((E133 L N).live 133 2).1 ((E133 L N).live 133 2).2 ((E133 L N).heal 133 2) ((E133 L N).ren 133 2) t h).2)) (.exit 4) (f133.T2_e4 z44 z45 z46 z47 z48 z49 z50 z51 z52 z53) (f133.H2_e4 z44 z45 z46 z47 z48 z49 z50 z51 z52 z53)
    = f133.p2_e4 L N (fun z16 z17 z18 z19 z20 z21 => κ (.exit 2) (f133.T1_e2 z16 z17 z18 z19 z20 z21) (f133.H1_e2 z16 z17 z18 z19 z20 z21)) (fun z76 z77 z78 z79 z80 z81 z82 => κ .ret (f133.T1_r z76 z77 z78 z79 z80 z81 z82) (f133.H1_r z76 z77 z78 z79 z80 z81 z82)) (fun s8 s9 s10 s11 s12 s13 s14 s15 => rec (f133.T1 s8 s9 s10 s11 s12 s13 s14 s15) (f133.H1 s8 s9 s10 s11 s12 s13 s14 s15)) z44 z45 z46 z47 z48 z49 z50 z51 z52 z53 := by
  rw [f133.p2_e4_pre]
  unfold f133.p2_e4
  rfl
theorem f133.s1_pre {R : Type} (L N : Nat) (κ : Ex → T → H → Option R) (rec : T → H → Option R) (s8 : LT) (s9 : Int) (s10 : Int) (s11 : LT) (s12 : LY) (s13 : LS) (s14 : LM) (s15 : LLM) :
    evRd (E133 L N) (evCallI (E133 L N) 1 2000) 1000 133 106 2 f133.c1 κ rec (f133.T1 s8 s9 s10 s11 s12 s13 s14 s15) (f133.H1 s8 s9 s10 s11 s12 s13 s14 s15)
    = f133.s1' L N (fun z16 z17 z18 z19 z20 z21 => κ (.exit 2) (f133.T1_e2 z16 z17 z18 z19 z20 z21) (f133.H1_e2 z16 z17 z18 z19 z20 z21)) (fun z76 z77 z78 z79 z80 z81 z82 => κ .ret (f133.T1_r z76 z77 z78 z79 z80 z81 z82) (f133.H1_r z76 z77 z78 z79 z80 z81 z82)) (fun s8 s9 s10 s11 s12 s13 s14 s15 => rec (f133.T1 s8 s9 s10 s11 s12 s13 s14 s15) (f133.H1 s8 s9 s10 s11 s12 s13 s14 s15)) (fun s23 s24 s25 s26 s27 s28 s29 s30 s31 s32 => evLp (E133 L N) (evCallI (E133 L N) 1 2000) 1000 133 106 4 f133.c2 (contAt (E133 L N) (evCallI (E133 L N) 1 2000) 1000 133 106 4 f133.c1 (stepK (outK (keepT 106 ((E133 L N).liveX 133 2).1) (keepH 1000 ((E133 L N).liveX 133 2).2) κ) fun t h => rec (backK 1000 106 ((E133 L N).live 133 2).1 ((E133 L N).live 133 2).2 ((E133 L N).heal 133 2) ((E133 L N).ren 133 2) t h).1 (backK 1000 106 ((E133 L N).live 133 2).1 ((E133 L N).live 133 2).2 ((E133 L N).heal 133 2) ((E133 L N).ren 133 2) t h).2)) L (f133.T2 s23 s24 s25 s26 s27 s28 s29 s30 s31 s32) (f133.H2 s23 s24 s25 s26 s27 s28 s29 s30 s31 s32)) s8 s9 s10 s11 s12 s13 s14 s15 := by kernel_rfl
theorem f133.s1_eq {R : Type} (L N : Nat) (κ : Ex → T → H → Option R) (rec : T → H → Option R) (s8 : LT) (s9 : Int) (s10 : Int) (s11 : LT) (s12 : LY) (s13 : LS) (s14 : LM) (s15 : LLM) :
    evRd (E133 L N) (evCallI (E133 L N) 1 2000) 1000 133 106 2 f133.c1 κ rec (f133.T1 s8 s9 s10 s11 s12 s13 s14 s15) (f133.H1 s8 s9 s10 s11 s12 s13 s14 s15)
    = f133.s1 L N (fun z16 z17 z18 z19 z20 z21 => κ (.exit 2) (f133.T1_e2 z16 z17 z18 z19 z20 z21) (f133.H1_e2 z16 z17 z18 z19 z20 z21)) (fun z76 z77 z78 z79 z80 z81 z82 => κ .ret (f133.T1_r z76 z77 z78 z79 z80 z81 z82) (f133.H1_r z76 z77 z78 z79 z80 z81 z82)) (fun s8 s9 s10 s11 s12 s13 s14 s15 => rec (f133.T1 s8 s9 s10 s11 s12 s13 s14 s15) (f133.H1 s8 s9 s10 s11 s12 s13 s14 s15)) s8 s9 s10 s11 s12 s13 s14 s15 := by
  rw [f133.s1_pre]
  unfold f133.s1
  simp only [f133.l2_eq, f133.p2_e4_eq]
theorem f133.l1_eq {R : Type} (L N : Nat) (κ : Ex → T → H → Option R) : ∀ (n : Nat) (s8 : LT) (s9 : Int) (s10 : Int) (s11 : LT) (s12 : LY) (s13 : LS) (s14 : LM) (s15 : LLM),
    evLp (E133 L N) (evCallI (E133 L N) 1 2000) 1000 133 106 2 f133.c1 κ n (f133.T1 s8 s9 s10 s11 s12 s13 s14 s15) (f133.H1 s8 s9 s10 s11 s12 s13 s14 s15)
    = f133.l1 L N (fun z16 z17 z18 z19 z20 z21 => κ (.exit 2) (f133.T1_e2 z16 z17 z18 z19 z20 z21) (f133.H1_e2 z16 z17 z18 z19 z20 z21)) (fun z76 z77 z78 z79 z80 z81 z82 => κ .ret (f133.T1_r z76 z77 z78 z79 z80 z81 z82) (f133.H1_r z76 z77 z78 z79 z80 z81 z82)) n s8 s9 s10 s11 s12 s13 s14 s15 := by
  intro n
  induction n with
  | zero => intros; rfl
  | succ n ih =>
    intro s8 s9 s10 s11 s12 s13 s14 s15
    rw [evLp_succ, f133.s1_eq]
    simp only [ih]
    rfl
theorem f133.p1_e2_pre {R : Type} (L N : Nat) (κ : Ex → T → H → Option R) (rec : T → H → Option R) (z16 : LT) (z17 : Int) (z18 : LT) (z19 : LY) (z20 : LM) (z21 : LLM) :
    (contAt (E133 L N) (evCallI (E133 L N) 1 2000) 1000 133 106 2 f133.c0 (stepK (outK (keepT 106 ((E133 L N).liveX 133 0).1) (keepH 1000 ((E133 L N).liveX 133 0).2) κ) fun t h => rec (backK 1000 106 ((E133 L N).live 133 0).1 ((E133 L N).live 133 0).2 ((E133 L N).heal 133 0) ((E133 L N).ren 133 0) t h).1 (backK 1000 106 ((E133 L N).live 133 0).1 ((E133 L N).live 133 0).2 ((E133 L N).heal 133 0) ((E133 L N).ren 133 0) t h).2)) (.exit 2) (f133.T1_e2 z16 z17 z18 z19 z20 z21) (f133.H1_e2 z16 z17 z18 z19 z20 z21)
    = f133.p1_e2' L N (fun z6 => κ (.exit 0) (f133.T0_e0 z6) (f133.H0_e0 z6)) (fun z102 z103 => κ .ret (f133.T0_r z102 z103) (f133.H0_r z102 z103)) (fun s1 s2 s3 s4 s5 => rec (f133.T0 s1 s2 s3 s4 s5) (f133.H0 s1 s2 s3 s4 s5)) z16 z17 z18 z19 z20 z21 := by kernel_rfl
theorem f133.p1_e2_eq {R : Type} (L N : Nat) (κ : Ex → T → H → Option R) (rec : T → H → Option R) (z16 : LT) (z17 : Int) (z18 : LT) (z19 : LY) (z20 : LM) (z21 : LLM) :
    (contAt (E133 L N) (evCallI (E133 L N) 1 2000) 1000 133 106 2 f133.c0 (stepK (outK (keepT 106 ((E133 L N).liveX 133 0).1) (keepH 1000 ((E133 L N).liveX 133 0).2) κ) fun t h => rec (backK 1000 106 ((E133 L N).live 133 0).1 ((E133 L N).live 133 0).2 ((E133 L N).heal 133 0) ((E133 L N).ren 133 0) t h).1 (backK 1000 106 ((E133 L N).live 133 0).1 ((E133 L N).live 133 0).2 ((E133 L N).heal 133 0) ((E133 L N).ren 133 0) t h).2)) (.exit 2) (f133.T1_e2 z16 z17 z18 z19 z20 z21) (f133.H1_e2 z16 z17 z18 z19 z20 z21)
    = f133.p1_e2 L N (fun z6 => κ (.exit 0) (f133.T0_e0 z6) (f133.H0_e0 z6)) (fun z102 z103 => κ .ret (f133.T0_r z102 z103) (f133.H0_r z102 z103)) (fun s1 s2 s3 s4 s5 => rec (f133.T0 s1 s2 s3 s4 s5) (f133.H0 s1 s2 s3 s4 s5)) z16 z17 z18 z19 z20 z21 := by
  rw [f133.p1_e2_pre]
  unfold f133.p1_e2
  rfl
theorem f133.p1_r_pre {R : Type} (L N : Nat) (κ : Ex → T → H → Option R) (rec : T → H → Option R) (z76 : LT) (z77 : Bool) (z78 : Int) (z79 : LT) (z80 : LY) (z81 : LM) (z82 : LLM) :
    (contAt (E133 L N) (evCallI (E133 L N) 1 2000) 1000 133 106 2 f133.c0 (stepK (outK (keepT 106 ((E133 L N).liveX 133 0).1) (keepH 1000 ((E133 L N).liveX 133 0).2) κ) fun t h => rec (backK 1000 106 ((E133 L N).live 133 0).1 ((E133 L N).live 133 0).2 ((E133 L N).heal 133 0) ((E133 L N).ren 133 0) t h).1 (backK 1000 106 ((E133 L N).live 133 0).1 ((E133 L N).live 133 0).2 ((E133 L N).heal 133 0) ((E133 L N).ren 133 0) t h).2)) .ret (f133.T1_r z76 z77 z78 z79 z80 z81 z82) (f133.H1_r z76 z77 z78 z79 z80 z81 z82)
    = f133.p1_r' L N (fun z6 => κ (.exit 0) (f133.T0_e0 z6) (f133.H0_e0 z6)) (fun z102 z103 => κ .ret (f133.T0_r z102 z103) (f133.H0_r z102 z103)) (fun s1 s2 s3 s4 s5 => rec (f133.T0 s1 s2 s3 s4 s5) (f133.H0 s1 s2 s3 s4 s5)) z76 z77 z78 z79 z80 z81 z82 := by kernel_rfl
theorem f133.p1_r_eq {R : Type} (L N : Nat) (κ : Ex → T → H → Option R) (rec : T → H → Option R) (z76 : LT) (z77 : Bool) (z78 : Int) (z79 : LT) (z80 : LY) (z81 : LM) (z82 : LLM) :
    (contAt (E133 L N) (evCallI (E133 L N) 1 2000) 1000 133 106 2 f133.c0 (stepK (outK (keepT 106 ((E133 L N).liveX 133 0).1) (keepH 1000 ((E133 L N).liveX 133 0).2) κ) fun t h => rec (backK 1000 106 ((E133 L N).live 133 0).1 ((E133 L N).live 133 0).2 ((E133 L N).heal 133 0) ((E133 L N).ren 133 0) t h).1 (backK 1000 106 ((E133 L N).live 133 0).1 ((E133 L N).live 133 0).2 ((E133 L N).heal 133 0) ((E133 L N).ren 133 0) t h).2)) .ret (f133.T1_r z76 z77 z78 z79 z80 z81 z82) (f133.H1_r z76 z77 z78 z79 z80 z81 z82)
    = f133.p1_r L N (fun z6 => κ (.exit 0) (f133.T0_e0 z6) (f133.H0_e0 z6)) (fun z102 z103 => κ .ret (f133.T0_r z102 z103) (f133.H0_r z102 z103)) (fun s1 s2 s3 s4 s5 => rec (f133.T0 s1 s2 s3 s4 s5) (f133.H0 s1 s2 s3 s4 s5)) z76 z77 z78 z79 z80 z81 z82 := by
  rw [f133.p1_r_pre]
  unfold f133.p1_r
  rfl
theorem f133.s0_pre {R : Type} (L N : Nat) (κ : Ex → T → H → Option R) (rec : T → H → Option R) (s1 : LT) (s2 : Int) (s3 : LT) (s4 : LY) (s5 : LLM) :
    evRd (E133 L N) (evCallI (E133 L N) 1 2000) 1000 133 106 0 f133.c0 κ rec (f133.T0 s1 s2 s3 s4 s5) (f133.H0 s1 s2 s3 s4 s5)
    = f133.s0' L N (fun z6 => κ (.exit 0) (f133.T0_e0 z6) (f133.H0_e0 z6)) (fun z102 z103 => κ .ret (f133.T0_r z102 z103) (f133.H0_r z102 z103)) (fun s1 s2 s3 s4 s5 => rec (f133.T0 s1 s2 s3 s4 s5) (f133.H0 s1 s2 s3 s4 s5)) (fun s8 s9 s10 s11 s12 s13 s14 s15 => evLp (E133 L N) (evCallI (E133 L N) 1 2000) 1000 133 106 2 f133.c1 (contAt (E133 L N) (evCallI (E133 L N) 1 2000) 1000 133 106 2 f133.c0 (stepK (outK (keepT 106 ((E133 L N).liveX 133 0).1) (keepH 1000 ((E133 L N).liveX 133 0).2) κ) fun t h => rec (backK 1000 106 ((E133 L N).live 133 0).1 ((E133 L N).live 133 0).2 ((E133 L N).heal 133 0) ((E133 L N).ren 133 0) t h).1 (backK 1000 106 ((E133 L N).live 133 0).1 ((E133 L N).live 133 0).2 ((E133 L N).heal 133 0) ((E133 L N).ren 133 0) t h).2)) L (f133.T1 s8 s9 s10 s11 s12 s13 s14 s15) (f133.H1 s8 s9 s10 s11 s12 s13 s14 s15)) s1 s2 s3 s4 s5 := by kernel_rfl
theorem f133.s0_eq {R : Type} (L N : Nat) (κ : Ex → T → H → Option R) (rec : T → H → Option R) (s1 : LT) (s2 : Int) (s3 : LT) (s4 : LY) (s5 : LLM) :
    evRd (E133 L N) (evCallI (E133 L N) 1 2000) 1000 133 106 0 f133.c0 κ rec (f133.T0 s1 s2 s3 s4 s5) (f133.H0 s1 s2 s3 s4 s5)
    = f133.s0 L N (fun z6 => κ (.exit 0) (f133.T0_e0 z6) (f133.H0_e0 z6)) (fun z102 z103 => κ .ret (f133.T0_r z102 z103) (f133.H0_r z102 z103)) (fun s1 s2 s3 s4 s5 => rec (f133.T0 s1 s2 s3 s4 s5) (f133.H0 s1 s2 s3 s4 s5)) s1 s2 s3 s4 s5 := by
  rw [f133.s0_pre]
  unfold f133.s0
  simp only [f133.l1_eq, f133.p1_e2_eq, f133.p1_r_eq]
theorem f133.l0_eq {R : Type} (L N : Nat) (κ : Ex → T → H → Option R) : ∀ (n : Nat) (s1 : LT) (s2 : Int) (s3 : LT) (s4 : LY) (s5 : LLM),
    evLp (E133 L N) (evCallI (E133 L N) 1 2000) 1000 133 106 0 f133.c0 κ n (f133.T0 s1 s2 s3 s4 s5) (f133.H0 s1 s2 s3 s4 s5)
    = f133.l0 L N (fun z6 => κ (.exit 0) (f133.T0_e0 z6) (f133.H0_e0 z6)) (fun z102 z103 => κ .ret (f133.T0_r z102 z103) (f133.H0_r z102 z103)) n s1 s2 s3 s4 s5 := by
  intro n
  induction n with
  | zero => intros; rfl
  | succ n ih =>
    intro s1 s2 s3 s4 s5
    rw [evLp_succ, f133.s0_eq]
    simp only [ih]
    rfl
theorem f133.p0_e0_pre {R : Type} (L N : Nat) (κ : AV → Option R) (z6 : LLM) :
    (contAt (E133 L N) (evCallI (E133 L N) 1 2000) 1000 133 106 0 (codeOf Try.f133) (finK (E133 L N) 1000 Try.f133 (finC (.many [(.st 2), .bool]) κ))) (.exit 0) (f133.T0_e0 z6) (f133.H0_e0 z6)
    = f133.p0_e0' L N (fun a0 a1 => κ (.tup [(.tv (.st 2) a0), (.tv .bool a1)])) z6 := by kernel_rfl
theorem f133.p0_e0_eq {R : Type} (L N : Nat) (κ : AV → Option R) (z6 : LLM) :
    (contAt (E133 L N) (evCallI (E133 L N) 1 2000) 1000 133 106 0 (codeOf Try.f133) (finK (E133 L N) 1000 Try.f133 (finC (.many [(.st 2), .bool]) κ))) (.exit 0) (f133.T0_e0 z6) (f133.H0_e0 z6)
    = f133.p0_e0 L N (fun a0 a1 => κ (.tup [(.tv (.st 2) a0), (.tv .bool a1)])) z6 := by
  rw [f133.p0_e0_pre]
  unfold f133.p0_e0
  rfl
theorem f133.p0_r_pre {R : Type} (L N : Nat) (κ : AV → Option R) (z102 : Bool) (z103 : LLM) :
    (contAt (E133 L N) (evCallI (E133 L N) 1 2000) 1000 133 106 0 (codeOf Try.f133) (finK (E133 L N) 1000 Try.f133 (finC (.many [(.st 2), .bool]) κ))) .ret (f133.T0_r z102 z103) (f133.H0_r z102 z103)
    = f133.p0_r' L N (fun a0 a1 => κ (.tup [(.tv (.st 2) a0), (.tv .bool a1)])) z102 z103 := by kernel_rfl
theorem f133.p0_r_eq {R : Type} (L N : Nat) (κ : AV → Option R) (z102 : Bool) (z103 : LLM) :
    (contAt (E133 L N) (evCallI (E133 L N) 1 2000) 1000 133 106 0 (codeOf Try.f133) (finK (E133 L N) 1000 Try.f133 (finC (.many [(.st 2), .bool]) κ))) .ret (f133.T0_r z102 z103) (f133.H0_r z102 z103)
    = f133.p0_r L N (fun a0 a1 => κ (.tup [(.tv (.st 2) a0), (.tv .bool a1)])) z102 z103 := by
  rw [f133.p0_r_pre]
  unfold f133.p0_r
  rfl
theorem f133.b_pre {R : Type} (L N : Nat) (κ : AV → Option R) (x0 : Tree) (x1 : LT) :
    evBody (E133 L N) (evCallI (E133 L N) 1 2000) 1000 133 Try.f133 [(.tv (.st 1) x0), (.tv (.sl (.st 1)) x1)] [] [] (finC (.many [(.st 2), .bool]) κ)
    = f133.b' L N (fun a0 a1 => κ (.tup [(.tv (.st 2) a0), (.tv .bool a1)])) (fun s1 s2 s3 s4 s5 => evLp (E133 L N) (evCallI (E133 L N) 1 2000) 1000 133 106 0 f133.c0 (contAt (E133 L N) (evCallI (E133 L N) 1 2000) 1000 133 106 0 (codeOf Try.f133) (finK (E133 L N) 1000 Try.f133 (finC (.many [(.st 2), .bool]) κ))) L (f133.T0 s1 s2 s3 s4 s5) (f133.H0 s1 s2 s3 s4 s5)) x0 x1 := by kernel_rfl
theorem f133.b_eq {R : Type} (L N : Nat) (κ : AV → Option R) (x0 : Tree) (x1 : LT) :
    evBody (E133 L N) (evCallI (E133 L N) 1 2000) 1000 133 Try.f133 [(.tv (.st 1) x0), (.tv (.sl (.st 1)) x1)] [] [] (finC (.many [(.st 2), .bool]) κ)
    = f133.b L N (fun a0 a1 => κ (.tup [(.tv (.st 2) a0), (.tv .bool a1)])) x0 x1 := by
  rw [f133.b_pre]
  unfold f133.b
  simp only [f133.l0_eq, f133.p0_e0_eq, f133.p0_r_eq]
theorem f133.s2'_nat {R R' : Type} (j : R → Option R') (L N : Nat) (k2_e4 : LT → Int → Int → ByteArray → Int → LT → LY → LS → LM → LLM → Option R) (rec2 : LT → Int → Int → ByteArray → Int → LT → LY → LS → LM → LLM → Option R) (s23 : LT) (s24 : Int) (s25 : Int) (s26 : ByteArray) (s27 : Int) (s28 : LT) (s29 : LY) (s30 : LS) (s31 : LM) (s32 : LLM) :
    f133.s2' L N (fun a0 a1 a2 a3 a4 a5 a6 a7 a8 a9 => (k2_e4 a0 a1 a2 a3 a4 a5 a6 a7 a8 a9).bind j) (fun a0 a1 a2 a3 a4 a5 a6 a7 a8 a9 => (rec2 a0 a1 a2 a3 a4 a5 a6 a7 a8 a9).bind j) s23 s24 s25 s26 s27 s28 s29 s30 s31 s32 = (f133.s2' L N k2_e4 rec2 s23 s24 s25 s26 s27 s28 s29 s30 s31 s32).bind j := by
  unfold f133.s2'
  repeat' (first | (with_reducible refine cond_nat ?_ ?_) | (with_reducible refine bind_nat fun _ => ?_) | rfl)
theorem f133.s2_nat {R R' : Type} (j : R → Option R') (L N : Nat) (k2_e4 : LT → Int → Int → ByteArray → Int → LT → LY → LS → LM → LLM → Option R) (rec2 : LT → Int → Int → ByteArray → Int → LT → LY → LS → LM → LLM → Option R) (s23 : LT) (s24 : Int) (s25 : Int) (s26 : ByteArray) (s27 : Int) (s28 : LT) (s29 : LY) (s30 : LS) (s31 : LM) (s32 : LLM) :
    f133.s2 L N (fun a0 a1 a2 a3 a4 a5 a6 a7 a8 a9 => (k2_e4 a0 a1 a2 a3 a4 a5 a6 a7 a8 a9).bind j) (fun a0 a1 a2 a3 a4 a5 a6 a7 a8 a9 => (rec2 a0 a1 a2 a3 a4 a5 a6 a7 a8 a9).bind j) s23 s24 s25 s26 s27 s28 s29 s30 s31 s32 = (f133.s2 L N k2_e4 rec2 s23 s24 s25 s26 s27 s28 s29 s30 s31 s32).bind j := by
  unfold f133.s2
  exact f133.s2'_nat ..
theorem f133.l2_nat {R R' : Type} (j : R → Option R') (L N : Nat) (k2_e4 : LT → Int → Int → ByteArray → Int → LT → LY → LS → LM → LLM → Option R) : ∀ (n : Nat) (s23 : LT) (s24 : Int) (s25 : Int) (s26 : ByteArray) (s27 : Int) (s28 : LT) (s29 : LY) (s30 : LS) (s31 : LM) (s32 : LLM),
    f133.l2 L N (fun a0 a1 a2 a3 a4 a5 a6 a7 a8 a9 => (k2_e4 a0 a1 a2 a3 a4 a5 a6 a7 a8 a9).bind j) n s23 s24 s25 s26 s27 s28 s29 s30 s31 s32 = (f133.l2 L N k2_e4 n s23 s24 s25 s26 s27 s28 s29 s30 s31 s32).bind j := by
  intro n
  induction n with
  | zero => intros; rfl
  | succ n ih =>
    intro s23 s24 s25 s26 s27 s28 s29 s30 s31 s32
    show f133.s2 L N (fun a0 a1 a2 a3 a4 a5 a6 a7 a8 a9 => (k2_e4 a0 a1 a2 a3 a4 a5 a6 a7 a8 a9).bind j) (f133.l2 L N (fun a0 a1 a2 a3 a4 a5 a6 a7 a8 a9 => (k2_e4 a0 a1 a2 a3 a4 a5 a6 a7 a8 a9).bind j) n) s23 s24 s25 s26 s27 s28 s29 s30 s31 s32 = _
    rw [show f133.l2 L N (fun a0 a1 a2 a3 a4 a5 a6 a7 a8 a9 => (k2_e4 a0 a1 a2 a3 a4 a5 a6 a7 a8 a9).bind j) n = (fun s23 s24 s25 s26 s27 s28 s29 s30 s31 s32 => (f133.l2 L N k2_e4 n s23 s24 s25 s26 s27 s28 s29 s30 s31 s32).bind j) from funext fun s23 => funext fun s24 => funext fun s25 => funext fun s26 => funext fun s27 => funext fun s28 => funext fun s29 => funext fun s30 => funext fun s31 => funext fun s32 => ih s23 s24 s25 s26 s27 s28 s29 s30 s31 s32]
    exact f133.s2_nat ..
theorem f133.j1'_nat {R R' : Type} (j : R → Option R') (L N : Nat) (k1_e2 : LT → Int → LT → LY → LM → LLM → Option R) (k1_r : LT → Bool → Int → LT → LY → LM → LLM → Option R) (rec1 : LT → Int → Int → LT → LY → LS → LM → LLM → Option R) (v93 : LT) (v94 : Int) (v95 : Int) (v96 : Int) (v97 : LT) (v98 : LY) (v99 : LS) (v100 : LM) (v101 : LLM) :
    f133.j1' L N (fun a0 a1 a2 a3 a4 a5 => (k1_e2 a0 a1 a2 a3 a4 a5).bind j) (fun a0 a1 a2 a3 a4 a5 a6 => (k1_r a0 a1 a2 a3 a4 a5 a6).bind j) (fun a0 a1 a2 a3 a4 a5 a6 a7 => (rec1 a0 a1 a2 a3 a4 a5 a6 a7).bind j) v93 v94 v95 v96 v97 v98 v99 v100 v101 = (f133.j1' L N k1_e2 k1_r rec1 v93 v94 v95 v96 v97 v98 v99 v100 v101).bind j := by
  unfold f133.j1'
  repeat' (first | (with_reducible refine cond_nat ?_ ?_) | (with_reducible refine bind_nat fun _ => ?_) | rfl)
theorem f133.j0'_nat {R R' : Type} (j : R → Option R') (L N : Nat) (k1_e2 : LT → Int → LT → LY → LM → LLM → Option R) (k1_r : LT → Bool → Int → LT → LY → LM → LLM → Option R) (rec1 : LT → Int → Int → LT → LY → LS → LM → LLM → Option R) (v83 : LT) (v84 : Int) (v85 : Int) (v86 : ByteArray) (v87 : Int) (v88 : LT) (v89 : LY) (v90 : LS) (v91 : LM) (v92 : LLM) :
    f133.j0' L N (fun a0 a1 a2 a3 a4 a5 => (k1_e2 a0 a1 a2 a3 a4 a5).bind j) (fun a0 a1 a2 a3 a4 a5 a6 => (k1_r a0 a1 a2 a3 a4 a5 a6).bind j) (fun a0 a1 a2 a3 a4 a5 a6 a7 => (rec1 a0 a1 a2 a3 a4 a5 a6 a7).bind j) v83 v84 v85 v86 v87 v88 v89 v90 v91 v92 = (f133.j0' L N k1_e2 k1_r rec1 v83 v84 v85 v86 v87 v88 v89 v90 v91 v92).bind j := by
  unfold f133.j0'
  repeat' (first | (with_reducible refine cond_nat ?_ ?_) | (with_reducible refine bind_nat fun _ => ?_) | exact f133.j1'_nat .. | rfl)
theorem f133.p2_e4'_nat {R R' : Type} (j : R → Option R') (L N : Nat) (k1_e2 : LT → Int → LT → LY → LM → LLM → Option R) (k1_r : LT → Bool → Int → LT → LY → LM → LLM → Option R) (rec1 : LT → Int → Int → LT → LY → LS → LM → LLM → Option R) (z44 : LT) (z45 : Int) (z46 : Int) (z47 : ByteArray) (z48 : Int) (z49 : LT) (z50 : LY) (z51 : LS) (z52 : LM) (z53 : LLM) :
    f133.p2_e4' L N (fun a0 a1 a2 a3 a4 a5 => (k1_e2 a0 a1 a2 a3 a4 a5).bind j) (fun a0 a1 a2 a3 a4 a5 a6 => (k1_r a0 a1 a2 a3 a4 a5 a6).bind j) (fun a0 a1 a2 a3 a4 a5 a6 a7 => (rec1 a0 a1 a2 a3 a4 a5 a6 a7).bind j) z44 z45 z46 z47 z48 z49 z50 z51 z52 z53 = (f133.p2_e4' L N k1_e2 k1_r rec1 z44 z45 z46 z47 z48 z49 z50 z51 z52 z53).bind j := by
  unfold f133.p2_e4'
  repeat' (first | (with_reducible refine cond_nat ?_ ?_) | (with_reducible refine bind_nat fun _ => ?_) | exact f133.j1'_nat .. | exact f133.j0'_nat .. | rfl)
theorem f133.p2_e4_nat {R R' : Type} (j : R → Option R') (L N : Nat) (k1_e2 : LT → Int → LT → LY → LM → LLM → Option R) (k1_r : LT → Bool → Int → LT → LY → LM → LLM → Option R) (rec1 : LT → Int → Int → LT → LY → LS → LM → LLM → Option R) (z44 : LT) (z45 : Int) (z46 : Int) (z47 : ByteArray) (z48 : Int) (z49 : LT) (z50 : LY) (z51 : LS) (z52 : LM) (z53 : LLM) :
    f133.p2_e4 L N (fun a0 a1 a2 a3 a4 a5 => (k1_e2 a0 a1 a2 a3 a4 a5).bind j) (fun a0 a1 a2 a3 a4 a5 a6 => (k1_r a0 a1 a2 a3 a4 a5 a6).bind j) (fun a0 a1 a2 a3 a4 a5 a6 a7 => (rec1 a0 a1 a2 a3 a4 a5 a6 a7).bind j) z44 z45 z46 z47 z48 z49 z50 z51 z52 z53 = (f133.p2_e4 L N k1_e2 k1_r rec1 z44 z45 z46 z47 z48 z49 z50 z51 z52 z53).bind j := by
  unfold f133.p2_e4
  exact f133.p2_e4'_nat ..
theorem f133.s1'_nat {R R' : Type} (j : R → Option R') (L N : Nat) (k1_e2 : LT → Int → LT → LY → LM → LLM → Option R) (k1_r : LT → Bool → Int → LT → LY → LM → LLM → Option R) (rec1 : LT → Int → Int → LT → LY → LS → LM → LLM → Option R) (w2 : LT → Int → Int → ByteArray → Int → LT → LY → LS → LM → LLM → Option R) (s8 : LT) (s9 : Int) (s10 : Int) (s11 : LT) (s12 : LY) (s13 : LS) (s14 : LM) (s15 : LLM) :
    f133.s1' L N (fun a0 a1 a2 a3 a4 a5 => (k1_e2 a0 a1 a2 a3 a4 a5).bind j) (fun a0 a1 a2 a3 a4 a5 a6 => (k1_r a0 a1 a2 a3 a4 a5 a6).bind j) (fun a0 a1 a2 a3 a4 a5 a6 a7 => (rec1 a0 a1 a2 a3 a4 a5 a6 a7).bind j) (fun a0 a1 a2 a3 a4 a5 a6 a7 a8 a9 => (w2 a0 a1 a2 a3 a4 a5 a6 a7 a8 a9).bind j) s8 s9 s10 s11 s12 s13 s14 s15 = (f133.s1' L N k1_e2 k1_r rec1 w2 s8 s9 s10 s11 s12 s13 s14 s15).bind j := by
  unfold f133.s1'
  repeat' (first | (with_reducible refine cond_nat ?_ ?_) | (with_reducible refine bind_nat fun _ => ?_) | rfl)
theorem f133.s1_nat {R R' : Type} (j : R → Option R') (L N : Nat) (k1_e2 : LT → Int → LT → LY → LM → LLM → Option R) (k1_r : LT → Bool → Int → LT → LY → LM → LLM → Option R) (rec1 : LT → Int → Int → LT → LY → LS → LM → LLM → Option R) (s8 : LT) (s9 : Int) (s10 : Int) (s11 : LT) (s12 : LY) (s13 : LS) (s14 : LM) (s15 : LLM) :
    f133.s1 L N (fun a0 a1 a2 a3 a4 a5 => (k1_e2 a0 a1 a2 a3 a4 a5).bind j) (fun a0 a1 a2 a3 a4 a5 a6 => (k1_r a0 a1 a2 a3 a4 a5 a6).bind j) (fun a0 a1 a2 a3 a4 a5 a6 a7 => (rec1 a0 a1 a2 a3 a4 a5 a6 a7).bind j) s8 s9 s10 s11 s12 s13 s14 s15 = (f133.s1 L N k1_e2 k1_r rec1 s8 s9 s10 s11 s12 s13 s14 s15).bind j := by
  unfold f133.s1
  simp only [f133.l2_nat, f133.p2_e4_nat]
  exact f133.s1'_nat ..
theorem f133.l1_nat {R R' : Type} (j : R → Option R') (L N : Nat) (k1_e2 : LT → Int → LT → LY → LM → LLM → Option R) (k1_r : LT → Bool → Int → LT → LY → LM → LLM → Option R) : ∀ (n : Nat) (s8 : LT) (s9 : Int) (s10 : Int) (s11 : LT) (s12 : LY) (s13 : LS) (s14 : LM) (s15 : LLM),
    f133.l1 L N (fun a0 a1 a2 a3 a4 a5 => (k1_e2 a0 a1 a2 a3 a4 a5).bind j) (fun a0 a1 a2 a3 a4 a5 a6 => (k1_r a0 a1 a2 a3 a4 a5 a6).bind j) n s8 s9 s10 s11 s12 s13 s14 s15 = (f133.l1 L N k1_e2 k1_r n s8 s9 s10 s11 s12 s13 s14 s15).bind j := by
  intro n
  induction n with
  | zero => intros; rfl
  | succ n ih =>
    intro s8 s9 s10 s11 s12 s13 s14 s15
    show f133.s1 L N (fun a0 a1 a2 a3 a4 a5 => (k1_e2 a0 a1 a2 a3 a4 a5).bind j) (fun a0 a1 a2 a3 a4 a5 a6 => (k1_r a0 a1 a2 a3 a4 a5 a6).bind j) (f133.l1 L N (fun a0 a1 a2 a3 a4 a5 => (k1_e2 a0 a1 a2 a3 a4 a5).bind j) (fun a0 a1 a2 a3 a4 a5 a6 => (k1_r a0 a1 a2 a3 a4 a5 a6).bind j) n) s8 s9 s10 s11 s12 s13 s14 s15 = _
    rw [show f133.l1 L N (fun a0 a1 a2 a3 a4 a5 => (k1_e2 a0 a1 a2 a3 a4 a5).bind j) (fun a0 a1 a2 a3 a4 a5 a6 => (k1_r a0 a1 a2 a3 a4 a5 a6).bind j) n = (fun s8 s9 s10 s11 s12 s13 s14 s15 => (f133.l1 L N k1_e2 k1_r n s8 s9 s10 s11 s12 s13 s14 s15).bind j) from funext fun s8 => funext fun s9 => funext fun s10 => funext fun s11 => funext fun s12 => funext fun s13 => funext fun s14 => funext fun s15 => ih s8 s9 s10 s11 s12 s13 s14 s15]
    exact f133.s1_nat ..
theorem f133.p1_e2'_nat {R R' : Type} (j : R → Option R') (L N : Nat) (k0_e0 : LLM → Option R) (k0_r : Bool → LLM → Option R) (rec0 : LT → Int → LT → LY → LLM → Option R) (z16 : LT) (z17 : Int) (z18 : LT) (z19 : LY) (z20 : LM) (z21 : LLM) :
    f133.p1_e2' L N (fun a0 => (k0_e0 a0).bind j) (fun a0 a1 => (k0_r a0 a1).bind j) (fun a0 a1 a2 a3 a4 => (rec0 a0 a1 a2 a3 a4).bind j) z16 z17 z18 z19 z20 z21 = (f133.p1_e2' L N k0_e0 k0_r rec0 z16 z17 z18 z19 z20 z21).bind j := by
  unfold f133.p1_e2'
  repeat' (first | (with_reducible refine cond_nat ?_ ?_) | (with_reducible refine bind_nat fun _ => ?_) | rfl)
theorem f133.p1_e2_nat {R R' : Type} (j : R → Option R') (L N : Nat) (k0_e0 : LLM → Option R) (k0_r : Bool → LLM → Option R) (rec0 : LT → Int → LT → LY → LLM → Option R) (z16 : LT) (z17 : Int) (z18 : LT) (z19 : LY) (z20 : LM) (z21 : LLM) :
    f133.p1_e2 L N (fun a0 => (k0_e0 a0).bind j) (fun a0 a1 => (k0_r a0 a1).bind j) (fun a0 a1 a2 a3 a4 => (rec0 a0 a1 a2 a3 a4).bind j) z16 z17 z18 z19 z20 z21 = (f133.p1_e2 L N k0_e0 k0_r rec0 z16 z17 z18 z19 z20 z21).bind j := by
  unfold f133.p1_e2
  exact f133.p1_e2'_nat ..
theorem f133.p1_r'_nat {R R' : Type} (j : R → Option R') (L N : Nat) (k0_e0 : LLM → Option R) (k0_r : Bool → LLM → Option R) (rec0 : LT → Int → LT → LY → LLM → Option R) (z76 : LT) (z77 : Bool) (z78 : Int) (z79 : LT) (z80 : LY) (z81 : LM) (z82 : LLM) :
    f133.p1_r' L N (fun a0 => (k0_e0 a0).bind j) (fun a0 a1 => (k0_r a0 a1).bind j) (fun a0 a1 a2 a3 a4 => (rec0 a0 a1 a2 a3 a4).bind j) z76 z77 z78 z79 z80 z81 z82 = (f133.p1_r' L N k0_e0 k0_r rec0 z76 z77 z78 z79 z80 z81 z82).bind j := by
  unfold f133.p1_r'
  repeat' (first | (with_reducible refine cond_nat ?_ ?_) | (with_reducible refine bind_nat fun _ => ?_) | rfl)
theorem f133.p1_r_nat {R R' : Type} (j : R → Option R') (L N : Nat) (k0_e0 : LLM → Option R) (k0_r : Bool → LLM → Option R) (rec0 : LT → Int → LT → LY → LLM → Option R) (z76 : LT) (z77 : Bool) (z78 : Int) (z79 : LT) (z80 : LY) (z81 : LM) (z82 : LLM) :
    f133.p1_r L N (fun a0 => (k0_e0 a0).bind j) (fun a0 a1 => (k0_r a0 a1).bind j) (fun a0 a1 a2 a3 a4 => (rec0 a0 a1 a2 a3 a4).bind j) z76 z77 z78 z79 z80 z81 z82 = (f133.p1_r L N k0_e0 k0_r rec0 z76 z77 z78 z79 z80 z81 z82).bind j := by
  unfold f133.p1_r
  exact f133.p1_r'_nat ..
theorem f133.s0'_nat {R R' : Type} (j : R → Option R') (L N : Nat) (k0_e0 : LLM → Option R) (k0_r : Bool → LLM → Option R) (rec0 : LT → Int → LT → LY → LLM → Option R) (w1 : LT → Int → Int → LT → LY → LS → LM → LLM → Option R) (s1 : LT) (s2 : Int) (s3 : LT) (s4 : LY) (s5 : LLM) :
    f133.s0' L N (fun a0 => (k0_e0 a0).bind j) (fun a0 a1 => (k0_r a0 a1).bind j) (fun a0 a1 a2 a3 a4 => (rec0 a0 a1 a2 a3 a4).bind j) (fun a0 a1 a2 a3 a4 a5 a6 a7 => (w1 a0 a1 a2 a3 a4 a5 a6 a7).bind j) s1 s2 s3 s4 s5 = (f133.s0' L N k0_e0 k0_r rec0 w1 s1 s2 s3 s4 s5).bind j := by
  unfold f133.s0'
  repeat' (first | (with_reducible refine cond_nat ?_ ?_) | (with_reducible refine bind_nat fun _ => ?_) | rfl)
theorem f133.s0_nat {R R' : Type} (j : R → Option R') (L N : Nat) (k0_e0 : LLM → Option R) (k0_r : Bool → LLM → Option R) (rec0 : LT → Int → LT → LY → LLM → Option R) (s1 : LT) (s2 : Int) (s3 : LT) (s4 : LY) (s5 : LLM) :
    f133.s0 L N (fun a0 => (k0_e0 a0).bind j) (fun a0 a1 => (k0_r a0 a1).bind j) (fun a0 a1 a2 a3 a4 => (rec0 a0 a1 a2 a3 a4).bind j) s1 s2 s3 s4 s5 = (f133.s0 L N k0_e0 k0_r rec0 s1 s2 s3 s4 s5).bind j := by
  unfold f133.s0
  simp only [f133.l1_nat, f133.p1_e2_nat, f133.p1_r_nat]
  exact f133.s0'_nat ..
theorem f133.l0_nat {R R' : Type} (j : R → Option R') (L N : Nat) (k0_e0 : LLM → Option R) (k0_r : Bool → LLM → Option R) : ∀ (n : Nat) (s1 : LT) (s2 : Int) (s3 : LT) (s4 : LY) (s5 : LLM),
    f133.l0 L N (fun a0 => (k0_e0 a0).bind j) (fun a0 a1 => (k0_r a0 a1).bind j) n s1 s2 s3 s4 s5 = (f133.l0 L N k0_e0 k0_r n s1 s2 s3 s4 s5).bind j := by
  intro n
  induction n with
  | zero => intros; rfl
  | succ n ih =>
    intro s1 s2 s3 s4 s5
    show f133.s0 L N (fun a0 => (k0_e0 a0).bind j) (fun a0 a1 => (k0_r a0 a1).bind j) (f133.l0 L N (fun a0 => (k0_e0 a0).bind j) (fun a0 a1 => (k0_r a0 a1).bind j) n) s1 s2 s3 s4 s5 = _
    rw [show f133.l0 L N (fun a0 => (k0_e0 a0).bind j) (fun a0 a1 => (k0_r a0 a1).bind j) n = (fun s1 s2 s3 s4 s5 => (f133.l0 L N k0_e0 k0_r n s1 s2 s3 s4 s5).bind j) from funext fun s1 => funext fun s2 => funext fun s3 => funext fun s4 => funext fun s5 => ih s1 s2 s3 s4 s5]
    exact f133.s0_nat ..
theorem f133.p0_e0'_nat {R R' : Type} (j : R → Option R') (L N : Nat) (k : Graph → Bool → Option R) (z6 : LLM) :
    f133.p0_e0' L N (fun a0 a1 => (k a0 a1).bind j) z6 = (f133.p0_e0' L N k z6).bind j := by
  unfold f133.p0_e0'
  repeat' (first | (with_reducible refine cond_nat ?_ ?_) | (with_reducible refine bind_nat fun _ => ?_) | rfl)
theorem f133.p0_e0_nat {R R' : Type} (j : R → Option R') (L N : Nat) (k : Graph → Bool → Option R) (z6 : LLM) :
    f133.p0_e0 L N (fun a0 a1 => (k a0 a1).bind j) z6 = (f133.p0_e0 L N k z6).bind j := by
  unfold f133.p0_e0
  exact f133.p0_e0'_nat ..
theorem f133.p0_r'_nat {R R' : Type} (j : R → Option R') (L N : Nat) (k : Graph → Bool → Option R) (z102 : Bool) (z103 : LLM) :
    f133.p0_r' L N (fun a0 a1 => (k a0 a1).bind j) z102 z103 = (f133.p0_r' L N k z102 z103).bind j := by
  unfold f133.p0_r'
  repeat' (first | (with_reducible refine cond_nat ?_ ?_) | (with_reducible refine bind_nat fun _ => ?_) | rfl)
theorem f133.p0_r_nat {R R' : Type} (j : R → Option R') (L N : Nat) (k : Graph → Bool → Option R) (z102 : Bool) (z103 : LLM) :
    f133.p0_r L N (fun a0 a1 => (k a0 a1).bind j) z102 z103 = (f133.p0_r L N k z102 z103).bind j := by
  unfold f133.p0_r
  exact f133.p0_r'_nat ..
theorem f133.b'_nat {R R' : Type} (j : R → Option R') (L N : Nat) (k : Graph → Bool → Option R) (w0 : LT → Int → LT → LY → LLM → Option R) (x0 : Tree) (x1 : LT) :
    f133.b' L N (fun a0 a1 => (k a0 a1).bind j) (fun a0 a1 a2 a3 a4 => (w0 a0 a1 a2 a3 a4).bind j) x0 x1 = (f133.b' L N k w0 x0 x1).bind j := by
  unfold f133.b'
  repeat' (first | (with_reducible refine cond_nat ?_ ?_) | (with_reducible refine bind_nat fun _ => ?_) | rfl)
theorem f133.b_nat {R R' : Type} (j : R → Option R') (L N : Nat) (k : Graph → Bool → Option R) (x0 : Tree) (x1 : LT) :
    f133.b L N (fun a0 a1 => (k a0 a1).bind j) x0 x1 = (f133.b L N k x0 x1).bind j := by
  unfold f133.b
  simp only [f133.l0_nat, f133.p0_e0_nat, f133.p0_r_nat]
  exact f133.b'_nat ..
theorem f133.ok (L N : Nat) (hΦ : TellsOk Try.prog ((Φ151 L N))) : EntOk Try.prog 133 (f133.ent L N) := by
  intro args vw site h
  unfold f133.ent
  split
  · rename_i d u ha
    intro y hy hs
    refine call_data (dep := 1000) (E := (E133 L N)) (rs := (.many [(.st 2), .bool])) (v' := (.tup [(.tv (.st 2) y.1), (.tv .bool y.2)])) (sound_of hΦ) okP (callI_sound (sound_of hΦ) okP 1 2000) (f := Try.f133) rfl hs ha ?_ site
    refine (f133.b_eq L N some d.1 d.2.1).trans ?_
    refine ((f133.b_nat (fun y => (some (.tup [(.tv (.st 2) y.1), (.tv .bool y.2)]) : Option AV)) L N (fun a0 a1 => some (a0, a1)) d.1 d.2.1)).trans ?_
    rw [show f133.b L N (fun a0 a1 => some (a0, a1)) d.1 d.2.1 = some y from hy]
    rfl
  · intro y hy
    cases hy
def Φ133 (L N : Nat) : Tells := (addT (Φ151 L N) 133 (f133.ent L N))
theorem Φ133_ok (L N : Nat) : TellsOk Try.prog (Φ133 L N) := addT_ok (Φ151_ok L N) (f133.ok L N (Φ151_ok L N))
def f104.b' {R : Type} (L N : Nat) (k : Graph → Bool → Option R) (x0 : Tree) (x1 : LT) : Option R :=
  (f132 L N (Tree.mk x0.op x0.n x0.parts) x1).bind fun y0 =>
  bif (!y0) then
    k (Graph.mk []) false
  else (f133 L N (Tree.mk x0.op x0.n x0.parts) x1).bind fun y1 =>
  k (Graph.mk y1.1.moves) y1.2
def f104.b {R : Type} (L N : Nat) (k : Graph → Bool → Option R) (x0 : Tree) (x1 : LT) : Option R :=
  f104.b' L N k x0 x1
def f104 (L N : Nat) (x0 : Tree) (x1 : LT) : Option (Graph × Bool) := f104.b L N (fun a0 a1 => some (a0, a1)) x0 x1
def f104.ent (L N : Nat) (args : List AV) (vw : View) (site : Nat) : Ans := match coeD [(.st 1), (.sl (.st 1))] vw args with
  | some (d, u) => ⟨Graph × Bool, f104 L N d.1 d.2.1, fun y => ((.tup [(.tv (.st 2) y.1), (.tv .bool y.2)]), u, [])⟩
  | none => Ans.no
noncomputable def E104 (L N : Nat) : Env := { P := Try.prog, ty := tyOf, Φ := (Φ133 L N), inl := inlT, live := lives, liveX := livesX, L := L, dp := none, prom := promT, heal := healT, ren := renT }
theorem f104.b_pre {R : Type} (L N : Nat) (κ : AV → Option R) (x0 : Tree) (x1 : LT) :
    evBody (E104 L N) (evCallI (E104 L N) 1 2000) 1000 104 Try.f104 [(.tv (.st 1) x0), (.tv (.sl (.st 1)) x1)] [] [] (finC (.many [(.st 2), .bool]) κ)
    = f104.b' L N (fun a0 a1 => κ (.tup [(.tv (.st 2) a0), (.tv .bool a1)])) x0 x1 := by kernel_rfl
theorem f104.b_eq {R : Type} (L N : Nat) (κ : AV → Option R) (x0 : Tree) (x1 : LT) :
    evBody (E104 L N) (evCallI (E104 L N) 1 2000) 1000 104 Try.f104 [(.tv (.st 1) x0), (.tv (.sl (.st 1)) x1)] [] [] (finC (.many [(.st 2), .bool]) κ)
    = f104.b L N (fun a0 a1 => κ (.tup [(.tv (.st 2) a0), (.tv .bool a1)])) x0 x1 := by
  rw [f104.b_pre]
  unfold f104.b
  rfl
theorem f104.b'_nat {R R' : Type} (j : R → Option R') (L N : Nat) (k : Graph → Bool → Option R) (x0 : Tree) (x1 : LT) :
    f104.b' L N (fun a0 a1 => (k a0 a1).bind j) x0 x1 = (f104.b' L N k x0 x1).bind j := by
  unfold f104.b'
  repeat' (first | (with_reducible refine cond_nat ?_ ?_) | (with_reducible refine bind_nat fun _ => ?_) | rfl)
theorem f104.b_nat {R R' : Type} (j : R → Option R') (L N : Nat) (k : Graph → Bool → Option R) (x0 : Tree) (x1 : LT) :
    f104.b L N (fun a0 a1 => (k a0 a1).bind j) x0 x1 = (f104.b L N k x0 x1).bind j := by
  unfold f104.b
  exact f104.b'_nat ..
theorem f104.ok (L N : Nat) (hΦ : TellsOk Try.prog ((Φ133 L N))) : EntOk Try.prog 104 (f104.ent L N) := by
  intro args vw site h
  unfold f104.ent
  split
  · rename_i d u ha
    intro y hy hs
    refine call_data (dep := 1000) (E := (E104 L N)) (rs := (.many [(.st 2), .bool])) (v' := (.tup [(.tv (.st 2) y.1), (.tv .bool y.2)])) (sound_of hΦ) okP (callI_sound (sound_of hΦ) okP 1 2000) (f := Try.f104) rfl hs ha ?_ site
    refine (f104.b_eq L N some d.1 d.2.1).trans ?_
    refine ((f104.b_nat (fun y => (some (.tup [(.tv (.st 2) y.1), (.tv .bool y.2)]) : Option AV)) L N (fun a0 a1 => some (a0, a1)) d.1 d.2.1)).trans ?_
    rw [show f104.b L N (fun a0 a1 => some (a0, a1)) d.1 d.2.1 = some y from hy]
    rfl
  · intro y hy
    cases hy
def Φ104 (L N : Nat) : Tells := (addT (Φ133 L N) 104 (f104.ent L N))
theorem Φ104_ok (L N : Nat) : TellsOk Try.prog (Φ104 L N) := addT_ok (Φ133_ok L N) (f104.ok L N (Φ133_ok L N))
def f105.j0' {R : Type} (L N : Nat) (k1_e2 : Int → Bool → Int → LI → Int → LM → LLM → LLM → Option R) (rec1 : Int → Bool → Int → Int → LI → Int → LM → LLM → LLM → Option R) (v34 : Int) (v35 : Bool) (v36 : Int) (v37 : Int) (v38 : Int) (v39 : LI) (v40 : Int) (v41 : LM) (v42 : LLM) (v43 : LLM) : Option R :=
  (f91 L N v39 v40 v34).bind fun y44 =>
  bif (decide (v41.length + ([(Move.mk v38 y44.1)] : LM).length ≤ lim)) then
    rec1 v34 v35 v36 (wi (v37 - (1 : Int))) y44.2.1 y44.2.2 (v41 ++ ([(Move.mk v38 y44.1)] : LM)) v42 v43
  else none
def f105.s1' {R : Type} (L N : Nat) (k1_e2 : Int → Bool → Int → LI → Int → LM → LLM → LLM → Option R) (rec1 : Int → Bool → Int → Int → LI → Int → LM → LLM → LLM → Option R) (s15 : Int) (s16 : Bool) (s17 : Int) (s18 : Int) (s19 : LI) (s20 : Int) (s21 : LM) (s22 : LLM) (s23 : LLM) : Option R :=
  bif (decide (s18 > (0 : Int))) then
    (f91 L N s19 s20 (3 : Int)).bind fun y32 =>
    bif (!s16) then
      (f134 L N y32.2.1 y32.2.2).bind fun y33 =>
      f105.j0' L N k1_e2 rec1 s15 s16 s17 s18 y33.1 y33.2.1 y33.2.2 s21 s22 s23
    else f105.j0' L N k1_e2 rec1 s15 s16 s17 s18 y32.1 y32.2.1 y32.2.2 s21 s22 s23
  else k1_e2 s15 s16 s17 s19 s20 s21 s22 s23
def f105.s1 {R : Type} (L N : Nat) (k1_e2 : Int → Bool → Int → LI → Int → LM → LLM → LLM → Option R) (rec1 : Int → Bool → Int → Int → LI → Int → LM → LLM → LLM → Option R) (s15 : Int) (s16 : Bool) (s17 : Int) (s18 : Int) (s19 : LI) (s20 : Int) (s21 : LM) (s22 : LLM) (s23 : LLM) : Option R :=
  f105.s1' L N k1_e2 rec1 s15 s16 s17 s18 s19 s20 s21 s22 s23
def f105.l1 {R : Type} (L N : Nat) (k1_e2 : Int → Bool → Int → LI → Int → LM → LLM → LLM → Option R) : Nat → Int → Bool → Int → Int → LI → Int → LM → LLM → LLM → Option R
  | 0, _, _, _, _, _, _, _, _, _ => none
  | n + 1, s15, s16, s17, s18, s19, s20, s21, s22, s23 => f105.s1 L N k1_e2 (f105.l1 L N k1_e2 n) s15 s16 s17 s18 s19 s20 s21 s22 s23
def f105.T1 (s15 : Int) (s16 : Bool) (s17 : Int) (s18 : Int) (s19 : LI) (s20 : Int) (s21 : LM) (s22 : LLM) (s23 : LLM) : T := mkT 84 [(0, (.ptr 0 0)), (4, (.ptr 1004 0)), (5, (.ptr 1005 0)), (6, (.tv i64 s15)), (7, (.tv .bool s16)), (8, (.tv i64 s17)), (9, (.row 1025)), (10, (.tv i64 s18))] ++ [.ptr 0 0]
def f105.H1 (s15 : Int) (s16 : Bool) (s17 : Int) (s18 : Int) (s19 : LI) (s20 : Int) (s21 : LM) (s22 : LLM) (s23 : LLM) : H := [(0, (.box [(.tv (.sl (.int .u8)) s19), (.tv i64 s20)])), (1004, (.box [(.row 1900)])), (1005, (.box [(.row 1901)])), (1025, (.row 53 (.st 0) s21)), (1900, (.deep 0 (.sl (.st 0)) s22 none)), (1901, (.deep 0 (.sl (.st 0)) s23 none))]
def f105.T1_e2 (z24 : Int) (z25 : Bool) (z26 : Int) (z27 : LI) (z28 : Int) (z29 : LM) (z30 : LLM) (z31 : LLM) : T := mkT 84 [(0, (.ptr 0 0)), (4, (.ptr 1004 0)), (5, (.ptr 1005 0)), (6, (.tv i64 z24)), (7, (.tv .bool z25)), (8, (.tv i64 z26)), (9, (.row 1025))] ++ [.ptr 0 0]
def f105.H1_e2 (z24 : Int) (z25 : Bool) (z26 : Int) (z27 : LI) (z28 : Int) (z29 : LM) (z30 : LLM) (z31 : LLM) : H := [(0, (.box [(.tv (.sl (.int .u8)) z27), (.tv i64 z28)])), (1004, (.box [(.row 1900)])), (1005, (.box [(.row 1901)])), (1025, (.row 53 (.st 0) z29)), (1900, (.deep 0 (.sl (.st 0)) z30 none)), (1901, (.deep 0 (.sl (.st 0)) z31 none))]
def f105.p1_e2' {R : Type} (L N : Nat) (k0_e0 : Int → LI → Int → LLM → LLM → Option R) (rec0 : Int → Bool → Int → LI → Int → LLM → LLM → Option R) (z24 : Int) (z25 : Bool) (z26 : Int) (z27 : LI) (z28 : Int) (z29 : LM) (z30 : LLM) (z31 : LLM) : Option R :=
  (f123 L N z29).bind fun y45 =>
  bif (decide (z31.length + ([y45] : LLM).length ≤ lim)) then
    rec0 z24 z25 (wi (z26 + (1 : Int))) z27 z28 z30 (z31 ++ ([y45] : LLM))
  else none
def f105.p1_e2 {R : Type} (L N : Nat) (k0_e0 : Int → LI → Int → LLM → LLM → Option R) (rec0 : Int → Bool → Int → LI → Int → LLM → LLM → Option R) (z24 : Int) (z25 : Bool) (z26 : Int) (z27 : LI) (z28 : Int) (z29 : LM) (z30 : LLM) (z31 : LLM) : Option R :=
  f105.p1_e2' L N k0_e0 rec0 z24 z25 z26 z27 z28 z29 z30 z31
def f105.s0' {R : Type} (L N : Nat) (k0_e0 : Int → LI → Int → LLM → LLM → Option R) (rec0 : Int → Bool → Int → LI → Int → LLM → LLM → Option R) (w1 : Int → Bool → Int → Int → LI → Int → LM → LLM → LLM → Option R) (s2 : Int) (s3 : Bool) (s4 : Int) (s5 : LI) (s6 : Int) (s7 : LLM) (s8 : LLM) : Option R :=
  bif (decide (s4 < s2)) then
    (f91 L N s5 s6 (4 : Int)).bind fun y14 =>
    w1 s2 s3 s4 y14.1 y14.2.1 y14.2.2 ([] : LM) s7 s8
  else k0_e0 s2 s5 s6 s7 s8
def f105.s0 {R : Type} (L N : Nat) (k0_e0 : Int → LI → Int → LLM → LLM → Option R) (rec0 : Int → Bool → Int → LI → Int → LLM → LLM → Option R) (s2 : Int) (s3 : Bool) (s4 : Int) (s5 : LI) (s6 : Int) (s7 : LLM) (s8 : LLM) : Option R :=
  f105.s0' L N k0_e0 rec0 (fun s15 s16 s17 s18 s19 s20 s21 s22 s23 => f105.l1 L N (fun z24 z25 z26 z27 z28 z29 z30 z31 => f105.p1_e2 L N k0_e0 rec0 z24 z25 z26 z27 z28 z29 z30 z31) L s15 s16 s17 s18 s19 s20 s21 s22 s23) s2 s3 s4 s5 s6 s7 s8
def f105.l0 {R : Type} (L N : Nat) (k0_e0 : Int → LI → Int → LLM → LLM → Option R) : Nat → Int → Bool → Int → LI → Int → LLM → LLM → Option R
  | 0, _, _, _, _, _, _, _ => none
  | n + 1, s2, s3, s4, s5, s6, s7, s8 => f105.s0 L N k0_e0 (f105.l0 L N k0_e0 n) s2 s3 s4 s5 s6 s7 s8
def f105.T0 (s2 : Int) (s3 : Bool) (s4 : Int) (s5 : LI) (s6 : Int) (s7 : LLM) (s8 : LLM) : T := mkT 84 [(0, (.ptr 0 0)), (4, (.ptr 1004 0)), (5, (.ptr 1005 0)), (6, (.tv i64 s2)), (7, (.tv .bool s3)), (8, (.tv i64 s4))] ++ [.ptr 0 0]
def f105.H0 (s2 : Int) (s3 : Bool) (s4 : Int) (s5 : LI) (s6 : Int) (s7 : LLM) (s8 : LLM) : H := [(0, (.box [(.tv (.sl (.int .u8)) s5), (.tv i64 s6)])), (1004, (.box [(.row 1900)])), (1005, (.box [(.row 1901)])), (1900, (.deep 0 (.sl (.st 0)) s7 none)), (1901, (.deep 0 (.sl (.st 0)) s8 none))]
def f105.T0_e0 (z9 : Int) (z10 : LI) (z11 : Int) (z12 : LLM) (z13 : LLM) : T := mkT 84 [(0, (.ptr 0 0)), (4, (.ptr 1004 0)), (5, (.ptr 1005 0)), (6, (.tv i64 z9))] ++ [.ptr 0 0]
def f105.H0_e0 (z9 : Int) (z10 : LI) (z11 : Int) (z12 : LLM) (z13 : LLM) : H := [(0, (.box [(.tv (.sl (.int .u8)) z10), (.tv i64 z11)])), (1004, (.box [(.row 1900)])), (1005, (.box [(.row 1901)])), (1900, (.deep 0 (.sl (.st 0)) z12 none)), (1901, (.deep 0 (.sl (.st 0)) z13 none))]
def f105.p0_e0' {R : Type} (L N : Nat) (k : Graph → LI → Int → Option R) (z9 : Int) (z10 : LI) (z11 : Int) (z12 : LLM) (z13 : LLM) : Option R :=
  (f91 L N z10 z11 (30 : Int)).bind fun y46 =>
  bif (y46.1 == (0 : Int)) then
    bif (decide (0 ≤ (0 : Int)) && decide ((0 : Int) < (z13.length : Int))) then
      bif (decide ((listAt z13 [] (0 : Int).toNat).length + ([(Move.mk (9 : Int) (0 : Int))] : LM).length ≤ lim)) then
        bif (decide (0 ≤ (0 : Int)) && decide ((0 : Int) < (z13.length : Int))) then
          k (Graph.mk (z13.set ((0 : Int).toNat) ((listAt z13 [] (0 : Int).toNat) ++ ([(Move.mk (9 : Int) (0 : Int))] : LM)))) y46.2.1 y46.2.2
        else none
      else none
    else none
  else bif (y46.1 == (1 : Int)) then
    bif (decide (0 ≤ (0 : Int)) && decide ((0 : Int) < (z13.length : Int))) then
      bif (decide ((listAt z13 [] (0 : Int).toNat).length + ([(Move.mk (0 : Int) z9)] : LM).length ≤ lim)) then
        bif (decide (0 ≤ (0 : Int)) && decide ((0 : Int) < (z13.length : Int))) then
          k (Graph.mk (z13.set ((0 : Int).toNat) ((listAt z13 [] (0 : Int).toNat) ++ ([(Move.mk (0 : Int) z9)] : LM)))) y46.2.1 y46.2.2
        else none
      else none
    else none
  else bif (y46.1 == (2 : Int)) then
    k (Graph.mk []) y46.2.1 y46.2.2
  else k (Graph.mk z13) y46.2.1 y46.2.2
def f105.p0_e0 {R : Type} (L N : Nat) (k : Graph → LI → Int → Option R) (z9 : Int) (z10 : LI) (z11 : Int) (z12 : LLM) (z13 : LLM) : Option R :=
  f105.p0_e0' L N k z9 z10 z11 z12 z13
def f105.b' {R : Type} (L N : Nat) (k : Graph → LI → Int → Option R) (w0 : Int → Bool → Int → LI → Int → LLM → LLM → Option R) (c0 : LI) (c1 : Int) (x0 : Int) : Option R :=
  (f91 L N c0 c1 x0).bind fun y0 =>
  (f91 L N y0.2.1 y0.2.2 (2 : Int)).bind fun y1 =>
  w0 (wi ((1 : Int) + y0.1)) (y1.1 == (0 : Int)) (0 : Int) y1.2.1 y1.2.2 ([] : LLM) ([] : LLM)
def f105.b {R : Type} (L N : Nat) (k : Graph → LI → Int → Option R) (c0 : LI) (c1 : Int) (x0 : Int) : Option R :=
  f105.b' L N k (fun s2 s3 s4 s5 s6 s7 s8 => f105.l0 L N (fun z9 z10 z11 z12 z13 => f105.p0_e0 L N k z9 z10 z11 z12 z13) L s2 s3 s4 s5 s6 s7 s8) c0 c1 x0
def f105 (L N : Nat) (c0 : LI) (c1 : Int) (x0 : Int) : Option (Graph × LI × Int) := f105.b L N (fun a0 a1 a2 => some (a0, a1, a2)) c0 c1 x0
def f105.ent (L N : Nat) (args : List AV) (vw : View) (site : Nat) : Ans := match boxD [(.sl (.int .u8)), i64] [i64] vw args with
  | some (o, d0, d, u) => ⟨Graph × LI × Int, f105 L N d0.1 d0.2.1 d.1, fun y => ((.tv (.st 2) y.1), u ++ [(o, some (.box [(.tv (.sl (.int .u8)) y.2.1), (.tv i64 y.2.2)]))], [])⟩
  | none => Ans.no
noncomputable def E105 (L N : Nat) : Env := { P := Try.prog, ty := tyOf, Φ := (Φ104 L N), inl := inlT, live := lives, liveX := livesX, L := L, dp := (some 0), prom := promT, heal := healT, ren := renT, fresh := fun s => Nat.beq s 1065 || Nat.beq s 1078 }
noncomputable def f105.c0 : Code := loopAt 0 (codeOf Try.f105)
noncomputable def f105.c1 : Code := loopAt 2 f105.c0
theorem f105.s1_pre {R : Type} (L N : Nat) (κ : Ex → T → H → Option R) (rec : T → H → Option R) (s15 : Int) (s16 : Bool) (s17 : Int) (s18 : Int) (s19 : LI) (s20 : Int) (s21 : LM) (s22 : LLM) (s23 : LLM) :
    evRd (E105 L N) (evCallI (E105 L N) 1 2000) 1000 105 84 2 f105.c1 κ rec (f105.T1 s15 s16 s17 s18 s19 s20 s21 s22 s23) (f105.H1 s15 s16 s17 s18 s19 s20 s21 s22 s23)
    = f105.s1' L N (fun z24 z25 z26 z27 z28 z29 z30 z31 => κ (.exit 2) (f105.T1_e2 z24 z25 z26 z27 z28 z29 z30 z31) (f105.H1_e2 z24 z25 z26 z27 z28 z29 z30 z31)) (fun s15 s16 s17 s18 s19 s20 s21 s22 s23 => rec (f105.T1 s15 s16 s17 s18 s19 s20 s21 s22 s23) (f105.H1 s15 s16 s17 s18 s19 s20 s21 s22 s23)) s15 s16 s17 s18 s19 s20 s21 s22 s23 := by kernel_rfl
theorem f105.s1_eq {R : Type} (L N : Nat) (κ : Ex → T → H → Option R) (rec : T → H → Option R) (s15 : Int) (s16 : Bool) (s17 : Int) (s18 : Int) (s19 : LI) (s20 : Int) (s21 : LM) (s22 : LLM) (s23 : LLM) :
    evRd (E105 L N) (evCallI (E105 L N) 1 2000) 1000 105 84 2 f105.c1 κ rec (f105.T1 s15 s16 s17 s18 s19 s20 s21 s22 s23) (f105.H1 s15 s16 s17 s18 s19 s20 s21 s22 s23)
    = f105.s1 L N (fun z24 z25 z26 z27 z28 z29 z30 z31 => κ (.exit 2) (f105.T1_e2 z24 z25 z26 z27 z28 z29 z30 z31) (f105.H1_e2 z24 z25 z26 z27 z28 z29 z30 z31)) (fun s15 s16 s17 s18 s19 s20 s21 s22 s23 => rec (f105.T1 s15 s16 s17 s18 s19 s20 s21 s22 s23) (f105.H1 s15 s16 s17 s18 s19 s20 s21 s22 s23)) s15 s16 s17 s18 s19 s20 s21 s22 s23 := by
  rw [f105.s1_pre]
  unfold f105.s1
  rfl
theorem f105.l1_eq {R : Type} (L N : Nat) (κ : Ex → T → H → Option R) : ∀ (n : Nat) (s15 : Int) (s16 : Bool) (s17 : Int) (s18 : Int) (s19 : LI) (s20 : Int) (s21 : LM) (s22 : LLM) (s23 : LLM),
    evLp (E105 L N) (evCallI (E105 L N) 1 2000) 1000 105 84 2 f105.c1 κ n (f105.T1 s15 s16 s17 s18 s19 s20 s21 s22 s23) (f105.H1 s15 s16 s17 s18 s19 s20 s21 s22 s23)
    = f105.l1 L N (fun z24 z25 z26 z27 z28 z29 z30 z31 => κ (.exit 2) (f105.T1_e2 z24 z25 z26 z27 z28 z29 z30 z31) (f105.H1_e2 z24 z25 z26 z27 z28 z29 z30 z31)) n s15 s16 s17 s18 s19 s20 s21 s22 s23 := by
  intro n
  induction n with
  | zero => intros; rfl
  | succ n ih =>
    intro s15 s16 s17 s18 s19 s20 s21 s22 s23
    rw [evLp_succ, f105.s1_eq]
    simp only [ih]
    rfl
theorem f105.p1_e2_pre {R : Type} (L N : Nat) (κ : Ex → T → H → Option R) (rec : T → H → Option R) (z24 : Int) (z25 : Bool) (z26 : Int) (z27 : LI) (z28 : Int) (z29 : LM) (z30 : LLM) (z31 : LLM) :
    (contAt (E105 L N) (evCallI (E105 L N) 1 2000) 1000 105 84 2 f105.c0 (stepK (outK (keepT 84 ((E105 L N).liveX 105 0).1) (keepH 1000 ((E105 L N).liveX 105 0).2) κ) fun t h => rec (backK 1000 84 ((E105 L N).live 105 0).1 ((E105 L N).live 105 0).2 ((E105 L N).heal 105 0) ((E105 L N).ren 105 0) t h).1 (backK 1000 84 ((E105 L N).live 105 0).1 ((E105 L N).live 105 0).2 ((E105 L N).heal 105 0) ((E105 L N).ren 105 0) t h).2)) (.exit 2) (f105.T1_e2 z24 z25 z26 z27 z28 z29 z30 z31) (f105.H1_e2 z24 z25 z26 z27 z28 z29 z30 z31)
    = f105.p1_e2' L N (fun z9 z10 z11 z12 z13 => κ (.exit 0) (f105.T0_e0 z9 z10 z11 z12 z13) (f105.H0_e0 z9 z10 z11 z12 z13)) (fun s2 s3 s4 s5 s6 s7 s8 => rec (f105.T0 s2 s3 s4 s5 s6 s7 s8) (f105.H0 s2 s3 s4 s5 s6 s7 s8)) z24 z25 z26 z27 z28 z29 z30 z31 := by kernel_rfl
theorem f105.p1_e2_eq {R : Type} (L N : Nat) (κ : Ex → T → H → Option R) (rec : T → H → Option R) (z24 : Int) (z25 : Bool) (z26 : Int) (z27 : LI) (z28 : Int) (z29 : LM) (z30 : LLM) (z31 : LLM) :
    (contAt (E105 L N) (evCallI (E105 L N) 1 2000) 1000 105 84 2 f105.c0 (stepK (outK (keepT 84 ((E105 L N).liveX 105 0).1) (keepH 1000 ((E105 L N).liveX 105 0).2) κ) fun t h => rec (backK 1000 84 ((E105 L N).live 105 0).1 ((E105 L N).live 105 0).2 ((E105 L N).heal 105 0) ((E105 L N).ren 105 0) t h).1 (backK 1000 84 ((E105 L N).live 105 0).1 ((E105 L N).live 105 0).2 ((E105 L N).heal 105 0) ((E105 L N).ren 105 0) t h).2)) (.exit 2) (f105.T1_e2 z24 z25 z26 z27 z28 z29 z30 z31) (f105.H1_e2 z24 z25 z26 z27 z28 z29 z30 z31)
    = f105.p1_e2 L N (fun z9 z10 z11 z12 z13 => κ (.exit 0) (f105.T0_e0 z9 z10 z11 z12 z13) (f105.H0_e0 z9 z10 z11 z12 z13)) (fun s2 s3 s4 s5 s6 s7 s8 => rec (f105.T0 s2 s3 s4 s5 s6 s7 s8) (f105.H0 s2 s3 s4 s5 s6 s7 s8)) z24 z25 z26 z27 z28 z29 z30 z31 := by
  rw [f105.p1_e2_pre]
  unfold f105.p1_e2
  rfl
theorem f105.s0_pre {R : Type} (L N : Nat) (κ : Ex → T → H → Option R) (rec : T → H → Option R) (s2 : Int) (s3 : Bool) (s4 : Int) (s5 : LI) (s6 : Int) (s7 : LLM) (s8 : LLM) :
    evRd (E105 L N) (evCallI (E105 L N) 1 2000) 1000 105 84 0 f105.c0 κ rec (f105.T0 s2 s3 s4 s5 s6 s7 s8) (f105.H0 s2 s3 s4 s5 s6 s7 s8)
    = f105.s0' L N (fun z9 z10 z11 z12 z13 => κ (.exit 0) (f105.T0_e0 z9 z10 z11 z12 z13) (f105.H0_e0 z9 z10 z11 z12 z13)) (fun s2 s3 s4 s5 s6 s7 s8 => rec (f105.T0 s2 s3 s4 s5 s6 s7 s8) (f105.H0 s2 s3 s4 s5 s6 s7 s8)) (fun s15 s16 s17 s18 s19 s20 s21 s22 s23 => evLp (E105 L N) (evCallI (E105 L N) 1 2000) 1000 105 84 2 f105.c1 (contAt (E105 L N) (evCallI (E105 L N) 1 2000) 1000 105 84 2 f105.c0 (stepK (outK (keepT 84 ((E105 L N).liveX 105 0).1) (keepH 1000 ((E105 L N).liveX 105 0).2) κ) fun t h => rec (backK 1000 84 ((E105 L N).live 105 0).1 ((E105 L N).live 105 0).2 ((E105 L N).heal 105 0) ((E105 L N).ren 105 0) t h).1 (backK 1000 84 ((E105 L N).live 105 0).1 ((E105 L N).live 105 0).2 ((E105 L N).heal 105 0) ((E105 L N).ren 105 0) t h).2)) L (f105.T1 s15 s16 s17 s18 s19 s20 s21 s22 s23) (f105.H1 s15 s16 s17 s18 s19 s20 s21 s22 s23)) s2 s3 s4 s5 s6 s7 s8 := by kernel_rfl
theorem f105.s0_eq {R : Type} (L N : Nat) (κ : Ex → T → H → Option R) (rec : T → H → Option R) (s2 : Int) (s3 : Bool) (s4 : Int) (s5 : LI) (s6 : Int) (s7 : LLM) (s8 : LLM) :
    evRd (E105 L N) (evCallI (E105 L N) 1 2000) 1000 105 84 0 f105.c0 κ rec (f105.T0 s2 s3 s4 s5 s6 s7 s8) (f105.H0 s2 s3 s4 s5 s6 s7 s8)
    = f105.s0 L N (fun z9 z10 z11 z12 z13 => κ (.exit 0) (f105.T0_e0 z9 z10 z11 z12 z13) (f105.H0_e0 z9 z10 z11 z12 z13)) (fun s2 s3 s4 s5 s6 s7 s8 => rec (f105.T0 s2 s3 s4 s5 s6 s7 s8) (f105.H0 s2 s3 s4 s5 s6 s7 s8)) s2 s3 s4 s5 s6 s7 s8 := by
  rw [f105.s0_pre]
  unfold f105.s0
  simp only [f105.l1_eq, f105.p1_e2_eq]
theorem f105.l0_eq {R : Type} (L N : Nat) (κ : Ex → T → H → Option R) : ∀ (n : Nat) (s2 : Int) (s3 : Bool) (s4 : Int) (s5 : LI) (s6 : Int) (s7 : LLM) (s8 : LLM),
    evLp (E105 L N) (evCallI (E105 L N) 1 2000) 1000 105 84 0 f105.c0 κ n (f105.T0 s2 s3 s4 s5 s6 s7 s8) (f105.H0 s2 s3 s4 s5 s6 s7 s8)
    = f105.l0 L N (fun z9 z10 z11 z12 z13 => κ (.exit 0) (f105.T0_e0 z9 z10 z11 z12 z13) (f105.H0_e0 z9 z10 z11 z12 z13)) n s2 s3 s4 s5 s6 s7 s8 := by
  intro n
  induction n with
  | zero => intros; rfl
  | succ n ih =>
    intro s2 s3 s4 s5 s6 s7 s8
    rw [evLp_succ, f105.s0_eq]
    simp only [ih]
    rfl
theorem f105.p0_e0_pre {R : Type} (L N : Nat) (κ : AV → Dens [(.sl (.int .u8)), i64] → Option R) (z9 : Int) (z10 : LI) (z11 : Int) (z12 : LLM) (z13 : LLM) :
    (contAt (E105 L N) (evCallI (E105 L N) 1 2000) 1000 105 84 0 (codeOf Try.f105) (finK (E105 L N) 1000 Try.f105 (finM (.one (.st 2)) [(.sl (.int .u8)), i64] κ))) (.exit 0) (f105.T0_e0 z9 z10 z11 z12 z13) (f105.H0_e0 z9 z10 z11 z12 z13)
    = f105.p0_e0' L N (fun a0 a1 a2 => κ (.tv (.st 2) a0) (a1, a2, ())) z9 z10 z11 z12 z13 := by kernel_rfl
theorem f105.p0_e0_eq {R : Type} (L N : Nat) (κ : AV → Dens [(.sl (.int .u8)), i64] → Option R) (z9 : Int) (z10 : LI) (z11 : Int) (z12 : LLM) (z13 : LLM) :
    (contAt (E105 L N) (evCallI (E105 L N) 1 2000) 1000 105 84 0 (codeOf Try.f105) (finK (E105 L N) 1000 Try.f105 (finM (.one (.st 2)) [(.sl (.int .u8)), i64] κ))) (.exit 0) (f105.T0_e0 z9 z10 z11 z12 z13) (f105.H0_e0 z9 z10 z11 z12 z13)
    = f105.p0_e0 L N (fun a0 a1 a2 => κ (.tv (.st 2) a0) (a1, a2, ())) z9 z10 z11 z12 z13 := by
  rw [f105.p0_e0_pre]
  unfold f105.p0_e0
  rfl
theorem f105.b_pre {R : Type} (L N : Nat) (κ : AV → Dens [(.sl (.int .u8)), i64] → Option R) (c0 : LI) (c1 : Int) (x0 : Int) :
    evBody (E105 L N) (evCallI (E105 L N) 1 2000) 1000 105 Try.f105 [(.ptr 0 0), (.tv i64 x0)] [.ptr 0 0] [(0, (.box [(.tv (.sl (.int .u8)) c0), (.tv i64 c1)]))] (finM (.one (.st 2)) [(.sl (.int .u8)), i64] κ)
    = f105.b' L N (fun a0 a1 a2 => κ (.tv (.st 2) a0) (a1, a2, ())) (fun s2 s3 s4 s5 s6 s7 s8 => evLp (E105 L N) (evCallI (E105 L N) 1 2000) 1000 105 84 0 f105.c0 (contAt (E105 L N) (evCallI (E105 L N) 1 2000) 1000 105 84 0 (codeOf Try.f105) (finK (E105 L N) 1000 Try.f105 (finM (.one (.st 2)) [(.sl (.int .u8)), i64] κ))) L (f105.T0 s2 s3 s4 s5 s6 s7 s8) (f105.H0 s2 s3 s4 s5 s6 s7 s8)) c0 c1 x0 := by kernel_rfl
theorem f105.b_eq {R : Type} (L N : Nat) (κ : AV → Dens [(.sl (.int .u8)), i64] → Option R) (c0 : LI) (c1 : Int) (x0 : Int) :
    evBody (E105 L N) (evCallI (E105 L N) 1 2000) 1000 105 Try.f105 [(.ptr 0 0), (.tv i64 x0)] [.ptr 0 0] [(0, (.box [(.tv (.sl (.int .u8)) c0), (.tv i64 c1)]))] (finM (.one (.st 2)) [(.sl (.int .u8)), i64] κ)
    = f105.b L N (fun a0 a1 a2 => κ (.tv (.st 2) a0) (a1, a2, ())) c0 c1 x0 := by
  rw [f105.b_pre]
  unfold f105.b
  simp only [f105.l0_eq, f105.p0_e0_eq]
theorem f105.j0'_nat {R R' : Type} (j : R → Option R') (L N : Nat) (k1_e2 : Int → Bool → Int → LI → Int → LM → LLM → LLM → Option R) (rec1 : Int → Bool → Int → Int → LI → Int → LM → LLM → LLM → Option R) (v34 : Int) (v35 : Bool) (v36 : Int) (v37 : Int) (v38 : Int) (v39 : LI) (v40 : Int) (v41 : LM) (v42 : LLM) (v43 : LLM) :
    f105.j0' L N (fun a0 a1 a2 a3 a4 a5 a6 a7 => (k1_e2 a0 a1 a2 a3 a4 a5 a6 a7).bind j) (fun a0 a1 a2 a3 a4 a5 a6 a7 a8 => (rec1 a0 a1 a2 a3 a4 a5 a6 a7 a8).bind j) v34 v35 v36 v37 v38 v39 v40 v41 v42 v43 = (f105.j0' L N k1_e2 rec1 v34 v35 v36 v37 v38 v39 v40 v41 v42 v43).bind j := by
  unfold f105.j0'
  repeat' (first | (with_reducible refine cond_nat ?_ ?_) | (with_reducible refine bind_nat fun _ => ?_) | rfl)
theorem f105.s1'_nat {R R' : Type} (j : R → Option R') (L N : Nat) (k1_e2 : Int → Bool → Int → LI → Int → LM → LLM → LLM → Option R) (rec1 : Int → Bool → Int → Int → LI → Int → LM → LLM → LLM → Option R) (s15 : Int) (s16 : Bool) (s17 : Int) (s18 : Int) (s19 : LI) (s20 : Int) (s21 : LM) (s22 : LLM) (s23 : LLM) :
    f105.s1' L N (fun a0 a1 a2 a3 a4 a5 a6 a7 => (k1_e2 a0 a1 a2 a3 a4 a5 a6 a7).bind j) (fun a0 a1 a2 a3 a4 a5 a6 a7 a8 => (rec1 a0 a1 a2 a3 a4 a5 a6 a7 a8).bind j) s15 s16 s17 s18 s19 s20 s21 s22 s23 = (f105.s1' L N k1_e2 rec1 s15 s16 s17 s18 s19 s20 s21 s22 s23).bind j := by
  unfold f105.s1'
  repeat' (first | (with_reducible refine cond_nat ?_ ?_) | (with_reducible refine bind_nat fun _ => ?_) | exact f105.j0'_nat .. | rfl)
theorem f105.s1_nat {R R' : Type} (j : R → Option R') (L N : Nat) (k1_e2 : Int → Bool → Int → LI → Int → LM → LLM → LLM → Option R) (rec1 : Int → Bool → Int → Int → LI → Int → LM → LLM → LLM → Option R) (s15 : Int) (s16 : Bool) (s17 : Int) (s18 : Int) (s19 : LI) (s20 : Int) (s21 : LM) (s22 : LLM) (s23 : LLM) :
    f105.s1 L N (fun a0 a1 a2 a3 a4 a5 a6 a7 => (k1_e2 a0 a1 a2 a3 a4 a5 a6 a7).bind j) (fun a0 a1 a2 a3 a4 a5 a6 a7 a8 => (rec1 a0 a1 a2 a3 a4 a5 a6 a7 a8).bind j) s15 s16 s17 s18 s19 s20 s21 s22 s23 = (f105.s1 L N k1_e2 rec1 s15 s16 s17 s18 s19 s20 s21 s22 s23).bind j := by
  unfold f105.s1
  exact f105.s1'_nat ..
theorem f105.l1_nat {R R' : Type} (j : R → Option R') (L N : Nat) (k1_e2 : Int → Bool → Int → LI → Int → LM → LLM → LLM → Option R) : ∀ (n : Nat) (s15 : Int) (s16 : Bool) (s17 : Int) (s18 : Int) (s19 : LI) (s20 : Int) (s21 : LM) (s22 : LLM) (s23 : LLM),
    f105.l1 L N (fun a0 a1 a2 a3 a4 a5 a6 a7 => (k1_e2 a0 a1 a2 a3 a4 a5 a6 a7).bind j) n s15 s16 s17 s18 s19 s20 s21 s22 s23 = (f105.l1 L N k1_e2 n s15 s16 s17 s18 s19 s20 s21 s22 s23).bind j := by
  intro n
  induction n with
  | zero => intros; rfl
  | succ n ih =>
    intro s15 s16 s17 s18 s19 s20 s21 s22 s23
    show f105.s1 L N (fun a0 a1 a2 a3 a4 a5 a6 a7 => (k1_e2 a0 a1 a2 a3 a4 a5 a6 a7).bind j) (f105.l1 L N (fun a0 a1 a2 a3 a4 a5 a6 a7 => (k1_e2 a0 a1 a2 a3 a4 a5 a6 a7).bind j) n) s15 s16 s17 s18 s19 s20 s21 s22 s23 = _
    rw [show f105.l1 L N (fun a0 a1 a2 a3 a4 a5 a6 a7 => (k1_e2 a0 a1 a2 a3 a4 a5 a6 a7).bind j) n = (fun s15 s16 s17 s18 s19 s20 s21 s22 s23 => (f105.l1 L N k1_e2 n s15 s16 s17 s18 s19 s20 s21 s22 s23).bind j) from funext fun s15 => funext fun s16 => funext fun s17 => funext fun s18 => funext fun s19 => funext fun s20 => funext fun s21 => funext fun s22 => funext fun s23 => ih s15 s16 s17 s18 s19 s20 s21 s22 s23]
    exact f105.s1_nat ..
theorem f105.p1_e2'_nat {R R' : Type} (j : R → Option R') (L N : Nat) (k0_e0 : Int → LI → Int → LLM → LLM → Option R) (rec0 : Int → Bool → Int → LI → Int → LLM → LLM → Option R) (z24 : Int) (z25 : Bool) (z26 : Int) (z27 : LI) (z28 : Int) (z29 : LM) (z30 : LLM) (z31 : LLM) :
    f105.p1_e2' L N (fun a0 a1 a2 a3 a4 => (k0_e0 a0 a1 a2 a3 a4).bind j) (fun a0 a1 a2 a3 a4 a5 a6 => (rec0 a0 a1 a2 a3 a4 a5 a6).bind j) z24 z25 z26 z27 z28 z29 z30 z31 = (f105.p1_e2' L N k0_e0 rec0 z24 z25 z26 z27 z28 z29 z30 z31).bind j := by
  unfold f105.p1_e2'
  repeat' (first | (with_reducible refine cond_nat ?_ ?_) | (with_reducible refine bind_nat fun _ => ?_) | rfl)
theorem f105.p1_e2_nat {R R' : Type} (j : R → Option R') (L N : Nat) (k0_e0 : Int → LI → Int → LLM → LLM → Option R) (rec0 : Int → Bool → Int → LI → Int → LLM → LLM → Option R) (z24 : Int) (z25 : Bool) (z26 : Int) (z27 : LI) (z28 : Int) (z29 : LM) (z30 : LLM) (z31 : LLM) :
    f105.p1_e2 L N (fun a0 a1 a2 a3 a4 => (k0_e0 a0 a1 a2 a3 a4).bind j) (fun a0 a1 a2 a3 a4 a5 a6 => (rec0 a0 a1 a2 a3 a4 a5 a6).bind j) z24 z25 z26 z27 z28 z29 z30 z31 = (f105.p1_e2 L N k0_e0 rec0 z24 z25 z26 z27 z28 z29 z30 z31).bind j := by
  unfold f105.p1_e2
  exact f105.p1_e2'_nat ..
theorem f105.s0'_nat {R R' : Type} (j : R → Option R') (L N : Nat) (k0_e0 : Int → LI → Int → LLM → LLM → Option R) (rec0 : Int → Bool → Int → LI → Int → LLM → LLM → Option R) (w1 : Int → Bool → Int → Int → LI → Int → LM → LLM → LLM → Option R) (s2 : Int) (s3 : Bool) (s4 : Int) (s5 : LI) (s6 : Int) (s7 : LLM) (s8 : LLM) :
    f105.s0' L N (fun a0 a1 a2 a3 a4 => (k0_e0 a0 a1 a2 a3 a4).bind j) (fun a0 a1 a2 a3 a4 a5 a6 => (rec0 a0 a1 a2 a3 a4 a5 a6).bind j) (fun a0 a1 a2 a3 a4 a5 a6 a7 a8 => (w1 a0 a1 a2 a3 a4 a5 a6 a7 a8).bind j) s2 s3 s4 s5 s6 s7 s8 = (f105.s0' L N k0_e0 rec0 w1 s2 s3 s4 s5 s6 s7 s8).bind j := by
  unfold f105.s0'
  repeat' (first | (with_reducible refine cond_nat ?_ ?_) | (with_reducible refine bind_nat fun _ => ?_) | rfl)
theorem f105.s0_nat {R R' : Type} (j : R → Option R') (L N : Nat) (k0_e0 : Int → LI → Int → LLM → LLM → Option R) (rec0 : Int → Bool → Int → LI → Int → LLM → LLM → Option R) (s2 : Int) (s3 : Bool) (s4 : Int) (s5 : LI) (s6 : Int) (s7 : LLM) (s8 : LLM) :
    f105.s0 L N (fun a0 a1 a2 a3 a4 => (k0_e0 a0 a1 a2 a3 a4).bind j) (fun a0 a1 a2 a3 a4 a5 a6 => (rec0 a0 a1 a2 a3 a4 a5 a6).bind j) s2 s3 s4 s5 s6 s7 s8 = (f105.s0 L N k0_e0 rec0 s2 s3 s4 s5 s6 s7 s8).bind j := by
  unfold f105.s0
  simp only [f105.l1_nat, f105.p1_e2_nat]
  exact f105.s0'_nat ..
theorem f105.l0_nat {R R' : Type} (j : R → Option R') (L N : Nat) (k0_e0 : Int → LI → Int → LLM → LLM → Option R) : ∀ (n : Nat) (s2 : Int) (s3 : Bool) (s4 : Int) (s5 : LI) (s6 : Int) (s7 : LLM) (s8 : LLM),
    f105.l0 L N (fun a0 a1 a2 a3 a4 => (k0_e0 a0 a1 a2 a3 a4).bind j) n s2 s3 s4 s5 s6 s7 s8 = (f105.l0 L N k0_e0 n s2 s3 s4 s5 s6 s7 s8).bind j := by
  intro n
  induction n with
  | zero => intros; rfl
  | succ n ih =>
    intro s2 s3 s4 s5 s6 s7 s8
    show f105.s0 L N (fun a0 a1 a2 a3 a4 => (k0_e0 a0 a1 a2 a3 a4).bind j) (f105.l0 L N (fun a0 a1 a2 a3 a4 => (k0_e0 a0 a1 a2 a3 a4).bind j) n) s2 s3 s4 s5 s6 s7 s8 = _
    rw [show f105.l0 L N (fun a0 a1 a2 a3 a4 => (k0_e0 a0 a1 a2 a3 a4).bind j) n = (fun s2 s3 s4 s5 s6 s7 s8 => (f105.l0 L N k0_e0 n s2 s3 s4 s5 s6 s7 s8).bind j) from funext fun s2 => funext fun s3 => funext fun s4 => funext fun s5 => funext fun s6 => funext fun s7 => funext fun s8 => ih s2 s3 s4 s5 s6 s7 s8]
    exact f105.s0_nat ..
theorem f105.p0_e0'_nat {R R' : Type} (j : R → Option R') (L N : Nat) (k : Graph → LI → Int → Option R) (z9 : Int) (z10 : LI) (z11 : Int) (z12 : LLM) (z13 : LLM) :
    f105.p0_e0' L N (fun a0 a1 a2 => (k a0 a1 a2).bind j) z9 z10 z11 z12 z13 = (f105.p0_e0' L N k z9 z10 z11 z12 z13).bind j := by
  unfold f105.p0_e0'
  repeat' (first | (with_reducible refine cond_nat ?_ ?_) | (with_reducible refine bind_nat fun _ => ?_) | rfl)
theorem f105.p0_e0_nat {R R' : Type} (j : R → Option R') (L N : Nat) (k : Graph → LI → Int → Option R) (z9 : Int) (z10 : LI) (z11 : Int) (z12 : LLM) (z13 : LLM) :
    f105.p0_e0 L N (fun a0 a1 a2 => (k a0 a1 a2).bind j) z9 z10 z11 z12 z13 = (f105.p0_e0 L N k z9 z10 z11 z12 z13).bind j := by
  unfold f105.p0_e0
  exact f105.p0_e0'_nat ..
theorem f105.b'_nat {R R' : Type} (j : R → Option R') (L N : Nat) (k : Graph → LI → Int → Option R) (w0 : Int → Bool → Int → LI → Int → LLM → LLM → Option R) (c0 : LI) (c1 : Int) (x0 : Int) :
    f105.b' L N (fun a0 a1 a2 => (k a0 a1 a2).bind j) (fun a0 a1 a2 a3 a4 a5 a6 => (w0 a0 a1 a2 a3 a4 a5 a6).bind j) c0 c1 x0 = (f105.b' L N k w0 c0 c1 x0).bind j := by
  unfold f105.b'
  repeat' (first | (with_reducible refine cond_nat ?_ ?_) | (with_reducible refine bind_nat fun _ => ?_) | rfl)
theorem f105.b_nat {R R' : Type} (j : R → Option R') (L N : Nat) (k : Graph → LI → Int → Option R) (c0 : LI) (c1 : Int) (x0 : Int) :
    f105.b L N (fun a0 a1 a2 => (k a0 a1 a2).bind j) c0 c1 x0 = (f105.b L N k c0 c1 x0).bind j := by
  unfold f105.b
  simp only [f105.l0_nat, f105.p0_e0_nat]
  exact f105.b'_nat ..
theorem f105.ok (L N : Nat) (hΦ : TellsOk Try.prog ((Φ104 L N))) : EntOk Try.prog 105 (f105.ent L N) := by
  intro args vw site h
  unfold f105.ent
  split
  · rename_i o d0 d u ha
    intro y hy hs
    obtain ⟨rest, cs, rfl, ho, hd0, hr, hu⟩ := boxD_some ha
    refine call_box (dep := 1000) (E := (E105 L N)) (ts := [(.sl (.int .u8)), i64]) (tr := [i64]) (rs := (.one (.st 2))) (v' := (.tv (.st 2) y.1)) (d1 := (y.2.1, y.2.2, ())) (sound_of hΦ) okP (callI_sound (sound_of hΦ) okP 1 2000) (f := Try.f105) rfl hs ho hd0 hr hu ?_ site
    refine (f105.b_eq L N (fun v d => some (v, d)) d0.1 d0.2.1 d.1).trans ?_
    refine ((f105.b_nat (fun y => (some ((.tv (.st 2) y.1), (y.2.1, y.2.2, ())) : Option (AV × Dens [(.sl (.int .u8)), i64]))) L N (fun a0 a1 a2 => some (a0, a1, a2)) d0.1 d0.2.1 d.1)).trans ?_
    rw [show f105.b L N (fun a0 a1 a2 => some (a0, a1, a2)) d0.1 d0.2.1 d.1 = some y from hy]
    rfl
  · intro y hy
    cases hy
def Φ105 (L N : Nat) : Tells := (addT (Φ104 L N) 105 (f105.ent L N))
theorem Φ105_ok (L N : Nat) : TellsOk Try.prog (Φ105 L N) := addT_ok (Φ104_ok L N) (f105.ok L N (Φ104_ok L N))
def f69.b' {R : Type} (L N : Nat) (k : Graph → LI → Int → Option R) (c0 : LI) (c1 : Int) : Option R :=
  (f91 L N c0 c1 (2 : Int)).bind fun y0 =>
  bif (y0.1 == (0 : Int)) then
    (f103 L N y0.2.1 y0.2.2).bind fun y1 =>
    (f104 L N (Tree.mk y1.1.op y1.1.n y1.1.parts) y1.2.1).bind fun y2 =>
    bif y2.2 then
      k (Graph.mk ((Graph.mk y2.1.moves).moves)) y1.2.2.1 y1.2.2.2
    else (f105 L N y1.2.2.1 y1.2.2.2 (6 : Int)).bind fun y6 =>
    k (Graph.mk y6.1.moves) y6.2.1 y6.2.2
  else (f105 L N y0.2.1 y0.2.2 (6 : Int)).bind fun y7 =>
  k (Graph.mk y7.1.moves) y7.2.1 y7.2.2
def f69.b {R : Type} (L N : Nat) (k : Graph → LI → Int → Option R) (c0 : LI) (c1 : Int) : Option R :=
  f69.b' L N k c0 c1
def f69 (L N : Nat) (c0 : LI) (c1 : Int) : Option (Graph × LI × Int) := f69.b L N (fun a0 a1 a2 => some (a0, a1, a2)) c0 c1
def f69.ent (L N : Nat) (args : List AV) (vw : View) (site : Nat) : Ans := match boxD [(.sl (.int .u8)), i64] [] vw args with
  | some (o, d0, d, u) => ⟨Graph × LI × Int, f69 L N d0.1 d0.2.1, fun y => ((.tv (.st 2) y.1), u ++ [(o, some (.box [(.tv (.sl (.int .u8)) y.2.1), (.tv i64 y.2.2)]))], [])⟩
  | none => Ans.no
noncomputable def E69 (L N : Nat) : Env := { P := Try.prog, ty := tyOf, Φ := (Φ105 L N), inl := inlT, live := lives, liveX := livesX, L := L, dp := none, prom := promT, heal := healT, ren := renT }
theorem f69.b_pre {R : Type} (L N : Nat) (κ : AV → Dens [(.sl (.int .u8)), i64] → Option R) (c0 : LI) (c1 : Int) :
    evBody (E69 L N) (evCallI (E69 L N) 1 2000) 1000 69 Try.f69 [(.ptr 0 0)] [.ptr 0 0] [(0, (.box [(.tv (.sl (.int .u8)) c0), (.tv i64 c1)]))] (finM (.one (.st 2)) [(.sl (.int .u8)), i64] κ)
    = f69.b' L N (fun a0 a1 a2 => κ (.tv (.st 2) a0) (a1, a2, ())) c0 c1 := by kernel_rfl
theorem f69.b_eq {R : Type} (L N : Nat) (κ : AV → Dens [(.sl (.int .u8)), i64] → Option R) (c0 : LI) (c1 : Int) :
    evBody (E69 L N) (evCallI (E69 L N) 1 2000) 1000 69 Try.f69 [(.ptr 0 0)] [.ptr 0 0] [(0, (.box [(.tv (.sl (.int .u8)) c0), (.tv i64 c1)]))] (finM (.one (.st 2)) [(.sl (.int .u8)), i64] κ)
    = f69.b L N (fun a0 a1 a2 => κ (.tv (.st 2) a0) (a1, a2, ())) c0 c1 := by
  rw [f69.b_pre]
  unfold f69.b
  rfl
theorem f69.b'_nat {R R' : Type} (j : R → Option R') (L N : Nat) (k : Graph → LI → Int → Option R) (c0 : LI) (c1 : Int) :
    f69.b' L N (fun a0 a1 a2 => (k a0 a1 a2).bind j) c0 c1 = (f69.b' L N k c0 c1).bind j := by
  unfold f69.b'
  repeat' (first | (with_reducible refine cond_nat ?_ ?_) | (with_reducible refine bind_nat fun _ => ?_) | rfl)
theorem f69.b_nat {R R' : Type} (j : R → Option R') (L N : Nat) (k : Graph → LI → Int → Option R) (c0 : LI) (c1 : Int) :
    f69.b L N (fun a0 a1 a2 => (k a0 a1 a2).bind j) c0 c1 = (f69.b L N k c0 c1).bind j := by
  unfold f69.b
  exact f69.b'_nat ..
theorem f69.ok (L N : Nat) (hΦ : TellsOk Try.prog ((Φ105 L N))) : EntOk Try.prog 69 (f69.ent L N) := by
  intro args vw site h
  unfold f69.ent
  split
  · rename_i o d0 d u ha
    intro y hy hs
    obtain ⟨rest, cs, rfl, ho, hd0, hr, hu⟩ := boxD_some ha
    refine call_box (dep := 1000) (E := (E69 L N)) (ts := [(.sl (.int .u8)), i64]) (tr := []) (rs := (.one (.st 2))) (v' := (.tv (.st 2) y.1)) (d1 := (y.2.1, y.2.2, ())) (sound_of hΦ) okP (callI_sound (sound_of hΦ) okP 1 2000) (f := Try.f69) rfl hs ho hd0 hr hu ?_ site
    refine (f69.b_eq L N (fun v d => some (v, d)) d0.1 d0.2.1).trans ?_
    refine ((f69.b_nat (fun y => (some ((.tv (.st 2) y.1), (y.2.1, y.2.2, ())) : Option (AV × Dens [(.sl (.int .u8)), i64]))) L N (fun a0 a1 a2 => some (a0, a1, a2)) d0.1 d0.2.1)).trans ?_
    rw [show f69.b L N (fun a0 a1 a2 => some (a0, a1, a2)) d0.1 d0.2.1 = some y from hy]
    rfl
  · intro y hy
    cases hy
def Φ69 (L N : Nat) : Tells := (addT (Φ105 L N) 69 (f69.ent L N))
theorem Φ69_ok (L N : Nat) : TellsOk Try.prog (Φ69 L N) := addT_ok (Φ105_ok L N) (f69.ok L N (Φ105_ok L N))
def f28.b' {R : Type} (L N : Nat) (k : Graph → Option R) (x0 : LI) : Option R :=
  (f68 L N x0).bind fun y0 =>
  (f69 L N y0.1 y0.2).bind fun y1 =>
  k (Graph.mk ((Graph.mk y1.1.moves).moves))
def f28.b {R : Type} (L N : Nat) (k : Graph → Option R) (x0 : LI) : Option R :=
  f28.b' L N k x0
def f28 (L N : Nat) (x0 : LI) : Option (Graph) := f28.b L N some x0
def f28.ent (L N : Nat) (args : List AV) (vw : View) (site : Nat) : Ans := match coeD [(.sl (.int .u8))] vw args with
  | some (d, u) => ⟨Graph, f28 L N d.1, fun y => ((.tv (.st 2) y), u, [])⟩
  | none => Ans.no
noncomputable def E28 (L N : Nat) : Env := { P := Try.prog, ty := tyOf, Φ := (Φ69 L N), inl := inlT, live := lives, liveX := livesX, L := L, dp := none, prom := promT, heal := healT, ren := renT }
theorem f28.b_pre {R : Type} (L N : Nat) (κ : AV → Option R) (x0 : LI) :
    evBody (E28 L N) (evCallI (E28 L N) 1 2000) 1000 28 Try.f28 [(.tv (.sl (.int .u8)) x0)] [] [] (finC (.one (.st 2)) κ)
    = f28.b' L N (fun a0 => κ (.tv (.st 2) a0)) x0 := by kernel_rfl
theorem f28.b_eq {R : Type} (L N : Nat) (κ : AV → Option R) (x0 : LI) :
    evBody (E28 L N) (evCallI (E28 L N) 1 2000) 1000 28 Try.f28 [(.tv (.sl (.int .u8)) x0)] [] [] (finC (.one (.st 2)) κ)
    = f28.b L N (fun a0 => κ (.tv (.st 2) a0)) x0 := by
  rw [f28.b_pre]
  unfold f28.b
  rfl
theorem f28.b'_nat {R R' : Type} (j : R → Option R') (L N : Nat) (k : Graph → Option R) (x0 : LI) :
    f28.b' L N (fun a0 => (k a0).bind j) x0 = (f28.b' L N k x0).bind j := by
  unfold f28.b'
  repeat' (first | (with_reducible refine cond_nat ?_ ?_) | (with_reducible refine bind_nat fun _ => ?_) | rfl)
theorem f28.b_nat {R R' : Type} (j : R → Option R') (L N : Nat) (k : Graph → Option R) (x0 : LI) :
    f28.b L N (fun a0 => (k a0).bind j) x0 = (f28.b L N k x0).bind j := by
  unfold f28.b
  exact f28.b'_nat ..
theorem f28.ok (L N : Nat) (hΦ : TellsOk Try.prog ((Φ69 L N))) : EntOk Try.prog 28 (f28.ent L N) := by
  intro args vw site h
  unfold f28.ent
  split
  · rename_i d u ha
    intro y hy hs
    refine call_data (dep := 1000) (E := (E28 L N)) (rs := (.one (.st 2))) (v' := (.tv (.st 2) y)) (sound_of hΦ) okP (callI_sound (sound_of hΦ) okP 1 2000) (f := Try.f28) rfl hs ha ?_ site
    refine (f28.b_eq L N some d.1).trans ?_
    refine ((f28.b_nat (fun y => (some (.tv (.st 2) y) : Option AV)) L N some d.1)).trans ?_
    rw [show f28.b L N some d.1 = some y from hy]
    rfl
  · intro y hy
    cases hy
def Φ28 (L N : Nat) : Tells := (addT (Φ69 L N) 28 (f28.ent L N))
theorem Φ28_ok (L N : Nat) : TellsOk Try.prog (Φ28 L N) := addT_ok (Φ69_ok L N) (f28.ok L N (Φ69_ok L N))
def f72.b' {R : Type} (L N : Nat) (k : Bool → Option R) (x0 : Int) : Option R :=
  bif (decide (x0 ≥ (-4 : Int))) then
    k (decide (x0 ≤ (4 : Int)))
  else k false
def f72.b {R : Type} (L N : Nat) (k : Bool → Option R) (x0 : Int) : Option R :=
  f72.b' L N k x0
def f72 (L N : Nat) (x0 : Int) : Option (Bool) := f72.b L N some x0
def f72.ent (L N : Nat) (args : List AV) (vw : View) (site : Nat) : Ans := match roD [i64] vw args with
  | some d => ⟨Bool, f72 L N d.1, fun y => ((.tv .bool y), [], [])⟩
  | none => Ans.no
noncomputable def E72 (L N : Nat) : Env := { P := Try.prog, ty := tyOf, Φ := (Φ28 L N), inl := inlT, live := lives, liveX := livesX, L := L, dp := none, prom := promT, heal := healT, ren := renT }
theorem f72.b_pre {R : Type} (L N : Nat) (κ : AV → Option R) (x0 : Int) :
    evBody (E72 L N) (evCallI (E72 L N) 1 2000) 1000 72 Try.f72 [(.tv i64 x0)] [] [] (finC (.one .bool) κ)
    = f72.b' L N (fun a0 => κ (.tv .bool a0)) x0 := by kernel_rfl
theorem f72.b_eq {R : Type} (L N : Nat) (κ : AV → Option R) (x0 : Int) :
    evBody (E72 L N) (evCallI (E72 L N) 1 2000) 1000 72 Try.f72 [(.tv i64 x0)] [] [] (finC (.one .bool) κ)
    = f72.b L N (fun a0 => κ (.tv .bool a0)) x0 := by
  rw [f72.b_pre]
  unfold f72.b
  rfl
theorem f72.b'_nat {R R' : Type} (j : R → Option R') (L N : Nat) (k : Bool → Option R) (x0 : Int) :
    f72.b' L N (fun a0 => (k a0).bind j) x0 = (f72.b' L N k x0).bind j := by
  unfold f72.b'
  repeat' (first | (with_reducible refine cond_nat ?_ ?_) | (with_reducible refine bind_nat fun _ => ?_) | rfl)
theorem f72.b_nat {R R' : Type} (j : R → Option R') (L N : Nat) (k : Bool → Option R) (x0 : Int) :
    f72.b L N (fun a0 => (k a0).bind j) x0 = (f72.b L N k x0).bind j := by
  unfold f72.b
  exact f72.b'_nat ..
theorem f72.ok (L N : Nat) (hΦ : TellsOk Try.prog ((Φ28 L N))) : EntOk Try.prog 72 (f72.ent L N) := by
  intro args vw site h
  unfold f72.ent
  split
  · rename_i d ha
    intro y hy hs
    refine call_ro (dep := 1000) (E := (E72 L N)) (rs := (.one .bool)) (v := (.tv .bool y)) (sound_of hΦ) okP (callI_sound (sound_of hΦ) okP 1 2000) (f := Try.f72) rfl hs ha ?_ rfl site
    refine (f72.b_eq L N some d.1).trans ?_
    refine ((f72.b_nat (fun y => (some (.tv .bool y) : Option AV)) L N some d.1)).trans ?_
    rw [show f72.b L N some d.1 = some y from hy]
    rfl
  · intro y hy
    cases hy
def Φ72 (L N : Nat) : Tells := (addT (Φ28 L N) 72 (f72.ent L N))
theorem Φ72_ok (L N : Nat) : TellsOk Try.prog (Φ72 L N) := addT_ok (Φ28_ok L N) (f72.ok L N (Φ28_ok L N))
def f136.b' {R : Type} (L N : Nat) (k : Bool → Option R) (x0 : Int) : Option R :=
  k (x0 != x0)
def f136.b {R : Type} (L N : Nat) (k : Bool → Option R) (x0 : Int) : Option R :=
  f136.b' L N k x0
def f136 (L N : Nat) (x0 : Int) : Option (Bool) := f136.b L N some x0
def f136.ent (L N : Nat) (args : List AV) (vw : View) (site : Nat) : Ans := match roD [i64] vw args with
  | some d => ⟨Bool, f136 L N d.1, fun y => ((.tv .bool y), [], [])⟩
  | none => Ans.no
noncomputable def E136 (L N : Nat) : Env := { P := Try.prog, ty := tyOf, Φ := (Φ72 L N), inl := inlT, live := lives, liveX := livesX, L := L, dp := none, prom := promT, heal := healT, ren := renT }
theorem f136.b_pre {R : Type} (L N : Nat) (κ : AV → Option R) (x0 : Int) :
    evBody (E136 L N) (evCallI (E136 L N) 1 2000) 1000 136 Try.f136 [(.tv i64 x0)] [] [] (finC (.one .bool) κ)
    = f136.b' L N (fun a0 => κ (.tv .bool a0)) x0 := by kernel_rfl
theorem f136.b_eq {R : Type} (L N : Nat) (κ : AV → Option R) (x0 : Int) :
    evBody (E136 L N) (evCallI (E136 L N) 1 2000) 1000 136 Try.f136 [(.tv i64 x0)] [] [] (finC (.one .bool) κ)
    = f136.b L N (fun a0 => κ (.tv .bool a0)) x0 := by
  rw [f136.b_pre]
  unfold f136.b
  rfl
theorem f136.b'_nat {R R' : Type} (j : R → Option R') (L N : Nat) (k : Bool → Option R) (x0 : Int) :
    f136.b' L N (fun a0 => (k a0).bind j) x0 = (f136.b' L N k x0).bind j := by
  unfold f136.b'
  repeat' (first | (with_reducible refine cond_nat ?_ ?_) | (with_reducible refine bind_nat fun _ => ?_) | rfl)
theorem f136.b_nat {R R' : Type} (j : R → Option R') (L N : Nat) (k : Bool → Option R) (x0 : Int) :
    f136.b L N (fun a0 => (k a0).bind j) x0 = (f136.b L N k x0).bind j := by
  unfold f136.b
  exact f136.b'_nat ..
theorem f136.ok (L N : Nat) (hΦ : TellsOk Try.prog ((Φ72 L N))) : EntOk Try.prog 136 (f136.ent L N) := by
  intro args vw site h
  unfold f136.ent
  split
  · rename_i d ha
    intro y hy hs
    refine call_ro (dep := 1000) (E := (E136 L N)) (rs := (.one .bool)) (v := (.tv .bool y)) (sound_of hΦ) okP (callI_sound (sound_of hΦ) okP 1 2000) (f := Try.f136) rfl hs ha ?_ rfl site
    refine (f136.b_eq L N some d.1).trans ?_
    refine ((f136.b_nat (fun y => (some (.tv .bool y) : Option AV)) L N some d.1)).trans ?_
    rw [show f136.b L N some d.1 = some y from hy]
    rfl
  · intro y hy
    cases hy
def Φ136 (L N : Nat) : Tells := (addT (Φ72 L N) 136 (f136.ent L N))
theorem Φ136_ok (L N : Nat) : TellsOk Try.prog (Φ136 L N) := addT_ok (Φ72_ok L N) (f136.ok L N (Φ72_ok L N))
def f108.b' {R : Type} (L N : Nat) (k : Int → Option R) (x0 : Int) (x1 : Int) : Option R :=
  (f136 L N x0).bind fun y0 =>
  (f136 L N x1).bind fun y1 =>
  bif y0 then
    bif y1 then
      k (0 : Int)
    else k (-1 : Int)
  else bif y1 then
    k (1 : Int)
  else bif (decide (x0 < x1)) then
    k (-1 : Int)
  else bif (decide (x0 > x1)) then
    k (1 : Int)
  else k (0 : Int)
def f108.b {R : Type} (L N : Nat) (k : Int → Option R) (x0 : Int) (x1 : Int) : Option R :=
  f108.b' L N k x0 x1
def f108 (L N : Nat) (x0 : Int) (x1 : Int) : Option (Int) := f108.b L N some x0 x1
def f108.ent (L N : Nat) (args : List AV) (vw : View) (site : Nat) : Ans := match roD [i64, i64] vw args with
  | some d => ⟨Int, f108 L N d.1 d.2.1, fun y => ((.tv i64 y), [], [])⟩
  | none => Ans.no
noncomputable def E108 (L N : Nat) : Env := { P := Try.prog, ty := tyOf, Φ := (Φ136 L N), inl := inlT, live := lives, liveX := livesX, L := L, dp := none, prom := promT, heal := healT, ren := renT }
theorem f108.b_pre {R : Type} (L N : Nat) (κ : AV → Option R) (x0 : Int) (x1 : Int) :
    evBody (E108 L N) (evCallI (E108 L N) 1 2000) 1000 108 Try.f108 [(.tv i64 x0), (.tv i64 x1)] [] [] (finC (.one i64) κ)
    = f108.b' L N (fun a0 => κ (.tv i64 a0)) x0 x1 := by kernel_rfl
theorem f108.b_eq {R : Type} (L N : Nat) (κ : AV → Option R) (x0 : Int) (x1 : Int) :
    evBody (E108 L N) (evCallI (E108 L N) 1 2000) 1000 108 Try.f108 [(.tv i64 x0), (.tv i64 x1)] [] [] (finC (.one i64) κ)
    = f108.b L N (fun a0 => κ (.tv i64 a0)) x0 x1 := by
  rw [f108.b_pre]
  unfold f108.b
  rfl
theorem f108.b'_nat {R R' : Type} (j : R → Option R') (L N : Nat) (k : Int → Option R) (x0 : Int) (x1 : Int) :
    f108.b' L N (fun a0 => (k a0).bind j) x0 x1 = (f108.b' L N k x0 x1).bind j := by
  unfold f108.b'
  repeat' (first | (with_reducible refine cond_nat ?_ ?_) | (with_reducible refine bind_nat fun _ => ?_) | rfl)
theorem f108.b_nat {R R' : Type} (j : R → Option R') (L N : Nat) (k : Int → Option R) (x0 : Int) (x1 : Int) :
    f108.b L N (fun a0 => (k a0).bind j) x0 x1 = (f108.b L N k x0 x1).bind j := by
  unfold f108.b
  exact f108.b'_nat ..
theorem f108.ok (L N : Nat) (hΦ : TellsOk Try.prog ((Φ136 L N))) : EntOk Try.prog 108 (f108.ent L N) := by
  intro args vw site h
  unfold f108.ent
  split
  · rename_i d ha
    intro y hy hs
    refine call_ro (dep := 1000) (E := (E108 L N)) (rs := (.one i64)) (v := (.tv i64 y)) (sound_of hΦ) okP (callI_sound (sound_of hΦ) okP 1 2000) (f := Try.f108) rfl hs ha ?_ rfl site
    refine (f108.b_eq L N some d.1 d.2.1).trans ?_
    refine ((f108.b_nat (fun y => (some (.tv i64 y) : Option AV)) L N some d.1 d.2.1)).trans ?_
    rw [show f108.b L N some d.1 d.2.1 = some y from hy]
    rfl
  · intro y hy
    cases hy
def Φ108 (L N : Nat) : Tells := (addT (Φ136 L N) 108 (f108.ent L N))
theorem Φ108_ok (L N : Nat) : TellsOk Try.prog (Φ108 L N) := addT_ok (Φ136_ok L N) (f108.ok L N (Φ136_ok L N))
def f73.b' {R : Type} (L N : Nat) (k : Int → Option R) (x0 : Move) (x1 : Move) : Option R :=
  (f108 L N x0.act x1.act).bind fun y0 =>
  bif (y0 != (0 : Int)) then
    k y0
  else (f108 L N x0.to x1.to).bind fun y1 =>
  k y1
def f73.b {R : Type} (L N : Nat) (k : Int → Option R) (x0 : Move) (x1 : Move) : Option R :=
  f73.b' L N k x0 x1
def f73 (L N : Nat) (x0 : Move) (x1 : Move) : Option (Int) := f73.b L N some x0 x1
def f73.ent (L N : Nat) (args : List AV) (vw : View) (site : Nat) : Ans := match roD [(.st 0), (.st 0)] vw args with
  | some d => ⟨Int, f73 L N d.1 d.2.1, fun y => ((.tv i64 y), [], [])⟩
  | none => Ans.no
noncomputable def E73 (L N : Nat) : Env := { P := Try.prog, ty := tyOf, Φ := (Φ108 L N), inl := inlT, live := lives, liveX := livesX, L := L, dp := none, prom := promT, heal := healT, ren := renT }
theorem f73.b_pre {R : Type} (L N : Nat) (κ : AV → Option R) (x0 : Move) (x1 : Move) :
    evBody (E73 L N) (evCallI (E73 L N) 1 2000) 1000 73 Try.f73 [(.tv (.st 0) x0), (.tv (.st 0) x1)] [] [] (finC (.one i64) κ)
    = f73.b' L N (fun a0 => κ (.tv i64 a0)) x0 x1 := by kernel_rfl
theorem f73.b_eq {R : Type} (L N : Nat) (κ : AV → Option R) (x0 : Move) (x1 : Move) :
    evBody (E73 L N) (evCallI (E73 L N) 1 2000) 1000 73 Try.f73 [(.tv (.st 0) x0), (.tv (.st 0) x1)] [] [] (finC (.one i64) κ)
    = f73.b L N (fun a0 => κ (.tv i64 a0)) x0 x1 := by
  rw [f73.b_pre]
  unfold f73.b
  rfl
theorem f73.b'_nat {R R' : Type} (j : R → Option R') (L N : Nat) (k : Int → Option R) (x0 : Move) (x1 : Move) :
    f73.b' L N (fun a0 => (k a0).bind j) x0 x1 = (f73.b' L N k x0 x1).bind j := by
  unfold f73.b'
  repeat' (first | (with_reducible refine cond_nat ?_ ?_) | (with_reducible refine bind_nat fun _ => ?_) | rfl)
theorem f73.b_nat {R R' : Type} (j : R → Option R') (L N : Nat) (k : Int → Option R) (x0 : Move) (x1 : Move) :
    f73.b L N (fun a0 => (k a0).bind j) x0 x1 = (f73.b L N k x0 x1).bind j := by
  unfold f73.b
  exact f73.b'_nat ..
theorem f73.ok (L N : Nat) (hΦ : TellsOk Try.prog ((Φ108 L N))) : EntOk Try.prog 73 (f73.ent L N) := by
  intro args vw site h
  unfold f73.ent
  split
  · rename_i d ha
    intro y hy hs
    refine call_ro (dep := 1000) (E := (E73 L N)) (rs := (.one i64)) (v := (.tv i64 y)) (sound_of hΦ) okP (callI_sound (sound_of hΦ) okP 1 2000) (f := Try.f73) rfl hs ha ?_ rfl site
    refine (f73.b_eq L N some d.1 d.2.1).trans ?_
    refine ((f73.b_nat (fun y => (some (.tv i64 y) : Option AV)) L N some d.1 d.2.1)).trans ?_
    rw [show f73.b L N some d.1 d.2.1 = some y from hy]
    rfl
  · intro y hy
    cases hy
def Φ73 (L N : Nat) : Tells := (addT (Φ108 L N) 73 (f73.ent L N))
theorem Φ73_ok (L N : Nat) : TellsOk Try.prog (Φ73 L N) := addT_ok (Φ108_ok L N) (f73.ok L N (Φ108_ok L N))
def f32.s1' {R : Type} (L N : Nat) (k1_e2 : LLM → Int → Int → LLM → Option R) (k1_r : Bool → LLM → Int → Int → LLM → Option R) (rec1 : LM → LLM → Int → Int → LM → Int → Int → LLM → Option R) (s7 : LM) (s8 : LLM) (s9 : Int) (s10 : Int) (s11 : LM) (s12 : Int) (s13 : Int) (s14 : LLM) : Option R :=
  bif (decide (s13 < s12)) then
    bif (decide (0 ≤ s13) && decide (s13 < (s11.length : Int))) then
      (f72 L N ((listAt s11 (Ty.dflt (.st 0)) s13.toNat).act)).bind fun y19 =>
      bif (!y19) then
        k1_r false s8 s9 s10 s14
      else bif (decide ((listAt s11 (Ty.dflt (.st 0)) s13.toNat).to < (0 : Int))) then
        k1_r false s8 s9 s10 s14
      else bif (decide ((listAt s11 (Ty.dflt (.st 0)) s13.toNat).to ≥ (s14.length : Int))) then
        k1_r false s8 s9 s10 s14
      else bif (decide (s13 > (0 : Int))) then
        bif (decide (0 ≤ (wi (s13 - (1 : Int)))) && decide ((wi (s13 - (1 : Int))) < (s7.length : Int))) then
          (f73 L N (listAt s7 (Ty.dflt (.st 0)) (wi (s13 - (1 : Int))).toNat) (Move.mk ((listAt s11 (Ty.dflt (.st 0)) s13.toNat).act) ((listAt s11 (Ty.dflt (.st 0)) s13.toNat).to))).bind fun y20 =>
          bif (decide (y20 ≥ (0 : Int))) then
            k1_r false s8 s9 s10 s14
          else rec1 s7 s8 s9 s10 s11 s12 (wi (s13 + (1 : Int))) s14
        else none
      else rec1 s7 s8 s9 s10 s11 s12 (wi (s13 + (1 : Int))) s14
    else none
  else k1_e2 s8 s9 s10 s14
def f32.s1 {R : Type} (L N : Nat) (k1_e2 : LLM → Int → Int → LLM → Option R) (k1_r : Bool → LLM → Int → Int → LLM → Option R) (rec1 : LM → LLM → Int → Int → LM → Int → Int → LLM → Option R) (s7 : LM) (s8 : LLM) (s9 : Int) (s10 : Int) (s11 : LM) (s12 : Int) (s13 : Int) (s14 : LLM) : Option R :=
  f32.s1' L N k1_e2 k1_r rec1 s7 s8 s9 s10 s11 s12 s13 s14
def f32.l1 {R : Type} (L N : Nat) (k1_e2 : LLM → Int → Int → LLM → Option R) (k1_r : Bool → LLM → Int → Int → LLM → Option R) : Nat → LM → LLM → Int → Int → LM → Int → Int → LLM → Option R
  | 0, _, _, _, _, _, _, _, _ => none
  | n + 1, s7, s8, s9, s10, s11, s12, s13, s14 => f32.s1 L N k1_e2 k1_r (f32.l1 L N k1_e2 k1_r n) s7 s8 s9 s10 s11 s12 s13 s14
def f32.T1 (s7 : LM) (s8 : LLM) (s9 : Int) (s10 : Int) (s11 : LM) (s12 : Int) (s13 : Int) (s14 : LLM) : T := mkT 64 [(1, (.ptr 1001 0)), (4, (.tv (.sl (.st 0)) s7)), (18, (.tv (.sl (.sl (.st 0))) s8)), (19, (.tv i64 s9)), (20, (.tv i64 s10)), (24, (.tv (.sl (.st 0)) s11)), (25, (.tv i64 s12)), (26, (.tv i64 s13))]
def f32.H1 (s7 : LM) (s8 : LLM) (s9 : Int) (s10 : Int) (s11 : LM) (s12 : Int) (s13 : Int) (s14 : LLM) : H := [(1001, (.box [(.tv (.sl (.sl (.st 0))) s14)]))]
def f32.T1_e2 (z15 : LLM) (z16 : Int) (z17 : Int) (z18 : LLM) : T := mkT 64 [(1, (.ptr 1001 0)), (18, (.tv (.sl (.sl (.st 0))) z15)), (19, (.tv i64 z16)), (20, (.tv i64 z17))]
def f32.H1_e2 (z15 : LLM) (z16 : Int) (z17 : Int) (z18 : LLM) : H := [(1001, (.box [(.tv (.sl (.sl (.st 0))) z18)]))]
def f32.T1_r (z30 : Bool) (z31 : LLM) (z32 : Int) (z33 : Int) (z34 : LLM) : T := mkT 64 [(1, (.ptr 1001 0)), (2, (.tv .bool z30)), (18, (.tv (.sl (.sl (.st 0))) z31)), (19, (.tv i64 z32)), (20, (.tv i64 z33))]
def f32.H1_r (z30 : Bool) (z31 : LLM) (z32 : Int) (z33 : Int) (z34 : LLM) : H := [(1001, (.box [(.tv (.sl (.sl (.st 0))) z34)]))]
def f32.p1_e2' {R : Type} (L N : Nat) (k0_e0 : Option R) (k0_r : Bool → Option R) (rec0 : LLM → Int → Int → LLM → Option R) (z15 : LLM) (z16 : Int) (z17 : Int) (z18 : LLM) : Option R :=
  rec0 z15 z16 (wi (z17 + (1 : Int))) z18
def f32.p1_e2 {R : Type} (L N : Nat) (k0_e0 : Option R) (k0_r : Bool → Option R) (rec0 : LLM → Int → Int → LLM → Option R) (z15 : LLM) (z16 : Int) (z17 : Int) (z18 : LLM) : Option R :=
  f32.p1_e2' L N k0_e0 k0_r rec0 z15 z16 z17 z18
def f32.p1_r' {R : Type} (L N : Nat) (k0_e0 : Option R) (k0_r : Bool → Option R) (rec0 : LLM → Int → Int → LLM → Option R) (z30 : Bool) (z31 : LLM) (z32 : Int) (z33 : Int) (z34 : LLM) : Option R :=
  k0_r z30
def f32.p1_r {R : Type} (L N : Nat) (k0_e0 : Option R) (k0_r : Bool → Option R) (rec0 : LLM → Int → Int → LLM → Option R) (z30 : Bool) (z31 : LLM) (z32 : Int) (z33 : Int) (z34 : LLM) : Option R :=
  f32.p1_r' L N k0_e0 k0_r rec0 z30 z31 z32 z33 z34
def f32.s0' {R : Type} (L N : Nat) (k0_e0 : Option R) (k0_r : Bool → Option R) (rec0 : LLM → Int → Int → LLM → Option R) (w1 : LM → LLM → Int → Int → LM → Int → Int → LLM → Option R) (s3 : LLM) (s4 : Int) (s5 : Int) (s6 : LLM) : Option R :=
  bif (decide (s5 < s4)) then
    bif (decide (0 ≤ s5) && decide (s5 < (s3.length : Int))) then
      w1 (listAt s3 [] s5.toNat) s3 s4 s5 (listAt s3 [] s5.toNat) ((listAt s3 [] s5.toNat).length : Int) (0 : Int) s6
    else none
  else k0_e0
def f32.s0 {R : Type} (L N : Nat) (k0_e0 : Option R) (k0_r : Bool → Option R) (rec0 : LLM → Int → Int → LLM → Option R) (s3 : LLM) (s4 : Int) (s5 : Int) (s6 : LLM) : Option R :=
  f32.s0' L N k0_e0 k0_r rec0 (fun s7 s8 s9 s10 s11 s12 s13 s14 => f32.l1 L N (fun z15 z16 z17 z18 => f32.p1_e2 L N k0_e0 k0_r rec0 z15 z16 z17 z18) (fun z30 z31 z32 z33 z34 => f32.p1_r L N k0_e0 k0_r rec0 z30 z31 z32 z33 z34) L s7 s8 s9 s10 s11 s12 s13 s14) s3 s4 s5 s6
def f32.l0 {R : Type} (L N : Nat) (k0_e0 : Option R) (k0_r : Bool → Option R) : Nat → LLM → Int → Int → LLM → Option R
  | 0, _, _, _, _ => none
  | n + 1, s3, s4, s5, s6 => f32.s0 L N k0_e0 k0_r (f32.l0 L N k0_e0 k0_r n) s3 s4 s5 s6
def f32.T0 (s3 : LLM) (s4 : Int) (s5 : Int) (s6 : LLM) : T := mkT 64 [(1, (.ptr 1001 0)), (18, (.tv (.sl (.sl (.st 0))) s3)), (19, (.tv i64 s4)), (20, (.tv i64 s5))]
def f32.H0 (s3 : LLM) (s4 : Int) (s5 : Int) (s6 : LLM) : H := [(1001, (.box [(.tv (.sl (.sl (.st 0))) s6)]))]
def f32.T0_e0 : T := mkT 64 []
def f32.H0_e0 : H := []
def f32.T0_r (z43 : Bool) : T := mkT 64 [(2, (.tv .bool z43))]
def f32.H0_r (z43 : Bool) : H := []
def f32.p0_e0' {R : Type} (L N : Nat) (k : Bool → Option R) : Option R :=
  k true
def f32.p0_e0 {R : Type} (L N : Nat) (k : Bool → Option R) : Option R :=
  f32.p0_e0' L N k
def f32.p0_r' {R : Type} (L N : Nat) (k : Bool → Option R) (z43 : Bool) : Option R :=
  k z43
def f32.p0_r {R : Type} (L N : Nat) (k : Bool → Option R) (z43 : Bool) : Option R :=
  f32.p0_r' L N k z43
def f32.j0' {R : Type} (L N : Nat) (k : Bool → Option R) (w0 : LLM → Int → Int → LLM → Option R) (v2 : LLM) : Option R :=
  w0 v2 (v2.length : Int) (0 : Int) v2
def f32.b' {R : Type} (L N : Nat) (k : Bool → Option R) (w0 : LLM → Int → Int → LLM → Option R) (x0 : Graph) : Option R :=
  bif (decide ((x0.moves.length : Int) < (1 : Int))) then
    k false
  else bif (decide ((x0.moves.length : Int) > (60 : Int))) then
    k false
  else f32.j0' L N k w0 x0.moves
def f32.b {R : Type} (L N : Nat) (k : Bool → Option R) (x0 : Graph) : Option R :=
  f32.b' L N k (fun s3 s4 s5 s6 => f32.l0 L N (f32.p0_e0 L N k) (fun z43 => f32.p0_r L N k z43) L s3 s4 s5 s6) x0
def f32 (L N : Nat) (x0 : Graph) : Option (Bool) := f32.b L N some x0
def f32.ent (L N : Nat) (args : List AV) (vw : View) (site : Nat) : Ans := match roD [(.st 2)] vw args with
  | some d => ⟨Bool, f32 L N d.1, fun y => ((.tv .bool y), [], [])⟩
  | none => Ans.no
noncomputable def E32 (L N : Nat) : Env := { P := Try.prog, ty := tyOf, Φ := (Φ73 L N), inl := inlT, live := lives, liveX := livesX, L := L, dp := none, prom := promT, heal := healT, ren := renT }
noncomputable def f32.c0 : Code := loopAt 0 (codeOf Try.f32)
noncomputable def f32.c1 : Code := loopAt 2 f32.c0
theorem f32.s1_pre {R : Type} (L N : Nat) (κ : Ex → T → H → Option R) (rec : T → H → Option R) (s7 : LM) (s8 : LLM) (s9 : Int) (s10 : Int) (s11 : LM) (s12 : Int) (s13 : Int) (s14 : LLM) :
    evRd (E32 L N) (evCallI (E32 L N) 1 2000) 1000 32 64 2 f32.c1 κ rec (f32.T1 s7 s8 s9 s10 s11 s12 s13 s14) (f32.H1 s7 s8 s9 s10 s11 s12 s13 s14)
    = f32.s1' L N (fun z15 z16 z17 z18 => κ (.exit 2) (f32.T1_e2 z15 z16 z17 z18) (f32.H1_e2 z15 z16 z17 z18)) (fun z30 z31 z32 z33 z34 => κ .ret (f32.T1_r z30 z31 z32 z33 z34) (f32.H1_r z30 z31 z32 z33 z34)) (fun s7 s8 s9 s10 s11 s12 s13 s14 => rec (f32.T1 s7 s8 s9 s10 s11 s12 s13 s14) (f32.H1 s7 s8 s9 s10 s11 s12 s13 s14)) s7 s8 s9 s10 s11 s12 s13 s14 := by kernel_rfl
theorem f32.s1_eq {R : Type} (L N : Nat) (κ : Ex → T → H → Option R) (rec : T → H → Option R) (s7 : LM) (s8 : LLM) (s9 : Int) (s10 : Int) (s11 : LM) (s12 : Int) (s13 : Int) (s14 : LLM) :
    evRd (E32 L N) (evCallI (E32 L N) 1 2000) 1000 32 64 2 f32.c1 κ rec (f32.T1 s7 s8 s9 s10 s11 s12 s13 s14) (f32.H1 s7 s8 s9 s10 s11 s12 s13 s14)
    = f32.s1 L N (fun z15 z16 z17 z18 => κ (.exit 2) (f32.T1_e2 z15 z16 z17 z18) (f32.H1_e2 z15 z16 z17 z18)) (fun z30 z31 z32 z33 z34 => κ .ret (f32.T1_r z30 z31 z32 z33 z34) (f32.H1_r z30 z31 z32 z33 z34)) (fun s7 s8 s9 s10 s11 s12 s13 s14 => rec (f32.T1 s7 s8 s9 s10 s11 s12 s13 s14) (f32.H1 s7 s8 s9 s10 s11 s12 s13 s14)) s7 s8 s9 s10 s11 s12 s13 s14 := by
  rw [f32.s1_pre]
  unfold f32.s1
  rfl
theorem f32.l1_eq {R : Type} (L N : Nat) (κ : Ex → T → H → Option R) : ∀ (n : Nat) (s7 : LM) (s8 : LLM) (s9 : Int) (s10 : Int) (s11 : LM) (s12 : Int) (s13 : Int) (s14 : LLM),
    evLp (E32 L N) (evCallI (E32 L N) 1 2000) 1000 32 64 2 f32.c1 κ n (f32.T1 s7 s8 s9 s10 s11 s12 s13 s14) (f32.H1 s7 s8 s9 s10 s11 s12 s13 s14)
    = f32.l1 L N (fun z15 z16 z17 z18 => κ (.exit 2) (f32.T1_e2 z15 z16 z17 z18) (f32.H1_e2 z15 z16 z17 z18)) (fun z30 z31 z32 z33 z34 => κ .ret (f32.T1_r z30 z31 z32 z33 z34) (f32.H1_r z30 z31 z32 z33 z34)) n s7 s8 s9 s10 s11 s12 s13 s14 := by
  intro n
  induction n with
  | zero => intros; rfl
  | succ n ih =>
    intro s7 s8 s9 s10 s11 s12 s13 s14
    rw [evLp_succ, f32.s1_eq]
    simp only [ih]
    rfl
theorem f32.p1_e2_pre {R : Type} (L N : Nat) (κ : Ex → T → H → Option R) (rec : T → H → Option R) (z15 : LLM) (z16 : Int) (z17 : Int) (z18 : LLM) :
    (contAt (E32 L N) (evCallI (E32 L N) 1 2000) 1000 32 64 2 f32.c0 (stepK (outK (keepT 64 ((E32 L N).liveX 32 0).1) (keepH 1000 ((E32 L N).liveX 32 0).2) κ) fun t h => rec (backK 1000 64 ((E32 L N).live 32 0).1 ((E32 L N).live 32 0).2 ((E32 L N).heal 32 0) ((E32 L N).ren 32 0) t h).1 (backK 1000 64 ((E32 L N).live 32 0).1 ((E32 L N).live 32 0).2 ((E32 L N).heal 32 0) ((E32 L N).ren 32 0) t h).2)) (.exit 2) (f32.T1_e2 z15 z16 z17 z18) (f32.H1_e2 z15 z16 z17 z18)
    = f32.p1_e2' L N (κ (.exit 0) f32.T0_e0 f32.H0_e0) (fun z43 => κ .ret (f32.T0_r z43) (f32.H0_r z43)) (fun s3 s4 s5 s6 => rec (f32.T0 s3 s4 s5 s6) (f32.H0 s3 s4 s5 s6)) z15 z16 z17 z18 := by kernel_rfl
theorem f32.p1_e2_eq {R : Type} (L N : Nat) (κ : Ex → T → H → Option R) (rec : T → H → Option R) (z15 : LLM) (z16 : Int) (z17 : Int) (z18 : LLM) :
    (contAt (E32 L N) (evCallI (E32 L N) 1 2000) 1000 32 64 2 f32.c0 (stepK (outK (keepT 64 ((E32 L N).liveX 32 0).1) (keepH 1000 ((E32 L N).liveX 32 0).2) κ) fun t h => rec (backK 1000 64 ((E32 L N).live 32 0).1 ((E32 L N).live 32 0).2 ((E32 L N).heal 32 0) ((E32 L N).ren 32 0) t h).1 (backK 1000 64 ((E32 L N).live 32 0).1 ((E32 L N).live 32 0).2 ((E32 L N).heal 32 0) ((E32 L N).ren 32 0) t h).2)) (.exit 2) (f32.T1_e2 z15 z16 z17 z18) (f32.H1_e2 z15 z16 z17 z18)
    = f32.p1_e2 L N (κ (.exit 0) f32.T0_e0 f32.H0_e0) (fun z43 => κ .ret (f32.T0_r z43) (f32.H0_r z43)) (fun s3 s4 s5 s6 => rec (f32.T0 s3 s4 s5 s6) (f32.H0 s3 s4 s5 s6)) z15 z16 z17 z18 := by
  rw [f32.p1_e2_pre]
  unfold f32.p1_e2
  rfl
theorem f32.p1_r_pre {R : Type} (L N : Nat) (κ : Ex → T → H → Option R) (rec : T → H → Option R) (z30 : Bool) (z31 : LLM) (z32 : Int) (z33 : Int) (z34 : LLM) :
    (contAt (E32 L N) (evCallI (E32 L N) 1 2000) 1000 32 64 2 f32.c0 (stepK (outK (keepT 64 ((E32 L N).liveX 32 0).1) (keepH 1000 ((E32 L N).liveX 32 0).2) κ) fun t h => rec (backK 1000 64 ((E32 L N).live 32 0).1 ((E32 L N).live 32 0).2 ((E32 L N).heal 32 0) ((E32 L N).ren 32 0) t h).1 (backK 1000 64 ((E32 L N).live 32 0).1 ((E32 L N).live 32 0).2 ((E32 L N).heal 32 0) ((E32 L N).ren 32 0) t h).2)) .ret (f32.T1_r z30 z31 z32 z33 z34) (f32.H1_r z30 z31 z32 z33 z34)
    = f32.p1_r' L N (κ (.exit 0) f32.T0_e0 f32.H0_e0) (fun z43 => κ .ret (f32.T0_r z43) (f32.H0_r z43)) (fun s3 s4 s5 s6 => rec (f32.T0 s3 s4 s5 s6) (f32.H0 s3 s4 s5 s6)) z30 z31 z32 z33 z34 := by kernel_rfl
theorem f32.p1_r_eq {R : Type} (L N : Nat) (κ : Ex → T → H → Option R) (rec : T → H → Option R) (z30 : Bool) (z31 : LLM) (z32 : Int) (z33 : Int) (z34 : LLM) :
    (contAt (E32 L N) (evCallI (E32 L N) 1 2000) 1000 32 64 2 f32.c0 (stepK (outK (keepT 64 ((E32 L N).liveX 32 0).1) (keepH 1000 ((E32 L N).liveX 32 0).2) κ) fun t h => rec (backK 1000 64 ((E32 L N).live 32 0).1 ((E32 L N).live 32 0).2 ((E32 L N).heal 32 0) ((E32 L N).ren 32 0) t h).1 (backK 1000 64 ((E32 L N).live 32 0).1 ((E32 L N).live 32 0).2 ((E32 L N).heal 32 0) ((E32 L N).ren 32 0) t h).2)) .ret (f32.T1_r z30 z31 z32 z33 z34) (f32.H1_r z30 z31 z32 z33 z34)
    = f32.p1_r L N (κ (.exit 0) f32.T0_e0 f32.H0_e0) (fun z43 => κ .ret (f32.T0_r z43) (f32.H0_r z43)) (fun s3 s4 s5 s6 => rec (f32.T0 s3 s4 s5 s6) (f32.H0 s3 s4 s5 s6)) z30 z31 z32 z33 z34 := by
  rw [f32.p1_r_pre]
  unfold f32.p1_r
  rfl
theorem f32.s0_pre {R : Type} (L N : Nat) (κ : Ex → T → H → Option R) (rec : T → H → Option R) (s3 : LLM) (s4 : Int) (s5 : Int) (s6 : LLM) :
    evRd (E32 L N) (evCallI (E32 L N) 1 2000) 1000 32 64 0 f32.c0 κ rec (f32.T0 s3 s4 s5 s6) (f32.H0 s3 s4 s5 s6)
    = f32.s0' L N (κ (.exit 0) f32.T0_e0 f32.H0_e0) (fun z43 => κ .ret (f32.T0_r z43) (f32.H0_r z43)) (fun s3 s4 s5 s6 => rec (f32.T0 s3 s4 s5 s6) (f32.H0 s3 s4 s5 s6)) (fun s7 s8 s9 s10 s11 s12 s13 s14 => evLp (E32 L N) (evCallI (E32 L N) 1 2000) 1000 32 64 2 f32.c1 (contAt (E32 L N) (evCallI (E32 L N) 1 2000) 1000 32 64 2 f32.c0 (stepK (outK (keepT 64 ((E32 L N).liveX 32 0).1) (keepH 1000 ((E32 L N).liveX 32 0).2) κ) fun t h => rec (backK 1000 64 ((E32 L N).live 32 0).1 ((E32 L N).live 32 0).2 ((E32 L N).heal 32 0) ((E32 L N).ren 32 0) t h).1 (backK 1000 64 ((E32 L N).live 32 0).1 ((E32 L N).live 32 0).2 ((E32 L N).heal 32 0) ((E32 L N).ren 32 0) t h).2)) L (f32.T1 s7 s8 s9 s10 s11 s12 s13 s14) (f32.H1 s7 s8 s9 s10 s11 s12 s13 s14)) s3 s4 s5 s6 := by kernel_rfl
theorem f32.s0_eq {R : Type} (L N : Nat) (κ : Ex → T → H → Option R) (rec : T → H → Option R) (s3 : LLM) (s4 : Int) (s5 : Int) (s6 : LLM) :
    evRd (E32 L N) (evCallI (E32 L N) 1 2000) 1000 32 64 0 f32.c0 κ rec (f32.T0 s3 s4 s5 s6) (f32.H0 s3 s4 s5 s6)
    = f32.s0 L N (κ (.exit 0) f32.T0_e0 f32.H0_e0) (fun z43 => κ .ret (f32.T0_r z43) (f32.H0_r z43)) (fun s3 s4 s5 s6 => rec (f32.T0 s3 s4 s5 s6) (f32.H0 s3 s4 s5 s6)) s3 s4 s5 s6 := by
  rw [f32.s0_pre]
  unfold f32.s0
  simp only [f32.l1_eq, f32.p1_e2_eq, f32.p1_r_eq]
theorem f32.l0_eq {R : Type} (L N : Nat) (κ : Ex → T → H → Option R) : ∀ (n : Nat) (s3 : LLM) (s4 : Int) (s5 : Int) (s6 : LLM),
    evLp (E32 L N) (evCallI (E32 L N) 1 2000) 1000 32 64 0 f32.c0 κ n (f32.T0 s3 s4 s5 s6) (f32.H0 s3 s4 s5 s6)
    = f32.l0 L N (κ (.exit 0) f32.T0_e0 f32.H0_e0) (fun z43 => κ .ret (f32.T0_r z43) (f32.H0_r z43)) n s3 s4 s5 s6 := by
  intro n
  induction n with
  | zero => intros; rfl
  | succ n ih =>
    intro s3 s4 s5 s6
    rw [evLp_succ, f32.s0_eq]
    simp only [ih]
    rfl
theorem f32.p0_e0_pre {R : Type} (L N : Nat) (κ : AV → Option R) :
    (contAt (E32 L N) (evCallI (E32 L N) 1 2000) 1000 32 64 0 (codeOf Try.f32) (finK (E32 L N) 1000 Try.f32 (finC (.one .bool) κ))) (.exit 0) f32.T0_e0 f32.H0_e0
    = f32.p0_e0' L N (fun a0 => κ (.tv .bool a0)) := by kernel_rfl
theorem f32.p0_e0_eq {R : Type} (L N : Nat) (κ : AV → Option R) :
    (contAt (E32 L N) (evCallI (E32 L N) 1 2000) 1000 32 64 0 (codeOf Try.f32) (finK (E32 L N) 1000 Try.f32 (finC (.one .bool) κ))) (.exit 0) f32.T0_e0 f32.H0_e0
    = f32.p0_e0 L N (fun a0 => κ (.tv .bool a0)) := by
  rw [f32.p0_e0_pre]
  unfold f32.p0_e0
  rfl
theorem f32.p0_r_pre {R : Type} (L N : Nat) (κ : AV → Option R) (z43 : Bool) :
    (contAt (E32 L N) (evCallI (E32 L N) 1 2000) 1000 32 64 0 (codeOf Try.f32) (finK (E32 L N) 1000 Try.f32 (finC (.one .bool) κ))) .ret (f32.T0_r z43) (f32.H0_r z43)
    = f32.p0_r' L N (fun a0 => κ (.tv .bool a0)) z43 := by kernel_rfl
theorem f32.p0_r_eq {R : Type} (L N : Nat) (κ : AV → Option R) (z43 : Bool) :
    (contAt (E32 L N) (evCallI (E32 L N) 1 2000) 1000 32 64 0 (codeOf Try.f32) (finK (E32 L N) 1000 Try.f32 (finC (.one .bool) κ))) .ret (f32.T0_r z43) (f32.H0_r z43)
    = f32.p0_r L N (fun a0 => κ (.tv .bool a0)) z43 := by
  rw [f32.p0_r_pre]
  unfold f32.p0_r
  rfl
theorem f32.b_pre {R : Type} (L N : Nat) (κ : AV → Option R) (x0 : Graph) :
    evBody (E32 L N) (evCallI (E32 L N) 1 2000) 1000 32 Try.f32 [(.tv (.st 2) x0)] [] [] (finC (.one .bool) κ)
    = f32.b' L N (fun a0 => κ (.tv .bool a0)) (fun s3 s4 s5 s6 => evLp (E32 L N) (evCallI (E32 L N) 1 2000) 1000 32 64 0 f32.c0 (contAt (E32 L N) (evCallI (E32 L N) 1 2000) 1000 32 64 0 (codeOf Try.f32) (finK (E32 L N) 1000 Try.f32 (finC (.one .bool) κ))) L (f32.T0 s3 s4 s5 s6) (f32.H0 s3 s4 s5 s6)) x0 := by kernel_rfl
theorem f32.b_eq {R : Type} (L N : Nat) (κ : AV → Option R) (x0 : Graph) :
    evBody (E32 L N) (evCallI (E32 L N) 1 2000) 1000 32 Try.f32 [(.tv (.st 2) x0)] [] [] (finC (.one .bool) κ)
    = f32.b L N (fun a0 => κ (.tv .bool a0)) x0 := by
  rw [f32.b_pre]
  unfold f32.b
  simp only [f32.l0_eq, f32.p0_e0_eq, f32.p0_r_eq]
theorem f32.s1'_nat {R R' : Type} (j : R → Option R') (L N : Nat) (k1_e2 : LLM → Int → Int → LLM → Option R) (k1_r : Bool → LLM → Int → Int → LLM → Option R) (rec1 : LM → LLM → Int → Int → LM → Int → Int → LLM → Option R) (s7 : LM) (s8 : LLM) (s9 : Int) (s10 : Int) (s11 : LM) (s12 : Int) (s13 : Int) (s14 : LLM) :
    f32.s1' L N (fun a0 a1 a2 a3 => (k1_e2 a0 a1 a2 a3).bind j) (fun a0 a1 a2 a3 a4 => (k1_r a0 a1 a2 a3 a4).bind j) (fun a0 a1 a2 a3 a4 a5 a6 a7 => (rec1 a0 a1 a2 a3 a4 a5 a6 a7).bind j) s7 s8 s9 s10 s11 s12 s13 s14 = (f32.s1' L N k1_e2 k1_r rec1 s7 s8 s9 s10 s11 s12 s13 s14).bind j := by
  unfold f32.s1'
  repeat' (first | (with_reducible refine cond_nat ?_ ?_) | (with_reducible refine bind_nat fun _ => ?_) | rfl)
theorem f32.s1_nat {R R' : Type} (j : R → Option R') (L N : Nat) (k1_e2 : LLM → Int → Int → LLM → Option R) (k1_r : Bool → LLM → Int → Int → LLM → Option R) (rec1 : LM → LLM → Int → Int → LM → Int → Int → LLM → Option R) (s7 : LM) (s8 : LLM) (s9 : Int) (s10 : Int) (s11 : LM) (s12 : Int) (s13 : Int) (s14 : LLM) :
    f32.s1 L N (fun a0 a1 a2 a3 => (k1_e2 a0 a1 a2 a3).bind j) (fun a0 a1 a2 a3 a4 => (k1_r a0 a1 a2 a3 a4).bind j) (fun a0 a1 a2 a3 a4 a5 a6 a7 => (rec1 a0 a1 a2 a3 a4 a5 a6 a7).bind j) s7 s8 s9 s10 s11 s12 s13 s14 = (f32.s1 L N k1_e2 k1_r rec1 s7 s8 s9 s10 s11 s12 s13 s14).bind j := by
  unfold f32.s1
  exact f32.s1'_nat ..
theorem f32.l1_nat {R R' : Type} (j : R → Option R') (L N : Nat) (k1_e2 : LLM → Int → Int → LLM → Option R) (k1_r : Bool → LLM → Int → Int → LLM → Option R) : ∀ (n : Nat) (s7 : LM) (s8 : LLM) (s9 : Int) (s10 : Int) (s11 : LM) (s12 : Int) (s13 : Int) (s14 : LLM),
    f32.l1 L N (fun a0 a1 a2 a3 => (k1_e2 a0 a1 a2 a3).bind j) (fun a0 a1 a2 a3 a4 => (k1_r a0 a1 a2 a3 a4).bind j) n s7 s8 s9 s10 s11 s12 s13 s14 = (f32.l1 L N k1_e2 k1_r n s7 s8 s9 s10 s11 s12 s13 s14).bind j := by
  intro n
  induction n with
  | zero => intros; rfl
  | succ n ih =>
    intro s7 s8 s9 s10 s11 s12 s13 s14
    show f32.s1 L N (fun a0 a1 a2 a3 => (k1_e2 a0 a1 a2 a3).bind j) (fun a0 a1 a2 a3 a4 => (k1_r a0 a1 a2 a3 a4).bind j) (f32.l1 L N (fun a0 a1 a2 a3 => (k1_e2 a0 a1 a2 a3).bind j) (fun a0 a1 a2 a3 a4 => (k1_r a0 a1 a2 a3 a4).bind j) n) s7 s8 s9 s10 s11 s12 s13 s14 = _
    rw [show f32.l1 L N (fun a0 a1 a2 a3 => (k1_e2 a0 a1 a2 a3).bind j) (fun a0 a1 a2 a3 a4 => (k1_r a0 a1 a2 a3 a4).bind j) n = (fun s7 s8 s9 s10 s11 s12 s13 s14 => (f32.l1 L N k1_e2 k1_r n s7 s8 s9 s10 s11 s12 s13 s14).bind j) from funext fun s7 => funext fun s8 => funext fun s9 => funext fun s10 => funext fun s11 => funext fun s12 => funext fun s13 => funext fun s14 => ih s7 s8 s9 s10 s11 s12 s13 s14]
    exact f32.s1_nat ..
theorem f32.p1_e2'_nat {R R' : Type} (j : R → Option R') (L N : Nat) (k0_e0 : Option R) (k0_r : Bool → Option R) (rec0 : LLM → Int → Int → LLM → Option R) (z15 : LLM) (z16 : Int) (z17 : Int) (z18 : LLM) :
    f32.p1_e2' L N (k0_e0.bind j) (fun a0 => (k0_r a0).bind j) (fun a0 a1 a2 a3 => (rec0 a0 a1 a2 a3).bind j) z15 z16 z17 z18 = (f32.p1_e2' L N k0_e0 k0_r rec0 z15 z16 z17 z18).bind j := by
  unfold f32.p1_e2'
  repeat' (first | (with_reducible refine cond_nat ?_ ?_) | (with_reducible refine bind_nat fun _ => ?_) | rfl)
theorem f32.p1_e2_nat {R R' : Type} (j : R → Option R') (L N : Nat) (k0_e0 : Option R) (k0_r : Bool → Option R) (rec0 : LLM → Int → Int → LLM → Option R) (z15 : LLM) (z16 : Int) (z17 : Int) (z18 : LLM) :
    f32.p1_e2 L N (k0_e0.bind j) (fun a0 => (k0_r a0).bind j) (fun a0 a1 a2 a3 => (rec0 a0 a1 a2 a3).bind j) z15 z16 z17 z18 = (f32.p1_e2 L N k0_e0 k0_r rec0 z15 z16 z17 z18).bind j := by
  unfold f32.p1_e2
  exact f32.p1_e2'_nat ..
theorem f32.p1_r'_nat {R R' : Type} (j : R → Option R') (L N : Nat) (k0_e0 : Option R) (k0_r : Bool → Option R) (rec0 : LLM → Int → Int → LLM → Option R) (z30 : Bool) (z31 : LLM) (z32 : Int) (z33 : Int) (z34 : LLM) :
    f32.p1_r' L N (k0_e0.bind j) (fun a0 => (k0_r a0).bind j) (fun a0 a1 a2 a3 => (rec0 a0 a1 a2 a3).bind j) z30 z31 z32 z33 z34 = (f32.p1_r' L N k0_e0 k0_r rec0 z30 z31 z32 z33 z34).bind j := by
  unfold f32.p1_r'
  repeat' (first | (with_reducible refine cond_nat ?_ ?_) | (with_reducible refine bind_nat fun _ => ?_) | rfl)
theorem f32.p1_r_nat {R R' : Type} (j : R → Option R') (L N : Nat) (k0_e0 : Option R) (k0_r : Bool → Option R) (rec0 : LLM → Int → Int → LLM → Option R) (z30 : Bool) (z31 : LLM) (z32 : Int) (z33 : Int) (z34 : LLM) :
    f32.p1_r L N (k0_e0.bind j) (fun a0 => (k0_r a0).bind j) (fun a0 a1 a2 a3 => (rec0 a0 a1 a2 a3).bind j) z30 z31 z32 z33 z34 = (f32.p1_r L N k0_e0 k0_r rec0 z30 z31 z32 z33 z34).bind j := by
  unfold f32.p1_r
  exact f32.p1_r'_nat ..
theorem f32.s0'_nat {R R' : Type} (j : R → Option R') (L N : Nat) (k0_e0 : Option R) (k0_r : Bool → Option R) (rec0 : LLM → Int → Int → LLM → Option R) (w1 : LM → LLM → Int → Int → LM → Int → Int → LLM → Option R) (s3 : LLM) (s4 : Int) (s5 : Int) (s6 : LLM) :
    f32.s0' L N (k0_e0.bind j) (fun a0 => (k0_r a0).bind j) (fun a0 a1 a2 a3 => (rec0 a0 a1 a2 a3).bind j) (fun a0 a1 a2 a3 a4 a5 a6 a7 => (w1 a0 a1 a2 a3 a4 a5 a6 a7).bind j) s3 s4 s5 s6 = (f32.s0' L N k0_e0 k0_r rec0 w1 s3 s4 s5 s6).bind j := by
  unfold f32.s0'
  repeat' (first | (with_reducible refine cond_nat ?_ ?_) | (with_reducible refine bind_nat fun _ => ?_) | rfl)
theorem f32.s0_nat {R R' : Type} (j : R → Option R') (L N : Nat) (k0_e0 : Option R) (k0_r : Bool → Option R) (rec0 : LLM → Int → Int → LLM → Option R) (s3 : LLM) (s4 : Int) (s5 : Int) (s6 : LLM) :
    f32.s0 L N (k0_e0.bind j) (fun a0 => (k0_r a0).bind j) (fun a0 a1 a2 a3 => (rec0 a0 a1 a2 a3).bind j) s3 s4 s5 s6 = (f32.s0 L N k0_e0 k0_r rec0 s3 s4 s5 s6).bind j := by
  unfold f32.s0
  simp only [f32.l1_nat, f32.p1_e2_nat, f32.p1_r_nat]
  exact f32.s0'_nat ..
theorem f32.l0_nat {R R' : Type} (j : R → Option R') (L N : Nat) (k0_e0 : Option R) (k0_r : Bool → Option R) : ∀ (n : Nat) (s3 : LLM) (s4 : Int) (s5 : Int) (s6 : LLM),
    f32.l0 L N (k0_e0.bind j) (fun a0 => (k0_r a0).bind j) n s3 s4 s5 s6 = (f32.l0 L N k0_e0 k0_r n s3 s4 s5 s6).bind j := by
  intro n
  induction n with
  | zero => intros; rfl
  | succ n ih =>
    intro s3 s4 s5 s6
    show f32.s0 L N (k0_e0.bind j) (fun a0 => (k0_r a0).bind j) (f32.l0 L N (k0_e0.bind j) (fun a0 => (k0_r a0).bind j) n) s3 s4 s5 s6 = _
    rw [show f32.l0 L N (k0_e0.bind j) (fun a0 => (k0_r a0).bind j) n = (fun s3 s4 s5 s6 => (f32.l0 L N k0_e0 k0_r n s3 s4 s5 s6).bind j) from funext fun s3 => funext fun s4 => funext fun s5 => funext fun s6 => ih s3 s4 s5 s6]
    exact f32.s0_nat ..
theorem f32.p0_e0'_nat {R R' : Type} (j : R → Option R') (L N : Nat) (k : Bool → Option R) :
    f32.p0_e0' L N (fun a0 => (k a0).bind j) = (f32.p0_e0' L N k).bind j := by
  unfold f32.p0_e0'
  repeat' (first | (with_reducible refine cond_nat ?_ ?_) | (with_reducible refine bind_nat fun _ => ?_) | rfl)
theorem f32.p0_e0_nat {R R' : Type} (j : R → Option R') (L N : Nat) (k : Bool → Option R) :
    f32.p0_e0 L N (fun a0 => (k a0).bind j) = (f32.p0_e0 L N k).bind j := by
  unfold f32.p0_e0
  exact f32.p0_e0'_nat ..
theorem f32.p0_r'_nat {R R' : Type} (j : R → Option R') (L N : Nat) (k : Bool → Option R) (z43 : Bool) :
    f32.p0_r' L N (fun a0 => (k a0).bind j) z43 = (f32.p0_r' L N k z43).bind j := by
  unfold f32.p0_r'
  repeat' (first | (with_reducible refine cond_nat ?_ ?_) | (with_reducible refine bind_nat fun _ => ?_) | rfl)
theorem f32.p0_r_nat {R R' : Type} (j : R → Option R') (L N : Nat) (k : Bool → Option R) (z43 : Bool) :
    f32.p0_r L N (fun a0 => (k a0).bind j) z43 = (f32.p0_r L N k z43).bind j := by
  unfold f32.p0_r
  exact f32.p0_r'_nat ..
theorem f32.j0'_nat {R R' : Type} (j : R → Option R') (L N : Nat) (k : Bool → Option R) (w0 : LLM → Int → Int → LLM → Option R) (v2 : LLM) :
    f32.j0' L N (fun a0 => (k a0).bind j) (fun a0 a1 a2 a3 => (w0 a0 a1 a2 a3).bind j) v2 = (f32.j0' L N k w0 v2).bind j := by
  unfold f32.j0'
  repeat' (first | (with_reducible refine cond_nat ?_ ?_) | (with_reducible refine bind_nat fun _ => ?_) | rfl)
theorem f32.b'_nat {R R' : Type} (j : R → Option R') (L N : Nat) (k : Bool → Option R) (w0 : LLM → Int → Int → LLM → Option R) (x0 : Graph) :
    f32.b' L N (fun a0 => (k a0).bind j) (fun a0 a1 a2 a3 => (w0 a0 a1 a2 a3).bind j) x0 = (f32.b' L N k w0 x0).bind j := by
  unfold f32.b'
  repeat' (first | (with_reducible refine cond_nat ?_ ?_) | (with_reducible refine bind_nat fun _ => ?_) | exact f32.j0'_nat .. | rfl)
theorem f32.b_nat {R R' : Type} (j : R → Option R') (L N : Nat) (k : Bool → Option R) (x0 : Graph) :
    f32.b L N (fun a0 => (k a0).bind j) x0 = (f32.b L N k x0).bind j := by
  unfold f32.b
  simp only [f32.l0_nat, f32.p0_e0_nat, f32.p0_r_nat]
  exact f32.b'_nat ..
theorem f32.ok (L N : Nat) (hΦ : TellsOk Try.prog ((Φ73 L N))) : EntOk Try.prog 32 (f32.ent L N) := by
  intro args vw site h
  unfold f32.ent
  split
  · rename_i d ha
    intro y hy hs
    refine call_ro (dep := 1000) (E := (E32 L N)) (rs := (.one .bool)) (v := (.tv .bool y)) (sound_of hΦ) okP (callI_sound (sound_of hΦ) okP 1 2000) (f := Try.f32) rfl hs ha ?_ rfl site
    refine (f32.b_eq L N some d.1).trans ?_
    refine ((f32.b_nat (fun y => (some (.tv .bool y) : Option AV)) L N some d.1)).trans ?_
    rw [show f32.b L N some d.1 = some y from hy]
    rfl
  · intro y hy
    cases hy
def Φ32 (L N : Nat) : Tells := (addT (Φ73 L N) 32 (f32.ent L N))
theorem Φ32_ok (L N : Nat) : TellsOk Try.prog (Φ32 L N) := addT_ok (Φ73_ok L N) (f32.ok L N (Φ73_ok L N))
def f107_1.b' {R : Type} (L N : Nat) (k : Bool → Option R) (x0 : Move) (x1 : LB) : Option R :=
  bif (x0.act == (0 : Int)) then
    bif (decide (0 ≤ x0.to) && decide (x0.to < (x1.length : Int))) then
      k (listAt x1 false x0.to.toNat)
    else none
  else k false
def f107_1.b {R : Type} (L N : Nat) (k : Bool → Option R) (x0 : Move) (x1 : LB) : Option R :=
  f107_1.b' L N k x0 x1
def f107_1 (L N : Nat) (x0 : Move) (x1 : LB) : Option (Bool) := f107_1.b L N some x0 x1
def f107_1.ent (L N : Nat) (args : List AV) (vw : View) (site : Nat) : Option Ans := match shD [(.dat (.st 0)), (.imp (.sl .bool) 0)] vw args with
  | some d => some ⟨Bool, f107_1 L N d.1 d.2.1, fun y => ((.tv .bool y), [], [])⟩
  | none => none
noncomputable def E107_1 (L N : Nat) : Env := { P := Try.prog, ty := tyOf, Φ := (Φ32 L N), inl := inlT, live := lives, liveX := livesX, L := L, dp := none, prom := promT, heal := healT, ren := renT }
theorem f107_1.b_pre {R : Type} (L N : Nat) (κ : AV → Option R) (x0 : Move) (x1 : LB) :
    evBody (E107_1 L N) (evCallI (E107_1 L N) 1 2000) 1000 107 Try.f107 [(.tv (.st 0) x0), (.imp (.sl .bool) x1 0)] [] [] (finC (.one .bool) κ)
    = f107_1.b' L N (fun a0 => κ (.tv .bool a0)) x0 x1 := by kernel_rfl
theorem f107_1.b_eq {R : Type} (L N : Nat) (κ : AV → Option R) (x0 : Move) (x1 : LB) :
    evBody (E107_1 L N) (evCallI (E107_1 L N) 1 2000) 1000 107 Try.f107 [(.tv (.st 0) x0), (.imp (.sl .bool) x1 0)] [] [] (finC (.one .bool) κ)
    = f107_1.b L N (fun a0 => κ (.tv .bool a0)) x0 x1 := by
  rw [f107_1.b_pre]
  unfold f107_1.b
  rfl
theorem f107_1.b'_nat {R R' : Type} (j : R → Option R') (L N : Nat) (k : Bool → Option R) (x0 : Move) (x1 : LB) :
    f107_1.b' L N (fun a0 => (k a0).bind j) x0 x1 = (f107_1.b' L N k x0 x1).bind j := by
  unfold f107_1.b'
  repeat' (first | (with_reducible refine cond_nat ?_ ?_) | (with_reducible refine bind_nat fun _ => ?_) | rfl)
theorem f107_1.b_nat {R R' : Type} (j : R → Option R') (L N : Nat) (k : Bool → Option R) (x0 : Move) (x1 : LB) :
    f107_1.b L N (fun a0 => (k a0).bind j) x0 x1 = (f107_1.b L N k x0 x1).bind j := by
  unfold f107_1.b
  exact f107_1.b'_nat ..
theorem f107_1.ok (L N : Nat) (hΦ : TellsOk Try.prog ((Φ32 L N))) : EntOkO Try.prog 107 (f107_1.ent L N) := by
  intro args vw site h a ha
  unfold f107_1.ent at ha
  split at ha
  · rename_i d hd
    obtain rfl := Option.some.inj ha
    intro y hy hs
    refine call_rof (dep := 1000) (E := (E107_1 L N)) (rs := (.one .bool)) (v := (.tv .bool y)) (sound_of hΦ) okP (callI_sound (sound_of hΦ) okP 1 2000) (f := Try.f107) rfl hs hd ?_ rfl site
    refine (f107_1.b_eq L N some d.1 d.2.1).trans ?_
    refine (f107_1.b_nat (fun y => (some (.tv .bool y) : Option AV)) L N some d.1 d.2.1).trans ?_
    rw [show f107_1.b L N some d.1 d.2.1 = some y from hy]
    rfl
  · cases ha
def Φ107_1 (L N : Nat) : Tells := (addO (Φ32 L N) 107 (f107_1.ent L N))
theorem Φ107_1_ok (L N : Nat) : TellsOk Try.prog (Φ107_1 L N) := addO_ok (Φ32_ok L N) (f107_1.ok L N (Φ32_ok L N))
def f135_1.s0' {R : Type} (L N : Nat) (k0_e0 : Option R) (k0_r : Int → Option R) (rec0 : LM → LB → Int → Int → Option R) (s0 : LM) (s1 : LB) (s2 : Int) (s3 : Int) : Option R :=
  bif (decide (s3 < s2)) then
    bif (decide (0 ≤ s3) && decide (s3 < (s0.length : Int))) then
      (f107_1 L N (listAt s0 (Ty.dflt (.st 0)) s3.toNat) s1).bind fun y4 =>
      bif y4 then
        k0_r s3
      else rec0 s0 s1 s2 (wi (s3 + (1 : Int)))
    else none
  else k0_e0
def f135_1.s0 {R : Type} (L N : Nat) (k0_e0 : Option R) (k0_r : Int → Option R) (rec0 : LM → LB → Int → Int → Option R) (s0 : LM) (s1 : LB) (s2 : Int) (s3 : Int) : Option R :=
  f135_1.s0' L N k0_e0 k0_r rec0 s0 s1 s2 s3
def f135_1.l0 {R : Type} (L N : Nat) (k0_e0 : Option R) (k0_r : Int → Option R) : Nat → LM → LB → Int → Int → Option R
  | 0, _, _, _, _ => none
  | n + 1, s0, s1, s2, s3 => f135_1.s0 L N k0_e0 k0_r (f135_1.l0 L N k0_e0 k0_r n) s0 s1 s2 s3
def f135_1.T0 (s0 : LM) (s1 : LB) (s2 : Int) (s3 : Int) : T := mkT 19 [(0, (.tv (.sl (.st 0)) s0)), (1, (.fn 107 [(.imp (.sl .bool) s1 0)])), (7, (.tv i64 s2)), (8, (.tv i64 s3))]
def f135_1.H0 (s0 : LM) (s1 : LB) (s2 : Int) (s3 : Int) : H := []
def f135_1.T0_e0 : T := mkT 19 []
def f135_1.H0_e0 : H := []
def f135_1.T0_r (z5 : Int) : T := mkT 19 [(4, (.tv i64 z5))]
def f135_1.H0_r (z5 : Int) : H := []
def f135_1.p0_e0' {R : Type} (L N : Nat) (k : Int → Option R) : Option R :=
  k (-1 : Int)
def f135_1.p0_e0 {R : Type} (L N : Nat) (k : Int → Option R) : Option R :=
  f135_1.p0_e0' L N k
def f135_1.p0_r' {R : Type} (L N : Nat) (k : Int → Option R) (z5 : Int) : Option R :=
  k z5
def f135_1.p0_r {R : Type} (L N : Nat) (k : Int → Option R) (z5 : Int) : Option R :=
  f135_1.p0_r' L N k z5
def f135_1.b' {R : Type} (L N : Nat) (k : Int → Option R) (w0 : LM → LB → Int → Int → Option R) (x0 : LM) (x1 : LB) : Option R :=
  w0 x0 x1 (x0.length : Int) (0 : Int)
def f135_1.b {R : Type} (L N : Nat) (k : Int → Option R) (x0 : LM) (x1 : LB) : Option R :=
  f135_1.b' L N k (fun s0 s1 s2 s3 => f135_1.l0 L N (f135_1.p0_e0 L N k) (fun z5 => f135_1.p0_r L N k z5) L s0 s1 s2 s3) x0 x1
def f135_1 (L N : Nat) (x0 : LM) (x1 : LB) : Option (Int) := f135_1.b L N some x0 x1
def f135_1.ent (L N : Nat) (args : List AV) (vw : View) (site : Nat) : Option Ans := match shD [(.dat (.sl (.st 0))), (.fn 107 [(.imp (.sl .bool) 0)])] vw args with
  | some d => some ⟨Int, f135_1 L N d.1 d.2.1.1, fun y => ((.tv i64 y), [], [])⟩
  | none => none
noncomputable def E135_1 (L N : Nat) : Env := { P := Try.prog, ty := tyOf, Φ := (Φ107_1 L N), inl := inlT, live := lives, liveX := livesX, L := L, dp := none, prom := promT, heal := healT, ren := renT }
noncomputable def f135_1.c0 : Code := loopAt 0 (codeOf Try.f135)
theorem f135_1.s0_pre {R : Type} (L N : Nat) (κ : Ex → T → H → Option R) (rec : T → H → Option R) (s0 : LM) (s1 : LB) (s2 : Int) (s3 : Int) :
    evRd (E135_1 L N) (evCallI (E135_1 L N) 1 2000) 1000 135 19 0 f135_1.c0 κ rec (f135_1.T0 s0 s1 s2 s3) (f135_1.H0 s0 s1 s2 s3)
    = f135_1.s0' L N (κ (.exit 0) f135_1.T0_e0 f135_1.H0_e0) (fun z5 => κ .ret (f135_1.T0_r z5) (f135_1.H0_r z5)) (fun s0 s1 s2 s3 => rec (f135_1.T0 s0 s1 s2 s3) (f135_1.H0 s0 s1 s2 s3)) s0 s1 s2 s3 := by kernel_rfl
theorem f135_1.s0_eq {R : Type} (L N : Nat) (κ : Ex → T → H → Option R) (rec : T → H → Option R) (s0 : LM) (s1 : LB) (s2 : Int) (s3 : Int) :
    evRd (E135_1 L N) (evCallI (E135_1 L N) 1 2000) 1000 135 19 0 f135_1.c0 κ rec (f135_1.T0 s0 s1 s2 s3) (f135_1.H0 s0 s1 s2 s3)
    = f135_1.s0 L N (κ (.exit 0) f135_1.T0_e0 f135_1.H0_e0) (fun z5 => κ .ret (f135_1.T0_r z5) (f135_1.H0_r z5)) (fun s0 s1 s2 s3 => rec (f135_1.T0 s0 s1 s2 s3) (f135_1.H0 s0 s1 s2 s3)) s0 s1 s2 s3 := by
  rw [f135_1.s0_pre]
  unfold f135_1.s0
  rfl
theorem f135_1.l0_eq {R : Type} (L N : Nat) (κ : Ex → T → H → Option R) : ∀ (n : Nat) (s0 : LM) (s1 : LB) (s2 : Int) (s3 : Int),
    evLp (E135_1 L N) (evCallI (E135_1 L N) 1 2000) 1000 135 19 0 f135_1.c0 κ n (f135_1.T0 s0 s1 s2 s3) (f135_1.H0 s0 s1 s2 s3)
    = f135_1.l0 L N (κ (.exit 0) f135_1.T0_e0 f135_1.H0_e0) (fun z5 => κ .ret (f135_1.T0_r z5) (f135_1.H0_r z5)) n s0 s1 s2 s3 := by
  intro n
  induction n with
  | zero => intros; rfl
  | succ n ih =>
    intro s0 s1 s2 s3
    rw [evLp_succ, f135_1.s0_eq]
    simp only [ih]
    rfl
theorem f135_1.p0_e0_pre {R : Type} (L N : Nat) (κ : AV → Option R) :
    (contAt (E135_1 L N) (evCallI (E135_1 L N) 1 2000) 1000 135 19 0 (codeOf Try.f135) (finK (E135_1 L N) 1000 Try.f135 (finC (.one i64) κ))) (.exit 0) f135_1.T0_e0 f135_1.H0_e0
    = f135_1.p0_e0' L N (fun a0 => κ (.tv i64 a0)) := by kernel_rfl
theorem f135_1.p0_e0_eq {R : Type} (L N : Nat) (κ : AV → Option R) :
    (contAt (E135_1 L N) (evCallI (E135_1 L N) 1 2000) 1000 135 19 0 (codeOf Try.f135) (finK (E135_1 L N) 1000 Try.f135 (finC (.one i64) κ))) (.exit 0) f135_1.T0_e0 f135_1.H0_e0
    = f135_1.p0_e0 L N (fun a0 => κ (.tv i64 a0)) := by
  rw [f135_1.p0_e0_pre]
  unfold f135_1.p0_e0
  rfl
theorem f135_1.p0_r_pre {R : Type} (L N : Nat) (κ : AV → Option R) (z5 : Int) :
    (contAt (E135_1 L N) (evCallI (E135_1 L N) 1 2000) 1000 135 19 0 (codeOf Try.f135) (finK (E135_1 L N) 1000 Try.f135 (finC (.one i64) κ))) .ret (f135_1.T0_r z5) (f135_1.H0_r z5)
    = f135_1.p0_r' L N (fun a0 => κ (.tv i64 a0)) z5 := by kernel_rfl
theorem f135_1.p0_r_eq {R : Type} (L N : Nat) (κ : AV → Option R) (z5 : Int) :
    (contAt (E135_1 L N) (evCallI (E135_1 L N) 1 2000) 1000 135 19 0 (codeOf Try.f135) (finK (E135_1 L N) 1000 Try.f135 (finC (.one i64) κ))) .ret (f135_1.T0_r z5) (f135_1.H0_r z5)
    = f135_1.p0_r L N (fun a0 => κ (.tv i64 a0)) z5 := by
  rw [f135_1.p0_r_pre]
  unfold f135_1.p0_r
  rfl
theorem f135_1.b_pre {R : Type} (L N : Nat) (κ : AV → Option R) (x0 : LM) (x1 : LB) :
    evBody (E135_1 L N) (evCallI (E135_1 L N) 1 2000) 1000 135 Try.f135 [(.tv (.sl (.st 0)) x0), (.fn 107 [(.imp (.sl .bool) x1 0)])] [] [] (finC (.one i64) κ)
    = f135_1.b' L N (fun a0 => κ (.tv i64 a0)) (fun s0 s1 s2 s3 => evLp (E135_1 L N) (evCallI (E135_1 L N) 1 2000) 1000 135 19 0 f135_1.c0 (contAt (E135_1 L N) (evCallI (E135_1 L N) 1 2000) 1000 135 19 0 (codeOf Try.f135) (finK (E135_1 L N) 1000 Try.f135 (finC (.one i64) κ))) L (f135_1.T0 s0 s1 s2 s3) (f135_1.H0 s0 s1 s2 s3)) x0 x1 := by kernel_rfl
theorem f135_1.b_eq {R : Type} (L N : Nat) (κ : AV → Option R) (x0 : LM) (x1 : LB) :
    evBody (E135_1 L N) (evCallI (E135_1 L N) 1 2000) 1000 135 Try.f135 [(.tv (.sl (.st 0)) x0), (.fn 107 [(.imp (.sl .bool) x1 0)])] [] [] (finC (.one i64) κ)
    = f135_1.b L N (fun a0 => κ (.tv i64 a0)) x0 x1 := by
  rw [f135_1.b_pre]
  unfold f135_1.b
  simp only [f135_1.l0_eq, f135_1.p0_e0_eq, f135_1.p0_r_eq]
theorem f135_1.s0'_nat {R R' : Type} (j : R → Option R') (L N : Nat) (k0_e0 : Option R) (k0_r : Int → Option R) (rec0 : LM → LB → Int → Int → Option R) (s0 : LM) (s1 : LB) (s2 : Int) (s3 : Int) :
    f135_1.s0' L N (k0_e0.bind j) (fun a0 => (k0_r a0).bind j) (fun a0 a1 a2 a3 => (rec0 a0 a1 a2 a3).bind j) s0 s1 s2 s3 = (f135_1.s0' L N k0_e0 k0_r rec0 s0 s1 s2 s3).bind j := by
  unfold f135_1.s0'
  repeat' (first | (with_reducible refine cond_nat ?_ ?_) | (with_reducible refine bind_nat fun _ => ?_) | rfl)
theorem f135_1.s0_nat {R R' : Type} (j : R → Option R') (L N : Nat) (k0_e0 : Option R) (k0_r : Int → Option R) (rec0 : LM → LB → Int → Int → Option R) (s0 : LM) (s1 : LB) (s2 : Int) (s3 : Int) :
    f135_1.s0 L N (k0_e0.bind j) (fun a0 => (k0_r a0).bind j) (fun a0 a1 a2 a3 => (rec0 a0 a1 a2 a3).bind j) s0 s1 s2 s3 = (f135_1.s0 L N k0_e0 k0_r rec0 s0 s1 s2 s3).bind j := by
  unfold f135_1.s0
  exact f135_1.s0'_nat ..
theorem f135_1.l0_nat {R R' : Type} (j : R → Option R') (L N : Nat) (k0_e0 : Option R) (k0_r : Int → Option R) : ∀ (n : Nat) (s0 : LM) (s1 : LB) (s2 : Int) (s3 : Int),
    f135_1.l0 L N (k0_e0.bind j) (fun a0 => (k0_r a0).bind j) n s0 s1 s2 s3 = (f135_1.l0 L N k0_e0 k0_r n s0 s1 s2 s3).bind j := by
  intro n
  induction n with
  | zero => intros; rfl
  | succ n ih =>
    intro s0 s1 s2 s3
    show f135_1.s0 L N (k0_e0.bind j) (fun a0 => (k0_r a0).bind j) (f135_1.l0 L N (k0_e0.bind j) (fun a0 => (k0_r a0).bind j) n) s0 s1 s2 s3 = _
    rw [show f135_1.l0 L N (k0_e0.bind j) (fun a0 => (k0_r a0).bind j) n = (fun s0 s1 s2 s3 => (f135_1.l0 L N k0_e0 k0_r n s0 s1 s2 s3).bind j) from funext fun s0 => funext fun s1 => funext fun s2 => funext fun s3 => ih s0 s1 s2 s3]
    exact f135_1.s0_nat ..
theorem f135_1.p0_e0'_nat {R R' : Type} (j : R → Option R') (L N : Nat) (k : Int → Option R) :
    f135_1.p0_e0' L N (fun a0 => (k a0).bind j) = (f135_1.p0_e0' L N k).bind j := by
  unfold f135_1.p0_e0'
  repeat' (first | (with_reducible refine cond_nat ?_ ?_) | (with_reducible refine bind_nat fun _ => ?_) | rfl)
theorem f135_1.p0_e0_nat {R R' : Type} (j : R → Option R') (L N : Nat) (k : Int → Option R) :
    f135_1.p0_e0 L N (fun a0 => (k a0).bind j) = (f135_1.p0_e0 L N k).bind j := by
  unfold f135_1.p0_e0
  exact f135_1.p0_e0'_nat ..
theorem f135_1.p0_r'_nat {R R' : Type} (j : R → Option R') (L N : Nat) (k : Int → Option R) (z5 : Int) :
    f135_1.p0_r' L N (fun a0 => (k a0).bind j) z5 = (f135_1.p0_r' L N k z5).bind j := by
  unfold f135_1.p0_r'
  repeat' (first | (with_reducible refine cond_nat ?_ ?_) | (with_reducible refine bind_nat fun _ => ?_) | rfl)
theorem f135_1.p0_r_nat {R R' : Type} (j : R → Option R') (L N : Nat) (k : Int → Option R) (z5 : Int) :
    f135_1.p0_r L N (fun a0 => (k a0).bind j) z5 = (f135_1.p0_r L N k z5).bind j := by
  unfold f135_1.p0_r
  exact f135_1.p0_r'_nat ..
theorem f135_1.b'_nat {R R' : Type} (j : R → Option R') (L N : Nat) (k : Int → Option R) (w0 : LM → LB → Int → Int → Option R) (x0 : LM) (x1 : LB) :
    f135_1.b' L N (fun a0 => (k a0).bind j) (fun a0 a1 a2 a3 => (w0 a0 a1 a2 a3).bind j) x0 x1 = (f135_1.b' L N k w0 x0 x1).bind j := by
  unfold f135_1.b'
  repeat' (first | (with_reducible refine cond_nat ?_ ?_) | (with_reducible refine bind_nat fun _ => ?_) | rfl)
theorem f135_1.b_nat {R R' : Type} (j : R → Option R') (L N : Nat) (k : Int → Option R) (x0 : LM) (x1 : LB) :
    f135_1.b L N (fun a0 => (k a0).bind j) x0 x1 = (f135_1.b L N k x0 x1).bind j := by
  unfold f135_1.b
  simp only [f135_1.l0_nat, f135_1.p0_e0_nat, f135_1.p0_r_nat]
  exact f135_1.b'_nat ..
theorem f135_1.ok (L N : Nat) (hΦ : TellsOk Try.prog ((Φ107_1 L N))) : EntOkO Try.prog 135 (f135_1.ent L N) := by
  intro args vw site h a ha
  unfold f135_1.ent at ha
  split at ha
  · rename_i d hd
    obtain rfl := Option.some.inj ha
    intro y hy hs
    refine call_rof (dep := 1000) (E := (E135_1 L N)) (rs := (.one i64)) (v := (.tv i64 y)) (sound_of hΦ) okP (callI_sound (sound_of hΦ) okP 1 2000) (f := Try.f135) rfl hs hd ?_ rfl site
    refine (f135_1.b_eq L N some d.1 d.2.1.1).trans ?_
    refine (f135_1.b_nat (fun y => (some (.tv i64 y) : Option AV)) L N some d.1 d.2.1.1).trans ?_
    rw [show f135_1.b L N some d.1 d.2.1.1 = some y from hy]
    rfl
  · cases ha
def Φ135_1 (L N : Nat) : Tells := (addO (Φ107_1 L N) 135 (f135_1.ent L N))
theorem Φ135_1_ok (L N : Nat) : TellsOk Try.prog (Φ135_1 L N) := addO_ok (Φ107_1_ok L N) (f135_1.ok L N (Φ107_1_ok L N))
def f106_1.b' {R : Type} (L N : Nat) (k : Bool → Option R) (x0 : LM) (x1 : LB) : Option R :=
  (f135_1 L N x0 x1).bind fun y0 =>
  k (decide (y0 ≥ (0 : Int)))
def f106_1.b {R : Type} (L N : Nat) (k : Bool → Option R) (x0 : LM) (x1 : LB) : Option R :=
  f106_1.b' L N k x0 x1
def f106_1 (L N : Nat) (x0 : LM) (x1 : LB) : Option (Bool) := f106_1.b L N some x0 x1
def f106_1.ent (L N : Nat) (args : List AV) (vw : View) (site : Nat) : Option Ans := match shD [(.dat (.sl (.st 0))), (.fn 107 [(.imp (.sl .bool) 0)])] vw args with
  | some d => some ⟨Bool, f106_1 L N d.1 d.2.1.1, fun y => ((.tv .bool y), [], [])⟩
  | none => none
noncomputable def E106_1 (L N : Nat) : Env := { P := Try.prog, ty := tyOf, Φ := (Φ135_1 L N), inl := inlT, live := lives, liveX := livesX, L := L, dp := none, prom := promT, heal := healT, ren := renT }
theorem f106_1.b_pre {R : Type} (L N : Nat) (κ : AV → Option R) (x0 : LM) (x1 : LB) :
    evBody (E106_1 L N) (evCallI (E106_1 L N) 1 2000) 1000 106 Try.f106 [(.tv (.sl (.st 0)) x0), (.fn 107 [(.imp (.sl .bool) x1 0)])] [] [] (finC (.one .bool) κ)
    = f106_1.b' L N (fun a0 => κ (.tv .bool a0)) x0 x1 := by kernel_rfl
theorem f106_1.b_eq {R : Type} (L N : Nat) (κ : AV → Option R) (x0 : LM) (x1 : LB) :
    evBody (E106_1 L N) (evCallI (E106_1 L N) 1 2000) 1000 106 Try.f106 [(.tv (.sl (.st 0)) x0), (.fn 107 [(.imp (.sl .bool) x1 0)])] [] [] (finC (.one .bool) κ)
    = f106_1.b L N (fun a0 => κ (.tv .bool a0)) x0 x1 := by
  rw [f106_1.b_pre]
  unfold f106_1.b
  rfl
theorem f106_1.b'_nat {R R' : Type} (j : R → Option R') (L N : Nat) (k : Bool → Option R) (x0 : LM) (x1 : LB) :
    f106_1.b' L N (fun a0 => (k a0).bind j) x0 x1 = (f106_1.b' L N k x0 x1).bind j := by
  unfold f106_1.b'
  repeat' (first | (with_reducible refine cond_nat ?_ ?_) | (with_reducible refine bind_nat fun _ => ?_) | rfl)
theorem f106_1.b_nat {R R' : Type} (j : R → Option R') (L N : Nat) (k : Bool → Option R) (x0 : LM) (x1 : LB) :
    f106_1.b L N (fun a0 => (k a0).bind j) x0 x1 = (f106_1.b L N k x0 x1).bind j := by
  unfold f106_1.b
  exact f106_1.b'_nat ..
theorem f106_1.ok (L N : Nat) (hΦ : TellsOk Try.prog ((Φ135_1 L N))) : EntOkO Try.prog 106 (f106_1.ent L N) := by
  intro args vw site h a ha
  unfold f106_1.ent at ha
  split at ha
  · rename_i d hd
    obtain rfl := Option.some.inj ha
    intro y hy hs
    refine call_rof (dep := 1000) (E := (E106_1 L N)) (rs := (.one .bool)) (v := (.tv .bool y)) (sound_of hΦ) okP (callI_sound (sound_of hΦ) okP 1 2000) (f := Try.f106) rfl hs hd ?_ rfl site
    refine (f106_1.b_eq L N some d.1 d.2.1.1).trans ?_
    refine (f106_1.b_nat (fun y => (some (.tv .bool y) : Option AV)) L N some d.1 d.2.1.1).trans ?_
    rw [show f106_1.b L N some d.1 d.2.1.1 = some y from hy]
    rfl
  · cases ha
def Φ106_1 (L N : Nat) : Tells := (addO (Φ135_1 L N) 106 (f106_1.ent L N))
theorem Φ106_1_ok (L N : Nat) : TellsOk Try.prog (Φ106_1 L N) := addO_ok (Φ135_1_ok L N) (f106_1.ok L N (Φ135_1_ok L N))
def f70.s0' {R : Type} (L N : Nat) (k0_e0 : LLM → LB → Option R) (rec0 : Int → Int → LLM → LB → Option R) (s0 : Int) (s1 : Int) (s2 : LLM) (s3 : LB) : Option R :=
  bif (decide (s1 < s0)) then
    bif (decide (0 ≤ s1) && decide (s1 < (s3.length : Int))) then
      rec0 s0 (wi (s1 + (1 : Int))) s2 (s3.set s1.toNat true)
    else none
  else k0_e0 s2 s3
def f70.s0 {R : Type} (L N : Nat) (k0_e0 : LLM → LB → Option R) (rec0 : Int → Int → LLM → LB → Option R) (s0 : Int) (s1 : Int) (s2 : LLM) (s3 : LB) : Option R :=
  f70.s0' L N k0_e0 rec0 s0 s1 s2 s3
def f70.l0 {R : Type} (L N : Nat) (k0_e0 : LLM → LB → Option R) : Nat → Int → Int → LLM → LB → Option R
  | 0, _, _, _, _ => none
  | n + 1, s0, s1, s2, s3 => f70.s0 L N k0_e0 (f70.l0 L N k0_e0 n) s0 s1 s2 s3
def f70.T0 (s0 : Int) (s1 : Int) (s2 : LLM) (s3 : LB) : T := mkT 45 [(1, (.ptr 1001 0)), (3, (.ptr 1003 0)), (12, (.tv i64 s0)), (13, (.tv i64 s1))]
def f70.H0 (s0 : Int) (s1 : Int) (s2 : LLM) (s3 : LB) : H := [(1001, (.box [(.tv (.sl (.sl (.st 0))) s2)])), (1003, (.box [(.row 1010)])), (1010, (.row 4 .bool s3))]
def f70.T0_e0 (z4 : LLM) (z5 : LB) : T := mkT 45 [(1, (.ptr 1001 0)), (3, (.ptr 1003 0))]
def f70.H0_e0 (z4 : LLM) (z5 : LB) : H := [(1001, (.box [(.tv (.sl (.sl (.st 0))) z4)])), (1003, (.box [(.row 1010)])), (1010, (.row 4 .bool z5))]
def f70.j0' {R : Type} (L N : Nat) (k2_e4 : Bool → LLM → LB → Option R) (rec2 : Bool → Int → Int → LLM → LB → Option R) (v19 : Bool) (v20 : Int) (v21 : Int) (v22 : Int) (v23 : Bool) (v24 : LLM) (v25 : LB) : Option R :=
  bif v23 then
    bif (decide (0 ≤ v20) && decide (v20 < (v25.length : Int))) then
      rec2 true v21 (wi (v22 + (1 : Int))) v24 (v25.set v20.toNat false)
    else none
  else rec2 v19 v21 (wi (v22 + (1 : Int))) v24 v25
def f70.s2' {R : Type} (L N : Nat) (k2_e4 : Bool → LLM → LB → Option R) (rec2 : Bool → Int → Int → LLM → LB → Option R) (s10 : Bool) (s11 : Int) (s12 : Int) (s13 : LLM) (s14 : LB) : Option R :=
  bif (decide (s12 < s11)) then
    bif (decide (0 ≤ s12) && decide (s12 < (s14.length : Int))) then
      bif (listAt s14 false s12.toNat) then
        bif (decide (0 ≤ s12) && decide (s12 < (s13.length : Int))) then
          (f106_1 L N (listAt s13 [] s12.toNat) s14).bind fun y18 =>
          f70.j0' L N k2_e4 rec2 s10 s12 s11 s12 (!y18) s13 s14
        else none
      else f70.j0' L N k2_e4 rec2 s10 s12 s11 s12 false s13 s14
    else none
  else k2_e4 s10 s13 s14
def f70.s2 {R : Type} (L N : Nat) (k2_e4 : Bool → LLM → LB → Option R) (rec2 : Bool → Int → Int → LLM → LB → Option R) (s10 : Bool) (s11 : Int) (s12 : Int) (s13 : LLM) (s14 : LB) : Option R :=
  f70.s2' L N k2_e4 rec2 s10 s11 s12 s13 s14
def f70.l2 {R : Type} (L N : Nat) (k2_e4 : Bool → LLM → LB → Option R) : Nat → Bool → Int → Int → LLM → LB → Option R
  | 0, _, _, _, _, _ => none
  | n + 1, s10, s11, s12, s13, s14 => f70.s2 L N k2_e4 (f70.l2 L N k2_e4 n) s10 s11 s12 s13 s14
def f70.T2 (s10 : Bool) (s11 : Int) (s12 : Int) (s13 : LLM) (s14 : LB) : T := mkT 45 [(1, (.ptr 1001 0)), (3, (.ptr 1003 0)), (5, (.tv .bool s10)), (22, (.tv i64 s11)), (23, (.tv i64 s12))]
def f70.H2 (s10 : Bool) (s11 : Int) (s12 : Int) (s13 : LLM) (s14 : LB) : H := [(1001, (.box [(.tv (.sl (.sl (.st 0))) s13)])), (1003, (.box [(.row 1010)])), (1010, (.row 4 .bool s14))]
def f70.T2_e4 (z15 : Bool) (z16 : LLM) (z17 : LB) : T := mkT 45 [(1, (.ptr 1001 0)), (3, (.ptr 1003 0)), (5, (.tv .bool z15))]
def f70.H2_e4 (z15 : Bool) (z16 : LLM) (z17 : LB) : H := [(1001, (.box [(.tv (.sl (.sl (.st 0))) z16)])), (1003, (.box [(.row 1010)])), (1010, (.row 4 .bool z17))]
def f70.p2_e4' {R : Type} (L N : Nat) (k1_e2 : LB → Option R) (rec1 : Bool → LLM → LB → Option R) (z15 : Bool) (z16 : LLM) (z17 : LB) : Option R :=
  rec1 z15 z16 z17
def f70.p2_e4 {R : Type} (L N : Nat) (k1_e2 : LB → Option R) (rec1 : Bool → LLM → LB → Option R) (z15 : Bool) (z16 : LLM) (z17 : LB) : Option R :=
  f70.p2_e4' L N k1_e2 rec1 z15 z16 z17
def f70.s1' {R : Type} (L N : Nat) (k1_e2 : LB → Option R) (rec1 : Bool → LLM → LB → Option R) (w2 : Bool → Int → Int → LLM → LB → Option R) (s6 : Bool) (s7 : LLM) (s8 : LB) : Option R :=
  bif s6 then
    w2 false (s8.length : Int) (0 : Int) s7 s8
  else k1_e2 s8
def f70.s1 {R : Type} (L N : Nat) (k1_e2 : LB → Option R) (rec1 : Bool → LLM → LB → Option R) (s6 : Bool) (s7 : LLM) (s8 : LB) : Option R :=
  f70.s1' L N k1_e2 rec1 (fun s10 s11 s12 s13 s14 => f70.l2 L N (fun z15 z16 z17 => f70.p2_e4 L N k1_e2 rec1 z15 z16 z17) L s10 s11 s12 s13 s14) s6 s7 s8
def f70.l1 {R : Type} (L N : Nat) (k1_e2 : LB → Option R) : Nat → Bool → LLM → LB → Option R
  | 0, _, _, _ => none
  | n + 1, s6, s7, s8 => f70.s1 L N k1_e2 (f70.l1 L N k1_e2 n) s6 s7 s8
def f70.T1 (s6 : Bool) (s7 : LLM) (s8 : LB) : T := mkT 45 [(1, (.ptr 1001 0)), (3, (.ptr 1003 0)), (5, (.tv .bool s6))]
def f70.H1 (s6 : Bool) (s7 : LLM) (s8 : LB) : H := [(1001, (.box [(.tv (.sl (.sl (.st 0))) s7)])), (1003, (.box [(.row 1010)])), (1010, (.row 4 .bool s8))]
def f70.T1_e2 (z9 : LB) : T := mkT 45 [(3, (.ptr 1003 0))]
def f70.H1_e2 (z9 : LB) : H := [(1003, (.box [(.row 1010)])), (1010, (.row 4 .bool z9))]
def f70.p1_e2' {R : Type} (L N : Nat) (k : LB → Option R) (z9 : LB) : Option R :=
  k z9
def f70.p1_e2 {R : Type} (L N : Nat) (k : LB → Option R) (z9 : LB) : Option R :=
  f70.p1_e2' L N k z9
def f70.p0_e0' {R : Type} (L N : Nat) (k : LB → Option R) (w1 : Bool → LLM → LB → Option R) (z4 : LLM) (z5 : LB) : Option R :=
  w1 true z4 z5
def f70.p0_e0 {R : Type} (L N : Nat) (k : LB → Option R) (z4 : LLM) (z5 : LB) : Option R :=
  f70.p0_e0' L N k (fun s6 s7 s8 => f70.l1 L N (fun z9 => f70.p1_e2 L N k z9) L s6 s7 s8) z4 z5
def f70.b' {R : Type} (L N : Nat) (k : LB → Option R) (w0 : Int → Int → LLM → LB → Option R) (x0 : Graph) : Option R :=
  bif (decide (0 ≤ (x0.moves.length : Int)) && decide ((x0.moves.length : Int) ≤ (lim : Int))) then
    w0 ((List.replicate (x0.moves.length : Int).toNat false).length : Int) (0 : Int) x0.moves (List.replicate (x0.moves.length : Int).toNat false)
  else none
def f70.b {R : Type} (L N : Nat) (k : LB → Option R) (x0 : Graph) : Option R :=
  f70.b' L N k (fun s0 s1 s2 s3 => f70.l0 L N (fun z4 z5 => f70.p0_e0 L N k z4 z5) L s0 s1 s2 s3) x0
def f70 (L N : Nat) (x0 : Graph) : Option (LB) := f70.b L N some x0
def f70.ent (L N : Nat) (args : List AV) (vw : View) (site : Nat) : Ans := match coeD [(.st 2)] vw args with
  | some (d, u) => ⟨LB, f70 L N d.1, fun y => ((.tv (.sl .bool) y), u, [])⟩
  | none => Ans.no
noncomputable def E70 (L N : Nat) : Env := { P := Try.prog, ty := tyOf, Φ := (Φ106_1 L N), inl := inlT, live := lives, liveX := livesX, L := L, dp := none, prom := promT, heal := healT, ren := renT }
noncomputable def f70.c0 : Code := loopAt 0 (codeOf Try.f70)
theorem f70.s0_pre {R : Type} (L N : Nat) (κ : Ex → T → H → Option R) (rec : T → H → Option R) (s0 : Int) (s1 : Int) (s2 : LLM) (s3 : LB) :
    evRd (E70 L N) (evCallI (E70 L N) 1 2000) 1000 70 45 0 f70.c0 κ rec (f70.T0 s0 s1 s2 s3) (f70.H0 s0 s1 s2 s3)
    = f70.s0' L N (fun z4 z5 => κ (.exit 0) (f70.T0_e0 z4 z5) (f70.H0_e0 z4 z5)) (fun s0 s1 s2 s3 => rec (f70.T0 s0 s1 s2 s3) (f70.H0 s0 s1 s2 s3)) s0 s1 s2 s3 := by kernel_rfl
theorem f70.s0_eq {R : Type} (L N : Nat) (κ : Ex → T → H → Option R) (rec : T → H → Option R) (s0 : Int) (s1 : Int) (s2 : LLM) (s3 : LB) :
    evRd (E70 L N) (evCallI (E70 L N) 1 2000) 1000 70 45 0 f70.c0 κ rec (f70.T0 s0 s1 s2 s3) (f70.H0 s0 s1 s2 s3)
    = f70.s0 L N (fun z4 z5 => κ (.exit 0) (f70.T0_e0 z4 z5) (f70.H0_e0 z4 z5)) (fun s0 s1 s2 s3 => rec (f70.T0 s0 s1 s2 s3) (f70.H0 s0 s1 s2 s3)) s0 s1 s2 s3 := by
  rw [f70.s0_pre]
  unfold f70.s0
  rfl
theorem f70.l0_eq {R : Type} (L N : Nat) (κ : Ex → T → H → Option R) : ∀ (n : Nat) (s0 : Int) (s1 : Int) (s2 : LLM) (s3 : LB),
    evLp (E70 L N) (evCallI (E70 L N) 1 2000) 1000 70 45 0 f70.c0 κ n (f70.T0 s0 s1 s2 s3) (f70.H0 s0 s1 s2 s3)
    = f70.l0 L N (fun z4 z5 => κ (.exit 0) (f70.T0_e0 z4 z5) (f70.H0_e0 z4 z5)) n s0 s1 s2 s3 := by
  intro n
  induction n with
  | zero => intros; rfl
  | succ n ih =>
    intro s0 s1 s2 s3
    rw [evLp_succ, f70.s0_eq]
    simp only [ih]
    rfl
noncomputable def f70.c1 : Code := loopAt 2 (codeOf Try.f70)
noncomputable def f70.c2 : Code := loopAt 4 f70.c1
theorem f70.s2_pre {R : Type} (L N : Nat) (κ : Ex → T → H → Option R) (rec : T → H → Option R) (s10 : Bool) (s11 : Int) (s12 : Int) (s13 : LLM) (s14 : LB) :
    evRd (E70 L N) (evCallI (E70 L N) 1 2000) 1000 70 45 4 f70.c2 κ rec (f70.T2 s10 s11 s12 s13 s14) (f70.H2 s10 s11 s12 s13 s14)
    = f70.s2' L N (fun z15 z16 z17 => κ (.exit 4) (f70.T2_e4 z15 z16 z17) (f70.H2_e4 z15 z16 z17)) (fun s10 s11 s12 s13 s14 => rec (f70.T2 s10 s11 s12 s13 s14) (f70.H2 s10 s11 s12 s13 s14)) s10 s11 s12 s13 s14 := by kernel_rfl
theorem f70.s2_eq {R : Type} (L N : Nat) (κ : Ex → T → H → Option R) (rec : T → H → Option R) (s10 : Bool) (s11 : Int) (s12 : Int) (s13 : LLM) (s14 : LB) :
    evRd (E70 L N) (evCallI (E70 L N) 1 2000) 1000 70 45 4 f70.c2 κ rec (f70.T2 s10 s11 s12 s13 s14) (f70.H2 s10 s11 s12 s13 s14)
    = f70.s2 L N (fun z15 z16 z17 => κ (.exit 4) (f70.T2_e4 z15 z16 z17) (f70.H2_e4 z15 z16 z17)) (fun s10 s11 s12 s13 s14 => rec (f70.T2 s10 s11 s12 s13 s14) (f70.H2 s10 s11 s12 s13 s14)) s10 s11 s12 s13 s14 := by
  rw [f70.s2_pre]
  unfold f70.s2
  rfl
theorem f70.l2_eq {R : Type} (L N : Nat) (κ : Ex → T → H → Option R) : ∀ (n : Nat) (s10 : Bool) (s11 : Int) (s12 : Int) (s13 : LLM) (s14 : LB),
    evLp (E70 L N) (evCallI (E70 L N) 1 2000) 1000 70 45 4 f70.c2 κ n (f70.T2 s10 s11 s12 s13 s14) (f70.H2 s10 s11 s12 s13 s14)
    = f70.l2 L N (fun z15 z16 z17 => κ (.exit 4) (f70.T2_e4 z15 z16 z17) (f70.H2_e4 z15 z16 z17)) n s10 s11 s12 s13 s14 := by
  intro n
  induction n with
  | zero => intros; rfl
  | succ n ih =>
    intro s10 s11 s12 s13 s14
    rw [evLp_succ, f70.s2_eq]
    simp only [ih]
    rfl
theorem f70.p2_e4_pre {R : Type} (L N : Nat) (κ : Ex → T → H → Option R) (rec : T → H → Option R) (z15 : Bool) (z16 : LLM) (z17 : LB) :
    (contAt (E70 L N) (evCallI (E70 L N) 1 2000) 1000 70 45 4 f70.c1 (stepK (outK (keepT 45 ((E70 L N).liveX 70 2).1) (keepH 1000 ((E70 L N).liveX 70 2).2) κ) fun t h => rec (backK 1000 45 ((E70 L N).live 70 2).1 ((E70 L N).live 70 2).2 ((E70 L N).heal 70 2) ((E70 L N).ren 70 2) t h).1 (backK 1000 45 ((E70 L N).live 70 2).1 ((E70 L N).live 70 2).2 ((E70 L N).heal 70 2) ((E70 L N).ren 70 2) t h).2)) (.exit 4) (f70.T2_e4 z15 z16 z17) (f70.H2_e4 z15 z16 z17)
    = f70.p2_e4' L N (fun z9 => κ (.exit 2) (f70.T1_e2 z9) (f70.H1_e2 z9)) (fun s6 s7 s8 => rec (f70.T1 s6 s7 s8) (f70.H1 s6 s7 s8)) z15 z16 z17 := by kernel_rfl
theorem f70.p2_e4_eq {R : Type} (L N : Nat) (κ : Ex → T → H → Option R) (rec : T → H → Option R) (z15 : Bool) (z16 : LLM) (z17 : LB) :
    (contAt (E70 L N) (evCallI (E70 L N) 1 2000) 1000 70 45 4 f70.c1 (stepK (outK (keepT 45 ((E70 L N).liveX 70 2).1) (keepH 1000 ((E70 L N).liveX 70 2).2) κ) fun t h => rec (backK 1000 45 ((E70 L N).live 70 2).1 ((E70 L N).live 70 2).2 ((E70 L N).heal 70 2) ((E70 L N).ren 70 2) t h).1 (backK 1000 45 ((E70 L N).live 70 2).1 ((E70 L N).live 70 2).2 ((E70 L N).heal 70 2) ((E70 L N).ren 70 2) t h).2)) (.exit 4) (f70.T2_e4 z15 z16 z17) (f70.H2_e4 z15 z16 z17)
    = f70.p2_e4 L N (fun z9 => κ (.exit 2) (f70.T1_e2 z9) (f70.H1_e2 z9)) (fun s6 s7 s8 => rec (f70.T1 s6 s7 s8) (f70.H1 s6 s7 s8)) z15 z16 z17 := by
  rw [f70.p2_e4_pre]
  unfold f70.p2_e4
  rfl
theorem f70.s1_pre {R : Type} (L N : Nat) (κ : Ex → T → H → Option R) (rec : T → H → Option R) (s6 : Bool) (s7 : LLM) (s8 : LB) :
    evRd (E70 L N) (evCallI (E70 L N) 1 2000) 1000 70 45 2 f70.c1 κ rec (f70.T1 s6 s7 s8) (f70.H1 s6 s7 s8)
    = f70.s1' L N (fun z9 => κ (.exit 2) (f70.T1_e2 z9) (f70.H1_e2 z9)) (fun s6 s7 s8 => rec (f70.T1 s6 s7 s8) (f70.H1 s6 s7 s8)) (fun s10 s11 s12 s13 s14 => evLp (E70 L N) (evCallI (E70 L N) 1 2000) 1000 70 45 4 f70.c2 (contAt (E70 L N) (evCallI (E70 L N) 1 2000) 1000 70 45 4 f70.c1 (stepK (outK (keepT 45 ((E70 L N).liveX 70 2).1) (keepH 1000 ((E70 L N).liveX 70 2).2) κ) fun t h => rec (backK 1000 45 ((E70 L N).live 70 2).1 ((E70 L N).live 70 2).2 ((E70 L N).heal 70 2) ((E70 L N).ren 70 2) t h).1 (backK 1000 45 ((E70 L N).live 70 2).1 ((E70 L N).live 70 2).2 ((E70 L N).heal 70 2) ((E70 L N).ren 70 2) t h).2)) L (f70.T2 s10 s11 s12 s13 s14) (f70.H2 s10 s11 s12 s13 s14)) s6 s7 s8 := by kernel_rfl
theorem f70.s1_eq {R : Type} (L N : Nat) (κ : Ex → T → H → Option R) (rec : T → H → Option R) (s6 : Bool) (s7 : LLM) (s8 : LB) :
    evRd (E70 L N) (evCallI (E70 L N) 1 2000) 1000 70 45 2 f70.c1 κ rec (f70.T1 s6 s7 s8) (f70.H1 s6 s7 s8)
    = f70.s1 L N (fun z9 => κ (.exit 2) (f70.T1_e2 z9) (f70.H1_e2 z9)) (fun s6 s7 s8 => rec (f70.T1 s6 s7 s8) (f70.H1 s6 s7 s8)) s6 s7 s8 := by
  rw [f70.s1_pre]
  unfold f70.s1
  simp only [f70.l2_eq, f70.p2_e4_eq]
theorem f70.l1_eq {R : Type} (L N : Nat) (κ : Ex → T → H → Option R) : ∀ (n : Nat) (s6 : Bool) (s7 : LLM) (s8 : LB),
    evLp (E70 L N) (evCallI (E70 L N) 1 2000) 1000 70 45 2 f70.c1 κ n (f70.T1 s6 s7 s8) (f70.H1 s6 s7 s8)
    = f70.l1 L N (fun z9 => κ (.exit 2) (f70.T1_e2 z9) (f70.H1_e2 z9)) n s6 s7 s8 := by
  intro n
  induction n with
  | zero => intros; rfl
  | succ n ih =>
    intro s6 s7 s8
    rw [evLp_succ, f70.s1_eq]
    simp only [ih]
    rfl
theorem f70.p1_e2_pre {R : Type} (L N : Nat) (κ : AV → Option R) (z9 : LB) :
    (contAt (E70 L N) (evCallI (E70 L N) 1 2000) 1000 70 45 2 (codeOf Try.f70) (finK (E70 L N) 1000 Try.f70 (finC (.one (.sl .bool)) κ))) (.exit 2) (f70.T1_e2 z9) (f70.H1_e2 z9)
    = f70.p1_e2' L N (fun a0 => κ (.tv (.sl .bool) a0)) z9 := by kernel_rfl
theorem f70.p1_e2_eq {R : Type} (L N : Nat) (κ : AV → Option R) (z9 : LB) :
    (contAt (E70 L N) (evCallI (E70 L N) 1 2000) 1000 70 45 2 (codeOf Try.f70) (finK (E70 L N) 1000 Try.f70 (finC (.one (.sl .bool)) κ))) (.exit 2) (f70.T1_e2 z9) (f70.H1_e2 z9)
    = f70.p1_e2 L N (fun a0 => κ (.tv (.sl .bool) a0)) z9 := by
  rw [f70.p1_e2_pre]
  unfold f70.p1_e2
  rfl
theorem f70.p0_e0_pre {R : Type} (L N : Nat) (κ : AV → Option R) (z4 : LLM) (z5 : LB) :
    (contAt (E70 L N) (evCallI (E70 L N) 1 2000) 1000 70 45 0 (codeOf Try.f70) (finK (E70 L N) 1000 Try.f70 (finC (.one (.sl .bool)) κ))) (.exit 0) (f70.T0_e0 z4 z5) (f70.H0_e0 z4 z5)
    = f70.p0_e0' L N (fun a0 => κ (.tv (.sl .bool) a0)) (fun s6 s7 s8 => evLp (E70 L N) (evCallI (E70 L N) 1 2000) 1000 70 45 2 f70.c1 (contAt (E70 L N) (evCallI (E70 L N) 1 2000) 1000 70 45 2 (codeOf Try.f70) (finK (E70 L N) 1000 Try.f70 (finC (.one (.sl .bool)) κ))) L (f70.T1 s6 s7 s8) (f70.H1 s6 s7 s8)) z4 z5 := by kernel_rfl
theorem f70.p0_e0_eq {R : Type} (L N : Nat) (κ : AV → Option R) (z4 : LLM) (z5 : LB) :
    (contAt (E70 L N) (evCallI (E70 L N) 1 2000) 1000 70 45 0 (codeOf Try.f70) (finK (E70 L N) 1000 Try.f70 (finC (.one (.sl .bool)) κ))) (.exit 0) (f70.T0_e0 z4 z5) (f70.H0_e0 z4 z5)
    = f70.p0_e0 L N (fun a0 => κ (.tv (.sl .bool) a0)) z4 z5 := by
  rw [f70.p0_e0_pre]
  unfold f70.p0_e0
  simp only [f70.l1_eq, f70.p1_e2_eq]
theorem f70.b_pre {R : Type} (L N : Nat) (κ : AV → Option R) (x0 : Graph) :
    evBody (E70 L N) (evCallI (E70 L N) 1 2000) 1000 70 Try.f70 [(.tv (.st 2) x0)] [] [] (finC (.one (.sl .bool)) κ)
    = f70.b' L N (fun a0 => κ (.tv (.sl .bool) a0)) (fun s0 s1 s2 s3 => evLp (E70 L N) (evCallI (E70 L N) 1 2000) 1000 70 45 0 f70.c0 (contAt (E70 L N) (evCallI (E70 L N) 1 2000) 1000 70 45 0 (codeOf Try.f70) (finK (E70 L N) 1000 Try.f70 (finC (.one (.sl .bool)) κ))) L (f70.T0 s0 s1 s2 s3) (f70.H0 s0 s1 s2 s3)) x0 := by kernel_rfl
theorem f70.b_eq {R : Type} (L N : Nat) (κ : AV → Option R) (x0 : Graph) :
    evBody (E70 L N) (evCallI (E70 L N) 1 2000) 1000 70 Try.f70 [(.tv (.st 2) x0)] [] [] (finC (.one (.sl .bool)) κ)
    = f70.b L N (fun a0 => κ (.tv (.sl .bool) a0)) x0 := by
  rw [f70.b_pre]
  unfold f70.b
  simp only [f70.l0_eq, f70.p0_e0_eq]
theorem f70.s0'_nat {R R' : Type} (j : R → Option R') (L N : Nat) (k0_e0 : LLM → LB → Option R) (rec0 : Int → Int → LLM → LB → Option R) (s0 : Int) (s1 : Int) (s2 : LLM) (s3 : LB) :
    f70.s0' L N (fun a0 a1 => (k0_e0 a0 a1).bind j) (fun a0 a1 a2 a3 => (rec0 a0 a1 a2 a3).bind j) s0 s1 s2 s3 = (f70.s0' L N k0_e0 rec0 s0 s1 s2 s3).bind j := by
  unfold f70.s0'
  repeat' (first | (with_reducible refine cond_nat ?_ ?_) | (with_reducible refine bind_nat fun _ => ?_) | rfl)
theorem f70.s0_nat {R R' : Type} (j : R → Option R') (L N : Nat) (k0_e0 : LLM → LB → Option R) (rec0 : Int → Int → LLM → LB → Option R) (s0 : Int) (s1 : Int) (s2 : LLM) (s3 : LB) :
    f70.s0 L N (fun a0 a1 => (k0_e0 a0 a1).bind j) (fun a0 a1 a2 a3 => (rec0 a0 a1 a2 a3).bind j) s0 s1 s2 s3 = (f70.s0 L N k0_e0 rec0 s0 s1 s2 s3).bind j := by
  unfold f70.s0
  exact f70.s0'_nat ..
theorem f70.l0_nat {R R' : Type} (j : R → Option R') (L N : Nat) (k0_e0 : LLM → LB → Option R) : ∀ (n : Nat) (s0 : Int) (s1 : Int) (s2 : LLM) (s3 : LB),
    f70.l0 L N (fun a0 a1 => (k0_e0 a0 a1).bind j) n s0 s1 s2 s3 = (f70.l0 L N k0_e0 n s0 s1 s2 s3).bind j := by
  intro n
  induction n with
  | zero => intros; rfl
  | succ n ih =>
    intro s0 s1 s2 s3
    show f70.s0 L N (fun a0 a1 => (k0_e0 a0 a1).bind j) (f70.l0 L N (fun a0 a1 => (k0_e0 a0 a1).bind j) n) s0 s1 s2 s3 = _
    rw [show f70.l0 L N (fun a0 a1 => (k0_e0 a0 a1).bind j) n = (fun s0 s1 s2 s3 => (f70.l0 L N k0_e0 n s0 s1 s2 s3).bind j) from funext fun s0 => funext fun s1 => funext fun s2 => funext fun s3 => ih s0 s1 s2 s3]
    exact f70.s0_nat ..
theorem f70.j0'_nat {R R' : Type} (j : R → Option R') (L N : Nat) (k2_e4 : Bool → LLM → LB → Option R) (rec2 : Bool → Int → Int → LLM → LB → Option R) (v19 : Bool) (v20 : Int) (v21 : Int) (v22 : Int) (v23 : Bool) (v24 : LLM) (v25 : LB) :
    f70.j0' L N (fun a0 a1 a2 => (k2_e4 a0 a1 a2).bind j) (fun a0 a1 a2 a3 a4 => (rec2 a0 a1 a2 a3 a4).bind j) v19 v20 v21 v22 v23 v24 v25 = (f70.j0' L N k2_e4 rec2 v19 v20 v21 v22 v23 v24 v25).bind j := by
  unfold f70.j0'
  repeat' (first | (with_reducible refine cond_nat ?_ ?_) | (with_reducible refine bind_nat fun _ => ?_) | rfl)
theorem f70.s2'_nat {R R' : Type} (j : R → Option R') (L N : Nat) (k2_e4 : Bool → LLM → LB → Option R) (rec2 : Bool → Int → Int → LLM → LB → Option R) (s10 : Bool) (s11 : Int) (s12 : Int) (s13 : LLM) (s14 : LB) :
    f70.s2' L N (fun a0 a1 a2 => (k2_e4 a0 a1 a2).bind j) (fun a0 a1 a2 a3 a4 => (rec2 a0 a1 a2 a3 a4).bind j) s10 s11 s12 s13 s14 = (f70.s2' L N k2_e4 rec2 s10 s11 s12 s13 s14).bind j := by
  unfold f70.s2'
  repeat' (first | (with_reducible refine cond_nat ?_ ?_) | (with_reducible refine bind_nat fun _ => ?_) | exact f70.j0'_nat .. | rfl)
theorem f70.s2_nat {R R' : Type} (j : R → Option R') (L N : Nat) (k2_e4 : Bool → LLM → LB → Option R) (rec2 : Bool → Int → Int → LLM → LB → Option R) (s10 : Bool) (s11 : Int) (s12 : Int) (s13 : LLM) (s14 : LB) :
    f70.s2 L N (fun a0 a1 a2 => (k2_e4 a0 a1 a2).bind j) (fun a0 a1 a2 a3 a4 => (rec2 a0 a1 a2 a3 a4).bind j) s10 s11 s12 s13 s14 = (f70.s2 L N k2_e4 rec2 s10 s11 s12 s13 s14).bind j := by
  unfold f70.s2
  exact f70.s2'_nat ..
theorem f70.l2_nat {R R' : Type} (j : R → Option R') (L N : Nat) (k2_e4 : Bool → LLM → LB → Option R) : ∀ (n : Nat) (s10 : Bool) (s11 : Int) (s12 : Int) (s13 : LLM) (s14 : LB),
    f70.l2 L N (fun a0 a1 a2 => (k2_e4 a0 a1 a2).bind j) n s10 s11 s12 s13 s14 = (f70.l2 L N k2_e4 n s10 s11 s12 s13 s14).bind j := by
  intro n
  induction n with
  | zero => intros; rfl
  | succ n ih =>
    intro s10 s11 s12 s13 s14
    show f70.s2 L N (fun a0 a1 a2 => (k2_e4 a0 a1 a2).bind j) (f70.l2 L N (fun a0 a1 a2 => (k2_e4 a0 a1 a2).bind j) n) s10 s11 s12 s13 s14 = _
    rw [show f70.l2 L N (fun a0 a1 a2 => (k2_e4 a0 a1 a2).bind j) n = (fun s10 s11 s12 s13 s14 => (f70.l2 L N k2_e4 n s10 s11 s12 s13 s14).bind j) from funext fun s10 => funext fun s11 => funext fun s12 => funext fun s13 => funext fun s14 => ih s10 s11 s12 s13 s14]
    exact f70.s2_nat ..
theorem f70.p2_e4'_nat {R R' : Type} (j : R → Option R') (L N : Nat) (k1_e2 : LB → Option R) (rec1 : Bool → LLM → LB → Option R) (z15 : Bool) (z16 : LLM) (z17 : LB) :
    f70.p2_e4' L N (fun a0 => (k1_e2 a0).bind j) (fun a0 a1 a2 => (rec1 a0 a1 a2).bind j) z15 z16 z17 = (f70.p2_e4' L N k1_e2 rec1 z15 z16 z17).bind j := by
  unfold f70.p2_e4'
  repeat' (first | (with_reducible refine cond_nat ?_ ?_) | (with_reducible refine bind_nat fun _ => ?_) | rfl)
theorem f70.p2_e4_nat {R R' : Type} (j : R → Option R') (L N : Nat) (k1_e2 : LB → Option R) (rec1 : Bool → LLM → LB → Option R) (z15 : Bool) (z16 : LLM) (z17 : LB) :
    f70.p2_e4 L N (fun a0 => (k1_e2 a0).bind j) (fun a0 a1 a2 => (rec1 a0 a1 a2).bind j) z15 z16 z17 = (f70.p2_e4 L N k1_e2 rec1 z15 z16 z17).bind j := by
  unfold f70.p2_e4
  exact f70.p2_e4'_nat ..
theorem f70.s1'_nat {R R' : Type} (j : R → Option R') (L N : Nat) (k1_e2 : LB → Option R) (rec1 : Bool → LLM → LB → Option R) (w2 : Bool → Int → Int → LLM → LB → Option R) (s6 : Bool) (s7 : LLM) (s8 : LB) :
    f70.s1' L N (fun a0 => (k1_e2 a0).bind j) (fun a0 a1 a2 => (rec1 a0 a1 a2).bind j) (fun a0 a1 a2 a3 a4 => (w2 a0 a1 a2 a3 a4).bind j) s6 s7 s8 = (f70.s1' L N k1_e2 rec1 w2 s6 s7 s8).bind j := by
  unfold f70.s1'
  repeat' (first | (with_reducible refine cond_nat ?_ ?_) | (with_reducible refine bind_nat fun _ => ?_) | rfl)
theorem f70.s1_nat {R R' : Type} (j : R → Option R') (L N : Nat) (k1_e2 : LB → Option R) (rec1 : Bool → LLM → LB → Option R) (s6 : Bool) (s7 : LLM) (s8 : LB) :
    f70.s1 L N (fun a0 => (k1_e2 a0).bind j) (fun a0 a1 a2 => (rec1 a0 a1 a2).bind j) s6 s7 s8 = (f70.s1 L N k1_e2 rec1 s6 s7 s8).bind j := by
  unfold f70.s1
  simp only [f70.l2_nat, f70.p2_e4_nat]
  exact f70.s1'_nat ..
theorem f70.l1_nat {R R' : Type} (j : R → Option R') (L N : Nat) (k1_e2 : LB → Option R) : ∀ (n : Nat) (s6 : Bool) (s7 : LLM) (s8 : LB),
    f70.l1 L N (fun a0 => (k1_e2 a0).bind j) n s6 s7 s8 = (f70.l1 L N k1_e2 n s6 s7 s8).bind j := by
  intro n
  induction n with
  | zero => intros; rfl
  | succ n ih =>
    intro s6 s7 s8
    show f70.s1 L N (fun a0 => (k1_e2 a0).bind j) (f70.l1 L N (fun a0 => (k1_e2 a0).bind j) n) s6 s7 s8 = _
    rw [show f70.l1 L N (fun a0 => (k1_e2 a0).bind j) n = (fun s6 s7 s8 => (f70.l1 L N k1_e2 n s6 s7 s8).bind j) from funext fun s6 => funext fun s7 => funext fun s8 => ih s6 s7 s8]
    exact f70.s1_nat ..
theorem f70.p1_e2'_nat {R R' : Type} (j : R → Option R') (L N : Nat) (k : LB → Option R) (z9 : LB) :
    f70.p1_e2' L N (fun a0 => (k a0).bind j) z9 = (f70.p1_e2' L N k z9).bind j := by
  unfold f70.p1_e2'
  repeat' (first | (with_reducible refine cond_nat ?_ ?_) | (with_reducible refine bind_nat fun _ => ?_) | rfl)
theorem f70.p1_e2_nat {R R' : Type} (j : R → Option R') (L N : Nat) (k : LB → Option R) (z9 : LB) :
    f70.p1_e2 L N (fun a0 => (k a0).bind j) z9 = (f70.p1_e2 L N k z9).bind j := by
  unfold f70.p1_e2
  exact f70.p1_e2'_nat ..
theorem f70.p0_e0'_nat {R R' : Type} (j : R → Option R') (L N : Nat) (k : LB → Option R) (w1 : Bool → LLM → LB → Option R) (z4 : LLM) (z5 : LB) :
    f70.p0_e0' L N (fun a0 => (k a0).bind j) (fun a0 a1 a2 => (w1 a0 a1 a2).bind j) z4 z5 = (f70.p0_e0' L N k w1 z4 z5).bind j := by
  unfold f70.p0_e0'
  repeat' (first | (with_reducible refine cond_nat ?_ ?_) | (with_reducible refine bind_nat fun _ => ?_) | rfl)
theorem f70.p0_e0_nat {R R' : Type} (j : R → Option R') (L N : Nat) (k : LB → Option R) (z4 : LLM) (z5 : LB) :
    f70.p0_e0 L N (fun a0 => (k a0).bind j) z4 z5 = (f70.p0_e0 L N k z4 z5).bind j := by
  unfold f70.p0_e0
  simp only [f70.l1_nat, f70.p1_e2_nat]
  exact f70.p0_e0'_nat ..
theorem f70.b'_nat {R R' : Type} (j : R → Option R') (L N : Nat) (k : LB → Option R) (w0 : Int → Int → LLM → LB → Option R) (x0 : Graph) :
    f70.b' L N (fun a0 => (k a0).bind j) (fun a0 a1 a2 a3 => (w0 a0 a1 a2 a3).bind j) x0 = (f70.b' L N k w0 x0).bind j := by
  unfold f70.b'
  repeat' (first | (with_reducible refine cond_nat ?_ ?_) | (with_reducible refine bind_nat fun _ => ?_) | rfl)
theorem f70.b_nat {R R' : Type} (j : R → Option R') (L N : Nat) (k : LB → Option R) (x0 : Graph) :
    f70.b L N (fun a0 => (k a0).bind j) x0 = (f70.b L N k x0).bind j := by
  unfold f70.b
  simp only [f70.l0_nat, f70.p0_e0_nat]
  exact f70.b'_nat ..
theorem f70.ok (L N : Nat) (hΦ : TellsOk Try.prog ((Φ106_1 L N))) : EntOk Try.prog 70 (f70.ent L N) := by
  intro args vw site h
  unfold f70.ent
  split
  · rename_i d u ha
    intro y hy hs
    refine call_data (dep := 1000) (E := (E70 L N)) (rs := (.one (.sl .bool))) (v' := (.tv (.sl .bool) y)) (sound_of hΦ) okP (callI_sound (sound_of hΦ) okP 1 2000) (f := Try.f70) rfl hs ha ?_ site
    refine (f70.b_eq L N some d.1).trans ?_
    refine ((f70.b_nat (fun y => (some (.tv (.sl .bool) y) : Option AV)) L N some d.1)).trans ?_
    rw [show f70.b L N some d.1 = some y from hy]
    rfl
  · intro y hy
    cases hy
def Φ70 (L N : Nat) : Tells := (addT (Φ106_1 L N) 70 (f70.ent L N))
theorem Φ70_ok (L N : Nat) : TellsOk Try.prog (Φ70 L N) := addT_ok (Φ106_1_ok L N) (f70.ok L N (Φ106_1_ok L N))
def f29.s0' {R : Type} (L N : Nat) (k0_e0 : LI → Option R) (rec0 : LB → Int → Int → LI → Option R) (s2 : LB) (s3 : Int) (s4 : Int) (s5 : LI) : Option R :=
  bif (decide (s4 < s3)) then
    bif (decide (0 ≤ s4) && decide (s4 < (s2.length : Int))) then
      bif (listAt s2 false s4.toNat) then
        bif (decide (s5.length + ([s4] : LI).length ≤ lim)) then
          rec0 s2 s3 (wi (s4 + (1 : Int))) (s5 ++ ([s4] : LI))
        else none
      else rec0 s2 s3 (wi (s4 + (1 : Int))) s5
    else none
  else k0_e0 s5
def f29.s0 {R : Type} (L N : Nat) (k0_e0 : LI → Option R) (rec0 : LB → Int → Int → LI → Option R) (s2 : LB) (s3 : Int) (s4 : Int) (s5 : LI) : Option R :=
  f29.s0' L N k0_e0 rec0 s2 s3 s4 s5
def f29.l0 {R : Type} (L N : Nat) (k0_e0 : LI → Option R) : Nat → LB → Int → Int → LI → Option R
  | 0, _, _, _, _ => none
  | n + 1, s2, s3, s4, s5 => f29.s0 L N k0_e0 (f29.l0 L N k0_e0 n) s2 s3 s4 s5
def f29.T0 (s2 : LB) (s3 : Int) (s4 : Int) (s5 : LI) : T := mkT 26 [(3, (.row 1006)), (12, (.tv (.sl .bool) s2)), (13, (.tv i64 s3)), (14, (.tv i64 s4))]
def f29.H0 (s2 : LB) (s3 : Int) (s4 : Int) (s5 : LI) : H := [(1006, (.row 3 i64 s5))]
def f29.T0_e0 (z6 : LI) : T := mkT 26 [(3, (.row 1006))]
def f29.H0_e0 (z6 : LI) : H := [(1006, (.row 3 i64 z6))]
def f29.p0_e0' {R : Type} (L N : Nat) (k : LI → Option R) (z6 : LI) : Option R :=
  k z6
def f29.p0_e0 {R : Type} (L N : Nat) (k : LI → Option R) (z6 : LI) : Option R :=
  f29.p0_e0' L N k z6
def f29.b' {R : Type} (L N : Nat) (k : LI → Option R) (w0 : LB → Int → Int → LI → Option R) (x0 : Graph) : Option R :=
  (f32 L N (Graph.mk x0.moves)).bind fun y0 =>
  bif (!y0) then
    k ([] : LI)
  else (f70 L N (Graph.mk x0.moves)).bind fun y1 =>
  w0 y1 (y1.length : Int) (0 : Int) ([] : LI)
def f29.b {R : Type} (L N : Nat) (k : LI → Option R) (x0 : Graph) : Option R :=
  f29.b' L N k (fun s2 s3 s4 s5 => f29.l0 L N (fun z6 => f29.p0_e0 L N k z6) L s2 s3 s4 s5) x0
def f29 (L N : Nat) (x0 : Graph) : Option (LI) := f29.b L N some x0
def f29.ent (L N : Nat) (args : List AV) (vw : View) (site : Nat) : Ans := match coeD [(.st 2)] vw args with
  | some (d, u) => ⟨LI, f29 L N d.1, fun y => ((.tv (.sl i64) y), u, [])⟩
  | none => Ans.no
noncomputable def E29 (L N : Nat) : Env := { P := Try.prog, ty := tyOf, Φ := (Φ70 L N), inl := inlT, live := lives, liveX := livesX, L := L, dp := none, prom := promT, heal := healT, ren := renT }
noncomputable def f29.c0 : Code := loopAt 0 (codeOf Try.f29)
theorem f29.s0_pre {R : Type} (L N : Nat) (κ : Ex → T → H → Option R) (rec : T → H → Option R) (s2 : LB) (s3 : Int) (s4 : Int) (s5 : LI) :
    evRd (E29 L N) (evCallI (E29 L N) 1 2000) 1000 29 26 0 f29.c0 κ rec (f29.T0 s2 s3 s4 s5) (f29.H0 s2 s3 s4 s5)
    = f29.s0' L N (fun z6 => κ (.exit 0) (f29.T0_e0 z6) (f29.H0_e0 z6)) (fun s2 s3 s4 s5 => rec (f29.T0 s2 s3 s4 s5) (f29.H0 s2 s3 s4 s5)) s2 s3 s4 s5 := by kernel_rfl
theorem f29.s0_eq {R : Type} (L N : Nat) (κ : Ex → T → H → Option R) (rec : T → H → Option R) (s2 : LB) (s3 : Int) (s4 : Int) (s5 : LI) :
    evRd (E29 L N) (evCallI (E29 L N) 1 2000) 1000 29 26 0 f29.c0 κ rec (f29.T0 s2 s3 s4 s5) (f29.H0 s2 s3 s4 s5)
    = f29.s0 L N (fun z6 => κ (.exit 0) (f29.T0_e0 z6) (f29.H0_e0 z6)) (fun s2 s3 s4 s5 => rec (f29.T0 s2 s3 s4 s5) (f29.H0 s2 s3 s4 s5)) s2 s3 s4 s5 := by
  rw [f29.s0_pre]
  unfold f29.s0
  rfl
theorem f29.l0_eq {R : Type} (L N : Nat) (κ : Ex → T → H → Option R) : ∀ (n : Nat) (s2 : LB) (s3 : Int) (s4 : Int) (s5 : LI),
    evLp (E29 L N) (evCallI (E29 L N) 1 2000) 1000 29 26 0 f29.c0 κ n (f29.T0 s2 s3 s4 s5) (f29.H0 s2 s3 s4 s5)
    = f29.l0 L N (fun z6 => κ (.exit 0) (f29.T0_e0 z6) (f29.H0_e0 z6)) n s2 s3 s4 s5 := by
  intro n
  induction n with
  | zero => intros; rfl
  | succ n ih =>
    intro s2 s3 s4 s5
    rw [evLp_succ, f29.s0_eq]
    simp only [ih]
    rfl
theorem f29.p0_e0_pre {R : Type} (L N : Nat) (κ : AV → Option R) (z6 : LI) :
    (contAt (E29 L N) (evCallI (E29 L N) 1 2000) 1000 29 26 0 (codeOf Try.f29) (finK (E29 L N) 1000 Try.f29 (finC (.one (.sl i64)) κ))) (.exit 0) (f29.T0_e0 z6) (f29.H0_e0 z6)
    = f29.p0_e0' L N (fun a0 => κ (.tv (.sl i64) a0)) z6 := by kernel_rfl
theorem f29.p0_e0_eq {R : Type} (L N : Nat) (κ : AV → Option R) (z6 : LI) :
    (contAt (E29 L N) (evCallI (E29 L N) 1 2000) 1000 29 26 0 (codeOf Try.f29) (finK (E29 L N) 1000 Try.f29 (finC (.one (.sl i64)) κ))) (.exit 0) (f29.T0_e0 z6) (f29.H0_e0 z6)
    = f29.p0_e0 L N (fun a0 => κ (.tv (.sl i64) a0)) z6 := by
  rw [f29.p0_e0_pre]
  unfold f29.p0_e0
  rfl
theorem f29.b_pre {R : Type} (L N : Nat) (κ : AV → Option R) (x0 : Graph) :
    evBody (E29 L N) (evCallI (E29 L N) 1 2000) 1000 29 Try.f29 [(.tv (.st 2) x0)] [] [] (finC (.one (.sl i64)) κ)
    = f29.b' L N (fun a0 => κ (.tv (.sl i64) a0)) (fun s2 s3 s4 s5 => evLp (E29 L N) (evCallI (E29 L N) 1 2000) 1000 29 26 0 f29.c0 (contAt (E29 L N) (evCallI (E29 L N) 1 2000) 1000 29 26 0 (codeOf Try.f29) (finK (E29 L N) 1000 Try.f29 (finC (.one (.sl i64)) κ))) L (f29.T0 s2 s3 s4 s5) (f29.H0 s2 s3 s4 s5)) x0 := by kernel_rfl
theorem f29.b_eq {R : Type} (L N : Nat) (κ : AV → Option R) (x0 : Graph) :
    evBody (E29 L N) (evCallI (E29 L N) 1 2000) 1000 29 Try.f29 [(.tv (.st 2) x0)] [] [] (finC (.one (.sl i64)) κ)
    = f29.b L N (fun a0 => κ (.tv (.sl i64) a0)) x0 := by
  rw [f29.b_pre]
  unfold f29.b
  simp only [f29.l0_eq, f29.p0_e0_eq]
theorem f29.s0'_nat {R R' : Type} (j : R → Option R') (L N : Nat) (k0_e0 : LI → Option R) (rec0 : LB → Int → Int → LI → Option R) (s2 : LB) (s3 : Int) (s4 : Int) (s5 : LI) :
    f29.s0' L N (fun a0 => (k0_e0 a0).bind j) (fun a0 a1 a2 a3 => (rec0 a0 a1 a2 a3).bind j) s2 s3 s4 s5 = (f29.s0' L N k0_e0 rec0 s2 s3 s4 s5).bind j := by
  unfold f29.s0'
  repeat' (first | (with_reducible refine cond_nat ?_ ?_) | (with_reducible refine bind_nat fun _ => ?_) | rfl)
theorem f29.s0_nat {R R' : Type} (j : R → Option R') (L N : Nat) (k0_e0 : LI → Option R) (rec0 : LB → Int → Int → LI → Option R) (s2 : LB) (s3 : Int) (s4 : Int) (s5 : LI) :
    f29.s0 L N (fun a0 => (k0_e0 a0).bind j) (fun a0 a1 a2 a3 => (rec0 a0 a1 a2 a3).bind j) s2 s3 s4 s5 = (f29.s0 L N k0_e0 rec0 s2 s3 s4 s5).bind j := by
  unfold f29.s0
  exact f29.s0'_nat ..
theorem f29.l0_nat {R R' : Type} (j : R → Option R') (L N : Nat) (k0_e0 : LI → Option R) : ∀ (n : Nat) (s2 : LB) (s3 : Int) (s4 : Int) (s5 : LI),
    f29.l0 L N (fun a0 => (k0_e0 a0).bind j) n s2 s3 s4 s5 = (f29.l0 L N k0_e0 n s2 s3 s4 s5).bind j := by
  intro n
  induction n with
  | zero => intros; rfl
  | succ n ih =>
    intro s2 s3 s4 s5
    show f29.s0 L N (fun a0 => (k0_e0 a0).bind j) (f29.l0 L N (fun a0 => (k0_e0 a0).bind j) n) s2 s3 s4 s5 = _
    rw [show f29.l0 L N (fun a0 => (k0_e0 a0).bind j) n = (fun s2 s3 s4 s5 => (f29.l0 L N k0_e0 n s2 s3 s4 s5).bind j) from funext fun s2 => funext fun s3 => funext fun s4 => funext fun s5 => ih s2 s3 s4 s5]
    exact f29.s0_nat ..
theorem f29.p0_e0'_nat {R R' : Type} (j : R → Option R') (L N : Nat) (k : LI → Option R) (z6 : LI) :
    f29.p0_e0' L N (fun a0 => (k a0).bind j) z6 = (f29.p0_e0' L N k z6).bind j := by
  unfold f29.p0_e0'
  repeat' (first | (with_reducible refine cond_nat ?_ ?_) | (with_reducible refine bind_nat fun _ => ?_) | rfl)
theorem f29.p0_e0_nat {R R' : Type} (j : R → Option R') (L N : Nat) (k : LI → Option R) (z6 : LI) :
    f29.p0_e0 L N (fun a0 => (k a0).bind j) z6 = (f29.p0_e0 L N k z6).bind j := by
  unfold f29.p0_e0
  exact f29.p0_e0'_nat ..
theorem f29.b'_nat {R R' : Type} (j : R → Option R') (L N : Nat) (k : LI → Option R) (w0 : LB → Int → Int → LI → Option R) (x0 : Graph) :
    f29.b' L N (fun a0 => (k a0).bind j) (fun a0 a1 a2 a3 => (w0 a0 a1 a2 a3).bind j) x0 = (f29.b' L N k w0 x0).bind j := by
  unfold f29.b'
  repeat' (first | (with_reducible refine cond_nat ?_ ?_) | (with_reducible refine bind_nat fun _ => ?_) | rfl)
theorem f29.b_nat {R R' : Type} (j : R → Option R') (L N : Nat) (k : LI → Option R) (x0 : Graph) :
    f29.b L N (fun a0 => (k a0).bind j) x0 = (f29.b L N k x0).bind j := by
  unfold f29.b
  simp only [f29.l0_nat, f29.p0_e0_nat]
  exact f29.b'_nat ..
theorem f29.ok (L N : Nat) (hΦ : TellsOk Try.prog ((Φ70 L N))) : EntOk Try.prog 29 (f29.ent L N) := by
  intro args vw site h
  unfold f29.ent
  split
  · rename_i d u ha
    intro y hy hs
    refine call_data (dep := 1000) (E := (E29 L N)) (rs := (.one (.sl i64))) (v' := (.tv (.sl i64) y)) (sound_of hΦ) okP (callI_sound (sound_of hΦ) okP 1 2000) (f := Try.f29) rfl hs ha ?_ site
    refine (f29.b_eq L N some d.1).trans ?_
    refine ((f29.b_nat (fun y => (some (.tv (.sl i64) y) : Option AV)) L N some d.1)).trans ?_
    rw [show f29.b L N some d.1 = some y from hy]
    rfl
  · intro y hy
    cases hy
def Φ29 (L N : Nat) : Tells := (addT (Φ70 L N) 29 (f29.ent L N))
theorem Φ29_ok (L N : Nat) : TellsOk Try.prog (Φ29 L N) := addT_ok (Φ70_ok L N) (f29.ok L N (Φ70_ok L N))
def f58.s1' {R : Type} (L N : Nat) (k1_e2 : Int → LLM → Option R) (k1_r : Bool → Int → LLM → Option R) (rec1 : Int → Int → LLM → Option R) (s3 : Int) (s4 : Int) (s5 : LLM) : Option R :=
  bif (decide (0 ≤ s3) && decide (s3 < (s5.length : Int))) then
    bif (decide (s4 < ((listAt s5 [] s3.toNat).length : Int))) then
      bif (decide (0 ≤ s3) && decide (s3 < (s5.length : Int))) then
        bif (decide (0 ≤ s4) && decide (s4 < ((listAt s5 [] s3.toNat).length : Int))) then
          (f97 L N ((listAt (listAt s5 [] s3.toNat) (Ty.dflt (.st 0)) s4.toNat).act)).bind fun y8 =>
          bif (!y8) then
            k1_r false s3 s5
          else (f96 L N ((listAt (listAt s5 [] s3.toNat) (Ty.dflt (.st 0)) s4.toNat).to) (0 : Int) (wi ((s5.length : Int) - (1 : Int)))).bind fun y9 =>
          bif (!y9) then
            k1_r false s3 s5
          else bif (decide (s4 > (0 : Int))) then
            bif (decide (0 ≤ s3) && decide (s3 < (s5.length : Int))) then
              bif (decide (0 ≤ (wi (s4 - (1 : Int)))) && decide ((wi (s4 - (1 : Int))) < ((listAt s5 [] s3.toNat).length : Int))) then
                (f98 L N (listAt (listAt s5 [] s3.toNat) (Ty.dflt (.st 0)) (wi (s4 - (1 : Int))).toNat) (Move.mk ((listAt (listAt s5 [] s3.toNat) (Ty.dflt (.st 0)) s4.toNat).act) ((listAt (listAt s5 [] s3.toNat) (Ty.dflt (.st 0)) s4.toNat).to))).bind fun y10 =>
                bif (!y10) then
                  k1_r false s3 s5
                else rec1 s3 (wi (s4 + (1 : Int))) s5
              else none
            else none
          else rec1 s3 (wi (s4 + (1 : Int))) s5
        else none
      else none
    else k1_e2 s3 s5
  else none
def f58.s1 {R : Type} (L N : Nat) (k1_e2 : Int → LLM → Option R) (k1_r : Bool → Int → LLM → Option R) (rec1 : Int → Int → LLM → Option R) (s3 : Int) (s4 : Int) (s5 : LLM) : Option R :=
  f58.s1' L N k1_e2 k1_r rec1 s3 s4 s5
def f58.l1 {R : Type} (L N : Nat) (k1_e2 : Int → LLM → Option R) (k1_r : Bool → Int → LLM → Option R) : Nat → Int → Int → LLM → Option R
  | 0, _, _, _ => none
  | n + 1, s3, s4, s5 => f58.s1 L N k1_e2 k1_r (f58.l1 L N k1_e2 k1_r n) s3 s4 s5
def f58.T1 (s3 : Int) (s4 : Int) (s5 : LLM) : T := mkT 68 [(1, (.ptr 1001 0)), (3, (.tv i64 s3)), (4, (.tv i64 s4))]
def f58.H1 (s3 : Int) (s4 : Int) (s5 : LLM) : H := [(1001, (.box [(.tv (.sl (.sl (.st 0))) s5)]))]
def f58.T1_e2 (z6 : Int) (z7 : LLM) : T := mkT 68 [(1, (.ptr 1001 0)), (3, (.tv i64 z6))]
def f58.H1_e2 (z6 : Int) (z7 : LLM) : H := [(1001, (.box [(.tv (.sl (.sl (.st 0))) z7)]))]
def f58.T1_r (z15 : Bool) (z16 : Int) (z17 : LLM) : T := mkT 68 [(1, (.ptr 1001 0)), (2, (.tv .bool z15)), (3, (.tv i64 z16))]
def f58.H1_r (z15 : Bool) (z16 : Int) (z17 : LLM) : H := [(1001, (.box [(.tv (.sl (.sl (.st 0))) z17)]))]
def f58.p1_e2' {R : Type} (L N : Nat) (k0_e0 : Option R) (k0_r : Bool → Option R) (rec0 : Int → LLM → Option R) (z6 : Int) (z7 : LLM) : Option R :=
  rec0 (wi (z6 + (1 : Int))) z7
def f58.p1_e2 {R : Type} (L N : Nat) (k0_e0 : Option R) (k0_r : Bool → Option R) (rec0 : Int → LLM → Option R) (z6 : Int) (z7 : LLM) : Option R :=
  f58.p1_e2' L N k0_e0 k0_r rec0 z6 z7
def f58.p1_r' {R : Type} (L N : Nat) (k0_e0 : Option R) (k0_r : Bool → Option R) (rec0 : Int → LLM → Option R) (z15 : Bool) (z16 : Int) (z17 : LLM) : Option R :=
  k0_r z15
def f58.p1_r {R : Type} (L N : Nat) (k0_e0 : Option R) (k0_r : Bool → Option R) (rec0 : Int → LLM → Option R) (z15 : Bool) (z16 : Int) (z17 : LLM) : Option R :=
  f58.p1_r' L N k0_e0 k0_r rec0 z15 z16 z17
def f58.s0' {R : Type} (L N : Nat) (k0_e0 : Option R) (k0_r : Bool → Option R) (rec0 : Int → LLM → Option R) (w1 : Int → Int → LLM → Option R) (s1 : Int) (s2 : LLM) : Option R :=
  bif (decide (s1 < (s2.length : Int))) then
    w1 s1 (0 : Int) s2
  else k0_e0
def f58.s0 {R : Type} (L N : Nat) (k0_e0 : Option R) (k0_r : Bool → Option R) (rec0 : Int → LLM → Option R) (s1 : Int) (s2 : LLM) : Option R :=
  f58.s0' L N k0_e0 k0_r rec0 (fun s3 s4 s5 => f58.l1 L N (fun z6 z7 => f58.p1_e2 L N k0_e0 k0_r rec0 z6 z7) (fun z15 z16 z17 => f58.p1_r L N k0_e0 k0_r rec0 z15 z16 z17) L s3 s4 s5) s1 s2
def f58.l0 {R : Type} (L N : Nat) (k0_e0 : Option R) (k0_r : Bool → Option R) : Nat → Int → LLM → Option R
  | 0, _, _ => none
  | n + 1, s1, s2 => f58.s0 L N k0_e0 k0_r (f58.l0 L N k0_e0 k0_r n) s1 s2
def f58.T0 (s1 : Int) (s2 : LLM) : T := mkT 68 [(1, (.ptr 1001 0)), (3, (.tv i64 s1))]
def f58.H0 (s1 : Int) (s2 : LLM) : H := [(1001, (.box [(.tv (.sl (.sl (.st 0))) s2)]))]
def f58.T0_e0 : T := mkT 68 []
def f58.H0_e0 : H := []
def f58.T0_r (z21 : Bool) : T := mkT 68 [(2, (.tv .bool z21))]
def f58.H0_r (z21 : Bool) : H := []
def f58.p0_e0' {R : Type} (L N : Nat) (k : Bool → Option R) : Option R :=
  k true
def f58.p0_e0 {R : Type} (L N : Nat) (k : Bool → Option R) : Option R :=
  f58.p0_e0' L N k
def f58.p0_r' {R : Type} (L N : Nat) (k : Bool → Option R) (z21 : Bool) : Option R :=
  k z21
def f58.p0_r {R : Type} (L N : Nat) (k : Bool → Option R) (z21 : Bool) : Option R :=
  f58.p0_r' L N k z21
def f58.b' {R : Type} (L N : Nat) (k : Bool → Option R) (w0 : Int → LLM → Option R) (x0 : Graph) : Option R :=
  (f96 L N (x0.moves.length : Int) (1 : Int) (60 : Int)).bind fun y0 =>
  bif (!y0) then
    k false
  else w0 (0 : Int) x0.moves
def f58.b {R : Type} (L N : Nat) (k : Bool → Option R) (x0 : Graph) : Option R :=
  f58.b' L N k (fun s1 s2 => f58.l0 L N (f58.p0_e0 L N k) (fun z21 => f58.p0_r L N k z21) L s1 s2) x0
def f58 (L N : Nat) (x0 : Graph) : Option (Bool) := f58.b L N some x0
def f58.ent (L N : Nat) (args : List AV) (vw : View) (site : Nat) : Ans := match roD [(.st 2)] vw args with
  | some d => ⟨Bool, f58 L N d.1, fun y => ((.tv .bool y), [], [])⟩
  | none => Ans.no
noncomputable def E58 (L N : Nat) : Env := { P := Try.prog, ty := tyOf, Φ := (Φ29 L N), inl := inlT, live := lives, liveX := livesX, L := L, dp := none, prom := promT, heal := healT, ren := renT }
noncomputable def f58.c0 : Code := loopAt 0 (codeOf Try.f58)
noncomputable def f58.c1 : Code := loopAt 2 f58.c0
theorem f58.s1_pre {R : Type} (L N : Nat) (κ : Ex → T → H → Option R) (rec : T → H → Option R) (s3 : Int) (s4 : Int) (s5 : LLM) :
    evRd (E58 L N) (evCallI (E58 L N) 1 2000) 1000 58 68 2 f58.c1 κ rec (f58.T1 s3 s4 s5) (f58.H1 s3 s4 s5)
    = f58.s1' L N (fun z6 z7 => κ (.exit 2) (f58.T1_e2 z6 z7) (f58.H1_e2 z6 z7)) (fun z15 z16 z17 => κ .ret (f58.T1_r z15 z16 z17) (f58.H1_r z15 z16 z17)) (fun s3 s4 s5 => rec (f58.T1 s3 s4 s5) (f58.H1 s3 s4 s5)) s3 s4 s5 := by kernel_rfl
theorem f58.s1_eq {R : Type} (L N : Nat) (κ : Ex → T → H → Option R) (rec : T → H → Option R) (s3 : Int) (s4 : Int) (s5 : LLM) :
    evRd (E58 L N) (evCallI (E58 L N) 1 2000) 1000 58 68 2 f58.c1 κ rec (f58.T1 s3 s4 s5) (f58.H1 s3 s4 s5)
    = f58.s1 L N (fun z6 z7 => κ (.exit 2) (f58.T1_e2 z6 z7) (f58.H1_e2 z6 z7)) (fun z15 z16 z17 => κ .ret (f58.T1_r z15 z16 z17) (f58.H1_r z15 z16 z17)) (fun s3 s4 s5 => rec (f58.T1 s3 s4 s5) (f58.H1 s3 s4 s5)) s3 s4 s5 := by
  rw [f58.s1_pre]
  unfold f58.s1
  rfl
theorem f58.l1_eq {R : Type} (L N : Nat) (κ : Ex → T → H → Option R) : ∀ (n : Nat) (s3 : Int) (s4 : Int) (s5 : LLM),
    evLp (E58 L N) (evCallI (E58 L N) 1 2000) 1000 58 68 2 f58.c1 κ n (f58.T1 s3 s4 s5) (f58.H1 s3 s4 s5)
    = f58.l1 L N (fun z6 z7 => κ (.exit 2) (f58.T1_e2 z6 z7) (f58.H1_e2 z6 z7)) (fun z15 z16 z17 => κ .ret (f58.T1_r z15 z16 z17) (f58.H1_r z15 z16 z17)) n s3 s4 s5 := by
  intro n
  induction n with
  | zero => intros; rfl
  | succ n ih =>
    intro s3 s4 s5
    rw [evLp_succ, f58.s1_eq]
    simp only [ih]
    rfl
theorem f58.p1_e2_pre {R : Type} (L N : Nat) (κ : Ex → T → H → Option R) (rec : T → H → Option R) (z6 : Int) (z7 : LLM) :
    (contAt (E58 L N) (evCallI (E58 L N) 1 2000) 1000 58 68 2 f58.c0 (stepK (outK (keepT 68 ((E58 L N).liveX 58 0).1) (keepH 1000 ((E58 L N).liveX 58 0).2) κ) fun t h => rec (backK 1000 68 ((E58 L N).live 58 0).1 ((E58 L N).live 58 0).2 ((E58 L N).heal 58 0) ((E58 L N).ren 58 0) t h).1 (backK 1000 68 ((E58 L N).live 58 0).1 ((E58 L N).live 58 0).2 ((E58 L N).heal 58 0) ((E58 L N).ren 58 0) t h).2)) (.exit 2) (f58.T1_e2 z6 z7) (f58.H1_e2 z6 z7)
    = f58.p1_e2' L N (κ (.exit 0) f58.T0_e0 f58.H0_e0) (fun z21 => κ .ret (f58.T0_r z21) (f58.H0_r z21)) (fun s1 s2 => rec (f58.T0 s1 s2) (f58.H0 s1 s2)) z6 z7 := by kernel_rfl
theorem f58.p1_e2_eq {R : Type} (L N : Nat) (κ : Ex → T → H → Option R) (rec : T → H → Option R) (z6 : Int) (z7 : LLM) :
    (contAt (E58 L N) (evCallI (E58 L N) 1 2000) 1000 58 68 2 f58.c0 (stepK (outK (keepT 68 ((E58 L N).liveX 58 0).1) (keepH 1000 ((E58 L N).liveX 58 0).2) κ) fun t h => rec (backK 1000 68 ((E58 L N).live 58 0).1 ((E58 L N).live 58 0).2 ((E58 L N).heal 58 0) ((E58 L N).ren 58 0) t h).1 (backK 1000 68 ((E58 L N).live 58 0).1 ((E58 L N).live 58 0).2 ((E58 L N).heal 58 0) ((E58 L N).ren 58 0) t h).2)) (.exit 2) (f58.T1_e2 z6 z7) (f58.H1_e2 z6 z7)
    = f58.p1_e2 L N (κ (.exit 0) f58.T0_e0 f58.H0_e0) (fun z21 => κ .ret (f58.T0_r z21) (f58.H0_r z21)) (fun s1 s2 => rec (f58.T0 s1 s2) (f58.H0 s1 s2)) z6 z7 := by
  rw [f58.p1_e2_pre]
  unfold f58.p1_e2
  rfl
theorem f58.p1_r_pre {R : Type} (L N : Nat) (κ : Ex → T → H → Option R) (rec : T → H → Option R) (z15 : Bool) (z16 : Int) (z17 : LLM) :
    (contAt (E58 L N) (evCallI (E58 L N) 1 2000) 1000 58 68 2 f58.c0 (stepK (outK (keepT 68 ((E58 L N).liveX 58 0).1) (keepH 1000 ((E58 L N).liveX 58 0).2) κ) fun t h => rec (backK 1000 68 ((E58 L N).live 58 0).1 ((E58 L N).live 58 0).2 ((E58 L N).heal 58 0) ((E58 L N).ren 58 0) t h).1 (backK 1000 68 ((E58 L N).live 58 0).1 ((E58 L N).live 58 0).2 ((E58 L N).heal 58 0) ((E58 L N).ren 58 0) t h).2)) .ret (f58.T1_r z15 z16 z17) (f58.H1_r z15 z16 z17)
    = f58.p1_r' L N (κ (.exit 0) f58.T0_e0 f58.H0_e0) (fun z21 => κ .ret (f58.T0_r z21) (f58.H0_r z21)) (fun s1 s2 => rec (f58.T0 s1 s2) (f58.H0 s1 s2)) z15 z16 z17 := by kernel_rfl
theorem f58.p1_r_eq {R : Type} (L N : Nat) (κ : Ex → T → H → Option R) (rec : T → H → Option R) (z15 : Bool) (z16 : Int) (z17 : LLM) :
    (contAt (E58 L N) (evCallI (E58 L N) 1 2000) 1000 58 68 2 f58.c0 (stepK (outK (keepT 68 ((E58 L N).liveX 58 0).1) (keepH 1000 ((E58 L N).liveX 58 0).2) κ) fun t h => rec (backK 1000 68 ((E58 L N).live 58 0).1 ((E58 L N).live 58 0).2 ((E58 L N).heal 58 0) ((E58 L N).ren 58 0) t h).1 (backK 1000 68 ((E58 L N).live 58 0).1 ((E58 L N).live 58 0).2 ((E58 L N).heal 58 0) ((E58 L N).ren 58 0) t h).2)) .ret (f58.T1_r z15 z16 z17) (f58.H1_r z15 z16 z17)
    = f58.p1_r L N (κ (.exit 0) f58.T0_e0 f58.H0_e0) (fun z21 => κ .ret (f58.T0_r z21) (f58.H0_r z21)) (fun s1 s2 => rec (f58.T0 s1 s2) (f58.H0 s1 s2)) z15 z16 z17 := by
  rw [f58.p1_r_pre]
  unfold f58.p1_r
  rfl
theorem f58.s0_pre {R : Type} (L N : Nat) (κ : Ex → T → H → Option R) (rec : T → H → Option R) (s1 : Int) (s2 : LLM) :
    evRd (E58 L N) (evCallI (E58 L N) 1 2000) 1000 58 68 0 f58.c0 κ rec (f58.T0 s1 s2) (f58.H0 s1 s2)
    = f58.s0' L N (κ (.exit 0) f58.T0_e0 f58.H0_e0) (fun z21 => κ .ret (f58.T0_r z21) (f58.H0_r z21)) (fun s1 s2 => rec (f58.T0 s1 s2) (f58.H0 s1 s2)) (fun s3 s4 s5 => evLp (E58 L N) (evCallI (E58 L N) 1 2000) 1000 58 68 2 f58.c1 (contAt (E58 L N) (evCallI (E58 L N) 1 2000) 1000 58 68 2 f58.c0 (stepK (outK (keepT 68 ((E58 L N).liveX 58 0).1) (keepH 1000 ((E58 L N).liveX 58 0).2) κ) fun t h => rec (backK 1000 68 ((E58 L N).live 58 0).1 ((E58 L N).live 58 0).2 ((E58 L N).heal 58 0) ((E58 L N).ren 58 0) t h).1 (backK 1000 68 ((E58 L N).live 58 0).1 ((E58 L N).live 58 0).2 ((E58 L N).heal 58 0) ((E58 L N).ren 58 0) t h).2)) L (f58.T1 s3 s4 s5) (f58.H1 s3 s4 s5)) s1 s2 := by kernel_rfl
theorem f58.s0_eq {R : Type} (L N : Nat) (κ : Ex → T → H → Option R) (rec : T → H → Option R) (s1 : Int) (s2 : LLM) :
    evRd (E58 L N) (evCallI (E58 L N) 1 2000) 1000 58 68 0 f58.c0 κ rec (f58.T0 s1 s2) (f58.H0 s1 s2)
    = f58.s0 L N (κ (.exit 0) f58.T0_e0 f58.H0_e0) (fun z21 => κ .ret (f58.T0_r z21) (f58.H0_r z21)) (fun s1 s2 => rec (f58.T0 s1 s2) (f58.H0 s1 s2)) s1 s2 := by
  rw [f58.s0_pre]
  unfold f58.s0
  simp only [f58.l1_eq, f58.p1_e2_eq, f58.p1_r_eq]
theorem f58.l0_eq {R : Type} (L N : Nat) (κ : Ex → T → H → Option R) : ∀ (n : Nat) (s1 : Int) (s2 : LLM),
    evLp (E58 L N) (evCallI (E58 L N) 1 2000) 1000 58 68 0 f58.c0 κ n (f58.T0 s1 s2) (f58.H0 s1 s2)
    = f58.l0 L N (κ (.exit 0) f58.T0_e0 f58.H0_e0) (fun z21 => κ .ret (f58.T0_r z21) (f58.H0_r z21)) n s1 s2 := by
  intro n
  induction n with
  | zero => intros; rfl
  | succ n ih =>
    intro s1 s2
    rw [evLp_succ, f58.s0_eq]
    simp only [ih]
    rfl
theorem f58.p0_e0_pre {R : Type} (L N : Nat) (κ : AV → Option R) :
    (contAt (E58 L N) (evCallI (E58 L N) 1 2000) 1000 58 68 0 (codeOf Try.f58) (finK (E58 L N) 1000 Try.f58 (finC (.one .bool) κ))) (.exit 0) f58.T0_e0 f58.H0_e0
    = f58.p0_e0' L N (fun a0 => κ (.tv .bool a0)) := by kernel_rfl
theorem f58.p0_e0_eq {R : Type} (L N : Nat) (κ : AV → Option R) :
    (contAt (E58 L N) (evCallI (E58 L N) 1 2000) 1000 58 68 0 (codeOf Try.f58) (finK (E58 L N) 1000 Try.f58 (finC (.one .bool) κ))) (.exit 0) f58.T0_e0 f58.H0_e0
    = f58.p0_e0 L N (fun a0 => κ (.tv .bool a0)) := by
  rw [f58.p0_e0_pre]
  unfold f58.p0_e0
  rfl
theorem f58.p0_r_pre {R : Type} (L N : Nat) (κ : AV → Option R) (z21 : Bool) :
    (contAt (E58 L N) (evCallI (E58 L N) 1 2000) 1000 58 68 0 (codeOf Try.f58) (finK (E58 L N) 1000 Try.f58 (finC (.one .bool) κ))) .ret (f58.T0_r z21) (f58.H0_r z21)
    = f58.p0_r' L N (fun a0 => κ (.tv .bool a0)) z21 := by kernel_rfl
theorem f58.p0_r_eq {R : Type} (L N : Nat) (κ : AV → Option R) (z21 : Bool) :
    (contAt (E58 L N) (evCallI (E58 L N) 1 2000) 1000 58 68 0 (codeOf Try.f58) (finK (E58 L N) 1000 Try.f58 (finC (.one .bool) κ))) .ret (f58.T0_r z21) (f58.H0_r z21)
    = f58.p0_r L N (fun a0 => κ (.tv .bool a0)) z21 := by
  rw [f58.p0_r_pre]
  unfold f58.p0_r
  rfl
theorem f58.b_pre {R : Type} (L N : Nat) (κ : AV → Option R) (x0 : Graph) :
    evBody (E58 L N) (evCallI (E58 L N) 1 2000) 1000 58 Try.f58 [(.tv (.st 2) x0)] [] [] (finC (.one .bool) κ)
    = f58.b' L N (fun a0 => κ (.tv .bool a0)) (fun s1 s2 => evLp (E58 L N) (evCallI (E58 L N) 1 2000) 1000 58 68 0 f58.c0 (contAt (E58 L N) (evCallI (E58 L N) 1 2000) 1000 58 68 0 (codeOf Try.f58) (finK (E58 L N) 1000 Try.f58 (finC (.one .bool) κ))) L (f58.T0 s1 s2) (f58.H0 s1 s2)) x0 := by kernel_rfl
theorem f58.b_eq {R : Type} (L N : Nat) (κ : AV → Option R) (x0 : Graph) :
    evBody (E58 L N) (evCallI (E58 L N) 1 2000) 1000 58 Try.f58 [(.tv (.st 2) x0)] [] [] (finC (.one .bool) κ)
    = f58.b L N (fun a0 => κ (.tv .bool a0)) x0 := by
  rw [f58.b_pre]
  unfold f58.b
  simp only [f58.l0_eq, f58.p0_e0_eq, f58.p0_r_eq]
theorem f58.s1'_nat {R R' : Type} (j : R → Option R') (L N : Nat) (k1_e2 : Int → LLM → Option R) (k1_r : Bool → Int → LLM → Option R) (rec1 : Int → Int → LLM → Option R) (s3 : Int) (s4 : Int) (s5 : LLM) :
    f58.s1' L N (fun a0 a1 => (k1_e2 a0 a1).bind j) (fun a0 a1 a2 => (k1_r a0 a1 a2).bind j) (fun a0 a1 a2 => (rec1 a0 a1 a2).bind j) s3 s4 s5 = (f58.s1' L N k1_e2 k1_r rec1 s3 s4 s5).bind j := by
  unfold f58.s1'
  repeat' (first | (with_reducible refine cond_nat ?_ ?_) | (with_reducible refine bind_nat fun _ => ?_) | rfl)
theorem f58.s1_nat {R R' : Type} (j : R → Option R') (L N : Nat) (k1_e2 : Int → LLM → Option R) (k1_r : Bool → Int → LLM → Option R) (rec1 : Int → Int → LLM → Option R) (s3 : Int) (s4 : Int) (s5 : LLM) :
    f58.s1 L N (fun a0 a1 => (k1_e2 a0 a1).bind j) (fun a0 a1 a2 => (k1_r a0 a1 a2).bind j) (fun a0 a1 a2 => (rec1 a0 a1 a2).bind j) s3 s4 s5 = (f58.s1 L N k1_e2 k1_r rec1 s3 s4 s5).bind j := by
  unfold f58.s1
  exact f58.s1'_nat ..
theorem f58.l1_nat {R R' : Type} (j : R → Option R') (L N : Nat) (k1_e2 : Int → LLM → Option R) (k1_r : Bool → Int → LLM → Option R) : ∀ (n : Nat) (s3 : Int) (s4 : Int) (s5 : LLM),
    f58.l1 L N (fun a0 a1 => (k1_e2 a0 a1).bind j) (fun a0 a1 a2 => (k1_r a0 a1 a2).bind j) n s3 s4 s5 = (f58.l1 L N k1_e2 k1_r n s3 s4 s5).bind j := by
  intro n
  induction n with
  | zero => intros; rfl
  | succ n ih =>
    intro s3 s4 s5
    show f58.s1 L N (fun a0 a1 => (k1_e2 a0 a1).bind j) (fun a0 a1 a2 => (k1_r a0 a1 a2).bind j) (f58.l1 L N (fun a0 a1 => (k1_e2 a0 a1).bind j) (fun a0 a1 a2 => (k1_r a0 a1 a2).bind j) n) s3 s4 s5 = _
    rw [show f58.l1 L N (fun a0 a1 => (k1_e2 a0 a1).bind j) (fun a0 a1 a2 => (k1_r a0 a1 a2).bind j) n = (fun s3 s4 s5 => (f58.l1 L N k1_e2 k1_r n s3 s4 s5).bind j) from funext fun s3 => funext fun s4 => funext fun s5 => ih s3 s4 s5]
    exact f58.s1_nat ..
theorem f58.p1_e2'_nat {R R' : Type} (j : R → Option R') (L N : Nat) (k0_e0 : Option R) (k0_r : Bool → Option R) (rec0 : Int → LLM → Option R) (z6 : Int) (z7 : LLM) :
    f58.p1_e2' L N (k0_e0.bind j) (fun a0 => (k0_r a0).bind j) (fun a0 a1 => (rec0 a0 a1).bind j) z6 z7 = (f58.p1_e2' L N k0_e0 k0_r rec0 z6 z7).bind j := by
  unfold f58.p1_e2'
  repeat' (first | (with_reducible refine cond_nat ?_ ?_) | (with_reducible refine bind_nat fun _ => ?_) | rfl)
theorem f58.p1_e2_nat {R R' : Type} (j : R → Option R') (L N : Nat) (k0_e0 : Option R) (k0_r : Bool → Option R) (rec0 : Int → LLM → Option R) (z6 : Int) (z7 : LLM) :
    f58.p1_e2 L N (k0_e0.bind j) (fun a0 => (k0_r a0).bind j) (fun a0 a1 => (rec0 a0 a1).bind j) z6 z7 = (f58.p1_e2 L N k0_e0 k0_r rec0 z6 z7).bind j := by
  unfold f58.p1_e2
  exact f58.p1_e2'_nat ..
theorem f58.p1_r'_nat {R R' : Type} (j : R → Option R') (L N : Nat) (k0_e0 : Option R) (k0_r : Bool → Option R) (rec0 : Int → LLM → Option R) (z15 : Bool) (z16 : Int) (z17 : LLM) :
    f58.p1_r' L N (k0_e0.bind j) (fun a0 => (k0_r a0).bind j) (fun a0 a1 => (rec0 a0 a1).bind j) z15 z16 z17 = (f58.p1_r' L N k0_e0 k0_r rec0 z15 z16 z17).bind j := by
  unfold f58.p1_r'
  repeat' (first | (with_reducible refine cond_nat ?_ ?_) | (with_reducible refine bind_nat fun _ => ?_) | rfl)
theorem f58.p1_r_nat {R R' : Type} (j : R → Option R') (L N : Nat) (k0_e0 : Option R) (k0_r : Bool → Option R) (rec0 : Int → LLM → Option R) (z15 : Bool) (z16 : Int) (z17 : LLM) :
    f58.p1_r L N (k0_e0.bind j) (fun a0 => (k0_r a0).bind j) (fun a0 a1 => (rec0 a0 a1).bind j) z15 z16 z17 = (f58.p1_r L N k0_e0 k0_r rec0 z15 z16 z17).bind j := by
  unfold f58.p1_r
  exact f58.p1_r'_nat ..
theorem f58.s0'_nat {R R' : Type} (j : R → Option R') (L N : Nat) (k0_e0 : Option R) (k0_r : Bool → Option R) (rec0 : Int → LLM → Option R) (w1 : Int → Int → LLM → Option R) (s1 : Int) (s2 : LLM) :
    f58.s0' L N (k0_e0.bind j) (fun a0 => (k0_r a0).bind j) (fun a0 a1 => (rec0 a0 a1).bind j) (fun a0 a1 a2 => (w1 a0 a1 a2).bind j) s1 s2 = (f58.s0' L N k0_e0 k0_r rec0 w1 s1 s2).bind j := by
  unfold f58.s0'
  repeat' (first | (with_reducible refine cond_nat ?_ ?_) | (with_reducible refine bind_nat fun _ => ?_) | rfl)
theorem f58.s0_nat {R R' : Type} (j : R → Option R') (L N : Nat) (k0_e0 : Option R) (k0_r : Bool → Option R) (rec0 : Int → LLM → Option R) (s1 : Int) (s2 : LLM) :
    f58.s0 L N (k0_e0.bind j) (fun a0 => (k0_r a0).bind j) (fun a0 a1 => (rec0 a0 a1).bind j) s1 s2 = (f58.s0 L N k0_e0 k0_r rec0 s1 s2).bind j := by
  unfold f58.s0
  simp only [f58.l1_nat, f58.p1_e2_nat, f58.p1_r_nat]
  exact f58.s0'_nat ..
theorem f58.l0_nat {R R' : Type} (j : R → Option R') (L N : Nat) (k0_e0 : Option R) (k0_r : Bool → Option R) : ∀ (n : Nat) (s1 : Int) (s2 : LLM),
    f58.l0 L N (k0_e0.bind j) (fun a0 => (k0_r a0).bind j) n s1 s2 = (f58.l0 L N k0_e0 k0_r n s1 s2).bind j := by
  intro n
  induction n with
  | zero => intros; rfl
  | succ n ih =>
    intro s1 s2
    show f58.s0 L N (k0_e0.bind j) (fun a0 => (k0_r a0).bind j) (f58.l0 L N (k0_e0.bind j) (fun a0 => (k0_r a0).bind j) n) s1 s2 = _
    rw [show f58.l0 L N (k0_e0.bind j) (fun a0 => (k0_r a0).bind j) n = (fun s1 s2 => (f58.l0 L N k0_e0 k0_r n s1 s2).bind j) from funext fun s1 => funext fun s2 => ih s1 s2]
    exact f58.s0_nat ..
theorem f58.p0_e0'_nat {R R' : Type} (j : R → Option R') (L N : Nat) (k : Bool → Option R) :
    f58.p0_e0' L N (fun a0 => (k a0).bind j) = (f58.p0_e0' L N k).bind j := by
  unfold f58.p0_e0'
  repeat' (first | (with_reducible refine cond_nat ?_ ?_) | (with_reducible refine bind_nat fun _ => ?_) | rfl)
theorem f58.p0_e0_nat {R R' : Type} (j : R → Option R') (L N : Nat) (k : Bool → Option R) :
    f58.p0_e0 L N (fun a0 => (k a0).bind j) = (f58.p0_e0 L N k).bind j := by
  unfold f58.p0_e0
  exact f58.p0_e0'_nat ..
theorem f58.p0_r'_nat {R R' : Type} (j : R → Option R') (L N : Nat) (k : Bool → Option R) (z21 : Bool) :
    f58.p0_r' L N (fun a0 => (k a0).bind j) z21 = (f58.p0_r' L N k z21).bind j := by
  unfold f58.p0_r'
  repeat' (first | (with_reducible refine cond_nat ?_ ?_) | (with_reducible refine bind_nat fun _ => ?_) | rfl)
theorem f58.p0_r_nat {R R' : Type} (j : R → Option R') (L N : Nat) (k : Bool → Option R) (z21 : Bool) :
    f58.p0_r L N (fun a0 => (k a0).bind j) z21 = (f58.p0_r L N k z21).bind j := by
  unfold f58.p0_r
  exact f58.p0_r'_nat ..
theorem f58.b'_nat {R R' : Type} (j : R → Option R') (L N : Nat) (k : Bool → Option R) (w0 : Int → LLM → Option R) (x0 : Graph) :
    f58.b' L N (fun a0 => (k a0).bind j) (fun a0 a1 => (w0 a0 a1).bind j) x0 = (f58.b' L N k w0 x0).bind j := by
  unfold f58.b'
  repeat' (first | (with_reducible refine cond_nat ?_ ?_) | (with_reducible refine bind_nat fun _ => ?_) | rfl)
theorem f58.b_nat {R R' : Type} (j : R → Option R') (L N : Nat) (k : Bool → Option R) (x0 : Graph) :
    f58.b L N (fun a0 => (k a0).bind j) x0 = (f58.b L N k x0).bind j := by
  unfold f58.b
  simp only [f58.l0_nat, f58.p0_e0_nat, f58.p0_r_nat]
  exact f58.b'_nat ..
theorem f58.ok (L N : Nat) (hΦ : TellsOk Try.prog ((Φ29 L N))) : EntOk Try.prog 58 (f58.ent L N) := by
  intro args vw site h
  unfold f58.ent
  split
  · rename_i d ha
    intro y hy hs
    refine call_ro (dep := 1000) (E := (E58 L N)) (rs := (.one .bool)) (v := (.tv .bool y)) (sound_of hΦ) okP (callI_sound (sound_of hΦ) okP 1 2000) (f := Try.f58) rfl hs ha ?_ rfl site
    refine (f58.b_eq L N some d.1).trans ?_
    refine ((f58.b_nat (fun y => (some (.tv .bool y) : Option AV)) L N some d.1)).trans ?_
    rw [show f58.b L N some d.1 = some y from hy]
    rfl
  · intro y hy
    cases hy
def Φ58 (L N : Nat) : Tells := (addT (Φ29 L N) 58 (f58.ent L N))
theorem Φ58_ok (L N : Nat) : TellsOk Try.prog (Φ58 L N) := addT_ok (Φ29_ok L N) (f58.ok L N (Φ29_ok L N))
def f71.s0' {R : Type} (L N : Nat) (k0_e0 : LLM → LB → Option R) (rec0 : Int → LLM → LB → Option R) (s0 : Int) (s1 : LLM) (s2 : LB) : Option R :=
  bif (decide (s0 < (s2.length : Int))) then
    bif (decide (0 ≤ s0) && decide (s0 < (s2.length : Int))) then
      rec0 (wi (s0 + (1 : Int))) s1 (s2.set s0.toNat true)
    else none
  else k0_e0 s1 s2
def f71.s0 {R : Type} (L N : Nat) (k0_e0 : LLM → LB → Option R) (rec0 : Int → LLM → LB → Option R) (s0 : Int) (s1 : LLM) (s2 : LB) : Option R :=
  f71.s0' L N k0_e0 rec0 s0 s1 s2
def f71.l0 {R : Type} (L N : Nat) (k0_e0 : LLM → LB → Option R) : Nat → Int → LLM → LB → Option R
  | 0, _, _, _ => none
  | n + 1, s0, s1, s2 => f71.s0 L N k0_e0 (f71.l0 L N k0_e0 n) s0 s1 s2
def f71.T0 (s0 : Int) (s1 : LLM) (s2 : LB) : T := mkT 78 [(1, (.ptr 1001 0)), (3, (.row 1012)), (4, (.tv i64 s0))]
def f71.H0 (s0 : Int) (s1 : LLM) (s2 : LB) : H := [(1001, (.box [(.tv (.sl (.sl (.st 0))) s1)])), (1012, (.row 4 .bool s2))]
def f71.T0_e0 (z3 : LLM) (z4 : LB) : T := mkT 78 [(1, (.ptr 1001 0)), (3, (.row 1012))]
def f71.H0_e0 (z3 : LLM) (z4 : LB) : H := [(1001, (.box [(.tv (.sl (.sl (.st 0))) z3)])), (1012, (.row 4 .bool z4))]
def f71.s3' {R : Type} (L N : Nat) (k3_e6 : Bool → Int → Bool → LLM → LB → Option R) (rec3 : Bool → Int → Bool → Int → LLM → LB → Option R) (s16 : Bool) (s17 : Int) (s18 : Bool) (s19 : Int) (s20 : LLM) (s21 : LB) : Option R :=
  bif (decide (0 ≤ s17) && decide (s17 < (s20.length : Int))) then
    bif (decide (s19 < ((listAt s20 [] s17.toNat).length : Int))) then
      bif s18 then
        rec3 s16 s17 true (wi (s19 + (1 : Int))) s20 s21
      else bif (decide (0 ≤ s17) && decide (s17 < (s20.length : Int))) then
        bif (decide (0 ≤ s19) && decide (s19 < ((listAt s20 [] s17.toNat).length : Int))) then
          bif ((listAt (listAt s20 [] s17.toNat) (Ty.dflt (.st 0)) s19.toNat).act == (0 : Int)) then
            bif (decide (0 ≤ s17) && decide (s17 < (s20.length : Int))) then
              bif (decide (0 ≤ s19) && decide (s19 < ((listAt s20 [] s17.toNat).length : Int))) then
                bif (decide (0 ≤ (listAt (listAt s20 [] s17.toNat) (Ty.dflt (.st 0)) s19.toNat).to) && decide ((listAt (listAt s20 [] s17.toNat) (Ty.dflt (.st 0)) s19.toNat).to < (s21.length : Int))) then
                  rec3 s16 s17 (listAt s21 false ((listAt (listAt s20 [] s17.toNat) (Ty.dflt (.st 0)) s19.toNat).to).toNat) (wi (s19 + (1 : Int))) s20 s21
                else none
              else none
            else none
          else rec3 s16 s17 false (wi (s19 + (1 : Int))) s20 s21
        else none
      else none
    else k3_e6 s16 s17 s18 s20 s21
  else none
def f71.s3 {R : Type} (L N : Nat) (k3_e6 : Bool → Int → Bool → LLM → LB → Option R) (rec3 : Bool → Int → Bool → Int → LLM → LB → Option R) (s16 : Bool) (s17 : Int) (s18 : Bool) (s19 : Int) (s20 : LLM) (s21 : LB) : Option R :=
  f71.s3' L N k3_e6 rec3 s16 s17 s18 s19 s20 s21
def f71.l3 {R : Type} (L N : Nat) (k3_e6 : Bool → Int → Bool → LLM → LB → Option R) : Nat → Bool → Int → Bool → Int → LLM → LB → Option R
  | 0, _, _, _, _, _, _ => none
  | n + 1, s16, s17, s18, s19, s20, s21 => f71.s3 L N k3_e6 (f71.l3 L N k3_e6 n) s16 s17 s18 s19 s20 s21
def f71.T3 (s16 : Bool) (s17 : Int) (s18 : Bool) (s19 : Int) (s20 : LLM) (s21 : LB) : T := mkT 78 [(1, (.ptr 1001 0)), (3, (.row 1012)), (5, (.tv .bool s16)), (6, (.tv i64 s17)), (7, (.tv .bool s18)), (8, (.tv i64 s19))]
def f71.H3 (s16 : Bool) (s17 : Int) (s18 : Bool) (s19 : Int) (s20 : LLM) (s21 : LB) : H := [(1001, (.box [(.tv (.sl (.sl (.st 0))) s20)])), (1012, (.row 4 .bool s21))]
def f71.T3_e6 (z22 : Bool) (z23 : Int) (z24 : Bool) (z25 : LLM) (z26 : LB) : T := mkT 78 [(1, (.ptr 1001 0)), (3, (.row 1012)), (5, (.tv .bool z22)), (6, (.tv i64 z23)), (7, (.tv .bool z24))]
def f71.H3_e6 (z22 : Bool) (z23 : Int) (z24 : Bool) (z25 : LLM) (z26 : LB) : H := [(1001, (.box [(.tv (.sl (.sl (.st 0))) z25)])), (1012, (.row 4 .bool z26))]
def f71.j0' {R : Type} (L N : Nat) (k2_e4 : Bool → LLM → LB → Option R) (rec2 : Bool → Int → LLM → LB → Option R) (v33 : Bool) (v34 : Int) (v35 : Bool) (v36 : LLM) (v37 : LB) : Option R :=
  bif v35 then
    bif (decide (0 ≤ v34) && decide (v34 < (v37.length : Int))) then
      rec2 true (wi (v34 + (1 : Int))) v36 (v37.set v34.toNat false)
    else none
  else rec2 v33 (wi (v34 + (1 : Int))) v36 v37
def f71.p3_e6' {R : Type} (L N : Nat) (k2_e4 : Bool → LLM → LB → Option R) (rec2 : Bool → Int → LLM → LB → Option R) (z22 : Bool) (z23 : Int) (z24 : Bool) (z25 : LLM) (z26 : LB) : Option R :=
  bif (decide (0 ≤ z23) && decide (z23 < (z26.length : Int))) then
    bif (listAt z26 false z23.toNat) then
      f71.j0' L N k2_e4 rec2 z22 z23 (!z24) z25 z26
    else f71.j0' L N k2_e4 rec2 z22 z23 false z25 z26
  else none
def f71.p3_e6 {R : Type} (L N : Nat) (k2_e4 : Bool → LLM → LB → Option R) (rec2 : Bool → Int → LLM → LB → Option R) (z22 : Bool) (z23 : Int) (z24 : Bool) (z25 : LLM) (z26 : LB) : Option R :=
  f71.p3_e6' L N k2_e4 rec2 z22 z23 z24 z25 z26
def f71.s2' {R : Type} (L N : Nat) (k2_e4 : Bool → LLM → LB → Option R) (rec2 : Bool → Int → LLM → LB → Option R) (w3 : Bool → Int → Bool → Int → LLM → LB → Option R) (s9 : Bool) (s10 : Int) (s11 : LLM) (s12 : LB) : Option R :=
  bif (decide (s10 < (s12.length : Int))) then
    w3 s9 s10 false (0 : Int) s11 s12
  else k2_e4 s9 s11 s12
def f71.s2 {R : Type} (L N : Nat) (k2_e4 : Bool → LLM → LB → Option R) (rec2 : Bool → Int → LLM → LB → Option R) (s9 : Bool) (s10 : Int) (s11 : LLM) (s12 : LB) : Option R :=
  f71.s2' L N k2_e4 rec2 (fun s16 s17 s18 s19 s20 s21 => f71.l3 L N (fun z22 z23 z24 z25 z26 => f71.p3_e6 L N k2_e4 rec2 z22 z23 z24 z25 z26) L s16 s17 s18 s19 s20 s21) s9 s10 s11 s12
def f71.l2 {R : Type} (L N : Nat) (k2_e4 : Bool → LLM → LB → Option R) : Nat → Bool → Int → LLM → LB → Option R
  | 0, _, _, _, _ => none
  | n + 1, s9, s10, s11, s12 => f71.s2 L N k2_e4 (f71.l2 L N k2_e4 n) s9 s10 s11 s12
def f71.T2 (s9 : Bool) (s10 : Int) (s11 : LLM) (s12 : LB) : T := mkT 78 [(1, (.ptr 1001 0)), (3, (.row 1012)), (5, (.tv .bool s9)), (6, (.tv i64 s10))]
def f71.H2 (s9 : Bool) (s10 : Int) (s11 : LLM) (s12 : LB) : H := [(1001, (.box [(.tv (.sl (.sl (.st 0))) s11)])), (1012, (.row 4 .bool s12))]
def f71.T2_e4 (z13 : Bool) (z14 : LLM) (z15 : LB) : T := mkT 78 [(1, (.ptr 1001 0)), (3, (.row 1012)), (5, (.tv .bool z13))]
def f71.H2_e4 (z13 : Bool) (z14 : LLM) (z15 : LB) : H := [(1001, (.box [(.tv (.sl (.sl (.st 0))) z14)])), (1012, (.row 4 .bool z15))]
def f71.p2_e4' {R : Type} (L N : Nat) (k1_e2 : LB → Option R) (rec1 : Bool → LLM → LB → Option R) (z13 : Bool) (z14 : LLM) (z15 : LB) : Option R :=
  rec1 z13 z14 z15
def f71.p2_e4 {R : Type} (L N : Nat) (k1_e2 : LB → Option R) (rec1 : Bool → LLM → LB → Option R) (z13 : Bool) (z14 : LLM) (z15 : LB) : Option R :=
  f71.p2_e4' L N k1_e2 rec1 z13 z14 z15
def f71.s1' {R : Type} (L N : Nat) (k1_e2 : LB → Option R) (rec1 : Bool → LLM → LB → Option R) (w2 : Bool → Int → LLM → LB → Option R) (s5 : Bool) (s6 : LLM) (s7 : LB) : Option R :=
  bif s5 then
    w2 false (0 : Int) s6 s7
  else k1_e2 s7
def f71.s1 {R : Type} (L N : Nat) (k1_e2 : LB → Option R) (rec1 : Bool → LLM → LB → Option R) (s5 : Bool) (s6 : LLM) (s7 : LB) : Option R :=
  f71.s1' L N k1_e2 rec1 (fun s9 s10 s11 s12 => f71.l2 L N (fun z13 z14 z15 => f71.p2_e4 L N k1_e2 rec1 z13 z14 z15) L s9 s10 s11 s12) s5 s6 s7
def f71.l1 {R : Type} (L N : Nat) (k1_e2 : LB → Option R) : Nat → Bool → LLM → LB → Option R
  | 0, _, _, _ => none
  | n + 1, s5, s6, s7 => f71.s1 L N k1_e2 (f71.l1 L N k1_e2 n) s5 s6 s7
def f71.T1 (s5 : Bool) (s6 : LLM) (s7 : LB) : T := mkT 78 [(1, (.ptr 1001 0)), (3, (.row 1012)), (5, (.tv .bool s5))]
def f71.H1 (s5 : Bool) (s6 : LLM) (s7 : LB) : H := [(1001, (.box [(.tv (.sl (.sl (.st 0))) s6)])), (1012, (.row 4 .bool s7))]
def f71.T1_e2 (z8 : LB) : T := mkT 78 [(3, (.row 1012))]
def f71.H1_e2 (z8 : LB) : H := [(1012, (.row 4 .bool z8))]
def f71.p1_e2' {R : Type} (L N : Nat) (k : LB → Option R) (z8 : LB) : Option R :=
  k z8
def f71.p1_e2 {R : Type} (L N : Nat) (k : LB → Option R) (z8 : LB) : Option R :=
  f71.p1_e2' L N k z8
def f71.p0_e0' {R : Type} (L N : Nat) (k : LB → Option R) (w1 : Bool → LLM → LB → Option R) (z3 : LLM) (z4 : LB) : Option R :=
  w1 true z3 z4
def f71.p0_e0 {R : Type} (L N : Nat) (k : LB → Option R) (z3 : LLM) (z4 : LB) : Option R :=
  f71.p0_e0' L N k (fun s5 s6 s7 => f71.l1 L N (fun z8 => f71.p1_e2 L N k z8) L s5 s6 s7) z3 z4
def f71.b' {R : Type} (L N : Nat) (k : LB → Option R) (w0 : Int → LLM → LB → Option R) (x0 : Graph) : Option R :=
  bif (decide (0 ≤ (x0.moves.length : Int)) && decide ((x0.moves.length : Int) ≤ (lim : Int))) then
    w0 (0 : Int) x0.moves (List.replicate (x0.moves.length : Int).toNat false)
  else none
def f71.b {R : Type} (L N : Nat) (k : LB → Option R) (x0 : Graph) : Option R :=
  f71.b' L N k (fun s0 s1 s2 => f71.l0 L N (fun z3 z4 => f71.p0_e0 L N k z3 z4) L s0 s1 s2) x0
def f71 (L N : Nat) (x0 : Graph) : Option (LB) := f71.b L N some x0
def f71.ent (L N : Nat) (args : List AV) (vw : View) (site : Nat) : Ans := match coeD [(.st 2)] vw args with
  | some (d, u) => ⟨LB, f71 L N d.1, fun y => ((.tv (.sl .bool) y), u, [])⟩
  | none => Ans.no
noncomputable def E71 (L N : Nat) : Env := { P := Try.prog, ty := tyOf, Φ := (Φ58 L N), inl := inlT, live := lives, liveX := livesX, L := L, dp := none, prom := promT, heal := healT, ren := renT }
noncomputable def f71.c0 : Code := loopAt 0 (codeOf Try.f71)
theorem f71.s0_pre {R : Type} (L N : Nat) (κ : Ex → T → H → Option R) (rec : T → H → Option R) (s0 : Int) (s1 : LLM) (s2 : LB) :
    evRd (E71 L N) (evCallI (E71 L N) 1 2000) 1000 71 78 0 f71.c0 κ rec (f71.T0 s0 s1 s2) (f71.H0 s0 s1 s2)
    = f71.s0' L N (fun z3 z4 => κ (.exit 0) (f71.T0_e0 z3 z4) (f71.H0_e0 z3 z4)) (fun s0 s1 s2 => rec (f71.T0 s0 s1 s2) (f71.H0 s0 s1 s2)) s0 s1 s2 := by kernel_rfl
theorem f71.s0_eq {R : Type} (L N : Nat) (κ : Ex → T → H → Option R) (rec : T → H → Option R) (s0 : Int) (s1 : LLM) (s2 : LB) :
    evRd (E71 L N) (evCallI (E71 L N) 1 2000) 1000 71 78 0 f71.c0 κ rec (f71.T0 s0 s1 s2) (f71.H0 s0 s1 s2)
    = f71.s0 L N (fun z3 z4 => κ (.exit 0) (f71.T0_e0 z3 z4) (f71.H0_e0 z3 z4)) (fun s0 s1 s2 => rec (f71.T0 s0 s1 s2) (f71.H0 s0 s1 s2)) s0 s1 s2 := by
  rw [f71.s0_pre]
  unfold f71.s0
  rfl
theorem f71.l0_eq {R : Type} (L N : Nat) (κ : Ex → T → H → Option R) : ∀ (n : Nat) (s0 : Int) (s1 : LLM) (s2 : LB),
    evLp (E71 L N) (evCallI (E71 L N) 1 2000) 1000 71 78 0 f71.c0 κ n (f71.T0 s0 s1 s2) (f71.H0 s0 s1 s2)
    = f71.l0 L N (fun z3 z4 => κ (.exit 0) (f71.T0_e0 z3 z4) (f71.H0_e0 z3 z4)) n s0 s1 s2 := by
  intro n
  induction n with
  | zero => intros; rfl
  | succ n ih =>
    intro s0 s1 s2
    rw [evLp_succ, f71.s0_eq]
    simp only [ih]
    rfl
noncomputable def f71.c1 : Code := loopAt 2 (codeOf Try.f71)
noncomputable def f71.c2 : Code := loopAt 4 f71.c1
noncomputable def f71.c3 : Code := loopAt 6 f71.c2
theorem f71.s3_pre {R : Type} (L N : Nat) (κ : Ex → T → H → Option R) (rec : T → H → Option R) (s16 : Bool) (s17 : Int) (s18 : Bool) (s19 : Int) (s20 : LLM) (s21 : LB) :
    evRd (E71 L N) (evCallI (E71 L N) 1 2000) 1000 71 78 6 f71.c3 κ rec (f71.T3 s16 s17 s18 s19 s20 s21) (f71.H3 s16 s17 s18 s19 s20 s21)
    = f71.s3' L N (fun z22 z23 z24 z25 z26 => κ (.exit 6) (f71.T3_e6 z22 z23 z24 z25 z26) (f71.H3_e6 z22 z23 z24 z25 z26)) (fun s16 s17 s18 s19 s20 s21 => rec (f71.T3 s16 s17 s18 s19 s20 s21) (f71.H3 s16 s17 s18 s19 s20 s21)) s16 s17 s18 s19 s20 s21 := by kernel_rfl
theorem f71.s3_eq {R : Type} (L N : Nat) (κ : Ex → T → H → Option R) (rec : T → H → Option R) (s16 : Bool) (s17 : Int) (s18 : Bool) (s19 : Int) (s20 : LLM) (s21 : LB) :
    evRd (E71 L N) (evCallI (E71 L N) 1 2000) 1000 71 78 6 f71.c3 κ rec (f71.T3 s16 s17 s18 s19 s20 s21) (f71.H3 s16 s17 s18 s19 s20 s21)
    = f71.s3 L N (fun z22 z23 z24 z25 z26 => κ (.exit 6) (f71.T3_e6 z22 z23 z24 z25 z26) (f71.H3_e6 z22 z23 z24 z25 z26)) (fun s16 s17 s18 s19 s20 s21 => rec (f71.T3 s16 s17 s18 s19 s20 s21) (f71.H3 s16 s17 s18 s19 s20 s21)) s16 s17 s18 s19 s20 s21 := by
  rw [f71.s3_pre]
  unfold f71.s3
  rfl
theorem f71.l3_eq {R : Type} (L N : Nat) (κ : Ex → T → H → Option R) : ∀ (n : Nat) (s16 : Bool) (s17 : Int) (s18 : Bool) (s19 : Int) (s20 : LLM) (s21 : LB),
    evLp (E71 L N) (evCallI (E71 L N) 1 2000) 1000 71 78 6 f71.c3 κ n (f71.T3 s16 s17 s18 s19 s20 s21) (f71.H3 s16 s17 s18 s19 s20 s21)
    = f71.l3 L N (fun z22 z23 z24 z25 z26 => κ (.exit 6) (f71.T3_e6 z22 z23 z24 z25 z26) (f71.H3_e6 z22 z23 z24 z25 z26)) n s16 s17 s18 s19 s20 s21 := by
  intro n
  induction n with
  | zero => intros; rfl
  | succ n ih =>
    intro s16 s17 s18 s19 s20 s21
    rw [evLp_succ, f71.s3_eq]
    simp only [ih]
    rfl
theorem f71.p3_e6_pre {R : Type} (L N : Nat) (κ : Ex → T → H → Option R) (rec : T → H → Option R) (z22 : Bool) (z23 : Int) (z24 : Bool) (z25 : LLM) (z26 : LB) :
    (contAt (E71 L N) (evCallI (E71 L N) 1 2000) 1000 71 78 6 f71.c2 (stepK (outK (keepT 78 ((E71 L N).liveX 71 4).1) (keepH 1000 ((E71 L N).liveX 71 4).2) κ) fun t h => rec (backK 1000 78 ((E71 L N).live 71 4).1 ((E71 L N).live 71 4).2 ((E71 L N).heal 71 4) ((E71 L N).ren 71 4) t h).1 (backK 1000 78 ((E71 L N).live 71 4).1 ((E71 L N).live 71 4).2 ((E71 L N).heal 71 4) ((E71 L N).ren 71 4) t h).2)) (.exit 6) (f71.T3_e6 z22 z23 z24 z25 z26) (f71.H3_e6 z22 z23 z24 z25 z26)
    = f71.p3_e6' L N (fun z13 z14 z15 => κ (.exit 4) (f71.T2_e4 z13 z14 z15) (f71.H2_e4 z13 z14 z15)) (fun s9 s10 s11 s12 => rec (f71.T2 s9 s10 s11 s12) (f71.H2 s9 s10 s11 s12)) z22 z23 z24 z25 z26 := by kernel_rfl
theorem f71.p3_e6_eq {R : Type} (L N : Nat) (κ : Ex → T → H → Option R) (rec : T → H → Option R) (z22 : Bool) (z23 : Int) (z24 : Bool) (z25 : LLM) (z26 : LB) :
    (contAt (E71 L N) (evCallI (E71 L N) 1 2000) 1000 71 78 6 f71.c2 (stepK (outK (keepT 78 ((E71 L N).liveX 71 4).1) (keepH 1000 ((E71 L N).liveX 71 4).2) κ) fun t h => rec (backK 1000 78 ((E71 L N).live 71 4).1 ((E71 L N).live 71 4).2 ((E71 L N).heal 71 4) ((E71 L N).ren 71 4) t h).1 (backK 1000 78 ((E71 L N).live 71 4).1 ((E71 L N).live 71 4).2 ((E71 L N).heal 71 4) ((E71 L N).ren 71 4) t h).2)) (.exit 6) (f71.T3_e6 z22 z23 z24 z25 z26) (f71.H3_e6 z22 z23 z24 z25 z26)
    = f71.p3_e6 L N (fun z13 z14 z15 => κ (.exit 4) (f71.T2_e4 z13 z14 z15) (f71.H2_e4 z13 z14 z15)) (fun s9 s10 s11 s12 => rec (f71.T2 s9 s10 s11 s12) (f71.H2 s9 s10 s11 s12)) z22 z23 z24 z25 z26 := by
  rw [f71.p3_e6_pre]
  unfold f71.p3_e6
  rfl
theorem f71.s2_pre {R : Type} (L N : Nat) (κ : Ex → T → H → Option R) (rec : T → H → Option R) (s9 : Bool) (s10 : Int) (s11 : LLM) (s12 : LB) :
    evRd (E71 L N) (evCallI (E71 L N) 1 2000) 1000 71 78 4 f71.c2 κ rec (f71.T2 s9 s10 s11 s12) (f71.H2 s9 s10 s11 s12)
    = f71.s2' L N (fun z13 z14 z15 => κ (.exit 4) (f71.T2_e4 z13 z14 z15) (f71.H2_e4 z13 z14 z15)) (fun s9 s10 s11 s12 => rec (f71.T2 s9 s10 s11 s12) (f71.H2 s9 s10 s11 s12)) (fun s16 s17 s18 s19 s20 s21 => evLp (E71 L N) (evCallI (E71 L N) 1 2000) 1000 71 78 6 f71.c3 (contAt (E71 L N) (evCallI (E71 L N) 1 2000) 1000 71 78 6 f71.c2 (stepK (outK (keepT 78 ((E71 L N).liveX 71 4).1) (keepH 1000 ((E71 L N).liveX 71 4).2) κ) fun t h => rec (backK 1000 78 ((E71 L N).live 71 4).1 ((E71 L N).live 71 4).2 ((E71 L N).heal 71 4) ((E71 L N).ren 71 4) t h).1 (backK 1000 78 ((E71 L N).live 71 4).1 ((E71 L N).live 71 4).2 ((E71 L N).heal 71 4) ((E71 L N).ren 71 4) t h).2)) L (f71.T3 s16 s17 s18 s19 s20 s21) (f71.H3 s16 s17 s18 s19 s20 s21)) s9 s10 s11 s12 := by kernel_rfl
theorem f71.s2_eq {R : Type} (L N : Nat) (κ : Ex → T → H → Option R) (rec : T → H → Option R) (s9 : Bool) (s10 : Int) (s11 : LLM) (s12 : LB) :
    evRd (E71 L N) (evCallI (E71 L N) 1 2000) 1000 71 78 4 f71.c2 κ rec (f71.T2 s9 s10 s11 s12) (f71.H2 s9 s10 s11 s12)
    = f71.s2 L N (fun z13 z14 z15 => κ (.exit 4) (f71.T2_e4 z13 z14 z15) (f71.H2_e4 z13 z14 z15)) (fun s9 s10 s11 s12 => rec (f71.T2 s9 s10 s11 s12) (f71.H2 s9 s10 s11 s12)) s9 s10 s11 s12 := by
  rw [f71.s2_pre]
  unfold f71.s2
  simp only [f71.l3_eq, f71.p3_e6_eq]
theorem f71.l2_eq {R : Type} (L N : Nat) (κ : Ex → T → H → Option R) : ∀ (n : Nat) (s9 : Bool) (s10 : Int) (s11 : LLM) (s12 : LB),
    evLp (E71 L N) (evCallI (E71 L N) 1 2000) 1000 71 78 4 f71.c2 κ n (f71.T2 s9 s10 s11 s12) (f71.H2 s9 s10 s11 s12)
    = f71.l2 L N (fun z13 z14 z15 => κ (.exit 4) (f71.T2_e4 z13 z14 z15) (f71.H2_e4 z13 z14 z15)) n s9 s10 s11 s12 := by
  intro n
  induction n with
  | zero => intros; rfl
  | succ n ih =>
    intro s9 s10 s11 s12
    rw [evLp_succ, f71.s2_eq]
    simp only [ih]
    rfl
theorem f71.p2_e4_pre {R : Type} (L N : Nat) (κ : Ex → T → H → Option R) (rec : T → H → Option R) (z13 : Bool) (z14 : LLM) (z15 : LB) :
    (contAt (E71 L N) (evCallI (E71 L N) 1 2000) 1000 71 78 4 f71.c1 (stepK (outK (keepT 78 ((E71 L N).liveX 71 2).1) (keepH 1000 ((E71 L N).liveX 71 2).2) κ) fun t h => rec (backK 1000 78 ((E71 L N).live 71 2).1 ((E71 L N).live 71 2).2 ((E71 L N).heal 71 2) ((E71 L N).ren 71 2) t h).1 (backK 1000 78 ((E71 L N).live 71 2).1 ((E71 L N).live 71 2).2 ((E71 L N).heal 71 2) ((E71 L N).ren 71 2) t h).2)) (.exit 4) (f71.T2_e4 z13 z14 z15) (f71.H2_e4 z13 z14 z15)
    = f71.p2_e4' L N (fun z8 => κ (.exit 2) (f71.T1_e2 z8) (f71.H1_e2 z8)) (fun s5 s6 s7 => rec (f71.T1 s5 s6 s7) (f71.H1 s5 s6 s7)) z13 z14 z15 := by kernel_rfl
theorem f71.p2_e4_eq {R : Type} (L N : Nat) (κ : Ex → T → H → Option R) (rec : T → H → Option R) (z13 : Bool) (z14 : LLM) (z15 : LB) :
    (contAt (E71 L N) (evCallI (E71 L N) 1 2000) 1000 71 78 4 f71.c1 (stepK (outK (keepT 78 ((E71 L N).liveX 71 2).1) (keepH 1000 ((E71 L N).liveX 71 2).2) κ) fun t h => rec (backK 1000 78 ((E71 L N).live 71 2).1 ((E71 L N).live 71 2).2 ((E71 L N).heal 71 2) ((E71 L N).ren 71 2) t h).1 (backK 1000 78 ((E71 L N).live 71 2).1 ((E71 L N).live 71 2).2 ((E71 L N).heal 71 2) ((E71 L N).ren 71 2) t h).2)) (.exit 4) (f71.T2_e4 z13 z14 z15) (f71.H2_e4 z13 z14 z15)
    = f71.p2_e4 L N (fun z8 => κ (.exit 2) (f71.T1_e2 z8) (f71.H1_e2 z8)) (fun s5 s6 s7 => rec (f71.T1 s5 s6 s7) (f71.H1 s5 s6 s7)) z13 z14 z15 := by
  rw [f71.p2_e4_pre]
  unfold f71.p2_e4
  rfl
theorem f71.s1_pre {R : Type} (L N : Nat) (κ : Ex → T → H → Option R) (rec : T → H → Option R) (s5 : Bool) (s6 : LLM) (s7 : LB) :
    evRd (E71 L N) (evCallI (E71 L N) 1 2000) 1000 71 78 2 f71.c1 κ rec (f71.T1 s5 s6 s7) (f71.H1 s5 s6 s7)
    = f71.s1' L N (fun z8 => κ (.exit 2) (f71.T1_e2 z8) (f71.H1_e2 z8)) (fun s5 s6 s7 => rec (f71.T1 s5 s6 s7) (f71.H1 s5 s6 s7)) (fun s9 s10 s11 s12 => evLp (E71 L N) (evCallI (E71 L N) 1 2000) 1000 71 78 4 f71.c2 (contAt (E71 L N) (evCallI (E71 L N) 1 2000) 1000 71 78 4 f71.c1 (stepK (outK (keepT 78 ((E71 L N).liveX 71 2).1) (keepH 1000 ((E71 L N).liveX 71 2).2) κ) fun t h => rec (backK 1000 78 ((E71 L N).live 71 2).1 ((E71 L N).live 71 2).2 ((E71 L N).heal 71 2) ((E71 L N).ren 71 2) t h).1 (backK 1000 78 ((E71 L N).live 71 2).1 ((E71 L N).live 71 2).2 ((E71 L N).heal 71 2) ((E71 L N).ren 71 2) t h).2)) L (f71.T2 s9 s10 s11 s12) (f71.H2 s9 s10 s11 s12)) s5 s6 s7 := by kernel_rfl
theorem f71.s1_eq {R : Type} (L N : Nat) (κ : Ex → T → H → Option R) (rec : T → H → Option R) (s5 : Bool) (s6 : LLM) (s7 : LB) :
    evRd (E71 L N) (evCallI (E71 L N) 1 2000) 1000 71 78 2 f71.c1 κ rec (f71.T1 s5 s6 s7) (f71.H1 s5 s6 s7)
    = f71.s1 L N (fun z8 => κ (.exit 2) (f71.T1_e2 z8) (f71.H1_e2 z8)) (fun s5 s6 s7 => rec (f71.T1 s5 s6 s7) (f71.H1 s5 s6 s7)) s5 s6 s7 := by
  rw [f71.s1_pre]
  unfold f71.s1
  simp only [f71.l2_eq, f71.p2_e4_eq]
theorem f71.l1_eq {R : Type} (L N : Nat) (κ : Ex → T → H → Option R) : ∀ (n : Nat) (s5 : Bool) (s6 : LLM) (s7 : LB),
    evLp (E71 L N) (evCallI (E71 L N) 1 2000) 1000 71 78 2 f71.c1 κ n (f71.T1 s5 s6 s7) (f71.H1 s5 s6 s7)
    = f71.l1 L N (fun z8 => κ (.exit 2) (f71.T1_e2 z8) (f71.H1_e2 z8)) n s5 s6 s7 := by
  intro n
  induction n with
  | zero => intros; rfl
  | succ n ih =>
    intro s5 s6 s7
    rw [evLp_succ, f71.s1_eq]
    simp only [ih]
    rfl
theorem f71.p1_e2_pre {R : Type} (L N : Nat) (κ : AV → Option R) (z8 : LB) :
    (contAt (E71 L N) (evCallI (E71 L N) 1 2000) 1000 71 78 2 (codeOf Try.f71) (finK (E71 L N) 1000 Try.f71 (finC (.one (.sl .bool)) κ))) (.exit 2) (f71.T1_e2 z8) (f71.H1_e2 z8)
    = f71.p1_e2' L N (fun a0 => κ (.tv (.sl .bool) a0)) z8 := by kernel_rfl
theorem f71.p1_e2_eq {R : Type} (L N : Nat) (κ : AV → Option R) (z8 : LB) :
    (contAt (E71 L N) (evCallI (E71 L N) 1 2000) 1000 71 78 2 (codeOf Try.f71) (finK (E71 L N) 1000 Try.f71 (finC (.one (.sl .bool)) κ))) (.exit 2) (f71.T1_e2 z8) (f71.H1_e2 z8)
    = f71.p1_e2 L N (fun a0 => κ (.tv (.sl .bool) a0)) z8 := by
  rw [f71.p1_e2_pre]
  unfold f71.p1_e2
  rfl
theorem f71.p0_e0_pre {R : Type} (L N : Nat) (κ : AV → Option R) (z3 : LLM) (z4 : LB) :
    (contAt (E71 L N) (evCallI (E71 L N) 1 2000) 1000 71 78 0 (codeOf Try.f71) (finK (E71 L N) 1000 Try.f71 (finC (.one (.sl .bool)) κ))) (.exit 0) (f71.T0_e0 z3 z4) (f71.H0_e0 z3 z4)
    = f71.p0_e0' L N (fun a0 => κ (.tv (.sl .bool) a0)) (fun s5 s6 s7 => evLp (E71 L N) (evCallI (E71 L N) 1 2000) 1000 71 78 2 f71.c1 (contAt (E71 L N) (evCallI (E71 L N) 1 2000) 1000 71 78 2 (codeOf Try.f71) (finK (E71 L N) 1000 Try.f71 (finC (.one (.sl .bool)) κ))) L (f71.T1 s5 s6 s7) (f71.H1 s5 s6 s7)) z3 z4 := by kernel_rfl
theorem f71.p0_e0_eq {R : Type} (L N : Nat) (κ : AV → Option R) (z3 : LLM) (z4 : LB) :
    (contAt (E71 L N) (evCallI (E71 L N) 1 2000) 1000 71 78 0 (codeOf Try.f71) (finK (E71 L N) 1000 Try.f71 (finC (.one (.sl .bool)) κ))) (.exit 0) (f71.T0_e0 z3 z4) (f71.H0_e0 z3 z4)
    = f71.p0_e0 L N (fun a0 => κ (.tv (.sl .bool) a0)) z3 z4 := by
  rw [f71.p0_e0_pre]
  unfold f71.p0_e0
  simp only [f71.l1_eq, f71.p1_e2_eq]
theorem f71.b_pre {R : Type} (L N : Nat) (κ : AV → Option R) (x0 : Graph) :
    evBody (E71 L N) (evCallI (E71 L N) 1 2000) 1000 71 Try.f71 [(.tv (.st 2) x0)] [] [] (finC (.one (.sl .bool)) κ)
    = f71.b' L N (fun a0 => κ (.tv (.sl .bool) a0)) (fun s0 s1 s2 => evLp (E71 L N) (evCallI (E71 L N) 1 2000) 1000 71 78 0 f71.c0 (contAt (E71 L N) (evCallI (E71 L N) 1 2000) 1000 71 78 0 (codeOf Try.f71) (finK (E71 L N) 1000 Try.f71 (finC (.one (.sl .bool)) κ))) L (f71.T0 s0 s1 s2) (f71.H0 s0 s1 s2)) x0 := by kernel_rfl
theorem f71.b_eq {R : Type} (L N : Nat) (κ : AV → Option R) (x0 : Graph) :
    evBody (E71 L N) (evCallI (E71 L N) 1 2000) 1000 71 Try.f71 [(.tv (.st 2) x0)] [] [] (finC (.one (.sl .bool)) κ)
    = f71.b L N (fun a0 => κ (.tv (.sl .bool) a0)) x0 := by
  rw [f71.b_pre]
  unfold f71.b
  simp only [f71.l0_eq, f71.p0_e0_eq]
theorem f71.s0'_nat {R R' : Type} (j : R → Option R') (L N : Nat) (k0_e0 : LLM → LB → Option R) (rec0 : Int → LLM → LB → Option R) (s0 : Int) (s1 : LLM) (s2 : LB) :
    f71.s0' L N (fun a0 a1 => (k0_e0 a0 a1).bind j) (fun a0 a1 a2 => (rec0 a0 a1 a2).bind j) s0 s1 s2 = (f71.s0' L N k0_e0 rec0 s0 s1 s2).bind j := by
  unfold f71.s0'
  repeat' (first | (with_reducible refine cond_nat ?_ ?_) | (with_reducible refine bind_nat fun _ => ?_) | rfl)
theorem f71.s0_nat {R R' : Type} (j : R → Option R') (L N : Nat) (k0_e0 : LLM → LB → Option R) (rec0 : Int → LLM → LB → Option R) (s0 : Int) (s1 : LLM) (s2 : LB) :
    f71.s0 L N (fun a0 a1 => (k0_e0 a0 a1).bind j) (fun a0 a1 a2 => (rec0 a0 a1 a2).bind j) s0 s1 s2 = (f71.s0 L N k0_e0 rec0 s0 s1 s2).bind j := by
  unfold f71.s0
  exact f71.s0'_nat ..
theorem f71.l0_nat {R R' : Type} (j : R → Option R') (L N : Nat) (k0_e0 : LLM → LB → Option R) : ∀ (n : Nat) (s0 : Int) (s1 : LLM) (s2 : LB),
    f71.l0 L N (fun a0 a1 => (k0_e0 a0 a1).bind j) n s0 s1 s2 = (f71.l0 L N k0_e0 n s0 s1 s2).bind j := by
  intro n
  induction n with
  | zero => intros; rfl
  | succ n ih =>
    intro s0 s1 s2
    show f71.s0 L N (fun a0 a1 => (k0_e0 a0 a1).bind j) (f71.l0 L N (fun a0 a1 => (k0_e0 a0 a1).bind j) n) s0 s1 s2 = _
    rw [show f71.l0 L N (fun a0 a1 => (k0_e0 a0 a1).bind j) n = (fun s0 s1 s2 => (f71.l0 L N k0_e0 n s0 s1 s2).bind j) from funext fun s0 => funext fun s1 => funext fun s2 => ih s0 s1 s2]
    exact f71.s0_nat ..
theorem f71.s3'_nat {R R' : Type} (j : R → Option R') (L N : Nat) (k3_e6 : Bool → Int → Bool → LLM → LB → Option R) (rec3 : Bool → Int → Bool → Int → LLM → LB → Option R) (s16 : Bool) (s17 : Int) (s18 : Bool) (s19 : Int) (s20 : LLM) (s21 : LB) :
    f71.s3' L N (fun a0 a1 a2 a3 a4 => (k3_e6 a0 a1 a2 a3 a4).bind j) (fun a0 a1 a2 a3 a4 a5 => (rec3 a0 a1 a2 a3 a4 a5).bind j) s16 s17 s18 s19 s20 s21 = (f71.s3' L N k3_e6 rec3 s16 s17 s18 s19 s20 s21).bind j := by
  unfold f71.s3'
  repeat' (first | (with_reducible refine cond_nat ?_ ?_) | (with_reducible refine bind_nat fun _ => ?_) | rfl)
theorem f71.s3_nat {R R' : Type} (j : R → Option R') (L N : Nat) (k3_e6 : Bool → Int → Bool → LLM → LB → Option R) (rec3 : Bool → Int → Bool → Int → LLM → LB → Option R) (s16 : Bool) (s17 : Int) (s18 : Bool) (s19 : Int) (s20 : LLM) (s21 : LB) :
    f71.s3 L N (fun a0 a1 a2 a3 a4 => (k3_e6 a0 a1 a2 a3 a4).bind j) (fun a0 a1 a2 a3 a4 a5 => (rec3 a0 a1 a2 a3 a4 a5).bind j) s16 s17 s18 s19 s20 s21 = (f71.s3 L N k3_e6 rec3 s16 s17 s18 s19 s20 s21).bind j := by
  unfold f71.s3
  exact f71.s3'_nat ..
theorem f71.l3_nat {R R' : Type} (j : R → Option R') (L N : Nat) (k3_e6 : Bool → Int → Bool → LLM → LB → Option R) : ∀ (n : Nat) (s16 : Bool) (s17 : Int) (s18 : Bool) (s19 : Int) (s20 : LLM) (s21 : LB),
    f71.l3 L N (fun a0 a1 a2 a3 a4 => (k3_e6 a0 a1 a2 a3 a4).bind j) n s16 s17 s18 s19 s20 s21 = (f71.l3 L N k3_e6 n s16 s17 s18 s19 s20 s21).bind j := by
  intro n
  induction n with
  | zero => intros; rfl
  | succ n ih =>
    intro s16 s17 s18 s19 s20 s21
    show f71.s3 L N (fun a0 a1 a2 a3 a4 => (k3_e6 a0 a1 a2 a3 a4).bind j) (f71.l3 L N (fun a0 a1 a2 a3 a4 => (k3_e6 a0 a1 a2 a3 a4).bind j) n) s16 s17 s18 s19 s20 s21 = _
    rw [show f71.l3 L N (fun a0 a1 a2 a3 a4 => (k3_e6 a0 a1 a2 a3 a4).bind j) n = (fun s16 s17 s18 s19 s20 s21 => (f71.l3 L N k3_e6 n s16 s17 s18 s19 s20 s21).bind j) from funext fun s16 => funext fun s17 => funext fun s18 => funext fun s19 => funext fun s20 => funext fun s21 => ih s16 s17 s18 s19 s20 s21]
    exact f71.s3_nat ..
theorem f71.j0'_nat {R R' : Type} (j : R → Option R') (L N : Nat) (k2_e4 : Bool → LLM → LB → Option R) (rec2 : Bool → Int → LLM → LB → Option R) (v33 : Bool) (v34 : Int) (v35 : Bool) (v36 : LLM) (v37 : LB) :
    f71.j0' L N (fun a0 a1 a2 => (k2_e4 a0 a1 a2).bind j) (fun a0 a1 a2 a3 => (rec2 a0 a1 a2 a3).bind j) v33 v34 v35 v36 v37 = (f71.j0' L N k2_e4 rec2 v33 v34 v35 v36 v37).bind j := by
  unfold f71.j0'
  repeat' (first | (with_reducible refine cond_nat ?_ ?_) | (with_reducible refine bind_nat fun _ => ?_) | rfl)
theorem f71.p3_e6'_nat {R R' : Type} (j : R → Option R') (L N : Nat) (k2_e4 : Bool → LLM → LB → Option R) (rec2 : Bool → Int → LLM → LB → Option R) (z22 : Bool) (z23 : Int) (z24 : Bool) (z25 : LLM) (z26 : LB) :
    f71.p3_e6' L N (fun a0 a1 a2 => (k2_e4 a0 a1 a2).bind j) (fun a0 a1 a2 a3 => (rec2 a0 a1 a2 a3).bind j) z22 z23 z24 z25 z26 = (f71.p3_e6' L N k2_e4 rec2 z22 z23 z24 z25 z26).bind j := by
  unfold f71.p3_e6'
  repeat' (first | (with_reducible refine cond_nat ?_ ?_) | (with_reducible refine bind_nat fun _ => ?_) | exact f71.j0'_nat .. | rfl)
end Go.Proofs.Ytdfjdbpklbehoaa.Ev
