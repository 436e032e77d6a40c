/- The seat's functions as plain functions, continued: made by program (wip/gen/gen.py). -/
import Derived.Test.YthkonljgjjlloaaGW14a
namespace Go.Proofs.Ythkonljgjjlloaa.Ev
open Go
set_option linter.unusedVariables false
set_option maxRecDepth 20000
def f105.p2_e4' {R : Type} (L N : Nat) (k1_e2 : LT → Int → LT → LY → LM → LLM → Option R) (k1_r : LT → Bool → Int → LT → LY → LM → LLM → Option R) (rec1 : LT → Int → Int → LT → LY → LS → LM → LLM → Option R) (z44 : LT) (z45 : Int) (z46 : Int) (z47 : ByteArray) (z48 : Int) (z49 : LT) (z50 : LY) (z51 : LS) (z52 : LM) (z53 : LLM) : Option R :=
  bif (z48 == (z50.length : Int)) then
    bif (z48 == (60 : Int)) then
      k1_r z44 false z45 z49 z50 z52 z53
    else bif (decide (0 ≤ z46) && decide (z46 < (z51.length : Int))) then
      (f113 L N N (Tree.mk ((listAt z51 (Ty.dflt (.st 3)) z46.toNat).thn.op) ((listAt z51 (Ty.dflt (.st 3)) z46.toNat).thn.n) ((listAt z51 (Ty.dflt (.st 3)) z46.toNat).thn.parts))).bind fun y64 =>
      bif (decide (y64 > (24 : Int))) then
        k1_r z44 false z45 z49 z50 z52 z53
      else f105.j0' L N k1_e2 k1_r rec1 z44 z45 z46 z47 z48 z49 z50 z51 z52 z53
    else none
  else f105.j1' L N k1_e2 k1_r rec1 z44 z45 z46 z48 z49 z50 z51 z52 z53
def f105.p2_e4 {R : Type} (L N : Nat) (k1_e2 : LT → Int → LT → LY → LM → LLM → Option R) (k1_r : LT → Bool → Int → LT → LY → LM → LLM → Option R) (rec1 : LT → Int → Int → LT → LY → LS → LM → LLM → Option R) (z44 : LT) (z45 : Int) (z46 : Int) (z47 : ByteArray) (z48 : Int) (z49 : LT) (z50 : LY) (z51 : LS) (z52 : LM) (z53 : LLM) : Option R :=
  f105.p2_e4' L N k1_e2 k1_r rec1 z44 z45 z46 z47 z48 z49 z50 z51 z52 z53
def f105.s1' {R : Type} (L N : Nat) (k1_e2 : LT → Int → LT → LY → LM → LLM → Option R) (k1_r : LT → Bool → Int → LT → LY → LM → LLM → Option R) (rec1 : LT → Int → Int → LT → LY → LS → LM → LLM → Option R) (w2 : LT → Int → Int → ByteArray → Int → LT → LY → LS → LM → LLM → Option R) (s8 : LT) (s9 : Int) (s10 : Int) (s11 : LT) (s12 : LY) (s13 : LS) (s14 : LM) (s15 : LLM) : Option R :=
  bif (decide (s10 < (s13.length : Int))) then
    bif (decide (0 ≤ s10) && decide (s10 < (s13.length : Int))) then
      (f111 L N N (Tree.mk ((listAt s13 (Ty.dflt (.st 3)) s10.toNat).thn.op) ((listAt s13 (Ty.dflt (.st 3)) s10.toNat).thn.n) ((listAt s13 (Ty.dflt (.st 3)) s10.toNat).thn.parts))).bind fun y22 =>
      w2 s8 s9 s10 y22 (0 : Int) s11 s12 s13 s14 s15
    else none
  else k1_e2 s8 s9 s11 s12 s14 s15
def f105.s1 {R : Type} (L N : Nat) (k1_e2 : LT → Int → LT → LY → LM → LLM → Option R) (k1_r : LT → Bool → Int → LT → LY → LM → LLM → Option R) (rec1 : LT → Int → Int → LT → LY → LS → LM → LLM → Option R) (s8 : LT) (s9 : Int) (s10 : Int) (s11 : LT) (s12 : LY) (s13 : LS) (s14 : LM) (s15 : LLM) : Option R :=
  f105.s1' L N k1_e2 k1_r rec1 (fun s23 s24 s25 s26 s27 s28 s29 s30 s31 s32 => f105.l2 L N (fun z44 z45 z46 z47 z48 z49 z50 z51 z52 z53 => f105.p2_e4 L N k1_e2 k1_r rec1 z44 z45 z46 z47 z48 z49 z50 z51 z52 z53) L s23 s24 s25 s26 s27 s28 s29 s30 s31 s32) s8 s9 s10 s11 s12 s13 s14 s15
def f105.l1 {R : Type} (L N : Nat) (k1_e2 : LT → Int → LT → LY → LM → LLM → Option R) (k1_r : LT → Bool → Int → LT → LY → LM → LLM → Option R) : Nat → LT → Int → Int → LT → LY → LS → LM → LLM → Option R
  | 0, _, _, _, _, _, _, _, _ => none
  | n + 1, s8, s9, s10, s11, s12, s13, s14, s15 => f105.s1 L N k1_e2 k1_r (f105.l1 L N k1_e2 k1_r n) s8 s9 s10 s11 s12 s13 s14 s15
def f105.T1 (s8 : LT) (s9 : Int) (s10 : Int) (s11 : LT) (s12 : LY) (s13 : LS) (s14 : LM) (s15 : LLM) : T := mkT 106 [(1, (.tv (.sl (.st 1)) s8)), (4, (.ptr 1004 0)), (6, (.row 1016)), (7, (.row 1019)), (8, (.ptr 1008 0)), (9, (.tv i64 s9)), (10, (.row 1032)), (11, (.row 1033)), (12, (.tv i64 s10))]
def f105.H1 (s8 : LT) (s9 : Int) (s10 : Int) (s11 : LT) (s12 : LY) (s13 : LS) (s14 : LM) (s15 : LLM) : H := [(1004, (.box [.nil])), (1008, (.box [(.row 1900)])), (1016, (.row 102 (.st 1) s11)), (1019, (.row 9 .str s12)), (1032, (.row 125 (.st 3) s13)), (1033, (.row 64 (.st 0) s14)), (1900, (.row 62 (.sl (.st 0)) s15))]
def f105.T1_e2 (z16 : LT) (z17 : Int) (z18 : LT) (z19 : LY) (z20 : LM) (z21 : LLM) : T := mkT 106 [(1, (.tv (.sl (.st 1)) z16)), (4, (.ptr 1004 0)), (6, (.row 1016)), (7, (.row 1019)), (8, (.ptr 1008 0)), (9, (.tv i64 z17)), (11, (.row 1033))]
def f105.H1_e2 (z16 : LT) (z17 : Int) (z18 : LT) (z19 : LY) (z20 : LM) (z21 : LLM) : H := [(1004, (.box [.nil])), (1008, (.box [(.row 1900)])), (1016, (.row 102 (.st 1) z18)), (1019, (.row 9 .str z19)), (1033, (.row 64 (.st 0) z20)), (1900, (.row 62 (.sl (.st 0)) z21))]
def f105.T1_r (z76 : LT) (z77 : Bool) (z78 : Int) (z79 : LT) (z80 : LY) (z81 : LM) (z82 : LLM) : T := mkT 106 [(1, (.tv (.sl (.st 1)) z76)), (4, (.ptr 1004 0)), (5, (.tv .bool z77)), (6, (.row 1016)), (7, (.row 1019)), (8, (.ptr 1008 0)), (9, (.tv i64 z78)), (11, (.row 1033))]
def f105.H1_r (z76 : LT) (z77 : Bool) (z78 : Int) (z79 : LT) (z80 : LY) (z81 : LM) (z82 : LLM) : H := [(1004, (.box [.nil])), (1008, (.box [(.row 1900)])), (1016, (.row 102 (.st 1) z79)), (1019, (.row 9 .str z80)), (1033, (.row 64 (.st 0) z81)), (1900, (.row 62 (.sl (.st 0)) z82))]
def f105.p1_e2' {R : Type} (L N : Nat) (k0_e0 : LLM → Option R) (k0_r : Bool → LLM → Option R) (rec0 : LT → Int → LT → LY → LLM → Option R) (z16 : LT) (z17 : Int) (z18 : LT) (z19 : LY) (z20 : LM) (z21 : LLM) : Option R :=
  (f106 L N z20).bind fun y104 =>
  bif (decide (z21.length + ([y104] : LLM).length ≤ lim)) then
    rec0 z16 (wi (z17 + (1 : Int))) z18 z19 (z21 ++ ([y104] : LLM))
  else none
def f105.p1_e2 {R : Type} (L N : Nat) (k0_e0 : LLM → Option R) (k0_r : Bool → LLM → Option R) (rec0 : LT → Int → LT → LY → LLM → Option R) (z16 : LT) (z17 : Int) (z18 : LT) (z19 : LY) (z20 : LM) (z21 : LLM) : Option R :=
  f105.p1_e2' L N k0_e0 k0_r rec0 z16 z17 z18 z19 z20 z21
def f105.p1_r' {R : Type} (L N : Nat) (k0_e0 : LLM → Option R) (k0_r : Bool → LLM → Option R) (rec0 : LT → Int → LT → LY → LLM → Option R) (z76 : LT) (z77 : Bool) (z78 : Int) (z79 : LT) (z80 : LY) (z81 : LM) (z82 : LLM) : Option R :=
  k0_r z77 z82
def f105.p1_r {R : Type} (L N : Nat) (k0_e0 : LLM → Option R) (k0_r : Bool → LLM → Option R) (rec0 : LT → Int → LT → LY → LLM → Option R) (z76 : LT) (z77 : Bool) (z78 : Int) (z79 : LT) (z80 : LY) (z81 : LM) (z82 : LLM) : Option R :=
  f105.p1_r' L N k0_e0 k0_r rec0 z76 z77 z78 z79 z80 z81 z82
def f105.s0' {R : Type} (L N : Nat) (k0_e0 : LLM → Option R) (k0_r : Bool → LLM → Option R) (rec0 : LT → Int → LT → LY → LLM → Option R) (w1 : LT → Int → Int → LT → LY → LS → LM → LLM → Option R) (s1 : LT) (s2 : Int) (s3 : LT) (s4 : LY) (s5 : LLM) : Option R :=
  bif (decide (s2 < (s3.length : Int))) then
    bif (decide (0 ≤ s2) && decide (s2 < (s3.length : Int))) then
      (f112 L N N (listAt s3 (Ty.dflt (.st 1)) s2.toNat) s1).bind fun y7 =>
      w1 s1 s2 (0 : Int) s3 s4 y7 ([] : LM) s5
    else none
  else k0_e0 s5
def f105.s0 {R : Type} (L N : Nat) (k0_e0 : LLM → Option R) (k0_r : Bool → LLM → Option R) (rec0 : LT → Int → LT → LY → LLM → Option R) (s1 : LT) (s2 : Int) (s3 : LT) (s4 : LY) (s5 : LLM) : Option R :=
  f105.s0' L N k0_e0 k0_r rec0 (fun s8 s9 s10 s11 s12 s13 s14 s15 => f105.l1 L N (fun z16 z17 z18 z19 z20 z21 => f105.p1_e2 L N k0_e0 k0_r rec0 z16 z17 z18 z19 z20 z21) (fun z76 z77 z78 z79 z80 z81 z82 => f105.p1_r L N k0_e0 k0_r rec0 z76 z77 z78 z79 z80 z81 z82) L s8 s9 s10 s11 s12 s13 s14 s15) s1 s2 s3 s4 s5
def f105.l0 {R : Type} (L N : Nat) (k0_e0 : LLM → Option R) (k0_r : Bool → LLM → Option R) : Nat → LT → Int → LT → LY → LLM → Option R
  | 0, _, _, _, _, _ => none
  | n + 1, s1, s2, s3, s4, s5 => f105.s0 L N k0_e0 k0_r (f105.l0 L N k0_e0 k0_r n) s1 s2 s3 s4 s5
def f105.T0 (s1 : LT) (s2 : Int) (s3 : LT) (s4 : LY) (s5 : LLM) : T := mkT 106 [(1, (.tv (.sl (.st 1)) s1)), (4, (.ptr 1004 0)), (6, (.row 1016)), (7, (.row 1019)), (8, (.ptr 1008 0)), (9, (.tv i64 s2))]
def f105.H0 (s1 : LT) (s2 : Int) (s3 : LT) (s4 : LY) (s5 : LLM) : H := [(1004, (.box [.nil])), (1008, (.box [(.row 1900)])), (1016, (.row 102 (.st 1) s3)), (1019, (.row 9 .str s4)), (1900, (.row 62 (.sl (.st 0)) s5))]
def f105.T0_e0 (z6 : LLM) : T := mkT 106 [(4, (.ptr 1004 0)), (8, (.ptr 1008 0))]
def f105.H0_e0 (z6 : LLM) : H := [(1004, (.box [.nil])), (1008, (.box [(.row 1900)])), (1900, (.row 62 (.sl (.st 0)) z6))]
def f105.T0_r (z102 : Bool) (z103 : LLM) : T := mkT 106 [(4, (.ptr 1004 0)), (5, (.tv .bool z102)), (8, (.ptr 1008 0))]
def f105.H0_r (z102 : Bool) (z103 : LLM) : H := [(1004, (.box [.nil])), (1008, (.box [(.row 1900)])), (1900, (.row 62 (.sl (.st 0)) z103))]
def f105.p0_e0' {R : Type} (L N : Nat) (k : Graph → Bool → Option R) (z6 : LLM) : Option R :=
  k (Graph.mk z6) true
def f105.p0_e0 {R : Type} (L N : Nat) (k : Graph → Bool → Option R) (z6 : LLM) : Option R :=
  f105.p0_e0' L N k z6
def f105.p0_r' {R : Type} (L N : Nat) (k : Graph → Bool → Option R) (z102 : Bool) (z103 : LLM) : Option R :=
  k (Graph.mk []) z102
def f105.p0_r {R : Type} (L N : Nat) (k : Graph → Bool → Option R) (z102 : Bool) (z103 : LLM) : Option R :=
  f105.p0_r' L N k z102 z103
def f105.b' {R : Type} (L N : Nat) (k : Graph → Bool → Option R) (w0 : LT → Int → LT → LY → LLM → Option R) (x0 : Tree) (x1 : LT) : Option R :=
  (f111 L N N (Tree.mk x0.op x0.n x0.parts)).bind fun y0 =>
  w0 x1 (0 : Int) ([(Tree.mk x0.op x0.n x0.parts)] : LT) ([y0] : LY) ([] : LLM)
def f105.b {R : Type} (L N : Nat) (k : Graph → Bool → Option R) (x0 : Tree) (x1 : LT) : Option R :=
  f105.b' L N k (fun s1 s2 s3 s4 s5 => f105.l0 L N (fun z6 => f105.p0_e0 L N k z6) (fun z102 z103 => f105.p0_r L N k z102 z103) L s1 s2 s3 s4 s5) x0 x1
def f105 (L N : Nat) (x0 : Tree) (x1 : LT) : Option (Graph × Bool) := f105.b L N (fun a0 a1 => some (a0, a1)) x0 x1
def f105.ent (L N : Nat) (args : List AV) (vw : View) (site : Nat) : Ans := match coeD [(.st 1), (.sl (.st 1))] vw args with
  | some (d, u) => ⟨Graph × Bool, f105 L N d.1 d.2.1, fun y => ((.tup [(.tv (.st 2) y.1), (.tv .bool y.2)]), u, [])⟩
  | none => Ans.no
noncomputable def E105 (L N : Nat) : Env := { P := Try.prog, ty := tyOf, Φ := (Φ112 L N), inl := inlT, live := lives, liveX := livesX, L := L, dp := none, prom := promT, heal := healT, ren := renT }
noncomputable def f105.c0 : Code := loopAt 0 (codeOf Try.f105)
noncomputable def f105.c1 : Code := loopAt 2 f105.c0
noncomputable def f105.c2 : Code := loopAt 4 f105.c1
theorem f105.s2_eq {R : Type} (L N : Nat) (κ : Ex → T → H → Option R) (rec : T → H → Option R) (s23 : LT) (s24 : Int) (s25 : Int) (s26 : ByteArray) (s27 : Int) (s28 : LT) (s29 : LY) (s30 : LS) (s31 : LM) (s32 : LLM) :
    evRd (E105 L N) (evCallI (E105 L N) 0 1000) 1000 105 106 4 f105.c2 κ rec (f105.T2 s23 s24 s25 s26 s27 s28 s29 s30 s31 s32) (f105.H2 s23 s24 s25 s26 s27 s28 s29 s30 s31 s32)
    = f105.s2 L N (fun z44 z45 z46 z47 z48 z49 z50 z51 z52 z53 => κ (.exit 4) (f105.T2_e4 z44 z45 z46 z47 z48 z49 z50 z51 z52 z53) (f105.H2_e4 z44 z45 z46 z47 z48 z49 z50 z51 z52 z53)) (fun s23 s24 s25 s26 s27 s28 s29 s30 s31 s32 => rec (f105.T2 s23 s24 s25 s26 s27 s28 s29 s30 s31 s32) (f105.H2 s23 s24 s25 s26 s27 s28 s29 s30 s31 s32)) s23 s24 s25 s26 s27 s28 s29 s30 s31 s32 := by kernel_rfl
theorem f105.l2_eq {R : Type} (L N : Nat) (κ : Ex → T → H → Option R) : ∀ (n : Nat) (s23 : LT) (s24 : Int) (s25 : Int) (s26 : ByteArray) (s27 : Int) (s28 : LT) (s29 : LY) (s30 : LS) (s31 : LM) (s32 : LLM),
    evLp (E105 L N) (evCallI (E105 L N) 0 1000) 1000 105 106 4 f105.c2 κ n (f105.T2 s23 s24 s25 s26 s27 s28 s29 s30 s31 s32) (f105.H2 s23 s24 s25 s26 s27 s28 s29 s30 s31 s32)
    = f105.l2 L N (fun z44 z45 z46 z47 z48 z49 z50 z51 z52 z53 => κ (.exit 4) (f105.T2_e4 z44 z45 z46 z47 z48 z49 z50 z51 z52 z53) (f105.H2_e4 z44 z45 z46 z47 z48 z49 z50 z51 z52 z53)) n s23 s24 s25 s26 s27 s28 s29 s30 s31 s32 := by
  intro n
  induction n with
  | zero => intros; rfl
  | succ n ih =>
    intro s23 s24 s25 s26 s27 s28 s29 s30 s31 s32
    rw [evLp_succ, f105.s2_eq]
    simp only [ih]
    rfl
theorem f105.p2_e4_eq {R : Type} (L N : Nat) (κ : Ex → T → H → Option R) (rec : T → H → Option R) (z44 : LT) (z45 : Int) (z46 : Int) (z47 : ByteArray) (z48 : Int) (z49 : LT) (z50 : LY) (z51 : LS) (z52 : LM) (z53 : LLM) :
    (contAt (E105 L N) (evCallI (E105 L N) 0 1000) 1000 105 106 4 f105.c1 (rdK (E105 L N) 1000 105 106 2 κ rec)) (.exit 4) (f105.T2_e4 z44 z45 z46 z47 z48 z49 z50 z51 z52 z53) (f105.H2_e4 z44 z45 z46 z47 z48 z49 z50 z51 z52 z53)
    = f105.p2_e4 L N (fun z16 z17 z18 z19 z20 z21 => κ (.exit 2) (f105.T1_e2 z16 z17 z18 z19 z20 z21) (f105.H1_e2 z16 z17 z18 z19 z20 z21)) (fun z76 z77 z78 z79 z80 z81 z82 => κ .ret (f105.T1_r z76 z77 z78 z79 z80 z81 z82) (f105.H1_r z76 z77 z78 z79 z80 z81 z82)) (fun s8 s9 s10 s11 s12 s13 s14 s15 => rec (f105.T1 s8 s9 s10 s11 s12 s13 s14 s15) (f105.H1 s8 s9 s10 s11 s12 s13 s14 s15)) z44 z45 z46 z47 z48 z49 z50 z51 z52 z53 := by kernel_rfl
theorem f105.s1_eq {R : Type} (L N : Nat) (κ : Ex → T → H → Option R) (rec : T → H → Option R) (s8 : LT) (s9 : Int) (s10 : Int) (s11 : LT) (s12 : LY) (s13 : LS) (s14 : LM) (s15 : LLM) :
    evRd (E105 L N) (evCallI (E105 L N) 0 1000) 1000 105 106 2 f105.c1 κ rec (f105.T1 s8 s9 s10 s11 s12 s13 s14 s15) (f105.H1 s8 s9 s10 s11 s12 s13 s14 s15)
    = f105.s1 L N (fun z16 z17 z18 z19 z20 z21 => κ (.exit 2) (f105.T1_e2 z16 z17 z18 z19 z20 z21) (f105.H1_e2 z16 z17 z18 z19 z20 z21)) (fun z76 z77 z78 z79 z80 z81 z82 => κ .ret (f105.T1_r z76 z77 z78 z79 z80 z81 z82) (f105.H1_r z76 z77 z78 z79 z80 z81 z82)) (fun s8 s9 s10 s11 s12 s13 s14 s15 => rec (f105.T1 s8 s9 s10 s11 s12 s13 s14 s15) (f105.H1 s8 s9 s10 s11 s12 s13 s14 s15)) s8 s9 s10 s11 s12 s13 s14 s15 := by
  refine Eq.trans (b := f105.s1' L N (fun z16 z17 z18 z19 z20 z21 => κ (.exit 2) (f105.T1_e2 z16 z17 z18 z19 z20 z21) (f105.H1_e2 z16 z17 z18 z19 z20 z21)) (fun z76 z77 z78 z79 z80 z81 z82 => κ .ret (f105.T1_r z76 z77 z78 z79 z80 z81 z82) (f105.H1_r z76 z77 z78 z79 z80 z81 z82)) (fun s8 s9 s10 s11 s12 s13 s14 s15 => rec (f105.T1 s8 s9 s10 s11 s12 s13 s14 s15) (f105.H1 s8 s9 s10 s11 s12 s13 s14 s15)) (fun s23 s24 s25 s26 s27 s28 s29 s30 s31 s32 => evLp (E105 L N) (evCallI (E105 L N) 0 1000) 1000 105 106 4 f105.c2 (contAt (E105 L N) (evCallI (E105 L N) 0 1000) 1000 105 106 4 f105.c1 (rdK (E105 L N) 1000 105 106 2 κ rec)) L (f105.T2 s23 s24 s25 s26 s27 s28 s29 s30 s31 s32) (f105.H2 s23 s24 s25 s26 s27 s28 s29 s30 s31 s32)) s8 s9 s10 s11 s12 s13 s14 s15) (by kernel_rfl) ?_
  unfold f105.s1
  simp only [f105.l2_eq, f105.p2_e4_eq]
theorem f105.l1_eq {R : Type} (L N : Nat) (κ : Ex → T → H → Option R) : ∀ (n : Nat) (s8 : LT) (s9 : Int) (s10 : Int) (s11 : LT) (s12 : LY) (s13 : LS) (s14 : LM) (s15 : LLM),
    evLp (E105 L N) (evCallI (E105 L N) 0 1000) 1000 105 106 2 f105.c1 κ n (f105.T1 s8 s9 s10 s11 s12 s13 s14 s15) (f105.H1 s8 s9 s10 s11 s12 s13 s14 s15)
    = f105.l1 L N (fun z16 z17 z18 z19 z20 z21 => κ (.exit 2) (f105.T1_e2 z16 z17 z18 z19 z20 z21) (f105.H1_e2 z16 z17 z18 z19 z20 z21)) (fun z76 z77 z78 z79 z80 z81 z82 => κ .ret (f105.T1_r z76 z77 z78 z79 z80 z81 z82) (f105.H1_r z76 z77 z78 z79 z80 z81 z82)) n s8 s9 s10 s11 s12 s13 s14 s15 := by
  intro n
  induction n with
  | zero => intros; rfl
  | succ n ih =>
    intro s8 s9 s10 s11 s12 s13 s14 s15
    rw [evLp_succ, f105.s1_eq]
    simp only [ih]
    rfl
theorem f105.p1_e2_eq {R : Type} (L N : Nat) (κ : Ex → T → H → Option R) (rec : T → H → Option R) (z16 : LT) (z17 : Int) (z18 : LT) (z19 : LY) (z20 : LM) (z21 : LLM) :
    (contAt (E105 L N) (evCallI (E105 L N) 0 1000) 1000 105 106 2 f105.c0 (rdK (E105 L N) 1000 105 106 0 κ rec)) (.exit 2) (f105.T1_e2 z16 z17 z18 z19 z20 z21) (f105.H1_e2 z16 z17 z18 z19 z20 z21)
    = f105.p1_e2 L N (fun z6 => κ (.exit 0) (f105.T0_e0 z6) (f105.H0_e0 z6)) (fun z102 z103 => κ .ret (f105.T0_r z102 z103) (f105.H0_r z102 z103)) (fun s1 s2 s3 s4 s5 => rec (f105.T0 s1 s2 s3 s4 s5) (f105.H0 s1 s2 s3 s4 s5)) z16 z17 z18 z19 z20 z21 := by kernel_rfl
theorem f105.p1_r_eq {R : Type} (L N : Nat) (κ : Ex → T → H → Option R) (rec : T → H → Option R) (z76 : LT) (z77 : Bool) (z78 : Int) (z79 : LT) (z80 : LY) (z81 : LM) (z82 : LLM) :
    (contAt (E105 L N) (evCallI (E105 L N) 0 1000) 1000 105 106 2 f105.c0 (rdK (E105 L N) 1000 105 106 0 κ rec)) .ret (f105.T1_r z76 z77 z78 z79 z80 z81 z82) (f105.H1_r z76 z77 z78 z79 z80 z81 z82)
    = f105.p1_r L N (fun z6 => κ (.exit 0) (f105.T0_e0 z6) (f105.H0_e0 z6)) (fun z102 z103 => κ .ret (f105.T0_r z102 z103) (f105.H0_r z102 z103)) (fun s1 s2 s3 s4 s5 => rec (f105.T0 s1 s2 s3 s4 s5) (f105.H0 s1 s2 s3 s4 s5)) z76 z77 z78 z79 z80 z81 z82 := by kernel_rfl
theorem f105.s0_eq {R : Type} (L N : Nat) (κ : Ex → T → H → Option R) (rec : T → H → Option R) (s1 : LT) (s2 : Int) (s3 : LT) (s4 : LY) (s5 : LLM) :
    evRd (E105 L N) (evCallI (E105 L N) 0 1000) 1000 105 106 0 f105.c0 κ rec (f105.T0 s1 s2 s3 s4 s5) (f105.H0 s1 s2 s3 s4 s5)
    = f105.s0 L N (fun z6 => κ (.exit 0) (f105.T0_e0 z6) (f105.H0_e0 z6)) (fun z102 z103 => κ .ret (f105.T0_r z102 z103) (f105.H0_r z102 z103)) (fun s1 s2 s3 s4 s5 => rec (f105.T0 s1 s2 s3 s4 s5) (f105.H0 s1 s2 s3 s4 s5)) s1 s2 s3 s4 s5 := by
  refine Eq.trans (b := f105.s0' L N (fun z6 => κ (.exit 0) (f105.T0_e0 z6) (f105.H0_e0 z6)) (fun z102 z103 => κ .ret (f105.T0_r z102 z103) (f105.H0_r z102 z103)) (fun s1 s2 s3 s4 s5 => rec (f105.T0 s1 s2 s3 s4 s5) (f105.H0 s1 s2 s3 s4 s5)) (fun s8 s9 s10 s11 s12 s13 s14 s15 => evLp (E105 L N) (evCallI (E105 L N) 0 1000) 1000 105 106 2 f105.c1 (contAt (E105 L N) (evCallI (E105 L N) 0 1000) 1000 105 106 2 f105.c0 (rdK (E105 L N) 1000 105 106 0 κ rec)) L (f105.T1 s8 s9 s10 s11 s12 s13 s14 s15) (f105.H1 s8 s9 s10 s11 s12 s13 s14 s15)) s1 s2 s3 s4 s5) (by kernel_rfl) ?_
  unfold f105.s0
  simp only [f105.l1_eq, f105.p1_e2_eq, f105.p1_r_eq]
theorem f105.l0_eq {R : Type} (L N : Nat) (κ : Ex → T → H → Option R) : ∀ (n : Nat) (s1 : LT) (s2 : Int) (s3 : LT) (s4 : LY) (s5 : LLM),
    evLp (E105 L N) (evCallI (E105 L N) 0 1000) 1000 105 106 0 f105.c0 κ n (f105.T0 s1 s2 s3 s4 s5) (f105.H0 s1 s2 s3 s4 s5)
    = f105.l0 L N (fun z6 => κ (.exit 0) (f105.T0_e0 z6) (f105.H0_e0 z6)) (fun z102 z103 => κ .ret (f105.T0_r z102 z103) (f105.H0_r z102 z103)) n s1 s2 s3 s4 s5 := by
  intro n
  induction n with
  | zero => intros; rfl
  | succ n ih =>
    intro s1 s2 s3 s4 s5
    rw [evLp_succ, f105.s0_eq]
    simp only [ih]
    rfl
theorem f105.p0_e0_eq {R : Type} (L N : Nat) (κ : AV → Option R) (z6 : LLM) :
    (contAt (E105 L N) (evCallI (E105 L N) 0 1000) 1000 105 106 0 (codeOf Try.f105) (finK (E105 L N) 1000 Try.f105 (finC (.many [(.st 2), .bool]) κ))) (.exit 0) (f105.T0_e0 z6) (f105.H0_e0 z6)
    = f105.p0_e0 L N (fun a0 a1 => κ (.tup [(.tv (.st 2) a0), (.tv .bool a1)])) z6 := by kernel_rfl
theorem f105.p0_r_eq {R : Type} (L N : Nat) (κ : AV → Option R) (z102 : Bool) (z103 : LLM) :
    (contAt (E105 L N) (evCallI (E105 L N) 0 1000) 1000 105 106 0 (codeOf Try.f105) (finK (E105 L N) 1000 Try.f105 (finC (.many [(.st 2), .bool]) κ))) .ret (f105.T0_r z102 z103) (f105.H0_r z102 z103)
    = f105.p0_r L N (fun a0 a1 => κ (.tup [(.tv (.st 2) a0), (.tv .bool a1)])) z102 z103 := by kernel_rfl
theorem f105.b_eq {R : Type} (L N : Nat) (κ : AV → Option R) (x0 : Tree) (x1 : LT) :
    evBody (E105 L N) (evCallI (E105 L N) 0 1000) 1000 105 Try.f105 [(.tv (.st 1) x0), (.tv (.sl (.st 1)) x1)] [] [] (finC (.many [(.st 2), .bool]) κ)
    = f105.b L N (fun a0 a1 => κ (.tup [(.tv (.st 2) a0), (.tv .bool a1)])) x0 x1 := by
  refine Eq.trans (b := f105.b' L N (fun a0 a1 => κ (.tup [(.tv (.st 2) a0), (.tv .bool a1)])) (fun s1 s2 s3 s4 s5 => evLp (E105 L N) (evCallI (E105 L N) 0 1000) 1000 105 106 0 f105.c0 (contAt (E105 L N) (evCallI (E105 L N) 0 1000) 1000 105 106 0 (codeOf Try.f105) (finK (E105 L N) 1000 Try.f105 (finC (.many [(.st 2), .bool]) κ))) L (f105.T0 s1 s2 s3 s4 s5) (f105.H0 s1 s2 s3 s4 s5)) x0 x1) (by kernel_rfl) ?_
  unfold f105.b
  simp only [f105.l0_eq, f105.p0_e0_eq, f105.p0_r_eq]
theorem f105.ok (L N : Nat) (hΦ : TellsOk Try.prog ((Φ112 L N))) : EntOk Try.prog 105 (f105.ent L N) := by
  intro args vw site h
  unfold f105.ent
  split
  · rename_i d u ha
    intro y hy hs
    refine call_data (dep := 1000) (E := (E105 L N)) (rs := (.many [(.st 2), .bool])) (κ := unR (.many [(.st 2), .bool])) (sound_of hΦ) okP (callI_sound (sound_of hΦ) okP 0 1000) (f := Try.f105) rfl hs ha ?_ (fun _ h => unR_some h) site
    exact (f105.b_eq L N (unR (.many [(.st 2), .bool])) d.1 d.2.1).trans (Eq.trans (b := f105.b L N (fun a0 a1 => some (a0, a1)) d.1 d.2.1) (by kernel_rfl) hy)
  · intro y hy
    cases hy
def Φ105 (L N : Nat) : Tells := (addT (Φ112 L N) 105 (f105.ent L N))
theorem Φ105_ok (L N : Nat) : TellsOk Try.prog (Φ105 L N) := addT_ok (Φ112_ok L N) (f105.ok L N (Φ112_ok L N))
def f89.b' {R : Type} (L N : Nat) (k : Graph → Bool → Option R) (x0 : Tree) (x1 : LT) : Option R :=
  (f104 L N (Tree.mk x0.op x0.n x0.parts) x1).bind fun y0 =>
  bif (!y0) then
    k (Graph.mk []) false
  else (f105 L N (Tree.mk x0.op x0.n x0.parts) x1).bind fun y1 =>
  k (Graph.mk y1.1.moves) y1.2
def f89.b {R : Type} (L N : Nat) (k : Graph → Bool → Option R) (x0 : Tree) (x1 : LT) : Option R :=
  f89.b' L N k x0 x1
def f89 (L N : Nat) (x0 : Tree) (x1 : LT) : Option (Graph × Bool) := f89.b L N (fun a0 a1 => some (a0, a1)) x0 x1
def f89.ent (L N : Nat) (args : List AV) (vw : View) (site : Nat) : Ans := match coeD [(.st 1), (.sl (.st 1))] vw args with
  | some (d, u) => ⟨Graph × Bool, f89 L N d.1 d.2.1, fun y => ((.tup [(.tv (.st 2) y.1), (.tv .bool y.2)]), u, [])⟩
  | none => Ans.no
noncomputable def E89 (L N : Nat) : Env := { P := Try.prog, ty := tyOf, Φ := (Φ105 L N), inl := inlT, live := lives, liveX := livesX, L := L, dp := none, prom := promT, heal := healT, ren := renT }
theorem f89.b_eq {R : Type} (L N : Nat) (κ : AV → Option R) (x0 : Tree) (x1 : LT) :
    evBody (E89 L N) (evCallI (E89 L N) 0 1000) 1000 89 Try.f89 [(.tv (.st 1) x0), (.tv (.sl (.st 1)) x1)] [] [] (finC (.many [(.st 2), .bool]) κ)
    = f89.b L N (fun a0 a1 => κ (.tup [(.tv (.st 2) a0), (.tv .bool a1)])) x0 x1 := by kernel_rfl
theorem f89.ok (L N : Nat) (hΦ : TellsOk Try.prog ((Φ105 L N))) : EntOk Try.prog 89 (f89.ent L N) := by
  intro args vw site h
  unfold f89.ent
  split
  · rename_i d u ha
    intro y hy hs
    refine call_data (dep := 1000) (E := (E89 L N)) (rs := (.many [(.st 2), .bool])) (κ := unR (.many [(.st 2), .bool])) (sound_of hΦ) okP (callI_sound (sound_of hΦ) okP 0 1000) (f := Try.f89) rfl hs ha ?_ (fun _ h => unR_some h) site
    exact (f89.b_eq L N (unR (.many [(.st 2), .bool])) d.1 d.2.1).trans (Eq.trans (b := f89.b L N (fun a0 a1 => some (a0, a1)) d.1 d.2.1) (by kernel_rfl) hy)
  · intro y hy
    cases hy
def Φ89 (L N : Nat) : Tells := (addT (Φ105 L N) 89 (f89.ent L N))
theorem Φ89_ok (L N : Nat) : TellsOk Try.prog (Φ89 L N) := addT_ok (Φ105_ok L N) (f89.ok L N (Φ105_ok L N))
def f90.j0' {R : Type} (L N : Nat) (k1_e2 : Int → Bool → Int → LI → Int → LM → LLM → LLM → Option R) (rec1 : Int → Bool → Int → Int → LI → Int → LM → LLM → LLM → Option R) (v34 : Int) (v35 : Bool) (v36 : Int) (v37 : Int) (v38 : Int) (v39 : LI) (v40 : Int) (v41 : LM) (v42 : LLM) (v43 : LLM) : Option R :=
  (f56 L N v39 v40 v34).bind fun y44 =>
  bif (decide (v41.length + ([(Move.mk v38 y44.1)] : LM).length ≤ lim)) then
    rec1 v34 v35 v36 (wi (v37 - (1 : Int))) y44.2.1 y44.2.2 (v41 ++ ([(Move.mk v38 y44.1)] : LM)) v42 v43
  else none
def f90.s1' {R : Type} (L N : Nat) (k1_e2 : Int → Bool → Int → LI → Int → LM → LLM → LLM → Option R) (rec1 : Int → Bool → Int → Int → LI → Int → LM → LLM → LLM → Option R) (s15 : Int) (s16 : Bool) (s17 : Int) (s18 : Int) (s19 : LI) (s20 : Int) (s21 : LM) (s22 : LLM) (s23 : LLM) : Option R :=
  bif (decide (s18 > (0 : Int))) then
    (f56 L N s19 s20 (3 : Int)).bind fun y32 =>
    bif (!s16) then
      (f92 L N y32.2.1 y32.2.2).bind fun y33 =>
      f90.j0' L N k1_e2 rec1 s15 s16 s17 s18 y33.1 y33.2.1 y33.2.2 s21 s22 s23
    else f90.j0' L N k1_e2 rec1 s15 s16 s17 s18 y32.1 y32.2.1 y32.2.2 s21 s22 s23
  else k1_e2 s15 s16 s17 s19 s20 s21 s22 s23
def f90.s1 {R : Type} (L N : Nat) (k1_e2 : Int → Bool → Int → LI → Int → LM → LLM → LLM → Option R) (rec1 : Int → Bool → Int → Int → LI → Int → LM → LLM → LLM → Option R) (s15 : Int) (s16 : Bool) (s17 : Int) (s18 : Int) (s19 : LI) (s20 : Int) (s21 : LM) (s22 : LLM) (s23 : LLM) : Option R :=
  f90.s1' L N k1_e2 rec1 s15 s16 s17 s18 s19 s20 s21 s22 s23
def f90.l1 {R : Type} (L N : Nat) (k1_e2 : Int → Bool → Int → LI → Int → LM → LLM → LLM → Option R) : Nat → Int → Bool → Int → Int → LI → Int → LM → LLM → LLM → Option R
  | 0, _, _, _, _, _, _, _, _, _ => none
  | n + 1, s15, s16, s17, s18, s19, s20, s21, s22, s23 => f90.s1 L N k1_e2 (f90.l1 L N k1_e2 n) s15 s16 s17 s18 s19 s20 s21 s22 s23
def f90.T1 (s15 : Int) (s16 : Bool) (s17 : Int) (s18 : Int) (s19 : LI) (s20 : Int) (s21 : LM) (s22 : LLM) (s23 : LLM) : T := mkT 84 [(0, (.ptr 0 0)), (4, (.ptr 1004 0)), (5, (.ptr 1005 0)), (6, (.tv i64 s15)), (7, (.tv .bool s16)), (8, (.tv i64 s17)), (9, (.row 1025)), (10, (.tv i64 s18))] ++ [.ptr 0 0]
def f90.H1 (s15 : Int) (s16 : Bool) (s17 : Int) (s18 : Int) (s19 : LI) (s20 : Int) (s21 : LM) (s22 : LLM) (s23 : LLM) : H := [(0, (.box [(.tv (.sl (.int .u8)) s19), (.tv i64 s20)])), (1004, (.box [(.row 1900)])), (1005, (.box [(.row 1901)])), (1025, (.row 64 (.st 0) s21)), (1900, (.deep 0 (.sl (.st 0)) s22 none)), (1901, (.deep 0 (.sl (.st 0)) s23 none))]
def f90.T1_e2 (z24 : Int) (z25 : Bool) (z26 : Int) (z27 : LI) (z28 : Int) (z29 : LM) (z30 : LLM) (z31 : LLM) : T := mkT 84 [(0, (.ptr 0 0)), (4, (.ptr 1004 0)), (5, (.ptr 1005 0)), (6, (.tv i64 z24)), (7, (.tv .bool z25)), (8, (.tv i64 z26)), (9, (.row 1025))] ++ [.ptr 0 0]
def f90.H1_e2 (z24 : Int) (z25 : Bool) (z26 : Int) (z27 : LI) (z28 : Int) (z29 : LM) (z30 : LLM) (z31 : LLM) : H := [(0, (.box [(.tv (.sl (.int .u8)) z27), (.tv i64 z28)])), (1004, (.box [(.row 1900)])), (1005, (.box [(.row 1901)])), (1025, (.row 64 (.st 0) z29)), (1900, (.deep 0 (.sl (.st 0)) z30 none)), (1901, (.deep 0 (.sl (.st 0)) z31 none))]
def f90.p1_e2' {R : Type} (L N : Nat) (k0_e0 : Int → LI → Int → LLM → LLM → Option R) (rec0 : Int → Bool → Int → LI → Int → LLM → LLM → Option R) (z24 : Int) (z25 : Bool) (z26 : Int) (z27 : LI) (z28 : Int) (z29 : LM) (z30 : LLM) (z31 : LLM) : Option R :=
  (f106 L N z29).bind fun y45 =>
  bif (decide (z31.length + ([y45] : LLM).length ≤ lim)) then
    rec0 z24 z25 (wi (z26 + (1 : Int))) z27 z28 z30 (z31 ++ ([y45] : LLM))
  else none
def f90.p1_e2 {R : Type} (L N : Nat) (k0_e0 : Int → LI → Int → LLM → LLM → Option R) (rec0 : Int → Bool → Int → LI → Int → LLM → LLM → Option R) (z24 : Int) (z25 : Bool) (z26 : Int) (z27 : LI) (z28 : Int) (z29 : LM) (z30 : LLM) (z31 : LLM) : Option R :=
  f90.p1_e2' L N k0_e0 rec0 z24 z25 z26 z27 z28 z29 z30 z31
def f90.s0' {R : Type} (L N : Nat) (k0_e0 : Int → LI → Int → LLM → LLM → Option R) (rec0 : Int → Bool → Int → LI → Int → LLM → LLM → Option R) (w1 : Int → Bool → Int → Int → LI → Int → LM → LLM → LLM → Option R) (s2 : Int) (s3 : Bool) (s4 : Int) (s5 : LI) (s6 : Int) (s7 : LLM) (s8 : LLM) : Option R :=
  bif (decide (s4 < s2)) then
    (f56 L N s5 s6 (4 : Int)).bind fun y14 =>
    w1 s2 s3 s4 y14.1 y14.2.1 y14.2.2 ([] : LM) s7 s8
  else k0_e0 s2 s5 s6 s7 s8
def f90.s0 {R : Type} (L N : Nat) (k0_e0 : Int → LI → Int → LLM → LLM → Option R) (rec0 : Int → Bool → Int → LI → Int → LLM → LLM → Option R) (s2 : Int) (s3 : Bool) (s4 : Int) (s5 : LI) (s6 : Int) (s7 : LLM) (s8 : LLM) : Option R :=
  f90.s0' L N k0_e0 rec0 (fun s15 s16 s17 s18 s19 s20 s21 s22 s23 => f90.l1 L N (fun z24 z25 z26 z27 z28 z29 z30 z31 => f90.p1_e2 L N k0_e0 rec0 z24 z25 z26 z27 z28 z29 z30 z31) L s15 s16 s17 s18 s19 s20 s21 s22 s23) s2 s3 s4 s5 s6 s7 s8
def f90.l0 {R : Type} (L N : Nat) (k0_e0 : Int → LI → Int → LLM → LLM → Option R) : Nat → Int → Bool → Int → LI → Int → LLM → LLM → Option R
  | 0, _, _, _, _, _, _, _ => none
  | n + 1, s2, s3, s4, s5, s6, s7, s8 => f90.s0 L N k0_e0 (f90.l0 L N k0_e0 n) s2 s3 s4 s5 s6 s7 s8
def f90.T0 (s2 : Int) (s3 : Bool) (s4 : Int) (s5 : LI) (s6 : Int) (s7 : LLM) (s8 : LLM) : T := mkT 84 [(0, (.ptr 0 0)), (4, (.ptr 1004 0)), (5, (.ptr 1005 0)), (6, (.tv i64 s2)), (7, (.tv .bool s3)), (8, (.tv i64 s4))] ++ [.ptr 0 0]
def f90.H0 (s2 : Int) (s3 : Bool) (s4 : Int) (s5 : LI) (s6 : Int) (s7 : LLM) (s8 : LLM) : H := [(0, (.box [(.tv (.sl (.int .u8)) s5), (.tv i64 s6)])), (1004, (.box [(.row 1900)])), (1005, (.box [(.row 1901)])), (1900, (.deep 0 (.sl (.st 0)) s7 none)), (1901, (.deep 0 (.sl (.st 0)) s8 none))]
def f90.T0_e0 (z9 : Int) (z10 : LI) (z11 : Int) (z12 : LLM) (z13 : LLM) : T := mkT 84 [(0, (.ptr 0 0)), (4, (.ptr 1004 0)), (5, (.ptr 1005 0)), (6, (.tv i64 z9))] ++ [.ptr 0 0]
def f90.H0_e0 (z9 : Int) (z10 : LI) (z11 : Int) (z12 : LLM) (z13 : LLM) : H := [(0, (.box [(.tv (.sl (.int .u8)) z10), (.tv i64 z11)])), (1004, (.box [(.row 1900)])), (1005, (.box [(.row 1901)])), (1900, (.deep 0 (.sl (.st 0)) z12 none)), (1901, (.deep 0 (.sl (.st 0)) z13 none))]
def f90.p0_e0' {R : Type} (L N : Nat) (k : Graph → LI → Int → Option R) (z9 : Int) (z10 : LI) (z11 : Int) (z12 : LLM) (z13 : LLM) : Option R :=
  (f56 L N z10 z11 (30 : Int)).bind fun y46 =>
  bif (y46.1 == (0 : Int)) then
    bif (decide (0 ≤ (0 : Int)) && decide ((0 : Int) < (z13.length : Int))) then
      bif (decide ((listAt z13 [] (0 : Int).toNat).length + ([(Move.mk (9 : Int) (0 : Int))] : LM).length ≤ lim)) then
        bif (decide (0 ≤ (0 : Int)) && decide ((0 : Int) < (z13.length : Int))) then
          k (Graph.mk (z13.set ((0 : Int).toNat) ((listAt z13 [] (0 : Int).toNat) ++ ([(Move.mk (9 : Int) (0 : Int))] : LM)))) y46.2.1 y46.2.2
        else none
      else none
    else none
  else bif (y46.1 == (1 : Int)) then
    bif (decide (0 ≤ (0 : Int)) && decide ((0 : Int) < (z13.length : Int))) then
      bif (decide ((listAt z13 [] (0 : Int).toNat).length + ([(Move.mk (0 : Int) z9)] : LM).length ≤ lim)) then
        bif (decide (0 ≤ (0 : Int)) && decide ((0 : Int) < (z13.length : Int))) then
          k (Graph.mk (z13.set ((0 : Int).toNat) ((listAt z13 [] (0 : Int).toNat) ++ ([(Move.mk (0 : Int) z9)] : LM)))) y46.2.1 y46.2.2
        else none
      else none
    else none
  else bif (y46.1 == (2 : Int)) then
    k (Graph.mk []) y46.2.1 y46.2.2
  else k (Graph.mk z13) y46.2.1 y46.2.2
def f90.p0_e0 {R : Type} (L N : Nat) (k : Graph → LI → Int → Option R) (z9 : Int) (z10 : LI) (z11 : Int) (z12 : LLM) (z13 : LLM) : Option R :=
  f90.p0_e0' L N k z9 z10 z11 z12 z13
def f90.b' {R : Type} (L N : Nat) (k : Graph → LI → Int → Option R) (w0 : Int → Bool → Int → LI → Int → LLM → LLM → Option R) (c0 : LI) (c1 : Int) (x0 : Int) : Option R :=
  (f56 L N c0 c1 x0).bind fun y0 =>
  (f56 L N y0.2.1 y0.2.2 (2 : Int)).bind fun y1 =>
  w0 (wi ((1 : Int) + y0.1)) (y1.1 == (0 : Int)) (0 : Int) y1.2.1 y1.2.2 ([] : LLM) ([] : LLM)
def f90.b {R : Type} (L N : Nat) (k : Graph → LI → Int → Option R) (c0 : LI) (c1 : Int) (x0 : Int) : Option R :=
  f90.b' L N k (fun s2 s3 s4 s5 s6 s7 s8 => f90.l0 L N (fun z9 z10 z11 z12 z13 => f90.p0_e0 L N k z9 z10 z11 z12 z13) L s2 s3 s4 s5 s6 s7 s8) c0 c1 x0
def f90 (L N : Nat) (c0 : LI) (c1 : Int) (x0 : Int) : Option (Graph × LI × Int) := f90.b L N (fun a0 a1 a2 => some (a0, a1, a2)) c0 c1 x0
def f90.ent (L N : Nat) (args : List AV) (vw : View) (site : Nat) : Ans := match boxD [(.sl (.int .u8)), i64] [i64] vw args with
  | some (o, d0, d, u) => ⟨Graph × LI × Int, f90 L N d0.1 d0.2.1 d.1, fun y => ((.tv (.st 2) y.1), u ++ [(o, some (.box [(.tv (.sl (.int .u8)) y.2.1), (.tv i64 y.2.2)]))], [])⟩
  | none => Ans.no
noncomputable def E90 (L N : Nat) : Env := { P := Try.prog, ty := tyOf, Φ := (Φ89 L N), inl := inlT, live := lives, liveX := livesX, L := L, dp := (some 0), prom := promT, heal := healT, ren := renT, fresh := fun s => Nat.beq s 1065 || Nat.beq s 1078 }
noncomputable def f90.c0 : Code := loopAt 0 (codeOf Try.f90)
noncomputable def f90.c1 : Code := loopAt 2 f90.c0
theorem f90.s1_eq {R : Type} (L N : Nat) (κ : Ex → T → H → Option R) (rec : T → H → Option R) (s15 : Int) (s16 : Bool) (s17 : Int) (s18 : Int) (s19 : LI) (s20 : Int) (s21 : LM) (s22 : LLM) (s23 : LLM) :
    evRd (E90 L N) (evCallI (E90 L N) 0 1000) 1000 90 84 2 f90.c1 κ rec (f90.T1 s15 s16 s17 s18 s19 s20 s21 s22 s23) (f90.H1 s15 s16 s17 s18 s19 s20 s21 s22 s23)
    = f90.s1 L N (fun z24 z25 z26 z27 z28 z29 z30 z31 => κ (.exit 2) (f90.T1_e2 z24 z25 z26 z27 z28 z29 z30 z31) (f90.H1_e2 z24 z25 z26 z27 z28 z29 z30 z31)) (fun s15 s16 s17 s18 s19 s20 s21 s22 s23 => rec (f90.T1 s15 s16 s17 s18 s19 s20 s21 s22 s23) (f90.H1 s15 s16 s17 s18 s19 s20 s21 s22 s23)) s15 s16 s17 s18 s19 s20 s21 s22 s23 := by kernel_rfl
theorem f90.l1_eq {R : Type} (L N : Nat) (κ : Ex → T → H → Option R) : ∀ (n : Nat) (s15 : Int) (s16 : Bool) (s17 : Int) (s18 : Int) (s19 : LI) (s20 : Int) (s21 : LM) (s22 : LLM) (s23 : LLM),
    evLp (E90 L N) (evCallI (E90 L N) 0 1000) 1000 90 84 2 f90.c1 κ n (f90.T1 s15 s16 s17 s18 s19 s20 s21 s22 s23) (f90.H1 s15 s16 s17 s18 s19 s20 s21 s22 s23)
    = f90.l1 L N (fun z24 z25 z26 z27 z28 z29 z30 z31 => κ (.exit 2) (f90.T1_e2 z24 z25 z26 z27 z28 z29 z30 z31) (f90.H1_e2 z24 z25 z26 z27 z28 z29 z30 z31)) n s15 s16 s17 s18 s19 s20 s21 s22 s23 := by
  intro n
  induction n with
  | zero => intros; rfl
  | succ n ih =>
    intro s15 s16 s17 s18 s19 s20 s21 s22 s23
    rw [evLp_succ, f90.s1_eq]
    simp only [ih]
    rfl
theorem f90.p1_e2_eq {R : Type} (L N : Nat) (κ : Ex → T → H → Option R) (rec : T → H → Option R) (z24 : Int) (z25 : Bool) (z26 : Int) (z27 : LI) (z28 : Int) (z29 : LM) (z30 : LLM) (z31 : LLM) :
    (contAt (E90 L N) (evCallI (E90 L N) 0 1000) 1000 90 84 2 f90.c0 (rdK (E90 L N) 1000 90 84 0 κ rec)) (.exit 2) (f90.T1_e2 z24 z25 z26 z27 z28 z29 z30 z31) (f90.H1_e2 z24 z25 z26 z27 z28 z29 z30 z31)
    = f90.p1_e2 L N (fun z9 z10 z11 z12 z13 => κ (.exit 0) (f90.T0_e0 z9 z10 z11 z12 z13) (f90.H0_e0 z9 z10 z11 z12 z13)) (fun s2 s3 s4 s5 s6 s7 s8 => rec (f90.T0 s2 s3 s4 s5 s6 s7 s8) (f90.H0 s2 s3 s4 s5 s6 s7 s8)) z24 z25 z26 z27 z28 z29 z30 z31 := by kernel_rfl
theorem f90.s0_eq {R : Type} (L N : Nat) (κ : Ex → T → H → Option R) (rec : T → H → Option R) (s2 : Int) (s3 : Bool) (s4 : Int) (s5 : LI) (s6 : Int) (s7 : LLM) (s8 : LLM) :
    evRd (E90 L N) (evCallI (E90 L N) 0 1000) 1000 90 84 0 f90.c0 κ rec (f90.T0 s2 s3 s4 s5 s6 s7 s8) (f90.H0 s2 s3 s4 s5 s6 s7 s8)
    = f90.s0 L N (fun z9 z10 z11 z12 z13 => κ (.exit 0) (f90.T0_e0 z9 z10 z11 z12 z13) (f90.H0_e0 z9 z10 z11 z12 z13)) (fun s2 s3 s4 s5 s6 s7 s8 => rec (f90.T0 s2 s3 s4 s5 s6 s7 s8) (f90.H0 s2 s3 s4 s5 s6 s7 s8)) s2 s3 s4 s5 s6 s7 s8 := by
  refine Eq.trans (b := f90.s0' L N (fun z9 z10 z11 z12 z13 => κ (.exit 0) (f90.T0_e0 z9 z10 z11 z12 z13) (f90.H0_e0 z9 z10 z11 z12 z13)) (fun s2 s3 s4 s5 s6 s7 s8 => rec (f90.T0 s2 s3 s4 s5 s6 s7 s8) (f90.H0 s2 s3 s4 s5 s6 s7 s8)) (fun s15 s16 s17 s18 s19 s20 s21 s22 s23 => evLp (E90 L N) (evCallI (E90 L N) 0 1000) 1000 90 84 2 f90.c1 (contAt (E90 L N) (evCallI (E90 L N) 0 1000) 1000 90 84 2 f90.c0 (rdK (E90 L N) 1000 90 84 0 κ rec)) L (f90.T1 s15 s16 s17 s18 s19 s20 s21 s22 s23) (f90.H1 s15 s16 s17 s18 s19 s20 s21 s22 s23)) s2 s3 s4 s5 s6 s7 s8) (by kernel_rfl) ?_
  unfold f90.s0
  simp only [f90.l1_eq, f90.p1_e2_eq]
theorem f90.l0_eq {R : Type} (L N : Nat) (κ : Ex → T → H → Option R) : ∀ (n : Nat) (s2 : Int) (s3 : Bool) (s4 : Int) (s5 : LI) (s6 : Int) (s7 : LLM) (s8 : LLM),
    evLp (E90 L N) (evCallI (E90 L N) 0 1000) 1000 90 84 0 f90.c0 κ n (f90.T0 s2 s3 s4 s5 s6 s7 s8) (f90.H0 s2 s3 s4 s5 s6 s7 s8)
    = f90.l0 L N (fun z9 z10 z11 z12 z13 => κ (.exit 0) (f90.T0_e0 z9 z10 z11 z12 z13) (f90.H0_e0 z9 z10 z11 z12 z13)) n s2 s3 s4 s5 s6 s7 s8 := by
  intro n
  induction n with
  | zero => intros; rfl
  | succ n ih =>
    intro s2 s3 s4 s5 s6 s7 s8
    rw [evLp_succ, f90.s0_eq]
    simp only [ih]
    rfl
theorem f90.p0_e0_eq {R : Type} (L N : Nat) (κ : AV → Dens [(.sl (.int .u8)), i64] → Option R) (z9 : Int) (z10 : LI) (z11 : Int) (z12 : LLM) (z13 : LLM) :
    (contAt (E90 L N) (evCallI (E90 L N) 0 1000) 1000 90 84 0 (codeOf Try.f90) (finK (E90 L N) 1000 Try.f90 (finM (.one (.st 2)) [(.sl (.int .u8)), i64] κ))) (.exit 0) (f90.T0_e0 z9 z10 z11 z12 z13) (f90.H0_e0 z9 z10 z11 z12 z13)
    = f90.p0_e0 L N (fun a0 a1 a2 => κ (.tv (.st 2) a0) (a1, a2, ())) z9 z10 z11 z12 z13 := by kernel_rfl
theorem f90.b_eq {R : Type} (L N : Nat) (κ : AV → Dens [(.sl (.int .u8)), i64] → Option R) (c0 : LI) (c1 : Int) (x0 : Int) :
    evBody (E90 L N) (evCallI (E90 L N) 0 1000) 1000 90 Try.f90 [(.ptr 0 0), (.tv i64 x0)] [.ptr 0 0] [(0, (.box [(.tv (.sl (.int .u8)) c0), (.tv i64 c1)]))] (finM (.one (.st 2)) [(.sl (.int .u8)), i64] κ)
    = f90.b L N (fun a0 a1 a2 => κ (.tv (.st 2) a0) (a1, a2, ())) c0 c1 x0 := by
  refine Eq.trans (b := f90.b' L N (fun a0 a1 a2 => κ (.tv (.st 2) a0) (a1, a2, ())) (fun s2 s3 s4 s5 s6 s7 s8 => evLp (E90 L N) (evCallI (E90 L N) 0 1000) 1000 90 84 0 f90.c0 (contAt (E90 L N) (evCallI (E90 L N) 0 1000) 1000 90 84 0 (codeOf Try.f90) (finK (E90 L N) 1000 Try.f90 (finM (.one (.st 2)) [(.sl (.int .u8)), i64] κ))) L (f90.T0 s2 s3 s4 s5 s6 s7 s8) (f90.H0 s2 s3 s4 s5 s6 s7 s8)) c0 c1 x0) (by kernel_rfl) ?_
  unfold f90.b
  simp only [f90.l0_eq, f90.p0_e0_eq]
theorem f90.ok (L N : Nat) (hΦ : TellsOk Try.prog ((Φ89 L N))) : EntOk Try.prog 90 (f90.ent L N) := by
  intro args vw site h
  unfold f90.ent
  split
  · rename_i o d0 d u ha
    intro y hy hs
    obtain ⟨rest, cs, rfl, ho, hd0, hr, hu⟩ := boxD_some ha
    refine call_box (y := y) (dep := 1000) (v' := (.tv (.st 2) y.1)) (d1 := (y.2.1, y.2.2, ())) (E := (E90 L N)) (ts := [(.sl (.int .u8)), i64]) (tr := [i64]) (rs := (.one (.st 2))) (κ := (fun v d => (unR (.one (.st 2)) v).bind fun x => some (x, d.1, d.2.1))) (sound_of hΦ) okP (callI_sound (sound_of hΦ) okP 0 1000) (f := Try.f90) rfl hs ho hd0 hr hu ?_ (fun _ _ h => by obtain ⟨x, h1, h2⟩ := unR_bind h; obtain rfl := Option.some.inj h2; exact ⟨h1, rfl⟩) site
    exact (f90.b_eq L N (fun v d => (unR (.one (.st 2)) v).bind fun x => some (x, d.1, d.2.1)) d0.1 d0.2.1 d.1).trans (Eq.trans (b := f90.b L N (fun a0 a1 a2 => some (a0, a1, a2)) d0.1 d0.2.1 d.1) (by kernel_rfl) hy)
  · intro y hy
    cases hy
def Φ90 (L N : Nat) : Tells := (addT (Φ89 L N) 90 (f90.ent L N))
theorem Φ90_ok (L N : Nat) : TellsOk Try.prog (Φ90 L N) := addT_ok (Φ89_ok L N) (f90.ok L N (Φ89_ok L N))
def f69.b' {R : Type} (L N : Nat) (k : Graph → LI → Int → Option R) (c0 : LI) (c1 : Int) : Option R :=
  (f56 L N c0 c1 (2 : Int)).bind fun y0 =>
  bif (y0.1 == (0 : Int)) then
    (f88 L N y0.2.1 y0.2.2).bind fun y1 =>
    (f89 L N (Tree.mk y1.1.op y1.1.n y1.1.parts) y1.2.1).bind fun y2 =>
    bif y2.2 then
      k (Graph.mk ((Graph.mk y2.1.moves).moves)) y1.2.2.1 y1.2.2.2
    else (f90 L N y1.2.2.1 y1.2.2.2 (6 : Int)).bind fun y6 =>
    k (Graph.mk y6.1.moves) y6.2.1 y6.2.2
  else (f90 L N y0.2.1 y0.2.2 (6 : Int)).bind fun y7 =>
  k (Graph.mk y7.1.moves) y7.2.1 y7.2.2
def f69.b {R : Type} (L N : Nat) (k : Graph → LI → Int → Option R) (c0 : LI) (c1 : Int) : Option R :=
  f69.b' L N k c0 c1
def f69 (L N : Nat) (c0 : LI) (c1 : Int) : Option (Graph × LI × Int) := f69.b L N (fun a0 a1 a2 => some (a0, a1, a2)) c0 c1
def f69.ent (L N : Nat) (args : List AV) (vw : View) (site : Nat) : Ans := match boxD [(.sl (.int .u8)), i64] [] vw args with
  | some (o, d0, d, u) => ⟨Graph × LI × Int, f69 L N d0.1 d0.2.1, fun y => ((.tv (.st 2) y.1), u ++ [(o, some (.box [(.tv (.sl (.int .u8)) y.2.1), (.tv i64 y.2.2)]))], [])⟩
  | none => Ans.no
noncomputable def E69 (L N : Nat) : Env := { P := Try.prog, ty := tyOf, Φ := (Φ90 L N), inl := inlT, live := lives, liveX := livesX, L := L, dp := none, prom := promT, heal := healT, ren := renT }
theorem f69.b_eq {R : Type} (L N : Nat) (κ : AV → Dens [(.sl (.int .u8)), i64] → Option R) (c0 : LI) (c1 : Int) :
    evBody (E69 L N) (evCallI (E69 L N) 0 1000) 1000 69 Try.f69 [(.ptr 0 0)] [.ptr 0 0] [(0, (.box [(.tv (.sl (.int .u8)) c0), (.tv i64 c1)]))] (finM (.one (.st 2)) [(.sl (.int .u8)), i64] κ)
    = f69.b L N (fun a0 a1 a2 => κ (.tv (.st 2) a0) (a1, a2, ())) c0 c1 := by kernel_rfl
theorem f69.ok (L N : Nat) (hΦ : TellsOk Try.prog ((Φ90 L N))) : EntOk Try.prog 69 (f69.ent L N) := by
  intro args vw site h
  unfold f69.ent
  split
  · rename_i o d0 d u ha
    intro y hy hs
    obtain ⟨rest, cs, rfl, ho, hd0, hr, hu⟩ := boxD_some ha
    refine call_box (y := y) (dep := 1000) (v' := (.tv (.st 2) y.1)) (d1 := (y.2.1, y.2.2, ())) (E := (E69 L N)) (ts := [(.sl (.int .u8)), i64]) (tr := []) (rs := (.one (.st 2))) (κ := (fun v d => (unR (.one (.st 2)) v).bind fun x => some (x, d.1, d.2.1))) (sound_of hΦ) okP (callI_sound (sound_of hΦ) okP 0 1000) (f := Try.f69) rfl hs ho hd0 hr hu ?_ (fun _ _ h => by obtain ⟨x, h1, h2⟩ := unR_bind h; obtain rfl := Option.some.inj h2; exact ⟨h1, rfl⟩) site
    exact (f69.b_eq L N (fun v d => (unR (.one (.st 2)) v).bind fun x => some (x, d.1, d.2.1)) d0.1 d0.2.1).trans (Eq.trans (b := f69.b L N (fun a0 a1 a2 => some (a0, a1, a2)) d0.1 d0.2.1) (by kernel_rfl) hy)
  · intro y hy
    cases hy
def Φ69 (L N : Nat) : Tells := (addT (Φ90 L N) 69 (f69.ent L N))
theorem Φ69_ok (L N : Nat) : TellsOk Try.prog (Φ69 L N) := addT_ok (Φ90_ok L N) (f69.ok L N (Φ90_ok L N))
def f70.j0' {R : Type} (L N : Nat) (k : Int → LI → Int → Option R) (v1 : Bool) (v2 : LI) (v3 : Int) (v4 : LLM) : Option R :=
  bif v1 then
    (f56 L N v2 v3 (8 : Int)).bind fun y5 =>
    k (wi (y5.1 - (2 : Int))) y5.2.1 y5.2.2
  else (f56 L N v2 v3 (v4.length : Int)).bind fun y6 =>
  k y6.1 y6.2.1 y6.2.2
def f70.b' {R : Type} (L N : Nat) (k : Int → LI → Int → Option R) (c0 : LI) (c1 : Int) (x0 : Graph) : Option R :=
  (f56 L N c0 c1 (20 : Int)).bind fun y0 =>
  bif (y0.1 == (0 : Int)) then
    f70.j0' L N k true y0.2.1 y0.2.2 x0.moves
  else f70.j0' L N k ((x0.moves.length : Int) == (0 : Int)) y0.2.1 y0.2.2 x0.moves
def f70.b {R : Type} (L N : Nat) (k : Int → LI → Int → Option R) (c0 : LI) (c1 : Int) (x0 : Graph) : Option R :=
  f70.b' L N k c0 c1 x0
def f70 (L N : Nat) (c0 : LI) (c1 : Int) (x0 : Graph) : Option (Int × LI × Int) := f70.b L N (fun a0 a1 a2 => some (a0, a1, a2)) c0 c1 x0
def f70.ent (L N : Nat) (args : List AV) (vw : View) (site : Nat) : Ans := match boxD [(.sl (.int .u8)), i64] [(.st 2)] vw args with
  | some (o, d0, d, u) => ⟨Int × LI × Int, f70 L N d0.1 d0.2.1 d.1, fun y => ((.tv i64 y.1), u ++ [(o, some (.box [(.tv (.sl (.int .u8)) y.2.1), (.tv i64 y.2.2)]))], [])⟩
  | none => Ans.no
noncomputable def E70 (L N : Nat) : Env := { P := Try.prog, ty := tyOf, Φ := (Φ69 L N), inl := inlT, live := lives, liveX := livesX, L := L, dp := none, prom := promT, heal := healT, ren := renT }
theorem f70.b_eq {R : Type} (L N : Nat) (κ : AV → Dens [(.sl (.int .u8)), i64] → Option R) (c0 : LI) (c1 : Int) (x0 : Graph) :
    evBody (E70 L N) (evCallI (E70 L N) 0 1000) 1000 70 Try.f70 [(.ptr 0 0), (.tv (.st 2) x0)] [.ptr 0 0] [(0, (.box [(.tv (.sl (.int .u8)) c0), (.tv i64 c1)]))] (finM (.one i64) [(.sl (.int .u8)), i64] κ)
    = f70.b L N (fun a0 a1 a2 => κ (.tv i64 a0) (a1, a2, ())) c0 c1 x0 := by kernel_rfl
theorem f70.ok (L N : Nat) (hΦ : TellsOk Try.prog ((Φ69 L N))) : EntOk Try.prog 70 (f70.ent L N) := by
  intro args vw site h
  unfold f70.ent
  split
  · rename_i o d0 d u ha
    intro y hy hs
    obtain ⟨rest, cs, rfl, ho, hd0, hr, hu⟩ := boxD_some ha
    refine call_box (y := y) (dep := 1000) (v' := (.tv i64 y.1)) (d1 := (y.2.1, y.2.2, ())) (E := (E70 L N)) (ts := [(.sl (.int .u8)), i64]) (tr := [(.st 2)]) (rs := (.one i64)) (κ := (fun v d => (unR (.one i64) v).bind fun x => some (x, d.1, d.2.1))) (sound_of hΦ) okP (callI_sound (sound_of hΦ) okP 0 1000) (f := Try.f70) rfl hs ho hd0 hr hu ?_ (fun _ _ h => by obtain ⟨x, h1, h2⟩ := unR_bind h; obtain rfl := Option.some.inj h2; exact ⟨h1, rfl⟩) site
    exact (f70.b_eq L N (fun v d => (unR (.one i64) v).bind fun x => some (x, d.1, d.2.1)) d0.1 d0.2.1 d.1).trans (Eq.trans (b := f70.b L N (fun a0 a1 a2 => some (a0, a1, a2)) d0.1 d0.2.1 d.1) (by kernel_rfl) hy)
  · intro y hy
    cases hy
def Φ70 (L N : Nat) : Tells := (addT (Φ69 L N) 70 (f70.ent L N))
theorem Φ70_ok (L N : Nat) : TellsOk Try.prog (Φ70 L N) := addT_ok (Φ69_ok L N) (f70.ok L N (Φ69_ok L N))
def f43.b' {R : Type} (L N : Nat) (k : Graph → Int → LB → Option R) (x0 : LI) : Option R :=
  (f44 L N x0).bind fun y0 =>
  (f69 L N y0.1 y0.2).bind fun y1 =>
  (f70 L N y1.2.1 y1.2.2 (Graph.mk y1.1.moves)).bind fun y2 =>
  (f45 L N y2.2.1 y2.2.2 (8 : Int)).bind fun y3 =>
  k (Graph.mk ((Graph.mk y1.1.moves).moves)) y2.1 y3.1
def f43.b {R : Type} (L N : Nat) (k : Graph → Int → LB → Option R) (x0 : LI) : Option R :=
  f43.b' L N k x0
def f43 (L N : Nat) (x0 : LI) : Option (Graph × Int × LB) := f43.b L N (fun a0 a1 a2 => some (a0, a1, a2)) x0
def f43.ent (L N : Nat) (args : List AV) (vw : View) (site : Nat) : Ans := match coeD [(.sl (.int .u8))] vw args with
  | some (d, u) => ⟨Graph × Int × LB, f43 L N d.1, fun y => ((.tup [(.tv (.st 2) y.1), (.tv i64 y.2.1), (.tv (.sl .bool) y.2.2)]), u, [])⟩
  | none => Ans.no
noncomputable def E43 (L N : Nat) : Env := { P := Try.prog, ty := tyOf, Φ := (Φ70 L N), inl := inlT, live := lives, liveX := livesX, L := L, dp := none, prom := promT, heal := healT, ren := renT }
theorem f43.b_eq {R : Type} (L N : Nat) (κ : AV → Option R) (x0 : LI) :
    evBody (E43 L N) (evCallI (E43 L N) 0 1000) 1000 43 Try.f43 [(.tv (.sl (.int .u8)) x0)] [] [] (finC (.many [(.st 2), i64, (.sl .bool)]) κ)
    = f43.b L N (fun a0 a1 a2 => κ (.tup [(.tv (.st 2) a0), (.tv i64 a1), (.tv (.sl .bool) a2)])) x0 := by kernel_rfl
theorem f43.ok (L N : Nat) (hΦ : TellsOk Try.prog ((Φ70 L N))) : EntOk Try.prog 43 (f43.ent L N) := by
  intro args vw site h
  unfold f43.ent
  split
  · rename_i d u ha
    intro y hy hs
    refine call_data (dep := 1000) (E := (E43 L N)) (rs := (.many [(.st 2), i64, (.sl .bool)])) (κ := unR (.many [(.st 2), i64, (.sl .bool)])) (sound_of hΦ) okP (callI_sound (sound_of hΦ) okP 0 1000) (f := Try.f43) rfl hs ha ?_ (fun _ h => unR_some h) site
    exact (f43.b_eq L N (unR (.many [(.st 2), i64, (.sl .bool)])) d.1).trans (Eq.trans (b := f43.b L N (fun a0 a1 a2 => some (a0, a1, a2)) d.1) (by kernel_rfl) hy)
  · intro y hy
    cases hy
def Φ43 (L N : Nat) : Tells := (addT (Φ70 L N) 43 (f43.ent L N))
theorem Φ43_ok (L N : Nat) : TellsOk Try.prog (Φ43 L N) := addT_ok (Φ70_ok L N) (f43.ok L N (Φ70_ok L N))
def f14.s0' {R : Type} (L N : Nat) (k0_e0 : Int → LLM → Option R) (k0_r : Bool → Int → LLM → Option R) (rec0 : Int → LB → Int → LLM → Option R) (s3 : Int) (s4 : LB) (s5 : Int) (s6 : LLM) : Option R :=
  bif (decide (s5 < (s4.length : Int))) then
    bif (decide (([] : LB).length + s4.length ≤ lim)) then
      bif (decide (0 ≤ s5) && decide (s5 < ((([] : LB) ++ s4).length : Int))) then
        (f39 L N (Graph.mk s6) s3 ((([] : LB) ++ s4).set s5.toNat false)).bind fun y9 =>
        bif (!y9) then
          k0_r false s3 s6
        else rec0 s3 s4 (wi (s5 + (1 : Int))) s6
      else none
    else none
  else k0_e0 s3 s6
def f14.s0 {R : Type} (L N : Nat) (k0_e0 : Int → LLM → Option R) (k0_r : Bool → Int → LLM → Option R) (rec0 : Int → LB → Int → LLM → Option R) (s3 : Int) (s4 : LB) (s5 : Int) (s6 : LLM) : Option R :=
  f14.s0' L N k0_e0 k0_r rec0 s3 s4 s5 s6
def f14.l0 {R : Type} (L N : Nat) (k0_e0 : Int → LLM → Option R) (k0_r : Bool → Int → LLM → Option R) : Nat → Int → LB → Int → LLM → Option R
  | 0, _, _, _, _ => none
  | n + 1, s3, s4, s5, s6 => f14.s0 L N k0_e0 k0_r (f14.l0 L N k0_e0 k0_r n) s3 s4 s5 s6
def f14.T0 (s3 : Int) (s4 : LB) (s5 : Int) (s6 : LLM) : T := mkT 70 [(3, (.ptr 1003 0)), (4, (.tv i64 s3)), (5, (.tv (.sl .bool) s4)), (8, (.tv i64 s5))]
def f14.H0 (s3 : Int) (s4 : LB) (s5 : Int) (s6 : LLM) : H := [(1003, (.box [(.tv (.sl (.sl (.st 0))) s6)]))]
def f14.T0_e0 (z7 : Int) (z8 : LLM) : T := mkT 70 [(3, (.ptr 1003 0)), (4, (.tv i64 z7))]
def f14.H0_e0 (z7 : Int) (z8 : LLM) : H := [(1003, (.box [(.tv (.sl (.sl (.st 0))) z8)]))]
def f14.T0_r (z10 : Bool) (z11 : Int) (z12 : LLM) : T := mkT 70 [(2, (.tv .bool z10)), (3, (.ptr 1003 0)), (4, (.tv i64 z11))]
def f14.H0_r (z10 : Bool) (z11 : Int) (z12 : LLM) : H := [(1003, (.box [(.tv (.sl (.sl (.st 0))) z12)]))]
def f14.s1' {R : Type} (L N : Nat) (k1_e2 : Option R) (k1_r : Bool → Option R) (rec1 : Int → Int → LLM → Option R) (s13 : Int) (s14 : Int) (s15 : LLM) : Option R :=
  bif (decide (0 ≤ s13) && decide (s13 < (s15.length : Int))) then
    bif (decide (s14 < ((listAt s15 [] s13.toNat).length : Int))) then
      bif (decide (0 ≤ s13) && decide (s13 < (s15.length : Int))) then
        bif (decide (0 ≤ s14) && decide (s14 < ((listAt s15 [] s13.toNat).length : Int))) then
          bif ((listAt (listAt s15 [] s13.toNat) (Ty.dflt (.st 0)) s14.toNat).act == (0 : Int)) then
            k1_r false
          else rec1 s13 (wi (s14 + (1 : Int))) s15
        else none
      else none
    else k1_e2
  else none
def f14.s1 {R : Type} (L N : Nat) (k1_e2 : Option R) (k1_r : Bool → Option R) (rec1 : Int → Int → LLM → Option R) (s13 : Int) (s14 : Int) (s15 : LLM) : Option R :=
  f14.s1' L N k1_e2 k1_r rec1 s13 s14 s15
def f14.l1 {R : Type} (L N : Nat) (k1_e2 : Option R) (k1_r : Bool → Option R) : Nat → Int → Int → LLM → Option R
  | 0, _, _, _ => none
  | n + 1, s13, s14, s15 => f14.s1 L N k1_e2 k1_r (f14.l1 L N k1_e2 k1_r n) s13 s14 s15
def f14.T1 (s13 : Int) (s14 : Int) (s15 : LLM) : T := mkT 70 [(3, (.ptr 1003 0)), (4, (.tv i64 s13)), (10, (.tv i64 s14))]
def f14.H1 (s13 : Int) (s14 : Int) (s15 : LLM) : H := [(1003, (.box [(.tv (.sl (.sl (.st 0))) s15)]))]
def f14.T1_e2 : T := mkT 70 []
def f14.H1_e2 : H := []
def f14.T1_r (z16 : Bool) : T := mkT 70 [(2, (.tv .bool z16))]
def f14.H1_r (z16 : Bool) : H := []
def f14.p1_e2' {R : Type} (L N : Nat) (k : Bool → Option R) : Option R :=
  k true
def f14.p1_e2 {R : Type} (L N : Nat) (k : Bool → Option R) : Option R :=
  f14.p1_e2' L N k
def f14.p1_r' {R : Type} (L N : Nat) (k : Bool → Option R) (z16 : Bool) : Option R :=
  k z16
def f14.p1_r {R : Type} (L N : Nat) (k : Bool → Option R) (z16 : Bool) : Option R :=
  f14.p1_r' L N k z16
def f14.p0_e0' {R : Type} (L N : Nat) (k : Bool → Option R) (w1 : Int → Int → LLM → Option R) (z7 : Int) (z8 : LLM) : Option R :=
  w1 z7 (0 : Int) z8
def f14.p0_e0 {R : Type} (L N : Nat) (k : Bool → Option R) (z7 : Int) (z8 : LLM) : Option R :=
  f14.p0_e0' L N k (fun s13 s14 s15 => f14.l1 L N (f14.p1_e2 L N k) (fun z16 => f14.p1_r L N k z16) L s13 s14 s15) z7 z8
def f14.p0_r' {R : Type} (L N : Nat) (k : Bool → Option R) (z10 : Bool) (z11 : Int) (z12 : LLM) : Option R :=
  k z10
def f14.p0_r {R : Type} (L N : Nat) (k : Bool → Option R) (z10 : Bool) (z11 : Int) (z12 : LLM) : Option R :=
  f14.p0_r' L N k z10 z11 z12
def f14.b' {R : Type} (L N : Nat) (k : Bool → Option R) (w0 : Int → LB → Int → LLM → Option R) (x0 : LI) : Option R :=
  bif (decide ((x0.length : Int) > (1048576 : Int))) then
    k true
  else (f43 L N x0).bind fun y0 =>
  (f39 L N (Graph.mk y0.1.moves) y0.2.1 y0.2.2).bind fun y1 =>
  (f37 L N (Graph.mk y0.1.moves) y0.2.1 y0.2.2).bind fun y2 =>
  bif (!(y1 == y2)) then
    k false
  else bif (!y1) then
    k true
  else w0 y0.2.1 y0.2.2 (0 : Int) y0.1.moves
def f14.b {R : Type} (L N : Nat) (k : Bool → Option R) (x0 : LI) : Option R :=
  f14.b' L N k (fun s3 s4 s5 s6 => f14.l0 L N (fun z7 z8 => f14.p0_e0 L N k z7 z8) (fun z10 z11 z12 => f14.p0_r L N k z10 z11 z12) L s3 s4 s5 s6) x0
def f14 (L N : Nat) (x0 : LI) : Option (Bool) := f14.b L N some x0
def f14.ent (L N : Nat) (args : List AV) (vw : View) (site : Nat) : Ans := match roD [(.sl (.int .u8))] vw args with
  | some d => ⟨Bool, f14 L N d.1, fun y => ((.tv .bool y), [], [])⟩
  | none => Ans.no
noncomputable def E14 (L N : Nat) : Env := { P := Try.prog, ty := tyOf, Φ := (Φ43 L N), inl := inlT, live := lives, liveX := livesX, L := L, dp := none, prom := promT, heal := healT, ren := renT }
noncomputable def f14.c0 : Code := loopAt 0 (codeOf Try.f14)
theorem f14.s0_eq {R : Type} (L N : Nat) (κ : Ex → T → H → Option R) (rec : T → H → Option R) (s3 : Int) (s4 : LB) (s5 : Int) (s6 : LLM) :
    evRd (E14 L N) (evCallI (E14 L N) 0 1000) 1000 14 70 0 f14.c0 κ rec (f14.T0 s3 s4 s5 s6) (f14.H0 s3 s4 s5 s6)
    = f14.s0 L N (fun z7 z8 => κ (.exit 0) (f14.T0_e0 z7 z8) (f14.H0_e0 z7 z8)) (fun z10 z11 z12 => κ .ret (f14.T0_r z10 z11 z12) (f14.H0_r z10 z11 z12)) (fun s3 s4 s5 s6 => rec (f14.T0 s3 s4 s5 s6) (f14.H0 s3 s4 s5 s6)) s3 s4 s5 s6 := by kernel_rfl
theorem f14.l0_eq {R : Type} (L N : Nat) (κ : Ex → T → H → Option R) : ∀ (n : Nat) (s3 : Int) (s4 : LB) (s5 : Int) (s6 : LLM),
    evLp (E14 L N) (evCallI (E14 L N) 0 1000) 1000 14 70 0 f14.c0 κ n (f14.T0 s3 s4 s5 s6) (f14.H0 s3 s4 s5 s6)
    = f14.l0 L N (fun z7 z8 => κ (.exit 0) (f14.T0_e0 z7 z8) (f14.H0_e0 z7 z8)) (fun z10 z11 z12 => κ .ret (f14.T0_r z10 z11 z12) (f14.H0_r z10 z11 z12)) n s3 s4 s5 s6 := by
  intro n
  induction n with
  | zero => intros; rfl
  | succ n ih =>
    intro s3 s4 s5 s6
    rw [evLp_succ, f14.s0_eq]
    simp only [ih]
    rfl
noncomputable def f14.c1 : Code := loopAt 2 (codeOf Try.f14)
theorem f14.s1_eq {R : Type} (L N : Nat) (κ : Ex → T → H → Option R) (rec : T → H → Option R) (s13 : Int) (s14 : Int) (s15 : LLM) :
    evRd (E14 L N) (evCallI (E14 L N) 0 1000) 1000 14 70 2 f14.c1 κ rec (f14.T1 s13 s14 s15) (f14.H1 s13 s14 s15)
    = f14.s1 L N (κ (.exit 2) f14.T1_e2 f14.H1_e2) (fun z16 => κ .ret (f14.T1_r z16) (f14.H1_r z16)) (fun s13 s14 s15 => rec (f14.T1 s13 s14 s15) (f14.H1 s13 s14 s15)) s13 s14 s15 := by kernel_rfl
theorem f14.l1_eq {R : Type} (L N : Nat) (κ : Ex → T → H → Option R) : ∀ (n : Nat) (s13 : Int) (s14 : Int) (s15 : LLM),
    evLp (E14 L N) (evCallI (E14 L N) 0 1000) 1000 14 70 2 f14.c1 κ n (f14.T1 s13 s14 s15) (f14.H1 s13 s14 s15)
    = f14.l1 L N (κ (.exit 2) f14.T1_e2 f14.H1_e2) (fun z16 => κ .ret (f14.T1_r z16) (f14.H1_r z16)) n s13 s14 s15 := by
  intro n
  induction n with
  | zero => intros; rfl
  | succ n ih =>
    intro s13 s14 s15
    rw [evLp_succ, f14.s1_eq]
    simp only [ih]
    rfl
theorem f14.p1_e2_eq {R : Type} (L N : Nat) (κ : AV → Option R) :
    (contAt (E14 L N) (evCallI (E14 L N) 0 1000) 1000 14 70 2 (codeOf Try.f14) (finK (E14 L N) 1000 Try.f14 (finC (.one .bool) κ))) (.exit 2) f14.T1_e2 f14.H1_e2
    = f14.p1_e2 L N (fun a0 => κ (.tv .bool a0)) := by kernel_rfl
theorem f14.p1_r_eq {R : Type} (L N : Nat) (κ : AV → Option R) (z16 : Bool) :
    (contAt (E14 L N) (evCallI (E14 L N) 0 1000) 1000 14 70 2 (codeOf Try.f14) (finK (E14 L N) 1000 Try.f14 (finC (.one .bool) κ))) .ret (f14.T1_r z16) (f14.H1_r z16)
    = f14.p1_r L N (fun a0 => κ (.tv .bool a0)) z16 := by kernel_rfl
theorem f14.p0_e0_eq {R : Type} (L N : Nat) (κ : AV → Option R) (z7 : Int) (z8 : LLM) :
    (contAt (E14 L N) (evCallI (E14 L N) 0 1000) 1000 14 70 0 (codeOf Try.f14) (finK (E14 L N) 1000 Try.f14 (finC (.one .bool) κ))) (.exit 0) (f14.T0_e0 z7 z8) (f14.H0_e0 z7 z8)
    = f14.p0_e0 L N (fun a0 => κ (.tv .bool a0)) z7 z8 := by
  refine Eq.trans (b := f14.p0_e0' L N (fun a0 => κ (.tv .bool a0)) (fun s13 s14 s15 => evLp (E14 L N) (evCallI (E14 L N) 0 1000) 1000 14 70 2 f14.c1 (contAt (E14 L N) (evCallI (E14 L N) 0 1000) 1000 14 70 2 (codeOf Try.f14) (finK (E14 L N) 1000 Try.f14 (finC (.one .bool) κ))) L (f14.T1 s13 s14 s15) (f14.H1 s13 s14 s15)) z7 z8) (by kernel_rfl) ?_
  unfold f14.p0_e0
  simp only [f14.l1_eq, f14.p1_e2_eq, f14.p1_r_eq]
theorem f14.p0_r_eq {R : Type} (L N : Nat) (κ : AV → Option R) (z10 : Bool) (z11 : Int) (z12 : LLM) :
    (contAt (E14 L N) (evCallI (E14 L N) 0 1000) 1000 14 70 0 (codeOf Try.f14) (finK (E14 L N) 1000 Try.f14 (finC (.one .bool) κ))) .ret (f14.T0_r z10 z11 z12) (f14.H0_r z10 z11 z12)
    = f14.p0_r L N (fun a0 => κ (.tv .bool a0)) z10 z11 z12 := by kernel_rfl
theorem f14.b_eq {R : Type} (L N : Nat) (κ : AV → Option R) (x0 : LI) :
    evBody (E14 L N) (evCallI (E14 L N) 0 1000) 1000 14 Try.f14 [(.tv (.sl (.int .u8)) x0)] [] [] (finC (.one .bool) κ)
    = f14.b L N (fun a0 => κ (.tv .bool a0)) x0 := by
  refine Eq.trans (b := f14.b' L N (fun a0 => κ (.tv .bool a0)) (fun s3 s4 s5 s6 => evLp (E14 L N) (evCallI (E14 L N) 0 1000) 1000 14 70 0 f14.c0 (contAt (E14 L N) (evCallI (E14 L N) 0 1000) 1000 14 70 0 (codeOf Try.f14) (finK (E14 L N) 1000 Try.f14 (finC (.one .bool) κ))) L (f14.T0 s3 s4 s5 s6) (f14.H0 s3 s4 s5 s6)) x0) (by kernel_rfl) ?_
  unfold f14.b
  simp only [f14.l0_eq, f14.p0_e0_eq, f14.p0_r_eq]
theorem f14.ok (L N : Nat) (hΦ : TellsOk Try.prog ((Φ43 L N))) : EntOk Try.prog 14 (f14.ent L N) := by
  intro args vw site h
  unfold f14.ent
  split
  · rename_i d ha
    intro y hy hs
    refine call_ro (dep := 1000) (E := (E14 L N)) (rs := (.one .bool)) (κ := unR (.one .bool)) (sound_of hΦ) okP (callI_sound (sound_of hΦ) okP 0 1000) (f := Try.f14) rfl hs ha ?_ (fun _ h => unR_some h) rfl site
    exact (f14.b_eq L N (unR (.one .bool)) d.1).trans (Eq.trans (b := f14.b L N some d.1) (by kernel_rfl) hy)
  · intro y hy
    cases hy
def Φ14 (L N : Nat) : Tells := (addT (Φ43 L N) 14 (f14.ent L N))
theorem Φ14_ok (L N : Nat) : TellsOk Try.prog (Φ14 L N) := addT_ok (Φ43_ok L N) (f14.ok L N (Φ43_ok L N))
end Go.Proofs.Ythkonljgjjlloaa.Ev
