/- The seat's functions as plain functions, continued: made by program (wip/gen/gen.py). -/
import Derived.Test.YtdfjdbpklbehoaaGD9a
namespace Go.Proofs.Ytdfjdbpklbehoaa.Ev
open Go
set_option linter.unusedVariables false
set_option maxRecDepth 20000
def f151.s1 {R : Type} (L N : Nat) (self151 : Tree → LT → Option (LS)) (k1_e3 : LS → LS → LS → Option R) (rec1 : Int → Int → Int → LT → LS → LS → LS → Option R) (s17 : Int) (s18 : Int) (s19 : Int) (s20 : LT) (s21 : LS) (s22 : LS) (s23 : LS) : Option R :=
  f151.s1' L N self151 k1_e3 rec1 s17 s18 s19 s20 s21 s22 s23
def f151.l1 {R : Type} (L N : Nat) (self151 : Tree → LT → Option (LS)) (k1_e3 : LS → LS → LS → Option R) : Nat → Int → Int → Int → LT → LS → LS → LS → Option R
  | 0, _, _, _, _, _, _, _ => none
  | n + 1, s17, s18, s19, s20, s21, s22, s23 => f151.s1 L N self151 k1_e3 (f151.l1 L N self151 k1_e3 n) s17 s18 s19 s20 s21 s22 s23
def f151.T1 (s17 : Int) (s18 : Int) (s19 : Int) (s20 : LT) (s21 : LS) (s22 : LS) (s23 : LS) : T := mkT 217 [(2, (.ptr 1002 0)), (5, (.row 1014)), (6, (.row 1051)), (7, (.row 1057)), (9, (.tv i64 s17))]
def f151.H1 (s17 : Int) (s18 : Int) (s19 : Int) (s20 : LT) (s21 : LS) (s22 : LS) (s23 : LS) : H := [(1002, (.box [(.tv i64 s18), (.tv i64 s19), (.tv (.sl (.st 1)) s20)])), (1014, (.row 146 (.st 3) s21)), (1051, (.row 146 (.st 3) s22)), (1057, (.row 146 (.st 3) s23))]
def f151.T1_e3 (z24 : LS) (z25 : LS) (z26 : LS) : T := mkT 217 [(5, (.row 1014)), (6, (.row 1051)), (7, (.row 1057))]
def f151.H1_e3 (z24 : LS) (z25 : LS) (z26 : LS) : H := [(1014, (.row 146 (.st 3) z24)), (1051, (.row 146 (.st 3) z25)), (1057, (.row 146 (.st 3) z26))]
def f151.j0' {R : Type} (L N : Nat) (self151 : Tree → LT → Option (LS)) (k3_e7 : Int → LS → LS → LS → Option R) (rec3 : Int → Int → LS → LS → LS → Option R) (v41 : Int) (v42 : Int) (v43 : Bool) (v44 : LS) (v45 : LS) (v46 : LS) : Option R :=
  bif v43 then
    bif (decide (0 ≤ v41) && decide (v41 < (v45.length : Int))) then
      bif (decide (0 ≤ v42) && decide (v42 < (v46.length : Int))) then
        bif (decide (v44.length + ([(Step.mk (0 : Int) (Tree.mk (3 : Int) (0 : Int) ([(Tree.mk ((listAt v45 (Ty.dflt (.st 3)) v41.toNat).thn.op) ((listAt v45 (Ty.dflt (.st 3)) v41.toNat).thn.n) ((listAt v45 (Ty.dflt (.st 3)) v41.toNat).thn.parts)), (Tree.mk ((listAt v46 (Ty.dflt (.st 3)) v42.toNat).thn.op) ((listAt v46 (Ty.dflt (.st 3)) v42.toNat).thn.n) ((listAt v46 (Ty.dflt (.st 3)) v42.toNat).thn.parts))] : LT)))] : LS).length ≤ lim)) then
          rec3 v41 (wi (v42 + (1 : Int))) (v44 ++ ([(Step.mk (0 : Int) (Tree.mk (3 : Int) (0 : Int) ([(Tree.mk ((listAt v45 (Ty.dflt (.st 3)) v41.toNat).thn.op) ((listAt v45 (Ty.dflt (.st 3)) v41.toNat).thn.n) ((listAt v45 (Ty.dflt (.st 3)) v41.toNat).thn.parts)), (Tree.mk ((listAt v46 (Ty.dflt (.st 3)) v42.toNat).thn.op) ((listAt v46 (Ty.dflt (.st 3)) v42.toNat).thn.n) ((listAt v46 (Ty.dflt (.st 3)) v42.toNat).thn.parts))] : LT)))] : LS)) v45 v46
        else none
      else none
    else none
  else rec3 v41 (wi (v42 + (1 : Int))) v44 v45 v46
def f151.s3' {R : Type} (L N : Nat) (self151 : Tree → LT → Option (LS)) (k3_e7 : Int → LS → LS → LS → Option R) (rec3 : Int → Int → LS → LS → LS → Option R) (s32 : Int) (s33 : Int) (s34 : LS) (s35 : LS) (s36 : LS) : Option R :=
  bif (decide (s33 < (s36.length : Int))) then
    bif (decide (0 ≤ s32) && decide (s32 < (s35.length : Int))) then
      bif ((listAt s35 (Ty.dflt (.st 3)) s32.toNat).act != (0 : Int)) then
        bif (decide (0 ≤ s32) && decide (s32 < (s35.length : Int))) then
          bif (decide (0 ≤ s33) && decide (s33 < (s36.length : Int))) then
            f151.j0' L N self151 k3_e7 rec3 s32 s33 ((listAt s35 (Ty.dflt (.st 3)) s32.toNat).act == (wi (0 - (listAt s36 (Ty.dflt (.st 3)) s33.toNat).act))) s34 s35 s36
          else none
        else none
      else f151.j0' L N self151 k3_e7 rec3 s32 s33 false s34 s35 s36
    else none
  else k3_e7 s32 s34 s35 s36
def f151.s3 {R : Type} (L N : Nat) (self151 : Tree → LT → Option (LS)) (k3_e7 : Int → LS → LS → LS → Option R) (rec3 : Int → Int → LS → LS → LS → Option R) (s32 : Int) (s33 : Int) (s34 : LS) (s35 : LS) (s36 : LS) : Option R :=
  f151.s3' L N self151 k3_e7 rec3 s32 s33 s34 s35 s36
def f151.l3 {R : Type} (L N : Nat) (self151 : Tree → LT → Option (LS)) (k3_e7 : Int → LS → LS → LS → Option R) : Nat → Int → Int → LS → LS → LS → Option R
  | 0, _, _, _, _, _ => none
  | n + 1, s32, s33, s34, s35, s36 => f151.s3 L N self151 k3_e7 (f151.l3 L N self151 k3_e7 n) s32 s33 s34 s35 s36
def f151.T3 (s32 : Int) (s33 : Int) (s34 : LS) (s35 : LS) (s36 : LS) : T := mkT 217 [(5, (.row 1014)), (6, (.row 1051)), (7, (.row 1057)), (10, (.tv i64 s32)), (11, (.tv i64 s33))]
def f151.H3 (s32 : Int) (s33 : Int) (s34 : LS) (s35 : LS) (s36 : LS) : H := [(1014, (.row 146 (.st 3) s34)), (1051, (.row 146 (.st 3) s35)), (1057, (.row 146 (.st 3) s36))]
def f151.T3_e7 (z37 : Int) (z38 : LS) (z39 : LS) (z40 : LS) : T := mkT 217 [(5, (.row 1014)), (6, (.row 1051)), (7, (.row 1057)), (10, (.tv i64 z37))]
def f151.H3_e7 (z37 : Int) (z38 : LS) (z39 : LS) (z40 : LS) : H := [(1014, (.row 146 (.st 3) z38)), (1051, (.row 146 (.st 3) z39)), (1057, (.row 146 (.st 3) z40))]
def f151.p3_e7' {R : Type} (L N : Nat) (self151 : Tree → LT → Option (LS)) (k2_e5 : LS → Option R) (rec2 : Int → LS → LS → LS → Option R) (z37 : Int) (z38 : LS) (z39 : LS) (z40 : LS) : Option R :=
  rec2 (wi (z37 + (1 : Int))) z38 z39 z40
def f151.p3_e7 {R : Type} (L N : Nat) (self151 : Tree → LT → Option (LS)) (k2_e5 : LS → Option R) (rec2 : Int → LS → LS → LS → Option R) (z37 : Int) (z38 : LS) (z39 : LS) (z40 : LS) : Option R :=
  f151.p3_e7' L N self151 k2_e5 rec2 z37 z38 z39 z40
def f151.s2' {R : Type} (L N : Nat) (self151 : Tree → LT → Option (LS)) (k2_e5 : LS → Option R) (rec2 : Int → LS → LS → LS → Option R) (w3 : Int → Int → LS → LS → LS → Option R) (s27 : Int) (s28 : LS) (s29 : LS) (s30 : LS) : Option R :=
  bif (decide (s27 < (s29.length : Int))) then
    w3 s27 (0 : Int) s28 s29 s30
  else k2_e5 s28
def f151.s2 {R : Type} (L N : Nat) (self151 : Tree → LT → Option (LS)) (k2_e5 : LS → Option R) (rec2 : Int → LS → LS → LS → Option R) (s27 : Int) (s28 : LS) (s29 : LS) (s30 : LS) : Option R :=
  f151.s2' L N self151 k2_e5 rec2 (fun s32 s33 s34 s35 s36 => f151.l3 L N self151 (fun z37 z38 z39 z40 => f151.p3_e7 L N self151 k2_e5 rec2 z37 z38 z39 z40) L s32 s33 s34 s35 s36) s27 s28 s29 s30
def f151.l2 {R : Type} (L N : Nat) (self151 : Tree → LT → Option (LS)) (k2_e5 : LS → Option R) : Nat → Int → LS → LS → LS → Option R
  | 0, _, _, _, _ => none
  | n + 1, s27, s28, s29, s30 => f151.s2 L N self151 k2_e5 (f151.l2 L N self151 k2_e5 n) s27 s28 s29 s30
def f151.T2 (s27 : Int) (s28 : LS) (s29 : LS) (s30 : LS) : T := mkT 217 [(5, (.row 1014)), (6, (.row 1051)), (7, (.row 1057)), (10, (.tv i64 s27))]
def f151.H2 (s27 : Int) (s28 : LS) (s29 : LS) (s30 : LS) : H := [(1014, (.row 146 (.st 3) s28)), (1051, (.row 146 (.st 3) s29)), (1057, (.row 146 (.st 3) s30))]
def f151.T2_e5 (z31 : LS) : T := mkT 217 [(5, (.row 1014))]
def f151.H2_e5 (z31 : LS) : H := [(1014, (.row 146 (.st 3) z31))]
def f151.p2_e5' {R : Type} (L N : Nat) (self151 : Tree → LT → Option (LS)) (k : LS → Option R) (z31 : LS) : Option R :=
  k z31
def f151.p2_e5 {R : Type} (L N : Nat) (self151 : Tree → LT → Option (LS)) (k : LS → Option R) (z31 : LS) : Option R :=
  f151.p2_e5' L N self151 k z31
def f151.p1_e3' {R : Type} (L N : Nat) (self151 : Tree → LT → Option (LS)) (k : LS → Option R) (w2 : Int → LS → LS → LS → Option R) (z24 : LS) (z25 : LS) (z26 : LS) : Option R :=
  w2 (0 : Int) z24 z25 z26
def f151.p1_e3 {R : Type} (L N : Nat) (self151 : Tree → LT → Option (LS)) (k : LS → Option R) (z24 : LS) (z25 : LS) (z26 : LS) : Option R :=
  f151.p1_e3' L N self151 k (fun s27 s28 s29 s30 => f151.l2 L N self151 (fun z31 => f151.p2_e5 L N self151 k z31) L s27 s28 s29 s30) z24 z25 z26
def f151.p0_e1' {R : Type} (L N : Nat) (self151 : Tree → LT → Option (LS)) (k : LS → Option R) (w1 : Int → Int → Int → LT → LS → LS → LS → Option R) (z11 : Int) (z12 : Int) (z13 : LT) (z14 : LS) (z15 : LS) (z16 : LS) : Option R :=
  w1 (0 : Int) z11 z12 z13 z14 z15 z16
def f151.p0_e1 {R : Type} (L N : Nat) (self151 : Tree → LT → Option (LS)) (k : LS → Option R) (z11 : Int) (z12 : Int) (z13 : LT) (z14 : LS) (z15 : LS) (z16 : LS) : Option R :=
  f151.p0_e1' L N self151 k (fun s17 s18 s19 s20 s21 s22 s23 => f151.l1 L N self151 (fun z24 z25 z26 => f151.p1_e3 L N self151 k z24 z25 z26) L s17 s18 s19 s20 s21 s22 s23) z11 z12 z13 z14 z15 z16
def f151.j1' {R : Type} (L N : Nat) (self151 : Tree → LT → Option (LS)) (k4_e9 : LS → Option R) (rec4 : Int → Int → Int → LT → LS → LS → Option R) (v61 : Int) (v62 : Bool) (v63 : Int) (v64 : Int) (v65 : LT) (v66 : LS) (v67 : LS) : Option R :=
  bif v62 then
    bif (decide (0 ≤ v61) && decide (v61 < (v67.length : Int))) then
      bif (decide (0 ≤ v61) && decide (v61 < (v67.length : Int))) then
        bif (decide (v66.length + ([(Step.mk ((listAt v67 (Ty.dflt (.st 3)) v61.toNat).act) (Tree.mk (4 : Int) v64 ([(Tree.mk ((listAt v67 (Ty.dflt (.st 3)) v61.toNat).thn.op) ((listAt v67 (Ty.dflt (.st 3)) v61.toNat).thn.n) ((listAt v67 (Ty.dflt (.st 3)) v61.toNat).thn.parts))] : LT)))] : LS).length ≤ lim)) then
          rec4 (wi (v61 + (1 : Int))) v63 v64 v65 (v66 ++ ([(Step.mk ((listAt v67 (Ty.dflt (.st 3)) v61.toNat).act) (Tree.mk (4 : Int) v64 ([(Tree.mk ((listAt v67 (Ty.dflt (.st 3)) v61.toNat).thn.op) ((listAt v67 (Ty.dflt (.st 3)) v61.toNat).thn.n) ((listAt v67 (Ty.dflt (.st 3)) v61.toNat).thn.parts))] : LT)))] : LS)) v67
        else none
      else none
    else none
  else rec4 (wi (v61 + (1 : Int))) v63 v64 v65 v66 v67
def f151.s4' {R : Type} (L N : Nat) (self151 : Tree → LT → Option (LS)) (k4_e9 : LS → Option R) (rec4 : Int → Int → Int → LT → LS → LS → Option R) (s53 : Int) (s54 : Int) (s55 : Int) (s56 : LT) (s57 : LS) (s58 : LS) : Option R :=
  bif (decide (s53 < (s58.length : Int))) then
    bif (decide (0 ≤ s53) && decide (s53 < (s58.length : Int))) then
      bif ((listAt s58 (Ty.dflt (.st 3)) s53.toNat).act == (0 : Int)) then
        f151.j1' L N self151 k4_e9 rec4 s53 true s54 s55 s56 s57 s58
      else bif (decide (0 ≤ s53) && decide (s53 < (s58.length : Int))) then
        (f163 L N ((listAt s58 (Ty.dflt (.st 3)) s53.toNat).act)).bind fun y60 =>
        f151.j1' L N self151 k4_e9 rec4 s53 (y60 != s55) s54 s55 s56 s57 s58
      else none
    else none
  else k4_e9 s57
def f151.s4 {R : Type} (L N : Nat) (self151 : Tree → LT → Option (LS)) (k4_e9 : LS → Option R) (rec4 : Int → Int → Int → LT → LS → LS → Option R) (s53 : Int) (s54 : Int) (s55 : Int) (s56 : LT) (s57 : LS) (s58 : LS) : Option R :=
  f151.s4' L N self151 k4_e9 rec4 s53 s54 s55 s56 s57 s58
def f151.l4 {R : Type} (L N : Nat) (self151 : Tree → LT → Option (LS)) (k4_e9 : LS → Option R) : Nat → Int → Int → Int → LT → LS → LS → Option R
  | 0, _, _, _, _, _, _ => none
  | n + 1, s53, s54, s55, s56, s57, s58 => f151.s4 L N self151 k4_e9 (f151.l4 L N self151 k4_e9 n) s53 s54 s55 s56 s57 s58
def f151.T4 (s53 : Int) (s54 : Int) (s55 : Int) (s56 : LT) (s57 : LS) (s58 : LS) : T := mkT 217 [(2, (.ptr 1002 0)), (5, (.row 1014)), (12, (.row 1165)), (13, (.tv i64 s53))]
def f151.H4 (s53 : Int) (s54 : Int) (s55 : Int) (s56 : LT) (s57 : LS) (s58 : LS) : H := [(1002, (.box [(.tv i64 s54), (.tv i64 s55), (.tv (.sl (.st 1)) s56)])), (1014, (.row 146 (.st 3) s57)), (1165, (.row 146 (.st 3) s58))]
def f151.T4_e9 (z59 : LS) : T := mkT 217 [(5, (.row 1014))]
def f151.H4_e9 (z59 : LS) : H := [(1014, (.row 146 (.st 3) z59))]
def f151.p4_e9' {R : Type} (L N : Nat) (self151 : Tree → LT → Option (LS)) (k : LS → Option R) (z59 : LS) : Option R :=
  k z59
def f151.p4_e9 {R : Type} (L N : Nat) (self151 : Tree → LT → Option (LS)) (k : LS → Option R) (z59 : LS) : Option R :=
  f151.p4_e9' L N self151 k z59
def f151.b' {R : Type} (L N : Nat) (self151 : Tree → LT → Option (LS)) (k : LS → Option R) (w0 : Int → Int → Int → LT → LS → LS → LS → Option R) (w4 : Int → Int → Int → LT → LS → LS → Option R) (x0 : Tree) (x1 : LT) : Option R :=
  bif (x0.op == (1 : Int)) then
    bif (decide (0 ≤ (0 : Int)) && decide ((0 : Int) < (x0.parts.length : Int))) then
      bif (decide (([] : LS).length + ([(Step.mk x0.n (Tree.mk ((listAt x0.parts (Ty.dflt (.st 1)) (0 : Int).toNat).op) ((listAt x0.parts (Ty.dflt (.st 1)) (0 : Int).toNat).n) ((listAt x0.parts (Ty.dflt (.st 1)) (0 : Int).toNat).parts)))] : LS).length ≤ lim)) then
        k (([] : LS) ++ ([(Step.mk x0.n (Tree.mk ((listAt x0.parts (Ty.dflt (.st 1)) (0 : Int).toNat).op) ((listAt x0.parts (Ty.dflt (.st 1)) (0 : Int).toNat).n) ((listAt x0.parts (Ty.dflt (.st 1)) (0 : Int).toNat).parts)))] : LS))
      else none
    else none
  else bif (x0.op == (2 : Int)) then
    bif (decide (0 ≤ (0 : Int)) && decide ((0 : Int) < (x0.parts.length : Int))) then
      (self151 (listAt x0.parts (Ty.dflt (.st 1)) (0 : Int).toNat) x1).bind fun y0 =>
      bif (decide (0 ≤ (1 : Int)) && decide ((1 : Int) < (x0.parts.length : Int))) then
        (self151 (listAt x0.parts (Ty.dflt (.st 1)) (1 : Int).toNat) x1).bind fun y1 =>
        bif (decide (y0.length + y1.length ≤ lim)) then
          k (y0 ++ y1)
        else none
      else none
    else none
  else bif (x0.op == (3 : Int)) then
    bif (decide (0 ≤ (0 : Int)) && decide ((0 : Int) < (x0.parts.length : Int))) then
      (self151 (listAt x0.parts (Ty.dflt (.st 1)) (0 : Int).toNat) x1).bind fun y2 =>
      bif (decide (0 ≤ (1 : Int)) && decide ((1 : Int) < (x0.parts.length : Int))) then
        (self151 (listAt x0.parts (Ty.dflt (.st 1)) (1 : Int).toNat) x1).bind fun y3 =>
        w0 (0 : Int) x0.op x0.n x0.parts ([] : LS) y2 y3
      else none
    else none
  else bif (x0.op == (4 : Int)) then
    bif (decide (0 ≤ (0 : Int)) && decide ((0 : Int) < (x0.parts.length : Int))) then
      (self151 (listAt x0.parts (Ty.dflt (.st 1)) (0 : Int).toNat) x1).bind fun y52 =>
      w4 (0 : Int) x0.op x0.n x0.parts ([] : LS) y52
    else none
  else bif (x0.op == (5 : Int)) then
    bif (decide (0 ≤ x0.n) && decide (x0.n < (x1.length : Int))) then
      (self151 (listAt x1 (Ty.dflt (.st 1)) x0.n.toNat) x1).bind fun y74 =>
      k y74
    else none
  else k ([] : LS)
def f151.b {R : Type} (L N : Nat) (self151 : Tree → LT → Option (LS)) (k : LS → Option R) (x0 : Tree) (x1 : LT) : Option R :=
  f151.b' L N self151 k (fun s4 s5 s6 s7 s8 s9 s10 => f151.l0 L N self151 (fun z11 z12 z13 z14 z15 z16 => f151.p0_e1 L N self151 k z11 z12 z13 z14 z15 z16) L s4 s5 s6 s7 s8 s9 s10) (fun s53 s54 s55 s56 s57 s58 => f151.l4 L N self151 (fun z59 => f151.p4_e9 L N self151 k z59) L s53 s54 s55 s56 s57 s58) x0 x1
def f151 (L N : Nat) : Nat → Tree → LT → Option (LS)
  | 0, _, _ => none
  | n + 1, x0, x1 => f151.b L N (f151 L N n) some x0 x1
def f151.ent (L N m : Nat) (args : List AV) (vw : View) (site : Nat) : Ans := match coeD [(.st 1), (.sl (.st 1))] vw args with
  | some (d, u) => ⟨LS, f151 L N m d.1 d.2.1, fun y => (.row site, u ++ [(site, some (.row 146 (.st 3) y))], [])⟩
  | none => Ans.no
def Φ151s (L N m : Nat) : Tells := (addT (Φ150 L N) 151 (f151.ent L N m))
noncomputable def E151 (L N m : Nat) : Env := { P := Try.prog, ty := tyOf, Φ := Φ151s L N m, inl := inlT, live := lives, liveX := livesX, L := L, dp := none, prom := promT, heal := healT, ren := renT }
noncomputable def f151.c0 : Code := loopAt 1 (codeOf Try.f151)
def f151.X0_e1 {R : Type} (κ : KX R) := fun z11 z12 z13 z14 z15 z16 => κ (.exit 1) (f151.T0_e1 z11 z12 z13 z14 z15 z16) (f151.H0_e1 z11 z12 z13 z14 z15 z16)
def f151.R0 {R : Type} (rec : KT R) := fun s4 s5 s6 s7 s8 s9 s10 => rec (f151.T0 s4 s5 s6 s7 s8 s9 s10) (f151.H0 s4 s5 s6 s7 s8 s9 s10)
theorem f151.s0_eq {R : Type} (L N m : Nat) (κ : KX R) (rec : KT R) (s4 : Int) (s5 : Int) (s6 : Int) (s7 : LT) (s8 : LS) (s9 : LS) (s10 : LS) :
    evRd (E151 L N m) (evCallI (E151 L N m) 1 2000) 1000 151 217 1 f151.c0 κ rec (f151.T0 s4 s5 s6 s7 s8 s9 s10) (f151.H0 s4 s5 s6 s7 s8 s9 s10)
    = f151.s0 L N (f151 L N m) (f151.X0_e1 κ) (f151.R0 rec) s4 s5 s6 s7 s8 s9 s10 := by kernel_rfl
theorem f151.l0_eq {R : Type} (L N m : Nat) (κ : KX R) : ∀ (n : Nat) (s4 : Int) (s5 : Int) (s6 : Int) (s7 : LT) (s8 : LS) (s9 : LS) (s10 : LS),
    evLp (E151 L N m) (evCallI (E151 L N m) 1 2000) 1000 151 217 1 f151.c0 κ n (f151.T0 s4 s5 s6 s7 s8 s9 s10) (f151.H0 s4 s5 s6 s7 s8 s9 s10)
    = f151.l0 L N (f151 L N m) (f151.X0_e1 κ) n s4 s5 s6 s7 s8 s9 s10 := by
  intro n
  induction n with
  | zero => intros; rfl
  | succ n ih =>
    intro s4 s5 s6 s7 s8 s9 s10
    rw [evLp_succ, f151.s0_eq]
    delta f151.R0
    simp only [ih]
    rfl
noncomputable def f151.c1 : Code := loopAt 3 (codeOf Try.f151)
def f151.X1_e3 {R : Type} (κ : KX R) := fun z24 z25 z26 => κ (.exit 3) (f151.T1_e3 z24 z25 z26) (f151.H1_e3 z24 z25 z26)
def f151.R1 {R : Type} (rec : KT R) := fun s17 s18 s19 s20 s21 s22 s23 => rec (f151.T1 s17 s18 s19 s20 s21 s22 s23) (f151.H1 s17 s18 s19 s20 s21 s22 s23)
theorem f151.s1_eq {R : Type} (L N m : Nat) (κ : KX R) (rec : KT R) (s17 : Int) (s18 : Int) (s19 : Int) (s20 : LT) (s21 : LS) (s22 : LS) (s23 : LS) :
    evRd (E151 L N m) (evCallI (E151 L N m) 1 2000) 1000 151 217 3 f151.c1 κ rec (f151.T1 s17 s18 s19 s20 s21 s22 s23) (f151.H1 s17 s18 s19 s20 s21 s22 s23)
    = f151.s1 L N (f151 L N m) (f151.X1_e3 κ) (f151.R1 rec) s17 s18 s19 s20 s21 s22 s23 := by kernel_rfl
theorem f151.l1_eq {R : Type} (L N m : Nat) (κ : KX R) : ∀ (n : Nat) (s17 : Int) (s18 : Int) (s19 : Int) (s20 : LT) (s21 : LS) (s22 : LS) (s23 : LS),
    evLp (E151 L N m) (evCallI (E151 L N m) 1 2000) 1000 151 217 3 f151.c1 κ n (f151.T1 s17 s18 s19 s20 s21 s22 s23) (f151.H1 s17 s18 s19 s20 s21 s22 s23)
    = f151.l1 L N (f151 L N m) (f151.X1_e3 κ) n s17 s18 s19 s20 s21 s22 s23 := by
  intro n
  induction n with
  | zero => intros; rfl
  | succ n ih =>
    intro s17 s18 s19 s20 s21 s22 s23
    rw [evLp_succ, f151.s1_eq]
    delta f151.R1
    simp only [ih]
    rfl
noncomputable def f151.c2 : Code := loopAt 5 (codeOf Try.f151)
noncomputable def f151.c3 : Code := loopAt 7 f151.c2
def f151.X3_e7 {R : Type} (κ : KX R) := fun z37 z38 z39 z40 => κ (.exit 7) (f151.T3_e7 z37 z38 z39 z40) (f151.H3_e7 z37 z38 z39 z40)
def f151.R3 {R : Type} (rec : KT R) := fun s32 s33 s34 s35 s36 => rec (f151.T3 s32 s33 s34 s35 s36) (f151.H3 s32 s33 s34 s35 s36)
theorem f151.s3_eq {R : Type} (L N m : Nat) (κ : KX R) (rec : KT R) (s32 : Int) (s33 : Int) (s34 : LS) (s35 : LS) (s36 : LS) :
    evRd (E151 L N m) (evCallI (E151 L N m) 1 2000) 1000 151 217 7 f151.c3 κ rec (f151.T3 s32 s33 s34 s35 s36) (f151.H3 s32 s33 s34 s35 s36)
    = f151.s3 L N (f151 L N m) (f151.X3_e7 κ) (f151.R3 rec) s32 s33 s34 s35 s36 := by kernel_rfl
theorem f151.l3_eq {R : Type} (L N m : Nat) (κ : KX R) : ∀ (n : Nat) (s32 : Int) (s33 : Int) (s34 : LS) (s35 : LS) (s36 : LS),
    evLp (E151 L N m) (evCallI (E151 L N m) 1 2000) 1000 151 217 7 f151.c3 κ n (f151.T3 s32 s33 s34 s35 s36) (f151.H3 s32 s33 s34 s35 s36)
    = f151.l3 L N (f151 L N m) (f151.X3_e7 κ) n s32 s33 s34 s35 s36 := by
  intro n
  induction n with
  | zero => intros; rfl
  | succ n ih =>
    intro s32 s33 s34 s35 s36
    rw [evLp_succ, f151.s3_eq]
    delta f151.R3
    simp only [ih]
    rfl
def f151.X2_e5 {R : Type} (κ : KX R) := fun z31 => κ (.exit 5) (f151.T2_e5 z31) (f151.H2_e5 z31)
def f151.R2 {R : Type} (rec : KT R) := fun s27 s28 s29 s30 => rec (f151.T2 s27 s28 s29 s30) (f151.H2 s27 s28 s29 s30)
theorem f151.p3_e7_eq {R : Type} (L N m : Nat) (κ : KX R) (rec : KT R) (z37 : Int) (z38 : LS) (z39 : LS) (z40 : LS) :
    (contAt (E151 L N m) (evCallI (E151 L N m) 1 2000) 1000 151 217 7 f151.c2 (rdK (E151 L N m) 1000 151 217 5 κ rec)) (.exit 7) (f151.T3_e7 z37 z38 z39 z40) (f151.H3_e7 z37 z38 z39 z40)
    = f151.p3_e7 L N (f151 L N m) (f151.X2_e5 κ) (f151.R2 rec) z37 z38 z39 z40 := by kernel_rfl
theorem f151.s2_eq {R : Type} (L N m : Nat) (κ : KX R) (rec : KT R) (s27 : Int) (s28 : LS) (s29 : LS) (s30 : LS) :
    evRd (E151 L N m) (evCallI (E151 L N m) 1 2000) 1000 151 217 5 f151.c2 κ rec (f151.T2 s27 s28 s29 s30) (f151.H2 s27 s28 s29 s30)
    = f151.s2 L N (f151 L N m) (f151.X2_e5 κ) (f151.R2 rec) s27 s28 s29 s30 := by
  refine Eq.trans (b := f151.s2' L N (f151 L N m) (f151.X2_e5 κ) (f151.R2 rec) (fun s32 s33 s34 s35 s36 => evLp (E151 L N m) (evCallI (E151 L N m) 1 2000) 1000 151 217 7 f151.c3 (contAt (E151 L N m) (evCallI (E151 L N m) 1 2000) 1000 151 217 7 f151.c2 (rdK (E151 L N m) 1000 151 217 5 κ rec)) L (f151.T3 s32 s33 s34 s35 s36) (f151.H3 s32 s33 s34 s35 s36)) s27 s28 s29 s30) (by kernel_rfl) ?_
  unfold f151.s2
  simp only [f151.l3_eq]
  delta f151.X3_e7
  simp only [f151.p3_e7_eq]
theorem f151.l2_eq {R : Type} (L N m : Nat) (κ : KX R) : ∀ (n : Nat) (s27 : Int) (s28 : LS) (s29 : LS) (s30 : LS),
    evLp (E151 L N m) (evCallI (E151 L N m) 1 2000) 1000 151 217 5 f151.c2 κ n (f151.T2 s27 s28 s29 s30) (f151.H2 s27 s28 s29 s30)
    = f151.l2 L N (f151 L N m) (f151.X2_e5 κ) n s27 s28 s29 s30 := by
  intro n
  induction n with
  | zero => intros; rfl
  | succ n ih =>
    intro s27 s28 s29 s30
    rw [evLp_succ, f151.s2_eq]
    delta f151.R2
    simp only [ih]
    rfl
theorem f151.p2_e5_eq {R : Type} (L N m : Nat) (κ : List Step → Option R) (z31 : LS) :
    (contAt (E151 L N m) (evCallI (E151 L N m) 1 2000) 1000 151 217 5 (codeOf Try.f151) (finK (E151 L N m) 1000 Try.f151 (finRow 146 (.st 3) κ))) (.exit 5) (f151.T2_e5 z31) (f151.H2_e5 z31)
    = f151.p2_e5 L N (f151 L N m) κ z31 := by kernel_rfl
theorem f151.p1_e3_eq {R : Type} (L N m : Nat) (κ : List Step → Option R) (z24 : LS) (z25 : LS) (z26 : LS) :
    (contAt (E151 L N m) (evCallI (E151 L N m) 1 2000) 1000 151 217 3 (codeOf Try.f151) (finK (E151 L N m) 1000 Try.f151 (finRow 146 (.st 3) κ))) (.exit 3) (f151.T1_e3 z24 z25 z26) (f151.H1_e3 z24 z25 z26)
    = f151.p1_e3 L N (f151 L N m) κ z24 z25 z26 := by
  refine Eq.trans (b := f151.p1_e3' L N (f151 L N m) κ (fun s27 s28 s29 s30 => evLp (E151 L N m) (evCallI (E151 L N m) 1 2000) 1000 151 217 5 f151.c2 (contAt (E151 L N m) (evCallI (E151 L N m) 1 2000) 1000 151 217 5 (codeOf Try.f151) (finK (E151 L N m) 1000 Try.f151 (finRow 146 (.st 3) κ))) L (f151.T2 s27 s28 s29 s30) (f151.H2 s27 s28 s29 s30)) z24 z25 z26) (by kernel_rfl) ?_
  unfold f151.p1_e3
  simp only [f151.l2_eq]
  delta f151.X2_e5
  simp only [f151.p2_e5_eq]
theorem f151.p0_e1_eq {R : Type} (L N m : Nat) (κ : List Step → Option R) (z11 : Int) (z12 : Int) (z13 : LT) (z14 : LS) (z15 : LS) (z16 : LS) :
    (contAt (E151 L N m) (evCallI (E151 L N m) 1 2000) 1000 151 217 1 (codeOf Try.f151) (finK (E151 L N m) 1000 Try.f151 (finRow 146 (.st 3) κ))) (.exit 1) (f151.T0_e1 z11 z12 z13 z14 z15 z16) (f151.H0_e1 z11 z12 z13 z14 z15 z16)
    = f151.p0_e1 L N (f151 L N m) κ z11 z12 z13 z14 z15 z16 := by
  refine Eq.trans (b := f151.p0_e1' L N (f151 L N m) κ (fun s17 s18 s19 s20 s21 s22 s23 => evLp (E151 L N m) (evCallI (E151 L N m) 1 2000) 1000 151 217 3 f151.c1 (contAt (E151 L N m) (evCallI (E151 L N m) 1 2000) 1000 151 217 3 (codeOf Try.f151) (finK (E151 L N m) 1000 Try.f151 (finRow 146 (.st 3) κ))) L (f151.T1 s17 s18 s19 s20 s21 s22 s23) (f151.H1 s17 s18 s19 s20 s21 s22 s23)) z11 z12 z13 z14 z15 z16) (by kernel_rfl) ?_
  unfold f151.p0_e1
  simp only [f151.l1_eq]
  delta f151.X1_e3
  simp only [f151.p1_e3_eq]
noncomputable def f151.c4 : Code := loopAt 9 (codeOf Try.f151)
def f151.X4_e9 {R : Type} (κ : KX R) := fun z59 => κ (.exit 9) (f151.T4_e9 z59) (f151.H4_e9 z59)
def f151.R4 {R : Type} (rec : KT R) := fun s53 s54 s55 s56 s57 s58 => rec (f151.T4 s53 s54 s55 s56 s57 s58) (f151.H4 s53 s54 s55 s56 s57 s58)
theorem f151.s4_eq {R : Type} (L N m : Nat) (κ : KX R) (rec : KT R) (s53 : Int) (s54 : Int) (s55 : Int) (s56 : LT) (s57 : LS) (s58 : LS) :
    evRd (E151 L N m) (evCallI (E151 L N m) 1 2000) 1000 151 217 9 f151.c4 κ rec (f151.T4 s53 s54 s55 s56 s57 s58) (f151.H4 s53 s54 s55 s56 s57 s58)
    = f151.s4 L N (f151 L N m) (f151.X4_e9 κ) (f151.R4 rec) s53 s54 s55 s56 s57 s58 := by kernel_rfl
theorem f151.l4_eq {R : Type} (L N m : Nat) (κ : KX R) : ∀ (n : Nat) (s53 : Int) (s54 : Int) (s55 : Int) (s56 : LT) (s57 : LS) (s58 : LS),
    evLp (E151 L N m) (evCallI (E151 L N m) 1 2000) 1000 151 217 9 f151.c4 κ n (f151.T4 s53 s54 s55 s56 s57 s58) (f151.H4 s53 s54 s55 s56 s57 s58)
    = f151.l4 L N (f151 L N m) (f151.X4_e9 κ) n s53 s54 s55 s56 s57 s58 := by
  intro n
  induction n with
  | zero => intros; rfl
  | succ n ih =>
    intro s53 s54 s55 s56 s57 s58
    rw [evLp_succ, f151.s4_eq]
    delta f151.R4
    simp only [ih]
    rfl
theorem f151.p4_e9_eq {R : Type} (L N m : Nat) (κ : List Step → Option R) (z59 : LS) :
    (contAt (E151 L N m) (evCallI (E151 L N m) 1 2000) 1000 151 217 9 (codeOf Try.f151) (finK (E151 L N m) 1000 Try.f151 (finRow 146 (.st 3) κ))) (.exit 9) (f151.T4_e9 z59) (f151.H4_e9 z59)
    = f151.p4_e9 L N (f151 L N m) κ z59 := by kernel_rfl
theorem f151.b_eq {R : Type} (L N m : Nat) (κ : List Step → Option R) (x0 : Tree) (x1 : LT) :
    evBody (E151 L N m) (evCallI (E151 L N m) 1 2000) 1000 151 Try.f151 [(.tv (.st 1) x0), (.tv (.sl (.st 1)) x1)] [] [] (finRow 146 (.st 3) κ)
    = f151.b L N (f151 L N m) κ x0 x1 := by
  refine Eq.trans (b := f151.b' L N (f151 L N m) κ (fun s4 s5 s6 s7 s8 s9 s10 => evLp (E151 L N m) (evCallI (E151 L N m) 1 2000) 1000 151 217 1 f151.c0 (contAt (E151 L N m) (evCallI (E151 L N m) 1 2000) 1000 151 217 1 (codeOf Try.f151) (finK (E151 L N m) 1000 Try.f151 (finRow 146 (.st 3) κ))) L (f151.T0 s4 s5 s6 s7 s8 s9 s10) (f151.H0 s4 s5 s6 s7 s8 s9 s10)) (fun s53 s54 s55 s56 s57 s58 => evLp (E151 L N m) (evCallI (E151 L N m) 1 2000) 1000 151 217 9 f151.c4 (contAt (E151 L N m) (evCallI (E151 L N m) 1 2000) 1000 151 217 9 (codeOf Try.f151) (finK (E151 L N m) 1000 Try.f151 (finRow 146 (.st 3) κ))) L (f151.T4 s53 s54 s55 s56 s57 s58) (f151.H4 s53 s54 s55 s56 s57 s58)) x0 x1) (by kernel_rfl) ?_
  unfold f151.b
  simp only [f151.l0_eq, f151.l4_eq]
  delta f151.X0_e1 f151.X4_e9
  simp only [f151.p0_e1_eq, f151.p4_e9_eq]
theorem f151.ok (L N m : Nat) (hΦ : TellsOk Try.prog (Φ151s L N m)) : EntOk Try.prog 151 (f151.ent L N (m + 1)) := by
  intro args vw site h
  unfold f151.ent
  split
  · rename_i d u ha
    intro y hy hs
    refine call_row (dep := 1000) (E := (E151 L N m)) (sound_of hΦ) okP (callI_sound (sound_of hΦ) okP 1 2000) (f := Try.f151) rfl hs ha ?_ site
    exact (f151.b_eq L N m some d.1 d.2.1).trans hy
  · intro y hy
    cases hy
theorem Φ151s_ok (L N : Nat) : ∀ m, TellsOk Try.prog (Φ151s L N m) := by
  intro m
  induction m with
  | zero => exact (addT_ok (Φ150_ok L N) (fun args vw site h => by unfold f151.ent; split <;> (intro y hy; cases hy)))
  | succ m ih => exact (addT_ok (Φ150_ok L N) (f151.ok L N m ih))
def Φ151 (L N : Nat) : Tells := (addT (Φ150 L N) 151 (f151.ent L N N))
theorem Φ151_ok (L N : Nat) : TellsOk Try.prog (Φ151 L N) := Φ151s_ok L N N
def f133.s2' {R : Type} (L N : Nat) (k2_e4 : LT → Int → Int → ByteArray → Int → LT → LY → LS → LM → LLM → Option R) (rec2 : LT → Int → Int → ByteArray → Int → LT → LY → LS → LM → LLM → Option R) (s23 : LT) (s24 : Int) (s25 : Int) (s26 : ByteArray) (s27 : Int) (s28 : LT) (s29 : LY) (s30 : LS) (s31 : LM) (s32 : LLM) : Option R :=
  bif (decide (s27 < (s29.length : Int))) then
    bif (decide (0 ≤ s27) && decide (s27 < (s29.length : Int))) then
      bif (!((listAt s29 ByteArray.empty s27.toNat).toList == s26.toList)) then
        rec2 s23 s24 s25 s26 (wi (s27 + (1 : Int))) s28 s29 s30 s31 s32
      else k2_e4 s23 s24 s25 s26 s27 s28 s29 s30 s31 s32
    else none
  else k2_e4 s23 s24 s25 s26 s27 s28 s29 s30 s31 s32
def f133.s2 {R : Type} (L N : Nat) (k2_e4 : LT → Int → Int → ByteArray → Int → LT → LY → LS → LM → LLM → Option R) (rec2 : LT → Int → Int → ByteArray → Int → LT → LY → LS → LM → LLM → Option R) (s23 : LT) (s24 : Int) (s25 : Int) (s26 : ByteArray) (s27 : Int) (s28 : LT) (s29 : LY) (s30 : LS) (s31 : LM) (s32 : LLM) : Option R :=
  f133.s2' L N k2_e4 rec2 s23 s24 s25 s26 s27 s28 s29 s30 s31 s32
def f133.l2 {R : Type} (L N : Nat) (k2_e4 : LT → Int → Int → ByteArray → Int → LT → LY → LS → LM → LLM → Option R) : Nat → LT → Int → Int → ByteArray → Int → LT → LY → LS → LM → LLM → Option R
  | 0, _, _, _, _, _, _, _, _, _, _ => none
  | n + 1, s23, s24, s25, s26, s27, s28, s29, s30, s31, s32 => f133.s2 L N k2_e4 (f133.l2 L N k2_e4 n) s23 s24 s25 s26 s27 s28 s29 s30 s31 s32
def f133.T2 (s23 : LT) (s24 : Int) (s25 : Int) (s26 : ByteArray) (s27 : Int) (s28 : LT) (s29 : LY) (s30 : LS) (s31 : LM) (s32 : LLM) : T := mkT 106 [(1, (.tv (.sl (.st 1)) s23)), (4, (.ptr 1004 0)), (6, (.row 1016)), (7, (.row 1019)), (8, (.ptr 1008 0)), (9, (.tv i64 s24)), (10, (.row 1032)), (11, (.row 1033)), (12, (.tv i64 s25)), (13, (.tv .str s26)), (14, (.tv i64 s27))]
def f133.H2 (s23 : LT) (s24 : Int) (s25 : Int) (s26 : ByteArray) (s27 : Int) (s28 : LT) (s29 : LY) (s30 : LS) (s31 : LM) (s32 : LLM) : H := [(1004, (.box [.nil])), (1008, (.box [(.row 1900)])), (1016, (.row 110 (.st 1) s28)), (1019, (.row 9 .str s29)), (1032, (.row 146 (.st 3) s30)), (1033, (.row 53 (.st 0) s31)), (1900, (.row 51 (.sl (.st 0)) s32))]
def f133.T2_e4 (z44 : LT) (z45 : Int) (z46 : Int) (z47 : ByteArray) (z48 : Int) (z49 : LT) (z50 : LY) (z51 : LS) (z52 : LM) (z53 : LLM) : T := mkT 106 [(1, (.tv (.sl (.st 1)) z44)), (4, (.ptr 1004 0)), (6, (.row 1016)), (7, (.row 1019)), (8, (.ptr 1008 0)), (9, (.tv i64 z45)), (10, (.row 1032)), (11, (.row 1033)), (12, (.tv i64 z46)), (13, (.tv .str z47)), (14, (.tv i64 z48))]
def f133.H2_e4 (z44 : LT) (z45 : Int) (z46 : Int) (z47 : ByteArray) (z48 : Int) (z49 : LT) (z50 : LY) (z51 : LS) (z52 : LM) (z53 : LLM) : H := [(1004, (.box [.nil])), (1008, (.box [(.row 1900)])), (1016, (.row 110 (.st 1) z49)), (1019, (.row 9 .str z50)), (1032, (.row 146 (.st 3) z51)), (1033, (.row 53 (.st 0) z52)), (1900, (.row 51 (.sl (.st 0)) z53))]
def f133.j1' {R : Type} (L N : Nat) (k1_e2 : LT → Int → LT → LY → LM → LLM → Option R) (k1_r : LT → Bool → Int → LT → LY → LM → LLM → Option R) (rec1 : LT → Int → Int → LT → LY → LS → LM → LLM → Option R) (v93 : LT) (v94 : Int) (v95 : Int) (v96 : Int) (v97 : LT) (v98 : LY) (v99 : LS) (v100 : LM) (v101 : LLM) : Option R :=
  bif (decide (0 ≤ v95) && decide (v95 < (v99.length : Int))) then
    bif (decide (v100.length + ([(Move.mk ((listAt v99 (Ty.dflt (.st 3)) v95.toNat).act) v96)] : LM).length ≤ lim)) then
      rec1 v93 v94 (wi (v95 + (1 : Int))) v97 v98 v99 (v100 ++ ([(Move.mk ((listAt v99 (Ty.dflt (.st 3)) v95.toNat).act) v96)] : LM)) v101
    else none
  else none
def f133.j0' {R : Type} (L N : Nat) (k1_e2 : LT → Int → LT → LY → LM → LLM → Option R) (k1_r : LT → Bool → Int → LT → LY → LM → LLM → Option R) (rec1 : LT → Int → Int → LT → LY → LS → LM → LLM → Option R) (v83 : LT) (v84 : Int) (v85 : Int) (v86 : ByteArray) (v87 : Int) (v88 : LT) (v89 : LY) (v90 : LS) (v91 : LM) (v92 : LLM) : Option R :=
  bif (decide (0 ≤ v85) && decide (v85 < (v90.length : Int))) then
    bif (decide (v88.length + ([(Tree.mk ((listAt v90 (Ty.dflt (.st 3)) v85.toNat).thn.op) ((listAt v90 (Ty.dflt (.st 3)) v85.toNat).thn.n) ((listAt v90 (Ty.dflt (.st 3)) v85.toNat).thn.parts))] : LT).length ≤ lim)) then
      bif (decide (v89.length + ([v86] : LY).length ≤ lim)) then
        f133.j1' L N k1_e2 k1_r rec1 v83 v84 v85 v87 (v88 ++ ([(Tree.mk ((listAt v90 (Ty.dflt (.st 3)) v85.toNat).thn.op) ((listAt v90 (Ty.dflt (.st 3)) v85.toNat).thn.n) ((listAt v90 (Ty.dflt (.st 3)) v85.toNat).thn.parts))] : LT)) (v89 ++ ([v86] : LY)) v90 v91 v92
      else none
    else none
  else none
def f133.p2_e4' {R : Type} (L N : Nat) (k1_e2 : LT → Int → LT → LY → LM → LLM → Option R) (k1_r : LT → Bool → Int → LT → LY → LM → LLM → Option R) (rec1 : LT → Int → Int → LT → LY → LS → LM → LLM → Option R) (z44 : LT) (z45 : Int) (z46 : Int) (z47 : ByteArray) (z48 : Int) (z49 : LT) (z50 : LY) (z51 : LS) (z52 : LM) (z53 : LLM) : Option R :=
  bif (z48 == (z50.length : Int)) then
    bif (z48 == (60 : Int)) then
      k1_r z44 false z45 z49 z50 z52 z53
    else bif (decide (0 ≤ z46) && decide (z46 < (z51.length : Int))) then
      (f152 L N N (Tree.mk ((listAt z51 (Ty.dflt (.st 3)) z46.toNat).thn.op) ((listAt z51 (Ty.dflt (.st 3)) z46.toNat).thn.n) ((listAt z51 (Ty.dflt (.st 3)) z46.toNat).thn.parts))).bind fun y64 =>
      bif (decide (y64 > (24 : Int))) then
        k1_r z44 false z45 z49 z50 z52 z53
      else f133.j0' L N k1_e2 k1_r rec1 z44 z45 z46 z47 z48 z49 z50 z51 z52 z53
    else none
  else f133.j1' L N k1_e2 k1_r rec1 z44 z45 z46 z48 z49 z50 z51 z52 z53
def f133.p2_e4 {R : Type} (L N : Nat) (k1_e2 : LT → Int → LT → LY → LM → LLM → Option R) (k1_r : LT → Bool → Int → LT → LY → LM → LLM → Option R) (rec1 : LT → Int → Int → LT → LY → LS → LM → LLM → Option R) (z44 : LT) (z45 : Int) (z46 : Int) (z47 : ByteArray) (z48 : Int) (z49 : LT) (z50 : LY) (z51 : LS) (z52 : LM) (z53 : LLM) : Option R :=
  f133.p2_e4' L N k1_e2 k1_r rec1 z44 z45 z46 z47 z48 z49 z50 z51 z52 z53
def f133.s1' {R : Type} (L N : Nat) (k1_e2 : LT → Int → LT → LY → LM → LLM → Option R) (k1_r : LT → Bool → Int → LT → LY → LM → LLM → Option R) (rec1 : LT → Int → Int → LT → LY → LS → LM → LLM → Option R) (w2 : LT → Int → Int → ByteArray → Int → LT → LY → LS → LM → LLM → Option R) (s8 : LT) (s9 : Int) (s10 : Int) (s11 : LT) (s12 : LY) (s13 : LS) (s14 : LM) (s15 : LLM) : Option R :=
  bif (decide (s10 < (s13.length : Int))) then
    bif (decide (0 ≤ s10) && decide (s10 < (s13.length : Int))) then
      (f150 L N N (Tree.mk ((listAt s13 (Ty.dflt (.st 3)) s10.toNat).thn.op) ((listAt s13 (Ty.dflt (.st 3)) s10.toNat).thn.n) ((listAt s13 (Ty.dflt (.st 3)) s10.toNat).thn.parts))).bind fun y22 =>
      w2 s8 s9 s10 y22 (0 : Int) s11 s12 s13 s14 s15
    else none
  else k1_e2 s8 s9 s11 s12 s14 s15
def f133.s1 {R : Type} (L N : Nat) (k1_e2 : LT → Int → LT → LY → LM → LLM → Option R) (k1_r : LT → Bool → Int → LT → LY → LM → LLM → Option R) (rec1 : LT → Int → Int → LT → LY → LS → LM → LLM → Option R) (s8 : LT) (s9 : Int) (s10 : Int) (s11 : LT) (s12 : LY) (s13 : LS) (s14 : LM) (s15 : LLM) : Option R :=
  f133.s1' L N k1_e2 k1_r rec1 (fun s23 s24 s25 s26 s27 s28 s29 s30 s31 s32 => f133.l2 L N (fun z44 z45 z46 z47 z48 z49 z50 z51 z52 z53 => f133.p2_e4 L N k1_e2 k1_r rec1 z44 z45 z46 z47 z48 z49 z50 z51 z52 z53) L s23 s24 s25 s26 s27 s28 s29 s30 s31 s32) s8 s9 s10 s11 s12 s13 s14 s15
def f133.l1 {R : Type} (L N : Nat) (k1_e2 : LT → Int → LT → LY → LM → LLM → Option R) (k1_r : LT → Bool → Int → LT → LY → LM → LLM → Option R) : Nat → LT → Int → Int → LT → LY → LS → LM → LLM → Option R
  | 0, _, _, _, _, _, _, _, _ => none
  | n + 1, s8, s9, s10, s11, s12, s13, s14, s15 => f133.s1 L N k1_e2 k1_r (f133.l1 L N k1_e2 k1_r n) s8 s9 s10 s11 s12 s13 s14 s15
def f133.T1 (s8 : LT) (s9 : Int) (s10 : Int) (s11 : LT) (s12 : LY) (s13 : LS) (s14 : LM) (s15 : LLM) : T := mkT 106 [(1, (.tv (.sl (.st 1)) s8)), (4, (.ptr 1004 0)), (6, (.row 1016)), (7, (.row 1019)), (8, (.ptr 1008 0)), (9, (.tv i64 s9)), (10, (.row 1032)), (11, (.row 1033)), (12, (.tv i64 s10))]
def f133.H1 (s8 : LT) (s9 : Int) (s10 : Int) (s11 : LT) (s12 : LY) (s13 : LS) (s14 : LM) (s15 : LLM) : H := [(1004, (.box [.nil])), (1008, (.box [(.row 1900)])), (1016, (.row 110 (.st 1) s11)), (1019, (.row 9 .str s12)), (1032, (.row 146 (.st 3) s13)), (1033, (.row 53 (.st 0) s14)), (1900, (.row 51 (.sl (.st 0)) s15))]
def f133.T1_e2 (z16 : LT) (z17 : Int) (z18 : LT) (z19 : LY) (z20 : LM) (z21 : LLM) : T := mkT 106 [(1, (.tv (.sl (.st 1)) z16)), (4, (.ptr 1004 0)), (6, (.row 1016)), (7, (.row 1019)), (8, (.ptr 1008 0)), (9, (.tv i64 z17)), (11, (.row 1033))]
def f133.H1_e2 (z16 : LT) (z17 : Int) (z18 : LT) (z19 : LY) (z20 : LM) (z21 : LLM) : H := [(1004, (.box [.nil])), (1008, (.box [(.row 1900)])), (1016, (.row 110 (.st 1) z18)), (1019, (.row 9 .str z19)), (1033, (.row 53 (.st 0) z20)), (1900, (.row 51 (.sl (.st 0)) z21))]
def f133.T1_r (z76 : LT) (z77 : Bool) (z78 : Int) (z79 : LT) (z80 : LY) (z81 : LM) (z82 : LLM) : T := mkT 106 [(1, (.tv (.sl (.st 1)) z76)), (4, (.ptr 1004 0)), (5, (.tv .bool z77)), (6, (.row 1016)), (7, (.row 1019)), (8, (.ptr 1008 0)), (9, (.tv i64 z78)), (11, (.row 1033))]
def f133.H1_r (z76 : LT) (z77 : Bool) (z78 : Int) (z79 : LT) (z80 : LY) (z81 : LM) (z82 : LLM) : H := [(1004, (.box [.nil])), (1008, (.box [(.row 1900)])), (1016, (.row 110 (.st 1) z79)), (1019, (.row 9 .str z80)), (1033, (.row 53 (.st 0) z81)), (1900, (.row 51 (.sl (.st 0)) z82))]
def f133.p1_e2' {R : Type} (L N : Nat) (k0_e0 : LLM → Option R) (k0_r : Bool → LLM → Option R) (rec0 : LT → Int → LT → LY → LLM → Option R) (z16 : LT) (z17 : Int) (z18 : LT) (z19 : LY) (z20 : LM) (z21 : LLM) : Option R :=
  (f123 L N z20).bind fun y104 =>
  bif (decide (z21.length + ([y104] : LLM).length ≤ lim)) then
    rec0 z16 (wi (z17 + (1 : Int))) z18 z19 (z21 ++ ([y104] : LLM))
  else none
def f133.p1_e2 {R : Type} (L N : Nat) (k0_e0 : LLM → Option R) (k0_r : Bool → LLM → Option R) (rec0 : LT → Int → LT → LY → LLM → Option R) (z16 : LT) (z17 : Int) (z18 : LT) (z19 : LY) (z20 : LM) (z21 : LLM) : Option R :=
  f133.p1_e2' L N k0_e0 k0_r rec0 z16 z17 z18 z19 z20 z21
def f133.p1_r' {R : Type} (L N : Nat) (k0_e0 : LLM → Option R) (k0_r : Bool → LLM → Option R) (rec0 : LT → Int → LT → LY → LLM → Option R) (z76 : LT) (z77 : Bool) (z78 : Int) (z79 : LT) (z80 : LY) (z81 : LM) (z82 : LLM) : Option R :=
  k0_r z77 z82
def f133.p1_r {R : Type} (L N : Nat) (k0_e0 : LLM → Option R) (k0_r : Bool → LLM → Option R) (rec0 : LT → Int → LT → LY → LLM → Option R) (z76 : LT) (z77 : Bool) (z78 : Int) (z79 : LT) (z80 : LY) (z81 : LM) (z82 : LLM) : Option R :=
  f133.p1_r' L N k0_e0 k0_r rec0 z76 z77 z78 z79 z80 z81 z82
def f133.s0' {R : Type} (L N : Nat) (k0_e0 : LLM → Option R) (k0_r : Bool → LLM → Option R) (rec0 : LT → Int → LT → LY → LLM → Option R) (w1 : LT → Int → Int → LT → LY → LS → LM → LLM → Option R) (s1 : LT) (s2 : Int) (s3 : LT) (s4 : LY) (s5 : LLM) : Option R :=
  bif (decide (s2 < (s3.length : Int))) then
    bif (decide (0 ≤ s2) && decide (s2 < (s3.length : Int))) then
      (f151 L N N (listAt s3 (Ty.dflt (.st 1)) s2.toNat) s1).bind fun y7 =>
      w1 s1 s2 (0 : Int) s3 s4 y7 ([] : LM) s5
    else none
  else k0_e0 s5
def f133.s0 {R : Type} (L N : Nat) (k0_e0 : LLM → Option R) (k0_r : Bool → LLM → Option R) (rec0 : LT → Int → LT → LY → LLM → Option R) (s1 : LT) (s2 : Int) (s3 : LT) (s4 : LY) (s5 : LLM) : Option R :=
  f133.s0' L N k0_e0 k0_r rec0 (fun s8 s9 s10 s11 s12 s13 s14 s15 => f133.l1 L N (fun z16 z17 z18 z19 z20 z21 => f133.p1_e2 L N k0_e0 k0_r rec0 z16 z17 z18 z19 z20 z21) (fun z76 z77 z78 z79 z80 z81 z82 => f133.p1_r L N k0_e0 k0_r rec0 z76 z77 z78 z79 z80 z81 z82) L s8 s9 s10 s11 s12 s13 s14 s15) s1 s2 s3 s4 s5
def f133.l0 {R : Type} (L N : Nat) (k0_e0 : LLM → Option R) (k0_r : Bool → LLM → Option R) : Nat → LT → Int → LT → LY → LLM → Option R
  | 0, _, _, _, _, _ => none
  | n + 1, s1, s2, s3, s4, s5 => f133.s0 L N k0_e0 k0_r (f133.l0 L N k0_e0 k0_r n) s1 s2 s3 s4 s5
def f133.T0 (s1 : LT) (s2 : Int) (s3 : LT) (s4 : LY) (s5 : LLM) : T := mkT 106 [(1, (.tv (.sl (.st 1)) s1)), (4, (.ptr 1004 0)), (6, (.row 1016)), (7, (.row 1019)), (8, (.ptr 1008 0)), (9, (.tv i64 s2))]
def f133.H0 (s1 : LT) (s2 : Int) (s3 : LT) (s4 : LY) (s5 : LLM) : H := [(1004, (.box [.nil])), (1008, (.box [(.row 1900)])), (1016, (.row 110 (.st 1) s3)), (1019, (.row 9 .str s4)), (1900, (.row 51 (.sl (.st 0)) s5))]
def f133.T0_e0 (z6 : LLM) : T := mkT 106 [(4, (.ptr 1004 0)), (8, (.ptr 1008 0))]
def f133.H0_e0 (z6 : LLM) : H := [(1004, (.box [.nil])), (1008, (.box [(.row 1900)])), (1900, (.row 51 (.sl (.st 0)) z6))]
def f133.T0_r (z102 : Bool) (z103 : LLM) : T := mkT 106 [(4, (.ptr 1004 0)), (5, (.tv .bool z102)), (8, (.ptr 1008 0))]
def f133.H0_r (z102 : Bool) (z103 : LLM) : H := [(1004, (.box [.nil])), (1008, (.box [(.row 1900)])), (1900, (.row 51 (.sl (.st 0)) z103))]
def f133.p0_e0' {R : Type} (L N : Nat) (k : Graph → Bool → Option R) (z6 : LLM) : Option R :=
  k (Graph.mk z6) true
def f133.p0_e0 {R : Type} (L N : Nat) (k : Graph → Bool → Option R) (z6 : LLM) : Option R :=
  f133.p0_e0' L N k z6
def f133.p0_r' {R : Type} (L N : Nat) (k : Graph → Bool → Option R) (z102 : Bool) (z103 : LLM) : Option R :=
  k (Graph.mk []) z102
def f133.p0_r {R : Type} (L N : Nat) (k : Graph → Bool → Option R) (z102 : Bool) (z103 : LLM) : Option R :=
  f133.p0_r' L N k z102 z103
def f133.b' {R : Type} (L N : Nat) (k : Graph → Bool → Option R) (w0 : LT → Int → LT → LY → LLM → Option R) (x0 : Tree) (x1 : LT) : Option R :=
  (f150 L N N (Tree.mk x0.op x0.n x0.parts)).bind fun y0 =>
  w0 x1 (0 : Int) ([(Tree.mk x0.op x0.n x0.parts)] : LT) ([y0] : LY) ([] : LLM)
def f133.b {R : Type} (L N : Nat) (k : Graph → Bool → Option R) (x0 : Tree) (x1 : LT) : Option R :=
  f133.b' L N k (fun s1 s2 s3 s4 s5 => f133.l0 L N (fun z6 => f133.p0_e0 L N k z6) (fun z102 z103 => f133.p0_r L N k z102 z103) L s1 s2 s3 s4 s5) x0 x1
def f133 (L N : Nat) (x0 : Tree) (x1 : LT) : Option (Graph × Bool) := f133.b L N (fun a0 a1 => some (a0, a1)) x0 x1
def f133.ent (L N : Nat) := entDa [(.st 1), (.sl (.st 1))] (.many [(.st 2), .bool]) fun d => f133 L N d.1 d.2.1
noncomputable def E133 (L N : Nat) : Env := { P := Try.prog, ty := tyOf, Φ := (Φ151 L N), inl := inlT, live := lives, liveX := livesX, L := L, dp := none, prom := promT, heal := healT, ren := renT }
noncomputable def f133.c0 : Code := loopAt 0 (codeOf Try.f133)
noncomputable def f133.c1 : Code := loopAt 2 f133.c0
noncomputable def f133.c2 : Code := loopAt 4 f133.c1
def f133.X2_e4 {R : Type} (κ : KX R) := fun z44 z45 z46 z47 z48 z49 z50 z51 z52 z53 => κ (.exit 4) (f133.T2_e4 z44 z45 z46 z47 z48 z49 z50 z51 z52 z53) (f133.H2_e4 z44 z45 z46 z47 z48 z49 z50 z51 z52 z53)
def f133.R2 {R : Type} (rec : KT R) := fun s23 s24 s25 s26 s27 s28 s29 s30 s31 s32 => rec (f133.T2 s23 s24 s25 s26 s27 s28 s29 s30 s31 s32) (f133.H2 s23 s24 s25 s26 s27 s28 s29 s30 s31 s32)
theorem f133.s2_eq {R : Type} (L N : Nat) (κ : KX R) (rec : KT R) (s23 : LT) (s24 : Int) (s25 : Int) (s26 : ByteArray) (s27 : Int) (s28 : LT) (s29 : LY) (s30 : LS) (s31 : LM) (s32 : LLM) :
    evRd (E133 L N) (evCallI (E133 L N) 1 2000) 1000 133 106 4 f133.c2 κ rec (f133.T2 s23 s24 s25 s26 s27 s28 s29 s30 s31 s32) (f133.H2 s23 s24 s25 s26 s27 s28 s29 s30 s31 s32)
    = f133.s2 L N (f133.X2_e4 κ) (f133.R2 rec) s23 s24 s25 s26 s27 s28 s29 s30 s31 s32 := by kernel_rfl
theorem f133.l2_eq {R : Type} (L N : Nat) (κ : KX R) : ∀ (n : Nat) (s23 : LT) (s24 : Int) (s25 : Int) (s26 : ByteArray) (s27 : Int) (s28 : LT) (s29 : LY) (s30 : LS) (s31 : LM) (s32 : LLM),
    evLp (E133 L N) (evCallI (E133 L N) 1 2000) 1000 133 106 4 f133.c2 κ n (f133.T2 s23 s24 s25 s26 s27 s28 s29 s30 s31 s32) (f133.H2 s23 s24 s25 s26 s27 s28 s29 s30 s31 s32)
    = f133.l2 L N (f133.X2_e4 κ) n s23 s24 s25 s26 s27 s28 s29 s30 s31 s32 := by
  intro n
  induction n with
  | zero => intros; rfl
  | succ n ih =>
    intro s23 s24 s25 s26 s27 s28 s29 s30 s31 s32
    rw [evLp_succ, f133.s2_eq]
    delta f133.R2
    simp only [ih]
    rfl
def f133.X1_e2 {R : Type} (κ : KX R) := fun z16 z17 z18 z19 z20 z21 => κ (.exit 2) (f133.T1_e2 z16 z17 z18 z19 z20 z21) (f133.H1_e2 z16 z17 z18 z19 z20 z21)
def f133.X1_r {R : Type} (κ : KX R) := fun z76 z77 z78 z79 z80 z81 z82 => κ .ret (f133.T1_r z76 z77 z78 z79 z80 z81 z82) (f133.H1_r z76 z77 z78 z79 z80 z81 z82)
def f133.R1 {R : Type} (rec : KT R) := fun s8 s9 s10 s11 s12 s13 s14 s15 => rec (f133.T1 s8 s9 s10 s11 s12 s13 s14 s15) (f133.H1 s8 s9 s10 s11 s12 s13 s14 s15)
theorem f133.p2_e4_eq {R : Type} (L N : Nat) (κ : KX R) (rec : KT R) (z44 : LT) (z45 : Int) (z46 : Int) (z47 : ByteArray) (z48 : Int) (z49 : LT) (z50 : LY) (z51 : LS) (z52 : LM) (z53 : LLM) :
    (contAt (E133 L N) (evCallI (E133 L N) 1 2000) 1000 133 106 4 f133.c1 (rdK (E133 L N) 1000 133 106 2 κ rec)) (.exit 4) (f133.T2_e4 z44 z45 z46 z47 z48 z49 z50 z51 z52 z53) (f133.H2_e4 z44 z45 z46 z47 z48 z49 z50 z51 z52 z53)
    = f133.p2_e4 L N (f133.X1_e2 κ) (f133.X1_r κ) (f133.R1 rec) z44 z45 z46 z47 z48 z49 z50 z51 z52 z53 := by kernel_rfl
theorem f133.s1_eq {R : Type} (L N : Nat) (κ : KX R) (rec : KT R) (s8 : LT) (s9 : Int) (s10 : Int) (s11 : LT) (s12 : LY) (s13 : LS) (s14 : LM) (s15 : LLM) :
    evRd (E133 L N) (evCallI (E133 L N) 1 2000) 1000 133 106 2 f133.c1 κ rec (f133.T1 s8 s9 s10 s11 s12 s13 s14 s15) (f133.H1 s8 s9 s10 s11 s12 s13 s14 s15)
    = f133.s1 L N (f133.X1_e2 κ) (f133.X1_r κ) (f133.R1 rec) s8 s9 s10 s11 s12 s13 s14 s15 := by
  refine Eq.trans (b := f133.s1' L N (f133.X1_e2 κ) (f133.X1_r κ) (f133.R1 rec) (fun s23 s24 s25 s26 s27 s28 s29 s30 s31 s32 => evLp (E133 L N) (evCallI (E133 L N) 1 2000) 1000 133 106 4 f133.c2 (contAt (E133 L N) (evCallI (E133 L N) 1 2000) 1000 133 106 4 f133.c1 (rdK (E133 L N) 1000 133 106 2 κ rec)) L (f133.T2 s23 s24 s25 s26 s27 s28 s29 s30 s31 s32) (f133.H2 s23 s24 s25 s26 s27 s28 s29 s30 s31 s32)) s8 s9 s10 s11 s12 s13 s14 s15) (by kernel_rfl) ?_
  unfold f133.s1
  simp only [f133.l2_eq]
  delta f133.X2_e4
  simp only [f133.p2_e4_eq]
theorem f133.l1_eq {R : Type} (L N : Nat) (κ : KX R) : ∀ (n : Nat) (s8 : LT) (s9 : Int) (s10 : Int) (s11 : LT) (s12 : LY) (s13 : LS) (s14 : LM) (s15 : LLM),
    evLp (E133 L N) (evCallI (E133 L N) 1 2000) 1000 133 106 2 f133.c1 κ n (f133.T1 s8 s9 s10 s11 s12 s13 s14 s15) (f133.H1 s8 s9 s10 s11 s12 s13 s14 s15)
    = f133.l1 L N (f133.X1_e2 κ) (f133.X1_r κ) n s8 s9 s10 s11 s12 s13 s14 s15 := by
  intro n
  induction n with
  | zero => intros; rfl
  | succ n ih =>
    intro s8 s9 s10 s11 s12 s13 s14 s15
    rw [evLp_succ, f133.s1_eq]
    delta f133.R1
    simp only [ih]
    rfl
def f133.X0_e0 {R : Type} (κ : KX R) := fun z6 => κ (.exit 0) (f133.T0_e0 z6) (f133.H0_e0 z6)
def f133.X0_r {R : Type} (κ : KX R) := fun z102 z103 => κ .ret (f133.T0_r z102 z103) (f133.H0_r z102 z103)
def f133.R0 {R : Type} (rec : KT R) := fun s1 s2 s3 s4 s5 => rec (f133.T0 s1 s2 s3 s4 s5) (f133.H0 s1 s2 s3 s4 s5)
theorem f133.p1_e2_eq {R : Type} (L N : Nat) (κ : KX R) (rec : KT R) (z16 : LT) (z17 : Int) (z18 : LT) (z19 : LY) (z20 : LM) (z21 : LLM) :
    (contAt (E133 L N) (evCallI (E133 L N) 1 2000) 1000 133 106 2 f133.c0 (rdK (E133 L N) 1000 133 106 0 κ rec)) (.exit 2) (f133.T1_e2 z16 z17 z18 z19 z20 z21) (f133.H1_e2 z16 z17 z18 z19 z20 z21)
    = f133.p1_e2 L N (f133.X0_e0 κ) (f133.X0_r κ) (f133.R0 rec) z16 z17 z18 z19 z20 z21 := by kernel_rfl
theorem f133.p1_r_eq {R : Type} (L N : Nat) (κ : KX R) (rec : KT R) (z76 : LT) (z77 : Bool) (z78 : Int) (z79 : LT) (z80 : LY) (z81 : LM) (z82 : LLM) :
    (contAt (E133 L N) (evCallI (E133 L N) 1 2000) 1000 133 106 2 f133.c0 (rdK (E133 L N) 1000 133 106 0 κ rec)) .ret (f133.T1_r z76 z77 z78 z79 z80 z81 z82) (f133.H1_r z76 z77 z78 z79 z80 z81 z82)
    = f133.p1_r L N (f133.X0_e0 κ) (f133.X0_r κ) (f133.R0 rec) z76 z77 z78 z79 z80 z81 z82 := by kernel_rfl
theorem f133.s0_eq {R : Type} (L N : Nat) (κ : KX R) (rec : KT R) (s1 : LT) (s2 : Int) (s3 : LT) (s4 : LY) (s5 : LLM) :
    evRd (E133 L N) (evCallI (E133 L N) 1 2000) 1000 133 106 0 f133.c0 κ rec (f133.T0 s1 s2 s3 s4 s5) (f133.H0 s1 s2 s3 s4 s5)
    = f133.s0 L N (f133.X0_e0 κ) (f133.X0_r κ) (f133.R0 rec) s1 s2 s3 s4 s5 := by
  refine Eq.trans (b := f133.s0' L N (f133.X0_e0 κ) (f133.X0_r κ) (f133.R0 rec) (fun s8 s9 s10 s11 s12 s13 s14 s15 => evLp (E133 L N) (evCallI (E133 L N) 1 2000) 1000 133 106 2 f133.c1 (contAt (E133 L N) (evCallI (E133 L N) 1 2000) 1000 133 106 2 f133.c0 (rdK (E133 L N) 1000 133 106 0 κ rec)) L (f133.T1 s8 s9 s10 s11 s12 s13 s14 s15) (f133.H1 s8 s9 s10 s11 s12 s13 s14 s15)) s1 s2 s3 s4 s5) (by kernel_rfl) ?_
  unfold f133.s0
  simp only [f133.l1_eq]
  delta f133.X1_e2 f133.X1_r
  simp only [f133.p1_e2_eq, f133.p1_r_eq]
theorem f133.l0_eq {R : Type} (L N : Nat) (κ : KX R) : ∀ (n : Nat) (s1 : LT) (s2 : Int) (s3 : LT) (s4 : LY) (s5 : LLM),
    evLp (E133 L N) (evCallI (E133 L N) 1 2000) 1000 133 106 0 f133.c0 κ n (f133.T0 s1 s2 s3 s4 s5) (f133.H0 s1 s2 s3 s4 s5)
    = f133.l0 L N (f133.X0_e0 κ) (f133.X0_r κ) n s1 s2 s3 s4 s5 := by
  intro n
  induction n with
  | zero => intros; rfl
  | succ n ih =>
    intro s1 s2 s3 s4 s5
    rw [evLp_succ, f133.s0_eq]
    delta f133.R0
    simp only [ih]
    rfl
theorem f133.p0_e0_eq {R : Type} (L N : Nat) (κ : AV → Option R) (z6 : LLM) :
    (contAt (E133 L N) (evCallI (E133 L N) 1 2000) 1000 133 106 0 (codeOf Try.f133) (finK (E133 L N) 1000 Try.f133 (finC (.many [(.st 2), .bool]) κ))) (.exit 0) (f133.T0_e0 z6) (f133.H0_e0 z6)
    = f133.p0_e0 L N (fun a0 a1 => κ (.tup [(.tv (.st 2) a0), (.tv .bool a1)])) z6 := by kernel_rfl
theorem f133.p0_r_eq {R : Type} (L N : Nat) (κ : AV → Option R) (z102 : Bool) (z103 : LLM) :
    (contAt (E133 L N) (evCallI (E133 L N) 1 2000) 1000 133 106 0 (codeOf Try.f133) (finK (E133 L N) 1000 Try.f133 (finC (.many [(.st 2), .bool]) κ))) .ret (f133.T0_r z102 z103) (f133.H0_r z102 z103)
    = f133.p0_r L N (fun a0 a1 => κ (.tup [(.tv (.st 2) a0), (.tv .bool a1)])) z102 z103 := by kernel_rfl
theorem f133.b_eq {R : Type} (L N : Nat) (κ : AV → Option R) (x0 : Tree) (x1 : LT) :
    evBody (E133 L N) (evCallI (E133 L N) 1 2000) 1000 133 Try.f133 [(.tv (.st 1) x0), (.tv (.sl (.st 1)) x1)] [] [] (finC (.many [(.st 2), .bool]) κ)
    = f133.b L N (fun a0 a1 => κ (.tup [(.tv (.st 2) a0), (.tv .bool a1)])) x0 x1 := by
  refine Eq.trans (b := f133.b' L N (fun a0 a1 => κ (.tup [(.tv (.st 2) a0), (.tv .bool a1)])) (fun s1 s2 s3 s4 s5 => evLp (E133 L N) (evCallI (E133 L N) 1 2000) 1000 133 106 0 f133.c0 (contAt (E133 L N) (evCallI (E133 L N) 1 2000) 1000 133 106 0 (codeOf Try.f133) (finK (E133 L N) 1000 Try.f133 (finC (.many [(.st 2), .bool]) κ))) L (f133.T0 s1 s2 s3 s4 s5) (f133.H0 s1 s2 s3 s4 s5)) x0 x1) (by kernel_rfl) ?_
  unfold f133.b
  simp only [f133.l0_eq]
  delta f133.X0_e0 f133.X0_r
  simp only [f133.p0_e0_eq, f133.p0_r_eq]
theorem f133.ok (L N : Nat) (hΦ : TellsOk Try.prog ((Φ151 L N))) : EntOk Try.prog 133 (f133.ent L N) := entDa_ok (E := (E133 L N)) (dep := 1000) (f := Try.f133) (sound_of hΦ) okP (callI_sound (sound_of hΦ) okP 1 2000) rfl fun d _ hy => (f133.b_eq L N (unR (.many [(.st 2), .bool])) d.1 d.2.1).trans (Eq.trans (b := f133.b L N (fun a0 a1 => some (a0, a1)) d.1 d.2.1) (by kernel_rfl) hy)
def Φ133 (L N : Nat) : Tells := (addT (Φ151 L N) 133 (f133.ent L N))
theorem Φ133_ok (L N : Nat) : TellsOk Try.prog (Φ133 L N) := addT_ok (Φ151_ok L N) (f133.ok L N (Φ151_ok L N))
def f104.b' {R : Type} (L N : Nat) (k : Graph → Bool → Option R) (x0 : Tree) (x1 : LT) : Option R :=
  (f132 L N (Tree.mk x0.op x0.n x0.parts) x1).bind fun y0 =>
  bif (!y0) then
    k (Graph.mk []) false
  else (f133 L N (Tree.mk x0.op x0.n x0.parts) x1).bind fun y1 =>
  k (Graph.mk y1.1.moves) y1.2
def f104.b {R : Type} (L N : Nat) (k : Graph → Bool → Option R) (x0 : Tree) (x1 : LT) : Option R :=
  f104.b' L N k x0 x1
def f104 (L N : Nat) (x0 : Tree) (x1 : LT) : Option (Graph × Bool) := f104.b L N (fun a0 a1 => some (a0, a1)) x0 x1
def f104.ent (L N : Nat) := entDa [(.st 1), (.sl (.st 1))] (.many [(.st 2), .bool]) fun d => f104 L N d.1 d.2.1
noncomputable def E104 (L N : Nat) : Env := { P := Try.prog, ty := tyOf, Φ := (Φ133 L N), inl := inlT, live := lives, liveX := livesX, L := L, dp := none, prom := promT, heal := healT, ren := renT }
theorem f104.b_eq {R : Type} (L N : Nat) (κ : AV → Option R) (x0 : Tree) (x1 : LT) :
    evBody (E104 L N) (evCallI (E104 L N) 1 2000) 1000 104 Try.f104 [(.tv (.st 1) x0), (.tv (.sl (.st 1)) x1)] [] [] (finC (.many [(.st 2), .bool]) κ)
    = f104.b L N (fun a0 a1 => κ (.tup [(.tv (.st 2) a0), (.tv .bool a1)])) x0 x1 := by kernel_rfl
theorem f104.ok (L N : Nat) (hΦ : TellsOk Try.prog ((Φ133 L N))) : EntOk Try.prog 104 (f104.ent L N) := entDa_ok (E := (E104 L N)) (dep := 1000) (f := Try.f104) (sound_of hΦ) okP (callI_sound (sound_of hΦ) okP 1 2000) rfl fun d _ hy => (f104.b_eq L N (unR (.many [(.st 2), .bool])) d.1 d.2.1).trans (Eq.trans (b := f104.b L N (fun a0 a1 => some (a0, a1)) d.1 d.2.1) (by kernel_rfl) hy)
def Φ104 (L N : Nat) : Tells := (addT (Φ133 L N) 104 (f104.ent L N))
theorem Φ104_ok (L N : Nat) : TellsOk Try.prog (Φ104 L N) := addT_ok (Φ133_ok L N) (f104.ok L N (Φ133_ok L N))
def f105.j0' {R : Type} (L N : Nat) (k1_e2 : Int → Bool → Int → LI → Int → LM → LLM → LLM → Option R) (rec1 : Int → Bool → Int → Int → LI → Int → LM → LLM → LLM → Option R) (v34 : Int) (v35 : Bool) (v36 : Int) (v37 : Int) (v38 : Int) (v39 : LI) (v40 : Int) (v41 : LM) (v42 : LLM) (v43 : LLM) : Option R :=
  (f91 L N v39 v40 v34).bind fun y44 =>
  bif (decide (v41.length + ([(Move.mk v38 y44.1)] : LM).length ≤ lim)) then
    rec1 v34 v35 v36 (wi (v37 - (1 : Int))) y44.2.1 y44.2.2 (v41 ++ ([(Move.mk v38 y44.1)] : LM)) v42 v43
  else none
def f105.s1' {R : Type} (L N : Nat) (k1_e2 : Int → Bool → Int → LI → Int → LM → LLM → LLM → Option R) (rec1 : Int → Bool → Int → Int → LI → Int → LM → LLM → LLM → Option R) (s15 : Int) (s16 : Bool) (s17 : Int) (s18 : Int) (s19 : LI) (s20 : Int) (s21 : LM) (s22 : LLM) (s23 : LLM) : Option R :=
  bif (decide (s18 > (0 : Int))) then
    (f91 L N s19 s20 (3 : Int)).bind fun y32 =>
    bif (!s16) then
      (f134 L N y32.2.1 y32.2.2).bind fun y33 =>
      f105.j0' L N k1_e2 rec1 s15 s16 s17 s18 y33.1 y33.2.1 y33.2.2 s21 s22 s23
    else f105.j0' L N k1_e2 rec1 s15 s16 s17 s18 y32.1 y32.2.1 y32.2.2 s21 s22 s23
  else k1_e2 s15 s16 s17 s19 s20 s21 s22 s23
def f105.s1 {R : Type} (L N : Nat) (k1_e2 : Int → Bool → Int → LI → Int → LM → LLM → LLM → Option R) (rec1 : Int → Bool → Int → Int → LI → Int → LM → LLM → LLM → Option R) (s15 : Int) (s16 : Bool) (s17 : Int) (s18 : Int) (s19 : LI) (s20 : Int) (s21 : LM) (s22 : LLM) (s23 : LLM) : Option R :=
  f105.s1' L N k1_e2 rec1 s15 s16 s17 s18 s19 s20 s21 s22 s23
def f105.l1 {R : Type} (L N : Nat) (k1_e2 : Int → Bool → Int → LI → Int → LM → LLM → LLM → Option R) : Nat → Int → Bool → Int → Int → LI → Int → LM → LLM → LLM → Option R
  | 0, _, _, _, _, _, _, _, _, _ => none
  | n + 1, s15, s16, s17, s18, s19, s20, s21, s22, s23 => f105.s1 L N k1_e2 (f105.l1 L N k1_e2 n) s15 s16 s17 s18 s19 s20 s21 s22 s23
def f105.T1 (s15 : Int) (s16 : Bool) (s17 : Int) (s18 : Int) (s19 : LI) (s20 : Int) (s21 : LM) (s22 : LLM) (s23 : LLM) : T := mkT 84 [(0, (.ptr 0 0)), (4, (.ptr 1004 0)), (5, (.ptr 1005 0)), (6, (.tv i64 s15)), (7, (.tv .bool s16)), (8, (.tv i64 s17)), (9, (.row 1025)), (10, (.tv i64 s18))] ++ [.ptr 0 0]
def f105.H1 (s15 : Int) (s16 : Bool) (s17 : Int) (s18 : Int) (s19 : LI) (s20 : Int) (s21 : LM) (s22 : LLM) (s23 : LLM) : H := [(0, (.box [(.tv (.sl (.int .u8)) s19), (.tv i64 s20)])), (1004, (.box [(.row 1900)])), (1005, (.box [(.row 1901)])), (1025, (.row 53 (.st 0) s21)), (1900, (.deep 0 (.sl (.st 0)) s22 none)), (1901, (.deep 0 (.sl (.st 0)) s23 none))]
def f105.T1_e2 (z24 : Int) (z25 : Bool) (z26 : Int) (z27 : LI) (z28 : Int) (z29 : LM) (z30 : LLM) (z31 : LLM) : T := mkT 84 [(0, (.ptr 0 0)), (4, (.ptr 1004 0)), (5, (.ptr 1005 0)), (6, (.tv i64 z24)), (7, (.tv .bool z25)), (8, (.tv i64 z26)), (9, (.row 1025))] ++ [.ptr 0 0]
def f105.H1_e2 (z24 : Int) (z25 : Bool) (z26 : Int) (z27 : LI) (z28 : Int) (z29 : LM) (z30 : LLM) (z31 : LLM) : H := [(0, (.box [(.tv (.sl (.int .u8)) z27), (.tv i64 z28)])), (1004, (.box [(.row 1900)])), (1005, (.box [(.row 1901)])), (1025, (.row 53 (.st 0) z29)), (1900, (.deep 0 (.sl (.st 0)) z30 none)), (1901, (.deep 0 (.sl (.st 0)) z31 none))]
def f105.p1_e2' {R : Type} (L N : Nat) (k0_e0 : Int → LI → Int → LLM → LLM → Option R) (rec0 : Int → Bool → Int → LI → Int → LLM → LLM → Option R) (z24 : Int) (z25 : Bool) (z26 : Int) (z27 : LI) (z28 : Int) (z29 : LM) (z30 : LLM) (z31 : LLM) : Option R :=
  (f123 L N z29).bind fun y45 =>
  bif (decide (z31.length + ([y45] : LLM).length ≤ lim)) then
    rec0 z24 z25 (wi (z26 + (1 : Int))) z27 z28 z30 (z31 ++ ([y45] : LLM))
  else none
def f105.p1_e2 {R : Type} (L N : Nat) (k0_e0 : Int → LI → Int → LLM → LLM → Option R) (rec0 : Int → Bool → Int → LI → Int → LLM → LLM → Option R) (z24 : Int) (z25 : Bool) (z26 : Int) (z27 : LI) (z28 : Int) (z29 : LM) (z30 : LLM) (z31 : LLM) : Option R :=
  f105.p1_e2' L N k0_e0 rec0 z24 z25 z26 z27 z28 z29 z30 z31
def f105.s0' {R : Type} (L N : Nat) (k0_e0 : Int → LI → Int → LLM → LLM → Option R) (rec0 : Int → Bool → Int → LI → Int → LLM → LLM → Option R) (w1 : Int → Bool → Int → Int → LI → Int → LM → LLM → LLM → Option R) (s2 : Int) (s3 : Bool) (s4 : Int) (s5 : LI) (s6 : Int) (s7 : LLM) (s8 : LLM) : Option R :=
  bif (decide (s4 < s2)) then
    (f91 L N s5 s6 (4 : Int)).bind fun y14 =>
    w1 s2 s3 s4 y14.1 y14.2.1 y14.2.2 ([] : LM) s7 s8
  else k0_e0 s2 s5 s6 s7 s8
def f105.s0 {R : Type} (L N : Nat) (k0_e0 : Int → LI → Int → LLM → LLM → Option R) (rec0 : Int → Bool → Int → LI → Int → LLM → LLM → Option R) (s2 : Int) (s3 : Bool) (s4 : Int) (s5 : LI) (s6 : Int) (s7 : LLM) (s8 : LLM) : Option R :=
  f105.s0' L N k0_e0 rec0 (fun s15 s16 s17 s18 s19 s20 s21 s22 s23 => f105.l1 L N (fun z24 z25 z26 z27 z28 z29 z30 z31 => f105.p1_e2 L N k0_e0 rec0 z24 z25 z26 z27 z28 z29 z30 z31) L s15 s16 s17 s18 s19 s20 s21 s22 s23) s2 s3 s4 s5 s6 s7 s8
def f105.l0 {R : Type} (L N : Nat) (k0_e0 : Int → LI → Int → LLM → LLM → Option R) : Nat → Int → Bool → Int → LI → Int → LLM → LLM → Option R
  | 0, _, _, _, _, _, _, _ => none
  | n + 1, s2, s3, s4, s5, s6, s7, s8 => f105.s0 L N k0_e0 (f105.l0 L N k0_e0 n) s2 s3 s4 s5 s6 s7 s8
def f105.T0 (s2 : Int) (s3 : Bool) (s4 : Int) (s5 : LI) (s6 : Int) (s7 : LLM) (s8 : LLM) : T := mkT 84 [(0, (.ptr 0 0)), (4, (.ptr 1004 0)), (5, (.ptr 1005 0)), (6, (.tv i64 s2)), (7, (.tv .bool s3)), (8, (.tv i64 s4))] ++ [.ptr 0 0]
def f105.H0 (s2 : Int) (s3 : Bool) (s4 : Int) (s5 : LI) (s6 : Int) (s7 : LLM) (s8 : LLM) : H := [(0, (.box [(.tv (.sl (.int .u8)) s5), (.tv i64 s6)])), (1004, (.box [(.row 1900)])), (1005, (.box [(.row 1901)])), (1900, (.deep 0 (.sl (.st 0)) s7 none)), (1901, (.deep 0 (.sl (.st 0)) s8 none))]
def f105.T0_e0 (z9 : Int) (z10 : LI) (z11 : Int) (z12 : LLM) (z13 : LLM) : T := mkT 84 [(0, (.ptr 0 0)), (4, (.ptr 1004 0)), (5, (.ptr 1005 0)), (6, (.tv i64 z9))] ++ [.ptr 0 0]
def f105.H0_e0 (z9 : Int) (z10 : LI) (z11 : Int) (z12 : LLM) (z13 : LLM) : H := [(0, (.box [(.tv (.sl (.int .u8)) z10), (.tv i64 z11)])), (1004, (.box [(.row 1900)])), (1005, (.box [(.row 1901)])), (1900, (.deep 0 (.sl (.st 0)) z12 none)), (1901, (.deep 0 (.sl (.st 0)) z13 none))]
def f105.p0_e0' {R : Type} (L N : Nat) (k : Graph → LI → Int → Option R) (z9 : Int) (z10 : LI) (z11 : Int) (z12 : LLM) (z13 : LLM) : Option R :=
  (f91 L N z10 z11 (30 : Int)).bind fun y46 =>
  bif (y46.1 == (0 : Int)) then
    bif (decide (0 ≤ (0 : Int)) && decide ((0 : Int) < (z13.length : Int))) then
      bif (decide ((listAt z13 [] (0 : Int).toNat).length + ([(Move.mk (9 : Int) (0 : Int))] : LM).length ≤ lim)) then
        bif (decide (0 ≤ (0 : Int)) && decide ((0 : Int) < (z13.length : Int))) then
          k (Graph.mk (z13.set ((0 : Int).toNat) ((listAt z13 [] (0 : Int).toNat) ++ ([(Move.mk (9 : Int) (0 : Int))] : LM)))) y46.2.1 y46.2.2
        else none
      else none
    else none
  else bif (y46.1 == (1 : Int)) then
    bif (decide (0 ≤ (0 : Int)) && decide ((0 : Int) < (z13.length : Int))) then
      bif (decide ((listAt z13 [] (0 : Int).toNat).length + ([(Move.mk (0 : Int) z9)] : LM).length ≤ lim)) then
        bif (decide (0 ≤ (0 : Int)) && decide ((0 : Int) < (z13.length : Int))) then
          k (Graph.mk (z13.set ((0 : Int).toNat) ((listAt z13 [] (0 : Int).toNat) ++ ([(Move.mk (0 : Int) z9)] : LM)))) y46.2.1 y46.2.2
        else none
      else none
    else none
  else bif (y46.1 == (2 : Int)) then
    k (Graph.mk []) y46.2.1 y46.2.2
  else k (Graph.mk z13) y46.2.1 y46.2.2
def f105.p0_e0 {R : Type} (L N : Nat) (k : Graph → LI → Int → Option R) (z9 : Int) (z10 : LI) (z11 : Int) (z12 : LLM) (z13 : LLM) : Option R :=
  f105.p0_e0' L N k z9 z10 z11 z12 z13
def f105.b' {R : Type} (L N : Nat) (k : Graph → LI → Int → Option R) (w0 : Int → Bool → Int → LI → Int → LLM → LLM → Option R) (c0 : LI) (c1 : Int) (x0 : Int) : Option R :=
  (f91 L N c0 c1 x0).bind fun y0 =>
  (f91 L N y0.2.1 y0.2.2 (2 : Int)).bind fun y1 =>
  w0 (wi ((1 : Int) + y0.1)) (y1.1 == (0 : Int)) (0 : Int) y1.2.1 y1.2.2 ([] : LLM) ([] : LLM)
def f105.b {R : Type} (L N : Nat) (k : Graph → LI → Int → Option R) (c0 : LI) (c1 : Int) (x0 : Int) : Option R :=
  f105.b' L N k (fun s2 s3 s4 s5 s6 s7 s8 => f105.l0 L N (fun z9 z10 z11 z12 z13 => f105.p0_e0 L N k z9 z10 z11 z12 z13) L s2 s3 s4 s5 s6 s7 s8) c0 c1 x0
def f105 (L N : Nat) (c0 : LI) (c1 : Int) (x0 : Int) : Option (Graph × LI × Int) := f105.b L N (fun a0 a1 a2 => some (a0, a1, a2)) c0 c1 x0
def f105.ent (L N : Nat) (args : List AV) (vw : View) (site : Nat) : Ans := match boxD [(.sl (.int .u8)), i64] [i64] vw args with
  | some (o, d0, d, u) => ⟨Graph × LI × Int, f105 L N d0.1 d0.2.1 d.1, fun y => ((.tv (.st 2) y.1), u ++ [(o, some (.box [(.tv (.sl (.int .u8)) y.2.1), (.tv i64 y.2.2)]))], [])⟩
  | none => Ans.no
noncomputable def E105 (L N : Nat) : Env := { P := Try.prog, ty := tyOf, Φ := (Φ104 L N), inl := inlT, live := lives, liveX := livesX, L := L, dp := (some 0), prom := promT, heal := healT, ren := renT, fresh := fun s => Nat.beq s 1065 || Nat.beq s 1078 }
noncomputable def f105.c0 : Code := loopAt 0 (codeOf Try.f105)
noncomputable def f105.c1 : Code := loopAt 2 f105.c0
def f105.X1_e2 {R : Type} (κ : KX R) := fun z24 z25 z26 z27 z28 z29 z30 z31 => κ (.exit 2) (f105.T1_e2 z24 z25 z26 z27 z28 z29 z30 z31) (f105.H1_e2 z24 z25 z26 z27 z28 z29 z30 z31)
def f105.R1 {R : Type} (rec : KT R) := fun s15 s16 s17 s18 s19 s20 s21 s22 s23 => rec (f105.T1 s15 s16 s17 s18 s19 s20 s21 s22 s23) (f105.H1 s15 s16 s17 s18 s19 s20 s21 s22 s23)
theorem f105.s1_eq {R : Type} (L N : Nat) (κ : KX R) (rec : KT R) (s15 : Int) (s16 : Bool) (s17 : Int) (s18 : Int) (s19 : LI) (s20 : Int) (s21 : LM) (s22 : LLM) (s23 : LLM) :
    evRd (E105 L N) (evCallI (E105 L N) 1 2000) 1000 105 84 2 f105.c1 κ rec (f105.T1 s15 s16 s17 s18 s19 s20 s21 s22 s23) (f105.H1 s15 s16 s17 s18 s19 s20 s21 s22 s23)
    = f105.s1 L N (f105.X1_e2 κ) (f105.R1 rec) s15 s16 s17 s18 s19 s20 s21 s22 s23 := by kernel_rfl
theorem f105.l1_eq {R : Type} (L N : Nat) (κ : KX R) : ∀ (n : Nat) (s15 : Int) (s16 : Bool) (s17 : Int) (s18 : Int) (s19 : LI) (s20 : Int) (s21 : LM) (s22 : LLM) (s23 : LLM),
    evLp (E105 L N) (evCallI (E105 L N) 1 2000) 1000 105 84 2 f105.c1 κ n (f105.T1 s15 s16 s17 s18 s19 s20 s21 s22 s23) (f105.H1 s15 s16 s17 s18 s19 s20 s21 s22 s23)
    = f105.l1 L N (f105.X1_e2 κ) n s15 s16 s17 s18 s19 s20 s21 s22 s23 := by
  intro n
  induction n with
  | zero => intros; rfl
  | succ n ih =>
    intro s15 s16 s17 s18 s19 s20 s21 s22 s23
    rw [evLp_succ, f105.s1_eq]
    delta f105.R1
    simp only [ih]
    rfl
def f105.X0_e0 {R : Type} (κ : KX R) := fun z9 z10 z11 z12 z13 => κ (.exit 0) (f105.T0_e0 z9 z10 z11 z12 z13) (f105.H0_e0 z9 z10 z11 z12 z13)
def f105.R0 {R : Type} (rec : KT R) := fun s2 s3 s4 s5 s6 s7 s8 => rec (f105.T0 s2 s3 s4 s5 s6 s7 s8) (f105.H0 s2 s3 s4 s5 s6 s7 s8)
theorem f105.p1_e2_eq {R : Type} (L N : Nat) (κ : KX R) (rec : KT R) (z24 : Int) (z25 : Bool) (z26 : Int) (z27 : LI) (z28 : Int) (z29 : LM) (z30 : LLM) (z31 : LLM) :
    (contAt (E105 L N) (evCallI (E105 L N) 1 2000) 1000 105 84 2 f105.c0 (rdK (E105 L N) 1000 105 84 0 κ rec)) (.exit 2) (f105.T1_e2 z24 z25 z26 z27 z28 z29 z30 z31) (f105.H1_e2 z24 z25 z26 z27 z28 z29 z30 z31)
    = f105.p1_e2 L N (f105.X0_e0 κ) (f105.R0 rec) z24 z25 z26 z27 z28 z29 z30 z31 := by kernel_rfl
theorem f105.s0_eq {R : Type} (L N : Nat) (κ : KX R) (rec : KT R) (s2 : Int) (s3 : Bool) (s4 : Int) (s5 : LI) (s6 : Int) (s7 : LLM) (s8 : LLM) :
    evRd (E105 L N) (evCallI (E105 L N) 1 2000) 1000 105 84 0 f105.c0 κ rec (f105.T0 s2 s3 s4 s5 s6 s7 s8) (f105.H0 s2 s3 s4 s5 s6 s7 s8)
    = f105.s0 L N (f105.X0_e0 κ) (f105.R0 rec) s2 s3 s4 s5 s6 s7 s8 := by
  refine Eq.trans (b := f105.s0' L N (f105.X0_e0 κ) (f105.R0 rec) (fun s15 s16 s17 s18 s19 s20 s21 s22 s23 => evLp (E105 L N) (evCallI (E105 L N) 1 2000) 1000 105 84 2 f105.c1 (contAt (E105 L N) (evCallI (E105 L N) 1 2000) 1000 105 84 2 f105.c0 (rdK (E105 L N) 1000 105 84 0 κ rec)) L (f105.T1 s15 s16 s17 s18 s19 s20 s21 s22 s23) (f105.H1 s15 s16 s17 s18 s19 s20 s21 s22 s23)) s2 s3 s4 s5 s6 s7 s8) (by kernel_rfl) ?_
  unfold f105.s0
  simp only [f105.l1_eq]
  delta f105.X1_e2
  simp only [f105.p1_e2_eq]
theorem f105.l0_eq {R : Type} (L N : Nat) (κ : KX R) : ∀ (n : Nat) (s2 : Int) (s3 : Bool) (s4 : Int) (s5 : LI) (s6 : Int) (s7 : LLM) (s8 : LLM),
    evLp (E105 L N) (evCallI (E105 L N) 1 2000) 1000 105 84 0 f105.c0 κ n (f105.T0 s2 s3 s4 s5 s6 s7 s8) (f105.H0 s2 s3 s4 s5 s6 s7 s8)
    = f105.l0 L N (f105.X0_e0 κ) n s2 s3 s4 s5 s6 s7 s8 := by
  intro n
  induction n with
  | zero => intros; rfl
  | succ n ih =>
    intro s2 s3 s4 s5 s6 s7 s8
    rw [evLp_succ, f105.s0_eq]
    delta f105.R0
    simp only [ih]
    rfl
theorem f105.p0_e0_eq {R : Type} (L N : Nat) (κ : AV → Dens [(.sl (.int .u8)), i64] → Option R) (z9 : Int) (z10 : LI) (z11 : Int) (z12 : LLM) (z13 : LLM) :
    (contAt (E105 L N) (evCallI (E105 L N) 1 2000) 1000 105 84 0 (codeOf Try.f105) (finK (E105 L N) 1000 Try.f105 (finM (.one (.st 2)) [(.sl (.int .u8)), i64] κ))) (.exit 0) (f105.T0_e0 z9 z10 z11 z12 z13) (f105.H0_e0 z9 z10 z11 z12 z13)
    = f105.p0_e0 L N (fun a0 a1 a2 => κ (.tv (.st 2) a0) (a1, a2, ())) z9 z10 z11 z12 z13 := by kernel_rfl
theorem f105.b_eq {R : Type} (L N : Nat) (κ : AV → Dens [(.sl (.int .u8)), i64] → Option R) (c0 : LI) (c1 : Int) (x0 : Int) :
    evBody (E105 L N) (evCallI (E105 L N) 1 2000) 1000 105 Try.f105 [(.ptr 0 0), (.tv i64 x0)] [.ptr 0 0] [(0, (.box [(.tv (.sl (.int .u8)) c0), (.tv i64 c1)]))] (finM (.one (.st 2)) [(.sl (.int .u8)), i64] κ)
    = f105.b L N (fun a0 a1 a2 => κ (.tv (.st 2) a0) (a1, a2, ())) c0 c1 x0 := by
  refine Eq.trans (b := f105.b' L N (fun a0 a1 a2 => κ (.tv (.st 2) a0) (a1, a2, ())) (fun s2 s3 s4 s5 s6 s7 s8 => evLp (E105 L N) (evCallI (E105 L N) 1 2000) 1000 105 84 0 f105.c0 (contAt (E105 L N) (evCallI (E105 L N) 1 2000) 1000 105 84 0 (codeOf Try.f105) (finK (E105 L N) 1000 Try.f105 (finM (.one (.st 2)) [(.sl (.int .u8)), i64] κ))) L (f105.T0 s2 s3 s4 s5 s6 s7 s8) (f105.H0 s2 s3 s4 s5 s6 s7 s8)) c0 c1 x0) (by kernel_rfl) ?_
  unfold f105.b
  simp only [f105.l0_eq]
  delta f105.X0_e0
  simp only [f105.p0_e0_eq]
theorem f105.ok (L N : Nat) (hΦ : TellsOk Try.prog ((Φ104 L N))) : EntOk Try.prog 105 (f105.ent L N) := by
  intro args vw site h
  unfold f105.ent
  split
  · rename_i o d0 d u ha
    intro y hy hs
    obtain ⟨rest, cs, rfl, ho, hd0, hr, hu⟩ := boxD_some ha
    refine call_box (y := y) (dep := 1000) (v' := (.tv (.st 2) y.1)) (d1 := (y.2.1, y.2.2, ())) (E := (E105 L N)) (ts := [(.sl (.int .u8)), i64]) (tr := [i64]) (rs := (.one (.st 2))) (κ := (fun v d => (unR (.one (.st 2)) v).bind fun x => some (x, d.1, d.2.1))) (sound_of hΦ) okP (callI_sound (sound_of hΦ) okP 1 2000) (f := Try.f105) rfl hs ho hd0 hr hu ?_ (fun _ _ h => by obtain ⟨x, h1, h2⟩ := unR_bind h; obtain rfl := Option.some.inj h2; exact ⟨h1, rfl⟩) site
    exact (f105.b_eq L N (fun v d => (unR (.one (.st 2)) v).bind fun x => some (x, d.1, d.2.1)) d0.1 d0.2.1 d.1).trans (Eq.trans (b := f105.b L N (fun a0 a1 a2 => some (a0, a1, a2)) d0.1 d0.2.1 d.1) (by kernel_rfl) hy)
  · intro y hy
    cases hy
def Φ105 (L N : Nat) : Tells := (addT (Φ104 L N) 105 (f105.ent L N))
theorem Φ105_ok (L N : Nat) : TellsOk Try.prog (Φ105 L N) := addT_ok (Φ104_ok L N) (f105.ok L N (Φ104_ok L N))
def f69.b' {R : Type} (L N : Nat) (k : Graph → LI → Int → Option R) (c0 : LI) (c1 : Int) : Option R :=
  (f91 L N c0 c1 (2 : Int)).bind fun y0 =>
  bif (y0.1 == (0 : Int)) then
    (f103 L N y0.2.1 y0.2.2).bind fun y1 =>
    (f104 L N (Tree.mk y1.1.op y1.1.n y1.1.parts) y1.2.1).bind fun y2 =>
    bif y2.2 then
      k (Graph.mk ((Graph.mk y2.1.moves).moves)) y1.2.2.1 y1.2.2.2
    else (f105 L N y1.2.2.1 y1.2.2.2 (6 : Int)).bind fun y6 =>
    k (Graph.mk y6.1.moves) y6.2.1 y6.2.2
  else (f105 L N y0.2.1 y0.2.2 (6 : Int)).bind fun y7 =>
  k (Graph.mk y7.1.moves) y7.2.1 y7.2.2
def f69.b {R : Type} (L N : Nat) (k : Graph → LI → Int → Option R) (c0 : LI) (c1 : Int) : Option R :=
  f69.b' L N k c0 c1
def f69 (L N : Nat) (c0 : LI) (c1 : Int) : Option (Graph × LI × Int) := f69.b L N (fun a0 a1 a2 => some (a0, a1, a2)) c0 c1
def f69.ent (L N : Nat) (args : List AV) (vw : View) (site : Nat) : Ans := match boxD [(.sl (.int .u8)), i64] [] vw args with
  | some (o, d0, d, u) => ⟨Graph × LI × Int, f69 L N d0.1 d0.2.1, fun y => ((.tv (.st 2) y.1), u ++ [(o, some (.box [(.tv (.sl (.int .u8)) y.2.1), (.tv i64 y.2.2)]))], [])⟩
  | none => Ans.no
noncomputable def E69 (L N : Nat) : Env := { P := Try.prog, ty := tyOf, Φ := (Φ105 L N), inl := inlT, live := lives, liveX := livesX, L := L, dp := none, prom := promT, heal := healT, ren := renT }
theorem f69.b_eq {R : Type} (L N : Nat) (κ : AV → Dens [(.sl (.int .u8)), i64] → Option R) (c0 : LI) (c1 : Int) :
    evBody (E69 L N) (evCallI (E69 L N) 1 2000) 1000 69 Try.f69 [(.ptr 0 0)] [.ptr 0 0] [(0, (.box [(.tv (.sl (.int .u8)) c0), (.tv i64 c1)]))] (finM (.one (.st 2)) [(.sl (.int .u8)), i64] κ)
    = f69.b L N (fun a0 a1 a2 => κ (.tv (.st 2) a0) (a1, a2, ())) c0 c1 := by kernel_rfl
theorem f69.ok (L N : Nat) (hΦ : TellsOk Try.prog ((Φ105 L N))) : EntOk Try.prog 69 (f69.ent L N) := by
  intro args vw site h
  unfold f69.ent
  split
  · rename_i o d0 d u ha
    intro y hy hs
    obtain ⟨rest, cs, rfl, ho, hd0, hr, hu⟩ := boxD_some ha
    refine call_box (y := y) (dep := 1000) (v' := (.tv (.st 2) y.1)) (d1 := (y.2.1, y.2.2, ())) (E := (E69 L N)) (ts := [(.sl (.int .u8)), i64]) (tr := []) (rs := (.one (.st 2))) (κ := (fun v d => (unR (.one (.st 2)) v).bind fun x => some (x, d.1, d.2.1))) (sound_of hΦ) okP (callI_sound (sound_of hΦ) okP 1 2000) (f := Try.f69) rfl hs ho hd0 hr hu ?_ (fun _ _ h => by obtain ⟨x, h1, h2⟩ := unR_bind h; obtain rfl := Option.some.inj h2; exact ⟨h1, rfl⟩) site
    exact (f69.b_eq L N (fun v d => (unR (.one (.st 2)) v).bind fun x => some (x, d.1, d.2.1)) d0.1 d0.2.1).trans (Eq.trans (b := f69.b L N (fun a0 a1 a2 => some (a0, a1, a2)) d0.1 d0.2.1) (by kernel_rfl) hy)
  · intro y hy
    cases hy
def Φ69 (L N : Nat) : Tells := (addT (Φ105 L N) 69 (f69.ent L N))
theorem Φ69_ok (L N : Nat) : TellsOk Try.prog (Φ69 L N) := addT_ok (Φ105_ok L N) (f69.ok L N (Φ105_ok L N))
def f43.b' {R : Type} (L N : Nat) (k : Graph → Option R) (x0 : LI) : Option R :=
  (f68 L N x0).bind fun y0 =>
  (f69 L N y0.1 y0.2).bind fun y1 =>
  k (Graph.mk ((Graph.mk y1.1.moves).moves))
def f43.b {R : Type} (L N : Nat) (k : Graph → Option R) (x0 : LI) : Option R :=
  f43.b' L N k x0
def f43 (L N : Nat) (x0 : LI) : Option (Graph) := f43.b L N some x0
def f43.ent (L N : Nat) := entDa [(.sl (.int .u8))] (.one (.st 2)) fun d => f43 L N d.1
noncomputable def E43 (L N : Nat) : Env := { P := Try.prog, ty := tyOf, Φ := (Φ69 L N), inl := inlT, live := lives, liveX := livesX, L := L, dp := none, prom := promT, heal := healT, ren := renT }
theorem f43.b_eq {R : Type} (L N : Nat) (κ : AV → Option R) (x0 : LI) :
    evBody (E43 L N) (evCallI (E43 L N) 1 2000) 1000 43 Try.f43 [(.tv (.sl (.int .u8)) x0)] [] [] (finC (.one (.st 2)) κ)
    = f43.b L N (fun a0 => κ (.tv (.st 2) a0)) x0 := by kernel_rfl
theorem f43.ok (L N : Nat) (hΦ : TellsOk Try.prog ((Φ69 L N))) : EntOk Try.prog 43 (f43.ent L N) := entDa_ok (E := (E43 L N)) (dep := 1000) (f := Try.f43) (sound_of hΦ) okP (callI_sound (sound_of hΦ) okP 1 2000) rfl fun d _ hy => (f43.b_eq L N (unR (.one (.st 2))) d.1).trans (Eq.trans (b := f43.b L N some d.1) (by kernel_rfl) hy)
def Φ43 (L N : Nat) : Tells := (addT (Φ69 L N) 43 (f43.ent L N))
theorem Φ43_ok (L N : Nat) : TellsOk Try.prog (Φ43 L N) := addT_ok (Φ69_ok L N) (f43.ok L N (Φ69_ok L N))
def f145_1.s0' {R : Type} (L N : Nat) (k0_e0 : LM → Option R) (rec0 : LI → LM → Int → Int → LM → Option R) (s0 : LI) (s1 : LM) (s2 : Int) (s3 : Int) (s4 : LM) : Option R :=
  bif (decide (s3 < s2)) then
    bif (decide (0 ≤ s3) && decide (s3 < (s1.length : Int))) then
      bif (decide (0 ≤ (listAt s1 (Ty.dflt (.st 0)) s3.toNat).to) && decide ((listAt s1 (Ty.dflt (.st 0)) s3.toNat).to < (s0.length : Int))) then
        bif (decide (s4.length + ([(Move.mk ((listAt s1 (Ty.dflt (.st 0)) s3.toNat).act) (listAt s0 (0 : Int) ((listAt s1 (Ty.dflt (.st 0)) s3.toNat).to).toNat))] : LM).length ≤ lim)) then
          rec0 s0 s1 s2 (wi (s3 + (1 : Int))) (s4 ++ ([(Move.mk ((listAt s1 (Ty.dflt (.st 0)) s3.toNat).act) (listAt s0 (0 : Int) ((listAt s1 (Ty.dflt (.st 0)) s3.toNat).to).toNat))] : LM))
        else none
      else none
    else none
  else k0_e0 s4
def f145_1.s0 {R : Type} (L N : Nat) (k0_e0 : LM → Option R) (rec0 : LI → LM → Int → Int → LM → Option R) (s0 : LI) (s1 : LM) (s2 : Int) (s3 : Int) (s4 : LM) : Option R :=
  f145_1.s0' L N k0_e0 rec0 s0 s1 s2 s3 s4
def f145_1.l0 {R : Type} (L N : Nat) (k0_e0 : LM → Option R) : Nat → LI → LM → Int → Int → LM → Option R
  | 0, _, _, _, _, _ => none
  | n + 1, s0, s1, s2, s3, s4 => f145_1.s0 L N k0_e0 (f145_1.l0 L N k0_e0 n) s0 s1 s2 s3 s4
def f145_1.T0 (s0 : LI) (s1 : LM) (s2 : Int) (s3 : Int) (s4 : LM) : T := mkT 34 [(0, (.tv (.sl i64) s0)), (6, (.row 1009)), (14, (.tv (.sl (.st 0)) s1)), (15, (.tv i64 s2)), (16, (.tv i64 s3))]
def f145_1.H0 (s0 : LI) (s1 : LM) (s2 : Int) (s3 : Int) (s4 : LM) : H := [(1009, (.row 53 (.st 0) s4))]
def f145_1.T0_e0 (z5 : LM) : T := mkT 34 [(6, (.row 1009))]
def f145_1.H0_e0 (z5 : LM) : H := [(1009, (.row 53 (.st 0) z5))]
def f145_1.p0_e0' {R : Type} (L N : Nat) (k : LM → Option R) (z5 : LM) : Option R :=
  ((fsortM z5)).bind fun y6 =>
  k (tidyM z5)
def f145_1.p0_e0 {R : Type} (L N : Nat) (k : LM → Option R) (z5 : LM) : Option R :=
  f145_1.p0_e0' L N k z5
def f145_1.b' {R : Type} (L N : Nat) (k : LM → Option R) (w0 : LI → LM → Int → Int → LM → Option R) (x0 : LI) (x1 : Int) (x2 : LLM) : Option R :=
  bif (decide (0 ≤ x1) && decide (x1 < (x2.length : Int))) then
    w0 x0 (listAt x2 [] x1.toNat) ((listAt x2 [] x1.toNat).length : Int) (0 : Int) ([] : LM)
  else none
def f145_1.b {R : Type} (L N : Nat) (k : LM → Option R) (x0 : LI) (x1 : Int) (x2 : LLM) : Option R :=
  f145_1.b' L N k (fun s0 s1 s2 s3 s4 => f145_1.l0 L N (fun z5 => f145_1.p0_e0 L N k z5) L s0 s1 s2 s3 s4) x0 x1 x2
def f145_1 (L N : Nat) (x0 : LI) (x1 : Int) (x2 : LLM) : Option (LM) := f145_1.b L N some x0 x1 x2
def f145_1.ent (L N : Nat) := entDf [(.dat (.sl i64)), (.dat i64), (.imp (.sl (.sl (.st 0))) 0)] (.one (.sl (.st 0))) fun d => f145_1 L N d.1 d.2.1 d.2.2.1
noncomputable def E145_1 (L N : Nat) : Env := { P := Try.prog, ty := tyOf, Φ := (Φ43 L N), inl := inlT, live := lives, liveX := livesX, L := L, dp := none, prom := promT, heal := healT, ren := renT }
noncomputable def f145_1.c0 : Code := loopAt 0 (codeOf Try.f145)
def f145_1.X0_e0 {R : Type} (κ : KX R) := fun z5 => κ (.exit 0) (f145_1.T0_e0 z5) (f145_1.H0_e0 z5)
def f145_1.R0 {R : Type} (rec : KT R) := fun s0 s1 s2 s3 s4 => rec (f145_1.T0 s0 s1 s2 s3 s4) (f145_1.H0 s0 s1 s2 s3 s4)
theorem f145_1.s0_eq {R : Type} (L N : Nat) (κ : KX R) (rec : KT R) (s0 : LI) (s1 : LM) (s2 : Int) (s3 : Int) (s4 : LM) :
    evRd (E145_1 L N) (evCallI (E145_1 L N) 1 2000) 1000 145 34 0 f145_1.c0 κ rec (f145_1.T0 s0 s1 s2 s3 s4) (f145_1.H0 s0 s1 s2 s3 s4)
    = f145_1.s0 L N (f145_1.X0_e0 κ) (f145_1.R0 rec) s0 s1 s2 s3 s4 := by kernel_rfl
theorem f145_1.l0_eq {R : Type} (L N : Nat) (κ : KX R) : ∀ (n : Nat) (s0 : LI) (s1 : LM) (s2 : Int) (s3 : Int) (s4 : LM),
    evLp (E145_1 L N) (evCallI (E145_1 L N) 1 2000) 1000 145 34 0 f145_1.c0 κ n (f145_1.T0 s0 s1 s2 s3 s4) (f145_1.H0 s0 s1 s2 s3 s4)
    = f145_1.l0 L N (f145_1.X0_e0 κ) n s0 s1 s2 s3 s4 := by
  intro n
  induction n with
  | zero => intros; rfl
  | succ n ih =>
    intro s0 s1 s2 s3 s4
    rw [evLp_succ, f145_1.s0_eq]
    delta f145_1.R0
    simp only [ih]
    rfl
theorem f145_1.p0_e0_eq {R : Type} (L N : Nat) (κ : AV → Option R) (z5 : LM) :
    (contAt (E145_1 L N) (evCallI (E145_1 L N) 1 2000) 1000 145 34 0 (codeOf Try.f145) (finK (E145_1 L N) 1000 Try.f145 (finC (.one (.sl (.st 0))) κ))) (.exit 0) (f145_1.T0_e0 z5) (f145_1.H0_e0 z5)
    = f145_1.p0_e0 L N (fun a0 => κ (.tv (.sl (.st 0)) a0)) z5 := by kernel_rfl
theorem f145_1.b_eq {R : Type} (L N : Nat) (κ : AV → Option R) (x0 : LI) (x1 : Int) (x2 : LLM) :
    evBody (E145_1 L N) (evCallI (E145_1 L N) 1 2000) 1000 145 Try.f145 [(.tv (.sl i64) x0), (.tv i64 x1), (.imp (.sl (.sl (.st 0))) x2 0)] [] [] (finC (.one (.sl (.st 0))) κ)
    = f145_1.b L N (fun a0 => κ (.tv (.sl (.st 0)) a0)) x0 x1 x2 := by
  refine Eq.trans (b := f145_1.b' L N (fun a0 => κ (.tv (.sl (.st 0)) a0)) (fun s0 s1 s2 s3 s4 => evLp (E145_1 L N) (evCallI (E145_1 L N) 1 2000) 1000 145 34 0 f145_1.c0 (contAt (E145_1 L N) (evCallI (E145_1 L N) 1 2000) 1000 145 34 0 (codeOf Try.f145) (finK (E145_1 L N) 1000 Try.f145 (finC (.one (.sl (.st 0))) κ))) L (f145_1.T0 s0 s1 s2 s3 s4) (f145_1.H0 s0 s1 s2 s3 s4)) x0 x1 x2) (by kernel_rfl) ?_
  unfold f145_1.b
  simp only [f145_1.l0_eq]
  delta f145_1.X0_e0
  simp only [f145_1.p0_e0_eq]
theorem f145_1.ok (L N : Nat) (hΦ : TellsOk Try.prog ((Φ43 L N))) : EntOkO Try.prog 145 (f145_1.ent L N) := entDf_ok (E := (E145_1 L N)) (dep := 1000) (f := Try.f145) (sound_of hΦ) okP (callI_sound (sound_of hΦ) okP 1 2000) rfl fun d _ hy => (f145_1.b_eq L N (unR (.one (.sl (.st 0)))) d.1 d.2.1 d.2.2.1).trans (Eq.trans (b := f145_1.b L N some d.1 d.2.1 d.2.2.1) (by kernel_rfl) hy)
def Φ145_1 (L N : Nat) : Tells := (addO (Φ43 L N) 145 (f145_1.ent L N))
theorem Φ145_1_ok (L N : Nat) : TellsOk Try.prog (Φ145_1 L N) := addO_ok (Φ43_ok L N) (f145_1.ok L N (Φ43_ok L N))
def f118_2.b' {R : Type} (L N : Nat) (k : LM → Option R) (x0 : Int) (x1 : LLM) (x2 : LI) : Option R :=
  (f145_1 L N x2 x0 x1).bind fun y0 =>
  k y0
def f118_2.b {R : Type} (L N : Nat) (k : LM → Option R) (x0 : Int) (x1 : LLM) (x2 : LI) : Option R :=
  f118_2.b' L N k x0 x1 x2
def f118_2 (L N : Nat) (x0 : Int) (x1 : LLM) (x2 : LI) : Option (LM) := f118_2.b L N some x0 x1 x2
def f118_2.ent (L N : Nat) := entDf [(.dat i64), (.pfn 145 [(.imp (.sl (.sl (.st 0))) 0)]), (.imp (.sl i64) 0)] (.one (.sl (.st 0))) fun d => f118_2 L N d.1 d.2.1.1 d.2.2.1
noncomputable def E118_2 (L N : Nat) : Env := { P := Try.prog, ty := tyOf, Φ := (Φ145_1 L N), inl := inlT, live := lives, liveX := livesX, L := L, dp := none, prom := promT, heal := healT, ren := renT }
theorem f118_2.b_eq {R : Type} (L N : Nat) (κ : AV → Option R) (x0 : Int) (x1 : LLM) (x2 : LI) :
    evBody (E118_2 L N) (evCallI (E118_2 L N) 1 2000) 1000 118 Try.f118 [(.tv i64 x0), (.imf 145 [(.imp (.sl (.sl (.st 0))) x1 0)]), (.imp (.sl i64) x2 0)] [] [] (finC (.one (.sl (.st 0))) κ)
    = f118_2.b L N (fun a0 => κ (.tv (.sl (.st 0)) a0)) x0 x1 x2 := by kernel_rfl
theorem f118_2.ok (L N : Nat) (hΦ : TellsOk Try.prog ((Φ145_1 L N))) : EntOkO Try.prog 118 (f118_2.ent L N) := entDf_ok (E := (E118_2 L N)) (dep := 1000) (f := Try.f118) (sound_of hΦ) okP (callI_sound (sound_of hΦ) okP 1 2000) rfl fun d _ hy => (f118_2.b_eq L N (unR (.one (.sl (.st 0)))) d.1 d.2.1.1 d.2.2.1).trans (Eq.trans (b := f118_2.b L N some d.1 d.2.1.1 d.2.2.1) (by kernel_rfl) hy)
def Φ118_2 (L N : Nat) : Tells := (addO (Φ145_1 L N) 118 (f118_2.ent L N))
theorem Φ118_2_ok (L N : Nat) : TellsOk Try.prog (Φ118_2 L N) := addO_ok (Φ145_1_ok L N) (f118_2.ok L N (Φ145_1_ok L N))
def f117_2.j0' {R : Type} (L N : Nat) (k1_e2 : LI → LLM → LI → Int → Int → LI → LLM → Option R) (rec1 : LI → LLM → LI → Int → Int → Int → Int → LI → LLM → Option R) (v26 : LI) (v27 : LLM) (v28 : LI) (v29 : Int) (v30 : Int) (v31 : Int) (v32 : Int) (v33 : Bool) (v34 : LI) (v35 : LLM) : Option R :=
  bif v33 then
    bif (decide (0 ≤ v29) && decide (v29 < (v34.length : Int))) then
      k1_e2 v26 v27 v28 v31 v32 (v34.set v29.toNat v30) v35
    else none
  else rec1 v26 v27 v28 v29 (wi (v30 + (1 : Int))) v31 v32 v34 v35
def f117_2.s1' {R : Type} (L N : Nat) (k1_e2 : LI → LLM → LI → Int → Int → LI → LLM → Option R) (rec1 : LI → LLM → LI → Int → Int → Int → Int → LI → LLM → Option R) (s9 : LI) (s10 : LLM) (s11 : LI) (s12 : Int) (s13 : Int) (s14 : Int) (s15 : Int) (s16 : LI) (s17 : LLM) : Option R :=
  bif (decide (s13 < s12)) then
    bif (decide (0 ≤ s13) && decide (s13 < (s9.length : Int))) then
      bif (decide (0 ≤ s12) && decide (s12 < (s9.length : Int))) then
        bif ((listAt s9 (0 : Int) s13.toNat) == (listAt s9 (0 : Int) s12.toNat)) then
          bif (decide (0 ≤ s13) && decide (s13 < (s17.length : Int))) then
            bif (decide (0 ≤ s12) && decide (s12 < (s17.length : Int))) then
              (f142 L N (listAt s17 [] s13.toNat) (listAt s17 [] s12.toNat)).bind fun y25 =>
              f117_2.j0' L N k1_e2 rec1 s9 s10 s11 s12 s13 s14 s15 y25 s16 s17
            else none
          else none
        else f117_2.j0' L N k1_e2 rec1 s9 s10 s11 s12 s13 s14 s15 false s16 s17
      else none
    else none
  else k1_e2 s9 s10 s11 s14 s15 s16 s17
def f117_2.s1 {R : Type} (L N : Nat) (k1_e2 : LI → LLM → LI → Int → Int → LI → LLM → Option R) (rec1 : LI → LLM → LI → Int → Int → Int → Int → LI → LLM → Option R) (s9 : LI) (s10 : LLM) (s11 : LI) (s12 : Int) (s13 : Int) (s14 : Int) (s15 : Int) (s16 : LI) (s17 : LLM) : Option R :=
  f117_2.s1' L N k1_e2 rec1 s9 s10 s11 s12 s13 s14 s15 s16 s17
def f117_2.l1 {R : Type} (L N : Nat) (k1_e2 : LI → LLM → LI → Int → Int → LI → LLM → Option R) : Nat → LI → LLM → LI → Int → Int → Int → Int → LI → LLM → Option R
  | 0, _, _, _, _, _, _, _, _, _ => none
  | n + 1, s9, s10, s11, s12, s13, s14, s15, s16, s17 => f117_2.s1 L N k1_e2 (f117_2.l1 L N k1_e2 n) s9 s10 s11 s12 s13 s14 s15 s16 s17
def f117_2.T1 (s9 : LI) (s10 : LLM) (s11 : LI) (s12 : Int) (s13 : Int) (s14 : Int) (s15 : Int) (s16 : LI) (s17 : LLM) : T := mkT 61 [(0, (.tv (.sl i64) s9)), (1, (.fn 118 [(.imf 145 [(.imp (.sl (.sl (.st 0))) s10 0)]), (.imp (.sl i64) s11 0)])), (5, (.row 1011)), (6, (.row 1014)), (7, (.tv i64 s12)), (8, (.tv i64 s13)), (16, (.tv i64 s14)), (17, (.tv i64 s15))]
def f117_2.H1 (s9 : LI) (s10 : LLM) (s11 : LI) (s12 : Int) (s13 : Int) (s14 : Int) (s15 : Int) (s16 : LI) (s17 : LLM) : H := [(1011, (.row 3 i64 s16)), (1014, (.row 51 (.sl (.st 0)) s17))]
def f117_2.T1_e2 (z18 : LI) (z19 : LLM) (z20 : LI) (z21 : Int) (z22 : Int) (z23 : LI) (z24 : LLM) : T := mkT 61 [(0, (.tv (.sl i64) z18)), (1, (.fn 118 [(.imf 145 [(.imp (.sl (.sl (.st 0))) z19 0)]), (.imp (.sl i64) z20 0)])), (5, (.row 1011)), (6, (.row 1014)), (16, (.tv i64 z21)), (17, (.tv i64 z22))]
def f117_2.H1_e2 (z18 : LI) (z19 : LLM) (z20 : LI) (z21 : Int) (z22 : Int) (z23 : LI) (z24 : LLM) : H := [(1011, (.row 3 i64 z23)), (1014, (.row 51 (.sl (.st 0)) z24))]
def f117_2.p1_e2' {R : Type} (L N : Nat) (k0_e0 : LI → Option R) (rec0 : LI → LLM → LI → Int → Int → LI → LLM → Option R) (z18 : LI) (z19 : LLM) (z20 : LI) (z21 : Int) (z22 : Int) (z23 : LI) (z24 : LLM) : Option R :=
  rec0 z18 z19 z20 z21 (wi (z22 + (1 : Int))) z23 z24
def f117_2.p1_e2 {R : Type} (L N : Nat) (k0_e0 : LI → Option R) (rec0 : LI → LLM → LI → Int → Int → LI → LLM → Option R) (z18 : LI) (z19 : LLM) (z20 : LI) (z21 : Int) (z22 : Int) (z23 : LI) (z24 : LLM) : Option R :=
  f117_2.p1_e2' L N k0_e0 rec0 z18 z19 z20 z21 z22 z23 z24
def f117_2.s0' {R : Type} (L N : Nat) (k0_e0 : LI → Option R) (rec0 : LI → LLM → LI → Int → Int → LI → LLM → Option R) (w1 : LI → LLM → LI → Int → Int → Int → Int → LI → LLM → Option R) (s0 : LI) (s1 : LLM) (s2 : LI) (s3 : Int) (s4 : Int) (s5 : LI) (s6 : LLM) : Option R :=
  bif (decide (s4 < s3)) then
    (f118_2 L N s4 s1 s2).bind fun y8 =>
    bif (decide (0 ≤ s4) && decide (s4 < (s6.length : Int))) then
      bif (decide (0 ≤ s4) && decide (s4 < (s5.length : Int))) then
        w1 s0 s1 s2 s4 (0 : Int) s3 s4 (s5.set s4.toNat s4) (s6.set s4.toNat y8)
      else none
    else none
  else k0_e0 s5
def f117_2.s0 {R : Type} (L N : Nat) (k0_e0 : LI → Option R) (rec0 : LI → LLM → LI → Int → Int → LI → LLM → Option R) (s0 : LI) (s1 : LLM) (s2 : LI) (s3 : Int) (s4 : Int) (s5 : LI) (s6 : LLM) : Option R :=
  f117_2.s0' L N k0_e0 rec0 (fun s9 s10 s11 s12 s13 s14 s15 s16 s17 => f117_2.l1 L N (fun z18 z19 z20 z21 z22 z23 z24 => f117_2.p1_e2 L N k0_e0 rec0 z18 z19 z20 z21 z22 z23 z24) L s9 s10 s11 s12 s13 s14 s15 s16 s17) s0 s1 s2 s3 s4 s5 s6
def f117_2.l0 {R : Type} (L N : Nat) (k0_e0 : LI → Option R) : Nat → LI → LLM → LI → Int → Int → LI → LLM → Option R
  | 0, _, _, _, _, _, _, _ => none
  | n + 1, s0, s1, s2, s3, s4, s5, s6 => f117_2.s0 L N k0_e0 (f117_2.l0 L N k0_e0 n) s0 s1 s2 s3 s4 s5 s6
def f117_2.T0 (s0 : LI) (s1 : LLM) (s2 : LI) (s3 : Int) (s4 : Int) (s5 : LI) (s6 : LLM) : T := mkT 61 [(0, (.tv (.sl i64) s0)), (1, (.fn 118 [(.imf 145 [(.imp (.sl (.sl (.st 0))) s1 0)]), (.imp (.sl i64) s2 0)])), (5, (.row 1011)), (6, (.row 1014)), (16, (.tv i64 s3)), (17, (.tv i64 s4))]
def f117_2.H0 (s0 : LI) (s1 : LLM) (s2 : LI) (s3 : Int) (s4 : Int) (s5 : LI) (s6 : LLM) : H := [(1011, (.row 3 i64 s5)), (1014, (.row 51 (.sl (.st 0)) s6))]
def f117_2.T0_e0 (z7 : LI) : T := mkT 61 [(5, (.row 1011))]
def f117_2.H0_e0 (z7 : LI) : H := [(1011, (.row 3 i64 z7))]
def f117_2.p0_e0' {R : Type} (L N : Nat) (k : LI → Option R) (z7 : LI) : Option R :=
  k z7
def f117_2.p0_e0 {R : Type} (L N : Nat) (k : LI → Option R) (z7 : LI) : Option R :=
  f117_2.p0_e0' L N k z7
def f117_2.b' {R : Type} (L N : Nat) (k : LI → Option R) (w0 : LI → LLM → LI → Int → Int → LI → LLM → Option R) (x0 : LI) (x1 : LLM) (x2 : LI) : Option R :=
  bif (decide (0 ≤ (x0.length : Int)) && decide ((x0.length : Int) ≤ (lim : Int))) then
    bif (decide (0 ≤ (x0.length : Int)) && decide ((x0.length : Int) ≤ (lim : Int))) then
      w0 x0 x1 x2 (x0.length : Int) (0 : Int) (List.replicate (x0.length : Int).toNat (0 : Int)) (List.replicate (x0.length : Int).toNat [])
    else none
  else none
def f117_2.b {R : Type} (L N : Nat) (k : LI → Option R) (x0 : LI) (x1 : LLM) (x2 : LI) : Option R :=
  f117_2.b' L N k (fun s0 s1 s2 s3 s4 s5 s6 => f117_2.l0 L N (fun z7 => f117_2.p0_e0 L N k z7) L s0 s1 s2 s3 s4 s5 s6) x0 x1 x2
def f117_2 (L N : Nat) (x0 : LI) (x1 : LLM) (x2 : LI) : Option (LI) := f117_2.b L N some x0 x1 x2
def f117_2.ent (L N : Nat) (args : List AV) (vw : View) (site : Nat) : Option Ans := match shD [(.dat (.sl i64)), (.fn 118 [(.pfn 145 [(.imp (.sl (.sl (.st 0))) 0)]), (.imp (.sl i64) 0)])] vw args with
  | some d => some ⟨LI, f117_2 L N d.1 d.2.1.1.1 d.2.1.2.1, fun y => (RN.av site .row (), [(site, some (mkO none 3 i64 y))], [])⟩
  | none => none
noncomputable def E117_2 (L N : Nat) : Env := { P := Try.prog, ty := tyOf, Φ := (Φ118_2 L N), inl := inlT, live := lives, liveX := livesX, L := L, dp := none, prom := promT, heal := healT, ren := renT }
noncomputable def f117_2.c0 : Code := loopAt 0 (codeOf Try.f117)
noncomputable def f117_2.c1 : Code := loopAt 2 f117_2.c0
def f117_2.X1_e2 {R : Type} (κ : KX R) := fun z18 z19 z20 z21 z22 z23 z24 => κ (.exit 2) (f117_2.T1_e2 z18 z19 z20 z21 z22 z23 z24) (f117_2.H1_e2 z18 z19 z20 z21 z22 z23 z24)
def f117_2.R1 {R : Type} (rec : KT R) := fun s9 s10 s11 s12 s13 s14 s15 s16 s17 => rec (f117_2.T1 s9 s10 s11 s12 s13 s14 s15 s16 s17) (f117_2.H1 s9 s10 s11 s12 s13 s14 s15 s16 s17)
theorem f117_2.s1_eq {R : Type} (L N : Nat) (κ : KX R) (rec : KT R) (s9 : LI) (s10 : LLM) (s11 : LI) (s12 : Int) (s13 : Int) (s14 : Int) (s15 : Int) (s16 : LI) (s17 : LLM) :
    evRd (E117_2 L N) (evCallI (E117_2 L N) 1 2000) 1000 117 61 2 f117_2.c1 κ rec (f117_2.T1 s9 s10 s11 s12 s13 s14 s15 s16 s17) (f117_2.H1 s9 s10 s11 s12 s13 s14 s15 s16 s17)
    = f117_2.s1 L N (f117_2.X1_e2 κ) (f117_2.R1 rec) s9 s10 s11 s12 s13 s14 s15 s16 s17 := by kernel_rfl
theorem f117_2.l1_eq {R : Type} (L N : Nat) (κ : KX R) : ∀ (n : Nat) (s9 : LI) (s10 : LLM) (s11 : LI) (s12 : Int) (s13 : Int) (s14 : Int) (s15 : Int) (s16 : LI) (s17 : LLM),
    evLp (E117_2 L N) (evCallI (E117_2 L N) 1 2000) 1000 117 61 2 f117_2.c1 κ n (f117_2.T1 s9 s10 s11 s12 s13 s14 s15 s16 s17) (f117_2.H1 s9 s10 s11 s12 s13 s14 s15 s16 s17)
    = f117_2.l1 L N (f117_2.X1_e2 κ) n s9 s10 s11 s12 s13 s14 s15 s16 s17 := by
  intro n
  induction n with
  | zero => intros; rfl
  | succ n ih =>
    intro s9 s10 s11 s12 s13 s14 s15 s16 s17
    rw [evLp_succ, f117_2.s1_eq]
    delta f117_2.R1
    simp only [ih]
    rfl
def f117_2.X0_e0 {R : Type} (κ : KX R) := fun z7 => κ (.exit 0) (f117_2.T0_e0 z7) (f117_2.H0_e0 z7)
def f117_2.R0 {R : Type} (rec : KT R) := fun s0 s1 s2 s3 s4 s5 s6 => rec (f117_2.T0 s0 s1 s2 s3 s4 s5 s6) (f117_2.H0 s0 s1 s2 s3 s4 s5 s6)
theorem f117_2.p1_e2_eq {R : Type} (L N : Nat) (κ : KX R) (rec : KT R) (z18 : LI) (z19 : LLM) (z20 : LI) (z21 : Int) (z22 : Int) (z23 : LI) (z24 : LLM) :
    (contAt (E117_2 L N) (evCallI (E117_2 L N) 1 2000) 1000 117 61 2 f117_2.c0 (rdK (E117_2 L N) 1000 117 61 0 κ rec)) (.exit 2) (f117_2.T1_e2 z18 z19 z20 z21 z22 z23 z24) (f117_2.H1_e2 z18 z19 z20 z21 z22 z23 z24)
    = f117_2.p1_e2 L N (f117_2.X0_e0 κ) (f117_2.R0 rec) z18 z19 z20 z21 z22 z23 z24 := by kernel_rfl
theorem f117_2.s0_eq {R : Type} (L N : Nat) (κ : KX R) (rec : KT R) (s0 : LI) (s1 : LLM) (s2 : LI) (s3 : Int) (s4 : Int) (s5 : LI) (s6 : LLM) :
    evRd (E117_2 L N) (evCallI (E117_2 L N) 1 2000) 1000 117 61 0 f117_2.c0 κ rec (f117_2.T0 s0 s1 s2 s3 s4 s5 s6) (f117_2.H0 s0 s1 s2 s3 s4 s5 s6)
    = f117_2.s0 L N (f117_2.X0_e0 κ) (f117_2.R0 rec) s0 s1 s2 s3 s4 s5 s6 := by
  refine Eq.trans (b := f117_2.s0' L N (f117_2.X0_e0 κ) (f117_2.R0 rec) (fun s9 s10 s11 s12 s13 s14 s15 s16 s17 => evLp (E117_2 L N) (evCallI (E117_2 L N) 1 2000) 1000 117 61 2 f117_2.c1 (contAt (E117_2 L N) (evCallI (E117_2 L N) 1 2000) 1000 117 61 2 f117_2.c0 (rdK (E117_2 L N) 1000 117 61 0 κ rec)) L (f117_2.T1 s9 s10 s11 s12 s13 s14 s15 s16 s17) (f117_2.H1 s9 s10 s11 s12 s13 s14 s15 s16 s17)) s0 s1 s2 s3 s4 s5 s6) (by kernel_rfl) ?_
  unfold f117_2.s0
  simp only [f117_2.l1_eq]
  delta f117_2.X1_e2
  simp only [f117_2.p1_e2_eq]
theorem f117_2.l0_eq {R : Type} (L N : Nat) (κ : KX R) : ∀ (n : Nat) (s0 : LI) (s1 : LLM) (s2 : LI) (s3 : Int) (s4 : Int) (s5 : LI) (s6 : LLM),
    evLp (E117_2 L N) (evCallI (E117_2 L N) 1 2000) 1000 117 61 0 f117_2.c0 κ n (f117_2.T0 s0 s1 s2 s3 s4 s5 s6) (f117_2.H0 s0 s1 s2 s3 s4 s5 s6)
    = f117_2.l0 L N (f117_2.X0_e0 κ) n s0 s1 s2 s3 s4 s5 s6 := by
  intro n
  induction n with
  | zero => intros; rfl
  | succ n ih =>
    intro s0 s1 s2 s3 s4 s5 s6
    rw [evLp_succ, f117_2.s0_eq]
    delta f117_2.R0
    simp only [ih]
    rfl
theorem f117_2.p0_e0_eq {R : Type} (L N : Nat) (κ : RN.Den .row → List Int → Option R) (z7 : LI) :
    (contAt (E117_2 L N) (evCallI (E117_2 L N) 1 2000) 1000 117 61 0 (codeOf Try.f117) (finK (E117_2 L N) 1000 Try.f117 (finN .row none 3 i64 κ))) (.exit 0) (f117_2.T0_e0 z7) (f117_2.H0_e0 z7)
    = f117_2.p0_e0 L N (fun a0 => κ () a0) z7 := by kernel_rfl
theorem f117_2.b_eq {R : Type} (L N : Nat) (κ : RN.Den .row → List Int → Option R) (x0 : LI) (x1 : LLM) (x2 : LI) :
    evBody (E117_2 L N) (evCallI (E117_2 L N) 1 2000) 1000 117 Try.f117 [(.tv (.sl i64) x0), (.fn 118 [(.imf 145 [(.imp (.sl (.sl (.st 0))) x1 0)]), (.imp (.sl i64) x2 0)])] [] [] (finN .row none 3 i64 κ)
    = f117_2.b L N (fun a0 => κ () a0) x0 x1 x2 := by
  refine Eq.trans (b := f117_2.b' L N (fun a0 => κ () a0) (fun s0 s1 s2 s3 s4 s5 s6 => evLp (E117_2 L N) (evCallI (E117_2 L N) 1 2000) 1000 117 61 0 f117_2.c0 (contAt (E117_2 L N) (evCallI (E117_2 L N) 1 2000) 1000 117 61 0 (codeOf Try.f117) (finK (E117_2 L N) 1000 Try.f117 (finN .row none 3 i64 κ))) L (f117_2.T0 s0 s1 s2 s3 s4 s5 s6) (f117_2.H0 s0 s1 s2 s3 s4 s5 s6)) x0 x1 x2) (by kernel_rfl) ?_
  unfold f117_2.b
  simp only [f117_2.l0_eq]
  delta f117_2.X0_e0
  simp only [f117_2.p0_e0_eq]
theorem f117_2.ok (L N : Nat) (hΦ : TellsOk Try.prog ((Φ118_2 L N))) : EntOkO Try.prog 117 (f117_2.ent L N) := by
  intro args vw site h a ha
  unfold f117_2.ent at ha
  split at ha
  · rename_i d hd
    obtain rfl := Option.some.inj ha
    intro y hy hs
    refine call_ronF (y := y) (dep := 1000) (E := (E117_2 L N)) (rn := .row) (q := none) (el := 3) (ty := i64) (d1 := ()) (xs := y) (κ := (fun d xs => some xs)) (sound_of hΦ) okP (callI_sound (sound_of hΦ) okP 1 2000) (f := Try.f117) rfl hs hd ?_ (fun _ _ h => by obtain rfl := Option.some.inj h; exact ⟨rfl, rfl⟩) rfl site
    exact (f117_2.b_eq L N (fun d xs => some xs) d.1 d.2.1.1.1 d.2.1.2.1).trans (Eq.trans (b := f117_2.b L N some d.1 d.2.1.1.1 d.2.1.2.1) (by kernel_rfl) hy)
  · cases ha
def Φ117_2 (L N : Nat) : Tells := (addO (Φ118_2 L N) 117 (f117_2.ent L N))
theorem Φ117_2_ok (L N : Nat) : TellsOk Try.prog (Φ117_2 L N) := addO_ok (Φ118_2_ok L N) (f117_2.ok L N (Φ118_2_ok L N))
def f81_2.s0' {R : Type} (L N : Nat) (k0_r : LLI → Option R) (rec0 : LLM → LLI → Option R) (s0 : LLM) (s1 : LLI) : Option R :=
  bif (decide (0 ≤ (wi ((s1.length : Int) - (1 : Int)))) && decide ((wi ((s1.length : Int) - (1 : Int))) < (s1.length : Int))) then
    (f117_2 L N (listAt s1 [] (wi ((s1.length : Int) - (1 : Int))).toNat) s0 (listAt s1 [] (wi ((s1.length : Int) - (1 : Int))).toNat)).bind fun y2 =>
    (f119 L N y2 (listAt s1 [] (wi ((s1.length : Int) - (1 : Int))).toNat)).bind fun y3 =>
    bif y3 then
      k0_r s1
    else bif (decide (s1.length + ([y2] : LLI).length ≤ lim)) then
      rec0 s0 (s1 ++ ([y2] : LLI))
    else none
  else none
def f81_2.s0 {R : Type} (L N : Nat) (k0_r : LLI → Option R) (rec0 : LLM → LLI → Option R) (s0 : LLM) (s1 : LLI) : Option R :=
  f81_2.s0' L N k0_r rec0 s0 s1
def f81_2.l0 {R : Type} (L N : Nat) (k0_r : LLI → Option R) : Nat → LLM → LLI → Option R
  | 0, _, _ => none
  | n + 1, s0, s1 => f81_2.s0 L N k0_r (f81_2.l0 L N k0_r n) s0 s1
def f81_2.T0 (s0 : LLM) (s1 : LLI) : T := mkT 28 [(3, (.ptr 1003 0)), (5, (.row 1010))]
def f81_2.H0 (s0 : LLM) (s1 : LLI) : H := [(1003, (.box [(.fn 145 [(.imp (.sl (.sl (.st 0))) s0 0)])])), (1010, (.row 30 (.sl i64) s1))]
def f81_2.T0_r (z4 : LLI) : T := mkT 28 [(4, (.row 1010))]
def f81_2.H0_r (z4 : LLI) : H := [(1010, (.row 30 (.sl i64) z4))]
def f81_2.p0_r' {R : Type} (L N : Nat) (k : LLI → Option R) (z4 : LLI) : Option R :=
  k z4
def f81_2.p0_r {R : Type} (L N : Nat) (k : LLI → Option R) (z4 : LLI) : Option R :=
  f81_2.p0_r' L N k z4
def f81_2.b' {R : Type} (L N : Nat) (k : LLI → Option R) (w0 : LLM → LLI → Option R) (x0 : Int) (x1 : LLM) : Option R :=
  bif (decide (0 ≤ x0) && decide (x0 ≤ (lim : Int))) then
    w0 x1 ([(List.replicate x0.toNat (0 : Int))] : LLI)
  else none
def f81_2.b {R : Type} (L N : Nat) (k : LLI → Option R) (x0 : Int) (x1 : LLM) : Option R :=
  f81_2.b' L N k (fun s0 s1 => f81_2.l0 L N (fun z4 => f81_2.p0_r L N k z4) L s0 s1) x0 x1
def f81_2 (L N : Nat) (x0 : Int) (x1 : LLM) : Option (LLI) := f81_2.b L N some x0 x1
def f81_2.ent (L N : Nat) := entDf [(.dat i64), (.fn 145 [(.imp (.sl (.sl (.st 0))) 0)])] (.one (.sl (.sl i64))) fun d => f81_2 L N d.1 d.2.1.1
noncomputable def E81_2 (L N : Nat) : Env := { P := Try.prog, ty := tyOf, Φ := (Φ117_2 L N), inl := inlT, live := lives, liveX := livesX, L := L, dp := none, prom := promT, heal := healT, ren := renT }
noncomputable def f81_2.c0 : Code := loopAt 0 (codeOf Try.f81)
def f81_2.X0_r {R : Type} (κ : KX R) := fun z4 => κ .ret (f81_2.T0_r z4) (f81_2.H0_r z4)
def f81_2.R0 {R : Type} (rec : KT R) := fun s0 s1 => rec (f81_2.T0 s0 s1) (f81_2.H0 s0 s1)
theorem f81_2.s0_eq {R : Type} (L N : Nat) (κ : KX R) (rec : KT R) (s0 : LLM) (s1 : LLI) :
    evRd (E81_2 L N) (evCallI (E81_2 L N) 1 2000) 1000 81 28 0 f81_2.c0 κ rec (f81_2.T0 s0 s1) (f81_2.H0 s0 s1)
    = f81_2.s0 L N (f81_2.X0_r κ) (f81_2.R0 rec) s0 s1 := by kernel_rfl
theorem f81_2.l0_eq {R : Type} (L N : Nat) (κ : KX R) : ∀ (n : Nat) (s0 : LLM) (s1 : LLI),
    evLp (E81_2 L N) (evCallI (E81_2 L N) 1 2000) 1000 81 28 0 f81_2.c0 κ n (f81_2.T0 s0 s1) (f81_2.H0 s0 s1)
    = f81_2.l0 L N (f81_2.X0_r κ) n s0 s1 := by
  intro n
  induction n with
  | zero => intros; rfl
  | succ n ih =>
    intro s0 s1
    rw [evLp_succ, f81_2.s0_eq]
    delta f81_2.R0
    simp only [ih]
    rfl
theorem f81_2.p0_r_eq {R : Type} (L N : Nat) (κ : AV → Option R) (z4 : LLI) :
    (contAt (E81_2 L N) (evCallI (E81_2 L N) 1 2000) 1000 81 28 0 (codeOf Try.f81) (finK (E81_2 L N) 1000 Try.f81 (finC (.one (.sl (.sl i64))) κ))) .ret (f81_2.T0_r z4) (f81_2.H0_r z4)
    = f81_2.p0_r L N (fun a0 => κ (.tv (.sl (.sl i64)) a0)) z4 := by kernel_rfl
theorem f81_2.b_eq {R : Type} (L N : Nat) (κ : AV → Option R) (x0 : Int) (x1 : LLM) :
    evBody (E81_2 L N) (evCallI (E81_2 L N) 1 2000) 1000 81 Try.f81 [(.tv i64 x0), (.fn 145 [(.imp (.sl (.sl (.st 0))) x1 0)])] [] [] (finC (.one (.sl (.sl i64))) κ)
    = f81_2.b L N (fun a0 => κ (.tv (.sl (.sl i64)) a0)) x0 x1 := by
  refine Eq.trans (b := f81_2.b' L N (fun a0 => κ (.tv (.sl (.sl i64)) a0)) (fun s0 s1 => evLp (E81_2 L N) (evCallI (E81_2 L N) 1 2000) 1000 81 28 0 f81_2.c0 (contAt (E81_2 L N) (evCallI (E81_2 L N) 1 2000) 1000 81 28 0 (codeOf Try.f81) (finK (E81_2 L N) 1000 Try.f81 (finC (.one (.sl (.sl i64))) κ))) L (f81_2.T0 s0 s1) (f81_2.H0 s0 s1)) x0 x1) (by kernel_rfl) ?_
  unfold f81_2.b
  simp only [f81_2.l0_eq]
  delta f81_2.X0_r
  simp only [f81_2.p0_r_eq]
theorem f81_2.ok (L N : Nat) (hΦ : TellsOk Try.prog ((Φ117_2 L N))) : EntOkO Try.prog 81 (f81_2.ent L N) := entDf_ok (E := (E81_2 L N)) (dep := 1000) (f := Try.f81) (sound_of hΦ) okP (callI_sound (sound_of hΦ) okP 1 2000) rfl fun d _ hy => (f81_2.b_eq L N (unR (.one (.sl (.sl i64)))) d.1 d.2.1.1).trans (Eq.trans (b := f81_2.b L N some d.1 d.2.1.1) (by kernel_rfl) hy)
def Φ81_2 (L N : Nat) : Tells := (addO (Φ117_2 L N) 81 (f81_2.ent L N))
theorem Φ81_2_ok (L N : Nat) : TellsOk Try.prog (Φ81_2 L N) := addO_ok (Φ117_2_ok L N) (f81_2.ok L N (Φ117_2_ok L N))
def f121.b' {R : Type} (L N : Nat) (k : LLI → Option R) (x0 : Graph) : Option R :=
  (f81_2 L N (x0.moves.length : Int) x0.moves).bind fun y0 =>
  k y0
def f121.b {R : Type} (L N : Nat) (k : LLI → Option R) (x0 : Graph) : Option R :=
  f121.b' L N k x0
def f121 (L N : Nat) (x0 : Graph) : Option (LLI) := f121.b L N some x0
def f121.ent (L N : Nat) := entDa [(.st 2)] (.one (.sl (.sl i64))) fun d => f121 L N d.1
noncomputable def E121 (L N : Nat) : Env := { P := Try.prog, ty := tyOf, Φ := (Φ81_2 L N), inl := inlT, live := lives, liveX := livesX, L := L, dp := none, prom := promT, heal := healT, ren := renT }
theorem f121.b_eq {R : Type} (L N : Nat) (κ : AV → Option R) (x0 : Graph) :
    evBody (E121 L N) (evCallI (E121 L N) 1 2000) 1000 121 Try.f121 [(.tv (.st 2) x0)] [] [] (finC (.one (.sl (.sl i64))) κ)
    = f121.b L N (fun a0 => κ (.tv (.sl (.sl i64)) a0)) x0 := by kernel_rfl
theorem f121.ok (L N : Nat) (hΦ : TellsOk Try.prog ((Φ81_2 L N))) : EntOk Try.prog 121 (f121.ent L N) := entDa_ok (E := (E121 L N)) (dep := 1000) (f := Try.f121) (sound_of hΦ) okP (callI_sound (sound_of hΦ) okP 1 2000) rfl fun d _ hy => (f121.b_eq L N (unR (.one (.sl (.sl i64)))) d.1).trans (Eq.trans (b := f121.b L N some d.1) (by kernel_rfl) hy)
def Φ121 (L N : Nat) : Tells := (addT (Φ81_2 L N) 121 (f121.ent L N))
theorem Φ121_ok (L N : Nat) : TellsOk Try.prog (Φ121 L N) := addT_ok (Φ81_2_ok L N) (f121.ok L N (Φ81_2_ok L N))
def f86.b' {R : Type} (L N : Nat) (k : LI → Option R) (x0 : Graph) : Option R :=
  (f121 L N (Graph.mk x0.moves)).bind fun y0 =>
  bif (decide (0 ≤ (wi ((y0.length : Int) - (1 : Int)))) && decide ((wi ((y0.length : Int) - (1 : Int))) < (y0.length : Int))) then
    ((fclone (listAt y0 [] (wi ((y0.length : Int) - (1 : Int))).toNat))).bind fun y1 =>
    k (listAt y0 [] (wi ((y0.length : Int) - (1 : Int))).toNat)
  else none
def f86.b {R : Type} (L N : Nat) (k : LI → Option R) (x0 : Graph) : Option R :=
  f86.b' L N k x0
def f86 (L N : Nat) (x0 : Graph) : Option (LI) := f86.b L N some x0
def f86.ent (L N : Nat) (args : List AV) (vw : View) (site : Nat) : Ans := match roD [(.st 2)] vw args with
  | some d => ⟨LI, f86 L N d.1, fun y => (RN.av site .row (), [(site, some (mkO none 3 i64 y))], [])⟩
  | none => Ans.no
noncomputable def E86 (L N : Nat) : Env := { P := Try.prog, ty := tyOf, Φ := (Φ121 L N), inl := inlT, live := lives, liveX := livesX, L := L, dp := none, prom := promT, heal := healT, ren := renT }
theorem f86.b_eq {R : Type} (L N : Nat) (κ : RN.Den .row → List Int → Option R) (x0 : Graph) :
    evBody (E86 L N) (evCallI (E86 L N) 1 2000) 1000 86 Try.f86 [(.tv (.st 2) x0)] [] [] (finN .row none 3 i64 κ)
    = f86.b L N (fun a0 => κ () a0) x0 := by kernel_rfl
theorem f86.ok (L N : Nat) (hΦ : TellsOk Try.prog ((Φ121 L N))) : EntOk Try.prog 86 (f86.ent L N) := by
  intro args vw site h
  unfold f86.ent
  split
  · rename_i d ha
    intro y hy hs
    refine call_ron (y := y) (dep := 1000) (E := (E86 L N)) (ts := [(.st 2)]) (rn := .row) (q := none) (el := 3) (ty := i64) (d1 := ()) (xs := y) (κ := (fun d xs => some xs)) (sound_of hΦ) okP (callI_sound (sound_of hΦ) okP 1 2000) (f := Try.f86) rfl hs ha ?_ (fun _ _ h => by obtain rfl := Option.some.inj h; exact ⟨rfl, rfl⟩) rfl site
    exact (f86.b_eq L N (fun d xs => some xs) d.1).trans (Eq.trans (b := f86.b L N some d.1) (by kernel_rfl) hy)
  · intro y hy
    cases hy
def Φ86 (L N : Nat) : Tells := (addT (Φ121 L N) 86 (f86.ent L N))
theorem Φ86_ok (L N : Nat) : TellsOk Try.prog (Φ86 L N) := addT_ok (Φ121_ok L N) (f86.ok L N (Φ121_ok L N))
def f44.b' {R : Type} (L N : Nat) (k : LI → Option R) (x0 : Graph) : Option R :=
  (f32 L N (Graph.mk x0.moves)).bind fun y0 =>
  bif (!y0) then
    k []
  else (f86 L N (Graph.mk x0.moves)).bind fun y1 =>
  k y1
def f44.b {R : Type} (L N : Nat) (k : LI → Option R) (x0 : Graph) : Option R :=
  f44.b' L N k x0
def f44 (L N : Nat) (x0 : Graph) : Option (LI) := f44.b L N some x0
def f44.ent (L N : Nat) (args : List AV) (vw : View) (site : Nat) : Ans := match roD [(.st 2)] vw args with
  | some d => ⟨LI, f44 L N d.1, fun y => (RN.av site .row (), [(site, some (mkO none 3 i64 y))], [])⟩
  | none => Ans.no
noncomputable def E44 (L N : Nat) : Env := { P := Try.prog, ty := tyOf, Φ := (Φ86 L N), inl := inlT, live := lives, liveX := livesX, L := L, dp := none, prom := promT, heal := healT, ren := renT }
theorem f44.b_eq {R : Type} (L N : Nat) (κ : RN.Den .row → List Int → Option R) (x0 : Graph) :
    evBody (E44 L N) (evCallI (E44 L N) 1 2000) 1000 44 Try.f44 [(.tv (.st 2) x0)] [] [] (finN .row none 3 i64 κ)
    = f44.b L N (fun a0 => κ () a0) x0 := by kernel_rfl
theorem f44.ok (L N : Nat) (hΦ : TellsOk Try.prog ((Φ86 L N))) : EntOk Try.prog 44 (f44.ent L N) := by
  intro args vw site h
  unfold f44.ent
  split
  · rename_i d ha
    intro y hy hs
    refine call_ron (y := y) (dep := 1000) (E := (E44 L N)) (ts := [(.st 2)]) (rn := .row) (q := none) (el := 3) (ty := i64) (d1 := ()) (xs := y) (κ := (fun d xs => some xs)) (sound_of hΦ) okP (callI_sound (sound_of hΦ) okP 1 2000) (f := Try.f44) rfl hs ha ?_ (fun _ _ h => by obtain rfl := Option.some.inj h; exact ⟨rfl, rfl⟩) rfl site
    exact (f44.b_eq L N (fun d xs => some xs) d.1).trans (Eq.trans (b := f44.b L N some d.1) (by kernel_rfl) hy)
  · intro y hy
    cases hy
def Φ44 (L N : Nat) : Tells := (addT (Φ86 L N) 44 (f44.ent L N))
theorem Φ44_ok (L N : Nat) : TellsOk Try.prog (Φ44 L N) := addT_ok (Φ86_ok L N) (f44.ok L N (Φ86_ok L N))
def f45.s1' {R : Type} (L N : Nat) (k1_e2 : LI → LI → Int → Option R) (k1_r : LI → LI → Bool → Int → Option R) (rec1 : LI → LI → Int → Int → Option R) (s3 : LI) (s4 : LI) (s5 : Int) (s6 : Int) : Option R :=
  bif (decide (s6 < s5)) then
    bif (decide (0 ≤ s5) && decide (s5 < (s3.length : Int))) then
      bif (decide (0 ≤ s6) && decide (s6 < (s3.length : Int))) then
        bif ((listAt s3 (0 : Int) s5.toNat) == (listAt s3 (0 : Int) s6.toNat)) then
          bif (decide (0 ≤ s5) && decide (s5 < (s4.length : Int))) then
            bif (decide (0 ≤ s6) && decide (s6 < (s4.length : Int))) then
              bif ((listAt s4 (0 : Int) s5.toNat) != (listAt s4 (0 : Int) s6.toNat)) then
                k1_r s3 s4 false s5
              else rec1 s3 s4 s5 (wi (s6 + (1 : Int)))
            else none
          else none
        else rec1 s3 s4 s5 (wi (s6 + (1 : Int)))
      else none
    else none
  else k1_e2 s3 s4 s5
def f45.s1 {R : Type} (L N : Nat) (k1_e2 : LI → LI → Int → Option R) (k1_r : LI → LI → Bool → Int → Option R) (rec1 : LI → LI → Int → Int → Option R) (s3 : LI) (s4 : LI) (s5 : Int) (s6 : Int) : Option R :=
  f45.s1' L N k1_e2 k1_r rec1 s3 s4 s5 s6
def f45.l1 {R : Type} (L N : Nat) (k1_e2 : LI → LI → Int → Option R) (k1_r : LI → LI → Bool → Int → Option R) : Nat → LI → LI → Int → Int → Option R
  | 0, _, _, _, _ => none
  | n + 1, s3, s4, s5, s6 => f45.s1 L N k1_e2 k1_r (f45.l1 L N k1_e2 k1_r n) s3 s4 s5 s6
def f45.T1 (s3 : LI) (s4 : LI) (s5 : Int) (s6 : Int) : T := mkT 43 [(0, (.tv (.sl i64) s3)), (1, (.tv (.sl i64) s4)), (5, (.tv i64 s5)), (6, (.tv i64 s6))]
def f45.H1 (s3 : LI) (s4 : LI) (s5 : Int) (s6 : Int) : H := []
def f45.T1_e2 (z7 : LI) (z8 : LI) (z9 : Int) : T := mkT 43 [(0, (.tv (.sl i64) z7)), (1, (.tv (.sl i64) z8)), (5, (.tv i64 z9))]
def f45.H1_e2 (z7 : LI) (z8 : LI) (z9 : Int) : H := []
def f45.T1_r (z15 : LI) (z16 : LI) (z17 : Bool) (z18 : Int) : T := mkT 43 [(0, (.tv (.sl i64) z15)), (1, (.tv (.sl i64) z16)), (4, (.tv .bool z17)), (5, (.tv i64 z18))]
def f45.H1_r (z15 : LI) (z16 : LI) (z17 : Bool) (z18 : Int) : H := []
def f45.p1_e2' {R : Type} (L N : Nat) (k0_e0 : Option R) (k0_r : Bool → Option R) (rec0 : LI → LI → Int → Option R) (z7 : LI) (z8 : LI) (z9 : Int) : Option R :=
  rec0 z7 z8 (wi (z9 + (1 : Int)))
def f45.p1_e2 {R : Type} (L N : Nat) (k0_e0 : Option R) (k0_r : Bool → Option R) (rec0 : LI → LI → Int → Option R) (z7 : LI) (z8 : LI) (z9 : Int) : Option R :=
  f45.p1_e2' L N k0_e0 k0_r rec0 z7 z8 z9
def f45.p1_r' {R : Type} (L N : Nat) (k0_e0 : Option R) (k0_r : Bool → Option R) (rec0 : LI → LI → Int → Option R) (z15 : LI) (z16 : LI) (z17 : Bool) (z18 : Int) : Option R :=
  k0_r z17
def f45.p1_r {R : Type} (L N : Nat) (k0_e0 : Option R) (k0_r : Bool → Option R) (rec0 : LI → LI → Int → Option R) (z15 : LI) (z16 : LI) (z17 : Bool) (z18 : Int) : Option R :=
  f45.p1_r' L N k0_e0 k0_r rec0 z15 z16 z17 z18
def f45.s0' {R : Type} (L N : Nat) (k0_e0 : Option R) (k0_r : Bool → Option R) (rec0 : LI → LI → Int → Option R) (w1 : LI → LI → Int → Int → Option R) (s0 : LI) (s1 : LI) (s2 : Int) : Option R :=
  bif (decide (s2 < (s0.length : Int))) then
    w1 s0 s1 s2 (0 : Int)
  else k0_e0
def f45.s0 {R : Type} (L N : Nat) (k0_e0 : Option R) (k0_r : Bool → Option R) (rec0 : LI → LI → Int → Option R) (s0 : LI) (s1 : LI) (s2 : Int) : Option R :=
  f45.s0' L N k0_e0 k0_r rec0 (fun s3 s4 s5 s6 => f45.l1 L N (fun z7 z8 z9 => f45.p1_e2 L N k0_e0 k0_r rec0 z7 z8 z9) (fun z15 z16 z17 z18 => f45.p1_r L N k0_e0 k0_r rec0 z15 z16 z17 z18) L s3 s4 s5 s6) s0 s1 s2
def f45.l0 {R : Type} (L N : Nat) (k0_e0 : Option R) (k0_r : Bool → Option R) : Nat → LI → LI → Int → Option R
  | 0, _, _, _ => none
  | n + 1, s0, s1, s2 => f45.s0 L N k0_e0 k0_r (f45.l0 L N k0_e0 k0_r n) s0 s1 s2
def f45.T0 (s0 : LI) (s1 : LI) (s2 : Int) : T := mkT 43 [(0, (.tv (.sl i64) s0)), (1, (.tv (.sl i64) s1)), (5, (.tv i64 s2))]
def f45.H0 (s0 : LI) (s1 : LI) (s2 : Int) : H := []
def f45.T0_e0 : T := mkT 43 []
def f45.H0_e0 : H := []
def f45.T0_r (z23 : Bool) : T := mkT 43 [(4, (.tv .bool z23))]
def f45.H0_r (z23 : Bool) : H := []
def f45.p0_e0' {R : Type} (L N : Nat) (k : Bool → Option R) : Option R :=
  k true
def f45.p0_e0 {R : Type} (L N : Nat) (k : Bool → Option R) : Option R :=
  f45.p0_e0' L N k
def f45.p0_r' {R : Type} (L N : Nat) (k : Bool → Option R) (z23 : Bool) : Option R :=
  k z23
def f45.p0_r {R : Type} (L N : Nat) (k : Bool → Option R) (z23 : Bool) : Option R :=
  f45.p0_r' L N k z23
def f45.b' {R : Type} (L N : Nat) (k : Bool → Option R) (w0 : LI → LI → Int → Option R) (x0 : LI) (x1 : LI) : Option R :=
  bif ((x0.length : Int) != (x1.length : Int)) then
    k false
  else w0 x0 x1 (0 : Int)
def f45.b {R : Type} (L N : Nat) (k : Bool → Option R) (x0 : LI) (x1 : LI) : Option R :=
  f45.b' L N k (fun s0 s1 s2 => f45.l0 L N (f45.p0_e0 L N k) (fun z23 => f45.p0_r L N k z23) L s0 s1 s2) x0 x1
def f45 (L N : Nat) (x0 : LI) (x1 : LI) : Option (Bool) := f45.b L N some x0 x1
def f45.ent (L N : Nat) := entRo [(.sl i64), (.sl i64)] (.one .bool) fun d => f45 L N d.1 d.2.1
noncomputable def E45 (L N : Nat) : Env := { P := Try.prog, ty := tyOf, Φ := (Φ44 L N), inl := inlT, live := lives, liveX := livesX, L := L, dp := none, prom := promT, heal := healT, ren := renT }
noncomputable def f45.c0 : Code := loopAt 0 (codeOf Try.f45)
noncomputable def f45.c1 : Code := loopAt 2 f45.c0
def f45.X1_e2 {R : Type} (κ : KX R) := fun z7 z8 z9 => κ (.exit 2) (f45.T1_e2 z7 z8 z9) (f45.H1_e2 z7 z8 z9)
def f45.X1_r {R : Type} (κ : KX R) := fun z15 z16 z17 z18 => κ .ret (f45.T1_r z15 z16 z17 z18) (f45.H1_r z15 z16 z17 z18)
def f45.R1 {R : Type} (rec : KT R) := fun s3 s4 s5 s6 => rec (f45.T1 s3 s4 s5 s6) (f45.H1 s3 s4 s5 s6)
theorem f45.s1_eq {R : Type} (L N : Nat) (κ : KX R) (rec : KT R) (s3 : LI) (s4 : LI) (s5 : Int) (s6 : Int) :
    evRd (E45 L N) (evCallI (E45 L N) 1 2000) 1000 45 43 2 f45.c1 κ rec (f45.T1 s3 s4 s5 s6) (f45.H1 s3 s4 s5 s6)
    = f45.s1 L N (f45.X1_e2 κ) (f45.X1_r κ) (f45.R1 rec) s3 s4 s5 s6 := by kernel_rfl
theorem f45.l1_eq {R : Type} (L N : Nat) (κ : KX R) : ∀ (n : Nat) (s3 : LI) (s4 : LI) (s5 : Int) (s6 : Int),
    evLp (E45 L N) (evCallI (E45 L N) 1 2000) 1000 45 43 2 f45.c1 κ n (f45.T1 s3 s4 s5 s6) (f45.H1 s3 s4 s5 s6)
    = f45.l1 L N (f45.X1_e2 κ) (f45.X1_r κ) n s3 s4 s5 s6 := by
  intro n
  induction n with
  | zero => intros; rfl
  | succ n ih =>
    intro s3 s4 s5 s6
    rw [evLp_succ, f45.s1_eq]
    delta f45.R1
    simp only [ih]
    rfl
def f45.X0_e0 {R : Type} (κ : KX R) := κ (.exit 0) f45.T0_e0 f45.H0_e0
def f45.X0_r {R : Type} (κ : KX R) := fun z23 => κ .ret (f45.T0_r z23) (f45.H0_r z23)
def f45.R0 {R : Type} (rec : KT R) := fun s0 s1 s2 => rec (f45.T0 s0 s1 s2) (f45.H0 s0 s1 s2)
theorem f45.p1_e2_eq {R : Type} (L N : Nat) (κ : KX R) (rec : KT R) (z7 : LI) (z8 : LI) (z9 : Int) :
    (contAt (E45 L N) (evCallI (E45 L N) 1 2000) 1000 45 43 2 f45.c0 (rdK (E45 L N) 1000 45 43 0 κ rec)) (.exit 2) (f45.T1_e2 z7 z8 z9) (f45.H1_e2 z7 z8 z9)
    = f45.p1_e2 L N (f45.X0_e0 κ) (f45.X0_r κ) (f45.R0 rec) z7 z8 z9 := by kernel_rfl
theorem f45.p1_r_eq {R : Type} (L N : Nat) (κ : KX R) (rec : KT R) (z15 : LI) (z16 : LI) (z17 : Bool) (z18 : Int) :
    (contAt (E45 L N) (evCallI (E45 L N) 1 2000) 1000 45 43 2 f45.c0 (rdK (E45 L N) 1000 45 43 0 κ rec)) .ret (f45.T1_r z15 z16 z17 z18) (f45.H1_r z15 z16 z17 z18)
    = f45.p1_r L N (f45.X0_e0 κ) (f45.X0_r κ) (f45.R0 rec) z15 z16 z17 z18 := by kernel_rfl
theorem f45.s0_eq {R : Type} (L N : Nat) (κ : KX R) (rec : KT R) (s0 : LI) (s1 : LI) (s2 : Int) :
    evRd (E45 L N) (evCallI (E45 L N) 1 2000) 1000 45 43 0 f45.c0 κ rec (f45.T0 s0 s1 s2) (f45.H0 s0 s1 s2)
    = f45.s0 L N (f45.X0_e0 κ) (f45.X0_r κ) (f45.R0 rec) s0 s1 s2 := by
  refine Eq.trans (b := f45.s0' L N (f45.X0_e0 κ) (f45.X0_r κ) (f45.R0 rec) (fun s3 s4 s5 s6 => evLp (E45 L N) (evCallI (E45 L N) 1 2000) 1000 45 43 2 f45.c1 (contAt (E45 L N) (evCallI (E45 L N) 1 2000) 1000 45 43 2 f45.c0 (rdK (E45 L N) 1000 45 43 0 κ rec)) L (f45.T1 s3 s4 s5 s6) (f45.H1 s3 s4 s5 s6)) s0 s1 s2) (by kernel_rfl) ?_
  unfold f45.s0
  simp only [f45.l1_eq]
  delta f45.X1_e2 f45.X1_r
  simp only [f45.p1_e2_eq, f45.p1_r_eq]
theorem f45.l0_eq {R : Type} (L N : Nat) (κ : KX R) : ∀ (n : Nat) (s0 : LI) (s1 : LI) (s2 : Int),
    evLp (E45 L N) (evCallI (E45 L N) 1 2000) 1000 45 43 0 f45.c0 κ n (f45.T0 s0 s1 s2) (f45.H0 s0 s1 s2)
    = f45.l0 L N (f45.X0_e0 κ) (f45.X0_r κ) n s0 s1 s2 := by
  intro n
  induction n with
  | zero => intros; rfl
  | succ n ih =>
    intro s0 s1 s2
    rw [evLp_succ, f45.s0_eq]
    delta f45.R0
    simp only [ih]
    rfl
theorem f45.p0_e0_eq {R : Type} (L N : Nat) (κ : AV → Option R) :
    (contAt (E45 L N) (evCallI (E45 L N) 1 2000) 1000 45 43 0 (codeOf Try.f45) (finK (E45 L N) 1000 Try.f45 (finC (.one .bool) κ))) (.exit 0) f45.T0_e0 f45.H0_e0
    = f45.p0_e0 L N (fun a0 => κ (.tv .bool a0)) := by kernel_rfl
theorem f45.p0_r_eq {R : Type} (L N : Nat) (κ : AV → Option R) (z23 : Bool) :
    (contAt (E45 L N) (evCallI (E45 L N) 1 2000) 1000 45 43 0 (codeOf Try.f45) (finK (E45 L N) 1000 Try.f45 (finC (.one .bool) κ))) .ret (f45.T0_r z23) (f45.H0_r z23)
    = f45.p0_r L N (fun a0 => κ (.tv .bool a0)) z23 := by kernel_rfl
theorem f45.b_eq {R : Type} (L N : Nat) (κ : AV → Option R) (x0 : LI) (x1 : LI) :
    evBody (E45 L N) (evCallI (E45 L N) 1 2000) 1000 45 Try.f45 [(.tv (.sl i64) x0), (.tv (.sl i64) x1)] [] [] (finC (.one .bool) κ)
    = f45.b L N (fun a0 => κ (.tv .bool a0)) x0 x1 := by
  refine Eq.trans (b := f45.b' L N (fun a0 => κ (.tv .bool a0)) (fun s0 s1 s2 => evLp (E45 L N) (evCallI (E45 L N) 1 2000) 1000 45 43 0 f45.c0 (contAt (E45 L N) (evCallI (E45 L N) 1 2000) 1000 45 43 0 (codeOf Try.f45) (finK (E45 L N) 1000 Try.f45 (finC (.one .bool) κ))) L (f45.T0 s0 s1 s2) (f45.H0 s0 s1 s2)) x0 x1) (by kernel_rfl) ?_
  unfold f45.b
  simp only [f45.l0_eq]
  delta f45.X0_e0 f45.X0_r
  simp only [f45.p0_e0_eq, f45.p0_r_eq]
theorem f45.ok (L N : Nat) (hΦ : TellsOk Try.prog ((Φ44 L N))) : EntOk Try.prog 45 (f45.ent L N) := entRo_ok (E := (E45 L N)) (dep := 1000) (f := Try.f45) (sound_of hΦ) okP (callI_sound (sound_of hΦ) okP 1 2000) rfl rfl fun d _ hy => (f45.b_eq L N (unR (.one .bool)) d.1 d.2.1).trans (Eq.trans (b := f45.b L N some d.1 d.2.1) (by kernel_rfl) hy)
def Φ45 (L N : Nat) : Tells := (addT (Φ44 L N) 45 (f45.ent L N))
theorem Φ45_ok (L N : Nat) : TellsOk Try.prog (Φ45 L N) := addT_ok (Φ44_ok L N) (f45.ok L N (Φ44_ok L N))
def f9.s1' {R : Type} (L N : Nat) (k1_e2 : Bool → Int → LLM → LI → LI → Option R) (rec1 : Bool → Int → Int → LLM → LI → LI → Option R) (s13 : Bool) (s14 : Int) (s15 : Int) (s16 : LLM) (s17 : LI) (s18 : LI) : Option R :=
  bif (decide (0 ≤ s14) && decide (s14 < (s16.length : Int))) then
    bif (decide (s15 < ((listAt s16 [] s14.toNat).length : Int))) then
      bif s13 then
        rec1 true s14 (wi (s15 + (1 : Int))) s16 s17 s18
      else bif (decide (0 ≤ s14) && decide (s14 < (s16.length : Int))) then
        bif (decide (0 ≤ s15) && decide (s15 < ((listAt s16 [] s14.toNat).length : Int))) then
          rec1 ((listAt (listAt s16 [] s14.toNat) (Ty.dflt (.st 0)) s15.toNat).act == (0 : Int)) s14 (wi (s15 + (1 : Int))) s16 s17 s18
        else none
      else none
    else k1_e2 s13 s14 s16 s17 s18
  else none
def f9.s1 {R : Type} (L N : Nat) (k1_e2 : Bool → Int → LLM → LI → LI → Option R) (rec1 : Bool → Int → Int → LLM → LI → LI → Option R) (s13 : Bool) (s14 : Int) (s15 : Int) (s16 : LLM) (s17 : LI) (s18 : LI) : Option R :=
  f9.s1' L N k1_e2 rec1 s13 s14 s15 s16 s17 s18
def f9.l1 {R : Type} (L N : Nat) (k1_e2 : Bool → Int → LLM → LI → LI → Option R) : Nat → Bool → Int → Int → LLM → LI → LI → Option R
  | 0, _, _, _, _, _, _ => none
  | n + 1, s13, s14, s15, s16, s17, s18 => f9.s1 L N k1_e2 (f9.l1 L N k1_e2 n) s13 s14 s15 s16 s17 s18
def f9.T1 (s13 : Bool) (s14 : Int) (s15 : Int) (s16 : LLM) (s17 : LI) (s18 : LI) : T := mkT 66 [(3, (.ptr 1003 0)), (4, (.row 1016)), (6, (.row 1024)), (7, (.tv .bool s13)), (8, (.tv i64 s14)), (9, (.tv i64 s15))]
def f9.H1 (s13 : Bool) (s14 : Int) (s15 : Int) (s16 : LLM) (s17 : LI) (s18 : LI) : H := [(1003, (.box [(.tv (.sl (.sl (.st 0))) s16)])), (1016, (.row 3 i64 s17)), (1024, (.row 3 i64 s18))]
def f9.T1_e2 (z19 : Bool) (z20 : Int) (z21 : LLM) (z22 : LI) (z23 : LI) : T := mkT 66 [(3, (.ptr 1003 0)), (4, (.row 1016)), (6, (.row 1024)), (7, (.tv .bool z19)), (8, (.tv i64 z20))]
def f9.H1_e2 (z19 : Bool) (z20 : Int) (z21 : LLM) (z22 : LI) (z23 : LI) : H := [(1003, (.box [(.tv (.sl (.sl (.st 0))) z21)])), (1016, (.row 3 i64 z22)), (1024, (.row 3 i64 z23))]
def f9.p1_e2' {R : Type} (L N : Nat) (k0_e0 : Bool → LI → LI → Option R) (rec0 : Bool → Int → LLM → LI → LI → Option R) (z19 : Bool) (z20 : Int) (z21 : LLM) (z22 : LI) (z23 : LI) : Option R :=
  rec0 z19 (wi (z20 + (1 : Int))) z21 z22 z23
def f9.p1_e2 {R : Type} (L N : Nat) (k0_e0 : Bool → LI → LI → Option R) (rec0 : Bool → Int → LLM → LI → LI → Option R) (z19 : Bool) (z20 : Int) (z21 : LLM) (z22 : LI) (z23 : LI) : Option R :=
  f9.p1_e2' L N k0_e0 rec0 z19 z20 z21 z22 z23
def f9.s0' {R : Type} (L N : Nat) (k0_e0 : Bool → LI → LI → Option R) (rec0 : Bool → Int → LLM → LI → LI → Option R) (w1 : Bool → Int → Int → LLM → LI → LI → Option R) (s5 : Bool) (s6 : Int) (s7 : LLM) (s8 : LI) (s9 : LI) : Option R :=
  bif (decide (s6 < (s7.length : Int))) then
    w1 s5 s6 (0 : Int) s7 s8 s9
  else k0_e0 s5 s8 s9
def f9.s0 {R : Type} (L N : Nat) (k0_e0 : Bool → LI → LI → Option R) (rec0 : Bool → Int → LLM → LI → LI → Option R) (s5 : Bool) (s6 : Int) (s7 : LLM) (s8 : LI) (s9 : LI) : Option R :=
  f9.s0' L N k0_e0 rec0 (fun s13 s14 s15 s16 s17 s18 => f9.l1 L N (fun z19 z20 z21 z22 z23 => f9.p1_e2 L N k0_e0 rec0 z19 z20 z21 z22 z23) L s13 s14 s15 s16 s17 s18) s5 s6 s7 s8 s9
def f9.l0 {R : Type} (L N : Nat) (k0_e0 : Bool → LI → LI → Option R) : Nat → Bool → Int → LLM → LI → LI → Option R
  | 0, _, _, _, _, _ => none
  | n + 1, s5, s6, s7, s8, s9 => f9.s0 L N k0_e0 (f9.l0 L N k0_e0 n) s5 s6 s7 s8 s9
def f9.T0 (s5 : Bool) (s6 : Int) (s7 : LLM) (s8 : LI) (s9 : LI) : T := mkT 66 [(3, (.ptr 1003 0)), (4, (.row 1016)), (6, (.row 1024)), (7, (.tv .bool s5)), (8, (.tv i64 s6))]
def f9.H0 (s5 : Bool) (s6 : Int) (s7 : LLM) (s8 : LI) (s9 : LI) : H := [(1003, (.box [(.tv (.sl (.sl (.st 0))) s7)])), (1016, (.row 3 i64 s8)), (1024, (.row 3 i64 s9))]
def f9.T0_e0 (z10 : Bool) (z11 : LI) (z12 : LI) : T := mkT 66 [(4, (.row 1016)), (6, (.row 1024)), (7, (.tv .bool z10))]
def f9.H0_e0 (z10 : Bool) (z11 : LI) (z12 : LI) : H := [(1016, (.row 3 i64 z11)), (1024, (.row 3 i64 z12))]
def f9.p0_e0' {R : Type} (L N : Nat) (k : Bool → Option R) (z10 : Bool) (z11 : LI) (z12 : LI) : Option R :=
  (f45 L N z12 z11).bind fun y30 =>
  bif y30 then
    bif z10 then
      k true
    else (f31 L N z12 z11).bind fun y31 =>
    k y31
  else k false
def f9.p0_e0 {R : Type} (L N : Nat) (k : Bool → Option R) (z10 : Bool) (z11 : LI) (z12 : LI) : Option R :=
  f9.p0_e0' L N k z10 z11 z12
def f9.b' {R : Type} (L N : Nat) (k : Bool → Option R) (w0 : Bool → Int → LLM → LI → LI → Option R) (x0 : LI) : Option R :=
  bif (decide ((x0.length : Int) > (1048576 : Int))) then
    k true
  else (f43 L N x0).bind fun y0 =>
  (f41 L N (Graph.mk y0.moves)).bind fun y1 =>
  (f40 L N (Graph.mk y0.moves)).bind fun y2 =>
  (f31 L N y1 y2).bind fun y3 =>
  bif (!y3) then
    k false
  else (f44 L N (Graph.mk y0.moves)).bind fun y4 =>
  w0 false (0 : Int) y0.moves y1 y4
def f9.b {R : Type} (L N : Nat) (k : Bool → Option R) (x0 : LI) : Option R :=
  f9.b' L N k (fun s5 s6 s7 s8 s9 => f9.l0 L N (fun z10 z11 z12 => f9.p0_e0 L N k z10 z11 z12) L s5 s6 s7 s8 s9) x0
def f9 (L N : Nat) (x0 : LI) : Option (Bool) := f9.b L N some x0
def f9.ent (L N : Nat) := entRo [(.sl (.int .u8))] (.one .bool) fun d => f9 L N d.1
noncomputable def E9 (L N : Nat) : Env := { P := Try.prog, ty := tyOf, Φ := (Φ45 L N), inl := inlT, live := lives, liveX := livesX, L := L, dp := none, prom := promT, heal := healT, ren := renT }
noncomputable def f9.c0 : Code := loopAt 0 (codeOf Try.f9)
noncomputable def f9.c1 : Code := loopAt 2 f9.c0
def f9.X1_e2 {R : Type} (κ : KX R) := fun z19 z20 z21 z22 z23 => κ (.exit 2) (f9.T1_e2 z19 z20 z21 z22 z23) (f9.H1_e2 z19 z20 z21 z22 z23)
def f9.R1 {R : Type} (rec : KT R) := fun s13 s14 s15 s16 s17 s18 => rec (f9.T1 s13 s14 s15 s16 s17 s18) (f9.H1 s13 s14 s15 s16 s17 s18)
theorem f9.s1_eq {R : Type} (L N : Nat) (κ : KX R) (rec : KT R) (s13 : Bool) (s14 : Int) (s15 : Int) (s16 : LLM) (s17 : LI) (s18 : LI) :
    evRd (E9 L N) (evCallI (E9 L N) 1 2000) 1000 9 66 2 f9.c1 κ rec (f9.T1 s13 s14 s15 s16 s17 s18) (f9.H1 s13 s14 s15 s16 s17 s18)
    = f9.s1 L N (f9.X1_e2 κ) (f9.R1 rec) s13 s14 s15 s16 s17 s18 := by kernel_rfl
theorem f9.l1_eq {R : Type} (L N : Nat) (κ : KX R) : ∀ (n : Nat) (s13 : Bool) (s14 : Int) (s15 : Int) (s16 : LLM) (s17 : LI) (s18 : LI),
    evLp (E9 L N) (evCallI (E9 L N) 1 2000) 1000 9 66 2 f9.c1 κ n (f9.T1 s13 s14 s15 s16 s17 s18) (f9.H1 s13 s14 s15 s16 s17 s18)
    = f9.l1 L N (f9.X1_e2 κ) n s13 s14 s15 s16 s17 s18 := by
  intro n
  induction n with
  | zero => intros; rfl
  | succ n ih =>
    intro s13 s14 s15 s16 s17 s18
    rw [evLp_succ, f9.s1_eq]
    delta f9.R1
    simp only [ih]
    rfl
def f9.X0_e0 {R : Type} (κ : KX R) := fun z10 z11 z12 => κ (.exit 0) (f9.T0_e0 z10 z11 z12) (f9.H0_e0 z10 z11 z12)
def f9.R0 {R : Type} (rec : KT R) := fun s5 s6 s7 s8 s9 => rec (f9.T0 s5 s6 s7 s8 s9) (f9.H0 s5 s6 s7 s8 s9)
theorem f9.p1_e2_eq {R : Type} (L N : Nat) (κ : KX R) (rec : KT R) (z19 : Bool) (z20 : Int) (z21 : LLM) (z22 : LI) (z23 : LI) :
    (contAt (E9 L N) (evCallI (E9 L N) 1 2000) 1000 9 66 2 f9.c0 (rdK (E9 L N) 1000 9 66 0 κ rec)) (.exit 2) (f9.T1_e2 z19 z20 z21 z22 z23) (f9.H1_e2 z19 z20 z21 z22 z23)
    = f9.p1_e2 L N (f9.X0_e0 κ) (f9.R0 rec) z19 z20 z21 z22 z23 := by kernel_rfl
theorem f9.s0_eq {R : Type} (L N : Nat) (κ : KX R) (rec : KT R) (s5 : Bool) (s6 : Int) (s7 : LLM) (s8 : LI) (s9 : LI) :
    evRd (E9 L N) (evCallI (E9 L N) 1 2000) 1000 9 66 0 f9.c0 κ rec (f9.T0 s5 s6 s7 s8 s9) (f9.H0 s5 s6 s7 s8 s9)
    = f9.s0 L N (f9.X0_e0 κ) (f9.R0 rec) s5 s6 s7 s8 s9 := by
  refine Eq.trans (b := f9.s0' L N (f9.X0_e0 κ) (f9.R0 rec) (fun s13 s14 s15 s16 s17 s18 => evLp (E9 L N) (evCallI (E9 L N) 1 2000) 1000 9 66 2 f9.c1 (contAt (E9 L N) (evCallI (E9 L N) 1 2000) 1000 9 66 2 f9.c0 (rdK (E9 L N) 1000 9 66 0 κ rec)) L (f9.T1 s13 s14 s15 s16 s17 s18) (f9.H1 s13 s14 s15 s16 s17 s18)) s5 s6 s7 s8 s9) (by kernel_rfl) ?_
  unfold f9.s0
  simp only [f9.l1_eq]
  delta f9.X1_e2
  simp only [f9.p1_e2_eq]
theorem f9.l0_eq {R : Type} (L N : Nat) (κ : KX R) : ∀ (n : Nat) (s5 : Bool) (s6 : Int) (s7 : LLM) (s8 : LI) (s9 : LI),
    evLp (E9 L N) (evCallI (E9 L N) 1 2000) 1000 9 66 0 f9.c0 κ n (f9.T0 s5 s6 s7 s8 s9) (f9.H0 s5 s6 s7 s8 s9)
    = f9.l0 L N (f9.X0_e0 κ) n s5 s6 s7 s8 s9 := by
  intro n
  induction n with
  | zero => intros; rfl
  | succ n ih =>
    intro s5 s6 s7 s8 s9
    rw [evLp_succ, f9.s0_eq]
    delta f9.R0
    simp only [ih]
    rfl
theorem f9.p0_e0_eq {R : Type} (L N : Nat) (κ : AV → Option R) (z10 : Bool) (z11 : LI) (z12 : LI) :
    (contAt (E9 L N) (evCallI (E9 L N) 1 2000) 1000 9 66 0 (codeOf Try.f9) (finK (E9 L N) 1000 Try.f9 (finC (.one .bool) κ))) (.exit 0) (f9.T0_e0 z10 z11 z12) (f9.H0_e0 z10 z11 z12)
    = f9.p0_e0 L N (fun a0 => κ (.tv .bool a0)) z10 z11 z12 := by kernel_rfl
theorem f9.b_eq {R : Type} (L N : Nat) (κ : AV → Option R) (x0 : LI) :
    evBody (E9 L N) (evCallI (E9 L N) 1 2000) 1000 9 Try.f9 [(.tv (.sl (.int .u8)) x0)] [] [] (finC (.one .bool) κ)
    = f9.b L N (fun a0 => κ (.tv .bool a0)) x0 := by
  refine Eq.trans (b := f9.b' L N (fun a0 => κ (.tv .bool a0)) (fun s5 s6 s7 s8 s9 => evLp (E9 L N) (evCallI (E9 L N) 1 2000) 1000 9 66 0 f9.c0 (contAt (E9 L N) (evCallI (E9 L N) 1 2000) 1000 9 66 0 (codeOf Try.f9) (finK (E9 L N) 1000 Try.f9 (finC (.one .bool) κ))) L (f9.T0 s5 s6 s7 s8 s9) (f9.H0 s5 s6 s7 s8 s9)) x0) (by kernel_rfl) ?_
  unfold f9.b
  simp only [f9.l0_eq]
  delta f9.X0_e0
  simp only [f9.p0_e0_eq]
theorem f9.ok (L N : Nat) (hΦ : TellsOk Try.prog ((Φ45 L N))) : EntOk Try.prog 9 (f9.ent L N) := entRo_ok (E := (E9 L N)) (dep := 1000) (f := Try.f9) (sound_of hΦ) okP (callI_sound (sound_of hΦ) okP 1 2000) rfl rfl fun d _ hy => (f9.b_eq L N (unR (.one .bool)) d.1).trans (Eq.trans (b := f9.b L N some d.1) (by kernel_rfl) hy)
def Φ9 (L N : Nat) : Tells := (addT (Φ45 L N) 9 (f9.ent L N))
theorem Φ9_ok (L N : Nat) : TellsOk Try.prog (Φ9 L N) := addT_ok (Φ45_ok L N) (f9.ok L N (Φ45_ok L N))
end Go.Proofs.Ytdfjdbpklbehoaa.Ev
