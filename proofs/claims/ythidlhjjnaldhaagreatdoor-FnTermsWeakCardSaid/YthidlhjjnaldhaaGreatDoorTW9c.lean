/- The seat's functions as plain functions, continued: made by program (wip/gen/gen.py). -/
import Derived.Test.YthidlhjjnaldhaaGreatDoorTW9b
namespace Go.Proofs.YthidlhjjnaldhaaGreatDoor.Ev
open Go
set_option linter.unusedVariables false
set_option maxRecDepth 20000
def f45.s2' {R:Type} (L N:Nat) (k2_e4:Bool->LLB->Int->Int->LLM->LM->LLM->Option R) (rec2:Bool->LLB->Int->Int->Int->LLM->LM->LLM->Option R) (w3:Bool->LLB->Int->Int->Int->Int->LLM->Int->Int->LM->LLM->Option R) (s27:Bool) (s28:LLB) (s29:Int) (s30:Int) (s31:Int) (s32:LLM) (s33:LM) (s34:LLM):Option R:=
 bif (decide (0≤s30)&&decide (s30<(s32.length:Int))) then
  bif (decide (s31<((listAt s32 [] s30.toNat).length:Int))) then
   bif (decide (0≤s30)&&decide (s30<(s32.length:Int))) then
    bif (decide (0≤s31)&&decide (s31<((listAt s32 [] s30.toNat).length:Int))) then
     w3 s27 s28 s29 s30 s31 (0:Int) s32 ((listAt (listAt s32 [] s30.toNat) (Ty.dflt (.st 0)) s31.toNat).act) ((listAt (listAt s32 [] s30.toNat) (Ty.dflt (.st 0)) s31.toNat).to) s33 s34
    else none
   else none
  else k2_e4 s27 s28 s29 s30 s32 s33 s34
 else none
def f45.s2 {R:Type} (L N:Nat) (k2_e4:Bool->LLB->Int->Int->LLM->LM->LLM->Option R) (rec2:Bool->LLB->Int->Int->Int->LLM->LM->LLM->Option R) (s27:Bool) (s28:LLB) (s29:Int) (s30:Int) (s31:Int) (s32:LLM) (s33:LM) (s34:LLM):Option R:=
 f45.s2' L N k2_e4 rec2 (fun s42 s43 s44 s45 s46 s47 s48 s49 s50 s51 s52=>f45.l3 L N (fun z53 z54 z55 z56 z57 z58 z59 z60=>f45.p3_e6 L N k2_e4 rec2 z53 z54 z55 z56 z57 z58 z59 z60) L s42 s43 s44 s45 s46 s47 s48 s49 s50 s51 s52) s27 s28 s29 s30 s31 s32 s33 s34
def f45.l2 {R:Type} (L N:Nat) (k2_e4:Bool->LLB->Int->Int->LLM->LM->LLM->Option R):Nat->Bool->LLB->Int->Int->Int->LLM->LM->LLM->Option R
 |0,_,_,_,_,_,_,_,_=>none
 |n+1,s27,s28,s29,s30,s31,s32,s33,s34=>f45.s2 L N k2_e4 (f45.l2 L N k2_e4 n) s27 s28 s29 s30 s31 s32 s33 s34
def f45.T2 (s27:Bool) (s28:LLB) (s29:Int) (s30:Int) (s31:Int) (s32:LLM) (s33:LM) (s34:LLM):T:=mkT 94 [(1,(.tv .bool s27)),(2,(.ptr 1002 0)),(4,(.ptr 1004 0)),(5,(.tv (.sl (.sl .bool)) s28)),(6,(.ptr 1006 0)),(7,(.tv i64 s29)),(8,(.row 1023)),(9,(.tv i64 s30)),(10,(.tv i64 s31))]
def f45.H2 (s27:Bool) (s28:LLB) (s29:Int) (s30:Int) (s31:Int) (s32:LLM) (s33:LM) (s34:LLM):H:=[(1002,(.box [(.tv (.sl (.sl (.st 0))) s32)])),(1004,(.box [.nil])),(1006,(.box [(.row 1900)])),(1023,(.row 63 (.st 0) s33)),(1900,(.row 61 (.sl (.st 0)) s34))]
def f45.T2_e4 (z35:Bool) (z36:LLB) (z37:Int) (z38:Int) (z39:LLM) (z40:LM) (z41:LLM):T:=mkT 94 [(1,(.tv .bool z35)),(2,(.ptr 1002 0)),(4,(.ptr 1004 0)),(5,(.tv (.sl (.sl .bool)) z36)),(6,(.ptr 1006 0)),(7,(.tv i64 z37)),(8,(.row 1023)),(9,(.tv i64 z38))]
def f45.H2_e4 (z35:Bool) (z36:LLB) (z37:Int) (z38:Int) (z39:LLM) (z40:LM) (z41:LLM):H:=[(1002,(.box [(.tv (.sl (.sl (.st 0))) z39)])),(1004,(.box [.nil])),(1006,(.box [(.row 1900)])),(1023,(.row 63 (.st 0) z40)),(1900,(.row 61 (.sl (.st 0)) z41))]
def f45.p2_e4' {R:Type} (L N:Nat) (k1_e2:Bool->LLB->Int->LLM->LM->LLM->Option R) (rec1:Bool->LLB->Int->Int->LLM->LM->LLM->Option R) (z35:Bool) (z36:LLB) (z37:Int) (z38:Int) (z39:LLM) (z40:LM) (z41:LLM):Option R:=
 rec1 z35 z36 z37 (wi (z38+(1:Int))) z39 z40 z41
def f45.p2_e4 {R:Type} (L N:Nat) (k1_e2:Bool->LLB->Int->LLM->LM->LLM->Option R) (rec1:Bool->LLB->Int->Int->LLM->LM->LLM->Option R) (z35:Bool) (z36:LLB) (z37:Int) (z38:Int) (z39:LLM) (z40:LM) (z41:LLM):Option R:=
 f45.p2_e4' L N k1_e2 rec1 z35 z36 z37 z38 z39 z40 z41
def f45.j0' {R:Type} (L N:Nat) (k1_e2:Bool->LLB->Int->LLM->LM->LLM->Option R) (rec1:Bool->LLB->Int->Int->LLM->LM->LLM->Option R) (w2:Bool->LLB->Int->Int->Int->LLM->LM->LLM->Option R) (v20:Bool) (v21:LLB) (v22:Int) (v23:Int) (v24:LLM) (v25:LM) (v26:LLM):Option R:=
 w2 v20 v21 v22 v23 (0:Int) v24 v25 v26
def f45.s1' {R:Type} (L N:Nat) (k1_e2:Bool->LLB->Int->LLM->LM->LLM->Option R) (rec1:Bool->LLB->Int->Int->LLM->LM->LLM->Option R) (w2:Bool->LLB->Int->Int->Int->LLM->LM->LLM->Option R) (s7:Bool) (s8:LLB) (s9:Int) (s10:Int) (s11:LLM) (s12:LM) (s13:LLM):Option R:=
 bif (decide (s10<(s11.length:Int))) then
  bif (decide (0≤s9)&&decide (s9<(s8.length:Int))) then
   bif (decide (0≤s10)&&decide (s10<((listAt s8 [] s9.toNat).length:Int))) then
    bif (!(listAt (listAt s8 [] s9.toNat) false s10.toNat)) then
     rec1 s7 s8 s9 (wi (s10+(1:Int))) s11 s12 s13
    else bif (!s7) then
     bif (decide (s12.length+([(Move.mk (0:Int) s10)]:LM).length≤lim)) then
      f45.j0' L N k1_e2 rec1 w2 s7 s8 s9 s10 s11 (s12++([(Move.mk (0:Int) s10)]:LM)) s13
     else none
    else f45.j0' L N k1_e2 rec1 w2 s7 s8 s9 s10 s11 s12 s13
   else none
  else none
 else k1_e2 s7 s8 s9 s11 s12 s13
def f45.s1 {R:Type} (L N:Nat) (k1_e2:Bool->LLB->Int->LLM->LM->LLM->Option R) (rec1:Bool->LLB->Int->Int->LLM->LM->LLM->Option R) (s7:Bool) (s8:LLB) (s9:Int) (s10:Int) (s11:LLM) (s12:LM) (s13:LLM):Option R:=
 f45.s1' L N k1_e2 rec1 (fun s27 s28 s29 s30 s31 s32 s33 s34=>f45.l2 L N (fun z35 z36 z37 z38 z39 z40 z41=>f45.p2_e4 L N k1_e2 rec1 z35 z36 z37 z38 z39 z40 z41) L s27 s28 s29 s30 s31 s32 s33 s34) s7 s8 s9 s10 s11 s12 s13
def f45.l1 {R:Type} (L N:Nat) (k1_e2:Bool->LLB->Int->LLM->LM->LLM->Option R):Nat->Bool->LLB->Int->Int->LLM->LM->LLM->Option R
 |0,_,_,_,_,_,_,_=>none
 |n+1,s7,s8,s9,s10,s11,s12,s13=>f45.s1 L N k1_e2 (f45.l1 L N k1_e2 n) s7 s8 s9 s10 s11 s12 s13
def f45.T1 (s7:Bool) (s8:LLB) (s9:Int) (s10:Int) (s11:LLM) (s12:LM) (s13:LLM):T:=mkT 94 [(1,(.tv .bool s7)),(2,(.ptr 1002 0)),(4,(.ptr 1004 0)),(5,(.tv (.sl (.sl .bool)) s8)),(6,(.ptr 1006 0)),(7,(.tv i64 s9)),(8,(.row 1023)),(9,(.tv i64 s10))]
def f45.H1 (s7:Bool) (s8:LLB) (s9:Int) (s10:Int) (s11:LLM) (s12:LM) (s13:LLM):H:=[(1002,(.box [(.tv (.sl (.sl (.st 0))) s11)])),(1004,(.box [.nil])),(1006,(.box [(.row 1900)])),(1023,(.row 63 (.st 0) s12)),(1900,(.row 61 (.sl (.st 0)) s13))]
def f45.T1_e2 (z14:Bool) (z15:LLB) (z16:Int) (z17:LLM) (z18:LM) (z19:LLM):T:=mkT 94 [(1,(.tv .bool z14)),(2,(.ptr 1002 0)),(4,(.ptr 1004 0)),(5,(.tv (.sl (.sl .bool)) z15)),(6,(.ptr 1006 0)),(7,(.tv i64 z16)),(8,(.row 1023))]
def f45.H1_e2 (z14:Bool) (z15:LLB) (z16:Int) (z17:LLM) (z18:LM) (z19:LLM):H:=[(1002,(.box [(.tv (.sl (.sl (.st 0))) z17)])),(1004,(.box [.nil])),(1006,(.box [(.row 1900)])),(1023,(.row 63 (.st 0) z18)),(1900,(.row 61 (.sl (.st 0)) z19))]
def f45.p1_e2' {R:Type} (L N:Nat) (k0_e0:LLM->Option R) (rec0:Bool->LLB->Int->LLM->LLM->Option R) (z14:Bool) (z15:LLB) (z16:Int) (z17:LLM) (z18:LM) (z19:LLM):Option R:=
 (f78 L N z18).bind fun y79=>
 bif (decide (z19.length+([y79]:LLM).length≤lim)) then
  rec0 z14 z15 (wi (z16+(1:Int))) z17 (z19++([y79]:LLM))
 else none
def f45.p1_e2 {R:Type} (L N:Nat) (k0_e0:LLM->Option R) (rec0:Bool->LLB->Int->LLM->LLM->Option R) (z14:Bool) (z15:LLB) (z16:Int) (z17:LLM) (z18:LM) (z19:LLM):Option R:=
 f45.p1_e2' L N k0_e0 rec0 z14 z15 z16 z17 z18 z19
def f45.s0' {R:Type} (L N:Nat) (k0_e0:LLM->Option R) (rec0:Bool->LLB->Int->LLM->LLM->Option R) (w1:Bool->LLB->Int->Int->LLM->LM->LLM->Option R) (s1:Bool) (s2:LLB) (s3:Int) (s4:LLM) (s5:LLM):Option R:=
 bif (decide (s3<(s4.length:Int))) then
  w1 s1 s2 s3 (0:Int) s4 ([]:LM) s5
 else k0_e0 s5
def f45.s0 {R:Type} (L N:Nat) (k0_e0:LLM->Option R) (rec0:Bool->LLB->Int->LLM->LLM->Option R) (s1:Bool) (s2:LLB) (s3:Int) (s4:LLM) (s5:LLM):Option R:=
 f45.s0' L N k0_e0 rec0 (fun s7 s8 s9 s10 s11 s12 s13=>f45.l1 L N (fun z14 z15 z16 z17 z18 z19=>f45.p1_e2 L N k0_e0 rec0 z14 z15 z16 z17 z18 z19) L s7 s8 s9 s10 s11 s12 s13) s1 s2 s3 s4 s5
def f45.l0 {R:Type} (L N:Nat) (k0_e0:LLM->Option R):Nat->Bool->LLB->Int->LLM->LLM->Option R
 |0,_,_,_,_,_=>none
 |n+1,s1,s2,s3,s4,s5=>f45.s0 L N k0_e0 (f45.l0 L N k0_e0 n) s1 s2 s3 s4 s5
def f45.T0 (s1:Bool) (s2:LLB) (s3:Int) (s4:LLM) (s5:LLM):T:=mkT 94 [(1,(.tv .bool s1)),(2,(.ptr 1002 0)),(4,(.ptr 1004 0)),(5,(.tv (.sl (.sl .bool)) s2)),(6,(.ptr 1006 0)),(7,(.tv i64 s3))]
def f45.H0 (s1:Bool) (s2:LLB) (s3:Int) (s4:LLM) (s5:LLM):H:=[(1002,(.box [(.tv (.sl (.sl (.st 0))) s4)])),(1004,(.box [.nil])),(1006,(.box [(.row 1900)])),(1900,(.row 61 (.sl (.st 0)) s5))]
def f45.T0_e0 (z6:LLM):T:=mkT 94 [(4,(.ptr 1004 0)),(6,(.ptr 1006 0))]
def f45.H0_e0 (z6:LLM):H:=[(1004,(.box [.nil])),(1006,(.box [(.row 1900)])),(1900,(.row 61 (.sl (.st 0)) z6))]
def f45.p0_e0' {R:Type} (L N:Nat) (k:Graph->Option R) (z6:LLM):Option R:=
 k (Graph.mk z6)
def f45.p0_e0 {R:Type} (L N:Nat) (k:Graph->Option R) (z6:LLM):Option R:=
 f45.p0_e0' L N k z6
def f45.b' {R:Type} (L N:Nat) (k:Graph->Option R) (w0:Bool->LLB->Int->LLM->LLM->Option R) (x0:Graph) (x1:Bool):Option R:=
 (f77 L N (Graph.mk x0.moves)).bind fun y0=>
 w0 x1 y0 (0:Int) x0.moves ([]:LLM)
def f45.b {R:Type} (L N:Nat) (k:Graph->Option R) (x0:Graph) (x1:Bool):Option R:=
 f45.b' L N k (fun s1 s2 s3 s4 s5=>f45.l0 L N (fun z6=>f45.p0_e0 L N k z6) L s1 s2 s3 s4 s5) x0 x1
def f45 (L N:Nat) (x0:Graph) (x1:Bool):Option (Graph):=f45.b L N some x0 x1
def f45.ent (L N:Nat):=entDa [(.st 2),.bool] (.one (.st 2)) fun d=>f45 L N d.1 d.2.1
noncomputable def E45 (L N:Nat):Env:={P:=Tryz.prog,ty:=tyOf,Φ:=(Φ77 L N),inl:=inlT,live:=lives,liveX:=livesX,L:=L,dp:=none,prom:=promT,heal:=healT,ren:=renT}
noncomputable def f45.c0:Code:=loopAt 0 (codeOf Tryz.f45)
noncomputable def f45.c1:Code:=loopAt 2 f45.c0
noncomputable def f45.c2:Code:=loopAt 4 f45.c1
noncomputable def f45.c3:Code:=loopAt 6 f45.c2
def f45.X3_e6 {R:Type} (κ:KX R):=fun z53 z54 z55 z56 z57 z58 z59 z60=>κ (.exit 6) (f45.T3_e6 z53 z54 z55 z56 z57 z58 z59 z60) (f45.H3_e6 z53 z54 z55 z56 z57 z58 z59 z60)
def f45.R3 {R:Type} (rec:KT R):=fun s42 s43 s44 s45 s46 s47 s48 s49 s50 s51 s52=>rec (f45.T3 s42 s43 s44 s45 s46 s47 s48 s49 s50 s51 s52) (f45.H3 s42 s43 s44 s45 s46 s47 s48 s49 s50 s51 s52)
theorem f45.s3_eq {R:Type} (L N:Nat) (κ:KX R) (rec:KT R) (s42:Bool) (s43:LLB) (s44:Int) (s45:Int) (s46:Int) (s47:Int) (s48:LLM) (s49:Int) (s50:Int) (s51:LM) (s52:LLM):
  evRd (E45 L N) (evCallI (E45 L N) 0 1000) 1000 45 94 6 f45.c3 κ rec (f45.T3 s42 s43 s44 s45 s46 s47 s48 s49 s50 s51 s52) (f45.H3 s42 s43 s44 s45 s46 s47 s48 s49 s50 s51 s52)
  =f45.s3 L N (f45.X3_e6 κ) (f45.R3 rec) s42 s43 s44 s45 s46 s47 s48 s49 s50 s51 s52:=by kernel_rfl
theorem f45.l3_eq {R:Type} (L N:Nat) (κ:KX R):∀(n:Nat) (s42:Bool) (s43:LLB) (s44:Int) (s45:Int) (s46:Int) (s47:Int) (s48:LLM) (s49:Int) (s50:Int) (s51:LM) (s52:LLM),
  evLp (E45 L N) (evCallI (E45 L N) 0 1000) 1000 45 94 6 f45.c3 κ n (f45.T3 s42 s43 s44 s45 s46 s47 s48 s49 s50 s51 s52) (f45.H3 s42 s43 s44 s45 s46 s47 s48 s49 s50 s51 s52)
  =f45.l3 L N (f45.X3_e6 κ) n s42 s43 s44 s45 s46 s47 s48 s49 s50 s51 s52:=by
 intro n
 induction n with
 |zero=>intros;rfl
 |succ n ih=>
  intro s42 s43 s44 s45 s46 s47 s48 s49 s50 s51 s52
  rw [evLp_succ,f45.s3_eq]
  delta f45.R3
  simp only [ih]
  rfl
def f45.X2_e4 {R:Type} (κ:KX R):=fun z35 z36 z37 z38 z39 z40 z41=>κ (.exit 4) (f45.T2_e4 z35 z36 z37 z38 z39 z40 z41) (f45.H2_e4 z35 z36 z37 z38 z39 z40 z41)
def f45.R2 {R:Type} (rec:KT R):=fun s27 s28 s29 s30 s31 s32 s33 s34=>rec (f45.T2 s27 s28 s29 s30 s31 s32 s33 s34) (f45.H2 s27 s28 s29 s30 s31 s32 s33 s34)
theorem f45.p3_e6_eq {R:Type} (L N:Nat) (κ:KX R) (rec:KT R) (z53:Bool) (z54:LLB) (z55:Int) (z56:Int) (z57:Int) (z58:LLM) (z59:LM) (z60:LLM):
  (contAt (E45 L N) (evCallI (E45 L N) 0 1000) 1000 45 94 6 f45.c2 (rdK (E45 L N) 1000 45 94 4 κ rec)) (.exit 6) (f45.T3_e6 z53 z54 z55 z56 z57 z58 z59 z60) (f45.H3_e6 z53 z54 z55 z56 z57 z58 z59 z60)
  =f45.p3_e6 L N (f45.X2_e4 κ) (f45.R2 rec) z53 z54 z55 z56 z57 z58 z59 z60:=by kernel_rfl
theorem f45.s2_eq {R:Type} (L N:Nat) (κ:KX R) (rec:KT R) (s27:Bool) (s28:LLB) (s29:Int) (s30:Int) (s31:Int) (s32:LLM) (s33:LM) (s34:LLM):
  evRd (E45 L N) (evCallI (E45 L N) 0 1000) 1000 45 94 4 f45.c2 κ rec (f45.T2 s27 s28 s29 s30 s31 s32 s33 s34) (f45.H2 s27 s28 s29 s30 s31 s32 s33 s34)
  =f45.s2 L N (f45.X2_e4 κ) (f45.R2 rec) s27 s28 s29 s30 s31 s32 s33 s34:=by
 refine Eq.trans (b:=f45.s2' L N (f45.X2_e4 κ) (f45.R2 rec) (fun s42 s43 s44 s45 s46 s47 s48 s49 s50 s51 s52=>evLp (E45 L N) (evCallI (E45 L N) 0 1000) 1000 45 94 6 f45.c3 (contAt (E45 L N) (evCallI (E45 L N) 0 1000) 1000 45 94 6 f45.c2 (rdK (E45 L N) 1000 45 94 4 κ rec)) L (f45.T3 s42 s43 s44 s45 s46 s47 s48 s49 s50 s51 s52) (f45.H3 s42 s43 s44 s45 s46 s47 s48 s49 s50 s51 s52)) s27 s28 s29 s30 s31 s32 s33 s34) (by kernel_rfl) ?_
 unfold f45.s2
 simp only [f45.l3_eq]
 delta f45.X3_e6
 simp only [f45.p3_e6_eq]
theorem f45.l2_eq {R:Type} (L N:Nat) (κ:KX R):∀(n:Nat) (s27:Bool) (s28:LLB) (s29:Int) (s30:Int) (s31:Int) (s32:LLM) (s33:LM) (s34:LLM),
  evLp (E45 L N) (evCallI (E45 L N) 0 1000) 1000 45 94 4 f45.c2 κ n (f45.T2 s27 s28 s29 s30 s31 s32 s33 s34) (f45.H2 s27 s28 s29 s30 s31 s32 s33 s34)
  =f45.l2 L N (f45.X2_e4 κ) n s27 s28 s29 s30 s31 s32 s33 s34:=by
 intro n
 induction n with
 |zero=>intros;rfl
 |succ n ih=>
  intro s27 s28 s29 s30 s31 s32 s33 s34
  rw [evLp_succ,f45.s2_eq]
  delta f45.R2
  simp only [ih]
  rfl
def f45.X1_e2 {R:Type} (κ:KX R):=fun z14 z15 z16 z17 z18 z19=>κ (.exit 2) (f45.T1_e2 z14 z15 z16 z17 z18 z19) (f45.H1_e2 z14 z15 z16 z17 z18 z19)
def f45.R1 {R:Type} (rec:KT R):=fun s7 s8 s9 s10 s11 s12 s13=>rec (f45.T1 s7 s8 s9 s10 s11 s12 s13) (f45.H1 s7 s8 s9 s10 s11 s12 s13)
theorem f45.p2_e4_eq {R:Type} (L N:Nat) (κ:KX R) (rec:KT R) (z35:Bool) (z36:LLB) (z37:Int) (z38:Int) (z39:LLM) (z40:LM) (z41:LLM):
  (contAt (E45 L N) (evCallI (E45 L N) 0 1000) 1000 45 94 4 f45.c1 (rdK (E45 L N) 1000 45 94 2 κ rec)) (.exit 4) (f45.T2_e4 z35 z36 z37 z38 z39 z40 z41) (f45.H2_e4 z35 z36 z37 z38 z39 z40 z41)
  =f45.p2_e4 L N (f45.X1_e2 κ) (f45.R1 rec) z35 z36 z37 z38 z39 z40 z41:=by kernel_rfl
theorem f45.s1_eq {R:Type} (L N:Nat) (κ:KX R) (rec:KT R) (s7:Bool) (s8:LLB) (s9:Int) (s10:Int) (s11:LLM) (s12:LM) (s13:LLM):
  evRd (E45 L N) (evCallI (E45 L N) 0 1000) 1000 45 94 2 f45.c1 κ rec (f45.T1 s7 s8 s9 s10 s11 s12 s13) (f45.H1 s7 s8 s9 s10 s11 s12 s13)
  =f45.s1 L N (f45.X1_e2 κ) (f45.R1 rec) s7 s8 s9 s10 s11 s12 s13:=by
 refine Eq.trans (b:=f45.s1' L N (f45.X1_e2 κ) (f45.R1 rec) (fun s27 s28 s29 s30 s31 s32 s33 s34=>evLp (E45 L N) (evCallI (E45 L N) 0 1000) 1000 45 94 4 f45.c2 (contAt (E45 L N) (evCallI (E45 L N) 0 1000) 1000 45 94 4 f45.c1 (rdK (E45 L N) 1000 45 94 2 κ rec)) L (f45.T2 s27 s28 s29 s30 s31 s32 s33 s34) (f45.H2 s27 s28 s29 s30 s31 s32 s33 s34)) s7 s8 s9 s10 s11 s12 s13) (by kernel_rfl) ?_
 unfold f45.s1
 simp only [f45.l2_eq]
 delta f45.X2_e4
 simp only [f45.p2_e4_eq]
theorem f45.l1_eq {R:Type} (L N:Nat) (κ:KX R):∀(n:Nat) (s7:Bool) (s8:LLB) (s9:Int) (s10:Int) (s11:LLM) (s12:LM) (s13:LLM),
  evLp (E45 L N) (evCallI (E45 L N) 0 1000) 1000 45 94 2 f45.c1 κ n (f45.T1 s7 s8 s9 s10 s11 s12 s13) (f45.H1 s7 s8 s9 s10 s11 s12 s13)
  =f45.l1 L N (f45.X1_e2 κ) n s7 s8 s9 s10 s11 s12 s13:=by
 intro n
 induction n with
 |zero=>intros;rfl
 |succ n ih=>
  intro s7 s8 s9 s10 s11 s12 s13
  rw [evLp_succ,f45.s1_eq]
  delta f45.R1
  simp only [ih]
  rfl
def f45.X0_e0 {R:Type} (κ:KX R):=fun z6=>κ (.exit 0) (f45.T0_e0 z6) (f45.H0_e0 z6)
def f45.R0 {R:Type} (rec:KT R):=fun s1 s2 s3 s4 s5=>rec (f45.T0 s1 s2 s3 s4 s5) (f45.H0 s1 s2 s3 s4 s5)
theorem f45.p1_e2_eq {R:Type} (L N:Nat) (κ:KX R) (rec:KT R) (z14:Bool) (z15:LLB) (z16:Int) (z17:LLM) (z18:LM) (z19:LLM):
  (contAt (E45 L N) (evCallI (E45 L N) 0 1000) 1000 45 94 2 f45.c0 (rdK (E45 L N) 1000 45 94 0 κ rec)) (.exit 2) (f45.T1_e2 z14 z15 z16 z17 z18 z19) (f45.H1_e2 z14 z15 z16 z17 z18 z19)
  =f45.p1_e2 L N (f45.X0_e0 κ) (f45.R0 rec) z14 z15 z16 z17 z18 z19:=by kernel_rfl
theorem f45.s0_eq {R:Type} (L N:Nat) (κ:KX R) (rec:KT R) (s1:Bool) (s2:LLB) (s3:Int) (s4:LLM) (s5:LLM):
  evRd (E45 L N) (evCallI (E45 L N) 0 1000) 1000 45 94 0 f45.c0 κ rec (f45.T0 s1 s2 s3 s4 s5) (f45.H0 s1 s2 s3 s4 s5)
  =f45.s0 L N (f45.X0_e0 κ) (f45.R0 rec) s1 s2 s3 s4 s5:=by
 refine Eq.trans (b:=f45.s0' L N (f45.X0_e0 κ) (f45.R0 rec) (fun s7 s8 s9 s10 s11 s12 s13=>evLp (E45 L N) (evCallI (E45 L N) 0 1000) 1000 45 94 2 f45.c1 (contAt (E45 L N) (evCallI (E45 L N) 0 1000) 1000 45 94 2 f45.c0 (rdK (E45 L N) 1000 45 94 0 κ rec)) L (f45.T1 s7 s8 s9 s10 s11 s12 s13) (f45.H1 s7 s8 s9 s10 s11 s12 s13)) s1 s2 s3 s4 s5) (by kernel_rfl) ?_
 unfold f45.s0
 simp only [f45.l1_eq]
 delta f45.X1_e2
 simp only [f45.p1_e2_eq]
theorem f45.l0_eq {R:Type} (L N:Nat) (κ:KX R):∀(n:Nat) (s1:Bool) (s2:LLB) (s3:Int) (s4:LLM) (s5:LLM),
  evLp (E45 L N) (evCallI (E45 L N) 0 1000) 1000 45 94 0 f45.c0 κ n (f45.T0 s1 s2 s3 s4 s5) (f45.H0 s1 s2 s3 s4 s5)
  =f45.l0 L N (f45.X0_e0 κ) n s1 s2 s3 s4 s5:=by
 intro n
 induction n with
 |zero=>intros;rfl
 |succ n ih=>
  intro s1 s2 s3 s4 s5
  rw [evLp_succ,f45.s0_eq]
  delta f45.R0
  simp only [ih]
  rfl
theorem f45.p0_e0_eq {R:Type} (L N:Nat) (κ:AV->Option R) (z6:LLM):
  (contAt (E45 L N) (evCallI (E45 L N) 0 1000) 1000 45 94 0 (codeOf Tryz.f45) (finK (E45 L N) 1000 Tryz.f45 (finC (.one (.st 2)) κ))) (.exit 0) (f45.T0_e0 z6) (f45.H0_e0 z6)
  =f45.p0_e0 L N (fun a0=>κ (.tv (.st 2) a0)) z6:=by kernel_rfl
theorem f45.b_eq {R:Type} (L N:Nat) (κ:AV->Option R) (x0:Graph) (x1:Bool):
  evBody (E45 L N) (evCallI (E45 L N) 0 1000) 1000 45 Tryz.f45 [(.tv (.st 2) x0),(.tv .bool x1)] [] [] (finC (.one (.st 2)) κ)
  =f45.b L N (fun a0=>κ (.tv (.st 2) a0)) x0 x1:=by
 refine Eq.trans (b:=f45.b' L N (fun a0=>κ (.tv (.st 2) a0)) (fun s1 s2 s3 s4 s5=>evLp (E45 L N) (evCallI (E45 L N) 0 1000) 1000 45 94 0 f45.c0 (contAt (E45 L N) (evCallI (E45 L N) 0 1000) 1000 45 94 0 (codeOf Tryz.f45) (finK (E45 L N) 1000 Tryz.f45 (finC (.one (.st 2)) κ))) L (f45.T0 s1 s2 s3 s4 s5) (f45.H0 s1 s2 s3 s4 s5)) x0 x1) (by kernel_rfl) ?_
 unfold f45.b
 simp only [f45.l0_eq]
 delta f45.X0_e0
 simp only [f45.p0_e0_eq]
theorem f45.ok (L N:Nat) (hΦ:TellsOk Tryz.prog ((Φ77 L N))):EntOk Tryz.prog 45 (f45.ent L N):=entDa_ok (E:=(E45 L N)) (dep:=1000) (f:=Tryz.f45) (sound_of hΦ) okP (callI_sound (sound_of hΦ) okP 0 1000) rfl fun d _ hy=>(f45.b_eq L N (unR (.one (.st 2))) d.1 d.2.1).trans (Eq.trans (b:=f45.b L N some d.1 d.2.1) (by kernel_rfl) hy)
def Φ45 (L N:Nat):Tells:=(addT (Φ77 L N) 45 (f45.ent L N))
theorem Φ45_ok (L N:Nat):TellsOk Tryz.prog (Φ45 L N):=addT_ok (Φ77_ok L N) (f45.ok L N (Φ77_ok L N))
def f79.s0' {R:Type} (L N:Nat) (k0_e0:Option R) (k0_r:Bool->Option R) (rec0:Int->Int->LI->Int->Int->LLM->Option R) (s0:Int) (s1:Int) (s2:LI) (s3:Int) (s4:Int) (s5:LLM):Option R:=
 bif (decide (0≤s0)&&decide (s0<(s5.length:Int))) then
  bif (decide (s4<((listAt s5 [] s0.toNat).length:Int))) then
   bif (decide (0≤s0)&&decide (s0<(s5.length:Int))) then
    bif (decide (0≤s4)&&decide (s4<((listAt s5 [] s0.toNat).length:Int))) then
     bif ((listAt (listAt s5 [] s0.toNat) (Ty.dflt (.st 0)) s4.toNat).act==s1) then
      bif (decide (0≤(listAt (listAt s5 [] s0.toNat) (Ty.dflt (.st 0)) s4.toNat).to)&&decide ((listAt (listAt s5 [] s0.toNat) (Ty.dflt (.st 0)) s4.toNat).to<(s2.length:Int))) then
       bif ((listAt s2 (0:Int) ((listAt (listAt s5 [] s0.toNat) (Ty.dflt (.st 0)) s4.toNat).to).toNat)==s3) then
        k0_r true
       else rec0 s0 s1 s2 s3 (wi (s4+(1:Int))) s5
      else none
     else rec0 s0 s1 s2 s3 (wi (s4+(1:Int))) s5
    else none
   else none
  else k0_e0
 else none
def f79.s0 {R:Type} (L N:Nat) (k0_e0:Option R) (k0_r:Bool->Option R) (rec0:Int->Int->LI->Int->Int->LLM->Option R) (s0:Int) (s1:Int) (s2:LI) (s3:Int) (s4:Int) (s5:LLM):Option R:=
 f79.s0' L N k0_e0 k0_r rec0 s0 s1 s2 s3 s4 s5
def f79.l0 {R:Type} (L N:Nat) (k0_e0:Option R) (k0_r:Bool->Option R):Nat->Int->Int->LI->Int->Int->LLM->Option R
 |0,_,_,_,_,_,_=>none
 |n+1,s0,s1,s2,s3,s4,s5=>f79.s0 L N k0_e0 k0_r (f79.l0 L N k0_e0 k0_r n) s0 s1 s2 s3 s4 s5
def f79.T0 (s0:Int) (s1:Int) (s2:LI) (s3:Int) (s4:Int) (s5:LLM):T:=mkT 44 [(1,(.tv i64 s0)),(2,(.tv i64 s1)),(3,(.tv (.sl i64) s2)),(4,(.tv i64 s3)),(5,(.ptr 1005 0)),(11,(.tv i64 s4))]
def f79.H0 (s0:Int) (s1:Int) (s2:LI) (s3:Int) (s4:Int) (s5:LLM):H:=[(1005,(.box [(.tv (.sl (.sl (.st 0))) s5)]))]
def f79.T0_e0:T:=mkT 44 []
def f79.H0_e0:H:=[]
def f79.T0_r (z13:Bool):T:=mkT 44 [(10,(.tv .bool z13))]
def f79.H0_r (z13:Bool):H:=[]
def f79.p0_e0' {R:Type} (L N:Nat) (k:Bool->Option R):Option R:=
 k false
def f79.p0_e0 {R:Type} (L N:Nat) (k:Bool->Option R):Option R:=
 f79.p0_e0' L N k
def f79.p0_r' {R:Type} (L N:Nat) (k:Bool->Option R) (z13:Bool):Option R:=
 k z13
def f79.p0_r {R:Type} (L N:Nat) (k:Bool->Option R) (z13:Bool):Option R:=
 f79.p0_r' L N k z13
def f79.b' {R:Type} (L N:Nat) (k:Bool->Option R) (w0:Int->Int->LI->Int->Int->LLM->Option R) (x0:Graph) (x1:Int) (x2:Int) (x3:LI) (x4:Int):Option R:=
 w0 x1 x2 x3 x4 (0:Int) x0.moves
def f79.b {R:Type} (L N:Nat) (k:Bool->Option R) (x0:Graph) (x1:Int) (x2:Int) (x3:LI) (x4:Int):Option R:=
 f79.b' L N k (fun s0 s1 s2 s3 s4 s5=>f79.l0 L N (f79.p0_e0 L N k) (fun z13=>f79.p0_r L N k z13) L s0 s1 s2 s3 s4 s5) x0 x1 x2 x3 x4
def f79 (L N:Nat) (x0:Graph) (x1:Int) (x2:Int) (x3:LI) (x4:Int):Option (Bool):=f79.b L N some x0 x1 x2 x3 x4
def f79.ent (L N:Nat):=entRo [(.st 2),i64,i64,(.sl i64),i64] (.one .bool) fun d=>f79 L N d.1 d.2.1 d.2.2.1 d.2.2.2.1 d.2.2.2.2.1
noncomputable def E79 (L N:Nat):Env:={P:=Tryz.prog,ty:=tyOf,Φ:=(Φ45 L N),inl:=inlT,live:=lives,liveX:=livesX,L:=L,dp:=none,prom:=promT,heal:=healT,ren:=renT}
noncomputable def f79.c0:Code:=loopAt 0 (codeOf Tryz.f79)
def f79.X0_e0 {R:Type} (κ:KX R):=κ (.exit 0) f79.T0_e0 f79.H0_e0
def f79.X0_r {R:Type} (κ:KX R):=fun z13=>κ .ret (f79.T0_r z13) (f79.H0_r z13)
def f79.R0 {R:Type} (rec:KT R):=fun s0 s1 s2 s3 s4 s5=>rec (f79.T0 s0 s1 s2 s3 s4 s5) (f79.H0 s0 s1 s2 s3 s4 s5)
theorem f79.s0_eq {R:Type} (L N:Nat) (κ:KX R) (rec:KT R) (s0:Int) (s1:Int) (s2:LI) (s3:Int) (s4:Int) (s5:LLM):
  evRd (E79 L N) (evCallI (E79 L N) 0 1000) 1000 79 44 0 f79.c0 κ rec (f79.T0 s0 s1 s2 s3 s4 s5) (f79.H0 s0 s1 s2 s3 s4 s5)
  =f79.s0 L N (f79.X0_e0 κ) (f79.X0_r κ) (f79.R0 rec) s0 s1 s2 s3 s4 s5:=by kernel_rfl
theorem f79.l0_eq {R:Type} (L N:Nat) (κ:KX R):∀(n:Nat) (s0:Int) (s1:Int) (s2:LI) (s3:Int) (s4:Int) (s5:LLM),
  evLp (E79 L N) (evCallI (E79 L N) 0 1000) 1000 79 44 0 f79.c0 κ n (f79.T0 s0 s1 s2 s3 s4 s5) (f79.H0 s0 s1 s2 s3 s4 s5)
  =f79.l0 L N (f79.X0_e0 κ) (f79.X0_r κ) n s0 s1 s2 s3 s4 s5:=by
 intro n
 induction n with
 |zero=>intros;rfl
 |succ n ih=>
  intro s0 s1 s2 s3 s4 s5
  rw [evLp_succ,f79.s0_eq]
  delta f79.R0
  simp only [ih]
  rfl
theorem f79.p0_e0_eq {R:Type} (L N:Nat) (κ:AV->Option R):
  (contAt (E79 L N) (evCallI (E79 L N) 0 1000) 1000 79 44 0 (codeOf Tryz.f79) (finK (E79 L N) 1000 Tryz.f79 (finC (.one .bool) κ))) (.exit 0) f79.T0_e0 f79.H0_e0
  =f79.p0_e0 L N (fun a0=>κ (.tv .bool a0)):=by kernel_rfl
theorem f79.p0_r_eq {R:Type} (L N:Nat) (κ:AV->Option R) (z13:Bool):
  (contAt (E79 L N) (evCallI (E79 L N) 0 1000) 1000 79 44 0 (codeOf Tryz.f79) (finK (E79 L N) 1000 Tryz.f79 (finC (.one .bool) κ))) .ret (f79.T0_r z13) (f79.H0_r z13)
  =f79.p0_r L N (fun a0=>κ (.tv .bool a0)) z13:=by kernel_rfl
theorem f79.b_eq {R:Type} (L N:Nat) (κ:AV->Option R) (x0:Graph) (x1:Int) (x2:Int) (x3:LI) (x4:Int):
  evBody (E79 L N) (evCallI (E79 L N) 0 1000) 1000 79 Tryz.f79 [(.tv (.st 2) x0),(.tv i64 x1),(.tv i64 x2),(.tv (.sl i64) x3),(.tv i64 x4)] [] [] (finC (.one .bool) κ)
  =f79.b L N (fun a0=>κ (.tv .bool a0)) x0 x1 x2 x3 x4:=by
 refine Eq.trans (b:=f79.b' L N (fun a0=>κ (.tv .bool a0)) (fun s0 s1 s2 s3 s4 s5=>evLp (E79 L N) (evCallI (E79 L N) 0 1000) 1000 79 44 0 f79.c0 (contAt (E79 L N) (evCallI (E79 L N) 0 1000) 1000 79 44 0 (codeOf Tryz.f79) (finK (E79 L N) 1000 Tryz.f79 (finC (.one .bool) κ))) L (f79.T0 s0 s1 s2 s3 s4 s5) (f79.H0 s0 s1 s2 s3 s4 s5)) x0 x1 x2 x3 x4) (by kernel_rfl) ?_
 unfold f79.b
 simp only [f79.l0_eq]
 delta f79.X0_e0 f79.X0_r
 simp only [f79.p0_e0_eq,f79.p0_r_eq]
theorem f79.ok (L N:Nat) (hΦ:TellsOk Tryz.prog ((Φ45 L N))):EntOk Tryz.prog 79 (f79.ent L N):=entRo_ok (E:=(E79 L N)) (dep:=1000) (f:=Tryz.f79) (sound_of hΦ) okP (callI_sound (sound_of hΦ) okP 0 1000) rfl rfl fun d _ hy=>(f79.b_eq L N (unR (.one .bool)) d.1 d.2.1 d.2.2.1 d.2.2.2.1 d.2.2.2.2.1).trans (Eq.trans (b:=f79.b L N some d.1 d.2.1 d.2.2.1 d.2.2.2.1 d.2.2.2.2.1) (by kernel_rfl) hy)
def Φ79 (L N:Nat):Tells:=(addT (Φ45 L N) 79 (f79.ent L N))
theorem Φ79_ok (L N:Nat):TellsOk Tryz.prog (Φ79 L N):=addT_ok (Φ45_ok L N) (f79.ok L N (Φ45_ok L N))
def f191.s0' {R:Type} (L N:Nat) (k0_e0:Option R) (k0_r:Bool->Option R) (rec0:Int->Int->LI->Int->LLM->Option R) (s0:Int) (s1:Int) (s2:LI) (s3:Int) (s4:LLM):Option R:=
 bif (decide (0≤s0)&&decide (s0<(s4.length:Int))) then
  bif (decide (s3<((listAt s4 [] s0.toNat).length:Int))) then
   bif (decide (0≤s0)&&decide (s0<(s4.length:Int))) then
    bif (decide (0≤s3)&&decide (s3<((listAt s4 [] s0.toNat).length:Int))) then
     bif (decide (0≤(listAt (listAt s4 [] s0.toNat) (Ty.dflt (.st 0)) s3.toNat).to)&&decide ((listAt (listAt s4 [] s0.toNat) (Ty.dflt (.st 0)) s3.toNat).to<(s2.length:Int))) then
      (f79 L N (Graph.mk s4) s1 ((listAt (listAt s4 [] s0.toNat) (Ty.dflt (.st 0)) s3.toNat).act) s2 (listAt s2 (0:Int) ((listAt (listAt s4 [] s0.toNat) (Ty.dflt (.st 0)) s3.toNat).to).toNat)).bind fun y5=>
      bif (!y5) then
       k0_r false
      else rec0 s0 s1 s2 (wi (s3+(1:Int))) s4
     else none
    else none
   else none
  else k0_e0
 else none
def f191.s0 {R:Type} (L N:Nat) (k0_e0:Option R) (k0_r:Bool->Option R) (rec0:Int->Int->LI->Int->LLM->Option R) (s0:Int) (s1:Int) (s2:LI) (s3:Int) (s4:LLM):Option R:=
 f191.s0' L N k0_e0 k0_r rec0 s0 s1 s2 s3 s4
def f191.l0 {R:Type} (L N:Nat) (k0_e0:Option R) (k0_r:Bool->Option R):Nat->Int->Int->LI->Int->LLM->Option R
 |0,_,_,_,_,_=>none
 |n+1,s0,s1,s2,s3,s4=>f191.s0 L N k0_e0 k0_r (f191.l0 L N k0_e0 k0_r n) s0 s1 s2 s3 s4
def f191.T0 (s0:Int) (s1:Int) (s2:LI) (s3:Int) (s4:LLM):T:=mkT 41 [(1,(.tv i64 s0)),(2,(.tv i64 s1)),(3,(.tv (.sl i64) s2)),(4,(.ptr 1004 0)),(9,(.tv i64 s3))]
def f191.H0 (s0:Int) (s1:Int) (s2:LI) (s3:Int) (s4:LLM):H:=[(1004,(.box [(.tv (.sl (.sl (.st 0))) s4)]))]
def f191.T0_e0:T:=mkT 41 []
def f191.H0_e0:H:=[]
def f191.T0_r (z6:Bool):T:=mkT 41 [(8,(.tv .bool z6))]
def f191.H0_r (z6:Bool):H:=[]
def f191.p0_e0' {R:Type} (L N:Nat) (k:Bool->Option R):Option R:=
 k true
def f191.p0_e0 {R:Type} (L N:Nat) (k:Bool->Option R):Option R:=
 f191.p0_e0' L N k
def f191.p0_r' {R:Type} (L N:Nat) (k:Bool->Option R) (z6:Bool):Option R:=
 k z6
def f191.p0_r {R:Type} (L N:Nat) (k:Bool->Option R) (z6:Bool):Option R:=
 f191.p0_r' L N k z6
def f191.b' {R:Type} (L N:Nat) (k:Bool->Option R) (w0:Int->Int->LI->Int->LLM->Option R) (x0:Graph) (x1:Int) (x2:Int) (x3:LI):Option R:=
 w0 x1 x2 x3 (0:Int) x0.moves
def f191.b {R:Type} (L N:Nat) (k:Bool->Option R) (x0:Graph) (x1:Int) (x2:Int) (x3:LI):Option R:=
 f191.b' L N k (fun s0 s1 s2 s3 s4=>f191.l0 L N (f191.p0_e0 L N k) (fun z6=>f191.p0_r L N k z6) L s0 s1 s2 s3 s4) x0 x1 x2 x3
def f191 (L N:Nat) (x0:Graph) (x1:Int) (x2:Int) (x3:LI):Option (Bool):=f191.b L N some x0 x1 x2 x3
def f191.ent (L N:Nat):=entRo [(.st 2),i64,i64,(.sl i64)] (.one .bool) fun d=>f191 L N d.1 d.2.1 d.2.2.1 d.2.2.2.1
noncomputable def E191 (L N:Nat):Env:={P:=Tryz.prog,ty:=tyOf,Φ:=(Φ79 L N),inl:=inlT,live:=lives,liveX:=livesX,L:=L,dp:=none,prom:=promT,heal:=healT,ren:=renT}
noncomputable def f191.c0:Code:=loopAt 0 (codeOf Tryz.f191)
def f191.X0_e0 {R:Type} (κ:KX R):=κ (.exit 0) f191.T0_e0 f191.H0_e0
def f191.X0_r {R:Type} (κ:KX R):=fun z6=>κ .ret (f191.T0_r z6) (f191.H0_r z6)
def f191.R0 {R:Type} (rec:KT R):=fun s0 s1 s2 s3 s4=>rec (f191.T0 s0 s1 s2 s3 s4) (f191.H0 s0 s1 s2 s3 s4)
theorem f191.s0_eq {R:Type} (L N:Nat) (κ:KX R) (rec:KT R) (s0:Int) (s1:Int) (s2:LI) (s3:Int) (s4:LLM):
  evRd (E191 L N) (evCallI (E191 L N) 0 1000) 1000 191 41 0 f191.c0 κ rec (f191.T0 s0 s1 s2 s3 s4) (f191.H0 s0 s1 s2 s3 s4)
  =f191.s0 L N (f191.X0_e0 κ) (f191.X0_r κ) (f191.R0 rec) s0 s1 s2 s3 s4:=by kernel_rfl
theorem f191.l0_eq {R:Type} (L N:Nat) (κ:KX R):∀(n:Nat) (s0:Int) (s1:Int) (s2:LI) (s3:Int) (s4:LLM),
  evLp (E191 L N) (evCallI (E191 L N) 0 1000) 1000 191 41 0 f191.c0 κ n (f191.T0 s0 s1 s2 s3 s4) (f191.H0 s0 s1 s2 s3 s4)
  =f191.l0 L N (f191.X0_e0 κ) (f191.X0_r κ) n s0 s1 s2 s3 s4:=by
 intro n
 induction n with
 |zero=>intros;rfl
 |succ n ih=>
  intro s0 s1 s2 s3 s4
  rw [evLp_succ,f191.s0_eq]
  delta f191.R0
  simp only [ih]
  rfl
theorem f191.p0_e0_eq {R:Type} (L N:Nat) (κ:AV->Option R):
  (contAt (E191 L N) (evCallI (E191 L N) 0 1000) 1000 191 41 0 (codeOf Tryz.f191) (finK (E191 L N) 1000 Tryz.f191 (finC (.one .bool) κ))) (.exit 0) f191.T0_e0 f191.H0_e0
  =f191.p0_e0 L N (fun a0=>κ (.tv .bool a0)):=by kernel_rfl
theorem f191.p0_r_eq {R:Type} (L N:Nat) (κ:AV->Option R) (z6:Bool):
  (contAt (E191 L N) (evCallI (E191 L N) 0 1000) 1000 191 41 0 (codeOf Tryz.f191) (finK (E191 L N) 1000 Tryz.f191 (finC (.one .bool) κ))) .ret (f191.T0_r z6) (f191.H0_r z6)
  =f191.p0_r L N (fun a0=>κ (.tv .bool a0)) z6:=by kernel_rfl
theorem f191.b_eq {R:Type} (L N:Nat) (κ:AV->Option R) (x0:Graph) (x1:Int) (x2:Int) (x3:LI):
  evBody (E191 L N) (evCallI (E191 L N) 0 1000) 1000 191 Tryz.f191 [(.tv (.st 2) x0),(.tv i64 x1),(.tv i64 x2),(.tv (.sl i64) x3)] [] [] (finC (.one .bool) κ)
  =f191.b L N (fun a0=>κ (.tv .bool a0)) x0 x1 x2 x3:=by
 refine Eq.trans (b:=f191.b' L N (fun a0=>κ (.tv .bool a0)) (fun s0 s1 s2 s3 s4=>evLp (E191 L N) (evCallI (E191 L N) 0 1000) 1000 191 41 0 f191.c0 (contAt (E191 L N) (evCallI (E191 L N) 0 1000) 1000 191 41 0 (codeOf Tryz.f191) (finK (E191 L N) 1000 Tryz.f191 (finC (.one .bool) κ))) L (f191.T0 s0 s1 s2 s3 s4) (f191.H0 s0 s1 s2 s3 s4)) x0 x1 x2 x3) (by kernel_rfl) ?_
 unfold f191.b
 simp only [f191.l0_eq]
 delta f191.X0_e0 f191.X0_r
 simp only [f191.p0_e0_eq,f191.p0_r_eq]
theorem f191.ok (L N:Nat) (hΦ:TellsOk Tryz.prog ((Φ79 L N))):EntOk Tryz.prog 191 (f191.ent L N):=entRo_ok (E:=(E191 L N)) (dep:=1000) (f:=Tryz.f191) (sound_of hΦ) okP (callI_sound (sound_of hΦ) okP 0 1000) rfl rfl fun d _ hy=>(f191.b_eq L N (unR (.one .bool)) d.1 d.2.1 d.2.2.1 d.2.2.2.1).trans (Eq.trans (b:=f191.b L N some d.1 d.2.1 d.2.2.1 d.2.2.2.1) (by kernel_rfl) hy)
def Φ191 (L N:Nat):Tells:=(addT (Φ79 L N) 191 (f191.ent L N))
theorem Φ191_ok (L N:Nat):TellsOk Tryz.prog (Φ191 L N):=addT_ok (Φ79_ok L N) (f191.ok L N (Φ79_ok L N))
def f160.s1' {R:Type} (L N:Nat) (k1_e2:LI->Int->Int->LLM->LI->Option R) (rec1:LI->Int->Int->Int->LLM->LI->Option R) (s5:LI) (s6:Int) (s7:Int) (s8:Int) (s9:LLM) (s10:LI):Option R:=
 bif (decide (s8≥(0:Int))) then
  bif (decide (0≤s8)&&decide (s8<(s5.length:Int))) then
   bif (decide (0≤s6)&&decide (s6<(s5.length:Int))) then
    bif ((listAt s5 (0:Int) s8.toNat)==(listAt s5 (0:Int) s6.toNat)) then
     (f191 L N (Graph.mk s9) s6 s8 s5).bind fun y16=>
     bif y16 then
      (f191 L N (Graph.mk s9) s8 s6 s5).bind fun y17=>
      bif y17 then
       rec1 s5 s6 s8 (wi (s8-(1:Int))) s9 s10
      else rec1 s5 s6 s7 (wi (s8-(1:Int))) s9 s10
     else rec1 s5 s6 s7 (wi (s8-(1:Int))) s9 s10
    else rec1 s5 s6 s7 (wi (s8-(1:Int))) s9 s10
   else none
  else none
 else k1_e2 s5 s6 s7 s9 s10
def f160.s1 {R:Type} (L N:Nat) (k1_e2:LI->Int->Int->LLM->LI->Option R) (rec1:LI->Int->Int->Int->LLM->LI->Option R) (s5:LI) (s6:Int) (s7:Int) (s8:Int) (s9:LLM) (s10:LI):Option R:=
 f160.s1' L N k1_e2 rec1 s5 s6 s7 s8 s9 s10
def f160.l1 {R:Type} (L N:Nat) (k1_e2:LI->Int->Int->LLM->LI->Option R):Nat->LI->Int->Int->Int->LLM->LI->Option R
 |0,_,_,_,_,_,_=>none
 |n+1,s5,s6,s7,s8,s9,s10=>f160.s1 L N k1_e2 (f160.l1 L N k1_e2 n) s5 s6 s7 s8 s9 s10
def f160.T1 (s5:LI) (s6:Int) (s7:Int) (s8:Int) (s9:LLM) (s10:LI):T:=mkT 52 [(1,(.tv (.sl i64) s5)),(2,(.ptr 1002 0)),(5,(.row 1009)),(6,(.tv i64 s6)),(7,(.tv i64 s7)),(8,(.tv i64 s8))]
def f160.H1 (s5:LI) (s6:Int) (s7:Int) (s8:Int) (s9:LLM) (s10:LI):H:=[(1002,(.box [(.tv (.sl (.sl (.st 0))) s9)])),(1009,(.row 3 i64 s10))]
def f160.T1_e2 (z11:LI) (z12:Int) (z13:Int) (z14:LLM) (z15:LI):T:=mkT 52 [(1,(.tv (.sl i64) z11)),(2,(.ptr 1002 0)),(5,(.row 1009)),(6,(.tv i64 z12)),(7,(.tv i64 z13))]
def f160.H1_e2 (z11:LI) (z12:Int) (z13:Int) (z14:LLM) (z15:LI):H:=[(1002,(.box [(.tv (.sl (.sl (.st 0))) z14)])),(1009,(.row 3 i64 z15))]
def f160.p1_e2' {R:Type} (L N:Nat) (k0_e0:LI->Option R) (rec0:LI->Int->LLM->LI->Option R) (z11:LI) (z12:Int) (z13:Int) (z14:LLM) (z15:LI):Option R:=
 bif (decide (z15.length+([z13]:LI).length≤lim)) then
  rec0 z11 (wi (z12+(1:Int))) z14 (z15++([z13]:LI))
 else none
def f160.p1_e2 {R:Type} (L N:Nat) (k0_e0:LI->Option R) (rec0:LI->Int->LLM->LI->Option R) (z11:LI) (z12:Int) (z13:Int) (z14:LLM) (z15:LI):Option R:=
 f160.p1_e2' L N k0_e0 rec0 z11 z12 z13 z14 z15
def f160.s0' {R:Type} (L N:Nat) (k0_e0:LI->Option R) (rec0:LI->Int->LLM->LI->Option R) (w1:LI->Int->Int->Int->LLM->LI->Option R) (s0:LI) (s1:Int) (s2:LLM) (s3:LI):Option R:=
 bif (decide (s1<(s0.length:Int))) then
  w1 s0 s1 s1 (wi (s1-(1:Int))) s2 s3
 else k0_e0 s3
def f160.s0 {R:Type} (L N:Nat) (k0_e0:LI->Option R) (rec0:LI->Int->LLM->LI->Option R) (s0:LI) (s1:Int) (s2:LLM) (s3:LI):Option R:=
 f160.s0' L N k0_e0 rec0 (fun s5 s6 s7 s8 s9 s10=>f160.l1 L N (fun z11 z12 z13 z14 z15=>f160.p1_e2 L N k0_e0 rec0 z11 z12 z13 z14 z15) L s5 s6 s7 s8 s9 s10) s0 s1 s2 s3
def f160.l0 {R:Type} (L N:Nat) (k0_e0:LI->Option R):Nat->LI->Int->LLM->LI->Option R
 |0,_,_,_,_=>none
 |n+1,s0,s1,s2,s3=>f160.s0 L N k0_e0 (f160.l0 L N k0_e0 n) s0 s1 s2 s3
def f160.T0 (s0:LI) (s1:Int) (s2:LLM) (s3:LI):T:=mkT 52 [(1,(.tv (.sl i64) s0)),(2,(.ptr 1002 0)),(5,(.row 1009)),(6,(.tv i64 s1))]
def f160.H0 (s0:LI) (s1:Int) (s2:LLM) (s3:LI):H:=[(1002,(.box [(.tv (.sl (.sl (.st 0))) s2)])),(1009,(.row 3 i64 s3))]
def f160.T0_e0 (z4:LI):T:=mkT 52 [(5,(.row 1009))]
def f160.H0_e0 (z4:LI):H:=[(1009,(.row 3 i64 z4))]
def f160.p0_e0' {R:Type} (L N:Nat) (k:LI->Option R) (z4:LI):Option R:=
 k z4
def f160.p0_e0 {R:Type} (L N:Nat) (k:LI->Option R) (z4:LI):Option R:=
 f160.p0_e0' L N k z4
def f160.b' {R:Type} (L N:Nat) (k:LI->Option R) (w0:LI->Int->LLM->LI->Option R) (x0:Graph) (x1:LI):Option R:=
 w0 x1 (0:Int) x0.moves ([]:LI)
def f160.b {R:Type} (L N:Nat) (k:LI->Option R) (x0:Graph) (x1:LI):Option R:=
 f160.b' L N k (fun s0 s1 s2 s3=>f160.l0 L N (fun z4=>f160.p0_e0 L N k z4) L s0 s1 s2 s3) x0 x1
def f160 (L N:Nat) (x0:Graph) (x1:LI):Option (LI):=f160.b L N some x0 x1
def f160.ent (L N:Nat):=entDa [(.st 2),(.sl i64)] (.one (.sl i64)) fun d=>f160 L N d.1 d.2.1
noncomputable def E160 (L N:Nat):Env:={P:=Tryz.prog,ty:=tyOf,Φ:=(Φ191 L N),inl:=inlT,live:=lives,liveX:=livesX,L:=L,dp:=none,prom:=promT,heal:=healT,ren:=renT}
noncomputable def f160.c0:Code:=loopAt 0 (codeOf Tryz.f160)
noncomputable def f160.c1:Code:=loopAt 2 f160.c0
def f160.X1_e2 {R:Type} (κ:KX R):=fun z11 z12 z13 z14 z15=>κ (.exit 2) (f160.T1_e2 z11 z12 z13 z14 z15) (f160.H1_e2 z11 z12 z13 z14 z15)
def f160.R1 {R:Type} (rec:KT R):=fun s5 s6 s7 s8 s9 s10=>rec (f160.T1 s5 s6 s7 s8 s9 s10) (f160.H1 s5 s6 s7 s8 s9 s10)
theorem f160.s1_eq {R:Type} (L N:Nat) (κ:KX R) (rec:KT R) (s5:LI) (s6:Int) (s7:Int) (s8:Int) (s9:LLM) (s10:LI):
  evRd (E160 L N) (evCallI (E160 L N) 0 1000) 1000 160 52 2 f160.c1 κ rec (f160.T1 s5 s6 s7 s8 s9 s10) (f160.H1 s5 s6 s7 s8 s9 s10)
  =f160.s1 L N (f160.X1_e2 κ) (f160.R1 rec) s5 s6 s7 s8 s9 s10:=by kernel_rfl
theorem f160.l1_eq {R:Type} (L N:Nat) (κ:KX R):∀(n:Nat) (s5:LI) (s6:Int) (s7:Int) (s8:Int) (s9:LLM) (s10:LI),
  evLp (E160 L N) (evCallI (E160 L N) 0 1000) 1000 160 52 2 f160.c1 κ n (f160.T1 s5 s6 s7 s8 s9 s10) (f160.H1 s5 s6 s7 s8 s9 s10)
  =f160.l1 L N (f160.X1_e2 κ) n s5 s6 s7 s8 s9 s10:=by
 intro n
 induction n with
 |zero=>intros;rfl
 |succ n ih=>
  intro s5 s6 s7 s8 s9 s10
  rw [evLp_succ,f160.s1_eq]
  delta f160.R1
  simp only [ih]
  rfl
def f160.X0_e0 {R:Type} (κ:KX R):=fun z4=>κ (.exit 0) (f160.T0_e0 z4) (f160.H0_e0 z4)
def f160.R0 {R:Type} (rec:KT R):=fun s0 s1 s2 s3=>rec (f160.T0 s0 s1 s2 s3) (f160.H0 s0 s1 s2 s3)
theorem f160.p1_e2_eq {R:Type} (L N:Nat) (κ:KX R) (rec:KT R) (z11:LI) (z12:Int) (z13:Int) (z14:LLM) (z15:LI):
  (contAt (E160 L N) (evCallI (E160 L N) 0 1000) 1000 160 52 2 f160.c0 (rdK (E160 L N) 1000 160 52 0 κ rec)) (.exit 2) (f160.T1_e2 z11 z12 z13 z14 z15) (f160.H1_e2 z11 z12 z13 z14 z15)
  =f160.p1_e2 L N (f160.X0_e0 κ) (f160.R0 rec) z11 z12 z13 z14 z15:=by kernel_rfl
theorem f160.s0_eq {R:Type} (L N:Nat) (κ:KX R) (rec:KT R) (s0:LI) (s1:Int) (s2:LLM) (s3:LI):
  evRd (E160 L N) (evCallI (E160 L N) 0 1000) 1000 160 52 0 f160.c0 κ rec (f160.T0 s0 s1 s2 s3) (f160.H0 s0 s1 s2 s3)
  =f160.s0 L N (f160.X0_e0 κ) (f160.R0 rec) s0 s1 s2 s3:=by
 refine Eq.trans (b:=f160.s0' L N (f160.X0_e0 κ) (f160.R0 rec) (fun s5 s6 s7 s8 s9 s10=>evLp (E160 L N) (evCallI (E160 L N) 0 1000) 1000 160 52 2 f160.c1 (contAt (E160 L N) (evCallI (E160 L N) 0 1000) 1000 160 52 2 f160.c0 (rdK (E160 L N) 1000 160 52 0 κ rec)) L (f160.T1 s5 s6 s7 s8 s9 s10) (f160.H1 s5 s6 s7 s8 s9 s10)) s0 s1 s2 s3) (by kernel_rfl) ?_
 unfold f160.s0
 simp only [f160.l1_eq]
 delta f160.X1_e2
 simp only [f160.p1_e2_eq]
theorem f160.l0_eq {R:Type} (L N:Nat) (κ:KX R):∀(n:Nat) (s0:LI) (s1:Int) (s2:LLM) (s3:LI),
  evLp (E160 L N) (evCallI (E160 L N) 0 1000) 1000 160 52 0 f160.c0 κ n (f160.T0 s0 s1 s2 s3) (f160.H0 s0 s1 s2 s3)
  =f160.l0 L N (f160.X0_e0 κ) n s0 s1 s2 s3:=by
 intro n
 induction n with
 |zero=>intros;rfl
 |succ n ih=>
  intro s0 s1 s2 s3
  rw [evLp_succ,f160.s0_eq]
  delta f160.R0
  simp only [ih]
  rfl
theorem f160.p0_e0_eq {R:Type} (L N:Nat) (κ:AV->Option R) (z4:LI):
  (contAt (E160 L N) (evCallI (E160 L N) 0 1000) 1000 160 52 0 (codeOf Tryz.f160) (finK (E160 L N) 1000 Tryz.f160 (finC (.one (.sl i64)) κ))) (.exit 0) (f160.T0_e0 z4) (f160.H0_e0 z4)
  =f160.p0_e0 L N (fun a0=>κ (.tv (.sl i64) a0)) z4:=by kernel_rfl
theorem f160.b_eq {R:Type} (L N:Nat) (κ:AV->Option R) (x0:Graph) (x1:LI):
  evBody (E160 L N) (evCallI (E160 L N) 0 1000) 1000 160 Tryz.f160 [(.tv (.st 2) x0),(.tv (.sl i64) x1)] [] [] (finC (.one (.sl i64)) κ)
  =f160.b L N (fun a0=>κ (.tv (.sl i64) a0)) x0 x1:=by
 refine Eq.trans (b:=f160.b' L N (fun a0=>κ (.tv (.sl i64) a0)) (fun s0 s1 s2 s3=>evLp (E160 L N) (evCallI (E160 L N) 0 1000) 1000 160 52 0 f160.c0 (contAt (E160 L N) (evCallI (E160 L N) 0 1000) 1000 160 52 0 (codeOf Tryz.f160) (finK (E160 L N) 1000 Tryz.f160 (finC (.one (.sl i64)) κ))) L (f160.T0 s0 s1 s2 s3) (f160.H0 s0 s1 s2 s3)) x0 x1) (by kernel_rfl) ?_
 unfold f160.b
 simp only [f160.l0_eq]
 delta f160.X0_e0
 simp only [f160.p0_e0_eq]
theorem f160.ok (L N:Nat) (hΦ:TellsOk Tryz.prog ((Φ191 L N))):EntOk Tryz.prog 160 (f160.ent L N):=entDa_ok (E:=(E160 L N)) (dep:=1000) (f:=Tryz.f160) (sound_of hΦ) okP (callI_sound (sound_of hΦ) okP 0 1000) rfl fun d _ hy=>(f160.b_eq L N (unR (.one (.sl i64))) d.1 d.2.1).trans (Eq.trans (b:=f160.b L N some d.1 d.2.1) (by kernel_rfl) hy)
def Φ160 (L N:Nat):Tells:=(addT (Φ191 L N) 160 (f160.ent L N))
theorem Φ160_ok (L N:Nat):TellsOk Tryz.prog (Φ160 L N):=addT_ok (Φ191_ok L N) (f160.ok L N (Φ191_ok L N))
def f161.s0' {R:Type} (L N:Nat) (k0_e0:Option R) (k0_r:Bool->Option R) (rec0:LI->LI->Int->Option R) (s0:LI) (s1:LI) (s2:Int):Option R:=
 bif (decide (s2<(s0.length:Int))) then
  bif (decide (0≤s2)&&decide (s2<(s0.length:Int))) then
   bif (decide (0≤s2)&&decide (s2<(s1.length:Int))) then
    bif ((listAt s0 (0:Int) s2.toNat) !=(listAt s1 (0:Int) s2.toNat)) then
     k0_r false
    else rec0 s0 s1 (wi (s2+(1:Int)))
   else none
  else none
 else k0_e0
def f161.s0 {R:Type} (L N:Nat) (k0_e0:Option R) (k0_r:Bool->Option R) (rec0:LI->LI->Int->Option R) (s0:LI) (s1:LI) (s2:Int):Option R:=
 f161.s0' L N k0_e0 k0_r rec0 s0 s1 s2
def f161.l0 {R:Type} (L N:Nat) (k0_e0:Option R) (k0_r:Bool->Option R):Nat->LI->LI->Int->Option R
 |0,_,_,_=>none
 |n+1,s0,s1,s2=>f161.s0 L N k0_e0 k0_r (f161.l0 L N k0_e0 k0_r n) s0 s1 s2
def f161.T0 (s0:LI) (s1:LI) (s2:Int):T:=mkT 26 [(0,(.tv (.sl i64) s0)),(1,(.tv (.sl i64) s1)),(5,(.tv i64 s2))]
def f161.H0 (s0:LI) (s1:LI) (s2:Int):H:=[]
def f161.T0_e0:T:=mkT 26 []
def f161.H0_e0:H:=[]
def f161.T0_r (z3:Bool):T:=mkT 26 [(4,(.tv .bool z3))]
def f161.H0_r (z3:Bool):H:=[]
def f161.p0_e0' {R:Type} (L N:Nat) (k:Bool->Option R):Option R:=
 k true
def f161.p0_e0 {R:Type} (L N:Nat) (k:Bool->Option R):Option R:=
 f161.p0_e0' L N k
def f161.p0_r' {R:Type} (L N:Nat) (k:Bool->Option R) (z3:Bool):Option R:=
 k z3
def f161.p0_r {R:Type} (L N:Nat) (k:Bool->Option R) (z3:Bool):Option R:=
 f161.p0_r' L N k z3
def f161.b' {R:Type} (L N:Nat) (k:Bool->Option R) (w0:LI->LI->Int->Option R) (x0:LI) (x1:LI):Option R:=
 bif ((x0.length:Int) !=(x1.length:Int)) then
  k false
 else w0 x0 x1 (0:Int)
def f161.b {R:Type} (L N:Nat) (k:Bool->Option R) (x0:LI) (x1:LI):Option R:=
 f161.b' L N k (fun s0 s1 s2=>f161.l0 L N (f161.p0_e0 L N k) (fun z3=>f161.p0_r L N k z3) L s0 s1 s2) x0 x1
def f161 (L N:Nat) (x0:LI) (x1:LI):Option (Bool):=f161.b L N some x0 x1
def f161.ent (L N:Nat):=entRo [(.sl i64),(.sl i64)] (.one .bool) fun d=>f161 L N d.1 d.2.1
noncomputable def E161 (L N:Nat):Env:={P:=Tryz.prog,ty:=tyOf,Φ:=(Φ160 L N),inl:=inlT,live:=lives,liveX:=livesX,L:=L,dp:=none,prom:=promT,heal:=healT,ren:=renT}
noncomputable def f161.c0:Code:=loopAt 0 (codeOf Tryz.f161)
def f161.X0_e0 {R:Type} (κ:KX R):=κ (.exit 0) f161.T0_e0 f161.H0_e0
def f161.X0_r {R:Type} (κ:KX R):=fun z3=>κ .ret (f161.T0_r z3) (f161.H0_r z3)
def f161.R0 {R:Type} (rec:KT R):=fun s0 s1 s2=>rec (f161.T0 s0 s1 s2) (f161.H0 s0 s1 s2)
theorem f161.s0_eq {R:Type} (L N:Nat) (κ:KX R) (rec:KT R) (s0:LI) (s1:LI) (s2:Int):
  evRd (E161 L N) (evCallI (E161 L N) 0 1000) 1000 161 26 0 f161.c0 κ rec (f161.T0 s0 s1 s2) (f161.H0 s0 s1 s2)
  =f161.s0 L N (f161.X0_e0 κ) (f161.X0_r κ) (f161.R0 rec) s0 s1 s2:=by kernel_rfl
theorem f161.l0_eq {R:Type} (L N:Nat) (κ:KX R):∀(n:Nat) (s0:LI) (s1:LI) (s2:Int),
  evLp (E161 L N) (evCallI (E161 L N) 0 1000) 1000 161 26 0 f161.c0 κ n (f161.T0 s0 s1 s2) (f161.H0 s0 s1 s2)
  =f161.l0 L N (f161.X0_e0 κ) (f161.X0_r κ) n s0 s1 s2:=by
 intro n
 induction n with
 |zero=>intros;rfl
 |succ n ih=>
  intro s0 s1 s2
  rw [evLp_succ,f161.s0_eq]
  delta f161.R0
  simp only [ih]
  rfl
theorem f161.p0_e0_eq {R:Type} (L N:Nat) (κ:AV->Option R):
  (contAt (E161 L N) (evCallI (E161 L N) 0 1000) 1000 161 26 0 (codeOf Tryz.f161) (finK (E161 L N) 1000 Tryz.f161 (finC (.one .bool) κ))) (.exit 0) f161.T0_e0 f161.H0_e0
  =f161.p0_e0 L N (fun a0=>κ (.tv .bool a0)):=by kernel_rfl
theorem f161.p0_r_eq {R:Type} (L N:Nat) (κ:AV->Option R) (z3:Bool):
  (contAt (E161 L N) (evCallI (E161 L N) 0 1000) 1000 161 26 0 (codeOf Tryz.f161) (finK (E161 L N) 1000 Tryz.f161 (finC (.one .bool) κ))) .ret (f161.T0_r z3) (f161.H0_r z3)
  =f161.p0_r L N (fun a0=>κ (.tv .bool a0)) z3:=by kernel_rfl
theorem f161.b_eq {R:Type} (L N:Nat) (κ:AV->Option R) (x0:LI) (x1:LI):
  evBody (E161 L N) (evCallI (E161 L N) 0 1000) 1000 161 Tryz.f161 [(.tv (.sl i64) x0),(.tv (.sl i64) x1)] [] [] (finC (.one .bool) κ)
  =f161.b L N (fun a0=>κ (.tv .bool a0)) x0 x1:=by
 refine Eq.trans (b:=f161.b' L N (fun a0=>κ (.tv .bool a0)) (fun s0 s1 s2=>evLp (E161 L N) (evCallI (E161 L N) 0 1000) 1000 161 26 0 f161.c0 (contAt (E161 L N) (evCallI (E161 L N) 0 1000) 1000 161 26 0 (codeOf Tryz.f161) (finK (E161 L N) 1000 Tryz.f161 (finC (.one .bool) κ))) L (f161.T0 s0 s1 s2) (f161.H0 s0 s1 s2)) x0 x1) (by kernel_rfl) ?_
 unfold f161.b
 simp only [f161.l0_eq]
 delta f161.X0_e0 f161.X0_r
 simp only [f161.p0_e0_eq,f161.p0_r_eq]
theorem f161.ok (L N:Nat) (hΦ:TellsOk Tryz.prog ((Φ160 L N))):EntOk Tryz.prog 161 (f161.ent L N):=entRo_ok (E:=(E161 L N)) (dep:=1000) (f:=Tryz.f161) (sound_of hΦ) okP (callI_sound (sound_of hΦ) okP 0 1000) rfl rfl fun d _ hy=>(f161.b_eq L N (unR (.one .bool)) d.1 d.2.1).trans (Eq.trans (b:=f161.b L N some d.1 d.2.1) (by kernel_rfl) hy)
def Φ161 (L N:Nat):Tells:=(addT (Φ160 L N) 161 (f161.ent L N))
theorem Φ161_ok (L N:Nat):TellsOk Tryz.prog (Φ161 L N):=addT_ok (Φ160_ok L N) (f161.ok L N (Φ160_ok L N))
def f120.s0' {R:Type} (L N:Nat) (k0_r:LLI->Option R) (rec0:LLM->LLI->Option R) (s0:LLM) (s1:LLI):Option R:=
 bif (decide (0≤(wi ((s1.length:Int)-(1:Int))))&&decide ((wi ((s1.length:Int)-(1:Int)))<(s1.length:Int))) then
  (f160 L N (Graph.mk s0) (listAt s1 [] (wi ((s1.length:Int)-(1:Int))).toNat)).bind fun y2=>
  bif (decide (0≤(wi ((s1.length:Int)-(1:Int))))&&decide ((wi ((s1.length:Int)-(1:Int)))<(s1.length:Int))) then
   (f161 L N y2 (listAt s1 [] (wi ((s1.length:Int)-(1:Int))).toNat)).bind fun y3=>
   bif y3 then
    k0_r s1
   else bif (decide (s1.length+([y2]:LLI).length≤lim)) then
    rec0 s0 (s1++([y2]:LLI))
   else none
  else none
 else none
def f120.s0 {R:Type} (L N:Nat) (k0_r:LLI->Option R) (rec0:LLM->LLI->Option R) (s0:LLM) (s1:LLI):Option R:=
 f120.s0' L N k0_r rec0 s0 s1
def f120.l0 {R:Type} (L N:Nat) (k0_r:LLI->Option R):Nat->LLM->LLI->Option R
 |0,_,_=>none
 |n+1,s0,s1=>f120.s0 L N k0_r (f120.l0 L N k0_r n) s0 s1
def f120.T0 (s0:LLM) (s1:LLI):T:=mkT 31 [(1,(.ptr 1001 0)),(3,(.row 1009))]
def f120.H0 (s0:LLM) (s1:LLI):H:=[(1001,(.box [(.tv (.sl (.sl (.st 0))) s0)])),(1009,(.row 32 (.sl i64) s1))]
def f120.T0_r (z4:LLI):T:=mkT 31 [(2,(.row 1009))]
def f120.H0_r (z4:LLI):H:=[(1009,(.row 32 (.sl i64) z4))]
def f120.p0_r' {R:Type} (L N:Nat) (k:LLI->Option R) (z4:LLI):Option R:=
 k z4
def f120.p0_r {R:Type} (L N:Nat) (k:LLI->Option R) (z4:LLI):Option R:=
 f120.p0_r' L N k z4
def f120.b' {R:Type} (L N:Nat) (k:LLI->Option R) (w0:LLM->LLI->Option R) (x0:Graph):Option R:=
 bif (decide (0≤(x0.moves.length:Int))&&decide ((x0.moves.length:Int)≤(lim:Int))) then
  w0 x0.moves ([(List.replicate (x0.moves.length:Int).toNat (0:Int))]:LLI)
 else none
def f120.b {R:Type} (L N:Nat) (k:LLI->Option R) (x0:Graph):Option R:=
 f120.b' L N k (fun s0 s1=>f120.l0 L N (fun z4=>f120.p0_r L N k z4) L s0 s1) x0
def f120 (L N:Nat) (x0:Graph):Option (LLI):=f120.b L N some x0
def f120.ent (L N:Nat):=entDa [(.st 2)] (.one (.sl (.sl i64))) fun d=>f120 L N d.1
noncomputable def E120 (L N:Nat):Env:={P:=Tryz.prog,ty:=tyOf,Φ:=(Φ161 L N),inl:=inlT,live:=lives,liveX:=livesX,L:=L,dp:=none,prom:=promT,heal:=healT,ren:=renT}
noncomputable def f120.c0:Code:=loopAt 0 (codeOf Tryz.f120)
def f120.X0_r {R:Type} (κ:KX R):=fun z4=>κ .ret (f120.T0_r z4) (f120.H0_r z4)
def f120.R0 {R:Type} (rec:KT R):=fun s0 s1=>rec (f120.T0 s0 s1) (f120.H0 s0 s1)
theorem f120.s0_eq {R:Type} (L N:Nat) (κ:KX R) (rec:KT R) (s0:LLM) (s1:LLI):
  evRd (E120 L N) (evCallI (E120 L N) 0 1000) 1000 120 31 0 f120.c0 κ rec (f120.T0 s0 s1) (f120.H0 s0 s1)
  =f120.s0 L N (f120.X0_r κ) (f120.R0 rec) s0 s1:=by kernel_rfl
theorem f120.l0_eq {R:Type} (L N:Nat) (κ:KX R):∀(n:Nat) (s0:LLM) (s1:LLI),
  evLp (E120 L N) (evCallI (E120 L N) 0 1000) 1000 120 31 0 f120.c0 κ n (f120.T0 s0 s1) (f120.H0 s0 s1)
  =f120.l0 L N (f120.X0_r κ) n s0 s1:=by
 intro n
 induction n with
 |zero=>intros;rfl
 |succ n ih=>
  intro s0 s1
  rw [evLp_succ,f120.s0_eq]
  delta f120.R0
  simp only [ih]
  rfl
theorem f120.p0_r_eq {R:Type} (L N:Nat) (κ:AV->Option R) (z4:LLI):
  (contAt (E120 L N) (evCallI (E120 L N) 0 1000) 1000 120 31 0 (codeOf Tryz.f120) (finK (E120 L N) 1000 Tryz.f120 (finC (.one (.sl (.sl i64))) κ))) .ret (f120.T0_r z4) (f120.H0_r z4)
  =f120.p0_r L N (fun a0=>κ (.tv (.sl (.sl i64)) a0)) z4:=by kernel_rfl
theorem f120.b_eq {R:Type} (L N:Nat) (κ:AV->Option R) (x0:Graph):
  evBody (E120 L N) (evCallI (E120 L N) 0 1000) 1000 120 Tryz.f120 [(.tv (.st 2) x0)] [] [] (finC (.one (.sl (.sl i64))) κ)
  =f120.b L N (fun a0=>κ (.tv (.sl (.sl i64)) a0)) x0:=by
 refine Eq.trans (b:=f120.b' L N (fun a0=>κ (.tv (.sl (.sl i64)) a0)) (fun s0 s1=>evLp (E120 L N) (evCallI (E120 L N) 0 1000) 1000 120 31 0 f120.c0 (contAt (E120 L N) (evCallI (E120 L N) 0 1000) 1000 120 31 0 (codeOf Tryz.f120) (finK (E120 L N) 1000 Tryz.f120 (finC (.one (.sl (.sl i64))) κ))) L (f120.T0 s0 s1) (f120.H0 s0 s1)) x0) (by kernel_rfl) ?_
 unfold f120.b
 simp only [f120.l0_eq]
 delta f120.X0_r
 simp only [f120.p0_r_eq]
theorem f120.ok (L N:Nat) (hΦ:TellsOk Tryz.prog ((Φ161 L N))):EntOk Tryz.prog 120 (f120.ent L N):=entDa_ok (E:=(E120 L N)) (dep:=1000) (f:=Tryz.f120) (sound_of hΦ) okP (callI_sound (sound_of hΦ) okP 0 1000) rfl fun d _ hy=>(f120.b_eq L N (unR (.one (.sl (.sl i64)))) d.1).trans (Eq.trans (b:=f120.b L N some d.1) (by kernel_rfl) hy)
def Φ120 (L N:Nat):Tells:=(addT (Φ161 L N) 120 (f120.ent L N))
theorem Φ120_ok (L N:Nat):TellsOk Tryz.prog (Φ120 L N):=addT_ok (Φ161_ok L N) (f120.ok L N (Φ161_ok L N))
def f76.b' {R:Type} (L N:Nat) (k:LI->Option R) (x0:Graph):Option R:=
 (f120 L N (Graph.mk x0.moves)).bind fun y0=>
 bif (decide (0≤(wi ((y0.length:Int)-(1:Int))))&&decide ((wi ((y0.length:Int)-(1:Int)))<(y0.length:Int))) then
  k (listAt y0 [] (wi ((y0.length:Int)-(1:Int))).toNat)
 else none
def f76.b {R:Type} (L N:Nat) (k:LI->Option R) (x0:Graph):Option R:=
 f76.b' L N k x0
def f76 (L N:Nat) (x0:Graph):Option (LI):=f76.b L N some x0
def f76.ent (L N:Nat):=entDa [(.st 2)] (.one (.sl i64)) fun d=>f76 L N d.1
noncomputable def E76 (L N:Nat):Env:={P:=Tryz.prog,ty:=tyOf,Φ:=(Φ120 L N),inl:=inlT,live:=lives,liveX:=livesX,L:=L,dp:=none,prom:=promT,heal:=healT,ren:=renT}
theorem f76.b_eq {R:Type} (L N:Nat) (κ:AV->Option R) (x0:Graph):
  evBody (E76 L N) (evCallI (E76 L N) 0 1000) 1000 76 Tryz.f76 [(.tv (.st 2) x0)] [] [] (finC (.one (.sl i64)) κ)
  =f76.b L N (fun a0=>κ (.tv (.sl i64) a0)) x0:=by kernel_rfl
theorem f76.ok (L N:Nat) (hΦ:TellsOk Tryz.prog ((Φ120 L N))):EntOk Tryz.prog 76 (f76.ent L N):=entDa_ok (E:=(E76 L N)) (dep:=1000) (f:=Tryz.f76) (sound_of hΦ) okP (callI_sound (sound_of hΦ) okP 0 1000) rfl fun d _ hy=>(f76.b_eq L N (unR (.one (.sl i64))) d.1).trans (Eq.trans (b:=f76.b L N some d.1) (by kernel_rfl) hy)
def Φ76 (L N:Nat):Tells:=(addT (Φ120 L N) 76 (f76.ent L N))
theorem Φ76_ok (L N:Nat):TellsOk Tryz.prog (Φ76 L N):=addT_ok (Φ120_ok L N) (f76.ok L N (Φ120_ok L N))
def f44.b' {R:Type} (L N:Nat) (k:LI->Option R) (x0:Graph):Option R:=
 (f75 L N (Graph.mk x0.moves)).bind fun y0=>
 bif (!y0) then
  k ([]:LI)
 else (f45 L N (Graph.mk x0.moves) false).bind fun y1=>
 (f76 L N y1).bind fun y2=>
 k y2
def f44.b {R:Type} (L N:Nat) (k:LI->Option R) (x0:Graph):Option R:=
 f44.b' L N k x0
def f44 (L N:Nat) (x0:Graph):Option (LI):=f44.b L N some x0
def f44.ent (L N:Nat):=entDa [(.st 2)] (.one (.sl i64)) fun d=>f44 L N d.1
noncomputable def E44 (L N:Nat):Env:={P:=Tryz.prog,ty:=tyOf,Φ:=(Φ76 L N),inl:=inlT,live:=lives,liveX:=livesX,L:=L,dp:=none,prom:=promT,heal:=healT,ren:=renT}
theorem f44.b_eq {R:Type} (L N:Nat) (κ:AV->Option R) (x0:Graph):
  evBody (E44 L N) (evCallI (E44 L N) 0 1000) 1000 44 Tryz.f44 [(.tv (.st 2) x0)] [] [] (finC (.one (.sl i64)) κ)
  =f44.b L N (fun a0=>κ (.tv (.sl i64) a0)) x0:=by kernel_rfl
theorem f44.ok (L N:Nat) (hΦ:TellsOk Tryz.prog ((Φ76 L N))):EntOk Tryz.prog 44 (f44.ent L N):=entDa_ok (E:=(E44 L N)) (dep:=1000) (f:=Tryz.f44) (sound_of hΦ) okP (callI_sound (sound_of hΦ) okP 0 1000) rfl fun d _ hy=>(f44.b_eq L N (unR (.one (.sl i64))) d.1).trans (Eq.trans (b:=f44.b L N some d.1) (by kernel_rfl) hy)
def Φ44 (L N:Nat):Tells:=(addT (Φ76 L N) 44 (f44.ent L N))
theorem Φ44_ok (L N:Nat):TellsOk Tryz.prog (Φ44 L N):=addT_ok (Φ76_ok L N) (f44.ok L N (Φ76_ok L N))
def f27.b' {R:Type} (L N:Nat) (k:Bool->Bool->Option R) (x0:Tree) (x1:Tree) (x2:LT):Option R:=
 (f43 L N (Tree.mk x0.op x0.n x0.parts) (Tree.mk x1.op x1.n x1.parts) x2).bind fun y0=>
 bif (!y0.2.2) then
  k false false
 else (f44 L N (Graph.mk y0.1.moves)).bind fun y1=>
 bif (decide (0≤y0.2.1)&&decide (y0.2.1<(y1.length:Int))) then
  k ((listAt y1 (0:Int) y0.2.1.toNat)==(0:Int)) true
 else none
def f27.b {R:Type} (L N:Nat) (k:Bool->Bool->Option R) (x0:Tree) (x1:Tree) (x2:LT):Option R:=
 f27.b' L N k x0 x1 x2
def f27 (L N:Nat) (x0:Tree) (x1:Tree) (x2:LT):Option (Bool×Bool):=f27.b L N (fun a0 a1=>some (a0,a1)) x0 x1 x2
def f27.ent (L N:Nat):=entRo [(.st 1),(.st 1),(.sl (.st 1))] (.many [.bool,.bool]) fun d=>f27 L N d.1 d.2.1 d.2.2.1
noncomputable def E27 (L N:Nat):Env:={P:=Tryz.prog,ty:=tyOf,Φ:=(Φ44 L N),inl:=inlT,live:=lives,liveX:=livesX,L:=L,dp:=none,prom:=promT,heal:=healT,ren:=renT}
theorem f27.b_eq {R:Type} (L N:Nat) (κ:AV->Option R) (x0:Tree) (x1:Tree) (x2:LT):
  evBody (E27 L N) (evCallI (E27 L N) 0 1000) 1000 27 Tryz.f27 [(.tv (.st 1) x0),(.tv (.st 1) x1),(.tv (.sl (.st 1)) x2)] [] [] (finC (.many [.bool,.bool]) κ)
  =f27.b L N (fun a0 a1=>κ (.tup [(.tv .bool a0),(.tv .bool a1)])) x0 x1 x2:=by kernel_rfl
theorem f27.ok (L N:Nat) (hΦ:TellsOk Tryz.prog ((Φ44 L N))):EntOk Tryz.prog 27 (f27.ent L N):=entRo_ok (E:=(E27 L N)) (dep:=1000) (f:=Tryz.f27) (sound_of hΦ) okP (callI_sound (sound_of hΦ) okP 0 1000) rfl rfl fun d _ hy=>(f27.b_eq L N (unR (.many [.bool,.bool])) d.1 d.2.1 d.2.2.1).trans (Eq.trans (b:=f27.b L N (fun a0 a1=>some (a0,a1)) d.1 d.2.1 d.2.2.1) (by kernel_rfl) hy)
def Φ27 (L N:Nat):Tells:=(addT (Φ44 L N) 27 (f27.ent L N))
theorem Φ27_ok (L N:Nat):TellsOk Tryz.prog (Φ27 L N):=addT_ok (Φ44_ok L N) (f27.ok L N (Φ44_ok L N))
def f33.b' {R:Type} (L N:Nat) (k:LI->Int->Option R) (x0:LI):Option R:=
 bif (decide ((x0.length:Int)>(2000:Int))) then
  bif (slB (0:Int) (2000:Int) x0.length) then
   k (slX x0 (0:Int) (2000:Int)) (0:Int)
  else none
 else k x0 (0:Int)
def f33.b {R:Type} (L N:Nat) (k:LI->Int->Option R) (x0:LI):Option R:=
 f33.b' L N k x0
def f33 (L N:Nat) (x0:LI):Option (LI×Int):=f33.b L N (fun a0 a1=>some (a0,a1)) x0
def f33.ent (L N:Nat) (args:List AV) (vw:View) (site:Nat):Ans:=match coeD [(.sl (.int .u8))] vw args with
 |some (d,u)=>⟨LI×Int,f33 L N d.1,fun y=>(.ptr site 0,u++[(site,some (.box [(.tv (.sl (.int .u8)) y.1),(.tv i64 y.2)]))],[])⟩
 |none=>Ans.no
noncomputable def E33 (L N:Nat):Env:={P:=Tryz.prog,ty:=tyOf,Φ:=(Φ27 L N),inl:=inlT,live:=lives,liveX:=livesX,L:=L,dp:=none,prom:=promT,heal:=healT,ren:=renT}
theorem f33.b_eq {R:Type} (L N:Nat) (κ:Dens [(.sl (.int .u8)),i64]->Option R) (x0:LI):
  evBody (E33 L N) (evCallI (E33 L N) 0 1000) 1000 33 Tryz.f33 [(.tv (.sl (.int .u8)) x0)] [] [] (finB [(.sl (.int .u8)),i64] κ)
  =f33.b L N (fun a0 a1=>κ (a0,a1,())) x0:=by kernel_rfl
theorem f33.ok (L N:Nat) (hΦ:TellsOk Tryz.prog ((Φ27 L N))):EntOk Tryz.prog 33 (f33.ent L N):=by
 intro args vw site h
 unfold f33.ent
 split
 ·rename_i d u ha
  intro y hy hs
  refine call_newbox (y:=y) (dep:=1000) (d1:=(y.1,y.2,())) (E:=(E33 L N)) (ts:=[(.sl (.int .u8))]) (tb:=[(.sl (.int .u8)),i64]) (κ:=(fun d=>some (d.1,d.2.1))) (sound_of hΦ) okP (callI_sound (sound_of hΦ) okP 0 1000) (f:=Tryz.f33) rfl hs ha ?_ (fun _ h=>by obtain rfl:=Option.some.inj h;rfl) site
  exact (f33.b_eq L N (fun d=>some (d.1,d.2.1)) d.1).trans (Eq.trans (b:=f33.b L N (fun a0 a1=>some (a0,a1)) d.1) (by kernel_rfl) hy)
 ·intro y hy
  cases hy
def Φ33 (L N:Nat):Tells:=(addT (Φ27 L N) 33 (f33.ent L N))
theorem Φ33_ok (L N:Nat):TellsOk Tryz.prog (Φ33 L N):=addT_ok (Φ27_ok L N) (f33.ok L N (Φ27_ok L N))
def f49.j0' {R:Type} (L N:Nat) (k:Int->LI->Int->Option R) (v4:Int) (v5:LI) (v6:Int):Option R:=
 bif (decide ((wi (v6-(1:Int)))<(v5.length:Int))) then
  bif (decide (0≤(wi (v6-(1:Int))))&&decide ((wi (v6-(1:Int)))<(v5.length:Int))) then
   bif (decide (v4=0)) then
    none
   else k (Int.tmod (wi ((listAt v5 (0:Int) (wi (v6-(1:Int))).toNat))) v4) v5 v6
  else none
 else bif (decide ((v5.length:Int)=0)) then
  none
 else bif (decide (0≤(Int.tmod (wi (v6-(1:Int))) (v5.length:Int)))&&decide ((Int.tmod (wi (v6-(1:Int))) (v5.length:Int))<(v5.length:Int))) then
  bif (decide ((v5.length:Int)=0)) then
   none
  else bif (decide (0≤(Int.tmod (wi ((wi ((wi (v6-(1:Int)))*(7:Int)))+(3:Int))) (v5.length:Int)))&&decide ((Int.tmod (wi ((wi ((wi (v6-(1:Int)))*(7:Int)))+(3:Int))) (v5.length:Int))<(v5.length:Int))) then
   bif (decide ((v5.length:Int)=0)) then
    none
   else bif (decide ((64:Int)=0)) then
    none
   else bif (decide (v4=0)) then
    none
   else k (Int.tmod (IntKind.wrap .i64 ((BitVec.ofInt (IntKind.bits .i64) (wi ((wi ((wi ((wi ((wi ((listAt v5 (0:Int) (Int.tmod (wi (v6-(1:Int))) (v5.length:Int)).toNat)))*(131:Int)))+(wi ((wi ((listAt v5 (0:Int) (Int.tmod (wi ((wi ((wi (v6-(1:Int)))*(7:Int)))+(3:Int))) (v5.length:Int)).toNat)))*(1117:Int)))))+(wi ((wi (v6-(1:Int)))*(29:Int)))))+(wi ((wi (Int.tdiv (wi (v6-(1:Int))) (v5.length:Int)))*(53:Int)))))^^^BitVec.ofInt (IntKind.bits .i64) (wi (Int.tdiv (wi ((wi ((wi ((wi ((wi ((listAt v5 (0:Int) (Int.tmod (wi (v6-(1:Int))) (v5.length:Int)).toNat)))*(131:Int)))+(wi ((wi ((listAt v5 (0:Int) (Int.tmod (wi ((wi ((wi (v6-(1:Int)))*(7:Int)))+(3:Int))) (v5.length:Int)).toNat)))*(1117:Int)))))+(wi ((wi (v6-(1:Int)))*(29:Int)))))+(wi ((wi (Int.tdiv (wi (v6-(1:Int))) (v5.length:Int)))*(53:Int))))) (64:Int)))).toNat)) v4) v5 v6
  else none
 else none
def f49.b' {R:Type} (L N:Nat) (k:Int->LI->Int->Option R) (c0:LI) (c1:Int) (x0:Int):Option R:=
 bif (decide (x0<(1:Int))) then
  k (0:Int) c0 (wi (c1+(1:Int)))
 else bif ((c0.length:Int)==(0:Int)) then
  k (0:Int) c0 (wi (c1+(1:Int)))
 else f49.j0' L N k x0 c0 (wi (c1+(1:Int)))
def f49.b {R:Type} (L N:Nat) (k:Int->LI->Int->Option R) (c0:LI) (c1:Int) (x0:Int):Option R:=
 f49.b' L N k c0 c1 x0
def f49 (L N:Nat) (c0:LI) (c1:Int) (x0:Int):Option (Int×LI×Int):=f49.b L N (fun a0 a1 a2=>some (a0,a1,a2)) c0 c1 x0
def f49.ent (L N:Nat) (args:List AV) (vw:View) (site:Nat):Ans:=match boxD [(.sl (.int .u8)),i64] [i64] vw args with
 |some (o,d0,d,u)=>⟨Int×LI×Int,f49 L N d0.1 d0.2.1 d.1,fun y=>((.tv i64 y.1),u++[(o,some (.box [(.tv (.sl (.int .u8)) y.2.1),(.tv i64 y.2.2)]))],[])⟩
 |none=>Ans.no
noncomputable def E49 (L N:Nat):Env:={P:=Tryz.prog,ty:=tyOf,Φ:=(Φ33 L N),inl:=inlT,live:=lives,liveX:=livesX,L:=L,dp:=none,prom:=promT,heal:=healT,ren:=renT}
theorem f49.b_eq {R:Type} (L N:Nat) (κ:AV->Dens [(.sl (.int .u8)),i64]->Option R) (c0:LI) (c1:Int) (x0:Int):
  evBody (E49 L N) (evCallI (E49 L N) 0 1000) 1000 49 Tryz.f49 [(.ptr 0 0),(.tv i64 x0)] [.ptr 0 0] [(0,(.box [(.tv (.sl (.int .u8)) c0),(.tv i64 c1)]))] (finM (.one i64) [(.sl (.int .u8)),i64] κ)
  =f49.b L N (fun a0 a1 a2=>κ (.tv i64 a0) (a1,a2,())) c0 c1 x0:=by kernel_rfl
theorem f49.ok (L N:Nat) (hΦ:TellsOk Tryz.prog ((Φ33 L N))):EntOk Tryz.prog 49 (f49.ent L N):=by
 intro args vw site h
 unfold f49.ent
 split
 ·rename_i o d0 d u ha
  intro y hy hs
  obtain ⟨rest,cs,rfl,ho,hd0,hr,hu⟩:=boxD_some ha
  refine call_box (y:=y) (dep:=1000) (v':=(.tv i64 y.1)) (d1:=(y.2.1,y.2.2,())) (E:=(E49 L N)) (ts:=[(.sl (.int .u8)),i64]) (tr:=[i64]) (rs:=(.one i64)) (κ:=(fun v d=>(unR (.one i64) v).bind fun x=>some (x,d.1,d.2.1))) (sound_of hΦ) okP (callI_sound (sound_of hΦ) okP 0 1000) (f:=Tryz.f49) rfl hs ho hd0 hr hu ?_ (fun _ _ h=>by obtain ⟨x,h1,h2⟩:=unR_bind h;obtain rfl:=Option.some.inj h2;exact ⟨h1,rfl⟩) site
  exact (f49.b_eq L N (fun v d=>(unR (.one i64) v).bind fun x=>some (x,d.1,d.2.1)) d0.1 d0.2.1 d.1).trans (Eq.trans (b:=f49.b L N (fun a0 a1 a2=>some (a0,a1,a2)) d0.1 d0.2.1 d.1) (by kernel_rfl) hy)
 ·intro y hy
  cases hy
def Φ49 (L N:Nat):Tells:=(addT (Φ33 L N) 49 (f49.ent L N))
theorem Φ49_ok (L N:Nat):TellsOk Tryz.prog (Φ49 L N):=addT_ok (Φ33_ok L N) (f49.ok L N (Φ33_ok L N))
def f64.b' {R:Type} (L N:Nat) (k:Int->LI->Int->Option R) (c0:LI) (c1:Int):Option R:=
 (f49 L N c0 c1 (3:Int)).bind fun y0=>
 bif (decide (y0.1>(0:Int))) then
  (f49 L N y0.2.1 y0.2.2 (5:Int)).bind fun y1=>
  k (wi (y1.1-(2:Int))) y1.2.1 y1.2.2
 else (f49 L N y0.2.1 y0.2.2 (9:Int)).bind fun y2=>
 k (wi (y2.1-(4:Int))) y2.2.1 y2.2.2
def f64.b {R:Type} (L N:Nat) (k:Int->LI->Int->Option R) (c0:LI) (c1:Int):Option R:=
 f64.b' L N k c0 c1
def f64 (L N:Nat) (c0:LI) (c1:Int):Option (Int×LI×Int):=f64.b L N (fun a0 a1 a2=>some (a0,a1,a2)) c0 c1
def f64.ent (L N:Nat) (args:List AV) (vw:View) (site:Nat):Ans:=match boxD [(.sl (.int .u8)),i64] [] vw args with
 |some (o,d0,d,u)=>⟨Int×LI×Int,f64 L N d0.1 d0.2.1,fun y=>((.tv i64 y.1),u++[(o,some (.box [(.tv (.sl (.int .u8)) y.2.1),(.tv i64 y.2.2)]))],[])⟩
 |none=>Ans.no
noncomputable def E64 (L N:Nat):Env:={P:=Tryz.prog,ty:=tyOf,Φ:=(Φ49 L N),inl:=inlT,live:=lives,liveX:=livesX,L:=L,dp:=none,prom:=promT,heal:=healT,ren:=renT}
theorem f64.b_eq {R:Type} (L N:Nat) (κ:AV->Dens [(.sl (.int .u8)),i64]->Option R) (c0:LI) (c1:Int):
  evBody (E64 L N) (evCallI (E64 L N) 0 1000) 1000 64 Tryz.f64 [(.ptr 0 0)] [.ptr 0 0] [(0,(.box [(.tv (.sl (.int .u8)) c0),(.tv i64 c1)]))] (finM (.one i64) [(.sl (.int .u8)),i64] κ)
  =f64.b L N (fun a0 a1 a2=>κ (.tv i64 a0) (a1,a2,())) c0 c1:=by kernel_rfl
theorem f64.ok (L N:Nat) (hΦ:TellsOk Tryz.prog ((Φ49 L N))):EntOk Tryz.prog 64 (f64.ent L N):=by
 intro args vw site h
 unfold f64.ent
 split
 ·rename_i o d0 d u ha
  intro y hy hs
  obtain ⟨rest,cs,rfl,ho,hd0,hr,hu⟩:=boxD_some ha
  refine call_box (y:=y) (dep:=1000) (v':=(.tv i64 y.1)) (d1:=(y.2.1,y.2.2,())) (E:=(E64 L N)) (ts:=[(.sl (.int .u8)),i64]) (tr:=[]) (rs:=(.one i64)) (κ:=(fun v d=>(unR (.one i64) v).bind fun x=>some (x,d.1,d.2.1))) (sound_of hΦ) okP (callI_sound (sound_of hΦ) okP 0 1000) (f:=Tryz.f64) rfl hs ho hd0 hr hu ?_ (fun _ _ h=>by obtain ⟨x,h1,h2⟩:=unR_bind h;obtain rfl:=Option.some.inj h2;exact ⟨h1,rfl⟩) site
  exact (f64.b_eq L N (fun v d=>(unR (.one i64) v).bind fun x=>some (x,d.1,d.2.1)) d0.1 d0.2.1).trans (Eq.trans (b:=f64.b L N (fun a0 a1 a2=>some (a0,a1,a2)) d0.1 d0.2.1) (by kernel_rfl) hy)
 ·intro y hy
  cases hy
def Φ64 (L N:Nat):Tells:=(addT (Φ49 L N) 64 (f64.ent L N))
theorem Φ64_ok (L N:Nat):TellsOk Tryz.prog (Φ64 L N):=addT_ok (Φ49_ok L N) (f64.ok L N (Φ49_ok L N))
def f80.j0' {R:Type} (L N:Nat) (self80:LI->Int->Int->Int->Bool->Option (Tree×LI×Int)) (k:Tree->LI->Int->Option R) (v10:Int) (v11:Int) (v12:Bool) (v13:Int) (v14:Bool) (v15:LI) (v16:Int) (v17:Int) (v18:Int):Option R:=
 bif v14 then
  (f49 L N v15 v16 v11).bind fun y19=>
  k (Tree.mk (5:Int) y19.1 []) y19.2.1 y19.2.2
 else bif (v13==(0:Int)) then
  k (Tree.mk (0:Int) (0:Int) []) v15 v16
 else bif (decide (v13<(5:Int))) then
  (f64 L N v15 v16).bind fun y20=>
  bif (v10==(0:Int)) then
   k (Tree.mk (1:Int) y20.1 ([(Tree.mk (0:Int) (0:Int) [])]:LT)) y20.2.1 y20.2.2
  else (self80 y20.2.1 y20.2.2 (bif decide ((wi (v10-(1:Int)))>(0:Int)) then (wi (v10-(1:Int))) else (0:Int)) v11 true).bind fun y21=>
  k (Tree.mk (1:Int) y20.1 ([y21.1]:LT)) y21.2.1 y21.2.2
 else bif (v13==(5:Int)) then
  (f49 L N v15 v16 (4:Int)).bind fun y22=>
  (self80 y22.2.1 y22.2.2 (wi (v10-(1:Int))) v11 v12).bind fun y23=>
  k (Tree.mk (4:Int) y22.1 ([y23.1]:LT)) y23.2.1 y23.2.2
 else bif (v13==(8:Int)) then
  (self80 v15 v16 (wi (v10-(1:Int))) v11 v12).bind fun y34=>
  (self80 y34.2.1 y34.2.2 (wi (v10-(1:Int))) v11 v12).bind fun y35=>
  k (Tree.mk (3:Int) (0:Int) ([(Tree.mk y34.1.op y34.1.n y34.1.parts),(Tree.mk y35.1.op y35.1.n y35.1.parts)]:LT)) y35.2.1 y35.2.2
 else (self80 v15 v16 (wi (v10-(1:Int))) v11 v12).bind fun y36=>
 (self80 y36.2.1 y36.2.2 (wi (v10-(1:Int))) v11 v12).bind fun y37=>
 k (Tree.mk (2:Int) (0:Int) ([(Tree.mk y36.1.op y36.1.n y36.1.parts),(Tree.mk y37.1.op y37.1.n y37.1.parts)]:LT)) y37.2.1 y37.2.2
def f80.j1' {R:Type} (L N:Nat) (self80:LI->Int->Int->Int->Bool->Option (Tree×LI×Int)) (k:Tree->LI->Int->Option R) (v2:Int) (v3:Int) (v4:Bool) (v5:Int) (v6:LI) (v7:Int) (v8:Int) (v9:Int):Option R:=
 bif (decide (v5<(2:Int))) then
  bif (decide (v3>(0:Int))) then
   f80.j0' L N self80 k v2 v3 v4 v5 v4 v6 v7 v8 v9
  else f80.j0' L N self80 k v2 v3 v4 v5 false v6 v7 v8 v9
 else f80.j0' L N self80 k v2 v3 v4 v5 false v6 v7 v8 v9
def f80.b' {R:Type} (L N:Nat) (self80:LI->Int->Int->Int->Bool->Option (Tree×LI×Int)) (k:Tree->LI->Int->Option R) (c0:LI) (c1:Int) (x0:Int) (x1:Int) (x2:Bool):Option R:=
 (f49 L N c0 c1 (9:Int)).bind fun y0=>
 bif (x0==(0:Int)) then
  (f49 L N y0.2.1 y0.2.2 (2:Int)).bind fun y1=>
  f80.j1' L N self80 k x0 x1 x2 y1.1 y1.2.1 y1.2.2 (0:Int) (0:Int)
 else f80.j1' L N self80 k x0 x1 x2 y0.1 y0.2.1 y0.2.2 (0:Int) (0:Int)
def f80.b {R:Type} (L N:Nat) (self80:LI->Int->Int->Int->Bool->Option (Tree×LI×Int)) (k:Tree->LI->Int->Option R) (c0:LI) (c1:Int) (x0:Int) (x1:Int) (x2:Bool):Option R:=
 f80.b' L N self80 k c0 c1 x0 x1 x2
def f80 (L N:Nat):Nat->LI->Int->Int->Int->Bool->Option (Tree×LI×Int)
 |0,_,_,_,_,_=>none
 |n+1,c0,c1,x0,x1,x2=>f80.b L N (f80 L N n) (fun a0 a1 a2=>some (a0,a1,a2)) c0 c1 x0 x1 x2
def f80.ent (L N m:Nat) (args:List AV) (vw:View) (site:Nat):Ans:=match boxD [(.sl (.int .u8)),i64] [i64,i64,.bool] vw args with
 |some (o,d0,d,u)=>⟨Tree×LI×Int,f80 L N m d0.1 d0.2.1 d.1 d.2.1 d.2.2.1,fun y=>((.tv (.st 1) y.1),u++[(o,some (.box [(.tv (.sl (.int .u8)) y.2.1),(.tv i64 y.2.2)]))],[])⟩
 |none=>Ans.no
def Φ80s (L N m:Nat):Tells:=(addT (Φ64 L N) 80 (f80.ent L N m))
noncomputable def E80 (L N m:Nat):Env:={P:=Tryz.prog,ty:=tyOf,Φ:=Φ80s L N m,inl:=inlT,live:=lives,liveX:=livesX,L:=L,dp:=none,prom:=promT,heal:=healT,ren:=renT}
theorem f80.b_eq {R:Type} (L N m:Nat) (κ:AV->Dens [(.sl (.int .u8)),i64]->Option R) (c0:LI) (c1:Int) (x0:Int) (x1:Int) (x2:Bool):
  evBody (E80 L N m) (evCallI (E80 L N m) 0 1000) 1000 80 Tryz.f80 [(.ptr 0 0),(.tv i64 x0),(.tv i64 x1),(.tv .bool x2)] [.ptr 0 0] [(0,(.box [(.tv (.sl (.int .u8)) c0),(.tv i64 c1)]))] (finM (.one (.st 1)) [(.sl (.int .u8)),i64] κ)
  =f80.b L N (f80 L N m) (fun a0 a1 a2=>κ (.tv (.st 1) a0) (a1,a2,())) c0 c1 x0 x1 x2:=by kernel_rfl
theorem f80.ok (L N m:Nat) (hΦ:TellsOk Tryz.prog (Φ80s L N m)):EntOk Tryz.prog 80 (f80.ent L N (m+1)):=by
 intro args vw site h
 unfold f80.ent
 split
 ·rename_i o d0 d u ha
  intro y hy hs
  obtain ⟨rest,cs,rfl,ho,hd0,hr,hu⟩:=boxD_some ha
  refine call_box (y:=y) (dep:=1000) (v':=(.tv (.st 1) y.1)) (d1:=(y.2.1,y.2.2,())) (E:=(E80 L N m)) (ts:=[(.sl (.int .u8)),i64]) (tr:=[i64,i64,.bool]) (rs:=(.one (.st 1))) (κ:=(fun v d=>(unR (.one (.st 1)) v).bind fun x=>some (x,d.1,d.2.1))) (sound_of hΦ) okP (callI_sound (sound_of hΦ) okP 0 1000) (f:=Tryz.f80) rfl hs ho hd0 hr hu ?_ (fun _ _ h=>by obtain ⟨x,h1,h2⟩:=unR_bind h;obtain rfl:=Option.some.inj h2;exact ⟨h1,rfl⟩) site
  exact (f80.b_eq L N m (fun v d=>(unR (.one (.st 1)) v).bind fun x=>some (x,d.1,d.2.1)) d0.1 d0.2.1 d.1 d.2.1 d.2.2.1).trans (Eq.trans (b:=f80.b L N (f80 L N m) (fun a0 a1 a2=>some (a0,a1,a2)) d0.1 d0.2.1 d.1 d.2.1 d.2.2.1) (by kernel_rfl) hy)
 ·intro y hy
  cases hy
theorem Φ80s_ok (L N:Nat):∀m,TellsOk Tryz.prog (Φ80s L N m):=by
 intro m
 induction m with
 |zero=>exact (addT_ok (Φ64_ok L N) (fun args vw site h=>by unfold f80.ent;split<;>(intro y hy;cases hy)))
 |succ m ih=>exact (addT_ok (Φ64_ok L N) (f80.ok L N m ih))
def Φ80 (L N:Nat):Tells:=(addT (Φ64 L N) 80 (f80.ent L N N))
theorem Φ80_ok (L N:Nat):TellsOk Tryz.prog (Φ80 L N):=Φ80s_ok L N N
def f47.b' {R:Type} (L N:Nat) (k:Tree->LI->Int->Option R) (c0:LI) (c1:Int) (x0:Int):Option R:=
 (f49 L N c0 c1 (4:Int)).bind fun y0=>
 (f80 L N N y0.2.1 y0.2.2 (wi ((1:Int)+y0.1)) x0 false).bind fun y1=>
 (f49 L N y1.2.1 y1.2.2 (24:Int)).bind fun y2=>
 bif (y2.1==(0:Int)) then
  k (Tree.mk ((Tree.mk y1.1.op (wi (y1.1.n+(7:Int))) y1.1.parts).op) ((Tree.mk y1.1.op (wi (y1.1.n+(7:Int))) y1.1.parts).n) ((Tree.mk y1.1.op (wi (y1.1.n+(7:Int))) y1.1.parts).parts)) y2.2.1 y2.2.2
 else bif (y2.1==(1:Int)) then
  (f49 L N y2.2.1 y2.2.2 (8:Int)).bind fun y3=>
  k (Tree.mk ((Tree.mk y3.1 y1.1.n y1.1.parts).op) ((Tree.mk y3.1 y1.1.n y1.1.parts).n) ((Tree.mk y3.1 y1.1.n y1.1.parts).parts)) y3.2.1 y3.2.2
 else bif (y2.1==(2:Int)) then
  bif (decide (([(Tree.mk (0:Int) (0:Int) [])]:LT).length+y1.1.parts.length≤lim)) then
   k (Tree.mk y1.1.op y1.1.n (([(Tree.mk (0:Int) (0:Int) [])]:LT)++y1.1.parts)) y2.2.1 y2.2.2
  else none
 else k (Tree.mk ((Tree.mk y1.1.op y1.1.n y1.1.parts).op) ((Tree.mk y1.1.op y1.1.n y1.1.parts).n) ((Tree.mk y1.1.op y1.1.n y1.1.parts).parts)) y2.2.1 y2.2.2
def f47.b {R:Type} (L N:Nat) (k:Tree->LI->Int->Option R) (c0:LI) (c1:Int) (x0:Int):Option R:=
 f47.b' L N k c0 c1 x0
def f47 (L N:Nat) (c0:LI) (c1:Int) (x0:Int):Option (Tree×LI×Int):=f47.b L N (fun a0 a1 a2=>some (a0,a1,a2)) c0 c1 x0
def f47.ent (L N:Nat) (args:List AV) (vw:View) (site:Nat):Ans:=match boxD [(.sl (.int .u8)),i64] [i64] vw args with
 |some (o,d0,d,u)=>⟨Tree×LI×Int,f47 L N d0.1 d0.2.1 d.1,fun y=>((.tv (.st 1) y.1),u++[(o,some (.box [(.tv (.sl (.int .u8)) y.2.1),(.tv i64 y.2.2)]))],[])⟩
 |none=>Ans.no
noncomputable def E47 (L N:Nat):Env:={P:=Tryz.prog,ty:=tyOf,Φ:=(Φ80 L N),inl:=inlT,live:=lives,liveX:=livesX,L:=L,dp:=none,prom:=promT,heal:=healT,ren:=renT}
theorem f47.b_eq {R:Type} (L N:Nat) (κ:AV->Dens [(.sl (.int .u8)),i64]->Option R) (c0:LI) (c1:Int) (x0:Int):
  evBody (E47 L N) (evCallI (E47 L N) 0 1000) 1000 47 Tryz.f47 [(.ptr 0 0),(.tv i64 x0)] [.ptr 0 0] [(0,(.box [(.tv (.sl (.int .u8)) c0),(.tv i64 c1)]))] (finM (.one (.st 1)) [(.sl (.int .u8)),i64] κ)
  =f47.b L N (fun a0 a1 a2=>κ (.tv (.st 1) a0) (a1,a2,())) c0 c1 x0:=by kernel_rfl
theorem f47.ok (L N:Nat) (hΦ:TellsOk Tryz.prog ((Φ80 L N))):EntOk Tryz.prog 47 (f47.ent L N):=by
 intro args vw site h
 unfold f47.ent
 split
 ·rename_i o d0 d u ha
  intro y hy hs
  obtain ⟨rest,cs,rfl,ho,hd0,hr,hu⟩:=boxD_some ha
  refine call_box (y:=y) (dep:=1000) (v':=(.tv (.st 1) y.1)) (d1:=(y.2.1,y.2.2,())) (E:=(E47 L N)) (ts:=[(.sl (.int .u8)),i64]) (tr:=[i64]) (rs:=(.one (.st 1))) (κ:=(fun v d=>(unR (.one (.st 1)) v).bind fun x=>some (x,d.1,d.2.1))) (sound_of hΦ) okP (callI_sound (sound_of hΦ) okP 0 1000) (f:=Tryz.f47) rfl hs ho hd0 hr hu ?_ (fun _ _ h=>by obtain ⟨x,h1,h2⟩:=unR_bind h;obtain rfl:=Option.some.inj h2;exact ⟨h1,rfl⟩) site
  exact (f47.b_eq L N (fun v d=>(unR (.one (.st 1)) v).bind fun x=>some (x,d.1,d.2.1)) d0.1 d0.2.1 d.1).trans (Eq.trans (b:=f47.b L N (fun a0 a1 a2=>some (a0,a1,a2)) d0.1 d0.2.1 d.1) (by kernel_rfl) hy)
 ·intro y hy
  cases hy
def Φ47 (L N:Nat):Tells:=(addT (Φ80 L N) 47 (f47.ent L N))
theorem Φ47_ok (L N:Nat):TellsOk Tryz.prog (Φ47 L N):=addT_ok (Φ80_ok L N) (f47.ok L N (Φ80_ok L N))
def f101.s0' {R:Type} (L N:Nat) (k0_e0:Int->LI->Int->LT->Option R) (rec0:Int->Int->LI->Int->LT->Option R) (s1:Int) (s2:Int) (s3:LI) (s4:Int) (s5:LT):Option R:=
 bif (decide (s2<s1)) then
  (f49 L N s3 s4 (3:Int)).bind fun y10=>
  (f80 L N N y10.2.1 y10.2.2 (wi ((1:Int)+y10.1)) s1 false).bind fun y11=>
  bif (decide (s5.length+([y11.1]:LT).length≤lim)) then
   rec0 s1 (wi (s2+(1:Int))) y11.2.1 y11.2.2 (s5++([y11.1]:LT))
  else none
 else k0_e0 s1 s3 s4 s5
def f101.s0 {R:Type} (L N:Nat) (k0_e0:Int->LI->Int->LT->Option R) (rec0:Int->Int->LI->Int->LT->Option R) (s1:Int) (s2:Int) (s3:LI) (s4:Int) (s5:LT):Option R:=
 f101.s0' L N k0_e0 rec0 s1 s2 s3 s4 s5
def f101.l0 {R:Type} (L N:Nat) (k0_e0:Int->LI->Int->LT->Option R):Nat->Int->Int->LI->Int->LT->Option R
 |0,_,_,_,_,_=>none
 |n+1,s1,s2,s3,s4,s5=>f101.s0 L N k0_e0 (f101.l0 L N k0_e0 n) s1 s2 s3 s4 s5
def f101.T0 (s1:Int) (s2:Int) (s3:LI) (s4:Int) (s5:LT):T:=mkT 41 [(0,(.ptr 0 0)),(3,(.tv i64 s1)),(4,(.row 1008)),(5,(.tv i64 s2))]++[.ptr 0 0]
def f101.H0 (s1:Int) (s2:Int) (s3:LI) (s4:Int) (s5:LT):H:=[(0,(.box [(.tv (.sl (.int .u8)) s3),(.tv i64 s4)])),(1008,(.row 25 (.st 1) s5))]
def f101.T0_e0 (z6:Int) (z7:LI) (z8:Int) (z9:LT):T:=mkT 41 [(0,(.ptr 0 0)),(3,(.tv i64 z6)),(4,(.row 1008))]++[.ptr 0 0]
def f101.H0_e0 (z6:Int) (z7:LI) (z8:Int) (z9:LT):H:=[(0,(.box [(.tv (.sl (.int .u8)) z7),(.tv i64 z8)])),(1008,(.row 25 (.st 1) z9))]
def f101.j0' {R:Type} (L N:Nat) (k:LT->LI->Int->Option R) (v13:Int) (v14:Bool) (v15:LI) (v16:Int) (v17:LT):Option R:=
 bif v14 then
  (f49 L N v15 v16 v13).bind fun y18=>
  (f49 L N y18.2.1 y18.2.2 (wi (v13+(1:Int)))).bind fun y19=>
  bif (decide (0≤y18.1)&&decide (y18.1<(v17.length:Int))) then
   k (v17.set y18.1.toNat (Tree.mk (5:Int) y19.1 [])) y19.2.1 y19.2.2
  else none
 else k v17 v15 v16
def f101.p0_e0' {R:Type} (L N:Nat) (k:LT->LI->Int->Option R) (z6:Int) (z7:LI) (z8:Int) (z9:LT):Option R:=
 bif (decide (z6>(0:Int))) then
  (f49 L N z7 z8 (20:Int)).bind fun y12=>
  f101.j0' L N k z6 (y12.1==(0:Int)) y12.2.1 y12.2.2 z9
 else f101.j0' L N k z6 false z7 z8 z9
def f101.p0_e0 {R:Type} (L N:Nat) (k:LT->LI->Int->Option R) (z6:Int) (z7:LI) (z8:Int) (z9:LT):Option R:=
 f101.p0_e0' L N k z6 z7 z8 z9
def f101.b' {R:Type} (L N:Nat) (k:LT->LI->Int->Option R) (w0:Int->Int->LI->Int->LT->Option R) (c0:LI) (c1:Int):Option R:=
 (f49 L N c0 c1 (4:Int)).bind fun y0=>
 w0 y0.1 (0:Int) y0.2.1 y0.2.2 ([]:LT)
def f101.b {R:Type} (L N:Nat) (k:LT->LI->Int->Option R) (c0:LI) (c1:Int):Option R:=
 f101.b' L N k (fun s1 s2 s3 s4 s5=>f101.l0 L N (fun z6 z7 z8 z9=>f101.p0_e0 L N k z6 z7 z8 z9) L s1 s2 s3 s4 s5) c0 c1
def f101 (L N:Nat) (c0:LI) (c1:Int):Option (LT×LI×Int):=f101.b L N (fun a0 a1 a2=>some (a0,a1,a2)) c0 c1
def f101.ent (L N:Nat) (args:List AV) (vw:View) (site:Nat):Ans:=match boxD [(.sl (.int .u8)),i64] [] vw args with
 |some (o,d0,d,u)=>⟨LT×LI×Int,f101 L N d0.1 d0.2.1,fun y=>((.tv (.sl (.st 1)) y.1),u++[(o,some (.box [(.tv (.sl (.int .u8)) y.2.1),(.tv i64 y.2.2)]))],[])⟩
 |none=>Ans.no
noncomputable def E101 (L N:Nat):Env:={P:=Tryz.prog,ty:=tyOf,Φ:=(Φ47 L N),inl:=inlT,live:=lives,liveX:=livesX,L:=L,dp:=none,prom:=promT,heal:=healT,ren:=renT}
noncomputable def f101.c0:Code:=loopAt 0 (codeOf Tryz.f101)
def f101.X0_e0 {R:Type} (κ:KX R):=fun z6 z7 z8 z9=>κ (.exit 0) (f101.T0_e0 z6 z7 z8 z9) (f101.H0_e0 z6 z7 z8 z9)
def f101.R0 {R:Type} (rec:KT R):=fun s1 s2 s3 s4 s5=>rec (f101.T0 s1 s2 s3 s4 s5) (f101.H0 s1 s2 s3 s4 s5)
theorem f101.s0_eq {R:Type} (L N:Nat) (κ:KX R) (rec:KT R) (s1:Int) (s2:Int) (s3:LI) (s4:Int) (s5:LT):
  evRd (E101 L N) (evCallI (E101 L N) 0 1000) 1000 101 41 0 f101.c0 κ rec (f101.T0 s1 s2 s3 s4 s5) (f101.H0 s1 s2 s3 s4 s5)
  =f101.s0 L N (f101.X0_e0 κ) (f101.R0 rec) s1 s2 s3 s4 s5:=by kernel_rfl
theorem f101.l0_eq {R:Type} (L N:Nat) (κ:KX R):∀(n:Nat) (s1:Int) (s2:Int) (s3:LI) (s4:Int) (s5:LT),
  evLp (E101 L N) (evCallI (E101 L N) 0 1000) 1000 101 41 0 f101.c0 κ n (f101.T0 s1 s2 s3 s4 s5) (f101.H0 s1 s2 s3 s4 s5)
  =f101.l0 L N (f101.X0_e0 κ) n s1 s2 s3 s4 s5:=by
 intro n
 induction n with
 |zero=>intros;rfl
 |succ n ih=>
  intro s1 s2 s3 s4 s5
  rw [evLp_succ,f101.s0_eq]
  delta f101.R0
  simp only [ih]
  rfl
theorem f101.p0_e0_eq {R:Type} (L N:Nat) (κ:AV->Dens [(.sl (.int .u8)),i64]->Option R) (z6:Int) (z7:LI) (z8:Int) (z9:LT):
  (contAt (E101 L N) (evCallI (E101 L N) 0 1000) 1000 101 41 0 (codeOf Tryz.f101) (finK (E101 L N) 1000 Tryz.f101 (finM (.one (.sl (.st 1))) [(.sl (.int .u8)),i64] κ))) (.exit 0) (f101.T0_e0 z6 z7 z8 z9) (f101.H0_e0 z6 z7 z8 z9)
  =f101.p0_e0 L N (fun a0 a1 a2=>κ (.tv (.sl (.st 1)) a0) (a1,a2,())) z6 z7 z8 z9:=by kernel_rfl
theorem f101.b_eq {R:Type} (L N:Nat) (κ:AV->Dens [(.sl (.int .u8)),i64]->Option R) (c0:LI) (c1:Int):
  evBody (E101 L N) (evCallI (E101 L N) 0 1000) 1000 101 Tryz.f101 [(.ptr 0 0)] [.ptr 0 0] [(0,(.box [(.tv (.sl (.int .u8)) c0),(.tv i64 c1)]))] (finM (.one (.sl (.st 1))) [(.sl (.int .u8)),i64] κ)
  =f101.b L N (fun a0 a1 a2=>κ (.tv (.sl (.st 1)) a0) (a1,a2,())) c0 c1:=by
 refine Eq.trans (b:=f101.b' L N (fun a0 a1 a2=>κ (.tv (.sl (.st 1)) a0) (a1,a2,())) (fun s1 s2 s3 s4 s5=>evLp (E101 L N) (evCallI (E101 L N) 0 1000) 1000 101 41 0 f101.c0 (contAt (E101 L N) (evCallI (E101 L N) 0 1000) 1000 101 41 0 (codeOf Tryz.f101) (finK (E101 L N) 1000 Tryz.f101 (finM (.one (.sl (.st 1))) [(.sl (.int .u8)),i64] κ))) L (f101.T0 s1 s2 s3 s4 s5) (f101.H0 s1 s2 s3 s4 s5)) c0 c1) (by kernel_rfl) ?_
 unfold f101.b
 simp only [f101.l0_eq]
 delta f101.X0_e0
 simp only [f101.p0_e0_eq]
theorem f101.ok (L N:Nat) (hΦ:TellsOk Tryz.prog ((Φ47 L N))):EntOk Tryz.prog 101 (f101.ent L N):=by
 intro args vw site h
 unfold f101.ent
 split
 ·rename_i o d0 d u ha
  intro y hy hs
  obtain ⟨rest,cs,rfl,ho,hd0,hr,hu⟩:=boxD_some ha
  refine call_box (y:=y) (dep:=1000) (v':=(.tv (.sl (.st 1)) y.1)) (d1:=(y.2.1,y.2.2,())) (E:=(E101 L N)) (ts:=[(.sl (.int .u8)),i64]) (tr:=[]) (rs:=(.one (.sl (.st 1)))) (κ:=(fun v d=>(unR (.one (.sl (.st 1))) v).bind fun x=>some (x,d.1,d.2.1))) (sound_of hΦ) okP (callI_sound (sound_of hΦ) okP 0 1000) (f:=Tryz.f101) rfl hs ho hd0 hr hu ?_ (fun _ _ h=>by obtain ⟨x,h1,h2⟩:=unR_bind h;obtain rfl:=Option.some.inj h2;exact ⟨h1,rfl⟩) site
  exact (f101.b_eq L N (fun v d=>(unR (.one (.sl (.st 1))) v).bind fun x=>some (x,d.1,d.2.1)) d0.1 d0.2.1).trans (Eq.trans (b:=f101.b L N (fun a0 a1 a2=>some (a0,a1,a2)) d0.1 d0.2.1) (by kernel_rfl) hy)
 ·intro y hy
  cases hy
def Φ101 (L N:Nat):Tells:=(addT (Φ47 L N) 101 (f101.ent L N))
theorem Φ101_ok (L N:Nat):TellsOk Tryz.prog (Φ101 L N):=addT_ok (Φ47_ok L N) (f101.ok L N (Φ47_ok L N))
def f63.j0' {R:Type} (L N:Nat) (k:Tree->LT->LI->Int->Option R) (v3:LT) (v4:Bool) (v5:LI) (v6:Int) (v7:Int) (v8:Int) (v9:Int) (v10:Int) (v11:LT):Option R:=
 bif v4 then
  (f49 L N v5 v6 (v3.length:Int)).bind fun y12=>
  k (Tree.mk (5:Int) y12.1 []) v3 y12.2.1 y12.2.2
 else k (Tree.mk ((Tree.mk v9 v10 v11).op) ((Tree.mk v9 v10 v11).n) ((Tree.mk v9 v10 v11).parts)) v3 v5 v6
def f63.b' {R:Type} (L N:Nat) (k:Tree->LT->LI->Int->Option R) (c0:LI) (c1:Int):Option R:=
 (f101 L N c0 c1).bind fun y0=>
 (f47 L N y0.2.1 y0.2.2 (y0.1.length:Int)).bind fun y1=>
 bif (decide ((y0.1.length:Int)>(0:Int))) then
  (f49 L N y1.2.1 y1.2.2 (3:Int)).bind fun y2=>
  f63.j0' L N k y0.1 (y2.1==(0:Int)) y2.2.1 y2.2.2 (0:Int) (0:Int) y1.1.op y1.1.n y1.1.parts
 else f63.j0' L N k y0.1 false y1.2.1 y1.2.2 (0:Int) (0:Int) y1.1.op y1.1.n y1.1.parts
def f63.b {R:Type} (L N:Nat) (k:Tree->LT->LI->Int->Option R) (c0:LI) (c1:Int):Option R:=
 f63.b' L N k c0 c1
def f63 (L N:Nat) (c0:LI) (c1:Int):Option (Tree×LT×LI×Int):=f63.b L N (fun a0 a1 a2 a3=>some (a0,a1,a2,a3)) c0 c1
def f63.ent (L N:Nat) (args:List AV) (vw:View) (site:Nat):Ans:=match boxD [(.sl (.int .u8)),i64] [] vw args with
 |some (o,d0,d,u)=>⟨Tree×LT×LI×Int,f63 L N d0.1 d0.2.1,fun y=>((.tup [(.tv (.st 1) y.1),(.tv (.sl (.st 1)) y.2.1)]),u++[(o,some (.box [(.tv (.sl (.int .u8)) y.2.2.1),(.tv i64 y.2.2.2)]))],[])⟩
 |none=>Ans.no
noncomputable def E63 (L N:Nat):Env:={P:=Tryz.prog,ty:=tyOf,Φ:=(Φ101 L N),inl:=inlT,live:=lives,liveX:=livesX,L:=L,dp:=none,prom:=promT,heal:=healT,ren:=renT}
theorem f63.b_eq {R:Type} (L N:Nat) (κ:AV->Dens [(.sl (.int .u8)),i64]->Option R) (c0:LI) (c1:Int):
  evBody (E63 L N) (evCallI (E63 L N) 0 1000) 1000 63 Tryz.f63 [(.ptr 0 0)] [.ptr 0 0] [(0,(.box [(.tv (.sl (.int .u8)) c0),(.tv i64 c1)]))] (finM (.many [(.st 1),(.sl (.st 1))]) [(.sl (.int .u8)),i64] κ)
  =f63.b L N (fun a0 a1 a2 a3=>κ (.tup [(.tv (.st 1) a0),(.tv (.sl (.st 1)) a1)]) (a2,a3,())) c0 c1:=by kernel_rfl
theorem f63.ok (L N:Nat) (hΦ:TellsOk Tryz.prog ((Φ101 L N))):EntOk Tryz.prog 63 (f63.ent L N):=by
 intro args vw site h
 unfold f63.ent
 split
 ·rename_i o d0 d u ha
  intro y hy hs
  obtain ⟨rest,cs,rfl,ho,hd0,hr,hu⟩:=boxD_some ha
  refine call_box (y:=y) (dep:=1000) (v':=(.tup [(.tv (.st 1) y.1),(.tv (.sl (.st 1)) y.2.1)])) (d1:=(y.2.2.1,y.2.2.2,())) (E:=(E63 L N)) (ts:=[(.sl (.int .u8)),i64]) (tr:=[]) (rs:=(.many [(.st 1),(.sl (.st 1))])) (κ:=(fun v d=>(unR (.many [(.st 1),(.sl (.st 1))]) v).bind fun x=>some (x.1,x.2,d.1,d.2.1))) (sound_of hΦ) okP (callI_sound (sound_of hΦ) okP 0 1000) (f:=Tryz.f63) rfl hs ho hd0 hr hu ?_ (fun _ _ h=>by obtain ⟨x,h1,h2⟩:=unR_bind h;obtain rfl:=Option.some.inj h2;exact ⟨h1,rfl⟩) site
  exact (f63.b_eq L N (fun v d=>(unR (.many [(.st 1),(.sl (.st 1))]) v).bind fun x=>some (x.1,x.2,d.1,d.2.1)) d0.1 d0.2.1).trans (Eq.trans (b:=f63.b L N (fun a0 a1 a2 a3=>some (a0,a1,a2,a3)) d0.1 d0.2.1) (by kernel_rfl) hy)
 ·intro y hy
  cases hy
def Φ63 (L N:Nat):Tells:=(addT (Φ101 L N) 63 (f63.ent L N))
theorem Φ63_ok (L N:Nat):TellsOk Tryz.prog (Φ63 L N):=addT_ok (Φ101_ok L N) (f63.ok L N (Φ101_ok L N))
def f34.j0' {R:Type} (L N:Nat) (k:Tree->Tree->LT->LI->Int->Option R) (v3:LT) (v4:Bool) (v5:LI) (v6:Int) (v7:Int) (v8:Int) (v9:Int) (v10:Int) (v11:Int) (v12:Int) (v13:LT) (v14:Int) (v15:Int) (v16:LT):Option R:=
 bif v4 then
  bif (decide (0≤(1:Int))&&decide ((1:Int)<(v13.length:Int))) then
   bif (decide (0≤(0:Int))&&decide ((0:Int)<(v13.length:Int))) then
    k (Tree.mk ((Tree.mk v11 v12 v13).op) ((Tree.mk v11 v12 v13).n) ((Tree.mk v11 v12 v13).parts)) (Tree.mk v11 (0:Int) ([(listAt v13 (Ty.dflt (.st 1)) (1:Int).toNat),(listAt v13 (Ty.dflt (.st 1)) (0:Int).toNat)]:LT)) v3 v5 v6
   else none
  else none
 else k (Tree.mk ((Tree.mk v11 v12 v13).op) ((Tree.mk v11 v12 v13).n) ((Tree.mk v11 v12 v13).parts)) (Tree.mk ((Tree.mk v14 v15 v16).op) ((Tree.mk v14 v15 v16).n) ((Tree.mk v14 v15 v16).parts)) v3 v5 v6
def f34.b' {R:Type} (L N:Nat) (k:Tree->Tree->LT->LI->Int->Option R) (c0:LI) (c1:Int):Option R:=
 (f63 L N c0 c1).bind fun y0=>
 (f47 L N y0.2.2.1 y0.2.2.2 (y0.2.1.length:Int)).bind fun y1=>
 (f49 L N y1.2.1 y1.2.2 (5:Int)).bind fun y2=>
 bif (y2.1==(0:Int)) then
  k (Tree.mk ((Tree.mk y0.1.op y0.1.n y0.1.parts).op) ((Tree.mk y0.1.op y0.1.n y0.1.parts).n) ((Tree.mk y0.1.op y0.1.n y0.1.parts).parts)) (Tree.mk (2:Int) (0:Int) ([(Tree.mk y0.1.op y0.1.n y0.1.parts),(Tree.mk y0.1.op y0.1.n y0.1.parts)]:LT)) y0.2.1 y2.2.1 y2.2.2
 else bif (y2.1==(1:Int)) then
  k (Tree.mk ((Tree.mk y0.1.op y0.1.n y0.1.parts).op) ((Tree.mk y0.1.op y0.1.n y0.1.parts).n) ((Tree.mk y0.1.op y0.1.n y0.1.parts).parts)) (Tree.mk (3:Int) (0:Int) ([(Tree.mk y0.1.op y0.1.n y0.1.parts),(Tree.mk (0:Int) (0:Int) [])]:LT)) y0.2.1 y2.2.1 y2.2.2
 else bif (y2.1==(2:Int)) then
  bif (y0.1.op==(2:Int)) then
   f34.j0' L N k y0.2.1 ((y0.1.parts.length:Int)==(2:Int)) y2.2.1 y2.2.2 (0:Int) (0:Int) (0:Int) (0:Int) y0.1.op y0.1.n y0.1.parts y1.1.op y1.1.n y1.1.parts
  else bif (y0.1.op==(3:Int)) then
   f34.j0' L N k y0.2.1 ((y0.1.parts.length:Int)==(2:Int)) y2.2.1 y2.2.2 (0:Int) (0:Int) (0:Int) (0:Int) y0.1.op y0.1.n y0.1.parts y1.1.op y1.1.n y1.1.parts
  else f34.j0' L N k y0.2.1 false y2.2.1 y2.2.2 (0:Int) (0:Int) (0:Int) (0:Int) y0.1.op y0.1.n y0.1.parts y1.1.op y1.1.n y1.1.parts
 else bif (y2.1==(3:Int)) then
  (f64 L N y2.2.1 y2.2.2).bind fun y17=>
  k (Tree.mk (1:Int) y17.1 ([(Tree.mk y0.1.op y0.1.n y0.1.parts)]:LT)) (Tree.mk (1:Int) y17.1 ([(Tree.mk (1:Int) (0:Int) ([(Tree.mk y0.1.op y0.1.n y0.1.parts)]:LT))]:LT)) y0.2.1 y17.2.1 y17.2.2
 else k (Tree.mk ((Tree.mk y0.1.op y0.1.n y0.1.parts).op) ((Tree.mk y0.1.op y0.1.n y0.1.parts).n) ((Tree.mk y0.1.op y0.1.n y0.1.parts).parts)) (Tree.mk ((Tree.mk y1.1.op y1.1.n y1.1.parts).op) ((Tree.mk y1.1.op y1.1.n y1.1.parts).n) ((Tree.mk y1.1.op y1.1.n y1.1.parts).parts)) y0.2.1 y2.2.1 y2.2.2
def f34.b {R:Type} (L N:Nat) (k:Tree->Tree->LT->LI->Int->Option R) (c0:LI) (c1:Int):Option R:=
 f34.b' L N k c0 c1
def f34 (L N:Nat) (c0:LI) (c1:Int):Option (Tree×Tree×LT×LI×Int):=f34.b L N (fun a0 a1 a2 a3 a4=>some (a0,a1,a2,a3,a4)) c0 c1
def f34.ent (L N:Nat) (args:List AV) (vw:View) (site:Nat):Ans:=match boxD [(.sl (.int .u8)),i64] [] vw args with
 |some (o,d0,d,u)=>⟨Tree×Tree×LT×LI×Int,f34 L N d0.1 d0.2.1,fun y=>((.tup [(.tv (.st 1) y.1),(.tv (.st 1) y.2.1),(.tv (.sl (.st 1)) y.2.2.1)]),u++[(o,some (.box [(.tv (.sl (.int .u8)) y.2.2.2.1),(.tv i64 y.2.2.2.2)]))],[])⟩
 |none=>Ans.no
noncomputable def E34 (L N:Nat):Env:={P:=Tryz.prog,ty:=tyOf,Φ:=(Φ63 L N),inl:=inlT,live:=lives,liveX:=livesX,L:=L,dp:=none,prom:=promT,heal:=healT,ren:=renT}
theorem f34.b_eq {R:Type} (L N:Nat) (κ:AV->Dens [(.sl (.int .u8)),i64]->Option R) (c0:LI) (c1:Int):
  evBody (E34 L N) (evCallI (E34 L N) 0 1000) 1000 34 Tryz.f34 [(.ptr 0 0)] [.ptr 0 0] [(0,(.box [(.tv (.sl (.int .u8)) c0),(.tv i64 c1)]))] (finM (.many [(.st 1),(.st 1),(.sl (.st 1))]) [(.sl (.int .u8)),i64] κ)
  =f34.b L N (fun a0 a1 a2 a3 a4=>κ (.tup [(.tv (.st 1) a0),(.tv (.st 1) a1),(.tv (.sl (.st 1)) a2)]) (a3,a4,())) c0 c1:=by kernel_rfl
theorem f34.ok (L N:Nat) (hΦ:TellsOk Tryz.prog ((Φ63 L N))):EntOk Tryz.prog 34 (f34.ent L N):=by
 intro args vw site h
 unfold f34.ent
 split
 ·rename_i o d0 d u ha
  intro y hy hs
  obtain ⟨rest,cs,rfl,ho,hd0,hr,hu⟩:=boxD_some ha
  refine call_box (y:=y) (dep:=1000) (v':=(.tup [(.tv (.st 1) y.1),(.tv (.st 1) y.2.1),(.tv (.sl (.st 1)) y.2.2.1)])) (d1:=(y.2.2.2.1,y.2.2.2.2,())) (E:=(E34 L N)) (ts:=[(.sl (.int .u8)),i64]) (tr:=[]) (rs:=(.many [(.st 1),(.st 1),(.sl (.st 1))])) (κ:=(fun v d=>(unR (.many [(.st 1),(.st 1),(.sl (.st 1))]) v).bind fun x=>some (x.1,x.2.1,x.2.2,d.1,d.2.1))) (sound_of hΦ) okP (callI_sound (sound_of hΦ) okP 0 1000) (f:=Tryz.f34) rfl hs ho hd0 hr hu ?_ (fun _ _ h=>by obtain ⟨x,h1,h2⟩:=unR_bind h;obtain rfl:=Option.some.inj h2;exact ⟨h1,rfl⟩) site
  exact (f34.b_eq L N (fun v d=>(unR (.many [(.st 1),(.st 1),(.sl (.st 1))]) v).bind fun x=>some (x.1,x.2.1,x.2.2,d.1,d.2.1)) d0.1 d0.2.1).trans (Eq.trans (b:=f34.b L N (fun a0 a1 a2 a3 a4=>some (a0,a1,a2,a3,a4)) d0.1 d0.2.1) (by kernel_rfl) hy)
 ·intro y hy
  cases hy
def Φ34 (L N:Nat):Tells:=(addT (Φ63 L N) 34 (f34.ent L N))
theorem Φ34_ok (L N:Nat):TellsOk Tryz.prog (Φ34 L N):=addT_ok (Φ63_ok L N) (f34.ok L N (Φ63_ok L N))
def f32.b' {R:Type} (L N:Nat) (k:Tree->Tree->LT->Option R) (x0:LI):Option R:=
 (f33 L N x0).bind fun y0=>
 (f34 L N y0.1 y0.2).bind fun y1=>
 k (Tree.mk ((Tree.mk y1.1.op y1.1.n y1.1.parts).op) ((Tree.mk y1.1.op y1.1.n y1.1.parts).n) ((Tree.mk y1.1.op y1.1.n y1.1.parts).parts)) (Tree.mk ((Tree.mk y1.2.1.op y1.2.1.n y1.2.1.parts).op) ((Tree.mk y1.2.1.op y1.2.1.n y1.2.1.parts).n) ((Tree.mk y1.2.1.op y1.2.1.n y1.2.1.parts).parts)) y1.2.2.1
def f32.b {R:Type} (L N:Nat) (k:Tree->Tree->LT->Option R) (x0:LI):Option R:=
 f32.b' L N k x0
def f32 (L N:Nat) (x0:LI):Option (Tree×Tree×LT):=f32.b L N (fun a0 a1 a2=>some (a0,a1,a2)) x0
def f32.ent (L N:Nat):=entDa [(.sl (.int .u8))] (.many [(.st 1),(.st 1),(.sl (.st 1))]) fun d=>f32 L N d.1
noncomputable def E32 (L N:Nat):Env:={P:=Tryz.prog,ty:=tyOf,Φ:=(Φ34 L N),inl:=inlT,live:=lives,liveX:=livesX,L:=L,dp:=none,prom:=promT,heal:=healT,ren:=renT}
theorem f32.b_eq {R:Type} (L N:Nat) (κ:AV->Option R) (x0:LI):
  evBody (E32 L N) (evCallI (E32 L N) 0 1000) 1000 32 Tryz.f32 [(.tv (.sl (.int .u8)) x0)] [] [] (finC (.many [(.st 1),(.st 1),(.sl (.st 1))]) κ)
  =f32.b L N (fun a0 a1 a2=>κ (.tup [(.tv (.st 1) a0),(.tv (.st 1) a1),(.tv (.sl (.st 1)) a2)])) x0:=by kernel_rfl
theorem f32.ok (L N:Nat) (hΦ:TellsOk Tryz.prog ((Φ34 L N))):EntOk Tryz.prog 32 (f32.ent L N):=entDa_ok (E:=(E32 L N)) (dep:=1000) (f:=Tryz.f32) (sound_of hΦ) okP (callI_sound (sound_of hΦ) okP 0 1000) rfl fun d _ hy=>(f32.b_eq L N (unR (.many [(.st 1),(.st 1),(.sl (.st 1))])) d.1).trans (Eq.trans (b:=f32.b L N (fun a0 a1 a2=>some (a0,a1,a2)) d.1) (by kernel_rfl) hy)
def Φ32 (L N:Nat):Tells:=(addT (Φ34 L N) 32 (f32.ent L N))
theorem Φ32_ok (L N:Nat):TellsOk Tryz.prog (Φ32 L N):=addT_ok (Φ34_ok L N) (f32.ok L N (Φ34_ok L N))
def f9.j0' {R:Type} (L N:Nat) (k:Bool->Option R) (v12:LT) (v13:Bool) (v14:Int) (v15:Int) (v16:LT) (v17:Int) (v18:Int) (v19:LT):Option R:=
 (f13 L N (1:Int) (0:Int) ([(Tree.mk v14 v15 v16)]:LT)).bind fun y20=>
 (f14 L N (Tree.mk v14 v15 v16) y20 v12).bind fun y21=>
 (f15 L N (Tree.mk v14 v15 v16) (Tree.mk v17 v18 v19) v12).bind fun y22=>
 bif (!y21.2) then
  bif (!y22.1) then
   k true
  else k v13
 else bif y21.1 then
  bif (!y22.1) then
   k true
  else k v13
 else k false
def f9.b' {R:Type} (L N:Nat) (k:Bool->Option R) (x0:LI):Option R:=
 bif (decide ((x0.length:Int)>(1048576:Int))) then
  k true
 else (f32 L N x0).bind fun y0=>
 (f14 L N (Tree.mk y0.1.op y0.1.n y0.1.parts) (Tree.mk y0.2.1.op y0.2.1.n y0.2.1.parts) y0.2.2).bind fun y1=>
 (f27 L N (Tree.mk y0.1.op y0.1.n y0.1.parts) (Tree.mk y0.2.1.op y0.2.1.n y0.2.1.parts) y0.2.2).bind fun y2=>
 bif (!(y1.1==y2.1)) then
  k false
 else bif (!(y1.2==y2.2)) then
  k false
 else f9.j0' L N k y0.2.2 y1.1 y0.1.op y0.1.n y0.1.parts y0.2.1.op y0.2.1.n y0.2.1.parts
def f9.b {R:Type} (L N:Nat) (k:Bool->Option R) (x0:LI):Option R:=
 f9.b' L N k x0
def f9 (L N:Nat) (x0:LI):Option (Bool):=f9.b L N some x0
def f9.ent (L N:Nat):=entRo [(.sl (.int .u8))] (.one .bool) fun d=>f9 L N d.1
noncomputable def E9 (L N:Nat):Env:={P:=Tryz.prog,ty:=tyOf,Φ:=(Φ32 L N),inl:=inlT,live:=lives,liveX:=livesX,L:=L,dp:=none,prom:=promT,heal:=healT,ren:=renT}
theorem f9.b_eq {R:Type} (L N:Nat) (κ:AV->Option R) (x0:LI):
  evBody (E9 L N) (evCallI (E9 L N) 0 1000) 1000 9 Tryz.f9 [(.tv (.sl (.int .u8)) x0)] [] [] (finC (.one .bool) κ)
  =f9.b L N (fun a0=>κ (.tv .bool a0)) x0:=by kernel_rfl
theorem f9.ok (L N:Nat) (hΦ:TellsOk Tryz.prog ((Φ32 L N))):EntOk Tryz.prog 9 (f9.ent L N):=entRo_ok (E:=(E9 L N)) (dep:=1000) (f:=Tryz.f9) (sound_of hΦ) okP (callI_sound (sound_of hΦ) okP 0 1000) rfl rfl fun d _ hy=>(f9.b_eq L N (unR (.one .bool)) d.1).trans (Eq.trans (b:=f9.b L N some d.1) (by kernel_rfl) hy)
def Φ9 (L N:Nat):Tells:=(addT (Φ32 L N) 9 (f9.ent L N))
theorem Φ9_ok (L N:Nat):TellsOk Tryz.prog (Φ9 L N):=addT_ok (Φ32_ok L N) (f9.ok L N (Φ32_ok L N))
end Go.Proofs.YthidlhjjnaldhaaGreatDoor.Ev
