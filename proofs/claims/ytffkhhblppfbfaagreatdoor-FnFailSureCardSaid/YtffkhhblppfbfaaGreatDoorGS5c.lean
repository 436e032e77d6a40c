/- The seat's functions as plain functions, continued: made by program (wip/gen/gen.py). -/
import Derived.Test.YtffkhhblppfbfaaGreatDoorGS5b
namespace Go.Proofs.YtffkhhblppfbfaaGreatDoor.Ev
open Go
set_option linter.unusedVariables false
set_option maxRecDepth 20000
def f99.H1 (s5:Int) (s6:LM) (s7:Int) (s8:LLM) (s9:LI) (s10:LB):H:=[(1002,(.box [(.tv (.sl (.sl (.st 0))) s8)])),(1011,(.row 3 i64 s9)),(1015,(.row 4 .bool s10))]
def f99.T1_e2 (z11:Int) (z12:LLM) (z13:LI) (z14:LB):T:=mkT 64 [(2,(.ptr 1002 0)),(5,(.row 1011)),(6,(.row 1015)),(7,(.tv i64 z11))]
def f99.H1_e2 (z11:Int) (z12:LLM) (z13:LI) (z14:LB):H:=[(1002,(.box [(.tv (.sl (.sl (.st 0))) z12)])),(1011,(.row 3 i64 z13)),(1015,(.row 4 .bool z14))]
def f99.p1_e2' {R:Type} (L N:Nat) (k0_e0:LI→Option R) (rec0:Int→LLM→LI→LB→Option R) (z11:Int) (z12:LLM) (z13:LI) (z14:LB):Option R:=
 rec0 (wi (z11+(1:Int))) z12 z13 z14
def f99.p1_e2 {R:Type} (L N:Nat) (k0_e0:LI→Option R) (rec0:Int→LLM→LI→LB→Option R) (z11:Int) (z12:LLM) (z13:LI) (z14:LB):Option R:=
 f99.p1_e2' L N k0_e0 rec0 z11 z12 z13 z14
def f99.s0' {R:Type} (L N:Nat) (k0_e0:LI→Option R) (rec0:Int→LLM→LI→LB→Option R) (w1:Int→LM→Int→LLM→LI→LB→Option R) (s0:Int) (s1:LLM) (s2:LI) (s3:LB):Option R:=
 bif (decide (s0<(s2.length:Int))) then
  bif (decide (0≤s0)&&decide (s0<(s2.length:Int))) then
   bif (decide (0≤(listAt s2 (0:Int) s0.toNat))&&decide ((listAt s2 (0:Int) s0.toNat)<(s1.length:Int))) then
    w1 s0 (listAt s1 [] (listAt s2 (0:Int) s0.toNat).toNat) (0:Int) s1 s2 s3
   else none
  else none
 else k0_e0 s2
def f99.s0 {R:Type} (L N:Nat) (k0_e0:LI→Option R) (rec0:Int→LLM→LI→LB→Option R) (s0:Int) (s1:LLM) (s2:LI) (s3:LB):Option R:=
 f99.s0' L N k0_e0 rec0 (fun s5 s6 s7 s8 s9 s10=>f99.l1 L N (fun z11 z12 z13 z14=>f99.p1_e2 L N k0_e0 rec0 z11 z12 z13 z14) L s5 s6 s7 s8 s9 s10) s0 s1 s2 s3
def f99.l0 {R:Type} (L N:Nat) (k0_e0:LI→Option R):Nat→Int→LLM→LI→LB→Option R
 |0,_,_,_,_=>none
 |n+1,s0,s1,s2,s3=>f99.s0 L N k0_e0 (f99.l0 L N k0_e0 n) s0 s1 s2 s3
def f99.T0 (s0:Int) (s1:LLM) (s2:LI) (s3:LB):T:=mkT 64 [(2,(.ptr 1002 0)),(5,(.row 1011)),(6,(.row 1015)),(7,(.tv i64 s0))]
def f99.H0 (s0:Int) (s1:LLM) (s2:LI) (s3:LB):H:=[(1002,(.box [(.tv (.sl (.sl (.st 0))) s1)])),(1011,(.row 3 i64 s2)),(1015,(.row 4 .bool s3))]
def f99.T0_e0 (z4:LI):T:=mkT 64 [(5,(.row 1011))]
def f99.H0_e0 (z4:LI):H:=[(1011,(.row 3 i64 z4))]
def f99.p0_e0' {R:Type} (L N:Nat) (k:LI→Option R) (z4:LI):Option R:=
 k z4
def f99.p0_e0 {R:Type} (L N:Nat) (k:LI→Option R) (z4:LI):Option R:=
 f99.p0_e0' L N k z4
def f99.b' {R:Type} (L N:Nat) (k:LI→Option R) (w0:Int→LLM→LI→LB→Option R) (x0:Graph) (x1:Int):Option R:=
 bif (decide (0≤(x0.moves.length:Int))&&decide ((x0.moves.length:Int)≤(lim:Int))) then
  bif (decide (0≤x1)&&decide (x1<((List.replicate (x0.moves.length:Int).toNat false).length:Int))) then
   w0 (0:Int) x0.moves ([x1]:LI) ((List.replicate (x0.moves.length:Int).toNat false).set x1.toNat true)
  else none
 else none
def f99.b {R:Type} (L N:Nat) (k:LI→Option R) (x0:Graph) (x1:Int):Option R:=
 f99.b' L N k (fun s0 s1 s2 s3=>f99.l0 L N (fun z4=>f99.p0_e0 L N k z4) L s0 s1 s2 s3) x0 x1
def f99 (L N:Nat) (x0:Graph) (x1:Int):Option (LI):=f99.b L N some x0 x1
def f99.ent (L N:Nat):=entDa [(.st 2),i64] (.one (.sl i64)) fun d=>f99 L N d.1 d.2.1
noncomputable def E99 (L N:Nat):Env:={P:=Tryz.prog,ty:=tyOf,Φ:=(Φ98 L N),inl:=inlT,live:=lives,liveX:=livesX,L:=L,dp:=none,prom:=promT,heal:=healT,ren:=renT}
noncomputable def f99.c0:Code:=loopAt 0 (codeOf Tryz.f99)
noncomputable def f99.c1:Code:=loopAt 2 f99.c0
def f99.X1_e2 {R:Type} (κ:KX R):=fun z11 z12 z13 z14=>κ (.exit 2) (f99.T1_e2 z11 z12 z13 z14) (f99.H1_e2 z11 z12 z13 z14)
def f99.R1 {R:Type} (rec:KT R):=fun s5 s6 s7 s8 s9 s10=>rec (f99.T1 s5 s6 s7 s8 s9 s10) (f99.H1 s5 s6 s7 s8 s9 s10)
theorem f99.s1_eq {R:Type} (L N:Nat) (κ:KX R) (rec:KT R) (s5:Int) (s6:LM) (s7:Int) (s8:LLM) (s9:LI) (s10:LB):
  evRd (E99 L N) (evCallI (E99 L N) 1 2000) 1000 99 64 2 f99.c1 κ rec (f99.T1 s5 s6 s7 s8 s9 s10) (f99.H1 s5 s6 s7 s8 s9 s10)
  =f99.s1 L N (f99.X1_e2 κ) (f99.R1 rec) s5 s6 s7 s8 s9 s10:=by kernel_rfl
theorem f99.l1_eq {R:Type} (L N:Nat) (κ:KX R):∀(n:Nat) (s5:Int) (s6:LM) (s7:Int) (s8:LLM) (s9:LI) (s10:LB),
  evLp (E99 L N) (evCallI (E99 L N) 1 2000) 1000 99 64 2 f99.c1 κ n (f99.T1 s5 s6 s7 s8 s9 s10) (f99.H1 s5 s6 s7 s8 s9 s10)
  =f99.l1 L N (f99.X1_e2 κ) n s5 s6 s7 s8 s9 s10:=by
 intro n
 induction n with
 |zero=>intros;rfl
 |succ n ih=>
  intro s5 s6 s7 s8 s9 s10
  rw [evLp_succ,f99.s1_eq]
  delta f99.R1
  simp only [ih]
  rfl
def f99.X0_e0 {R:Type} (κ:KX R):=fun z4=>κ (.exit 0) (f99.T0_e0 z4) (f99.H0_e0 z4)
def f99.R0 {R:Type} (rec:KT R):=fun s0 s1 s2 s3=>rec (f99.T0 s0 s1 s2 s3) (f99.H0 s0 s1 s2 s3)
theorem f99.p1_e2_eq {R:Type} (L N:Nat) (κ:KX R) (rec:KT R) (z11:Int) (z12:LLM) (z13:LI) (z14:LB):
  (contAt (E99 L N) (evCallI (E99 L N) 1 2000) 1000 99 64 2 f99.c0 (rdK (E99 L N) 1000 99 64 0 κ rec)) (.exit 2) (f99.T1_e2 z11 z12 z13 z14) (f99.H1_e2 z11 z12 z13 z14)
  =f99.p1_e2 L N (f99.X0_e0 κ) (f99.R0 rec) z11 z12 z13 z14:=by kernel_rfl
theorem f99.s0_eq {R:Type} (L N:Nat) (κ:KX R) (rec:KT R) (s0:Int) (s1:LLM) (s2:LI) (s3:LB):
  evRd (E99 L N) (evCallI (E99 L N) 1 2000) 1000 99 64 0 f99.c0 κ rec (f99.T0 s0 s1 s2 s3) (f99.H0 s0 s1 s2 s3)
  =f99.s0 L N (f99.X0_e0 κ) (f99.R0 rec) s0 s1 s2 s3:=by
 refine Eq.trans (b:=f99.s0' L N (f99.X0_e0 κ) (f99.R0 rec) (fun s5 s6 s7 s8 s9 s10=>evLp (E99 L N) (evCallI (E99 L N) 1 2000) 1000 99 64 2 f99.c1 (contAt (E99 L N) (evCallI (E99 L N) 1 2000) 1000 99 64 2 f99.c0 (rdK (E99 L N) 1000 99 64 0 κ rec)) L (f99.T1 s5 s6 s7 s8 s9 s10) (f99.H1 s5 s6 s7 s8 s9 s10)) s0 s1 s2 s3) (by kernel_rfl) ?_
 unfold f99.s0
 simp only [f99.l1_eq]
 delta f99.X1_e2
 simp only [f99.p1_e2_eq]
theorem f99.l0_eq {R:Type} (L N:Nat) (κ:KX R):∀(n:Nat) (s0:Int) (s1:LLM) (s2:LI) (s3:LB),
  evLp (E99 L N) (evCallI (E99 L N) 1 2000) 1000 99 64 0 f99.c0 κ n (f99.T0 s0 s1 s2 s3) (f99.H0 s0 s1 s2 s3)
  =f99.l0 L N (f99.X0_e0 κ) n s0 s1 s2 s3:=by
 intro n
 induction n with
 |zero=>intros;rfl
 |succ n ih=>
  intro s0 s1 s2 s3
  rw [evLp_succ,f99.s0_eq]
  delta f99.R0
  simp only [ih]
  rfl
theorem f99.p0_e0_eq {R:Type} (L N:Nat) (κ:AV→Option R) (z4:LI):
  (contAt (E99 L N) (evCallI (E99 L N) 1 2000) 1000 99 64 0 (codeOf Tryz.f99) (finK (E99 L N) 1000 Tryz.f99 (finC (.one (.sl i64)) κ))) (.exit 0) (f99.T0_e0 z4) (f99.H0_e0 z4)
  =f99.p0_e0 L N (fun a0=>κ (.tv (.sl i64) a0)) z4:=by kernel_rfl
theorem f99.b_eq {R:Type} (L N:Nat) (κ:AV→Option R) (x0:Graph) (x1:Int):
  evBody (E99 L N) (evCallI (E99 L N) 1 2000) 1000 99 Tryz.f99 [(.tv (.st 2) x0),(.tv i64 x1)] [] [] (finC (.one (.sl i64)) κ)
  =f99.b L N (fun a0=>κ (.tv (.sl i64) a0)) x0 x1:=by
 refine Eq.trans (b:=f99.b' L N (fun a0=>κ (.tv (.sl i64) a0)) (fun s0 s1 s2 s3=>evLp (E99 L N) (evCallI (E99 L N) 1 2000) 1000 99 64 0 f99.c0 (contAt (E99 L N) (evCallI (E99 L N) 1 2000) 1000 99 64 0 (codeOf Tryz.f99) (finK (E99 L N) 1000 Tryz.f99 (finC (.one (.sl i64)) κ))) L (f99.T0 s0 s1 s2 s3) (f99.H0 s0 s1 s2 s3)) x0 x1) (by kernel_rfl) ?_
 unfold f99.b
 simp only [f99.l0_eq]
 delta f99.X0_e0
 simp only [f99.p0_e0_eq]
theorem f99.ok (L N:Nat) (hΦ:TellsOk Tryz.prog ((Φ98 L N))):EntOk Tryz.prog 99 (f99.ent L N):=entDa_ok (E:=(E99 L N)) (dep:=1000) (f:=Tryz.f99) (sound_of hΦ) okP (callI_sound (sound_of hΦ) okP 1 2000) rfl fun d _ hy=>(f99.b_eq L N (unR (.one (.sl i64))) d.1 d.2.1).trans (Eq.trans (b:=f99.b L N some d.1 d.2.1) (by kernel_rfl) hy)
def Φ99 (L N:Nat):Tells:=(addT (Φ98 L N) 99 (f99.ent L N))
theorem Φ99_ok (L N:Nat):TellsOk Tryz.prog (Φ99 L N):=addT_ok (Φ98_ok L N) (f99.ok L N (Φ98_ok L N))
def f68.s0' {R:Type} (L N:Nat) (k0_e0:Option R) (k0_r:Bool→Option R) (rec0:LB→LI→Int→Option R) (s2:LB) (s3:LI) (s4:Int):Option R:=
 bif (decide (s4<(s3.length:Int))) then
  bif (decide (0≤s4)&&decide (s4<(s3.length:Int))) then
   bif (decide (0≤(listAt s3 (0:Int) s4.toNat))&&decide ((listAt s3 (0:Int) s4.toNat)<(s2.length:Int))) then
    bif (listAt s2 false (listAt s3 (0:Int) s4.toNat).toNat) then
     k0_r false
    else rec0 s2 s3 (wi (s4+(1:Int)))
   else none
  else none
 else k0_e0
def f68.s0 {R:Type} (L N:Nat) (k0_e0:Option R) (k0_r:Bool→Option R) (rec0:LB→LI→Int→Option R) (s2:LB) (s3:LI) (s4:Int):Option R:=
 f68.s0' L N k0_e0 k0_r rec0 s2 s3 s4
def f68.l0 {R:Type} (L N:Nat) (k0_e0:Option R) (k0_r:Bool→Option R):Nat→LB→LI→Int→Option R
 |0,_,_,_=>none
 |n+1,s2,s3,s4=>f68.s0 L N k0_e0 k0_r (f68.l0 L N k0_e0 k0_r n) s2 s3 s4
def f68.T0 (s2:LB) (s3:LI) (s4:Int):T:=mkT 23 [(3,(.tv (.sl .bool) s2)),(4,(.tv (.sl i64) s3)),(5,(.tv i64 s4))]
def f68.H0 (s2:LB) (s3:LI) (s4:Int):H:=[]
def f68.T0_e0:T:=mkT 23 []
def f68.H0_e0:H:=[]
def f68.T0_r (z5:Bool):T:=mkT 23 [(2,(.tv .bool z5))]
def f68.H0_r (z5:Bool):H:=[]
def f68.p0_e0' {R:Type} (L N:Nat) (k:Bool→Option R):Option R:=
 k true
def f68.p0_e0 {R:Type} (L N:Nat) (k:Bool→Option R):Option R:=
 f68.p0_e0' L N k
def f68.p0_r' {R:Type} (L N:Nat) (k:Bool→Option R) (z5:Bool):Option R:=
 k z5
def f68.p0_r {R:Type} (L N:Nat) (k:Bool→Option R) (z5:Bool):Option R:=
 f68.p0_r' L N k z5
def f68.b' {R:Type} (L N:Nat) (k:Bool→Option R) (w0:LB→LI→Int→Option R) (x0:Graph):Option R:=
 (f98 L N (Graph.mk x0.moves)).bind fun y0=>
 (f99 L N (Graph.mk x0.moves) (0:Int)).bind fun y1=>
 w0 y0 y1 (0:Int)
def f68.b {R:Type} (L N:Nat) (k:Bool→Option R) (x0:Graph):Option R:=
 f68.b' L N k (fun s2 s3 s4=>f68.l0 L N (f68.p0_e0 L N k) (fun z5=>f68.p0_r L N k z5) L s2 s3 s4) x0
def f68 (L N:Nat) (x0:Graph):Option (Bool):=f68.b L N some x0
def f68.ent (L N:Nat):=entRo [(.st 2)] (.one .bool) fun d=>f68 L N d.1
noncomputable def E68 (L N:Nat):Env:={P:=Tryz.prog,ty:=tyOf,Φ:=(Φ99 L N),inl:=inlT,live:=lives,liveX:=livesX,L:=L,dp:=none,prom:=promT,heal:=healT,ren:=renT}
noncomputable def f68.c0:Code:=loopAt 0 (codeOf Tryz.f68)
def f68.X0_e0 {R:Type} (κ:KX R):=κ (.exit 0) f68.T0_e0 f68.H0_e0
def f68.X0_r {R:Type} (κ:KX R):=fun z5=>κ .ret (f68.T0_r z5) (f68.H0_r z5)
def f68.R0 {R:Type} (rec:KT R):=fun s2 s3 s4=>rec (f68.T0 s2 s3 s4) (f68.H0 s2 s3 s4)
theorem f68.s0_eq {R:Type} (L N:Nat) (κ:KX R) (rec:KT R) (s2:LB) (s3:LI) (s4:Int):
  evRd (E68 L N) (evCallI (E68 L N) 1 2000) 1000 68 23 0 f68.c0 κ rec (f68.T0 s2 s3 s4) (f68.H0 s2 s3 s4)
  =f68.s0 L N (f68.X0_e0 κ) (f68.X0_r κ) (f68.R0 rec) s2 s3 s4:=by kernel_rfl
theorem f68.l0_eq {R:Type} (L N:Nat) (κ:KX R):∀(n:Nat) (s2:LB) (s3:LI) (s4:Int),
  evLp (E68 L N) (evCallI (E68 L N) 1 2000) 1000 68 23 0 f68.c0 κ n (f68.T0 s2 s3 s4) (f68.H0 s2 s3 s4)
  =f68.l0 L N (f68.X0_e0 κ) (f68.X0_r κ) n s2 s3 s4:=by
 intro n
 induction n with
 |zero=>intros;rfl
 |succ n ih=>
  intro s2 s3 s4
  rw [evLp_succ,f68.s0_eq]
  delta f68.R0
  simp only [ih]
  rfl
theorem f68.p0_e0_eq {R:Type} (L N:Nat) (κ:AV→Option R):
  (contAt (E68 L N) (evCallI (E68 L N) 1 2000) 1000 68 23 0 (codeOf Tryz.f68) (finK (E68 L N) 1000 Tryz.f68 (finC (.one .bool) κ))) (.exit 0) f68.T0_e0 f68.H0_e0
  =f68.p0_e0 L N (fun a0=>κ (.tv .bool a0)):=by kernel_rfl
theorem f68.p0_r_eq {R:Type} (L N:Nat) (κ:AV→Option R) (z5:Bool):
  (contAt (E68 L N) (evCallI (E68 L N) 1 2000) 1000 68 23 0 (codeOf Tryz.f68) (finK (E68 L N) 1000 Tryz.f68 (finC (.one .bool) κ))) .ret (f68.T0_r z5) (f68.H0_r z5)
  =f68.p0_r L N (fun a0=>κ (.tv .bool a0)) z5:=by kernel_rfl
theorem f68.b_eq {R:Type} (L N:Nat) (κ:AV→Option R) (x0:Graph):
  evBody (E68 L N) (evCallI (E68 L N) 1 2000) 1000 68 Tryz.f68 [(.tv (.st 2) x0)] [] [] (finC (.one .bool) κ)
  =f68.b L N (fun a0=>κ (.tv .bool a0)) x0:=by
 refine Eq.trans (b:=f68.b' L N (fun a0=>κ (.tv .bool a0)) (fun s2 s3 s4=>evLp (E68 L N) (evCallI (E68 L N) 1 2000) 1000 68 23 0 f68.c0 (contAt (E68 L N) (evCallI (E68 L N) 1 2000) 1000 68 23 0 (codeOf Tryz.f68) (finK (E68 L N) 1000 Tryz.f68 (finC (.one .bool) κ))) L (f68.T0 s2 s3 s4) (f68.H0 s2 s3 s4)) x0) (by kernel_rfl) ?_
 unfold f68.b
 simp only [f68.l0_eq]
 delta f68.X0_e0 f68.X0_r
 simp only [f68.p0_e0_eq,f68.p0_r_eq]
theorem f68.ok (L N:Nat) (hΦ:TellsOk Tryz.prog ((Φ99 L N))):EntOk Tryz.prog 68 (f68.ent L N):=entRo_ok (E:=(E68 L N)) (dep:=1000) (f:=Tryz.f68) (sound_of hΦ) okP (callI_sound (sound_of hΦ) okP 1 2000) rfl rfl fun d _ hy=>(f68.b_eq L N (unR (.one .bool)) d.1).trans (Eq.trans (b:=f68.b L N some d.1) (by kernel_rfl) hy)
def Φ68 (L N:Nat):Tells:=(addT (Φ99 L N) 68 (f68.ent L N))
theorem Φ68_ok (L N:Nat):TellsOk Tryz.prog (Φ68 L N):=addT_ok (Φ99_ok L N) (f68.ok L N (Φ99_ok L N))
def f100.b' {R:Type} (L N:Nat) (k:Int→Option R) (x0:Int):Option R:=
 bif (decide (x0>(0:Int))) then
  k (wi ((wi ((4:Int)+x0))-(1:Int)))
 else k (wi ((wi (0-x0))-(1:Int)))
def f100.b {R:Type} (L N:Nat) (k:Int→Option R) (x0:Int):Option R:=
 f100.b' L N k x0
def f100 (L N:Nat) (x0:Int):Option (Int):=f100.b L N some x0
def f100.ent (L N:Nat):=entRo [i64] (.one i64) fun d=>f100 L N d.1
noncomputable def E100 (L N:Nat):Env:={P:=Tryz.prog,ty:=tyOf,Φ:=(Φ68 L N),inl:=inlT,live:=lives,liveX:=livesX,L:=L,dp:=none,prom:=promT,heal:=healT,ren:=renT}
theorem f100.b_eq {R:Type} (L N:Nat) (κ:AV→Option R) (x0:Int):
  evBody (E100 L N) (evCallI (E100 L N) 1 2000) 1000 100 Tryz.f100 [(.tv i64 x0)] [] [] (finC (.one i64) κ)
  =f100.b L N (fun a0=>κ (.tv i64 a0)) x0:=by kernel_rfl
theorem f100.ok (L N:Nat) (hΦ:TellsOk Tryz.prog ((Φ68 L N))):EntOk Tryz.prog 100 (f100.ent L N):=entRo_ok (E:=(E100 L N)) (dep:=1000) (f:=Tryz.f100) (sound_of hΦ) okP (callI_sound (sound_of hΦ) okP 1 2000) rfl rfl fun d _ hy=>(f100.b_eq L N (unR (.one i64)) d.1).trans (Eq.trans (b:=f100.b L N some d.1) (by kernel_rfl) hy)
def Φ100 (L N:Nat):Tells:=(addT (Φ68 L N) 100 (f100.ent L N))
theorem Φ100_ok (L N:Nat):TellsOk Tryz.prog (Φ100 L N):=addT_ok (Φ68_ok L N) (f100.ok L N (Φ68_ok L N))
def f144.s0' {R:Type} (L N:Nat) (k0_e0:Bool→LB→Option R) (rec0:Int→Bool→Int→LLM→LB→Option R) (s0:Int) (s1:Bool) (s2:Int) (s3:LLM) (s4:LB):Option R:=
 bif (decide (0≤s0)&&decide (s0<(s3.length:Int))) then
  bif (decide (s2<((listAt s3 [] s0.toNat).length:Int))) then
   bif (decide (0≤s0)&&decide (s0<(s3.length:Int))) then
    bif (decide (0≤s2)&&decide (s2<((listAt s3 [] s0.toNat).length:Int))) then
     bif ((listAt (listAt s3 [] s0.toNat) (Ty.dflt (.st 0)) s2.toNat).act==(0:Int)) then
      rec0 s0 false (wi (s2+(1:Int))) s3 s4
     else (f100 L N ((listAt (listAt s3 [] s0.toNat) (Ty.dflt (.st 0)) s2.toNat).act)).bind fun y7=>
     bif (decide (0≤y7)&&decide (y7<(s4.length:Int))) then
      rec0 s0 s1 (wi (s2+(1:Int))) s3 (s4.set y7.toNat true)
     else none
    else none
   else none
  else k0_e0 s1 s4
 else none
def f144.s0 {R:Type} (L N:Nat) (k0_e0:Bool→LB→Option R) (rec0:Int→Bool→Int→LLM→LB→Option R) (s0:Int) (s1:Bool) (s2:Int) (s3:LLM) (s4:LB):Option R:=
 f144.s0' L N k0_e0 rec0 s0 s1 s2 s3 s4
def f144.l0 {R:Type} (L N:Nat) (k0_e0:Bool→LB→Option R):Nat→Int→Bool→Int→LLM→LB→Option R
 |0,_,_,_,_,_=>none
 |n+1,s0,s1,s2,s3,s4=>f144.s0 L N k0_e0 (f144.l0 L N k0_e0 n) s0 s1 s2 s3 s4
def f144.T0 (s0:Int) (s1:Bool) (s2:Int) (s3:LLM) (s4:LB):T:=mkT 38 [(1,(.tv i64 s0)),(2,(.ptr 1002 0)),(6,(.row 1010)),(7,(.tv .bool s1)),(8,(.tv i64 s2))]
def f144.H0 (s0:Int) (s1:Bool) (s2:Int) (s3:LLM) (s4:LB):H:=[(1002,(.box [(.tv (.sl (.sl (.st 0))) s3)])),(1010,(.row 4 .bool s4))]
def f144.T0_e0 (z5:Bool) (z6:LB):T:=mkT 38 [(6,(.row 1010)),(7,(.tv .bool z5))]
def f144.H0_e0 (z5:Bool) (z6:LB):H:=[(1010,(.row 4 .bool z6))]
def f144.p0_e0' {R:Type} (L N:Nat) (k:LB→Bool→Option R) (z5:Bool) (z6:LB):Option R:=
 k z6 z5
def f144.p0_e0 {R:Type} (L N:Nat) (k:LB→Bool→Option R) (z5:Bool) (z6:LB):Option R:=
 f144.p0_e0' L N k z5 z6
def f144.b' {R:Type} (L N:Nat) (k:LB→Bool→Option R) (w0:Int→Bool→Int→LLM→LB→Option R) (x0:Graph) (x1:Int):Option R:=
 bif (decide (0≤(8:Int))&&decide ((8:Int)≤(lim:Int))) then
  w0 x1 true (0:Int) x0.moves (List.replicate (8:Int).toNat false)
 else none
def f144.b {R:Type} (L N:Nat) (k:LB→Bool→Option R) (x0:Graph) (x1:Int):Option R:=
 f144.b' L N k (fun s0 s1 s2 s3 s4=>f144.l0 L N (fun z5 z6=>f144.p0_e0 L N k z5 z6) L s0 s1 s2 s3 s4) x0 x1
def f144 (L N:Nat) (x0:Graph) (x1:Int):Option (LB×Bool):=f144.b L N (fun a0 a1=>some (a0,a1)) x0 x1
def f144.ent (L N:Nat):=entDa [(.st 2),i64] (.many [(.sl .bool),.bool]) fun d=>f144 L N d.1 d.2.1
noncomputable def E144 (L N:Nat):Env:={P:=Tryz.prog,ty:=tyOf,Φ:=(Φ100 L N),inl:=inlT,live:=lives,liveX:=livesX,L:=L,dp:=none,prom:=promT,heal:=healT,ren:=renT}
noncomputable def f144.c0:Code:=loopAt 0 (codeOf Tryz.f144)
def f144.X0_e0 {R:Type} (κ:KX R):=fun z5 z6=>κ (.exit 0) (f144.T0_e0 z5 z6) (f144.H0_e0 z5 z6)
def f144.R0 {R:Type} (rec:KT R):=fun s0 s1 s2 s3 s4=>rec (f144.T0 s0 s1 s2 s3 s4) (f144.H0 s0 s1 s2 s3 s4)
theorem f144.s0_eq {R:Type} (L N:Nat) (κ:KX R) (rec:KT R) (s0:Int) (s1:Bool) (s2:Int) (s3:LLM) (s4:LB):
  evRd (E144 L N) (evCallI (E144 L N) 1 2000) 1000 144 38 0 f144.c0 κ rec (f144.T0 s0 s1 s2 s3 s4) (f144.H0 s0 s1 s2 s3 s4)
  =f144.s0 L N (f144.X0_e0 κ) (f144.R0 rec) s0 s1 s2 s3 s4:=by kernel_rfl
theorem f144.l0_eq {R:Type} (L N:Nat) (κ:KX R):∀(n:Nat) (s0:Int) (s1:Bool) (s2:Int) (s3:LLM) (s4:LB),
  evLp (E144 L N) (evCallI (E144 L N) 1 2000) 1000 144 38 0 f144.c0 κ n (f144.T0 s0 s1 s2 s3 s4) (f144.H0 s0 s1 s2 s3 s4)
  =f144.l0 L N (f144.X0_e0 κ) n s0 s1 s2 s3 s4:=by
 intro n
 induction n with
 |zero=>intros;rfl
 |succ n ih=>
  intro s0 s1 s2 s3 s4
  rw [evLp_succ,f144.s0_eq]
  delta f144.R0
  simp only [ih]
  rfl
theorem f144.p0_e0_eq {R:Type} (L N:Nat) (κ:AV→Option R) (z5:Bool) (z6:LB):
  (contAt (E144 L N) (evCallI (E144 L N) 1 2000) 1000 144 38 0 (codeOf Tryz.f144) (finK (E144 L N) 1000 Tryz.f144 (finC (.many [(.sl .bool),.bool]) κ))) (.exit 0) (f144.T0_e0 z5 z6) (f144.H0_e0 z5 z6)
  =f144.p0_e0 L N (fun a0 a1=>κ (.tup [(.tv (.sl .bool) a0),(.tv .bool a1)])) z5 z6:=by kernel_rfl
theorem f144.b_eq {R:Type} (L N:Nat) (κ:AV→Option R) (x0:Graph) (x1:Int):
  evBody (E144 L N) (evCallI (E144 L N) 1 2000) 1000 144 Tryz.f144 [(.tv (.st 2) x0),(.tv i64 x1)] [] [] (finC (.many [(.sl .bool),.bool]) κ)
  =f144.b L N (fun a0 a1=>κ (.tup [(.tv (.sl .bool) a0),(.tv .bool a1)])) x0 x1:=by
 refine Eq.trans (b:=f144.b' L N (fun a0 a1=>κ (.tup [(.tv (.sl .bool) a0),(.tv .bool a1)])) (fun s0 s1 s2 s3 s4=>evLp (E144 L N) (evCallI (E144 L N) 1 2000) 1000 144 38 0 f144.c0 (contAt (E144 L N) (evCallI (E144 L N) 1 2000) 1000 144 38 0 (codeOf Tryz.f144) (finK (E144 L N) 1000 Tryz.f144 (finC (.many [(.sl .bool),.bool]) κ))) L (f144.T0 s0 s1 s2 s3 s4) (f144.H0 s0 s1 s2 s3 s4)) x0 x1) (by kernel_rfl) ?_
 unfold f144.b
 simp only [f144.l0_eq]
 delta f144.X0_e0
 simp only [f144.p0_e0_eq]
theorem f144.ok (L N:Nat) (hΦ:TellsOk Tryz.prog ((Φ100 L N))):EntOk Tryz.prog 144 (f144.ent L N):=entDa_ok (E:=(E144 L N)) (dep:=1000) (f:=Tryz.f144) (sound_of hΦ) okP (callI_sound (sound_of hΦ) okP 1 2000) rfl fun d _ hy=>(f144.b_eq L N (unR (.many [(.sl .bool),.bool])) d.1 d.2.1).trans (Eq.trans (b:=f144.b L N (fun a0 a1=>some (a0,a1)) d.1 d.2.1) (by kernel_rfl) hy)
def Φ144 (L N:Nat):Tells:=(addT (Φ100 L N) 144 (f144.ent L N))
theorem Φ144_ok (L N:Nat):TellsOk Tryz.prog (Φ144 L N):=addT_ok (Φ100_ok L N) (f144.ok L N (Φ100_ok L N))
def f116.s0' {R:Type} (L N:Nat) (k0_e0:Bool→Option R) (k0_r:Bool→Bool→Option R) (rec0:LB→LB→Bool→Int→Option R) (s1:LB) (s2:LB) (s3:Bool) (s4:Int):Option R:=
 bif (decide (s4<(s1.length:Int))) then
  bif (decide (0≤s4)&&decide (s4<(s1.length:Int))) then
   bif (listAt s1 false s4.toNat) then
    bif (decide (0≤s4)&&decide (s4<(s2.length:Int))) then
     bif (listAt s2 false s4.toNat) then
      k0_r false s3
     else rec0 s1 s2 s3 (wi (s4+(1:Int)))
    else none
   else rec0 s1 s2 s3 (wi (s4+(1:Int)))
  else none
 else k0_e0 s3
def f116.s0 {R:Type} (L N:Nat) (k0_e0:Bool→Option R) (k0_r:Bool→Bool→Option R) (rec0:LB→LB→Bool→Int→Option R) (s1:LB) (s2:LB) (s3:Bool) (s4:Int):Option R:=
 f116.s0' L N k0_e0 k0_r rec0 s1 s2 s3 s4
def f116.l0 {R:Type} (L N:Nat) (k0_e0:Bool→Option R) (k0_r:Bool→Bool→Option R):Nat→LB→LB→Bool→Int→Option R
 |0,_,_,_,_=>none
 |n+1,s1,s2,s3,s4=>f116.s0 L N k0_e0 k0_r (f116.l0 L N k0_e0 k0_r n) s1 s2 s3 s4
def f116.T0 (s1:LB) (s2:LB) (s3:Bool) (s4:Int):T:=mkT 33 [(2,(.tv (.sl .bool) s1)),(7,(.tv (.sl .bool) s2)),(8,(.tv .bool s3)),(9,(.tv i64 s4))]
def f116.H0 (s1:LB) (s2:LB) (s3:Bool) (s4:Int):H:=[]
def f116.T0_e0 (z5:Bool):T:=mkT 33 [(8,(.tv .bool z5))]
def f116.H0_e0 (z5:Bool):H:=[]
def f116.T0_r (z11:Bool) (z12:Bool):T:=mkT 33 [(6,(.tv .bool z11)),(8,(.tv .bool z12))]
def f116.H0_r (z11:Bool) (z12:Bool):H:=[]
def f116.p0_e0' {R:Type} (L N:Nat) (k:Bool→Option R) (z5:Bool):Option R:=
 k z5
def f116.p0_e0 {R:Type} (L N:Nat) (k:Bool→Option R) (z5:Bool):Option R:=
 f116.p0_e0' L N k z5
def f116.p0_r' {R:Type} (L N:Nat) (k:Bool→Option R) (z11:Bool) (z12:Bool):Option R:=
 k z11
def f116.p0_r {R:Type} (L N:Nat) (k:Bool→Option R) (z11:Bool) (z12:Bool):Option R:=
 f116.p0_r' L N k z11 z12
def f116.b' {R:Type} (L N:Nat) (k:Bool→Option R) (w0:LB→LB→Bool→Int→Option R) (x0:Graph) (x1:Int) (x2:LB):Option R:=
 (f144 L N (Graph.mk x0.moves) x1).bind fun y0=>
 w0 x2 y0.1 y0.2 (0:Int)
def f116.b {R:Type} (L N:Nat) (k:Bool→Option R) (x0:Graph) (x1:Int) (x2:LB):Option R:=
 f116.b' L N k (fun s1 s2 s3 s4=>f116.l0 L N (fun z5=>f116.p0_e0 L N k z5) (fun z11 z12=>f116.p0_r L N k z11 z12) L s1 s2 s3 s4) x0 x1 x2
def f116 (L N:Nat) (x0:Graph) (x1:Int) (x2:LB):Option (Bool):=f116.b L N some x0 x1 x2
def f116.ent (L N:Nat):=entRo [(.st 2),i64,(.sl .bool)] (.one .bool) fun d=>f116 L N d.1 d.2.1 d.2.2.1
noncomputable def E116 (L N:Nat):Env:={P:=Tryz.prog,ty:=tyOf,Φ:=(Φ144 L N),inl:=inlT,live:=lives,liveX:=livesX,L:=L,dp:=none,prom:=promT,heal:=healT,ren:=renT}
noncomputable def f116.c0:Code:=loopAt 0 (codeOf Tryz.f116)
def f116.X0_e0 {R:Type} (κ:KX R):=fun z5=>κ (.exit 0) (f116.T0_e0 z5) (f116.H0_e0 z5)
def f116.X0_r {R:Type} (κ:KX R):=fun z11 z12=>κ .ret (f116.T0_r z11 z12) (f116.H0_r z11 z12)
def f116.R0 {R:Type} (rec:KT R):=fun s1 s2 s3 s4=>rec (f116.T0 s1 s2 s3 s4) (f116.H0 s1 s2 s3 s4)
theorem f116.s0_eq {R:Type} (L N:Nat) (κ:KX R) (rec:KT R) (s1:LB) (s2:LB) (s3:Bool) (s4:Int):
  evRd (E116 L N) (evCallI (E116 L N) 1 2000) 1000 116 33 0 f116.c0 κ rec (f116.T0 s1 s2 s3 s4) (f116.H0 s1 s2 s3 s4)
  =f116.s0 L N (f116.X0_e0 κ) (f116.X0_r κ) (f116.R0 rec) s1 s2 s3 s4:=by kernel_rfl
theorem f116.l0_eq {R:Type} (L N:Nat) (κ:KX R):∀(n:Nat) (s1:LB) (s2:LB) (s3:Bool) (s4:Int),
  evLp (E116 L N) (evCallI (E116 L N) 1 2000) 1000 116 33 0 f116.c0 κ n (f116.T0 s1 s2 s3 s4) (f116.H0 s1 s2 s3 s4)
  =f116.l0 L N (f116.X0_e0 κ) (f116.X0_r κ) n s1 s2 s3 s4:=by
 intro n
 induction n with
 |zero=>intros;rfl
 |succ n ih=>
  intro s1 s2 s3 s4
  rw [evLp_succ,f116.s0_eq]
  delta f116.R0
  simp only [ih]
  rfl
theorem f116.p0_e0_eq {R:Type} (L N:Nat) (κ:AV→Option R) (z5:Bool):
  (contAt (E116 L N) (evCallI (E116 L N) 1 2000) 1000 116 33 0 (codeOf Tryz.f116) (finK (E116 L N) 1000 Tryz.f116 (finC (.one .bool) κ))) (.exit 0) (f116.T0_e0 z5) (f116.H0_e0 z5)
  =f116.p0_e0 L N (fun a0=>κ (.tv .bool a0)) z5:=by kernel_rfl
theorem f116.p0_r_eq {R:Type} (L N:Nat) (κ:AV→Option R) (z11:Bool) (z12:Bool):
  (contAt (E116 L N) (evCallI (E116 L N) 1 2000) 1000 116 33 0 (codeOf Tryz.f116) (finK (E116 L N) 1000 Tryz.f116 (finC (.one .bool) κ))) .ret (f116.T0_r z11 z12) (f116.H0_r z11 z12)
  =f116.p0_r L N (fun a0=>κ (.tv .bool a0)) z11 z12:=by kernel_rfl
theorem f116.b_eq {R:Type} (L N:Nat) (κ:AV→Option R) (x0:Graph) (x1:Int) (x2:LB):
  evBody (E116 L N) (evCallI (E116 L N) 1 2000) 1000 116 Tryz.f116 [(.tv (.st 2) x0),(.tv i64 x1),(.tv (.sl .bool) x2)] [] [] (finC (.one .bool) κ)
  =f116.b L N (fun a0=>κ (.tv .bool a0)) x0 x1 x2:=by
 refine Eq.trans (b:=f116.b' L N (fun a0=>κ (.tv .bool a0)) (fun s1 s2 s3 s4=>evLp (E116 L N) (evCallI (E116 L N) 1 2000) 1000 116 33 0 f116.c0 (contAt (E116 L N) (evCallI (E116 L N) 1 2000) 1000 116 33 0 (codeOf Tryz.f116) (finK (E116 L N) 1000 Tryz.f116 (finC (.one .bool) κ))) L (f116.T0 s1 s2 s3 s4) (f116.H0 s1 s2 s3 s4)) x0 x1 x2) (by kernel_rfl) ?_
 unfold f116.b
 simp only [f116.l0_eq]
 delta f116.X0_e0 f116.X0_r
 simp only [f116.p0_e0_eq,f116.p0_r_eq]
theorem f116.ok (L N:Nat) (hΦ:TellsOk Tryz.prog ((Φ144 L N))):EntOk Tryz.prog 116 (f116.ent L N):=entRo_ok (E:=(E116 L N)) (dep:=1000) (f:=Tryz.f116) (sound_of hΦ) okP (callI_sound (sound_of hΦ) okP 1 2000) rfl rfl fun d _ hy=>(f116.b_eq L N (unR (.one .bool)) d.1 d.2.1 d.2.2.1).trans (Eq.trans (b:=f116.b L N some d.1 d.2.1 d.2.2.1) (by kernel_rfl) hy)
def Φ116 (L N:Nat):Tells:=(addT (Φ144 L N) 116 (f116.ent L N))
theorem Φ116_ok (L N:Nat):TellsOk Tryz.prog (Φ116 L N):=addT_ok (Φ144_ok L N) (f116.ok L N (Φ144_ok L N))
def f101.s0' {R:Type} (L N:Nat) (k0_e0:Option R) (k0_r:Bool→Option R) (rec0:LB→LB→Int→LLM→Option R) (s0:LB) (s1:LB) (s2:Int) (s3:LLM):Option R:=
 bif (decide (s2<(s0.length:Int))) then
  bif (decide (0≤s2)&&decide (s2<(s0.length:Int))) then
   bif (listAt s0 false s2.toNat) then
    (f116 L N (Graph.mk s3) s2 s1).bind fun y4=>
    bif y4 then
     k0_r true
    else rec0 s0 s1 (wi (s2+(1:Int))) s3
   else rec0 s0 s1 (wi (s2+(1:Int))) s3
  else none
 else k0_e0
def f101.s0 {R:Type} (L N:Nat) (k0_e0:Option R) (k0_r:Bool→Option R) (rec0:LB→LB→Int→LLM→Option R) (s0:LB) (s1:LB) (s2:Int) (s3:LLM):Option R:=
 f101.s0' L N k0_e0 k0_r rec0 s0 s1 s2 s3
def f101.l0 {R:Type} (L N:Nat) (k0_e0:Option R) (k0_r:Bool→Option R):Nat→LB→LB→Int→LLM→Option R
 |0,_,_,_,_=>none
 |n+1,s0,s1,s2,s3=>f101.s0 L N k0_e0 k0_r (f101.l0 L N k0_e0 k0_r n) s0 s1 s2 s3
def f101.T0 (s0:LB) (s1:LB) (s2:Int) (s3:LLM):T:=mkT 24 [(1,(.tv (.sl .bool) s0)),(2,(.tv (.sl .bool) s1)),(3,(.ptr 1003 0)),(7,(.tv i64 s2))]
def f101.H0 (s0:LB) (s1:LB) (s2:Int) (s3:LLM):H:=[(1003,(.box [(.tv (.sl (.sl (.st 0))) s3)]))]
def f101.T0_e0:T:=mkT 24 []
def f101.H0_e0:H:=[]
def f101.T0_r (z10:Bool):T:=mkT 24 [(6,(.tv .bool z10))]
def f101.H0_r (z10:Bool):H:=[]
def f101.p0_e0' {R:Type} (L N:Nat) (k:Bool→Option R):Option R:=
 k false
def f101.p0_e0 {R:Type} (L N:Nat) (k:Bool→Option R):Option R:=
 f101.p0_e0' L N k
def f101.p0_r' {R:Type} (L N:Nat) (k:Bool→Option R) (z10:Bool):Option R:=
 k z10
def f101.p0_r {R:Type} (L N:Nat) (k:Bool→Option R) (z10:Bool):Option R:=
 f101.p0_r' L N k z10
def f101.b' {R:Type} (L N:Nat) (k:Bool→Option R) (w0:LB→LB→Int→LLM→Option R) (x0:Graph) (x1:LB) (x2:LB):Option R:=
 w0 x1 x2 (0:Int) x0.moves
def f101.b {R:Type} (L N:Nat) (k:Bool→Option R) (x0:Graph) (x1:LB) (x2:LB):Option R:=
 f101.b' L N k (fun s0 s1 s2 s3=>f101.l0 L N (f101.p0_e0 L N k) (fun z10=>f101.p0_r L N k z10) L s0 s1 s2 s3) x0 x1 x2
def f101 (L N:Nat) (x0:Graph) (x1:LB) (x2:LB):Option (Bool):=f101.b L N some x0 x1 x2
def f101.ent (L N:Nat):=entRo [(.st 2),(.sl .bool),(.sl .bool)] (.one .bool) fun d=>f101 L N d.1 d.2.1 d.2.2.1
noncomputable def E101 (L N:Nat):Env:={P:=Tryz.prog,ty:=tyOf,Φ:=(Φ116 L N),inl:=inlT,live:=lives,liveX:=livesX,L:=L,dp:=none,prom:=promT,heal:=healT,ren:=renT}
noncomputable def f101.c0:Code:=loopAt 0 (codeOf Tryz.f101)
def f101.X0_e0 {R:Type} (κ:KX R):=κ (.exit 0) f101.T0_e0 f101.H0_e0
def f101.X0_r {R:Type} (κ:KX R):=fun z10=>κ .ret (f101.T0_r z10) (f101.H0_r z10)
def f101.R0 {R:Type} (rec:KT R):=fun s0 s1 s2 s3=>rec (f101.T0 s0 s1 s2 s3) (f101.H0 s0 s1 s2 s3)
theorem f101.s0_eq {R:Type} (L N:Nat) (κ:KX R) (rec:KT R) (s0:LB) (s1:LB) (s2:Int) (s3:LLM):
  evRd (E101 L N) (evCallI (E101 L N) 1 2000) 1000 101 24 0 f101.c0 κ rec (f101.T0 s0 s1 s2 s3) (f101.H0 s0 s1 s2 s3)
  =f101.s0 L N (f101.X0_e0 κ) (f101.X0_r κ) (f101.R0 rec) s0 s1 s2 s3:=by kernel_rfl
theorem f101.l0_eq {R:Type} (L N:Nat) (κ:KX R):∀(n:Nat) (s0:LB) (s1:LB) (s2:Int) (s3:LLM),
  evLp (E101 L N) (evCallI (E101 L N) 1 2000) 1000 101 24 0 f101.c0 κ n (f101.T0 s0 s1 s2 s3) (f101.H0 s0 s1 s2 s3)
  =f101.l0 L N (f101.X0_e0 κ) (f101.X0_r κ) n s0 s1 s2 s3:=by
 intro n
 induction n with
 |zero=>intros;rfl
 |succ n ih=>
  intro s0 s1 s2 s3
  rw [evLp_succ,f101.s0_eq]
  delta f101.R0
  simp only [ih]
  rfl
theorem f101.p0_e0_eq {R:Type} (L N:Nat) (κ:AV→Option R):
  (contAt (E101 L N) (evCallI (E101 L N) 1 2000) 1000 101 24 0 (codeOf Tryz.f101) (finK (E101 L N) 1000 Tryz.f101 (finC (.one .bool) κ))) (.exit 0) f101.T0_e0 f101.H0_e0
  =f101.p0_e0 L N (fun a0=>κ (.tv .bool a0)):=by kernel_rfl
theorem f101.p0_r_eq {R:Type} (L N:Nat) (κ:AV→Option R) (z10:Bool):
  (contAt (E101 L N) (evCallI (E101 L N) 1 2000) 1000 101 24 0 (codeOf Tryz.f101) (finK (E101 L N) 1000 Tryz.f101 (finC (.one .bool) κ))) .ret (f101.T0_r z10) (f101.H0_r z10)
  =f101.p0_r L N (fun a0=>κ (.tv .bool a0)) z10:=by kernel_rfl
theorem f101.b_eq {R:Type} (L N:Nat) (κ:AV→Option R) (x0:Graph) (x1:LB) (x2:LB):
  evBody (E101 L N) (evCallI (E101 L N) 1 2000) 1000 101 Tryz.f101 [(.tv (.st 2) x0),(.tv (.sl .bool) x1),(.tv (.sl .bool) x2)] [] [] (finC (.one .bool) κ)
  =f101.b L N (fun a0=>κ (.tv .bool a0)) x0 x1 x2:=by
 refine Eq.trans (b:=f101.b' L N (fun a0=>κ (.tv .bool a0)) (fun s0 s1 s2 s3=>evLp (E101 L N) (evCallI (E101 L N) 1 2000) 1000 101 24 0 f101.c0 (contAt (E101 L N) (evCallI (E101 L N) 1 2000) 1000 101 24 0 (codeOf Tryz.f101) (finK (E101 L N) 1000 Tryz.f101 (finC (.one .bool) κ))) L (f101.T0 s0 s1 s2 s3) (f101.H0 s0 s1 s2 s3)) x0 x1 x2) (by kernel_rfl) ?_
 unfold f101.b
 simp only [f101.l0_eq]
 delta f101.X0_e0 f101.X0_r
 simp only [f101.p0_e0_eq,f101.p0_r_eq]
theorem f101.ok (L N:Nat) (hΦ:TellsOk Tryz.prog ((Φ116 L N))):EntOk Tryz.prog 101 (f101.ent L N):=entRo_ok (E:=(E101 L N)) (dep:=1000) (f:=Tryz.f101) (sound_of hΦ) okP (callI_sound (sound_of hΦ) okP 1 2000) rfl rfl fun d _ hy=>(f101.b_eq L N (unR (.one .bool)) d.1 d.2.1 d.2.2.1).trans (Eq.trans (b:=f101.b L N some d.1 d.2.1 d.2.2.1) (by kernel_rfl) hy)
def Φ101 (L N:Nat):Tells:=(addT (Φ116 L N) 101 (f101.ent L N))
theorem Φ101_ok (L N:Nat):TellsOk Tryz.prog (Φ101 L N):=addT_ok (Φ116_ok L N) (f101.ok L N (Φ116_ok L N))
def f69.j0' {R:Type} (L N:Nat) (k0_e0:Option R) (k0_r:Bool→Option R) (rec0:LB→Int→LLM→Option R) (v9:LB) (v10:Int) (v11:LLM):Option R:=
 bif (decide (0≤(8:Int))&&decide ((8:Int)≤(lim:Int))) then
  (f100 L N v10).bind fun y12=>
  bif (decide (0≤y12)&&decide (y12<((List.replicate (8:Int).toNat false).length:Int))) then
   (f101 L N (Graph.mk v11) v9 ((List.replicate (8:Int).toNat false).set y12.toNat true)).bind fun y13=>
   bif y13 then
    k0_r false
   else rec0 v9 (wi (v10+(1:Int))) v11
  else none
 else none
def f69.s0' {R:Type} (L N:Nat) (k0_e0:Option R) (k0_r:Bool→Option R) (rec0:LB→Int→LLM→Option R) (s0:LB) (s1:Int) (s2:LLM):Option R:=
 bif (decide (s1≤(4:Int))) then
  bif (s1==(0:Int)) then
   rec0 s0 (wi (s1+(1:Int))) s2
  else (f60 L N (Graph.mk s2) s0 s1).bind fun y3=>
  (f61 L N y3).bind fun y4=>
  bif (!y4) then
   rec0 s0 (wi (s1+(1:Int))) s2
  else f69.j0' L N k0_e0 k0_r rec0 s0 s1 s2
 else k0_e0
def f69.s0 {R:Type} (L N:Nat) (k0_e0:Option R) (k0_r:Bool→Option R) (rec0:LB→Int→LLM→Option R) (s0:LB) (s1:Int) (s2:LLM):Option R:=
 f69.s0' L N k0_e0 k0_r rec0 s0 s1 s2
def f69.l0 {R:Type} (L N:Nat) (k0_e0:Option R) (k0_r:Bool→Option R):Nat→LB→Int→LLM→Option R
 |0,_,_,_=>none
 |n+1,s0,s1,s2=>f69.s0 L N k0_e0 k0_r (f69.l0 L N k0_e0 k0_r n) s0 s1 s2
def f69.T0 (s0:LB) (s1:Int) (s2:LLM):T:=mkT 30 [(1,(.tv (.sl .bool) s0)),(2,(.ptr 1002 0)),(5,(.tv i64 s1))]
def f69.H0 (s0:LB) (s1:Int) (s2:LLM):H:=[(1002,(.box [(.tv (.sl (.sl (.st 0))) s2)]))]
def f69.T0_e0:T:=mkT 30 []
def f69.H0_e0:H:=[]
def f69.T0_r (z14:Bool):T:=mkT 30 [(4,(.tv .bool z14))]
def f69.H0_r (z14:Bool):H:=[]
def f69.p0_e0' {R:Type} (L N:Nat) (k:Bool→Option R):Option R:=
 k true
def f69.p0_e0 {R:Type} (L N:Nat) (k:Bool→Option R):Option R:=
 f69.p0_e0' L N k
def f69.p0_r' {R:Type} (L N:Nat) (k:Bool→Option R) (z14:Bool):Option R:=
 k z14
def f69.p0_r {R:Type} (L N:Nat) (k:Bool→Option R) (z14:Bool):Option R:=
 f69.p0_r' L N k z14
def f69.b' {R:Type} (L N:Nat) (k:Bool→Option R) (w0:LB→Int→LLM→Option R) (x0:Graph) (x1:LB):Option R:=
 w0 x1 (-4:Int) x0.moves
def f69.b {R:Type} (L N:Nat) (k:Bool→Option R) (x0:Graph) (x1:LB):Option R:=
 f69.b' L N k (fun s0 s1 s2=>f69.l0 L N (f69.p0_e0 L N k) (fun z14=>f69.p0_r L N k z14) L s0 s1 s2) x0 x1
def f69 (L N:Nat) (x0:Graph) (x1:LB):Option (Bool):=f69.b L N some x0 x1
def f69.ent (L N:Nat):=entRo [(.st 2),(.sl .bool)] (.one .bool) fun d=>f69 L N d.1 d.2.1
noncomputable def E69 (L N:Nat):Env:={P:=Tryz.prog,ty:=tyOf,Φ:=(Φ101 L N),inl:=inlT,live:=lives,liveX:=livesX,L:=L,dp:=none,prom:=promT,heal:=healT,ren:=renT}
noncomputable def f69.c0:Code:=loopAt 0 (codeOf Tryz.f69)
def f69.X0_e0 {R:Type} (κ:KX R):=κ (.exit 0) f69.T0_e0 f69.H0_e0
def f69.X0_r {R:Type} (κ:KX R):=fun z14=>κ .ret (f69.T0_r z14) (f69.H0_r z14)
def f69.R0 {R:Type} (rec:KT R):=fun s0 s1 s2=>rec (f69.T0 s0 s1 s2) (f69.H0 s0 s1 s2)
theorem f69.s0_eq {R:Type} (L N:Nat) (κ:KX R) (rec:KT R) (s0:LB) (s1:Int) (s2:LLM):
  evRd (E69 L N) (evCallI (E69 L N) 1 2000) 1000 69 30 0 f69.c0 κ rec (f69.T0 s0 s1 s2) (f69.H0 s0 s1 s2)
  =f69.s0 L N (f69.X0_e0 κ) (f69.X0_r κ) (f69.R0 rec) s0 s1 s2:=by kernel_rfl
theorem f69.l0_eq {R:Type} (L N:Nat) (κ:KX R):∀(n:Nat) (s0:LB) (s1:Int) (s2:LLM),
  evLp (E69 L N) (evCallI (E69 L N) 1 2000) 1000 69 30 0 f69.c0 κ n (f69.T0 s0 s1 s2) (f69.H0 s0 s1 s2)
  =f69.l0 L N (f69.X0_e0 κ) (f69.X0_r κ) n s0 s1 s2:=by
 intro n
 induction n with
 |zero=>intros;rfl
 |succ n ih=>
  intro s0 s1 s2
  rw [evLp_succ,f69.s0_eq]
  delta f69.R0
  simp only [ih]
  rfl
theorem f69.p0_e0_eq {R:Type} (L N:Nat) (κ:AV→Option R):
  (contAt (E69 L N) (evCallI (E69 L N) 1 2000) 1000 69 30 0 (codeOf Tryz.f69) (finK (E69 L N) 1000 Tryz.f69 (finC (.one .bool) κ))) (.exit 0) f69.T0_e0 f69.H0_e0
  =f69.p0_e0 L N (fun a0=>κ (.tv .bool a0)):=by kernel_rfl
theorem f69.p0_r_eq {R:Type} (L N:Nat) (κ:AV→Option R) (z14:Bool):
  (contAt (E69 L N) (evCallI (E69 L N) 1 2000) 1000 69 30 0 (codeOf Tryz.f69) (finK (E69 L N) 1000 Tryz.f69 (finC (.one .bool) κ))) .ret (f69.T0_r z14) (f69.H0_r z14)
  =f69.p0_r L N (fun a0=>κ (.tv .bool a0)) z14:=by kernel_rfl
theorem f69.b_eq {R:Type} (L N:Nat) (κ:AV→Option R) (x0:Graph) (x1:LB):
  evBody (E69 L N) (evCallI (E69 L N) 1 2000) 1000 69 Tryz.f69 [(.tv (.st 2) x0),(.tv (.sl .bool) x1)] [] [] (finC (.one .bool) κ)
  =f69.b L N (fun a0=>κ (.tv .bool a0)) x0 x1:=by
 refine Eq.trans (b:=f69.b' L N (fun a0=>κ (.tv .bool a0)) (fun s0 s1 s2=>evLp (E69 L N) (evCallI (E69 L N) 1 2000) 1000 69 30 0 f69.c0 (contAt (E69 L N) (evCallI (E69 L N) 1 2000) 1000 69 30 0 (codeOf Tryz.f69) (finK (E69 L N) 1000 Tryz.f69 (finC (.one .bool) κ))) L (f69.T0 s0 s1 s2) (f69.H0 s0 s1 s2)) x0 x1) (by kernel_rfl) ?_
 unfold f69.b
 simp only [f69.l0_eq]
 delta f69.X0_e0 f69.X0_r
 simp only [f69.p0_e0_eq,f69.p0_r_eq]
theorem f69.ok (L N:Nat) (hΦ:TellsOk Tryz.prog ((Φ101 L N))):EntOk Tryz.prog 69 (f69.ent L N):=entRo_ok (E:=(E69 L N)) (dep:=1000) (f:=Tryz.f69) (sound_of hΦ) okP (callI_sound (sound_of hΦ) okP 1 2000) rfl rfl fun d _ hy=>(f69.b_eq L N (unR (.one .bool)) d.1 d.2.1).trans (Eq.trans (b:=f69.b L N some d.1 d.2.1) (by kernel_rfl) hy)
def Φ69 (L N:Nat):Tells:=(addT (Φ101 L N) 69 (f69.ent L N))
theorem Φ69_ok (L N:Nat):TellsOk Tryz.prog (Φ69 L N):=addT_ok (Φ101_ok L N) (f69.ok L N (Φ101_ok L N))
def f27.j0' {R:Type} (L N:Nat) (k1_e2:Int→LLM→LLB→Option R) (rec1:Int→Int→LLM→LLB→Option R) (v22:Int) (v23:Int) (v24:LB) (v25:Bool) (v26:LLM) (v27:LLB):Option R:=
 bif v25 then
  bif (decide (v27.length+([v24]:LLB).length≤lim)) then
   rec1 v22 (wi (v23+(1:Int))) v26 (v27++([v24]:LLB))
  else none
 else rec1 v22 (wi (v23+(1:Int))) v26 v27
def f27.s1' {R:Type} (L N:Nat) (k1_e2:Int→LLM→LLB→Option R) (rec1:Int→Int→LLM→LLB→Option R) (s12:Int) (s13:Int) (s14:LLM) (s15:LLB):Option R:=
 bif (decide (s13≤(4:Int))) then
  bif (decide (0≤s12)&&decide (s12<(s15.length:Int))) then
   (f60 L N (Graph.mk s14) (listAt s15 [] s12.toNat) s13).bind fun y19=>
   bif (s13 !=(0:Int)) then
    (f61 L N y19).bind fun y20=>
    bif y20 then
     (f62 L N s15 y19).bind fun y21=>
     f27.j0' L N k1_e2 rec1 s12 s13 y19 (y21==(s15.length:Int)) s14 s15
    else f27.j0' L N k1_e2 rec1 s12 s13 y19 false s14 s15
   else f27.j0' L N k1_e2 rec1 s12 s13 y19 false s14 s15
  else none
 else k1_e2 s12 s14 s15
def f27.s1 {R:Type} (L N:Nat) (k1_e2:Int→LLM→LLB→Option R) (rec1:Int→Int→LLM→LLB→Option R) (s12:Int) (s13:Int) (s14:LLM) (s15:LLB):Option R:=
 f27.s1' L N k1_e2 rec1 s12 s13 s14 s15
def f27.l1 {R:Type} (L N:Nat) (k1_e2:Int→LLM→LLB→Option R):Nat→Int→Int→LLM→LLB→Option R
 |0,_,_,_,_=>none
 |n+1,s12,s13,s14,s15=>f27.s1 L N k1_e2 (f27.l1 L N k1_e2 n) s12 s13 s14 s15
def f27.T1 (s12:Int) (s13:Int) (s14:LLM) (s15:LLB):T:=mkT 64 [(1,(.ptr 1001 0)),(4,(.row 1018)),(5,(.tv i64 s12)),(6,(.tv i64 s13))]
def f27.H1 (s12:Int) (s13:Int) (s14:LLM) (s15:LLB):H:=[(1001,(.box [(.tv (.sl (.sl (.st 0))) s14)])),(1018,(.row 68 (.sl .bool) s15))]
def f27.T1_e2 (z16:Int) (z17:LLM) (z18:LLB):T:=mkT 64 [(1,(.ptr 1001 0)),(4,(.row 1018)),(5,(.tv i64 z16))]
def f27.H1_e2 (z16:Int) (z17:LLM) (z18:LLB):H:=[(1001,(.box [(.tv (.sl (.sl (.st 0))) z17)])),(1018,(.row 68 (.sl .bool) z18))]
def f27.p1_e2' {R:Type} (L N:Nat) (k0_e0:Option R) (k0_r:Bool→Bool→Option R) (rec0:Int→LLM→LLB→Option R) (z16:Int) (z17:LLM) (z18:LLB):Option R:=
 rec0 (wi (z16+(1:Int))) z17 z18
def f27.p1_e2 {R:Type} (L N:Nat) (k0_e0:Option R) (k0_r:Bool→Bool→Option R) (rec0:Int→LLM→LLB→Option R) (z16:Int) (z17:LLM) (z18:LLB):Option R:=
 f27.p1_e2' L N k0_e0 k0_r rec0 z16 z17 z18
def f27.s0' {R:Type} (L N:Nat) (k0_e0:Option R) (k0_r:Bool→Bool→Option R) (rec0:Int→LLM→LLB→Option R) (w1:Int→Int→LLM→LLB→Option R) (s6:Int) (s7:LLM) (s8:LLB):Option R:=
 bif (decide (s6<(s8.length:Int))) then
  bif (decide ((s8.length:Int)>(400:Int))) then
   k0_r false false
  else bif (decide (0≤s6)&&decide (s6<(s8.length:Int))) then
   (f69 L N (Graph.mk s7) (listAt s8 [] s6.toNat)).bind fun y11=>
   bif (!y11) then
    k0_r false true
   else w1 s6 (-4:Int) s7 s8
  else none
 else k0_e0
def f27.s0 {R:Type} (L N:Nat) (k0_e0:Option R) (k0_r:Bool→Bool→Option R) (rec0:Int→LLM→LLB→Option R) (s6:Int) (s7:LLM) (s8:LLB):Option R:=
 f27.s0' L N k0_e0 k0_r rec0 (fun s12 s13 s14 s15=>f27.l1 L N (fun z16 z17 z18=>f27.p1_e2 L N k0_e0 k0_r rec0 z16 z17 z18) L s12 s13 s14 s15) s6 s7 s8
def f27.l0 {R:Type} (L N:Nat) (k0_e0:Option R) (k0_r:Bool→Bool→Option R):Nat→Int→LLM→LLB→Option R
 |0,_,_,_=>none
 |n+1,s6,s7,s8=>f27.s0 L N k0_e0 k0_r (f27.l0 L N k0_e0 k0_r n) s6 s7 s8
def f27.T0 (s6:Int) (s7:LLM) (s8:LLB):T:=mkT 64 [(1,(.ptr 1001 0)),(4,(.row 1018)),(5,(.tv i64 s6))]
def f27.H0 (s6:Int) (s7:LLM) (s8:LLB):H:=[(1001,(.box [(.tv (.sl (.sl (.st 0))) s7)])),(1018,(.row 68 (.sl .bool) s8))]
def f27.T0_e0:T:=mkT 64 []
def f27.H0_e0:H:=[]
def f27.T0_r (z9:Bool) (z10:Bool):T:=mkT 64 [(2,(.tv .bool z9)),(3,(.tv .bool z10))]
def f27.H0_r (z9:Bool) (z10:Bool):H:=[]
def f27.p0_e0' {R:Type} (L N:Nat) (k:Bool→Bool→Option R):Option R:=
 k true true
def f27.p0_e0 {R:Type} (L N:Nat) (k:Bool→Bool→Option R):Option R:=
 f27.p0_e0' L N k
def f27.p0_r' {R:Type} (L N:Nat) (k:Bool→Bool→Option R) (z9:Bool) (z10:Bool):Option R:=
 k z9 z10
def f27.p0_r {R:Type} (L N:Nat) (k:Bool→Bool→Option R) (z9:Bool) (z10:Bool):Option R:=
 f27.p0_r' L N k z9 z10
def f27.j1' {R:Type} (L N:Nat) (k:Bool→Bool→Option R) (w0:Int→LLM→LLB→Option R) (v4:LLM):Option R:=
 (f59 L N (Graph.mk v4)).bind fun y5=>
 w0 (0:Int) v4 ([y5]:LLB)
def f27.b' {R:Type} (L N:Nat) (k:Bool→Bool→Option R) (w0:Int→LLM→LLB→Option R) (x0:Graph):Option R:=
 (f9 L N (Graph.mk x0.moves)).bind fun y0=>
 bif (!y0) then
  k false false
 else (f68 L N (Graph.mk x0.moves)).bind fun y1=>
 bif (!y1) then
  k false false
 else f27.j1' L N k w0 x0.moves
def f27.b {R:Type} (L N:Nat) (k:Bool→Bool→Option R) (x0:Graph):Option R:=
 f27.b' L N k (fun s6 s7 s8=>f27.l0 L N (f27.p0_e0 L N k) (fun z9 z10=>f27.p0_r L N k z9 z10) L s6 s7 s8) x0
def f27 (L N:Nat) (x0:Graph):Option (Bool×Bool):=f27.b L N (fun a0 a1=>some (a0,a1)) x0
def f27.ent (L N:Nat):=entRo [(.st 2)] (.many [.bool,.bool]) fun d=>f27 L N d.1
noncomputable def E27 (L N:Nat):Env:={P:=Tryz.prog,ty:=tyOf,Φ:=(Φ69 L N),inl:=inlT,live:=lives,liveX:=livesX,L:=L,dp:=none,prom:=promT,heal:=healT,ren:=renT}
noncomputable def f27.c0:Code:=loopAt 0 (codeOf Tryz.f27)
noncomputable def f27.c1:Code:=loopAt 2 f27.c0
def f27.X1_e2 {R:Type} (κ:KX R):=fun z16 z17 z18=>κ (.exit 2) (f27.T1_e2 z16 z17 z18) (f27.H1_e2 z16 z17 z18)
def f27.R1 {R:Type} (rec:KT R):=fun s12 s13 s14 s15=>rec (f27.T1 s12 s13 s14 s15) (f27.H1 s12 s13 s14 s15)
theorem f27.s1_eq {R:Type} (L N:Nat) (κ:KX R) (rec:KT R) (s12:Int) (s13:Int) (s14:LLM) (s15:LLB):
  evRd (E27 L N) (evCallI (E27 L N) 1 2000) 1000 27 64 2 f27.c1 κ rec (f27.T1 s12 s13 s14 s15) (f27.H1 s12 s13 s14 s15)
  =f27.s1 L N (f27.X1_e2 κ) (f27.R1 rec) s12 s13 s14 s15:=by kernel_rfl
theorem f27.l1_eq {R:Type} (L N:Nat) (κ:KX R):∀(n:Nat) (s12:Int) (s13:Int) (s14:LLM) (s15:LLB),
  evLp (E27 L N) (evCallI (E27 L N) 1 2000) 1000 27 64 2 f27.c1 κ n (f27.T1 s12 s13 s14 s15) (f27.H1 s12 s13 s14 s15)
  =f27.l1 L N (f27.X1_e2 κ) n s12 s13 s14 s15:=by
 intro n
 induction n with
 |zero=>intros;rfl
 |succ n ih=>
  intro s12 s13 s14 s15
  rw [evLp_succ,f27.s1_eq]
  delta f27.R1
  simp only [ih]
  rfl
def f27.X0_e0 {R:Type} (κ:KX R):=κ (.exit 0) f27.T0_e0 f27.H0_e0
def f27.X0_r {R:Type} (κ:KX R):=fun z9 z10=>κ .ret (f27.T0_r z9 z10) (f27.H0_r z9 z10)
def f27.R0 {R:Type} (rec:KT R):=fun s6 s7 s8=>rec (f27.T0 s6 s7 s8) (f27.H0 s6 s7 s8)
theorem f27.p1_e2_eq {R:Type} (L N:Nat) (κ:KX R) (rec:KT R) (z16:Int) (z17:LLM) (z18:LLB):
  (contAt (E27 L N) (evCallI (E27 L N) 1 2000) 1000 27 64 2 f27.c0 (rdK (E27 L N) 1000 27 64 0 κ rec)) (.exit 2) (f27.T1_e2 z16 z17 z18) (f27.H1_e2 z16 z17 z18)
  =f27.p1_e2 L N (f27.X0_e0 κ) (f27.X0_r κ) (f27.R0 rec) z16 z17 z18:=by kernel_rfl
theorem f27.s0_eq {R:Type} (L N:Nat) (κ:KX R) (rec:KT R) (s6:Int) (s7:LLM) (s8:LLB):
  evRd (E27 L N) (evCallI (E27 L N) 1 2000) 1000 27 64 0 f27.c0 κ rec (f27.T0 s6 s7 s8) (f27.H0 s6 s7 s8)
  =f27.s0 L N (f27.X0_e0 κ) (f27.X0_r κ) (f27.R0 rec) s6 s7 s8:=by
 refine Eq.trans (b:=f27.s0' L N (f27.X0_e0 κ) (f27.X0_r κ) (f27.R0 rec) (fun s12 s13 s14 s15=>evLp (E27 L N) (evCallI (E27 L N) 1 2000) 1000 27 64 2 f27.c1 (contAt (E27 L N) (evCallI (E27 L N) 1 2000) 1000 27 64 2 f27.c0 (rdK (E27 L N) 1000 27 64 0 κ rec)) L (f27.T1 s12 s13 s14 s15) (f27.H1 s12 s13 s14 s15)) s6 s7 s8) (by kernel_rfl) ?_
 unfold f27.s0
 simp only [f27.l1_eq]
 delta f27.X1_e2
 simp only [f27.p1_e2_eq]
theorem f27.l0_eq {R:Type} (L N:Nat) (κ:KX R):∀(n:Nat) (s6:Int) (s7:LLM) (s8:LLB),
  evLp (E27 L N) (evCallI (E27 L N) 1 2000) 1000 27 64 0 f27.c0 κ n (f27.T0 s6 s7 s8) (f27.H0 s6 s7 s8)
  =f27.l0 L N (f27.X0_e0 κ) (f27.X0_r κ) n s6 s7 s8:=by
 intro n
 induction n with
 |zero=>intros;rfl
 |succ n ih=>
  intro s6 s7 s8
  rw [evLp_succ,f27.s0_eq]
  delta f27.R0
  simp only [ih]
  rfl
theorem f27.p0_e0_eq {R:Type} (L N:Nat) (κ:AV→Option R):
  (contAt (E27 L N) (evCallI (E27 L N) 1 2000) 1000 27 64 0 (codeOf Tryz.f27) (finK (E27 L N) 1000 Tryz.f27 (finC (.many [.bool,.bool]) κ))) (.exit 0) f27.T0_e0 f27.H0_e0
  =f27.p0_e0 L N (fun a0 a1=>κ (.tup [(.tv .bool a0),(.tv .bool a1)])):=by kernel_rfl
theorem f27.p0_r_eq {R:Type} (L N:Nat) (κ:AV→Option R) (z9:Bool) (z10:Bool):
  (contAt (E27 L N) (evCallI (E27 L N) 1 2000) 1000 27 64 0 (codeOf Tryz.f27) (finK (E27 L N) 1000 Tryz.f27 (finC (.many [.bool,.bool]) κ))) .ret (f27.T0_r z9 z10) (f27.H0_r z9 z10)
  =f27.p0_r L N (fun a0 a1=>κ (.tup [(.tv .bool a0),(.tv .bool a1)])) z9 z10:=by kernel_rfl
theorem f27.b_eq {R:Type} (L N:Nat) (κ:AV→Option R) (x0:Graph):
  evBody (E27 L N) (evCallI (E27 L N) 1 2000) 1000 27 Tryz.f27 [(.tv (.st 2) x0)] [] [] (finC (.many [.bool,.bool]) κ)
  =f27.b L N (fun a0 a1=>κ (.tup [(.tv .bool a0),(.tv .bool a1)])) x0:=by
 refine Eq.trans (b:=f27.b' L N (fun a0 a1=>κ (.tup [(.tv .bool a0),(.tv .bool a1)])) (fun s6 s7 s8=>evLp (E27 L N) (evCallI (E27 L N) 1 2000) 1000 27 64 0 f27.c0 (contAt (E27 L N) (evCallI (E27 L N) 1 2000) 1000 27 64 0 (codeOf Tryz.f27) (finK (E27 L N) 1000 Tryz.f27 (finC (.many [.bool,.bool]) κ))) L (f27.T0 s6 s7 s8) (f27.H0 s6 s7 s8)) x0) (by kernel_rfl) ?_
 unfold f27.b
 simp only [f27.l0_eq]
 delta f27.X0_e0 f27.X0_r
 simp only [f27.p0_e0_eq,f27.p0_r_eq]
theorem f27.ok (L N:Nat) (hΦ:TellsOk Tryz.prog ((Φ69 L N))):EntOk Tryz.prog 27 (f27.ent L N):=entRo_ok (E:=(E27 L N)) (dep:=1000) (f:=Tryz.f27) (sound_of hΦ) okP (callI_sound (sound_of hΦ) okP 1 2000) rfl rfl fun d _ hy=>(f27.b_eq L N (unR (.many [.bool,.bool])) d.1).trans (Eq.trans (b:=f27.b L N (fun a0 a1=>some (a0,a1)) d.1) (by kernel_rfl) hy)
def Φ27 (L N:Nat):Tells:=(addT (Φ69 L N) 27 (f27.ent L N))
theorem Φ27_ok (L N:Nat):TellsOk Tryz.prog (Φ27 L N):=addT_ok (Φ69_ok L N) (f27.ok L N (Φ69_ok L N))
def f5.j0' {R:Type} (L N:Nat) (k:Bool→Option R) (v5:LLM):Option R:=
 (f20 L N (Graph.mk v5)).bind fun y6=>
 (f26 L N (Graph.mk y6.1)).bind fun y7=>
 bif (!y6.2) then
  k true
 else bif (!y7.2) then
  k true
 else k y7.1
def f5.b' {R:Type} (L N:Nat) (k:Bool→Option R) (x0:LI):Option R:=
 bif (decide ((x0.length:Int)>(1048576:Int))) then
  k true
 else (f25 L N x0).bind fun y0=>
 (f26 L N (Graph.mk y0.moves)).bind fun y1=>
 (f27 L N (Graph.mk y0.moves)).bind fun y2=>
 bif (!(y1.1==y2.1)) then
  k false
 else bif (!(y1.2==y2.2)) then
  k false
 else f5.j0' L N k y0.moves
def f5.b {R:Type} (L N:Nat) (k:Bool→Option R) (x0:LI):Option R:=
 f5.b' L N k x0
def f5 (L N:Nat) (x0:LI):Option (Bool):=f5.b L N some x0
def f5.ent (L N:Nat):=entRo [(.sl (.int .u8))] (.one .bool) fun d=>f5 L N d.1
noncomputable def E5 (L N:Nat):Env:={P:=Tryz.prog,ty:=tyOf,Φ:=(Φ27 L N),inl:=inlT,live:=lives,liveX:=livesX,L:=L,dp:=none,prom:=promT,heal:=healT,ren:=renT}
theorem f5.b_eq {R:Type} (L N:Nat) (κ:AV→Option R) (x0:LI):
  evBody (E5 L N) (evCallI (E5 L N) 1 2000) 1000 5 Tryz.f5 [(.tv (.sl (.int .u8)) x0)] [] [] (finC (.one .bool) κ)
  =f5.b L N (fun a0=>κ (.tv .bool a0)) x0:=by kernel_rfl
theorem f5.ok (L N:Nat) (hΦ:TellsOk Tryz.prog ((Φ27 L N))):EntOk Tryz.prog 5 (f5.ent L N):=entRo_ok (E:=(E5 L N)) (dep:=1000) (f:=Tryz.f5) (sound_of hΦ) okP (callI_sound (sound_of hΦ) okP 1 2000) rfl rfl fun d _ hy=>(f5.b_eq L N (unR (.one .bool)) d.1).trans (Eq.trans (b:=f5.b L N some d.1) (by kernel_rfl) hy)
def Φ5 (L N:Nat):Tells:=(addT (Φ27 L N) 5 (f5.ent L N))
theorem Φ5_ok (L N:Nat):TellsOk Tryz.prog (Φ5 L N):=addT_ok (Φ27_ok L N) (f5.ok L N (Φ27_ok L N))
end Go.Proofs.YtffkhhblppfbfaaGreatDoor.Ev
