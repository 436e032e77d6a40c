/- The seat's functions as plain functions, continued: made by program (wip/gen/gen.py). -/
import Derived.Test.YthidlhjjnaldhaaGreatDoorLW5b
namespace Go.Proofs.YthidlhjjnaldhaaGreatDoor.Ev
open Go
set_option linter.unusedVariables false
set_option maxRecDepth 20000
def f83.R0 {R:Type} (rec:KT R):=fun s69 s70 s71 s72 s73 s74=>rec (f83.T0 s69 s70 s71 s72 s73 s74) (f83.H0 s69 s70 s71 s72 s73 s74)
theorem f83.s0_eq {R:Type} (L N:Nat) (κ:KX R) (rec:KT R) (s69:Int) (s70:Int) (s71:Int) (s72:Int) (s73:LT) (s74:LS):
  evRd (E83 L N) (evCallI (E83 L N) 0 1000) 1000 83 262 1 f83.c0 κ rec (f83.T0 s69 s70 s71 s72 s73 s74) (f83.H0 s69 s70 s71 s72 s73 s74)
  =f83.s0 L N (f83.X0_e1 κ) (f83.R0 rec) s69 s70 s71 s72 s73 s74:=by kernel_rfl
theorem f83.l0_eq {R:Type} (L N:Nat) (κ:KX R):∀(n:Nat) (s69:Int) (s70:Int) (s71:Int) (s72:Int) (s73:LT) (s74:LS),
  evLp (E83 L N) (evCallI (E83 L N) 0 1000) 1000 83 262 1 f83.c0 κ n (f83.T0 s69 s70 s71 s72 s73 s74) (f83.H0 s69 s70 s71 s72 s73 s74)
  =f83.l0 L N (f83.X0_e1 κ) n s69 s70 s71 s72 s73 s74:=by
 intro n
 induction n with
 |zero=>intros;rfl
 |succ n ih=>
  intro s69 s70 s71 s72 s73 s74
  rw [evLp_succ,f83.s0_eq]
  delta f83.R0
  simp only [ih]
  rfl
theorem f83.p0_e1_eq {R:Type} (L N:Nat) (κ:AV→Option R) (z75:Int) (z76:Int) (z77:LT):
  (contAt (E83 L N) (evCallI (E83 L N) 0 1000) 1000 83 262 1 (codeOf Tryz.f83) (finK (E83 L N) 1000 Tryz.f83 (finC (.many [(.st 1),.bool]) κ))) (.exit 1) (f83.T0_e1 z75 z76 z77) (f83.H0_e1 z75 z76 z77)
  =f83.p0_e1 L N (fun a0 a1=>κ (.tup [(.tv (.st 1) a0),(.tv .bool a1)])) z75 z76 z77:=by kernel_rfl
theorem f83.b_eq {R:Type} (L N:Nat) (κ:AV→Option R) (x0:Tree) (x1:Int):
  evBody (E83 L N) (evCallI (E83 L N) 0 1000) 1000 83 Tryz.f83 [(.tv (.st 1) x0),(.tv i64 x1)] [] [] (finC (.many [(.st 1),.bool]) κ)
  =f83.b L N (fun a0 a1=>κ (.tup [(.tv (.st 1) a0),(.tv .bool a1)])) x0 x1:=by
 refine Eq.trans (b:=f83.b' L N (fun a0 a1=>κ (.tup [(.tv (.st 1) a0),(.tv .bool a1)])) (fun s69 s70 s71 s72 s73 s74=>evLp (E83 L N) (evCallI (E83 L N) 0 1000) 1000 83 262 1 f83.c0 (contAt (E83 L N) (evCallI (E83 L N) 0 1000) 1000 83 262 1 (codeOf Tryz.f83) (finK (E83 L N) 1000 Tryz.f83 (finC (.many [(.st 1),.bool]) κ))) L (f83.T0 s69 s70 s71 s72 s73 s74) (f83.H0 s69 s70 s71 s72 s73 s74)) x0 x1) (by kernel_rfl) ?_
 unfold f83.b
 simp only [f83.l0_eq]
 delta f83.X0_e1
 simp only [f83.p0_e1_eq]
theorem f83.ok (L N:Nat) (hΦ:TellsOk Tryz.prog ((Φ58_1 L N))):EntOk Tryz.prog 83 (f83.ent L N):=entDa_ok (E:=(E83 L N)) (dep:=1000) (f:=Tryz.f83) (sound_of hΦ) okP (callI_sound (sound_of hΦ) okP 0 1000) rfl fun d _ hy=>(f83.b_eq L N (unR (.many [(.st 1),.bool])) d.1 d.2.1).trans (Eq.trans (b:=f83.b L N (fun a0 a1=>some (a0,a1)) d.1 d.2.1) (by kernel_rfl) hy)
def Φ83 (L N:Nat):Tells:=(addT (Φ58_1 L N) 83 (f83.ent L N))
theorem Φ83_ok (L N:Nat):TellsOk Tryz.prog (Φ83 L N):=addT_ok (Φ58_1_ok L N) (f83.ok L N (Φ58_1_ok L N))
def f84.b' {R:Type} (L N:Nat) (k:LT→Option R) (x0:LT):Option R:=
 bif (decide (0<x0.length)) then
  bif (decide (([]:LT).length+x0.length≤lim)) then
   k (([]:LT)++x0)
  else none
 else none
def f84.b {R:Type} (L N:Nat) (k:LT→Option R) (x0:LT):Option R:=
 f84.b' L N k x0
def f84 (L N:Nat) (x0:LT):Option (LT):=f84.b L N some x0
def f84.ent (L N:Nat) (args:List AV) (vw:View) (site:Nat):Ans:=match coeD [(.sl (.st 1))] vw args with
 |some (d,u)=>⟨LT,f84 L N d.1,fun y=>(.row site,u++[(site,some (.row 25 (.st 1) y))],[])⟩
 |none=>Ans.no
noncomputable def E84 (L N:Nat):Env:={P:=Tryz.prog,ty:=tyOf,Φ:=(Φ83 L N),inl:=inlT,live:=lives,liveX:=livesX,L:=L,dp:=none,prom:=promT,heal:=healT,ren:=renT}
theorem f84.b_eq {R:Type} (L N:Nat) (κ:List Tree→Option R) (x0:LT):
  evBody (E84 L N) (evCallI (E84 L N) 0 1000) 1000 84 Tryz.f84 [(.tv (.sl (.st 1)) x0)] [] [] (finRow 25 (.st 1) κ)
  =f84.b L N κ x0:=by kernel_rfl
theorem f84.ok (L N:Nat) (hΦ:TellsOk Tryz.prog ((Φ83 L N))):EntOk Tryz.prog 84 (f84.ent L N):=by
 intro args vw site h
 unfold f84.ent
 split
 ·rename_i d u ha
  intro y hy hs
  refine call_row (dep:=1000) (E:=(E84 L N)) (sound_of hΦ) okP (callI_sound (sound_of hΦ) okP 0 1000) (f:=Tryz.f84) rfl hs ha ?_ site
  exact (f84.b_eq L N some d.1).trans hy
 ·intro y hy
  cases hy
def Φ84 (L N:Nat):Tells:=(addT (Φ83 L N) 84 (f84.ent L N))
theorem Φ84_ok (L N:Nat):TellsOk Tryz.prog (Φ84 L N):=addT_ok (Φ83_ok L N) (f84.ok L N (Φ83_ok L N))
def f51.j0' {R:Type} (L N:Nat) (self51:Tree→Int→LI→Option (Tree×Bool)) (k:Tree→Bool→Option R) (v10:Int) (v11:LI) (v12:Int) (v13:Int) (v14:Int) (v15:LT) (v16:Int) (v17:Int):Option R:=
 bif (decide (0≤v12)&&decide (v12<(v15.length:Int))) then
  bif (slB (1:Int) (v11.length:Int) v11.length) then
   (self51 (listAt v15 (Ty.dflt (.st 1)) v12.toNat) v10 (slX v11 (1:Int) (v11.length:Int))).bind fun y18=>
   (f84 L N v15).bind fun y19=>
   bif (decide (0≤v12)&&decide (v12<(y19.length:Int))) then
    k (Tree.mk v13 v14 (y19.set v12.toNat (Tree.mk y18.1.op y18.1.n y18.1.parts))) y18.2
   else none
  else none
 else none
def f51.b' {R:Type} (L N:Nat) (self51:Tree→Int→LI→Option (Tree×Bool)) (k:Tree→Bool→Option R) (x0:Tree) (x1:Int) (x2:LI):Option R:=
 bif ((x2.length:Int)==(0:Int)) then
  (f83 L N (Tree.mk x0.op x0.n x0.parts) x1).bind fun y0=>
  k (Tree.mk y0.1.op y0.1.n y0.1.parts) y0.2
 else bif (decide (0≤(0:Int))&&decide ((0:Int)<(x2.length:Int))) then
  bif (decide ((listAt x2 (0:Int) (0:Int).toNat)<(0:Int))) then
   k (Tree.mk (0:Int) (0:Int) []) false
  else bif (decide ((listAt x2 (0:Int) (0:Int).toNat)≥(x0.parts.length:Int))) then
   k (Tree.mk (0:Int) (0:Int) []) false
  else f51.j0' L N self51 k x1 x2 (listAt x2 (0:Int) (0:Int).toNat) x0.op x0.n x0.parts (0:Int) (0:Int)
 else none
def f51.b {R:Type} (L N:Nat) (self51:Tree→Int→LI→Option (Tree×Bool)) (k:Tree→Bool→Option R) (x0:Tree) (x1:Int) (x2:LI):Option R:=
 f51.b' L N self51 k x0 x1 x2
def f51 (L N:Nat):Nat→Tree→Int→LI→Option (Tree×Bool)
 |0,_,_,_=>none
 |n+1,x0,x1,x2=>f51.b L N (f51 L N n) (fun a0 a1=>some (a0,a1)) x0 x1 x2
def f51.ent (L N m:Nat):=entDa [(.st 1),i64,(.sl i64)] (.many [(.st 1),.bool]) fun d=>f51 L N m d.1 d.2.1 d.2.2.1
def Φ51s (L N m:Nat):Tells:=(addT (Φ84 L N) 51 (f51.ent L N m))
noncomputable def E51 (L N m:Nat):Env:={P:=Tryz.prog,ty:=tyOf,Φ:=Φ51s L N m,inl:=inlT,live:=lives,liveX:=livesX,L:=L,dp:=none,prom:=promT,heal:=healT,ren:=renT}
theorem f51.b_eq {R:Type} (L N m:Nat) (κ:AV→Option R) (x0:Tree) (x1:Int) (x2:LI):
  evBody (E51 L N m) (evCallI (E51 L N m) 0 1000) 1000 51 Tryz.f51 [(.tv (.st 1) x0),(.tv i64 x1),(.tv (.sl i64) x2)] [] [] (finC (.many [(.st 1),.bool]) κ)
  =f51.b L N (f51 L N m) (fun a0 a1=>κ (.tup [(.tv (.st 1) a0),(.tv .bool a1)])) x0 x1 x2:=by kernel_rfl
theorem f51.ok (L N m:Nat) (hΦ:TellsOk Tryz.prog (Φ51s L N m)):EntOk Tryz.prog 51 (f51.ent L N (m+1)):=entDa_ok (E:=(E51 L N m)) (dep:=1000) (f:=Tryz.f51) (sound_of hΦ) okP (callI_sound (sound_of hΦ) okP 0 1000) rfl fun d _ hy=>(f51.b_eq L N m (unR (.many [(.st 1),.bool])) d.1 d.2.1 d.2.2.1).trans (Eq.trans (b:=f51.b L N (f51 L N m) (fun a0 a1=>some (a0,a1)) d.1 d.2.1 d.2.2.1) (by kernel_rfl) hy)
theorem Φ51s_ok (L N:Nat):∀m,TellsOk Tryz.prog (Φ51s L N m):=by
 intro m
 induction m with
 |zero=>exact (addT_ok (Φ84_ok L N) (entDa_no fun _=>rfl))
 |succ m ih=>exact (addT_ok (Φ84_ok L N) (f51.ok L N m ih))
def Φ51 (L N:Nat):Tells:=(addT (Φ84 L N) 51 (f51.ent L N N))
theorem Φ51_ok (L N:Nat):TellsOk Tryz.prog (Φ51 L N):=Φ51s_ok L N N
def f52.s0' {R:Type} (L N:Nat) (self52:Tree→Option (Tree)) (k0_e0:Int→Int→Int→Int→LT→Option R) (rec0:LT→Int→Int→Int→Int→Int→Int→LT→Option R) (s0:LT) (s1:Int) (s2:Int) (s3:Int) (s4:Int) (s5:Int) (s6:Int) (s7:LT):Option R:=
 bif (decide (s2<s1)) then
  bif (decide (0≤s2)&&decide (s2<(s0.length:Int))) then
   (self52 (Tree.mk ((listAt s0 (Ty.dflt (.st 1)) s2.toNat).op) ((listAt s0 (Ty.dflt (.st 1)) s2.toNat).n) ((listAt s0 (Ty.dflt (.st 1)) s2.toNat).parts))).bind fun y13=>
   bif (decide (s7.length+([y13]:LT).length≤lim)) then
    rec0 s0 s1 (wi (s2+(1:Int))) s3 s4 s5 s6 (s7++([y13]:LT))
   else none
  else none
 else k0_e0 s3 s4 s5 s6 s7
def f52.s0 {R:Type} (L N:Nat) (self52:Tree→Option (Tree)) (k0_e0:Int→Int→Int→Int→LT→Option R) (rec0:LT→Int→Int→Int→Int→Int→Int→LT→Option R) (s0:LT) (s1:Int) (s2:Int) (s3:Int) (s4:Int) (s5:Int) (s6:Int) (s7:LT):Option R:=
 f52.s0' L N self52 k0_e0 rec0 s0 s1 s2 s3 s4 s5 s6 s7
def f52.l0 {R:Type} (L N:Nat) (self52:Tree→Option (Tree)) (k0_e0:Int→Int→Int→Int→LT→Option R):Nat→LT→Int→Int→Int→Int→Int→Int→LT→Option R
 |0,_,_,_,_,_,_,_,_=>none
 |n+1,s0,s1,s2,s3,s4,s5,s6,s7=>f52.s0 L N self52 k0_e0 (f52.l0 L N self52 k0_e0 n) s0 s1 s2 s3 s4 s5 s6 s7
def f52.T0 (s0:LT) (s1:Int) (s2:Int) (s3:Int) (s4:Int) (s5:Int) (s6:Int) (s7:LT):T:=mkT 27 [(2,(.ptr 1002 0)),(3,(.ptr 1003 0)),(12,(.tv (.sl (.st 1)) s0)),(13,(.tv i64 s1)),(14,(.tv i64 s2))]
def f52.H0 (s0:LT) (s1:Int) (s2:Int) (s3:Int) (s4:Int) (s5:Int) (s6:Int) (s7:LT):H:=[(1002,(.box [(.tv i64 s3),(.tv i64 s4),.nil])),(1003,(.box [(.tv i64 s5),(.tv i64 s6),(.row 1900)])),(1900,(.row 25 (.st 1) s7))]
def f52.T0_e0 (z8:Int) (z9:Int) (z10:Int) (z11:Int) (z12:LT):T:=mkT 27 [(2,(.ptr 1002 0)),(3,(.ptr 1003 0))]
def f52.H0_e0 (z8:Int) (z9:Int) (z10:Int) (z11:Int) (z12:LT):H:=[(1002,(.box [(.tv i64 z8),(.tv i64 z9),.nil])),(1003,(.box [(.tv i64 z10),(.tv i64 z11),(.row 1900)])),(1900,(.row 25 (.st 1) z12))]
def f52.p0_e0' {R:Type} (L N:Nat) (self52:Tree→Option (Tree)) (k:Tree→Option R) (z8:Int) (z9:Int) (z10:Int) (z11:Int) (z12:LT):Option R:=
 k (Tree.mk z10 z11 z12)
def f52.p0_e0 {R:Type} (L N:Nat) (self52:Tree→Option (Tree)) (k:Tree→Option R) (z8:Int) (z9:Int) (z10:Int) (z11:Int) (z12:LT):Option R:=
 f52.p0_e0' L N self52 k z8 z9 z10 z11 z12
def f52.b' {R:Type} (L N:Nat) (self52:Tree→Option (Tree)) (k:Tree→Option R) (w0:LT→Int→Int→Int→Int→Int→Int→LT→Option R) (x0:Tree):Option R:=
 w0 x0.parts (x0.parts.length:Int) (0:Int) (0:Int) (0:Int) x0.op x0.n ([]:LT)
def f52.b {R:Type} (L N:Nat) (self52:Tree→Option (Tree)) (k:Tree→Option R) (x0:Tree):Option R:=
 f52.b' L N self52 k (fun s0 s1 s2 s3 s4 s5 s6 s7=>f52.l0 L N self52 (fun z8 z9 z10 z11 z12=>f52.p0_e0 L N self52 k z8 z9 z10 z11 z12) L s0 s1 s2 s3 s4 s5 s6 s7) x0
def f52 (L N:Nat):Nat→Tree→Option (Tree)
 |0,_=>none
 |n+1,x0=>f52.b L N (f52 L N n) some x0
def f52.ent (L N m:Nat):=entDa [(.st 1)] (.one (.st 1)) fun d=>f52 L N m d.1
def Φ52s (L N m:Nat):Tells:=(addT (Φ51 L N) 52 (f52.ent L N m))
noncomputable def E52 (L N m:Nat):Env:={P:=Tryz.prog,ty:=tyOf,Φ:=Φ52s L N m,inl:=inlT,live:=lives,liveX:=livesX,L:=L,dp:=none,prom:=promT,heal:=healT,ren:=renT}
noncomputable def f52.c0:Code:=loopAt 0 (codeOf Tryz.f52)
def f52.X0_e0 {R:Type} (κ:KX R):=fun z8 z9 z10 z11 z12=>κ (.exit 0) (f52.T0_e0 z8 z9 z10 z11 z12) (f52.H0_e0 z8 z9 z10 z11 z12)
def f52.R0 {R:Type} (rec:KT R):=fun s0 s1 s2 s3 s4 s5 s6 s7=>rec (f52.T0 s0 s1 s2 s3 s4 s5 s6 s7) (f52.H0 s0 s1 s2 s3 s4 s5 s6 s7)
theorem f52.s0_eq {R:Type} (L N m:Nat) (κ:KX R) (rec:KT R) (s0:LT) (s1:Int) (s2:Int) (s3:Int) (s4:Int) (s5:Int) (s6:Int) (s7:LT):
  evRd (E52 L N m) (evCallI (E52 L N m) 0 1000) 1000 52 27 0 f52.c0 κ rec (f52.T0 s0 s1 s2 s3 s4 s5 s6 s7) (f52.H0 s0 s1 s2 s3 s4 s5 s6 s7)
  =f52.s0 L N (f52 L N m) (f52.X0_e0 κ) (f52.R0 rec) s0 s1 s2 s3 s4 s5 s6 s7:=by kernel_rfl
theorem f52.l0_eq {R:Type} (L N m:Nat) (κ:KX R):∀(n:Nat) (s0:LT) (s1:Int) (s2:Int) (s3:Int) (s4:Int) (s5:Int) (s6:Int) (s7:LT),
  evLp (E52 L N m) (evCallI (E52 L N m) 0 1000) 1000 52 27 0 f52.c0 κ n (f52.T0 s0 s1 s2 s3 s4 s5 s6 s7) (f52.H0 s0 s1 s2 s3 s4 s5 s6 s7)
  =f52.l0 L N (f52 L N m) (f52.X0_e0 κ) n s0 s1 s2 s3 s4 s5 s6 s7:=by
 intro n
 induction n with
 |zero=>intros;rfl
 |succ n ih=>
  intro s0 s1 s2 s3 s4 s5 s6 s7
  rw [evLp_succ,f52.s0_eq]
  delta f52.R0
  simp only [ih]
  rfl
theorem f52.p0_e0_eq {R:Type} (L N m:Nat) (κ:AV→Option R) (z8:Int) (z9:Int) (z10:Int) (z11:Int) (z12:LT):
  (contAt (E52 L N m) (evCallI (E52 L N m) 0 1000) 1000 52 27 0 (codeOf Tryz.f52) (finK (E52 L N m) 1000 Tryz.f52 (finC (.one (.st 1)) κ))) (.exit 0) (f52.T0_e0 z8 z9 z10 z11 z12) (f52.H0_e0 z8 z9 z10 z11 z12)
  =f52.p0_e0 L N (f52 L N m) (fun a0=>κ (.tv (.st 1) a0)) z8 z9 z10 z11 z12:=by kernel_rfl
theorem f52.b_eq {R:Type} (L N m:Nat) (κ:AV→Option R) (x0:Tree):
  evBody (E52 L N m) (evCallI (E52 L N m) 0 1000) 1000 52 Tryz.f52 [(.tv (.st 1) x0)] [] [] (finC (.one (.st 1)) κ)
  =f52.b L N (f52 L N m) (fun a0=>κ (.tv (.st 1) a0)) x0:=by
 refine Eq.trans (b:=f52.b' L N (f52 L N m) (fun a0=>κ (.tv (.st 1) a0)) (fun s0 s1 s2 s3 s4 s5 s6 s7=>evLp (E52 L N m) (evCallI (E52 L N m) 0 1000) 1000 52 27 0 f52.c0 (contAt (E52 L N m) (evCallI (E52 L N m) 0 1000) 1000 52 27 0 (codeOf Tryz.f52) (finK (E52 L N m) 1000 Tryz.f52 (finC (.one (.st 1)) κ))) L (f52.T0 s0 s1 s2 s3 s4 s5 s6 s7) (f52.H0 s0 s1 s2 s3 s4 s5 s6 s7)) x0) (by kernel_rfl) ?_
 unfold f52.b
 simp only [f52.l0_eq]
 delta f52.X0_e0
 simp only [f52.p0_e0_eq]
theorem f52.ok (L N m:Nat) (hΦ:TellsOk Tryz.prog (Φ52s L N m)):EntOk Tryz.prog 52 (f52.ent L N (m+1)):=entDa_ok (E:=(E52 L N m)) (dep:=1000) (f:=Tryz.f52) (sound_of hΦ) okP (callI_sound (sound_of hΦ) okP 0 1000) rfl fun d _ hy=>(f52.b_eq L N m (unR (.one (.st 1))) d.1).trans (Eq.trans (b:=f52.b L N (f52 L N m) some d.1) (by kernel_rfl) hy)
theorem Φ52s_ok (L N:Nat):∀m,TellsOk Tryz.prog (Φ52s L N m):=by
 intro m
 induction m with
 |zero=>exact (addT_ok (Φ51_ok L N) (entDa_no fun _=>rfl))
 |succ m ih=>exact (addT_ok (Φ51_ok L N) (f52.ok L N m ih))
def Φ52 (L N:Nat):Tells:=(addT (Φ51 L N) 52 (f52.ent L N N))
theorem Φ52_ok (L N:Nat):TellsOk Tryz.prog (Φ52 L N):=Φ52s_ok L N N
def f17.j0' {R:Type} (L N:Nat) (k:Tree→Bool→Option R) (v9:Int) (v10:LI) (v11:Int) (v12:Int) (v13:LT) (v14:Int) (v15:Int):Option R:=
 (f51 L N N (Tree.mk v11 v12 v13) v9 v10).bind fun y16=>
 bif (!y16.2) then
  k (Tree.mk (0:Int) (0:Int) []) false
 else (f50 L N (Tree.mk y16.1.op y16.1.n y16.1.parts)).bind fun y17=>
 bif (!y17) then
  k (Tree.mk (0:Int) (0:Int) []) false
 else (f52 L N N (Tree.mk y16.1.op y16.1.n y16.1.parts)).bind fun y31=>
 k (Tree.mk y31.op y31.n y31.parts) true
def f17.b' {R:Type} (L N:Nat) (k:Tree→Bool→Option R) (x0:Tree) (x1:Int) (x2:LI):Option R:=
 (f50 L N (Tree.mk x0.op x0.n x0.parts)).bind fun y0=>
 bif (!y0) then
  k (Tree.mk (0:Int) (0:Int) []) false
 else bif (decide (x1<(0:Int))) then
  k (Tree.mk (0:Int) (0:Int) []) false
 else bif (decide (x1≥(12:Int))) then
  k (Tree.mk (0:Int) (0:Int) []) false
 else f17.j0' L N k x1 x2 x0.op x0.n x0.parts (0:Int) (0:Int)
def f17.b {R:Type} (L N:Nat) (k:Tree→Bool→Option R) (x0:Tree) (x1:Int) (x2:LI):Option R:=
 f17.b' L N k x0 x1 x2
def f17 (L N:Nat) (x0:Tree) (x1:Int) (x2:LI):Option (Tree×Bool):=f17.b L N (fun a0 a1=>some (a0,a1)) x0 x1 x2
def f17.ent (L N:Nat):=entDa [(.st 1),i64,(.sl i64)] (.many [(.st 1),.bool]) fun d=>f17 L N d.1 d.2.1 d.2.2.1
noncomputable def E17 (L N:Nat):Env:={P:=Tryz.prog,ty:=tyOf,Φ:=(Φ52 L N),inl:=inlT,live:=lives,liveX:=livesX,L:=L,dp:=none,prom:=promT,heal:=healT,ren:=renT}
theorem f17.b_eq {R:Type} (L N:Nat) (κ:AV→Option R) (x0:Tree) (x1:Int) (x2:LI):
  evBody (E17 L N) (evCallI (E17 L N) 0 1000) 1000 17 Tryz.f17 [(.tv (.st 1) x0),(.tv i64 x1),(.tv (.sl i64) x2)] [] [] (finC (.many [(.st 1),.bool]) κ)
  =f17.b L N (fun a0 a1=>κ (.tup [(.tv (.st 1) a0),(.tv .bool a1)])) x0 x1 x2:=by kernel_rfl
theorem f17.ok (L N:Nat) (hΦ:TellsOk Tryz.prog ((Φ52 L N))):EntOk Tryz.prog 17 (f17.ent L N):=entDa_ok (E:=(E17 L N)) (dep:=1000) (f:=Tryz.f17) (sound_of hΦ) okP (callI_sound (sound_of hΦ) okP 0 1000) rfl fun d _ hy=>(f17.b_eq L N (unR (.many [(.st 1),.bool])) d.1 d.2.1 d.2.2.1).trans (Eq.trans (b:=f17.b L N (fun a0 a1=>some (a0,a1)) d.1 d.2.1 d.2.2.1) (by kernel_rfl) hy)
def Φ17 (L N:Nat):Tells:=(addT (Φ52 L N) 17 (f17.ent L N))
theorem Φ17_ok (L N:Nat):TellsOk Tryz.prog (Φ17 L N):=addT_ok (Φ52_ok L N) (f17.ok L N (Φ52_ok L N))
def f19.b' {R:Type} (L N:Nat) (self19:Tree→Tree→Option (Bool)) (self57:LT→LT→Option (Bool)) (k:Bool→Option R) (x0:Tree) (x1:Tree):Option R:=
 bif (x0.op==x1.op) then
  bif (x0.n==x1.n) then
   (self57 x0.parts x1.parts).bind fun y0=>
   k y0
  else k false
 else k false
def f19.b {R:Type} (L N:Nat) (self19:Tree→Tree→Option (Bool)) (self57:LT→LT→Option (Bool)) (k:Bool→Option R) (x0:Tree) (x1:Tree):Option R:=
 f19.b' L N self19 self57 k x0 x1
def f57.s0' {R:Type} (L N:Nat) (self19:Tree→Tree→Option (Bool)) (self57:LT→LT→Option (Bool)) (k0_e0:Option R) (k0_r:Bool→Option R) (rec0:LT→LT→Int→Option R) (s0:LT) (s1:LT) (s2:Int):Option R:=
 bif (decide (s2<(s0.length:Int))) then
  bif (decide (0≤s2)&&decide (s2<(s0.length:Int))) then
   bif (decide (0≤s2)&&decide (s2<(s1.length:Int))) then
    (self19 (listAt s0 (Ty.dflt (.st 1)) s2.toNat) (listAt s1 (Ty.dflt (.st 1)) s2.toNat)).bind fun y3=>
    bif (!y3) then
     k0_r false
    else rec0 s0 s1 (wi (s2+(1:Int)))
   else none
  else none
 else k0_e0
def f57.s0 {R:Type} (L N:Nat) (self19:Tree→Tree→Option (Bool)) (self57:LT→LT→Option (Bool)) (k0_e0:Option R) (k0_r:Bool→Option R) (rec0:LT→LT→Int→Option R) (s0:LT) (s1:LT) (s2:Int):Option R:=
 f57.s0' L N self19 self57 k0_e0 k0_r rec0 s0 s1 s2
def f57.l0 {R:Type} (L N:Nat) (self19:Tree→Tree→Option (Bool)) (self57:LT→LT→Option (Bool)) (k0_e0:Option R) (k0_r:Bool→Option R):Nat→LT→LT→Int→Option R
 |0,_,_,_=>none
 |n+1,s0,s1,s2=>f57.s0 L N self19 self57 k0_e0 k0_r (f57.l0 L N self19 self57 k0_e0 k0_r n) s0 s1 s2
def f57.T0 (s0:LT) (s1:LT) (s2:Int):T:=mkT 27 [(0,(.tv (.sl (.st 1)) s0)),(1,(.tv (.sl (.st 1)) s1)),(5,(.tv i64 s2))]
def f57.H0 (s0:LT) (s1:LT) (s2:Int):H:=[]
def f57.T0_e0:T:=mkT 27 []
def f57.H0_e0:H:=[]
def f57.T0_r (z4:Bool):T:=mkT 27 [(4,(.tv .bool z4))]
def f57.H0_r (z4:Bool):H:=[]
def f57.p0_e0' {R:Type} (L N:Nat) (self19:Tree→Tree→Option (Bool)) (self57:LT→LT→Option (Bool)) (k:Bool→Option R):Option R:=
 k true
def f57.p0_e0 {R:Type} (L N:Nat) (self19:Tree→Tree→Option (Bool)) (self57:LT→LT→Option (Bool)) (k:Bool→Option R):Option R:=
 f57.p0_e0' L N self19 self57 k
def f57.p0_r' {R:Type} (L N:Nat) (self19:Tree→Tree→Option (Bool)) (self57:LT→LT→Option (Bool)) (k:Bool→Option R) (z4:Bool):Option R:=
 k z4
def f57.p0_r {R:Type} (L N:Nat) (self19:Tree→Tree→Option (Bool)) (self57:LT→LT→Option (Bool)) (k:Bool→Option R) (z4:Bool):Option R:=
 f57.p0_r' L N self19 self57 k z4
def f57.b' {R:Type} (L N:Nat) (self19:Tree→Tree→Option (Bool)) (self57:LT→LT→Option (Bool)) (k:Bool→Option R) (w0:LT→LT→Int→Option R) (x0:LT) (x1:LT):Option R:=
 bif ((x0.length:Int) !=(x1.length:Int)) then
  k false
 else w0 x0 x1 (0:Int)
def f57.b {R:Type} (L N:Nat) (self19:Tree→Tree→Option (Bool)) (self57:LT→LT→Option (Bool)) (k:Bool→Option R) (x0:LT) (x1:LT):Option R:=
 f57.b' L N self19 self57 k (fun s0 s1 s2=>f57.l0 L N self19 self57 (f57.p0_e0 L N self19 self57 k) (fun z4=>f57.p0_r L N self19 self57 k z4) L s0 s1 s2) x0 x1
mutual
def f19 (L N:Nat):Nat→Tree→Tree→Option (Bool)
 |0,_,_=>none
 |n+1,x0,x1=>f19.b L N (f19 L N n) (f57 L N n) some x0 x1
def f57 (L N:Nat):Nat→LT→LT→Option (Bool)
 |0,_,_=>none
 |n+1,x0,x1=>f57.b L N (f19 L N n) (f57 L N n) some x0 x1
end
def f19.ent (L N m:Nat):=entRo [(.st 1),(.st 1)] (.one .bool) fun d=>f19 L N m d.1 d.2.1
def f57.ent (L N m:Nat):=entRo [(.sl (.st 1)),(.sl (.st 1))] (.one .bool) fun d=>f57 L N m d.1 d.2.1
def Φ19s (L N m:Nat):Tells:=(addT (addT (Φ17 L N) 19 (f19.ent L N m)) 57 (f57.ent L N m))
noncomputable def E19 (L N m:Nat):Env:={P:=Tryz.prog,ty:=tyOf,Φ:=Φ19s L N m,inl:=inlT,live:=lives,liveX:=livesX,L:=L,dp:=none,prom:=promT,heal:=healT,ren:=renT}
theorem f19.b_eq {R:Type} (L N m:Nat) (κ:AV→Option R) (x0:Tree) (x1:Tree):
  evBody (E19 L N m) (evCallI (E19 L N m) 0 1000) 1000 19 Tryz.f19 [(.tv (.st 1) x0),(.tv (.st 1) x1)] [] [] (finC (.one .bool) κ)
  =f19.b L N (f19 L N m) (f57 L N m) (fun a0=>κ (.tv .bool a0)) x0 x1:=by kernel_rfl
noncomputable def f57.c0:Code:=loopAt 0 (codeOf Tryz.f57)
def f57.X0_e0 {R:Type} (κ:KX R):=κ (.exit 0) f57.T0_e0 f57.H0_e0
def f57.X0_r {R:Type} (κ:KX R):=fun z4=>κ .ret (f57.T0_r z4) (f57.H0_r z4)
def f57.R0 {R:Type} (rec:KT R):=fun s0 s1 s2=>rec (f57.T0 s0 s1 s2) (f57.H0 s0 s1 s2)
theorem f57.s0_eq {R:Type} (L N m:Nat) (κ:KX R) (rec:KT R) (s0:LT) (s1:LT) (s2:Int):
  evRd (E19 L N m) (evCallI (E19 L N m) 0 1000) 1000 57 27 0 f57.c0 κ rec (f57.T0 s0 s1 s2) (f57.H0 s0 s1 s2)
  =f57.s0 L N (f19 L N m) (f57 L N m) (f57.X0_e0 κ) (f57.X0_r κ) (f57.R0 rec) s0 s1 s2:=by kernel_rfl
theorem f57.l0_eq {R:Type} (L N m:Nat) (κ:KX R):∀(n:Nat) (s0:LT) (s1:LT) (s2:Int),
  evLp (E19 L N m) (evCallI (E19 L N m) 0 1000) 1000 57 27 0 f57.c0 κ n (f57.T0 s0 s1 s2) (f57.H0 s0 s1 s2)
  =f57.l0 L N (f19 L N m) (f57 L N m) (f57.X0_e0 κ) (f57.X0_r κ) n s0 s1 s2:=by
 intro n
 induction n with
 |zero=>intros;rfl
 |succ n ih=>
  intro s0 s1 s2
  rw [evLp_succ,f57.s0_eq]
  delta f57.R0
  simp only [ih]
  rfl
theorem f57.p0_e0_eq {R:Type} (L N m:Nat) (κ:AV→Option R):
  (contAt (E19 L N m) (evCallI (E19 L N m) 0 1000) 1000 57 27 0 (codeOf Tryz.f57) (finK (E19 L N m) 1000 Tryz.f57 (finC (.one .bool) κ))) (.exit 0) f57.T0_e0 f57.H0_e0
  =f57.p0_e0 L N (f19 L N m) (f57 L N m) (fun a0=>κ (.tv .bool a0)):=by kernel_rfl
theorem f57.p0_r_eq {R:Type} (L N m:Nat) (κ:AV→Option R) (z4:Bool):
  (contAt (E19 L N m) (evCallI (E19 L N m) 0 1000) 1000 57 27 0 (codeOf Tryz.f57) (finK (E19 L N m) 1000 Tryz.f57 (finC (.one .bool) κ))) .ret (f57.T0_r z4) (f57.H0_r z4)
  =f57.p0_r L N (f19 L N m) (f57 L N m) (fun a0=>κ (.tv .bool a0)) z4:=by kernel_rfl
theorem f57.b_eq {R:Type} (L N m:Nat) (κ:AV→Option R) (x0:LT) (x1:LT):
  evBody (E19 L N m) (evCallI (E19 L N m) 0 1000) 1000 57 Tryz.f57 [(.tv (.sl (.st 1)) x0),(.tv (.sl (.st 1)) x1)] [] [] (finC (.one .bool) κ)
  =f57.b L N (f19 L N m) (f57 L N m) (fun a0=>κ (.tv .bool a0)) x0 x1:=by
 refine Eq.trans (b:=f57.b' L N (f19 L N m) (f57 L N m) (fun a0=>κ (.tv .bool a0)) (fun s0 s1 s2=>evLp (E19 L N m) (evCallI (E19 L N m) 0 1000) 1000 57 27 0 f57.c0 (contAt (E19 L N m) (evCallI (E19 L N m) 0 1000) 1000 57 27 0 (codeOf Tryz.f57) (finK (E19 L N m) 1000 Tryz.f57 (finC (.one .bool) κ))) L (f57.T0 s0 s1 s2) (f57.H0 s0 s1 s2)) x0 x1) (by kernel_rfl) ?_
 unfold f57.b
 simp only [f57.l0_eq]
 delta f57.X0_e0 f57.X0_r
 simp only [f57.p0_e0_eq,f57.p0_r_eq]
theorem f19.ok (L N m:Nat) (hΦ:TellsOk Tryz.prog (Φ19s L N m)):EntOk Tryz.prog 19 (f19.ent L N (m+1)):=entRo_ok (E:=(E19 L N m)) (dep:=1000) (f:=Tryz.f19) (sound_of hΦ) okP (callI_sound (sound_of hΦ) okP 0 1000) rfl rfl fun d _ hy=>(f19.b_eq L N m (unR (.one .bool)) d.1 d.2.1).trans (Eq.trans (b:=f19.b L N (f19 L N m) (f57 L N m) some d.1 d.2.1) (by kernel_rfl) hy)
theorem f57.ok (L N m:Nat) (hΦ:TellsOk Tryz.prog (Φ19s L N m)):EntOk Tryz.prog 57 (f57.ent L N (m+1)):=entRo_ok (E:=(E19 L N m)) (dep:=1000) (f:=Tryz.f57) (sound_of hΦ) okP (callI_sound (sound_of hΦ) okP 0 1000) rfl rfl fun d _ hy=>(f57.b_eq L N m (unR (.one .bool)) d.1 d.2.1).trans (Eq.trans (b:=f57.b L N (f19 L N m) (f57 L N m) some d.1 d.2.1) (by kernel_rfl) hy)
theorem Φ19s_ok (L N:Nat):∀m,TellsOk Tryz.prog (Φ19s L N m):=by
 intro m
 induction m with
 |zero=>exact (addT_ok (addT_ok (Φ17_ok L N) (entRo_no fun _=>rfl)) (entRo_no fun _=>rfl))
 |succ m ih=>exact (addT_ok (addT_ok (Φ17_ok L N) (f19.ok L N m ih)) (f57.ok L N m ih))
def Φ19 (L N:Nat):Tells:=(addT (addT (Φ17 L N) 19 (f19.ent L N N)) 57 (f57.ent L N N))
theorem Φ19_ok (L N:Nat):TellsOk Tryz.prog (Φ19 L N):=Φ19s_ok L N N
def f20.s0' {R:Type} (L N:Nat) (k0_e0:LI→Option R) (rec0:Bool→Bool→Bool→Bool→Int→LI→Option R) (s7:Bool) (s8:Bool) (s9:Bool) (s10:Bool) (s11:Int) (s12:LI):Option R:=
 bif (decide (s11<(4:Int))) then
  bif (decide (0≤s11)&&decide (s11<((4:Nat):Int))) then
   bif (atB s11.toNat [s7,s8,s9,s10]) then
    bif (decide (s12.length+([s11]:LI).length≤lim)) then
     rec0 s7 s8 s9 s10 (wi (s11+(1:Int))) (s12++([s11]:LI))
    else none
   else rec0 s7 s8 s9 s10 (wi (s11+(1:Int))) s12
  else none
 else k0_e0 s12
def f20.s0 {R:Type} (L N:Nat) (k0_e0:LI→Option R) (rec0:Bool→Bool→Bool→Bool→Int→LI→Option R) (s7:Bool) (s8:Bool) (s9:Bool) (s10:Bool) (s11:Int) (s12:LI):Option R:=
 f20.s0' L N k0_e0 rec0 s7 s8 s9 s10 s11 s12
def f20.l0 {R:Type} (L N:Nat) (k0_e0:LI→Option R):Nat→Bool→Bool→Bool→Bool→Int→LI→Option R
 |0,_,_,_,_,_,_=>none
 |n+1,s7,s8,s9,s10,s11,s12=>f20.s0 L N k0_e0 (f20.l0 L N k0_e0 n) s7 s8 s9 s10 s11 s12
def f20.T0 (s7:Bool) (s8:Bool) (s9:Bool) (s10:Bool) (s11:Int) (s12:LI):T:=mkT 25 [(4,(.row 1008)),(13,(.agg [(.tv .bool s7),(.tv .bool s8),(.tv .bool s9),(.tv .bool s10)])),(14,(.tv i64 s11))]
def f20.H0 (s7:Bool) (s8:Bool) (s9:Bool) (s10:Bool) (s11:Int) (s12:LI):H:=[(1008,(.row 3 i64 s12))]
def f20.T0_e0 (z13:LI):T:=mkT 25 [(4,(.row 1008))]
def f20.H0_e0 (z13:LI):H:=[(1008,(.row 3 i64 z13))]
def f20.p0_e0' {R:Type} (L N:Nat) (k:LI→Option R) (z13:LI):Option R:=
 k z13
def f20.p0_e0 {R:Type} (L N:Nat) (k:LI→Option R) (z13:LI):Option R:=
 f20.p0_e0' L N k z13
def f20.j0' {R:Type} (L N:Nat) (k:LI→Option R) (w0:Bool→Bool→Bool→Bool→Int→LI→Option R) (v2:Bool) (v3:Bool) (v4:Bool) (v5:Bool) (v6:LI):Option R:=
 w0 v2 v3 v4 v5 (0:Int) v6
def f20.b' {R:Type} (L N:Nat) (k:LI→Option R) (w0:Bool→Bool→Bool→Bool→Int→LI→Option R) (x0:Tree):Option R:=
 (f50 L N (Tree.mk x0.op x0.n x0.parts)).bind fun y0=>
 bif y0 then
  (f58_1 L N N false false false false (Tree.mk x0.op x0.n x0.parts)).bind fun y1=>
  f20.j0' L N k w0 y1.1 y1.2.1 y1.2.2.1 y1.2.2.2 ([]:LI)
 else f20.j0' L N k w0 false false false false ([]:LI)
def f20.b {R:Type} (L N:Nat) (k:LI→Option R) (x0:Tree):Option R:=
 f20.b' L N k (fun s7 s8 s9 s10 s11 s12=>f20.l0 L N (fun z13=>f20.p0_e0 L N k z13) L s7 s8 s9 s10 s11 s12) x0
def f20 (L N:Nat) (x0:Tree):Option (LI):=f20.b L N some x0
def f20.ent (L N:Nat):=entDa [(.st 1)] (.one (.sl i64)) fun d=>f20 L N d.1
noncomputable def E20 (L N:Nat):Env:={P:=Tryz.prog,ty:=tyOf,Φ:=(Φ19 L N),inl:=inlT,live:=lives,liveX:=livesX,L:=L,dp:=none,prom:=promT,heal:=healT,ren:=renT}
noncomputable def f20.c0:Code:=loopAt 0 (codeOf Tryz.f20)
def f20.X0_e0 {R:Type} (κ:KX R):=fun z13=>κ (.exit 0) (f20.T0_e0 z13) (f20.H0_e0 z13)
def f20.R0 {R:Type} (rec:KT R):=fun s7 s8 s9 s10 s11 s12=>rec (f20.T0 s7 s8 s9 s10 s11 s12) (f20.H0 s7 s8 s9 s10 s11 s12)
theorem f20.s0_eq {R:Type} (L N:Nat) (κ:KX R) (rec:KT R) (s7:Bool) (s8:Bool) (s9:Bool) (s10:Bool) (s11:Int) (s12:LI):
  evRd (E20 L N) (evCallI (E20 L N) 0 1000) 1000 20 25 0 f20.c0 κ rec (f20.T0 s7 s8 s9 s10 s11 s12) (f20.H0 s7 s8 s9 s10 s11 s12)
  =f20.s0 L N (f20.X0_e0 κ) (f20.R0 rec) s7 s8 s9 s10 s11 s12:=by kernel_rfl
theorem f20.l0_eq {R:Type} (L N:Nat) (κ:KX R):∀(n:Nat) (s7:Bool) (s8:Bool) (s9:Bool) (s10:Bool) (s11:Int) (s12:LI),
  evLp (E20 L N) (evCallI (E20 L N) 0 1000) 1000 20 25 0 f20.c0 κ n (f20.T0 s7 s8 s9 s10 s11 s12) (f20.H0 s7 s8 s9 s10 s11 s12)
  =f20.l0 L N (f20.X0_e0 κ) n s7 s8 s9 s10 s11 s12:=by
 intro n
 induction n with
 |zero=>intros;rfl
 |succ n ih=>
  intro s7 s8 s9 s10 s11 s12
  rw [evLp_succ,f20.s0_eq]
  delta f20.R0
  simp only [ih]
  rfl
theorem f20.p0_e0_eq {R:Type} (L N:Nat) (κ:AV→Option R) (z13:LI):
  (contAt (E20 L N) (evCallI (E20 L N) 0 1000) 1000 20 25 0 (codeOf Tryz.f20) (finK (E20 L N) 1000 Tryz.f20 (finC (.one (.sl i64)) κ))) (.exit 0) (f20.T0_e0 z13) (f20.H0_e0 z13)
  =f20.p0_e0 L N (fun a0=>κ (.tv (.sl i64) a0)) z13:=by kernel_rfl
theorem f20.b_eq {R:Type} (L N:Nat) (κ:AV→Option R) (x0:Tree):
  evBody (E20 L N) (evCallI (E20 L N) 0 1000) 1000 20 Tryz.f20 [(.tv (.st 1) x0)] [] [] (finC (.one (.sl i64)) κ)
  =f20.b L N (fun a0=>κ (.tv (.sl i64) a0)) x0:=by
 refine Eq.trans (b:=f20.b' L N (fun a0=>κ (.tv (.sl i64) a0)) (fun s7 s8 s9 s10 s11 s12=>evLp (E20 L N) (evCallI (E20 L N) 0 1000) 1000 20 25 0 f20.c0 (contAt (E20 L N) (evCallI (E20 L N) 0 1000) 1000 20 25 0 (codeOf Tryz.f20) (finK (E20 L N) 1000 Tryz.f20 (finC (.one (.sl i64)) κ))) L (f20.T0 s7 s8 s9 s10 s11 s12) (f20.H0 s7 s8 s9 s10 s11 s12)) x0) (by kernel_rfl) ?_
 unfold f20.b
 simp only [f20.l0_eq]
 delta f20.X0_e0
 simp only [f20.p0_e0_eq]
theorem f20.ok (L N:Nat) (hΦ:TellsOk Tryz.prog ((Φ19 L N))):EntOk Tryz.prog 20 (f20.ent L N):=entDa_ok (E:=(E20 L N)) (dep:=1000) (f:=Tryz.f20) (sound_of hΦ) okP (callI_sound (sound_of hΦ) okP 0 1000) rfl fun d _ hy=>(f20.b_eq L N (unR (.one (.sl i64))) d.1).trans (Eq.trans (b:=f20.b L N some d.1) (by kernel_rfl) hy)
def Φ20 (L N:Nat):Tells:=(addT (Φ19 L N) 20 (f20.ent L N))
theorem Φ20_ok (L N:Nat):TellsOk Tryz.prog (Φ20 L N):=addT_ok (Φ19_ok L N) (f20.ok L N (Φ19_ok L N))
def f21.s0' {R:Type} (L N:Nat) (k0_e0:Option R) (k0_r:Bool→Option R) (rec0:LI→Int→Int→Option R) (s0:LI) (s1:Int) (s2:Int):Option R:=
 bif (decide (s2<(s0.length:Int))) then
  bif (decide (0≤s2)&&decide (s2<(s0.length:Int))) then
   bif ((listAt s0 (0:Int) s2.toNat)==s1) then
    k0_r true
   else rec0 s0 s1 (wi (s2+(1:Int)))
  else none
 else k0_e0
def f21.s0 {R:Type} (L N:Nat) (k0_e0:Option R) (k0_r:Bool→Option R) (rec0:LI→Int→Int→Option R) (s0:LI) (s1:Int) (s2:Int):Option R:=
 f21.s0' L N k0_e0 k0_r rec0 s0 s1 s2
def f21.l0 {R:Type} (L N:Nat) (k0_e0:Option R) (k0_r:Bool→Option R):Nat→LI→Int→Int→Option R
 |0,_,_,_=>none
 |n+1,s0,s1,s2=>f21.s0 L N k0_e0 k0_r (f21.l0 L N k0_e0 k0_r n) s0 s1 s2
def f21.T0 (s0:LI) (s1:Int) (s2:Int):T:=mkT 18 [(0,(.tv (.sl i64) s0)),(1,(.tv i64 s1)),(5,(.tv i64 s2))]
def f21.H0 (s0:LI) (s1:Int) (s2:Int):H:=[]
def f21.T0_e0:T:=mkT 18 []
def f21.H0_e0:H:=[]
def f21.T0_r (z3:Bool):T:=mkT 18 [(4,(.tv .bool z3))]
def f21.H0_r (z3:Bool):H:=[]
def f21.p0_e0' {R:Type} (L N:Nat) (k:Bool→Option R):Option R:=
 k false
def f21.p0_e0 {R:Type} (L N:Nat) (k:Bool→Option R):Option R:=
 f21.p0_e0' L N k
def f21.p0_r' {R:Type} (L N:Nat) (k:Bool→Option R) (z3:Bool):Option R:=
 k z3
def f21.p0_r {R:Type} (L N:Nat) (k:Bool→Option R) (z3:Bool):Option R:=
 f21.p0_r' L N k z3
def f21.b' {R:Type} (L N:Nat) (k:Bool→Option R) (w0:LI→Int→Int→Option R) (x0:LI) (x1:Int):Option R:=
 w0 x0 x1 (0:Int)
def f21.b {R:Type} (L N:Nat) (k:Bool→Option R) (x0:LI) (x1:Int):Option R:=
 f21.b' L N k (fun s0 s1 s2=>f21.l0 L N (f21.p0_e0 L N k) (fun z3=>f21.p0_r L N k z3) L s0 s1 s2) x0 x1
def f21 (L N:Nat) (x0:LI) (x1:Int):Option (Bool):=f21.b L N some x0 x1
def f21.ent (L N:Nat):=entRo [(.sl i64),i64] (.one .bool) fun d=>f21 L N d.1 d.2.1
noncomputable def E21 (L N:Nat):Env:={P:=Tryz.prog,ty:=tyOf,Φ:=(Φ20 L N),inl:=inlT,live:=lives,liveX:=livesX,L:=L,dp:=none,prom:=promT,heal:=healT,ren:=renT}
noncomputable def f21.c0:Code:=loopAt 0 (codeOf Tryz.f21)
def f21.X0_e0 {R:Type} (κ:KX R):=κ (.exit 0) f21.T0_e0 f21.H0_e0
def f21.X0_r {R:Type} (κ:KX R):=fun z3=>κ .ret (f21.T0_r z3) (f21.H0_r z3)
def f21.R0 {R:Type} (rec:KT R):=fun s0 s1 s2=>rec (f21.T0 s0 s1 s2) (f21.H0 s0 s1 s2)
theorem f21.s0_eq {R:Type} (L N:Nat) (κ:KX R) (rec:KT R) (s0:LI) (s1:Int) (s2:Int):
  evRd (E21 L N) (evCallI (E21 L N) 0 1000) 1000 21 18 0 f21.c0 κ rec (f21.T0 s0 s1 s2) (f21.H0 s0 s1 s2)
  =f21.s0 L N (f21.X0_e0 κ) (f21.X0_r κ) (f21.R0 rec) s0 s1 s2:=by kernel_rfl
theorem f21.l0_eq {R:Type} (L N:Nat) (κ:KX R):∀(n:Nat) (s0:LI) (s1:Int) (s2:Int),
  evLp (E21 L N) (evCallI (E21 L N) 0 1000) 1000 21 18 0 f21.c0 κ n (f21.T0 s0 s1 s2) (f21.H0 s0 s1 s2)
  =f21.l0 L N (f21.X0_e0 κ) (f21.X0_r κ) n s0 s1 s2:=by
 intro n
 induction n with
 |zero=>intros;rfl
 |succ n ih=>
  intro s0 s1 s2
  rw [evLp_succ,f21.s0_eq]
  delta f21.R0
  simp only [ih]
  rfl
theorem f21.p0_e0_eq {R:Type} (L N:Nat) (κ:AV→Option R):
  (contAt (E21 L N) (evCallI (E21 L N) 0 1000) 1000 21 18 0 (codeOf Tryz.f21) (finK (E21 L N) 1000 Tryz.f21 (finC (.one .bool) κ))) (.exit 0) f21.T0_e0 f21.H0_e0
  =f21.p0_e0 L N (fun a0=>κ (.tv .bool a0)):=by kernel_rfl
theorem f21.p0_r_eq {R:Type} (L N:Nat) (κ:AV→Option R) (z3:Bool):
  (contAt (E21 L N) (evCallI (E21 L N) 0 1000) 1000 21 18 0 (codeOf Tryz.f21) (finK (E21 L N) 1000 Tryz.f21 (finC (.one .bool) κ))) .ret (f21.T0_r z3) (f21.H0_r z3)
  =f21.p0_r L N (fun a0=>κ (.tv .bool a0)) z3:=by kernel_rfl
theorem f21.b_eq {R:Type} (L N:Nat) (κ:AV→Option R) (x0:LI) (x1:Int):
  evBody (E21 L N) (evCallI (E21 L N) 0 1000) 1000 21 Tryz.f21 [(.tv (.sl i64) x0),(.tv i64 x1)] [] [] (finC (.one .bool) κ)
  =f21.b L N (fun a0=>κ (.tv .bool a0)) x0 x1:=by
 refine Eq.trans (b:=f21.b' L N (fun a0=>κ (.tv .bool a0)) (fun s0 s1 s2=>evLp (E21 L N) (evCallI (E21 L N) 0 1000) 1000 21 18 0 f21.c0 (contAt (E21 L N) (evCallI (E21 L N) 0 1000) 1000 21 18 0 (codeOf Tryz.f21) (finK (E21 L N) 1000 Tryz.f21 (finC (.one .bool) κ))) L (f21.T0 s0 s1 s2) (f21.H0 s0 s1 s2)) x0 x1) (by kernel_rfl) ?_
 unfold f21.b
 simp only [f21.l0_eq]
 delta f21.X0_e0 f21.X0_r
 simp only [f21.p0_e0_eq,f21.p0_r_eq]
theorem f21.ok (L N:Nat) (hΦ:TellsOk Tryz.prog ((Φ20 L N))):EntOk Tryz.prog 21 (f21.ent L N):=entRo_ok (E:=(E21 L N)) (dep:=1000) (f:=Tryz.f21) (sound_of hΦ) okP (callI_sound (sound_of hΦ) okP 0 1000) rfl rfl fun d _ hy=>(f21.b_eq L N (unR (.one .bool)) d.1 d.2.1).trans (Eq.trans (b:=f21.b L N some d.1 d.2.1) (by kernel_rfl) hy)
def Φ21 (L N:Nat):Tells:=(addT (Φ20 L N) 21 (f21.ent L N))
theorem Φ21_ok (L N:Nat):TellsOk Tryz.prog (Φ21 L N):=addT_ok (Φ20_ok L N) (f21.ok L N (Φ20_ok L N))
def f5.s0' {R:Type} (L N:Nat) (k0_e0:Bool→Bool→Option R) (k0_r:Bool→Bool→Bool→Option R) (rec0:Bool→Bool→LI→LI→Int→Option R) (s22:Bool) (s23:Bool) (s24:LI) (s25:LI) (s26:Int):Option R:=
 bif (decide (s26<(s25.length:Int))) then
  bif (decide (0≤s26)&&decide (s26<(s25.length:Int))) then
   (f21 L N s24 (listAt s25 (0:Int) s26.toNat)).bind fun y29=>
   bif (!y29) then
    k0_r false s22 s23
   else rec0 s22 s23 s24 s25 (wi (s26+(1:Int)))
  else none
 else k0_e0 s22 s23
def f5.s0 {R:Type} (L N:Nat) (k0_e0:Bool→Bool→Option R) (k0_r:Bool→Bool→Bool→Option R) (rec0:Bool→Bool→LI→LI→Int→Option R) (s22:Bool) (s23:Bool) (s24:LI) (s25:LI) (s26:Int):Option R:=
 f5.s0' L N k0_e0 k0_r rec0 s22 s23 s24 s25 s26
def f5.l0 {R:Type} (L N:Nat) (k0_e0:Bool→Bool→Option R) (k0_r:Bool→Bool→Bool→Option R):Nat→Bool→Bool→LI→LI→Int→Option R
 |0,_,_,_,_,_=>none
 |n+1,s22,s23,s24,s25,s26=>f5.s0 L N k0_e0 k0_r (f5.l0 L N k0_e0 k0_r n) s22 s23 s24 s25 s26
def f5.T0 (s22:Bool) (s23:Bool) (s24:LI) (s25:LI) (s26:Int):T:=mkT 77 [(10,(.tv .bool s22)),(11,(.tv .bool s23)),(12,(.tv (.sl i64) s24)),(13,(.tv (.sl i64) s25)),(14,(.tv i64 s26))]
def f5.H0 (s22:Bool) (s23:Bool) (s24:LI) (s25:LI) (s26:Int):H:=[]
def f5.T0_e0 (z27:Bool) (z28:Bool):T:=mkT 77 [(10,(.tv .bool z27)),(11,(.tv .bool z28))]
def f5.H0_e0 (z27:Bool) (z28:Bool):H:=[]
def f5.T0_r (z30:Bool) (z31:Bool) (z32:Bool):T:=mkT 77 [(2,(.tv .bool z30)),(10,(.tv .bool z31)),(11,(.tv .bool z32))]
def f5.H0_r (z30:Bool) (z31:Bool) (z32:Bool):H:=[]
def f5.p0_e0' {R:Type} (L N:Nat) (k:Bool→Option R) (z27:Bool) (z28:Bool):Option R:=
 bif (!z28) then
  k true
 else k z27
def f5.p0_e0 {R:Type} (L N:Nat) (k:Bool→Option R) (z27:Bool) (z28:Bool):Option R:=
 f5.p0_e0' L N k z27 z28
def f5.p0_r' {R:Type} (L N:Nat) (k:Bool→Option R) (z30:Bool) (z31:Bool) (z32:Bool):Option R:=
 k z30
def f5.p0_r {R:Type} (L N:Nat) (k:Bool→Option R) (z30:Bool) (z31:Bool) (z32:Bool):Option R:=
 f5.p0_r' L N k z30 z31 z32
def f5.j0' {R:Type} (L N:Nat) (k:Bool→Option R) (w0:Bool→Bool→LI→LI→Int→Option R) (v12:Bool) (v13:Int) (v14:Int) (v15:LT) (v16:Int) (v17:Int) (v18:LT):Option R:=
 bif (!v12) then
  k true
 else (f15 L N (Tree.mk v13 v14 v15) (Tree.mk v16 v17 v18) []).bind fun y19=>
 (f20 L N (Tree.mk v13 v14 v15)).bind fun y20=>
 (f20 L N (Tree.mk v16 v17 v18)).bind fun y21=>
 w0 y19.1 y19.2 y20 y21 (0:Int)
def f5.b' {R:Type} (L N:Nat) (k:Bool→Option R) (w0:Bool→Bool→LI→LI→Int→Option R) (x0:LI):Option R:=
 bif (decide ((x0.length:Int)>(1048576:Int))) then
  k true
 else (f16 L N x0).bind fun y0=>
 (f17 L N (Tree.mk y0.1.op y0.1.n y0.1.parts) y0.2.1 y0.2.2).bind fun y1=>
 (f18 L N (Tree.mk y0.1.op y0.1.n y0.1.parts) y0.2.1 y0.2.2).bind fun y2=>
 (f19 L N N (Tree.mk y1.1.op y1.1.n y1.1.parts) (Tree.mk y2.1.op y2.1.n y2.1.parts)).bind fun y3=>
 bif (!y3) then
  k false
 else bif (!(y1.2==y2.2)) then
  k false
 else f5.j0' L N k w0 y1.2 y0.1.op y0.1.n y0.1.parts y1.1.op y1.1.n y1.1.parts
def f5.b {R:Type} (L N:Nat) (k:Bool→Option R) (x0:LI):Option R:=
 f5.b' L N k (fun s22 s23 s24 s25 s26=>f5.l0 L N (fun z27 z28=>f5.p0_e0 L N k z27 z28) (fun z30 z31 z32=>f5.p0_r L N k z30 z31 z32) L s22 s23 s24 s25 s26) x0
def f5 (L N:Nat) (x0:LI):Option (Bool):=f5.b L N some x0
def f5.ent (L N:Nat):=entRo [(.sl (.int .u8))] (.one .bool) fun d=>f5 L N d.1
noncomputable def E5 (L N:Nat):Env:={P:=Tryz.prog,ty:=tyOf,Φ:=(Φ21 L N),inl:=inlT,live:=lives,liveX:=livesX,L:=L,dp:=none,prom:=promT,heal:=healT,ren:=renT}
noncomputable def f5.c0:Code:=loopAt 0 (codeOf Tryz.f5)
def f5.X0_e0 {R:Type} (κ:KX R):=fun z27 z28=>κ (.exit 0) (f5.T0_e0 z27 z28) (f5.H0_e0 z27 z28)
def f5.X0_r {R:Type} (κ:KX R):=fun z30 z31 z32=>κ .ret (f5.T0_r z30 z31 z32) (f5.H0_r z30 z31 z32)
def f5.R0 {R:Type} (rec:KT R):=fun s22 s23 s24 s25 s26=>rec (f5.T0 s22 s23 s24 s25 s26) (f5.H0 s22 s23 s24 s25 s26)
theorem f5.s0_eq {R:Type} (L N:Nat) (κ:KX R) (rec:KT R) (s22:Bool) (s23:Bool) (s24:LI) (s25:LI) (s26:Int):
  evRd (E5 L N) (evCallI (E5 L N) 0 1000) 1000 5 77 0 f5.c0 κ rec (f5.T0 s22 s23 s24 s25 s26) (f5.H0 s22 s23 s24 s25 s26)
  =f5.s0 L N (f5.X0_e0 κ) (f5.X0_r κ) (f5.R0 rec) s22 s23 s24 s25 s26:=by kernel_rfl
theorem f5.l0_eq {R:Type} (L N:Nat) (κ:KX R):∀(n:Nat) (s22:Bool) (s23:Bool) (s24:LI) (s25:LI) (s26:Int),
  evLp (E5 L N) (evCallI (E5 L N) 0 1000) 1000 5 77 0 f5.c0 κ n (f5.T0 s22 s23 s24 s25 s26) (f5.H0 s22 s23 s24 s25 s26)
  =f5.l0 L N (f5.X0_e0 κ) (f5.X0_r κ) n s22 s23 s24 s25 s26:=by
 intro n
 induction n with
 |zero=>intros;rfl
 |succ n ih=>
  intro s22 s23 s24 s25 s26
  rw [evLp_succ,f5.s0_eq]
  delta f5.R0
  simp only [ih]
  rfl
theorem f5.p0_e0_eq {R:Type} (L N:Nat) (κ:AV→Option R) (z27:Bool) (z28:Bool):
  (contAt (E5 L N) (evCallI (E5 L N) 0 1000) 1000 5 77 0 (codeOf Tryz.f5) (finK (E5 L N) 1000 Tryz.f5 (finC (.one .bool) κ))) (.exit 0) (f5.T0_e0 z27 z28) (f5.H0_e0 z27 z28)
  =f5.p0_e0 L N (fun a0=>κ (.tv .bool a0)) z27 z28:=by kernel_rfl
theorem f5.p0_r_eq {R:Type} (L N:Nat) (κ:AV→Option R) (z30:Bool) (z31:Bool) (z32:Bool):
  (contAt (E5 L N) (evCallI (E5 L N) 0 1000) 1000 5 77 0 (codeOf Tryz.f5) (finK (E5 L N) 1000 Tryz.f5 (finC (.one .bool) κ))) .ret (f5.T0_r z30 z31 z32) (f5.H0_r z30 z31 z32)
  =f5.p0_r L N (fun a0=>κ (.tv .bool a0)) z30 z31 z32:=by kernel_rfl
theorem f5.b_eq {R:Type} (L N:Nat) (κ:AV→Option R) (x0:LI):
  evBody (E5 L N) (evCallI (E5 L N) 0 1000) 1000 5 Tryz.f5 [(.tv (.sl (.int .u8)) x0)] [] [] (finC (.one .bool) κ)
  =f5.b L N (fun a0=>κ (.tv .bool a0)) x0:=by
 refine Eq.trans (b:=f5.b' L N (fun a0=>κ (.tv .bool a0)) (fun s22 s23 s24 s25 s26=>evLp (E5 L N) (evCallI (E5 L N) 0 1000) 1000 5 77 0 f5.c0 (contAt (E5 L N) (evCallI (E5 L N) 0 1000) 1000 5 77 0 (codeOf Tryz.f5) (finK (E5 L N) 1000 Tryz.f5 (finC (.one .bool) κ))) L (f5.T0 s22 s23 s24 s25 s26) (f5.H0 s22 s23 s24 s25 s26)) x0) (by kernel_rfl) ?_
 unfold f5.b
 simp only [f5.l0_eq]
 delta f5.X0_e0 f5.X0_r
 simp only [f5.p0_e0_eq,f5.p0_r_eq]
theorem f5.ok (L N:Nat) (hΦ:TellsOk Tryz.prog ((Φ21 L N))):EntOk Tryz.prog 5 (f5.ent L N):=entRo_ok (E:=(E5 L N)) (dep:=1000) (f:=Tryz.f5) (sound_of hΦ) okP (callI_sound (sound_of hΦ) okP 0 1000) rfl rfl fun d _ hy=>(f5.b_eq L N (unR (.one .bool)) d.1).trans (Eq.trans (b:=f5.b L N some d.1) (by kernel_rfl) hy)
def Φ5 (L N:Nat):Tells:=(addT (Φ21 L N) 5 (f5.ent L N))
theorem Φ5_ok (L N:Nat):TellsOk Tryz.prog (Φ5 L N):=addT_ok (Φ21_ok L N) (f5.ok L N (Φ21_ok L N))
end Go.Proofs.YthidlhjjnaldhaaGreatDoor.Ev
