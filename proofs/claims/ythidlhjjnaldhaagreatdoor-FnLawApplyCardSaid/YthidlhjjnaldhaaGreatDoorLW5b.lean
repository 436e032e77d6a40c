/- The seat's functions as plain functions, continued: made by program (wip/gen/gen.py). -/
import Derived.Test.YthidlhjjnaldhaaGreatDoorLW5a
namespace Go.Proofs.YthidlhjjnaldhaaGreatDoor.Ev
open Go
set_option linter.unusedVariables false
set_option maxRecDepth 20000
theorem f54.ok (L N:Nat) (hΦ:TellsOk Tryz.prog ((Φ15 L N))):EntOk Tryz.prog 54 (f54.ent L N):=entRo_ok (E:=(E54 L N)) (dep:=1000) (f:=Tryz.f54) (sound_of hΦ) okP (callI_sound (sound_of hΦ) okP 0 1000) rfl rfl fun d _ hy=>(f54.b_eq L N (unR (.one .bool)) d.1 d.2.1 d.2.2.1).trans (Eq.trans (b:=f54.b L N some d.1 d.2.1 d.2.2.1) (by kernel_rfl) hy)
def Φ54 (L N:Nat):Tells:=(addT (Φ15 L N) 54 (f54.ent L N))
theorem Φ54_ok (L N:Nat):TellsOk Tryz.prog (Φ54 L N):=addT_ok (Φ15_ok L N) (f54.ok L N (Φ15_ok L N))
def f118.b' {R:Type} (L N:Nat) (k:Bool→Option R) (x0:Int):Option R:=
 (f54 L N x0 (-4:Int) (4:Int)).bind fun y0=>
 k y0
def f118.b {R:Type} (L N:Nat) (k:Bool→Option R) (x0:Int):Option R:=
 f118.b' L N k x0
def f118 (L N:Nat) (x0:Int):Option (Bool):=f118.b L N some x0
def f118.ent (L N:Nat):=entRo [i64] (.one .bool) fun d=>f118 L N d.1
noncomputable def E118 (L N:Nat):Env:={P:=Tryz.prog,ty:=tyOf,Φ:=(Φ54 L N),inl:=inlT,live:=lives,liveX:=livesX,L:=L,dp:=none,prom:=promT,heal:=healT,ren:=renT}
theorem f118.b_eq {R:Type} (L N:Nat) (κ:AV→Option R) (x0:Int):
  evBody (E118 L N) (evCallI (E118 L N) 0 1000) 1000 118 Tryz.f118 [(.tv i64 x0)] [] [] (finC (.one .bool) κ)
  =f118.b L N (fun a0=>κ (.tv .bool a0)) x0:=by kernel_rfl
theorem f118.ok (L N:Nat) (hΦ:TellsOk Tryz.prog ((Φ54 L N))):EntOk Tryz.prog 118 (f118.ent L N):=entRo_ok (E:=(E118 L N)) (dep:=1000) (f:=Tryz.f118) (sound_of hΦ) okP (callI_sound (sound_of hΦ) okP 0 1000) rfl rfl fun d _ hy=>(f118.b_eq L N (unR (.one .bool)) d.1).trans (Eq.trans (b:=f118.b L N some d.1) (by kernel_rfl) hy)
def Φ118 (L N:Nat):Tells:=(addT (Φ54 L N) 118 (f118.ent L N))
theorem Φ118_ok (L N:Nat):TellsOk Tryz.prog (Φ118 L N):=addT_ok (Φ54_ok L N) (f118.ok L N (Φ54_ok L N))
def f85.s0' {R:Type} (L N:Nat) (self85:Tree→Option (Int)) (k0_e1:Int→Option R) (k0_r:Int→Int→Option R) (rec0:Int→Int→Int→Int→Int→LT→Option R) (s24:Int) (s25:Int) (s26:Int) (s27:Int) (s28:Int) (s29:LT):Option R:=
 bif (decide (s26<s24)) then
  bif (decide (0≤s26)&&decide (s26<(s29.length:Int))) then
   (self85 (listAt s29 (Ty.dflt (.st 1)) s26.toNat)).bind fun y31=>
   bif (y31==(0:Int)) then
    k0_r (0:Int) s25
   else rec0 s24 (bif decide ((wi (s25+y31))<(1000:Int)) then (wi (s25+y31)) else (1000:Int)) (wi (s26+(1:Int))) s27 s28 s29
  else none
 else k0_e1 s25
def f85.s0 {R:Type} (L N:Nat) (self85:Tree→Option (Int)) (k0_e1:Int→Option R) (k0_r:Int→Int→Option R) (rec0:Int→Int→Int→Int→Int→LT→Option R) (s24:Int) (s25:Int) (s26:Int) (s27:Int) (s28:Int) (s29:LT):Option R:=
 f85.s0' L N self85 k0_e1 k0_r rec0 s24 s25 s26 s27 s28 s29
def f85.l0 {R:Type} (L N:Nat) (self85:Tree→Option (Int)) (k0_e1:Int→Option R) (k0_r:Int→Int→Option R):Nat→Int→Int→Int→Int→Int→LT→Option R
 |0,_,_,_,_,_,_=>none
 |n+1,s24,s25,s26,s27,s28,s29=>f85.s0 L N self85 k0_e1 k0_r (f85.l0 L N self85 k0_e1 k0_r n) s24 s25 s26 s27 s28 s29
def f85.T0 (s24:Int) (s25:Int) (s26:Int) (s27:Int) (s28:Int) (s29:LT):T:=mkT 60 [(1,(.ptr 1001 0)),(3,(.tv i64 s24)),(5,(.tv i64 s25)),(6,(.tv i64 s26))]
def f85.H0 (s24:Int) (s25:Int) (s26:Int) (s27:Int) (s28:Int) (s29:LT):H:=[(1001,(.box [(.tv i64 s27),(.tv i64 s28),(.tv (.sl (.st 1)) s29)]))]
def f85.T0_e1 (z30:Int):T:=mkT 60 [(5,(.tv i64 z30))]
def f85.H0_e1 (z30:Int):H:=[]
def f85.T0_r (z32:Int) (z33:Int):T:=mkT 60 [(2,(.tv i64 z32)),(5,(.tv i64 z33))]
def f85.H0_r (z32:Int) (z33:Int):H:=[]
def f85.p0_e1' {R:Type} (L N:Nat) (self85:Tree→Option (Int)) (k:Int→Option R) (z30:Int):Option R:=
 k z30
def f85.p0_e1 {R:Type} (L N:Nat) (self85:Tree→Option (Int)) (k:Int→Option R) (z30:Int):Option R:=
 f85.p0_e1' L N self85 k z30
def f85.p0_r' {R:Type} (L N:Nat) (self85:Tree→Option (Int)) (k:Int→Option R) (z32:Int) (z33:Int):Option R:=
 k z32
def f85.p0_r {R:Type} (L N:Nat) (self85:Tree→Option (Int)) (k:Int→Option R) (z32:Int) (z33:Int):Option R:=
 f85.p0_r' L N self85 k z32 z33
def f85.j1' {R:Type} (L N:Nat) (self85:Tree→Option (Int)) (k:Int→Option R) (w0:Int→Int→Int→Int→Int→LT→Option R) (v20:Int) (v21:Int) (v22:Int) (v23:LT):Option R:=
 w0 v20 (1:Int) (0:Int) v21 v22 v23
def f85.j2' {R:Type} (L N:Nat) (self85:Tree→Option (Int)) (k:Int→Option R) (w0:Int→Int→Int→Int→Int→LT→Option R) (v10:Int) (v11:Bool) (v12:Int) (v13:Int) (v14:LT):Option R:=
 bif (!v11) then
  k (0:Int)
 else bif ((v14.length:Int) !=v10) then
  k (0:Int)
 else f85.j1' L N self85 k w0 v10 v12 v13 v14
def f85.j0' {R:Type} (L N:Nat) (self85:Tree→Option (Int)) (k:Int→Option R) (w0:Int→Int→Int→Int→Int→LT→Option R) (v1:Int) (v2:Bool) (v3:Int) (v4:Bool) (v5:Int) (v6:Int) (v7:LT):Option R:=
 bif v4 then
  f85.j2' L N self85 k w0 (2:Int) v2 v5 v6 v7
 else bif (v3==(4:Int)) then
  (f54 L N v6 (0:Int) (3:Int)).bind fun y8=>
  f85.j2' L N self85 k w0 (1:Int) y8 v5 v6 v7
 else bif (v3==(5:Int)) then
  (f54 L N v6 (0:Int) (2:Int)).bind fun y9=>
  f85.j2' L N self85 k w0 v1 y9 v5 v6 v7
 else f85.j2' L N self85 k w0 v1 false v5 v6 v7
def f85.b' {R:Type} (L N:Nat) (self85:Tree→Option (Int)) (k:Int→Option R) (w0:Int→Int→Int→Int→Int→LT→Option R) (x0:Tree):Option R:=
 bif (x0.op==(0:Int)) then
  f85.j2' L N self85 k w0 (0:Int) (x0.n==(0:Int)) x0.op x0.n x0.parts
 else bif (x0.op==(1:Int)) then
  (f118 L N x0.n).bind fun y0=>
  f85.j2' L N self85 k w0 (1:Int) y0 x0.op x0.n x0.parts
 else bif (x0.op==(2:Int)) then
  f85.j0' L N self85 k w0 (0:Int) (x0.n==(0:Int)) x0.op (x0.op==(2:Int)) x0.op x0.n x0.parts
 else f85.j0' L N self85 k w0 (0:Int) (x0.n==(0:Int)) x0.op (x0.op==(3:Int)) x0.op x0.n x0.parts
def f85.b {R:Type} (L N:Nat) (self85:Tree→Option (Int)) (k:Int→Option R) (x0:Tree):Option R:=
 f85.b' L N self85 k (fun s24 s25 s26 s27 s28 s29=>f85.l0 L N self85 (fun z30=>f85.p0_e1 L N self85 k z30) (fun z32 z33=>f85.p0_r L N self85 k z32 z33) L s24 s25 s26 s27 s28 s29) x0
def f85 (L N:Nat):Nat→Tree→Option (Int)
 |0,_=>none
 |n+1,x0=>f85.b L N (f85 L N n) some x0
def f85.ent (L N m:Nat):=entRo [(.st 1)] (.one i64) fun d=>f85 L N m d.1
def Φ85s (L N m:Nat):Tells:=(addT (Φ118 L N) 85 (f85.ent L N m))
noncomputable def E85 (L N m:Nat):Env:={P:=Tryz.prog,ty:=tyOf,Φ:=Φ85s L N m,inl:=inlT,live:=lives,liveX:=livesX,L:=L,dp:=none,prom:=promT,heal:=healT,ren:=renT}
noncomputable def f85.c0:Code:=loopAt 1 (codeOf Tryz.f85)
def f85.X0_e1 {R:Type} (κ:KX R):=fun z30=>κ (.exit 1) (f85.T0_e1 z30) (f85.H0_e1 z30)
def f85.X0_r {R:Type} (κ:KX R):=fun z32 z33=>κ .ret (f85.T0_r z32 z33) (f85.H0_r z32 z33)
def f85.R0 {R:Type} (rec:KT R):=fun s24 s25 s26 s27 s28 s29=>rec (f85.T0 s24 s25 s26 s27 s28 s29) (f85.H0 s24 s25 s26 s27 s28 s29)
theorem f85.s0_eq {R:Type} (L N m:Nat) (κ:KX R) (rec:KT R) (s24:Int) (s25:Int) (s26:Int) (s27:Int) (s28:Int) (s29:LT):
  evRd (E85 L N m) (evCallI (E85 L N m) 0 1000) 1000 85 60 1 f85.c0 κ rec (f85.T0 s24 s25 s26 s27 s28 s29) (f85.H0 s24 s25 s26 s27 s28 s29)
  =f85.s0 L N (f85 L N m) (f85.X0_e1 κ) (f85.X0_r κ) (f85.R0 rec) s24 s25 s26 s27 s28 s29:=by kernel_rfl
theorem f85.l0_eq {R:Type} (L N m:Nat) (κ:KX R):∀(n:Nat) (s24:Int) (s25:Int) (s26:Int) (s27:Int) (s28:Int) (s29:LT),
  evLp (E85 L N m) (evCallI (E85 L N m) 0 1000) 1000 85 60 1 f85.c0 κ n (f85.T0 s24 s25 s26 s27 s28 s29) (f85.H0 s24 s25 s26 s27 s28 s29)
  =f85.l0 L N (f85 L N m) (f85.X0_e1 κ) (f85.X0_r κ) n s24 s25 s26 s27 s28 s29:=by
 intro n
 induction n with
 |zero=>intros;rfl
 |succ n ih=>
  intro s24 s25 s26 s27 s28 s29
  rw [evLp_succ,f85.s0_eq]
  delta f85.R0
  simp only [ih]
  rfl
theorem f85.p0_e1_eq {R:Type} (L N m:Nat) (κ:AV→Option R) (z30:Int):
  (contAt (E85 L N m) (evCallI (E85 L N m) 0 1000) 1000 85 60 1 (codeOf Tryz.f85) (finK (E85 L N m) 1000 Tryz.f85 (finC (.one i64) κ))) (.exit 1) (f85.T0_e1 z30) (f85.H0_e1 z30)
  =f85.p0_e1 L N (f85 L N m) (fun a0=>κ (.tv i64 a0)) z30:=by kernel_rfl
theorem f85.p0_r_eq {R:Type} (L N m:Nat) (κ:AV→Option R) (z32:Int) (z33:Int):
  (contAt (E85 L N m) (evCallI (E85 L N m) 0 1000) 1000 85 60 1 (codeOf Tryz.f85) (finK (E85 L N m) 1000 Tryz.f85 (finC (.one i64) κ))) .ret (f85.T0_r z32 z33) (f85.H0_r z32 z33)
  =f85.p0_r L N (f85 L N m) (fun a0=>κ (.tv i64 a0)) z32 z33:=by kernel_rfl
theorem f85.b_eq {R:Type} (L N m:Nat) (κ:AV→Option R) (x0:Tree):
  evBody (E85 L N m) (evCallI (E85 L N m) 0 1000) 1000 85 Tryz.f85 [(.tv (.st 1) x0)] [] [] (finC (.one i64) κ)
  =f85.b L N (f85 L N m) (fun a0=>κ (.tv i64 a0)) x0:=by
 refine Eq.trans (b:=f85.b' L N (f85 L N m) (fun a0=>κ (.tv i64 a0)) (fun s24 s25 s26 s27 s28 s29=>evLp (E85 L N m) (evCallI (E85 L N m) 0 1000) 1000 85 60 1 f85.c0 (contAt (E85 L N m) (evCallI (E85 L N m) 0 1000) 1000 85 60 1 (codeOf Tryz.f85) (finK (E85 L N m) 1000 Tryz.f85 (finC (.one i64) κ))) L (f85.T0 s24 s25 s26 s27 s28 s29) (f85.H0 s24 s25 s26 s27 s28 s29)) x0) (by kernel_rfl) ?_
 unfold f85.b
 simp only [f85.l0_eq]
 delta f85.X0_e1 f85.X0_r
 simp only [f85.p0_e1_eq,f85.p0_r_eq]
theorem f85.ok (L N m:Nat) (hΦ:TellsOk Tryz.prog (Φ85s L N m)):EntOk Tryz.prog 85 (f85.ent L N (m+1)):=entRo_ok (E:=(E85 L N m)) (dep:=1000) (f:=Tryz.f85) (sound_of hΦ) okP (callI_sound (sound_of hΦ) okP 0 1000) rfl rfl fun d _ hy=>(f85.b_eq L N m (unR (.one i64)) d.1).trans (Eq.trans (b:=f85.b L N (f85 L N m) some d.1) (by kernel_rfl) hy)
theorem Φ85s_ok (L N:Nat):∀m,TellsOk Tryz.prog (Φ85s L N m):=by
 intro m
 induction m with
 |zero=>exact (addT_ok (Φ118_ok L N) (entRo_no fun _=>rfl))
 |succ m ih=>exact (addT_ok (Φ118_ok L N) (f85.ok L N m ih))
def Φ85 (L N:Nat):Tells:=(addT (Φ118 L N) 85 (f85.ent L N N))
theorem Φ85_ok (L N:Nat):TellsOk Tryz.prog (Φ85 L N):=Φ85s_ok L N N
def f53.b' {R:Type} (L N:Nat) (k:Bool→Option R) (x0:Tree):Option R:=
 (f85 L N N (Tree.mk x0.op x0.n x0.parts)).bind fun y0=>
 (f54 L N y0 (1:Int) (24:Int)).bind fun y1=>
 k y1
def f53.b {R:Type} (L N:Nat) (k:Bool→Option R) (x0:Tree):Option R:=
 f53.b' L N k x0
def f53 (L N:Nat) (x0:Tree):Option (Bool):=f53.b L N some x0
def f53.ent (L N:Nat):=entRo [(.st 1)] (.one .bool) fun d=>f53 L N d.1
noncomputable def E53 (L N:Nat):Env:={P:=Tryz.prog,ty:=tyOf,Φ:=(Φ85 L N),inl:=inlT,live:=lives,liveX:=livesX,L:=L,dp:=none,prom:=promT,heal:=healT,ren:=renT}
theorem f53.b_eq {R:Type} (L N:Nat) (κ:AV→Option R) (x0:Tree):
  evBody (E53 L N) (evCallI (E53 L N) 0 1000) 1000 53 Tryz.f53 [(.tv (.st 1) x0)] [] [] (finC (.one .bool) κ)
  =f53.b L N (fun a0=>κ (.tv .bool a0)) x0:=by kernel_rfl
theorem f53.ok (L N:Nat) (hΦ:TellsOk Tryz.prog ((Φ85 L N))):EntOk Tryz.prog 53 (f53.ent L N):=entRo_ok (E:=(E53 L N)) (dep:=1000) (f:=Tryz.f53) (sound_of hΦ) okP (callI_sound (sound_of hΦ) okP 0 1000) rfl rfl fun d _ hy=>(f53.b_eq L N (unR (.one .bool)) d.1).trans (Eq.trans (b:=f53.b L N some d.1) (by kernel_rfl) hy)
def Φ53 (L N:Nat):Tells:=(addT (Φ85 L N) 53 (f53.ent L N))
theorem Φ53_ok (L N:Nat):TellsOk Tryz.prog (Φ53 L N):=addT_ok (Φ85_ok L N) (f53.ok L N (Φ85_ok L N))
def f97.j0' {R:Type} (L N:Nat) (self97:Tree→Bool→Option (Int)) (k0_e0:Int→Option R) (rec0:Bool→Int→Int→Int→Int→LT→Option R) (v14:Bool) (v15:Int) (v16:Int) (v17:Int) (v18:Int) (v19:LT):Option R:=
 bif (decide (0≤v16)&&decide (v16<(v19.length:Int))) then
  (self97 (listAt v19 (Ty.dflt (.st 1)) v16.toNat) v14).bind fun y20=>
  rec0 v14 (bif decide (y20>v15) then y20 else v15) (wi (v16+(1:Int))) v17 v18 v19
 else none
def f97.s0' {R:Type} (L N:Nat) (self97:Tree→Bool→Option (Int)) (k0_e0:Int→Option R) (rec0:Bool→Int→Int→Int→Int→LT→Option R) (s0:Bool) (s1:Int) (s2:Int) (s3:Int) (s4:Int) (s5:LT):Option R:=
 bif (decide (s2<(s5.length:Int))) then
  bif s0 then
   bif (!(s3==(1:Int))) then
    f97.j0' L N self97 k0_e0 rec0 s0 s1 s2 s3 s4 s5
   else k0_e0 s1
  else bif (!false) then
   f97.j0' L N self97 k0_e0 rec0 s0 s1 s2 s3 s4 s5
  else k0_e0 s1
 else k0_e0 s1
def f97.s0 {R:Type} (L N:Nat) (self97:Tree→Bool→Option (Int)) (k0_e0:Int→Option R) (rec0:Bool→Int→Int→Int→Int→LT→Option R) (s0:Bool) (s1:Int) (s2:Int) (s3:Int) (s4:Int) (s5:LT):Option R:=
 f97.s0' L N self97 k0_e0 rec0 s0 s1 s2 s3 s4 s5
def f97.l0 {R:Type} (L N:Nat) (self97:Tree→Bool→Option (Int)) (k0_e0:Int→Option R):Nat→Bool→Int→Int→Int→Int→LT→Option R
 |0,_,_,_,_,_,_=>none
 |n+1,s0,s1,s2,s3,s4,s5=>f97.s0 L N self97 k0_e0 (f97.l0 L N self97 k0_e0 n) s0 s1 s2 s3 s4 s5
def f97.T0 (s0:Bool) (s1:Int) (s2:Int) (s3:Int) (s4:Int) (s5:LT):T:=mkT 38 [(1,(.tv .bool s0)),(2,(.ptr 1002 0)),(5,(.tv i64 s1)),(6,(.tv i64 s2))]
def f97.H0 (s0:Bool) (s1:Int) (s2:Int) (s3:Int) (s4:Int) (s5:LT):H:=[(1002,(.box [(.tv i64 s3),(.tv i64 s4),(.tv (.sl (.st 1)) s5)]))]
def f97.T0_e0 (z13:Int):T:=mkT 38 [(5,(.tv i64 z13))]
def f97.H0_e0 (z13:Int):H:=[]
def f97.p0_e0' {R:Type} (L N:Nat) (self97:Tree→Bool→Option (Int)) (k:Int→Option R) (z13:Int):Option R:=
 k z13
def f97.p0_e0 {R:Type} (L N:Nat) (self97:Tree→Bool→Option (Int)) (k:Int→Option R) (z13:Int):Option R:=
 f97.p0_e0' L N self97 k z13
def f97.b' {R:Type} (L N:Nat) (self97:Tree→Bool→Option (Int)) (k:Int→Option R) (w0:Bool→Int→Int→Int→Int→LT→Option R) (x0:Tree) (x1:Bool):Option R:=
 bif (x0.op==(5:Int)) then
  k x0.n
 else w0 x1 (-1:Int) (0:Int) x0.op x0.n x0.parts
def f97.b {R:Type} (L N:Nat) (self97:Tree→Bool→Option (Int)) (k:Int→Option R) (x0:Tree) (x1:Bool):Option R:=
 f97.b' L N self97 k (fun s0 s1 s2 s3 s4 s5=>f97.l0 L N self97 (fun z13=>f97.p0_e0 L N self97 k z13) L s0 s1 s2 s3 s4 s5) x0 x1
def f97 (L N:Nat):Nat→Tree→Bool→Option (Int)
 |0,_,_=>none
 |n+1,x0,x1=>f97.b L N (f97 L N n) some x0 x1
def f97.ent (L N m:Nat):=entRo [(.st 1),.bool] (.one i64) fun d=>f97 L N m d.1 d.2.1
def Φ97s (L N m:Nat):Tells:=(addT (Φ53 L N) 97 (f97.ent L N m))
noncomputable def E97 (L N m:Nat):Env:={P:=Tryz.prog,ty:=tyOf,Φ:=Φ97s L N m,inl:=inlT,live:=lives,liveX:=livesX,L:=L,dp:=none,prom:=promT,heal:=healT,ren:=renT}
noncomputable def f97.c0:Code:=loopAt 0 (codeOf Tryz.f97)
def f97.X0_e0 {R:Type} (κ:KX R):=fun z13=>κ (.exit 0) (f97.T0_e0 z13) (f97.H0_e0 z13)
def f97.R0 {R:Type} (rec:KT R):=fun s0 s1 s2 s3 s4 s5=>rec (f97.T0 s0 s1 s2 s3 s4 s5) (f97.H0 s0 s1 s2 s3 s4 s5)
theorem f97.s0_eq {R:Type} (L N m:Nat) (κ:KX R) (rec:KT R) (s0:Bool) (s1:Int) (s2:Int) (s3:Int) (s4:Int) (s5:LT):
  evRd (E97 L N m) (evCallI (E97 L N m) 0 1000) 1000 97 38 0 f97.c0 κ rec (f97.T0 s0 s1 s2 s3 s4 s5) (f97.H0 s0 s1 s2 s3 s4 s5)
  =f97.s0 L N (f97 L N m) (f97.X0_e0 κ) (f97.R0 rec) s0 s1 s2 s3 s4 s5:=by kernel_rfl
theorem f97.l0_eq {R:Type} (L N m:Nat) (κ:KX R):∀(n:Nat) (s0:Bool) (s1:Int) (s2:Int) (s3:Int) (s4:Int) (s5:LT),
  evLp (E97 L N m) (evCallI (E97 L N m) 0 1000) 1000 97 38 0 f97.c0 κ n (f97.T0 s0 s1 s2 s3 s4 s5) (f97.H0 s0 s1 s2 s3 s4 s5)
  =f97.l0 L N (f97 L N m) (f97.X0_e0 κ) n s0 s1 s2 s3 s4 s5:=by
 intro n
 induction n with
 |zero=>intros;rfl
 |succ n ih=>
  intro s0 s1 s2 s3 s4 s5
  rw [evLp_succ,f97.s0_eq]
  delta f97.R0
  simp only [ih]
  rfl
theorem f97.p0_e0_eq {R:Type} (L N m:Nat) (κ:AV→Option R) (z13:Int):
  (contAt (E97 L N m) (evCallI (E97 L N m) 0 1000) 1000 97 38 0 (codeOf Tryz.f97) (finK (E97 L N m) 1000 Tryz.f97 (finC (.one i64) κ))) (.exit 0) (f97.T0_e0 z13) (f97.H0_e0 z13)
  =f97.p0_e0 L N (f97 L N m) (fun a0=>κ (.tv i64 a0)) z13:=by kernel_rfl
theorem f97.b_eq {R:Type} (L N m:Nat) (κ:AV→Option R) (x0:Tree) (x1:Bool):
  evBody (E97 L N m) (evCallI (E97 L N m) 0 1000) 1000 97 Tryz.f97 [(.tv (.st 1) x0),(.tv .bool x1)] [] [] (finC (.one i64) κ)
  =f97.b L N (f97 L N m) (fun a0=>κ (.tv i64 a0)) x0 x1:=by
 refine Eq.trans (b:=f97.b' L N (f97 L N m) (fun a0=>κ (.tv i64 a0)) (fun s0 s1 s2 s3 s4 s5=>evLp (E97 L N m) (evCallI (E97 L N m) 0 1000) 1000 97 38 0 f97.c0 (contAt (E97 L N m) (evCallI (E97 L N m) 0 1000) 1000 97 38 0 (codeOf Tryz.f97) (finK (E97 L N m) 1000 Tryz.f97 (finC (.one i64) κ))) L (f97.T0 s0 s1 s2 s3 s4 s5) (f97.H0 s0 s1 s2 s3 s4 s5)) x0 x1) (by kernel_rfl) ?_
 unfold f97.b
 simp only [f97.l0_eq]
 delta f97.X0_e0
 simp only [f97.p0_e0_eq]
theorem f97.ok (L N m:Nat) (hΦ:TellsOk Tryz.prog (Φ97s L N m)):EntOk Tryz.prog 97 (f97.ent L N (m+1)):=entRo_ok (E:=(E97 L N m)) (dep:=1000) (f:=Tryz.f97) (sound_of hΦ) okP (callI_sound (sound_of hΦ) okP 0 1000) rfl rfl fun d _ hy=>(f97.b_eq L N m (unR (.one i64)) d.1 d.2.1).trans (Eq.trans (b:=f97.b L N (f97 L N m) some d.1 d.2.1) (by kernel_rfl) hy)
theorem Φ97s_ok (L N:Nat):∀m,TellsOk Tryz.prog (Φ97s L N m):=by
 intro m
 induction m with
 |zero=>exact (addT_ok (Φ53_ok L N) (entRo_no fun _=>rfl))
 |succ m ih=>exact (addT_ok (Φ53_ok L N) (f97.ok L N m ih))
def Φ97 (L N:Nat):Tells:=(addT (Φ53 L N) 97 (f97.ent L N N))
theorem Φ97_ok (L N:Nat):TellsOk Tryz.prog (Φ97 L N):=Φ97s_ok L N N
def f61.b' {R:Type} (L N:Nat) (k:Bool→Option R) (x0:Tree):Option R:=
 (f97 L N N (Tree.mk x0.op x0.n x0.parts) false).bind fun y0=>
 k (decide (y0<(0:Int)))
def f61.b {R:Type} (L N:Nat) (k:Bool→Option R) (x0:Tree):Option R:=
 f61.b' L N k x0
def f61 (L N:Nat) (x0:Tree):Option (Bool):=f61.b L N some x0
def f61.ent (L N:Nat):=entRo [(.st 1)] (.one .bool) fun d=>f61 L N d.1
noncomputable def E61 (L N:Nat):Env:={P:=Tryz.prog,ty:=tyOf,Φ:=(Φ97 L N),inl:=inlT,live:=lives,liveX:=livesX,L:=L,dp:=none,prom:=promT,heal:=healT,ren:=renT}
theorem f61.b_eq {R:Type} (L N:Nat) (κ:AV→Option R) (x0:Tree):
  evBody (E61 L N) (evCallI (E61 L N) 0 1000) 1000 61 Tryz.f61 [(.tv (.st 1) x0)] [] [] (finC (.one .bool) κ)
  =f61.b L N (fun a0=>κ (.tv .bool a0)) x0:=by kernel_rfl
theorem f61.ok (L N:Nat) (hΦ:TellsOk Tryz.prog ((Φ97 L N))):EntOk Tryz.prog 61 (f61.ent L N):=entRo_ok (E:=(E61 L N)) (dep:=1000) (f:=Tryz.f61) (sound_of hΦ) okP (callI_sound (sound_of hΦ) okP 0 1000) rfl rfl fun d _ hy=>(f61.b_eq L N (unR (.one .bool)) d.1).trans (Eq.trans (b:=f61.b L N some d.1) (by kernel_rfl) hy)
def Φ61 (L N:Nat):Tells:=(addT (Φ97 L N) 61 (f61.ent L N))
theorem Φ61_ok (L N:Nat):TellsOk Tryz.prog (Φ61 L N):=addT_ok (Φ97_ok L N) (f61.ok L N (Φ97_ok L N))
def f135.b' {R:Type} (L N:Nat) (k:Int→Option R) (x0:Int):Option R:=
 k (wi ((bif decide ((wi (0-x0))>x0) then (wi (0-x0)) else x0)-(1:Int)))
def f135.b {R:Type} (L N:Nat) (k:Int→Option R) (x0:Int):Option R:=
 f135.b' L N k x0
def f135 (L N:Nat) (x0:Int):Option (Int):=f135.b L N some x0
def f135.ent (L N:Nat):=entRo [i64] (.one i64) fun d=>f135 L N d.1
noncomputable def E135 (L N:Nat):Env:={P:=Tryz.prog,ty:=tyOf,Φ:=(Φ61 L N),inl:=inlT,live:=lives,liveX:=livesX,L:=L,dp:=none,prom:=promT,heal:=healT,ren:=renT}
theorem f135.b_eq {R:Type} (L N:Nat) (κ:AV→Option R) (x0:Int):
  evBody (E135 L N) (evCallI (E135 L N) 0 1000) 1000 135 Tryz.f135 [(.tv i64 x0)] [] [] (finC (.one i64) κ)
  =f135.b L N (fun a0=>κ (.tv i64 a0)) x0:=by kernel_rfl
theorem f135.ok (L N:Nat) (hΦ:TellsOk Tryz.prog ((Φ61 L N))):EntOk Tryz.prog 135 (f135.ent L N):=entRo_ok (E:=(E135 L N)) (dep:=1000) (f:=Tryz.f135) (sound_of hΦ) okP (callI_sound (sound_of hΦ) okP 0 1000) rfl rfl fun d _ hy=>(f135.b_eq L N (unR (.one i64)) d.1).trans (Eq.trans (b:=f135.b L N some d.1) (by kernel_rfl) hy)
def Φ135 (L N:Nat):Tells:=(addT (Φ61 L N) 135 (f135.ent L N))
theorem Φ135_ok (L N:Nat):TellsOk Tryz.prog (Φ135 L N):=addT_ok (Φ61_ok L N) (f135.ok L N (Φ61_ok L N))
def f98.s0' {R:Type} (L N:Nat) (self98:Tree→LT→Option (LS)) (k0_e1:Int→Int→LT→LS→LS→LS→Option R) (rec0:Int→Int→Int→LT→LS→LS→LS→Option R) (s4:Int) (s5:Int) (s6:Int) (s7:LT) (s8:LS) (s9:LS) (s10:LS):Option R:=
 bif (decide (s4<(s9.length:Int))) then
  bif (decide (0≤s4)&&decide (s4<(s9.length:Int))) then
   bif (decide (0≤s4)&&decide (s4<(s9.length:Int))) then
    bif (decide (0≤(1:Int))&&decide ((1:Int)<(s7.length:Int))) then
     bif (decide (s8.length+([(Step.mk ((listAt s9 (Ty.dflt (.st 3)) s4.toNat).act) (Tree.mk (3:Int) (0:Int) ([(Tree.mk ((listAt s9 (Ty.dflt (.st 3)) s4.toNat).thn.op) ((listAt s9 (Ty.dflt (.st 3)) s4.toNat).thn.n) ((listAt s9 (Ty.dflt (.st 3)) s4.toNat).thn.parts)),(listAt s7 (Ty.dflt (.st 1)) (1:Int).toNat)]:LT)))]:LS).length≤lim)) then
      rec0 (wi (s4+(1:Int))) s5 s6 s7 (s8++([(Step.mk ((listAt s9 (Ty.dflt (.st 3)) s4.toNat).act) (Tree.mk (3:Int) (0:Int) ([(Tree.mk ((listAt s9 (Ty.dflt (.st 3)) s4.toNat).thn.op) ((listAt s9 (Ty.dflt (.st 3)) s4.toNat).thn.n) ((listAt s9 (Ty.dflt (.st 3)) s4.toNat).thn.parts)),(listAt s7 (Ty.dflt (.st 1)) (1:Int).toNat)]:LT)))]:LS)) s9 s10
     else none
    else none
   else none
  else none
 else k0_e1 s5 s6 s7 s8 s9 s10
def f98.s0 {R:Type} (L N:Nat) (self98:Tree→LT→Option (LS)) (k0_e1:Int→Int→LT→LS→LS→LS→Option R) (rec0:Int→Int→Int→LT→LS→LS→LS→Option R) (s4:Int) (s5:Int) (s6:Int) (s7:LT) (s8:LS) (s9:LS) (s10:LS):Option R:=
 f98.s0' L N self98 k0_e1 rec0 s4 s5 s6 s7 s8 s9 s10
def f98.l0 {R:Type} (L N:Nat) (self98:Tree→LT→Option (LS)) (k0_e1:Int→Int→LT→LS→LS→LS→Option R):Nat→Int→Int→Int→LT→LS→LS→LS→Option R
 |0,_,_,_,_,_,_,_=>none
 |n+1,s4,s5,s6,s7,s8,s9,s10=>f98.s0 L N self98 k0_e1 (f98.l0 L N self98 k0_e1 n) s4 s5 s6 s7 s8 s9 s10
def f98.T0 (s4:Int) (s5:Int) (s6:Int) (s7:LT) (s8:LS) (s9:LS) (s10:LS):T:=mkT 217 [(2,(.ptr 1002 0)),(5,(.row 1014)),(6,(.row 1051)),(7,(.row 1057)),(8,(.tv i64 s4))]
def f98.H0 (s4:Int) (s5:Int) (s6:Int) (s7:LT) (s8:LS) (s9:LS) (s10:LS):H:=[(1002,(.box [(.tv i64 s5),(.tv i64 s6),(.tv (.sl (.st 1)) s7)])),(1014,(.row 113 (.st 3) s8)),(1051,(.row 113 (.st 3) s9)),(1057,(.row 113 (.st 3) s10))]
def f98.T0_e1 (z11:Int) (z12:Int) (z13:LT) (z14:LS) (z15:LS) (z16:LS):T:=mkT 217 [(2,(.ptr 1002 0)),(5,(.row 1014)),(6,(.row 1051)),(7,(.row 1057))]
def f98.H0_e1 (z11:Int) (z12:Int) (z13:LT) (z14:LS) (z15:LS) (z16:LS):H:=[(1002,(.box [(.tv i64 z11),(.tv i64 z12),(.tv (.sl (.st 1)) z13)])),(1014,(.row 113 (.st 3) z14)),(1051,(.row 113 (.st 3) z15)),(1057,(.row 113 (.st 3) z16))]
def f98.s1' {R:Type} (L N:Nat) (self98:Tree→LT→Option (LS)) (k1_e3:LS→LS→LS→Option R) (rec1:Int→Int→Int→LT→LS→LS→LS→Option R) (s17:Int) (s18:Int) (s19:Int) (s20:LT) (s21:LS) (s22:LS) (s23:LS):Option R:=
 bif (decide (s17<(s23.length:Int))) then
  bif (decide (0≤s17)&&decide (s17<(s23.length:Int))) then
   bif (decide (0≤(0:Int))&&decide ((0:Int)<(s20.length:Int))) then
    bif (decide (0≤s17)&&decide (s17<(s23.length:Int))) then
     bif (decide (s21.length+([(Step.mk ((listAt s23 (Ty.dflt (.st 3)) s17.toNat).act) (Tree.mk (3:Int) (0:Int) ([(listAt s20 (Ty.dflt (.st 1)) (0:Int).toNat),(Tree.mk ((listAt s23 (Ty.dflt (.st 3)) s17.toNat).thn.op) ((listAt s23 (Ty.dflt (.st 3)) s17.toNat).thn.n) ((listAt s23 (Ty.dflt (.st 3)) s17.toNat).thn.parts))]:LT)))]:LS).length≤lim)) then
      rec1 (wi (s17+(1:Int))) s18 s19 s20 (s21++([(Step.mk ((listAt s23 (Ty.dflt (.st 3)) s17.toNat).act) (Tree.mk (3:Int) (0:Int) ([(listAt s20 (Ty.dflt (.st 1)) (0:Int).toNat),(Tree.mk ((listAt s23 (Ty.dflt (.st 3)) s17.toNat).thn.op) ((listAt s23 (Ty.dflt (.st 3)) s17.toNat).thn.n) ((listAt s23 (Ty.dflt (.st 3)) s17.toNat).thn.parts))]:LT)))]:LS)) s22 s23
     else none
    else none
   else none
  else none
 else k1_e3 s21 s22 s23
def f98.s1 {R:Type} (L N:Nat) (self98:Tree→LT→Option (LS)) (k1_e3:LS→LS→LS→Option R) (rec1:Int→Int→Int→LT→LS→LS→LS→Option R) (s17:Int) (s18:Int) (s19:Int) (s20:LT) (s21:LS) (s22:LS) (s23:LS):Option R:=
 f98.s1' L N self98 k1_e3 rec1 s17 s18 s19 s20 s21 s22 s23
def f98.l1 {R:Type} (L N:Nat) (self98:Tree→LT→Option (LS)) (k1_e3:LS→LS→LS→Option R):Nat→Int→Int→Int→LT→LS→LS→LS→Option R
 |0,_,_,_,_,_,_,_=>none
 |n+1,s17,s18,s19,s20,s21,s22,s23=>f98.s1 L N self98 k1_e3 (f98.l1 L N self98 k1_e3 n) s17 s18 s19 s20 s21 s22 s23
def f98.T1 (s17:Int) (s18:Int) (s19:Int) (s20:LT) (s21:LS) (s22:LS) (s23:LS):T:=mkT 217 [(2,(.ptr 1002 0)),(5,(.row 1014)),(6,(.row 1051)),(7,(.row 1057)),(9,(.tv i64 s17))]
def f98.H1 (s17:Int) (s18:Int) (s19:Int) (s20:LT) (s21:LS) (s22:LS) (s23:LS):H:=[(1002,(.box [(.tv i64 s18),(.tv i64 s19),(.tv (.sl (.st 1)) s20)])),(1014,(.row 113 (.st 3) s21)),(1051,(.row 113 (.st 3) s22)),(1057,(.row 113 (.st 3) s23))]
def f98.T1_e3 (z24:LS) (z25:LS) (z26:LS):T:=mkT 217 [(5,(.row 1014)),(6,(.row 1051)),(7,(.row 1057))]
def f98.H1_e3 (z24:LS) (z25:LS) (z26:LS):H:=[(1014,(.row 113 (.st 3) z24)),(1051,(.row 113 (.st 3) z25)),(1057,(.row 113 (.st 3) z26))]
def f98.j0' {R:Type} (L N:Nat) (self98:Tree→LT→Option (LS)) (k3_e7:Int→LS→LS→LS→Option R) (rec3:Int→Int→LS→LS→LS→Option R) (v41:Int) (v42:Int) (v43:Bool) (v44:LS) (v45:LS) (v46:LS):Option R:=
 bif v43 then
  bif (decide (0≤v41)&&decide (v41<(v45.length:Int))) then
   bif (decide (0≤v42)&&decide (v42<(v46.length:Int))) then
    bif (decide (v44.length+([(Step.mk (0:Int) (Tree.mk (3:Int) (0:Int) ([(Tree.mk ((listAt v45 (Ty.dflt (.st 3)) v41.toNat).thn.op) ((listAt v45 (Ty.dflt (.st 3)) v41.toNat).thn.n) ((listAt v45 (Ty.dflt (.st 3)) v41.toNat).thn.parts)),(Tree.mk ((listAt v46 (Ty.dflt (.st 3)) v42.toNat).thn.op) ((listAt v46 (Ty.dflt (.st 3)) v42.toNat).thn.n) ((listAt v46 (Ty.dflt (.st 3)) v42.toNat).thn.parts))]:LT)))]:LS).length≤lim)) then
     rec3 v41 (wi (v42+(1:Int))) (v44++([(Step.mk (0:Int) (Tree.mk (3:Int) (0:Int) ([(Tree.mk ((listAt v45 (Ty.dflt (.st 3)) v41.toNat).thn.op) ((listAt v45 (Ty.dflt (.st 3)) v41.toNat).thn.n) ((listAt v45 (Ty.dflt (.st 3)) v41.toNat).thn.parts)),(Tree.mk ((listAt v46 (Ty.dflt (.st 3)) v42.toNat).thn.op) ((listAt v46 (Ty.dflt (.st 3)) v42.toNat).thn.n) ((listAt v46 (Ty.dflt (.st 3)) v42.toNat).thn.parts))]:LT)))]:LS)) v45 v46
    else none
   else none
  else none
 else rec3 v41 (wi (v42+(1:Int))) v44 v45 v46
def f98.s3' {R:Type} (L N:Nat) (self98:Tree→LT→Option (LS)) (k3_e7:Int→LS→LS→LS→Option R) (rec3:Int→Int→LS→LS→LS→Option R) (s32:Int) (s33:Int) (s34:LS) (s35:LS) (s36:LS):Option R:=
 bif (decide (s33<(s36.length:Int))) then
  bif (decide (0≤s32)&&decide (s32<(s35.length:Int))) then
   bif ((listAt s35 (Ty.dflt (.st 3)) s32.toNat).act !=(0:Int)) then
    bif (decide (0≤s32)&&decide (s32<(s35.length:Int))) then
     bif (decide (0≤s33)&&decide (s33<(s36.length:Int))) then
      f98.j0' L N self98 k3_e7 rec3 s32 s33 ((listAt s35 (Ty.dflt (.st 3)) s32.toNat).act==(wi (0-(listAt s36 (Ty.dflt (.st 3)) s33.toNat).act))) s34 s35 s36
     else none
    else none
   else f98.j0' L N self98 k3_e7 rec3 s32 s33 false s34 s35 s36
  else none
 else k3_e7 s32 s34 s35 s36
def f98.s3 {R:Type} (L N:Nat) (self98:Tree→LT→Option (LS)) (k3_e7:Int→LS→LS→LS→Option R) (rec3:Int→Int→LS→LS→LS→Option R) (s32:Int) (s33:Int) (s34:LS) (s35:LS) (s36:LS):Option R:=
 f98.s3' L N self98 k3_e7 rec3 s32 s33 s34 s35 s36
def f98.l3 {R:Type} (L N:Nat) (self98:Tree→LT→Option (LS)) (k3_e7:Int→LS→LS→LS→Option R):Nat→Int→Int→LS→LS→LS→Option R
 |0,_,_,_,_,_=>none
 |n+1,s32,s33,s34,s35,s36=>f98.s3 L N self98 k3_e7 (f98.l3 L N self98 k3_e7 n) s32 s33 s34 s35 s36
def f98.T3 (s32:Int) (s33:Int) (s34:LS) (s35:LS) (s36:LS):T:=mkT 217 [(5,(.row 1014)),(6,(.row 1051)),(7,(.row 1057)),(10,(.tv i64 s32)),(11,(.tv i64 s33))]
def f98.H3 (s32:Int) (s33:Int) (s34:LS) (s35:LS) (s36:LS):H:=[(1014,(.row 113 (.st 3) s34)),(1051,(.row 113 (.st 3) s35)),(1057,(.row 113 (.st 3) s36))]
def f98.T3_e7 (z37:Int) (z38:LS) (z39:LS) (z40:LS):T:=mkT 217 [(5,(.row 1014)),(6,(.row 1051)),(7,(.row 1057)),(10,(.tv i64 z37))]
def f98.H3_e7 (z37:Int) (z38:LS) (z39:LS) (z40:LS):H:=[(1014,(.row 113 (.st 3) z38)),(1051,(.row 113 (.st 3) z39)),(1057,(.row 113 (.st 3) z40))]
def f98.p3_e7' {R:Type} (L N:Nat) (self98:Tree→LT→Option (LS)) (k2_e5:LS→Option R) (rec2:Int→LS→LS→LS→Option R) (z37:Int) (z38:LS) (z39:LS) (z40:LS):Option R:=
 rec2 (wi (z37+(1:Int))) z38 z39 z40
def f98.p3_e7 {R:Type} (L N:Nat) (self98:Tree→LT→Option (LS)) (k2_e5:LS→Option R) (rec2:Int→LS→LS→LS→Option R) (z37:Int) (z38:LS) (z39:LS) (z40:LS):Option R:=
 f98.p3_e7' L N self98 k2_e5 rec2 z37 z38 z39 z40
def f98.s2' {R:Type} (L N:Nat) (self98:Tree→LT→Option (LS)) (k2_e5:LS→Option R) (rec2:Int→LS→LS→LS→Option R) (w3:Int→Int→LS→LS→LS→Option R) (s27:Int) (s28:LS) (s29:LS) (s30:LS):Option R:=
 bif (decide (s27<(s29.length:Int))) then
  w3 s27 (0:Int) s28 s29 s30
 else k2_e5 s28
def f98.s2 {R:Type} (L N:Nat) (self98:Tree→LT→Option (LS)) (k2_e5:LS→Option R) (rec2:Int→LS→LS→LS→Option R) (s27:Int) (s28:LS) (s29:LS) (s30:LS):Option R:=
 f98.s2' L N self98 k2_e5 rec2 (fun s32 s33 s34 s35 s36=>f98.l3 L N self98 (fun z37 z38 z39 z40=>f98.p3_e7 L N self98 k2_e5 rec2 z37 z38 z39 z40) L s32 s33 s34 s35 s36) s27 s28 s29 s30
def f98.l2 {R:Type} (L N:Nat) (self98:Tree→LT→Option (LS)) (k2_e5:LS→Option R):Nat→Int→LS→LS→LS→Option R
 |0,_,_,_,_=>none
 |n+1,s27,s28,s29,s30=>f98.s2 L N self98 k2_e5 (f98.l2 L N self98 k2_e5 n) s27 s28 s29 s30
def f98.T2 (s27:Int) (s28:LS) (s29:LS) (s30:LS):T:=mkT 217 [(5,(.row 1014)),(6,(.row 1051)),(7,(.row 1057)),(10,(.tv i64 s27))]
def f98.H2 (s27:Int) (s28:LS) (s29:LS) (s30:LS):H:=[(1014,(.row 113 (.st 3) s28)),(1051,(.row 113 (.st 3) s29)),(1057,(.row 113 (.st 3) s30))]
def f98.T2_e5 (z31:LS):T:=mkT 217 [(5,(.row 1014))]
def f98.H2_e5 (z31:LS):H:=[(1014,(.row 113 (.st 3) z31))]
def f98.p2_e5' {R:Type} (L N:Nat) (self98:Tree→LT→Option (LS)) (k:LS→Option R) (z31:LS):Option R:=
 k z31
def f98.p2_e5 {R:Type} (L N:Nat) (self98:Tree→LT→Option (LS)) (k:LS→Option R) (z31:LS):Option R:=
 f98.p2_e5' L N self98 k z31
def f98.p1_e3' {R:Type} (L N:Nat) (self98:Tree→LT→Option (LS)) (k:LS→Option R) (w2:Int→LS→LS→LS→Option R) (z24:LS) (z25:LS) (z26:LS):Option R:=
 w2 (0:Int) z24 z25 z26
def f98.p1_e3 {R:Type} (L N:Nat) (self98:Tree→LT→Option (LS)) (k:LS→Option R) (z24:LS) (z25:LS) (z26:LS):Option R:=
 f98.p1_e3' L N self98 k (fun s27 s28 s29 s30=>f98.l2 L N self98 (fun z31=>f98.p2_e5 L N self98 k z31) L s27 s28 s29 s30) z24 z25 z26
def f98.p0_e1' {R:Type} (L N:Nat) (self98:Tree→LT→Option (LS)) (k:LS→Option R) (w1:Int→Int→Int→LT→LS→LS→LS→Option R) (z11:Int) (z12:Int) (z13:LT) (z14:LS) (z15:LS) (z16:LS):Option R:=
 w1 (0:Int) z11 z12 z13 z14 z15 z16
def f98.p0_e1 {R:Type} (L N:Nat) (self98:Tree→LT→Option (LS)) (k:LS→Option R) (z11:Int) (z12:Int) (z13:LT) (z14:LS) (z15:LS) (z16:LS):Option R:=
 f98.p0_e1' L N self98 k (fun s17 s18 s19 s20 s21 s22 s23=>f98.l1 L N self98 (fun z24 z25 z26=>f98.p1_e3 L N self98 k z24 z25 z26) L s17 s18 s19 s20 s21 s22 s23) z11 z12 z13 z14 z15 z16
def f98.j1' {R:Type} (L N:Nat) (self98:Tree→LT→Option (LS)) (k4_e9:LS→Option R) (rec4:Int→Int→Int→LT→LS→LS→Option R) (v61:Int) (v62:Bool) (v63:Int) (v64:Int) (v65:LT) (v66:LS) (v67:LS):Option R:=
 bif v62 then
  bif (decide (0≤v61)&&decide (v61<(v67.length:Int))) then
   bif (decide (0≤v61)&&decide (v61<(v67.length:Int))) then
    bif (decide (v66.length+([(Step.mk ((listAt v67 (Ty.dflt (.st 3)) v61.toNat).act) (Tree.mk (4:Int) v64 ([(Tree.mk ((listAt v67 (Ty.dflt (.st 3)) v61.toNat).thn.op) ((listAt v67 (Ty.dflt (.st 3)) v61.toNat).thn.n) ((listAt v67 (Ty.dflt (.st 3)) v61.toNat).thn.parts))]:LT)))]:LS).length≤lim)) then
     rec4 (wi (v61+(1:Int))) v63 v64 v65 (v66++([(Step.mk ((listAt v67 (Ty.dflt (.st 3)) v61.toNat).act) (Tree.mk (4:Int) v64 ([(Tree.mk ((listAt v67 (Ty.dflt (.st 3)) v61.toNat).thn.op) ((listAt v67 (Ty.dflt (.st 3)) v61.toNat).thn.n) ((listAt v67 (Ty.dflt (.st 3)) v61.toNat).thn.parts))]:LT)))]:LS)) v67
    else none
   else none
  else none
 else rec4 (wi (v61+(1:Int))) v63 v64 v65 v66 v67
def f98.s4' {R:Type} (L N:Nat) (self98:Tree→LT→Option (LS)) (k4_e9:LS→Option R) (rec4:Int→Int→Int→LT→LS→LS→Option R) (s53:Int) (s54:Int) (s55:Int) (s56:LT) (s57:LS) (s58:LS):Option R:=
 bif (decide (s53<(s58.length:Int))) then
  bif (decide (0≤s53)&&decide (s53<(s58.length:Int))) then
   bif ((listAt s58 (Ty.dflt (.st 3)) s53.toNat).act==(0:Int)) then
    f98.j1' L N self98 k4_e9 rec4 s53 true s54 s55 s56 s57 s58
   else bif (decide (0≤s53)&&decide (s53<(s58.length:Int))) then
    (f135 L N ((listAt s58 (Ty.dflt (.st 3)) s53.toNat).act)).bind fun y60=>
    f98.j1' L N self98 k4_e9 rec4 s53 (y60 !=s55) s54 s55 s56 s57 s58
   else none
  else none
 else k4_e9 s57
def f98.s4 {R:Type} (L N:Nat) (self98:Tree→LT→Option (LS)) (k4_e9:LS→Option R) (rec4:Int→Int→Int→LT→LS→LS→Option R) (s53:Int) (s54:Int) (s55:Int) (s56:LT) (s57:LS) (s58:LS):Option R:=
 f98.s4' L N self98 k4_e9 rec4 s53 s54 s55 s56 s57 s58
def f98.l4 {R:Type} (L N:Nat) (self98:Tree→LT→Option (LS)) (k4_e9:LS→Option R):Nat→Int→Int→Int→LT→LS→LS→Option R
 |0,_,_,_,_,_,_=>none
 |n+1,s53,s54,s55,s56,s57,s58=>f98.s4 L N self98 k4_e9 (f98.l4 L N self98 k4_e9 n) s53 s54 s55 s56 s57 s58
def f98.T4 (s53:Int) (s54:Int) (s55:Int) (s56:LT) (s57:LS) (s58:LS):T:=mkT 217 [(2,(.ptr 1002 0)),(5,(.row 1014)),(12,(.row 1165)),(13,(.tv i64 s53))]
def f98.H4 (s53:Int) (s54:Int) (s55:Int) (s56:LT) (s57:LS) (s58:LS):H:=[(1002,(.box [(.tv i64 s54),(.tv i64 s55),(.tv (.sl (.st 1)) s56)])),(1014,(.row 113 (.st 3) s57)),(1165,(.row 113 (.st 3) s58))]
def f98.T4_e9 (z59:LS):T:=mkT 217 [(5,(.row 1014))]
def f98.H4_e9 (z59:LS):H:=[(1014,(.row 113 (.st 3) z59))]
def f98.p4_e9' {R:Type} (L N:Nat) (self98:Tree→LT→Option (LS)) (k:LS→Option R) (z59:LS):Option R:=
 k z59
def f98.p4_e9 {R:Type} (L N:Nat) (self98:Tree→LT→Option (LS)) (k:LS→Option R) (z59:LS):Option R:=
 f98.p4_e9' L N self98 k z59
def f98.b' {R:Type} (L N:Nat) (self98:Tree→LT→Option (LS)) (k:LS→Option R) (w0:Int→Int→Int→LT→LS→LS→LS→Option R) (w4:Int→Int→Int→LT→LS→LS→Option R) (x0:Tree) (x1:LT):Option R:=
 bif (x0.op==(1:Int)) then
  bif (decide (0≤(0:Int))&&decide ((0:Int)<(x0.parts.length:Int))) then
   bif (decide (([]:LS).length+([(Step.mk x0.n (Tree.mk ((listAt x0.parts (Ty.dflt (.st 1)) (0:Int).toNat).op) ((listAt x0.parts (Ty.dflt (.st 1)) (0:Int).toNat).n) ((listAt x0.parts (Ty.dflt (.st 1)) (0:Int).toNat).parts)))]:LS).length≤lim)) then
    k (([]:LS)++([(Step.mk x0.n (Tree.mk ((listAt x0.parts (Ty.dflt (.st 1)) (0:Int).toNat).op) ((listAt x0.parts (Ty.dflt (.st 1)) (0:Int).toNat).n) ((listAt x0.parts (Ty.dflt (.st 1)) (0:Int).toNat).parts)))]:LS))
   else none
  else none
 else bif (x0.op==(2:Int)) then
  bif (decide (0≤(0:Int))&&decide ((0:Int)<(x0.parts.length:Int))) then
   (self98 (listAt x0.parts (Ty.dflt (.st 1)) (0:Int).toNat) x1).bind fun y0=>
   bif (decide (0≤(1:Int))&&decide ((1:Int)<(x0.parts.length:Int))) then
    (self98 (listAt x0.parts (Ty.dflt (.st 1)) (1:Int).toNat) x1).bind fun y1=>
    bif (decide (y0.length+y1.length≤lim)) then
     k (y0++y1)
    else none
   else none
  else none
 else bif (x0.op==(3:Int)) then
  bif (decide (0≤(0:Int))&&decide ((0:Int)<(x0.parts.length:Int))) then
   (self98 (listAt x0.parts (Ty.dflt (.st 1)) (0:Int).toNat) x1).bind fun y2=>
   bif (decide (0≤(1:Int))&&decide ((1:Int)<(x0.parts.length:Int))) then
    (self98 (listAt x0.parts (Ty.dflt (.st 1)) (1:Int).toNat) x1).bind fun y3=>
    w0 (0:Int) x0.op x0.n x0.parts ([]:LS) y2 y3
   else none
  else none
 else bif (x0.op==(4:Int)) then
  bif (decide (0≤(0:Int))&&decide ((0:Int)<(x0.parts.length:Int))) then
   (self98 (listAt x0.parts (Ty.dflt (.st 1)) (0:Int).toNat) x1).bind fun y52=>
   w4 (0:Int) x0.op x0.n x0.parts ([]:LS) y52
  else none
 else bif (x0.op==(5:Int)) then
  bif (decide (0≤x0.n)&&decide (x0.n<(x1.length:Int))) then
   (self98 (listAt x1 (Ty.dflt (.st 1)) x0.n.toNat) x1).bind fun y74=>
   k y74
  else none
 else k ([]:LS)
def f98.b {R:Type} (L N:Nat) (self98:Tree→LT→Option (LS)) (k:LS→Option R) (x0:Tree) (x1:LT):Option R:=
 f98.b' L N self98 k (fun s4 s5 s6 s7 s8 s9 s10=>f98.l0 L N self98 (fun z11 z12 z13 z14 z15 z16=>f98.p0_e1 L N self98 k z11 z12 z13 z14 z15 z16) L s4 s5 s6 s7 s8 s9 s10) (fun s53 s54 s55 s56 s57 s58=>f98.l4 L N self98 (fun z59=>f98.p4_e9 L N self98 k z59) L s53 s54 s55 s56 s57 s58) x0 x1
def f98 (L N:Nat):Nat→Tree→LT→Option (LS)
 |0,_,_=>none
 |n+1,x0,x1=>f98.b L N (f98 L N n) some x0 x1
def f98.ent (L N m:Nat) (args:List AV) (vw:View) (site:Nat):Ans:=match coeD [(.st 1),(.sl (.st 1))] vw args with
 |some (d,u)=>⟨LS,f98 L N m d.1 d.2.1,fun y=>(.row site,u++[(site,some (.row 113 (.st 3) y))],[])⟩
 |none=>Ans.no
def Φ98s (L N m:Nat):Tells:=(addT (Φ135 L N) 98 (f98.ent L N m))
noncomputable def E98 (L N m:Nat):Env:={P:=Tryz.prog,ty:=tyOf,Φ:=Φ98s L N m,inl:=inlT,live:=lives,liveX:=livesX,L:=L,dp:=none,prom:=promT,heal:=healT,ren:=renT}
noncomputable def f98.c0:Code:=loopAt 1 (codeOf Tryz.f98)
def f98.X0_e1 {R:Type} (κ:KX R):=fun z11 z12 z13 z14 z15 z16=>κ (.exit 1) (f98.T0_e1 z11 z12 z13 z14 z15 z16) (f98.H0_e1 z11 z12 z13 z14 z15 z16)
def f98.R0 {R:Type} (rec:KT R):=fun s4 s5 s6 s7 s8 s9 s10=>rec (f98.T0 s4 s5 s6 s7 s8 s9 s10) (f98.H0 s4 s5 s6 s7 s8 s9 s10)
theorem f98.s0_eq {R:Type} (L N m:Nat) (κ:KX R) (rec:KT R) (s4:Int) (s5:Int) (s6:Int) (s7:LT) (s8:LS) (s9:LS) (s10:LS):
  evRd (E98 L N m) (evCallI (E98 L N m) 0 1000) 1000 98 217 1 f98.c0 κ rec (f98.T0 s4 s5 s6 s7 s8 s9 s10) (f98.H0 s4 s5 s6 s7 s8 s9 s10)
  =f98.s0 L N (f98 L N m) (f98.X0_e1 κ) (f98.R0 rec) s4 s5 s6 s7 s8 s9 s10:=by kernel_rfl
theorem f98.l0_eq {R:Type} (L N m:Nat) (κ:KX R):∀(n:Nat) (s4:Int) (s5:Int) (s6:Int) (s7:LT) (s8:LS) (s9:LS) (s10:LS),
  evLp (E98 L N m) (evCallI (E98 L N m) 0 1000) 1000 98 217 1 f98.c0 κ n (f98.T0 s4 s5 s6 s7 s8 s9 s10) (f98.H0 s4 s5 s6 s7 s8 s9 s10)
  =f98.l0 L N (f98 L N m) (f98.X0_e1 κ) n s4 s5 s6 s7 s8 s9 s10:=by
 intro n
 induction n with
 |zero=>intros;rfl
 |succ n ih=>
  intro s4 s5 s6 s7 s8 s9 s10
  rw [evLp_succ,f98.s0_eq]
  delta f98.R0
  simp only [ih]
  rfl
noncomputable def f98.c1:Code:=loopAt 3 (codeOf Tryz.f98)
def f98.X1_e3 {R:Type} (κ:KX R):=fun z24 z25 z26=>κ (.exit 3) (f98.T1_e3 z24 z25 z26) (f98.H1_e3 z24 z25 z26)
def f98.R1 {R:Type} (rec:KT R):=fun s17 s18 s19 s20 s21 s22 s23=>rec (f98.T1 s17 s18 s19 s20 s21 s22 s23) (f98.H1 s17 s18 s19 s20 s21 s22 s23)
theorem f98.s1_eq {R:Type} (L N m:Nat) (κ:KX R) (rec:KT R) (s17:Int) (s18:Int) (s19:Int) (s20:LT) (s21:LS) (s22:LS) (s23:LS):
  evRd (E98 L N m) (evCallI (E98 L N m) 0 1000) 1000 98 217 3 f98.c1 κ rec (f98.T1 s17 s18 s19 s20 s21 s22 s23) (f98.H1 s17 s18 s19 s20 s21 s22 s23)
  =f98.s1 L N (f98 L N m) (f98.X1_e3 κ) (f98.R1 rec) s17 s18 s19 s20 s21 s22 s23:=by kernel_rfl
theorem f98.l1_eq {R:Type} (L N m:Nat) (κ:KX R):∀(n:Nat) (s17:Int) (s18:Int) (s19:Int) (s20:LT) (s21:LS) (s22:LS) (s23:LS),
  evLp (E98 L N m) (evCallI (E98 L N m) 0 1000) 1000 98 217 3 f98.c1 κ n (f98.T1 s17 s18 s19 s20 s21 s22 s23) (f98.H1 s17 s18 s19 s20 s21 s22 s23)
  =f98.l1 L N (f98 L N m) (f98.X1_e3 κ) n s17 s18 s19 s20 s21 s22 s23:=by
 intro n
 induction n with
 |zero=>intros;rfl
 |succ n ih=>
  intro s17 s18 s19 s20 s21 s22 s23
  rw [evLp_succ,f98.s1_eq]
  delta f98.R1
  simp only [ih]
  rfl
noncomputable def f98.c2:Code:=loopAt 5 (codeOf Tryz.f98)
noncomputable def f98.c3:Code:=loopAt 7 f98.c2
def f98.X3_e7 {R:Type} (κ:KX R):=fun z37 z38 z39 z40=>κ (.exit 7) (f98.T3_e7 z37 z38 z39 z40) (f98.H3_e7 z37 z38 z39 z40)
def f98.R3 {R:Type} (rec:KT R):=fun s32 s33 s34 s35 s36=>rec (f98.T3 s32 s33 s34 s35 s36) (f98.H3 s32 s33 s34 s35 s36)
theorem f98.s3_eq {R:Type} (L N m:Nat) (κ:KX R) (rec:KT R) (s32:Int) (s33:Int) (s34:LS) (s35:LS) (s36:LS):
  evRd (E98 L N m) (evCallI (E98 L N m) 0 1000) 1000 98 217 7 f98.c3 κ rec (f98.T3 s32 s33 s34 s35 s36) (f98.H3 s32 s33 s34 s35 s36)
  =f98.s3 L N (f98 L N m) (f98.X3_e7 κ) (f98.R3 rec) s32 s33 s34 s35 s36:=by kernel_rfl
theorem f98.l3_eq {R:Type} (L N m:Nat) (κ:KX R):∀(n:Nat) (s32:Int) (s33:Int) (s34:LS) (s35:LS) (s36:LS),
  evLp (E98 L N m) (evCallI (E98 L N m) 0 1000) 1000 98 217 7 f98.c3 κ n (f98.T3 s32 s33 s34 s35 s36) (f98.H3 s32 s33 s34 s35 s36)
  =f98.l3 L N (f98 L N m) (f98.X3_e7 κ) n s32 s33 s34 s35 s36:=by
 intro n
 induction n with
 |zero=>intros;rfl
 |succ n ih=>
  intro s32 s33 s34 s35 s36
  rw [evLp_succ,f98.s3_eq]
  delta f98.R3
  simp only [ih]
  rfl
def f98.X2_e5 {R:Type} (κ:KX R):=fun z31=>κ (.exit 5) (f98.T2_e5 z31) (f98.H2_e5 z31)
def f98.R2 {R:Type} (rec:KT R):=fun s27 s28 s29 s30=>rec (f98.T2 s27 s28 s29 s30) (f98.H2 s27 s28 s29 s30)
theorem f98.p3_e7_eq {R:Type} (L N m:Nat) (κ:KX R) (rec:KT R) (z37:Int) (z38:LS) (z39:LS) (z40:LS):
  (contAt (E98 L N m) (evCallI (E98 L N m) 0 1000) 1000 98 217 7 f98.c2 (rdK (E98 L N m) 1000 98 217 5 κ rec)) (.exit 7) (f98.T3_e7 z37 z38 z39 z40) (f98.H3_e7 z37 z38 z39 z40)
  =f98.p3_e7 L N (f98 L N m) (f98.X2_e5 κ) (f98.R2 rec) z37 z38 z39 z40:=by kernel_rfl
theorem f98.s2_eq {R:Type} (L N m:Nat) (κ:KX R) (rec:KT R) (s27:Int) (s28:LS) (s29:LS) (s30:LS):
  evRd (E98 L N m) (evCallI (E98 L N m) 0 1000) 1000 98 217 5 f98.c2 κ rec (f98.T2 s27 s28 s29 s30) (f98.H2 s27 s28 s29 s30)
  =f98.s2 L N (f98 L N m) (f98.X2_e5 κ) (f98.R2 rec) s27 s28 s29 s30:=by
 refine Eq.trans (b:=f98.s2' L N (f98 L N m) (f98.X2_e5 κ) (f98.R2 rec) (fun s32 s33 s34 s35 s36=>evLp (E98 L N m) (evCallI (E98 L N m) 0 1000) 1000 98 217 7 f98.c3 (contAt (E98 L N m) (evCallI (E98 L N m) 0 1000) 1000 98 217 7 f98.c2 (rdK (E98 L N m) 1000 98 217 5 κ rec)) L (f98.T3 s32 s33 s34 s35 s36) (f98.H3 s32 s33 s34 s35 s36)) s27 s28 s29 s30) (by kernel_rfl) ?_
 unfold f98.s2
 simp only [f98.l3_eq]
 delta f98.X3_e7
 simp only [f98.p3_e7_eq]
theorem f98.l2_eq {R:Type} (L N m:Nat) (κ:KX R):∀(n:Nat) (s27:Int) (s28:LS) (s29:LS) (s30:LS),
  evLp (E98 L N m) (evCallI (E98 L N m) 0 1000) 1000 98 217 5 f98.c2 κ n (f98.T2 s27 s28 s29 s30) (f98.H2 s27 s28 s29 s30)
  =f98.l2 L N (f98 L N m) (f98.X2_e5 κ) n s27 s28 s29 s30:=by
 intro n
 induction n with
 |zero=>intros;rfl
 |succ n ih=>
  intro s27 s28 s29 s30
  rw [evLp_succ,f98.s2_eq]
  delta f98.R2
  simp only [ih]
  rfl
theorem f98.p2_e5_eq {R:Type} (L N m:Nat) (κ:List Step→Option R) (z31:LS):
  (contAt (E98 L N m) (evCallI (E98 L N m) 0 1000) 1000 98 217 5 (codeOf Tryz.f98) (finK (E98 L N m) 1000 Tryz.f98 (finRow 113 (.st 3) κ))) (.exit 5) (f98.T2_e5 z31) (f98.H2_e5 z31)
  =f98.p2_e5 L N (f98 L N m) κ z31:=by kernel_rfl
theorem f98.p1_e3_eq {R:Type} (L N m:Nat) (κ:List Step→Option R) (z24:LS) (z25:LS) (z26:LS):
  (contAt (E98 L N m) (evCallI (E98 L N m) 0 1000) 1000 98 217 3 (codeOf Tryz.f98) (finK (E98 L N m) 1000 Tryz.f98 (finRow 113 (.st 3) κ))) (.exit 3) (f98.T1_e3 z24 z25 z26) (f98.H1_e3 z24 z25 z26)
  =f98.p1_e3 L N (f98 L N m) κ z24 z25 z26:=by
 refine Eq.trans (b:=f98.p1_e3' L N (f98 L N m) κ (fun s27 s28 s29 s30=>evLp (E98 L N m) (evCallI (E98 L N m) 0 1000) 1000 98 217 5 f98.c2 (contAt (E98 L N m) (evCallI (E98 L N m) 0 1000) 1000 98 217 5 (codeOf Tryz.f98) (finK (E98 L N m) 1000 Tryz.f98 (finRow 113 (.st 3) κ))) L (f98.T2 s27 s28 s29 s30) (f98.H2 s27 s28 s29 s30)) z24 z25 z26) (by kernel_rfl) ?_
 unfold f98.p1_e3
 simp only [f98.l2_eq]
 delta f98.X2_e5
 simp only [f98.p2_e5_eq]
theorem f98.p0_e1_eq {R:Type} (L N m:Nat) (κ:List Step→Option R) (z11:Int) (z12:Int) (z13:LT) (z14:LS) (z15:LS) (z16:LS):
  (contAt (E98 L N m) (evCallI (E98 L N m) 0 1000) 1000 98 217 1 (codeOf Tryz.f98) (finK (E98 L N m) 1000 Tryz.f98 (finRow 113 (.st 3) κ))) (.exit 1) (f98.T0_e1 z11 z12 z13 z14 z15 z16) (f98.H0_e1 z11 z12 z13 z14 z15 z16)
  =f98.p0_e1 L N (f98 L N m) κ z11 z12 z13 z14 z15 z16:=by
 refine Eq.trans (b:=f98.p0_e1' L N (f98 L N m) κ (fun s17 s18 s19 s20 s21 s22 s23=>evLp (E98 L N m) (evCallI (E98 L N m) 0 1000) 1000 98 217 3 f98.c1 (contAt (E98 L N m) (evCallI (E98 L N m) 0 1000) 1000 98 217 3 (codeOf Tryz.f98) (finK (E98 L N m) 1000 Tryz.f98 (finRow 113 (.st 3) κ))) L (f98.T1 s17 s18 s19 s20 s21 s22 s23) (f98.H1 s17 s18 s19 s20 s21 s22 s23)) z11 z12 z13 z14 z15 z16) (by kernel_rfl) ?_
 unfold f98.p0_e1
 simp only [f98.l1_eq]
 delta f98.X1_e3
 simp only [f98.p1_e3_eq]
noncomputable def f98.c4:Code:=loopAt 9 (codeOf Tryz.f98)
def f98.X4_e9 {R:Type} (κ:KX R):=fun z59=>κ (.exit 9) (f98.T4_e9 z59) (f98.H4_e9 z59)
def f98.R4 {R:Type} (rec:KT R):=fun s53 s54 s55 s56 s57 s58=>rec (f98.T4 s53 s54 s55 s56 s57 s58) (f98.H4 s53 s54 s55 s56 s57 s58)
theorem f98.s4_eq {R:Type} (L N m:Nat) (κ:KX R) (rec:KT R) (s53:Int) (s54:Int) (s55:Int) (s56:LT) (s57:LS) (s58:LS):
  evRd (E98 L N m) (evCallI (E98 L N m) 0 1000) 1000 98 217 9 f98.c4 κ rec (f98.T4 s53 s54 s55 s56 s57 s58) (f98.H4 s53 s54 s55 s56 s57 s58)
  =f98.s4 L N (f98 L N m) (f98.X4_e9 κ) (f98.R4 rec) s53 s54 s55 s56 s57 s58:=by kernel_rfl
theorem f98.l4_eq {R:Type} (L N m:Nat) (κ:KX R):∀(n:Nat) (s53:Int) (s54:Int) (s55:Int) (s56:LT) (s57:LS) (s58:LS),
  evLp (E98 L N m) (evCallI (E98 L N m) 0 1000) 1000 98 217 9 f98.c4 κ n (f98.T4 s53 s54 s55 s56 s57 s58) (f98.H4 s53 s54 s55 s56 s57 s58)
  =f98.l4 L N (f98 L N m) (f98.X4_e9 κ) n s53 s54 s55 s56 s57 s58:=by
 intro n
 induction n with
 |zero=>intros;rfl
 |succ n ih=>
  intro s53 s54 s55 s56 s57 s58
  rw [evLp_succ,f98.s4_eq]
  delta f98.R4
  simp only [ih]
  rfl
theorem f98.p4_e9_eq {R:Type} (L N m:Nat) (κ:List Step→Option R) (z59:LS):
  (contAt (E98 L N m) (evCallI (E98 L N m) 0 1000) 1000 98 217 9 (codeOf Tryz.f98) (finK (E98 L N m) 1000 Tryz.f98 (finRow 113 (.st 3) κ))) (.exit 9) (f98.T4_e9 z59) (f98.H4_e9 z59)
  =f98.p4_e9 L N (f98 L N m) κ z59:=by kernel_rfl
theorem f98.b_eq {R:Type} (L N m:Nat) (κ:List Step→Option R) (x0:Tree) (x1:LT):
  evBody (E98 L N m) (evCallI (E98 L N m) 0 1000) 1000 98 Tryz.f98 [(.tv (.st 1) x0),(.tv (.sl (.st 1)) x1)] [] [] (finRow 113 (.st 3) κ)
  =f98.b L N (f98 L N m) κ x0 x1:=by
 refine Eq.trans (b:=f98.b' L N (f98 L N m) κ (fun s4 s5 s6 s7 s8 s9 s10=>evLp (E98 L N m) (evCallI (E98 L N m) 0 1000) 1000 98 217 1 f98.c0 (contAt (E98 L N m) (evCallI (E98 L N m) 0 1000) 1000 98 217 1 (codeOf Tryz.f98) (finK (E98 L N m) 1000 Tryz.f98 (finRow 113 (.st 3) κ))) L (f98.T0 s4 s5 s6 s7 s8 s9 s10) (f98.H0 s4 s5 s6 s7 s8 s9 s10)) (fun s53 s54 s55 s56 s57 s58=>evLp (E98 L N m) (evCallI (E98 L N m) 0 1000) 1000 98 217 9 f98.c4 (contAt (E98 L N m) (evCallI (E98 L N m) 0 1000) 1000 98 217 9 (codeOf Tryz.f98) (finK (E98 L N m) 1000 Tryz.f98 (finRow 113 (.st 3) κ))) L (f98.T4 s53 s54 s55 s56 s57 s58) (f98.H4 s53 s54 s55 s56 s57 s58)) x0 x1) (by kernel_rfl) ?_
 unfold f98.b
 simp only [f98.l0_eq,f98.l4_eq]
 delta f98.X0_e1 f98.X4_e9
 simp only [f98.p0_e1_eq,f98.p4_e9_eq]
theorem f98.ok (L N m:Nat) (hΦ:TellsOk Tryz.prog (Φ98s L N m)):EntOk Tryz.prog 98 (f98.ent L N (m+1)):=by
 intro args vw site h
 unfold f98.ent
 split
 ·rename_i d u ha
  intro y hy hs
  refine call_row (dep:=1000) (E:=(E98 L N m)) (sound_of hΦ) okP (callI_sound (sound_of hΦ) okP 0 1000) (f:=Tryz.f98) rfl hs ha ?_ site
  exact (f98.b_eq L N m some d.1 d.2.1).trans hy
 ·intro y hy
  cases hy
theorem Φ98s_ok (L N:Nat):∀m,TellsOk Tryz.prog (Φ98s L N m):=by
 intro m
 induction m with
 |zero=>exact (addT_ok (Φ135_ok L N) (fun args vw site h=>by unfold f98.ent;split<;>(intro y hy;cases hy)))
 |succ m ih=>exact (addT_ok (Φ135_ok L N) (f98.ok L N m ih))
def Φ98 (L N:Nat):Tells:=(addT (Φ135 L N) 98 (f98.ent L N N))
theorem Φ98_ok (L N:Nat):TellsOk Tryz.prog (Φ98 L N):=Φ98s_ok L N N
def f100.s0' {R:Type} (L N:Nat) (k0_e0:Int→Int→Int→Int→LT→Option R) (rec0:LT→Int→Int→Int→Int→Int→LT→Option R) (s0:LT) (s1:Int) (s2:Int) (s3:Int) (s4:Int) (s5:Int) (s6:LT):Option R:=
 bif (decide (s1≥(0:Int))) then
  bif (decide (0≤s1)&&decide (s1<(s0.length:Int))) then
   rec0 s0 (wi (s1-(1:Int))) s2 s3 ((Tree.mk (2:Int) (0:Int) ([(listAt s0 (Ty.dflt (.st 1)) s1.toNat),(Tree.mk s4 s5 s6)]:LT)).op) ((Tree.mk (2:Int) (0:Int) ([(listAt s0 (Ty.dflt (.st 1)) s1.toNat),(Tree.mk s4 s5 s6)]:LT)).n) ((Tree.mk (2:Int) (0:Int) ([(listAt s0 (Ty.dflt (.st 1)) s1.toNat),(Tree.mk s4 s5 s6)]:LT)).parts)
  else none
 else k0_e0 s2 s3 s4 s5 s6
def f100.s0 {R:Type} (L N:Nat) (k0_e0:Int→Int→Int→Int→LT→Option R) (rec0:LT→Int→Int→Int→Int→Int→LT→Option R) (s0:LT) (s1:Int) (s2:Int) (s3:Int) (s4:Int) (s5:Int) (s6:LT):Option R:=
 f100.s0' L N k0_e0 rec0 s0 s1 s2 s3 s4 s5 s6
def f100.l0 {R:Type} (L N:Nat) (k0_e0:Int→Int→Int→Int→LT→Option R):Nat→LT→Int→Int→Int→Int→Int→LT→Option R
 |0,_,_,_,_,_,_,_=>none
 |n+1,s0,s1,s2,s3,s4,s5,s6=>f100.s0 L N k0_e0 (f100.l0 L N k0_e0 n) s0 s1 s2 s3 s4 s5 s6
def f100.T0 (s0:LT) (s1:Int) (s2:Int) (s3:Int) (s4:Int) (s5:Int) (s6:LT):T:=mkT 30 [(0,(.tv (.sl (.st 1)) s0)),(2,(.ptr 1002 0)),(3,(.ptr 1003 0)),(4,(.tv i64 s1))]
def f100.H0 (s0:LT) (s1:Int) (s2:Int) (s3:Int) (s4:Int) (s5:Int) (s6:LT):H:=[(1002,(.box [(.tv i64 s2),(.tv i64 s3),.nil])),(1003,(.box [(.tv i64 s4),(.tv i64 s5),(.tv (.sl (.st 1)) s6)]))]
def f100.T0_e0 (z7:Int) (z8:Int) (z9:Int) (z10:Int) (z11:LT):T:=mkT 30 [(2,(.ptr 1002 0)),(3,(.ptr 1003 0))]
def f100.H0_e0 (z7:Int) (z8:Int) (z9:Int) (z10:Int) (z11:LT):H:=[(1002,(.box [(.tv i64 z7),(.tv i64 z8),.nil])),(1003,(.box [(.tv i64 z9),(.tv i64 z10),(.tv (.sl (.st 1)) z11)]))]
def f100.p0_e0' {R:Type} (L N:Nat) (k:Tree→Option R) (z7:Int) (z8:Int) (z9:Int) (z10:Int) (z11:LT):Option R:=
 k (Tree.mk ((Tree.mk z9 z10 z11).op) ((Tree.mk z9 z10 z11).n) ((Tree.mk z9 z10 z11).parts))
def f100.p0_e0 {R:Type} (L N:Nat) (k:Tree→Option R) (z7:Int) (z8:Int) (z9:Int) (z10:Int) (z11:LT):Option R:=
 f100.p0_e0' L N k z7 z8 z9 z10 z11
def f100.b' {R:Type} (L N:Nat) (k:Tree→Option R) (w0:LT→Int→Int→Int→Int→Int→LT→Option R) (x0:LT):Option R:=
 bif ((x0.length:Int)==(0:Int)) then
  k (Tree.mk ((Tree.mk (0:Int) (0:Int) []).op) ((Tree.mk (0:Int) (0:Int) []).n) ((Tree.mk (0:Int) (0:Int) []).parts))
 else bif (decide (0≤(wi ((x0.length:Int)-(1:Int))))&&decide ((wi ((x0.length:Int)-(1:Int)))<(x0.length:Int))) then
  w0 x0 (wi ((x0.length:Int)-(2:Int))) (0:Int) (0:Int) ((listAt x0 (Ty.dflt (.st 1)) (wi ((x0.length:Int)-(1:Int))).toNat).op) ((listAt x0 (Ty.dflt (.st 1)) (wi ((x0.length:Int)-(1:Int))).toNat).n) ((listAt x0 (Ty.dflt (.st 1)) (wi ((x0.length:Int)-(1:Int))).toNat).parts)
 else none
def f100.b {R:Type} (L N:Nat) (k:Tree→Option R) (x0:LT):Option R:=
 f100.b' L N k (fun s0 s1 s2 s3 s4 s5 s6=>f100.l0 L N (fun z7 z8 z9 z10 z11=>f100.p0_e0 L N k z7 z8 z9 z10 z11) L s0 s1 s2 s3 s4 s5 s6) x0
def f100 (L N:Nat) (x0:LT):Option (Tree):=f100.b L N some x0
def f100.ent (L N:Nat):=entDa [(.sl (.st 1))] (.one (.st 1)) fun d=>f100 L N d.1
noncomputable def E100 (L N:Nat):Env:={P:=Tryz.prog,ty:=tyOf,Φ:=(Φ98 L N),inl:=inlT,live:=lives,liveX:=livesX,L:=L,dp:=none,prom:=promT,heal:=healT,ren:=renT,zd:=true}
noncomputable def f100.c0:Code:=loopAt 0 (codeOf Tryz.f100)
def f100.X0_e0 {R:Type} (κ:KX R):=fun z7 z8 z9 z10 z11=>κ (.exit 0) (f100.T0_e0 z7 z8 z9 z10 z11) (f100.H0_e0 z7 z8 z9 z10 z11)
def f100.R0 {R:Type} (rec:KT R):=fun s0 s1 s2 s3 s4 s5 s6=>rec (f100.T0 s0 s1 s2 s3 s4 s5 s6) (f100.H0 s0 s1 s2 s3 s4 s5 s6)
theorem f100.s0_eq {R:Type} (L N:Nat) (κ:KX R) (rec:KT R) (s0:LT) (s1:Int) (s2:Int) (s3:Int) (s4:Int) (s5:Int) (s6:LT):
  evRd (E100 L N) (evCallI (E100 L N) 0 1000) 1000 100 30 0 f100.c0 κ rec (f100.T0 s0 s1 s2 s3 s4 s5 s6) (f100.H0 s0 s1 s2 s3 s4 s5 s6)
  =f100.s0 L N (f100.X0_e0 κ) (f100.R0 rec) s0 s1 s2 s3 s4 s5 s6:=by kernel_rfl
theorem f100.l0_eq {R:Type} (L N:Nat) (κ:KX R):∀(n:Nat) (s0:LT) (s1:Int) (s2:Int) (s3:Int) (s4:Int) (s5:Int) (s6:LT),
  evLp (E100 L N) (evCallI (E100 L N) 0 1000) 1000 100 30 0 f100.c0 κ n (f100.T0 s0 s1 s2 s3 s4 s5 s6) (f100.H0 s0 s1 s2 s3 s4 s5 s6)
  =f100.l0 L N (f100.X0_e0 κ) n s0 s1 s2 s3 s4 s5 s6:=by
 intro n
 induction n with
 |zero=>intros;rfl
 |succ n ih=>
  intro s0 s1 s2 s3 s4 s5 s6
  rw [evLp_succ,f100.s0_eq]
  delta f100.R0
  simp only [ih]
  rfl
theorem f100.p0_e0_eq {R:Type} (L N:Nat) (κ:AV→Option R) (z7:Int) (z8:Int) (z9:Int) (z10:Int) (z11:LT):
  (contAt (E100 L N) (evCallI (E100 L N) 0 1000) 1000 100 30 0 (codeOf Tryz.f100) (finK (E100 L N) 1000 Tryz.f100 (finC (.one (.st 1)) κ))) (.exit 0) (f100.T0_e0 z7 z8 z9 z10 z11) (f100.H0_e0 z7 z8 z9 z10 z11)
  =f100.p0_e0 L N (fun a0=>κ (.tv (.st 1) a0)) z7 z8 z9 z10 z11:=by kernel_rfl
theorem f100.b_eq {R:Type} (L N:Nat) (κ:AV→Option R) (x0:LT):
  evBody (E100 L N) (evCallI (E100 L N) 0 1000) 1000 100 Tryz.f100 [(.tv (.sl (.st 1)) x0)] [] [] (finC (.one (.st 1)) κ)
  =f100.b L N (fun a0=>κ (.tv (.st 1) a0)) x0:=by
 refine Eq.trans (b:=f100.b' L N (fun a0=>κ (.tv (.st 1) a0)) (fun s0 s1 s2 s3 s4 s5 s6=>evLp (E100 L N) (evCallI (E100 L N) 0 1000) 1000 100 30 0 f100.c0 (contAt (E100 L N) (evCallI (E100 L N) 0 1000) 1000 100 30 0 (codeOf Tryz.f100) (finK (E100 L N) 1000 Tryz.f100 (finC (.one (.st 1)) κ))) L (f100.T0 s0 s1 s2 s3 s4 s5 s6) (f100.H0 s0 s1 s2 s3 s4 s5 s6)) x0) (by kernel_rfl) ?_
 unfold f100.b
 simp only [f100.l0_eq]
 delta f100.X0_e0
 simp only [f100.p0_e0_eq]
theorem f100.ok (L N:Nat) (hΦ:TellsOk Tryz.prog ((Φ98 L N))):EntOk Tryz.prog 100 (f100.ent L N):=entDa_ok (E:=(E100 L N)) (dep:=1000) (f:=Tryz.f100) (sound_of hΦ) okP (callI_sound (sound_of hΦ) okP 0 1000) rfl fun d _ hy=>(f100.b_eq L N (unR (.one (.st 1))) d.1).trans (Eq.trans (b:=f100.b L N some d.1) (by kernel_rfl) hy)
def Φ100 (L N:Nat):Tells:=(addT (Φ98 L N) 100 (f100.ent L N))
theorem Φ100_ok (L N:Nat):TellsOk Tryz.prog (Φ100 L N):=addT_ok (Φ98_ok L N) (f100.ok L N (Φ98_ok L N))
def f136.b' {R:Type} (L N:Nat) (self136:Int→Option (ByteArray)) (k:ByteArray→Option R) (x0:Int):Option R:=
 bif (decide (x0<(-9223372036854775807:Int))) then
  k (ByteArray.mk #[45,57,50,50,51,51,55,50,48,51,54,56,53,52,55,55,53,56,48,56])
 else bif (decide (x0<(0:Int))) then
  (self136 (wi (0-x0))).bind fun y0=>
  bif (decide ((ByteArray.mk #[45]).size+y0.size≤4611686018427387904)) then
   k ((ByteArray.mk #[45])++y0)
  else none
 else bif (decide (x0<(10:Int))) then
  k (strOfNums ([(IntKind.wrap .u8 ((wi ((48:Int)+x0))))]:LI))
 else bif (decide ((10:Int)=0)) then
  none
 else (self136 (wi (Int.tdiv x0 (10:Int)))).bind fun y1=>
 bif (decide ((10:Int)=0)) then
  none
 else bif (decide (y1.size+(strOfNums ([(IntKind.wrap .u8 ((wi ((48:Int)+(Int.tmod x0 (10:Int))))))]:LI)).size≤4611686018427387904)) then
  k (y1++(strOfNums ([(IntKind.wrap .u8 ((wi ((48:Int)+(Int.tmod x0 (10:Int))))))]:LI)))
 else none
def f136.b {R:Type} (L N:Nat) (self136:Int→Option (ByteArray)) (k:ByteArray→Option R) (x0:Int):Option R:=
 f136.b' L N self136 k x0
def f136 (L N:Nat):Nat→Int→Option (ByteArray)
 |0,_=>none
 |n+1,x0=>f136.b L N (f136 L N n) some x0
def f136.ent (L N m:Nat):=entRo [i64] (.one .str) fun d=>f136 L N m d.1
def Φ136s (L N m:Nat):Tells:=(addT (Φ100 L N) 136 (f136.ent L N m))
noncomputable def E136 (L N m:Nat):Env:={P:=Tryz.prog,ty:=tyOf,Φ:=Φ136s L N m,inl:=inlT,live:=lives,liveX:=livesX,L:=L,dp:=none,prom:=promT,heal:=healT,ren:=renT}
theorem f136.b_eq {R:Type} (L N m:Nat) (κ:AV→Option R) (x0:Int):
  evBody (E136 L N m) (evCallI (E136 L N m) 0 1000) 1000 136 Tryz.f136 [(.tv i64 x0)] [] [] (finC (.one .str) κ)
  =f136.b L N (f136 L N m) (fun a0=>κ (.tv .str a0)) x0:=by kernel_rfl
theorem f136.ok (L N m:Nat) (hΦ:TellsOk Tryz.prog (Φ136s L N m)):EntOk Tryz.prog 136 (f136.ent L N (m+1)):=entRo_ok (E:=(E136 L N m)) (dep:=1000) (f:=Tryz.f136) (sound_of hΦ) okP (callI_sound (sound_of hΦ) okP 0 1000) rfl rfl fun d _ hy=>(f136.b_eq L N m (unR (.one .str)) d.1).trans (Eq.trans (b:=f136.b L N (f136 L N m) some d.1) (by kernel_rfl) hy)
theorem Φ136s_ok (L N:Nat):∀m,TellsOk Tryz.prog (Φ136s L N m):=by
 intro m
 induction m with
 |zero=>exact (addT_ok (Φ100_ok L N) (entRo_no fun _=>rfl))
 |succ m ih=>exact (addT_ok (Φ100_ok L N) (f136.ok L N m ih))
def Φ136 (L N:Nat):Tells:=(addT (Φ100 L N) 136 (f136.ent L N N))
theorem Φ136_ok (L N:Nat):TellsOk Tryz.prog (Φ136 L N):=Φ136s_ok L N N
def f137.b' {R:Type} (L N:Nat) (k:LY→Option R):Option R:=
 k ([(ByteArray.mk #[]),(ByteArray.mk #[97,99,116]),(ByteArray.mk #[115,117,109]),(ByteArray.mk #[112,97,114]),(ByteArray.mk #[104,105,100,101])]:LY)
def f137.b {R:Type} (L N:Nat) (k:LY→Option R):Option R:=
 f137.b' L N k
def f137 (L N:Nat):Option (LY):=f137.b L N some
def f137.ent (L N:Nat):=entDa [] (.one (.sl .str)) fun d=>f137 L N
noncomputable def E137 (L N:Nat):Env:={P:=Tryz.prog,ty:=tyOf,Φ:=(Φ136 L N),inl:=inlT,live:=lives,liveX:=livesX,L:=L,dp:=none,prom:=promT,heal:=healT,ren:=renT}
theorem f137.b_eq {R:Type} (L N:Nat) (κ:AV→Option R):
  evBody (E137 L N) (evCallI (E137 L N) 0 1000) 1000 137 Tryz.f137 [] [] [] (finC (.one (.sl .str)) κ)
  =f137.b L N (fun a0=>κ (.tv (.sl .str) a0)):=by kernel_rfl
theorem f137.ok (L N:Nat) (hΦ:TellsOk Tryz.prog ((Φ136 L N))):EntOk Tryz.prog 137 (f137.ent L N):=entDa_ok (E:=(E137 L N)) (dep:=1000) (f:=Tryz.f137) (sound_of hΦ) okP (callI_sound (sound_of hΦ) okP 0 1000) rfl fun _ _ hy=>(f137.b_eq L N (unR (.one (.sl .str)))).trans (Eq.trans (b:=f137.b L N some) (by kernel_rfl) hy)
def Φ137 (L N:Nat):Tells:=(addT (Φ136 L N) 137 (f137.ent L N))
theorem Φ137_ok (L N:Nat):TellsOk Tryz.prog (Φ137 L N):=addT_ok (Φ136_ok L N) (f137.ok L N (Φ136_ok L N))
def f138.b' {R:Type} (L N:Nat) (k:ByteArray→Option R) (x0:Int):Option R:=
 bif (x0==(0:Int)) then
  k (ByteArray.mk #[116,97,117])
 else bif (decide (x0<(0:Int))) then
  (f135 L N x0).bind fun y0=>
  (f135 L N x0).bind fun y1=>
  bif (slB y0 (wi (y1+(1:Int))) (ByteArray.mk #[97,98,99,100]).size) then
   bif (decide ((ByteArray.mk #[33]).size+((ByteArray.mk #[97,98,99,100]).extract y0.toNat (wi (y1+(1:Int))).toNat).size≤4611686018427387904)) then
    k ((ByteArray.mk #[33])++((ByteArray.mk #[97,98,99,100]).extract y0.toNat (wi (y1+(1:Int))).toNat))
   else none
  else none
 else (f135 L N x0).bind fun y2=>
 (f135 L N x0).bind fun y3=>
 bif (slB y2 (wi (y3+(1:Int))) (ByteArray.mk #[97,98,99,100]).size) then
  k ((ByteArray.mk #[97,98,99,100]).extract y2.toNat (wi (y3+(1:Int))).toNat)
 else none
def f138.b {R:Type} (L N:Nat) (k:ByteArray→Option R) (x0:Int):Option R:=
 f138.b' L N k x0
def f138 (L N:Nat) (x0:Int):Option (ByteArray):=f138.b L N some x0
def f138.ent (L N:Nat):=entRo [i64] (.one .str) fun d=>f138 L N d.1
noncomputable def E138 (L N:Nat):Env:={P:=Tryz.prog,ty:=tyOf,Φ:=(Φ137 L N),inl:=inlT,live:=lives,liveX:=livesX,L:=L,dp:=none,prom:=promT,heal:=healT,ren:=renT}
theorem f138.b_eq {R:Type} (L N:Nat) (κ:AV→Option R) (x0:Int):
  evBody (E138 L N) (evCallI (E138 L N) 0 1000) 1000 138 Tryz.f138 [(.tv i64 x0)] [] [] (finC (.one .str) κ)
  =f138.b L N (fun a0=>κ (.tv .str a0)) x0:=by kernel_rfl
theorem f138.ok (L N:Nat) (hΦ:TellsOk Tryz.prog ((Φ137 L N))):EntOk Tryz.prog 138 (f138.ent L N):=entRo_ok (E:=(E138 L N)) (dep:=1000) (f:=Tryz.f138) (sound_of hΦ) okP (callI_sound (sound_of hΦ) okP 0 1000) rfl rfl fun d _ hy=>(f138.b_eq L N (unR (.one .str)) d.1).trans (Eq.trans (b:=f138.b L N some d.1) (by kernel_rfl) hy)
def Φ138 (L N:Nat):Tells:=(addT (Φ137 L N) 138 (f138.ent L N))
theorem Φ138_ok (L N:Nat):TellsOk Tryz.prog (Φ138 L N):=addT_ok (Φ137_ok L N) (f138.ok L N (Φ137_ok L N))
def f99.s0' {R:Type} (L N:Nat) (self99:Tree→Option (ByteArray)) (k0_e1:ByteArray→Option R) (rec0:ByteArray→Int→Int→Int→LT→Option R) (s12:ByteArray) (s13:Int) (s14:Int) (s15:Int) (s16:LT):Option R:=
 bif (decide (s13<(s16.length:Int))) then
  bif (decide (s12.size+(ByteArray.mk #[32]).size≤4611686018427387904)) then
   bif (decide (0≤s13)&&decide (s13<(s16.length:Int))) then
    (self99 (listAt s16 (Ty.dflt (.st 1)) s13.toNat)).bind fun y18=>
    bif (decide ((s12++(ByteArray.mk #[32])).size+y18.size≤4611686018427387904)) then
     rec0 ((s12++(ByteArray.mk #[32]))++y18) (wi (s13+(1:Int))) s14 s15 s16
    else none
   else none
  else none
 else k0_e1 s12
def f99.s0 {R:Type} (L N:Nat) (self99:Tree→Option (ByteArray)) (k0_e1:ByteArray→Option R) (rec0:ByteArray→Int→Int→Int→LT→Option R) (s12:ByteArray) (s13:Int) (s14:Int) (s15:Int) (s16:LT):Option R:=
 f99.s0' L N self99 k0_e1 rec0 s12 s13 s14 s15 s16
def f99.l0 {R:Type} (L N:Nat) (self99:Tree→Option (ByteArray)) (k0_e1:ByteArray→Option R):Nat→ByteArray→Int→Int→Int→LT→Option R
 |0,_,_,_,_,_=>none
 |n+1,s12,s13,s14,s15,s16=>f99.s0 L N self99 k0_e1 (f99.l0 L N self99 k0_e1 n) s12 s13 s14 s15 s16
def f99.T0 (s12:ByteArray) (s13:Int) (s14:Int) (s15:Int) (s16:LT):T:=mkT 58 [(1,(.ptr 1001 0)),(3,(.tv .str s12)),(4,(.tv i64 s13))]
def f99.H0 (s12:ByteArray) (s13:Int) (s14:Int) (s15:Int) (s16:LT):H:=[(1001,(.box [(.tv i64 s14),(.tv i64 s15),(.tv (.sl (.st 1)) s16)]))]
def f99.T0_e1 (z17:ByteArray):T:=mkT 58 [(3,(.tv .str z17))]
def f99.H0_e1 (z17:ByteArray):H:=[]
def f99.p0_e1' {R:Type} (L N:Nat) (self99:Tree→Option (ByteArray)) (k:ByteArray→Option R) (z17:ByteArray):Option R:=
 bif (decide (z17.size+(ByteArray.mk #[41]).size≤4611686018427387904)) then
  k (z17++(ByteArray.mk #[41]))
 else none
def f99.p0_e1 {R:Type} (L N:Nat) (self99:Tree→Option (ByteArray)) (k:ByteArray→Option R) (z17:ByteArray):Option R:=
 f99.p0_e1' L N self99 k z17
def f99.j0' {R:Type} (L N:Nat) (self99:Tree→Option (ByteArray)) (k:ByteArray→Option R) (w0:ByteArray→Int→Int→Int→LT→Option R) (v8:ByteArray) (v9:Int) (v10:Int) (v11:LT):Option R:=
 w0 v8 (0:Int) v9 v10 v11
def f99.j1' {R:Type} (L N:Nat) (self99:Tree→Option (ByteArray)) (k:ByteArray→Option R) (w0:ByteArray→Int→Int→Int→LT→Option R) (v3:ByteArray) (v4:Int) (v5:Int) (v6:LT):Option R:=
 bif (v4==(4:Int)) then
  bif (decide (v3.size+(ByteArray.mk #[32]).size≤4611686018427387904)) then
   (f138 L N (wi (v5+(1:Int)))).bind fun y7=>
   bif (decide ((v3++(ByteArray.mk #[32])).size+y7.size≤4611686018427387904)) then
    f99.j0' L N self99 k w0 ((v3++(ByteArray.mk #[32]))++y7) v4 v5 v6
   else none
  else none
 else f99.j0' L N self99 k w0 v3 v4 v5 v6
def f99.b' {R:Type} (L N:Nat) (self99:Tree→Option (ByteArray)) (k:ByteArray→Option R) (w0:ByteArray→Int→Int→Int→LT→Option R) (x0:Tree):Option R:=
 bif (x0.op==(0:Int)) then
  k (ByteArray.mk #[48])
 else bif (x0.op==(5:Int)) then
  (f136 L N N x0.n).bind fun y0=>
  bif (decide ((ByteArray.mk #[88]).size+y0.size≤4611686018427387904)) then
   k ((ByteArray.mk #[88])++y0)
  else none
 else (f137 L N).bind fun y1=>
 bif (decide (0≤x0.op)&&decide (x0.op<(y1.length:Int))) then
  bif (decide ((ByteArray.mk #[40]).size+(listAt y1 ByteArray.empty x0.op.toNat).size≤4611686018427387904)) then
   bif (x0.op==(1:Int)) then
    bif (decide (((ByteArray.mk #[40])++(listAt y1 ByteArray.empty x0.op.toNat)).size+(ByteArray.mk #[32]).size≤4611686018427387904)) then
     (f138 L N x0.n).bind fun y2=>
     bif (decide ((((ByteArray.mk #[40])++(listAt y1 ByteArray.empty x0.op.toNat))++(ByteArray.mk #[32])).size+y2.size≤4611686018427387904)) then
      f99.j1' L N self99 k w0 ((((ByteArray.mk #[40])++(listAt y1 ByteArray.empty x0.op.toNat))++(ByteArray.mk #[32]))++y2) x0.op x0.n x0.parts
     else none
    else none
   else f99.j1' L N self99 k w0 ((ByteArray.mk #[40])++(listAt y1 ByteArray.empty x0.op.toNat)) x0.op x0.n x0.parts
  else none
 else none
def f99.b {R:Type} (L N:Nat) (self99:Tree→Option (ByteArray)) (k:ByteArray→Option R) (x0:Tree):Option R:=
 f99.b' L N self99 k (fun s12 s13 s14 s15 s16=>f99.l0 L N self99 (fun z17=>f99.p0_e1 L N self99 k z17) L s12 s13 s14 s15 s16) x0
def f99 (L N:Nat):Nat→Tree→Option (ByteArray)
 |0,_=>none
 |n+1,x0=>f99.b L N (f99 L N n) some x0
def f99.ent (L N m:Nat):=entRo [(.st 1)] (.one .str) fun d=>f99 L N m d.1
def Φ99s (L N m:Nat):Tells:=(addT (Φ138 L N) 99 (f99.ent L N m))
noncomputable def E99 (L N m:Nat):Env:={P:=Tryz.prog,ty:=tyOf,Φ:=Φ99s L N m,inl:=inlT,live:=lives,liveX:=livesX,L:=L,dp:=none,prom:=promT,heal:=healT,ren:=renT}
noncomputable def f99.c0:Code:=loopAt 1 (codeOf Tryz.f99)
def f99.X0_e1 {R:Type} (κ:KX R):=fun z17=>κ (.exit 1) (f99.T0_e1 z17) (f99.H0_e1 z17)
def f99.R0 {R:Type} (rec:KT R):=fun s12 s13 s14 s15 s16=>rec (f99.T0 s12 s13 s14 s15 s16) (f99.H0 s12 s13 s14 s15 s16)
theorem f99.s0_eq {R:Type} (L N m:Nat) (κ:KX R) (rec:KT R) (s12:ByteArray) (s13:Int) (s14:Int) (s15:Int) (s16:LT):
  evRd (E99 L N m) (evCallI (E99 L N m) 0 1000) 1000 99 58 1 f99.c0 κ rec (f99.T0 s12 s13 s14 s15 s16) (f99.H0 s12 s13 s14 s15 s16)
  =f99.s0 L N (f99 L N m) (f99.X0_e1 κ) (f99.R0 rec) s12 s13 s14 s15 s16:=by kernel_rfl
theorem f99.l0_eq {R:Type} (L N m:Nat) (κ:KX R):∀(n:Nat) (s12:ByteArray) (s13:Int) (s14:Int) (s15:Int) (s16:LT),
  evLp (E99 L N m) (evCallI (E99 L N m) 0 1000) 1000 99 58 1 f99.c0 κ n (f99.T0 s12 s13 s14 s15 s16) (f99.H0 s12 s13 s14 s15 s16)
  =f99.l0 L N (f99 L N m) (f99.X0_e1 κ) n s12 s13 s14 s15 s16:=by
 intro n
 induction n with
 |zero=>intros;rfl
 |succ n ih=>
  intro s12 s13 s14 s15 s16
  rw [evLp_succ,f99.s0_eq]
  delta f99.R0
  simp only [ih]
  rfl
theorem f99.p0_e1_eq {R:Type} (L N m:Nat) (κ:AV→Option R) (z17:ByteArray):
  (contAt (E99 L N m) (evCallI (E99 L N m) 0 1000) 1000 99 58 1 (codeOf Tryz.f99) (finK (E99 L N m) 1000 Tryz.f99 (finC (.one .str) κ))) (.exit 1) (f99.T0_e1 z17) (f99.H0_e1 z17)
  =f99.p0_e1 L N (f99 L N m) (fun a0=>κ (.tv .str a0)) z17:=by kernel_rfl
theorem f99.b_eq {R:Type} (L N m:Nat) (κ:AV→Option R) (x0:Tree):
  evBody (E99 L N m) (evCallI (E99 L N m) 0 1000) 1000 99 Tryz.f99 [(.tv (.st 1) x0)] [] [] (finC (.one .str) κ)
  =f99.b L N (f99 L N m) (fun a0=>κ (.tv .str a0)) x0:=by
 refine Eq.trans (b:=f99.b' L N (f99 L N m) (fun a0=>κ (.tv .str a0)) (fun s12 s13 s14 s15 s16=>evLp (E99 L N m) (evCallI (E99 L N m) 0 1000) 1000 99 58 1 f99.c0 (contAt (E99 L N m) (evCallI (E99 L N m) 0 1000) 1000 99 58 1 (codeOf Tryz.f99) (finK (E99 L N m) 1000 Tryz.f99 (finC (.one .str) κ))) L (f99.T0 s12 s13 s14 s15 s16) (f99.H0 s12 s13 s14 s15 s16)) x0) (by kernel_rfl) ?_
 unfold f99.b
 simp only [f99.l0_eq]
 delta f99.X0_e1
 simp only [f99.p0_e1_eq]
theorem f99.ok (L N m:Nat) (hΦ:TellsOk Tryz.prog (Φ99s L N m)):EntOk Tryz.prog 99 (f99.ent L N (m+1)):=entRo_ok (E:=(E99 L N m)) (dep:=1000) (f:=Tryz.f99) (sound_of hΦ) okP (callI_sound (sound_of hΦ) okP 0 1000) rfl rfl fun d _ hy=>(f99.b_eq L N m (unR (.one .str)) d.1).trans (Eq.trans (b:=f99.b L N (f99 L N m) some d.1) (by kernel_rfl) hy)
theorem Φ99s_ok (L N:Nat):∀m,TellsOk Tryz.prog (Φ99s L N m):=by
 intro m
 induction m with
 |zero=>exact (addT_ok (Φ138_ok L N) (entRo_no fun _=>rfl))
 |succ m ih=>exact (addT_ok (Φ138_ok L N) (f99.ok L N m ih))
def Φ99 (L N:Nat):Tells:=(addT (Φ138 L N) 99 (f99.ent L N N))
theorem Φ99_ok (L N:Nat):TellsOk Tryz.prog (Φ99 L N):=Φ99s_ok L N N
def f162.b' {R:Type} (L N:Nat) (k:Tree→Option R) (x0:Int) (x1:Tree) (x2:Tree):Option R:=
 k (Tree.mk x0 (0:Int) ([(Tree.mk x1.op x1.n x1.parts),(Tree.mk x2.op x2.n x2.parts)]:LT))
def f162.b {R:Type} (L N:Nat) (k:Tree→Option R) (x0:Int) (x1:Tree) (x2:Tree):Option R:=
 f162.b' L N k x0 x1 x2
def f162 (L N:Nat) (x0:Int) (x1:Tree) (x2:Tree):Option (Tree):=f162.b L N some x0 x1 x2
def f162.ent (L N:Nat):=entDa [i64,(.st 1),(.st 1)] (.one (.st 1)) fun d=>f162 L N d.1 d.2.1 d.2.2.1
noncomputable def E162 (L N:Nat):Env:={P:=Tryz.prog,ty:=tyOf,Φ:=(Φ99 L N),inl:=inlT,live:=lives,liveX:=livesX,L:=L,dp:=none,prom:=promT,heal:=healT,ren:=renT}
theorem f162.b_eq {R:Type} (L N:Nat) (κ:AV→Option R) (x0:Int) (x1:Tree) (x2:Tree):
  evBody (E162 L N) (evCallI (E162 L N) 0 1000) 1000 162 Tryz.f162 [(.tv i64 x0),(.tv (.st 1) x1),(.tv (.st 1) x2)] [] [] (finC (.one (.st 1)) κ)
  =f162.b L N (fun a0=>κ (.tv (.st 1) a0)) x0 x1 x2:=by kernel_rfl
theorem f162.ok (L N:Nat) (hΦ:TellsOk Tryz.prog ((Φ99 L N))):EntOk Tryz.prog 162 (f162.ent L N):=entDa_ok (E:=(E162 L N)) (dep:=1000) (f:=Tryz.f162) (sound_of hΦ) okP (callI_sound (sound_of hΦ) okP 0 1000) rfl fun d _ hy=>(f162.b_eq L N (unR (.one (.st 1))) d.1 d.2.1 d.2.2.1).trans (Eq.trans (b:=f162.b L N some d.1 d.2.1 d.2.2.1) (by kernel_rfl) hy)
def Φ162 (L N:Nat):Tells:=(addT (Φ99 L N) 162 (f162.ent L N))
theorem Φ162_ok (L N:Nat):TellsOk Tryz.prog (Φ162 L N):=addT_ok (Φ99_ok L N) (f162.ok L N (Φ99_ok L N))
def f127.j0' {R:Type} (L N:Nat) (k:Tree→Bool→Option R) (v18:Int) (v19:Bool) (v20:Int) (v21:Int) (v22:Int) (v23:Int) (v24:LT) (v25:Int) (v26:Int) (v27:LT):Option R:=
 bif v19 then
  bif v19 then
   k (Tree.mk ((Tree.mk v22 v23 v24).op) ((Tree.mk v22 v23 v24).n) ((Tree.mk v22 v23 v24).parts)) true
  else k (Tree.mk (0:Int) (0:Int) []) false
 else bif (v18==(3:Int)) then
  bif (v25==(0:Int)) then
   k (Tree.mk ((Tree.mk v22 v23 v24).op) ((Tree.mk v22 v23 v24).n) ((Tree.mk v22 v23 v24).parts)) true
  else k (Tree.mk (0:Int) (0:Int) []) false
 else k (Tree.mk (0:Int) (0:Int) []) false
def f127.j1' {R:Type} (L N:Nat) (k:Tree→Bool→Option R) (v1:Int) (v2:Bool) (v3:Int) (v4:Int) (v5:LT) (v6:Int) (v7:Int) (v8:Int) (v9:Int) (v10:LT) (v11:Int) (v12:Int) (v13:LT):Option R:=
 bif v2 then
  bif (decide (0≤(0:Int))&&decide ((0:Int)<(v13.length:Int))) then
   (f162 L N v3 (Tree.mk v8 v9 v10) (listAt v13 (Ty.dflt (.st 1)) (0:Int).toNat)).bind fun y14=>
   bif (decide (0≤(1:Int))&&decide ((1:Int)<(v13.length:Int))) then
    (f162 L N v3 y14 (listAt v13 (Ty.dflt (.st 1)) (1:Int).toNat)).bind fun y15=>
    k (Tree.mk y15.op y15.n y15.parts) true
   else none
  else none
 else bif (v1==(2:Int)) then
  (f99 L N N (Tree.mk v8 v9 v10)).bind fun y16=>
  (f99 L N N (Tree.mk v11 v12 v13)).bind fun y17=>
  f127.j0' L N k v1 (y16.toList==y17.toList) v6 v7 v8 v9 v10 v11 v12 v13
 else f127.j0' L N k v1 false v6 v7 v8 v9 v10 v11 v12 v13
def f127.b' {R:Type} (L N:Nat) (k:Tree→Bool→Option R) (x0:Tree) (x1:Int):Option R:=
 bif (decide (0≤(0:Int))&&decide ((0:Int)<(x0.parts.length:Int))) then
  bif (decide (0≤(1:Int))&&decide ((1:Int)<(x0.parts.length:Int))) then
   bif (x1==(0:Int)) then
    (f162 L N x0.op (Tree.mk ((listAt x0.parts (Ty.dflt (.st 1)) (1:Int).toNat).op) ((listAt x0.parts (Ty.dflt (.st 1)) (1:Int).toNat).n) ((listAt x0.parts (Ty.dflt (.st 1)) (1:Int).toNat).parts)) (Tree.mk ((listAt x0.parts (Ty.dflt (.st 1)) (0:Int).toNat).op) ((listAt x0.parts (Ty.dflt (.st 1)) (0:Int).toNat).n) ((listAt x0.parts (Ty.dflt (.st 1)) (0:Int).toNat).parts))).bind fun y0=>
    k (Tree.mk y0.op y0.n y0.parts) true
   else bif (x1==(1:Int)) then
    f127.j1' L N k x1 ((listAt x0.parts (Ty.dflt (.st 1)) (1:Int).toNat).op==x0.op) x0.op x0.n x0.parts (0:Int) (0:Int) ((listAt x0.parts (Ty.dflt (.st 1)) (0:Int).toNat).op) ((listAt x0.parts (Ty.dflt (.st 1)) (0:Int).toNat).n) ((listAt x0.parts (Ty.dflt (.st 1)) (0:Int).toNat).parts) ((listAt x0.parts (Ty.dflt (.st 1)) (1:Int).toNat).op) ((listAt x0.parts (Ty.dflt (.st 1)) (1:Int).toNat).n) ((listAt x0.parts (Ty.dflt (.st 1)) (1:Int).toNat).parts)
   else f127.j1' L N k x1 false x0.op x0.n x0.parts (0:Int) (0:Int) ((listAt x0.parts (Ty.dflt (.st 1)) (0:Int).toNat).op) ((listAt x0.parts (Ty.dflt (.st 1)) (0:Int).toNat).n) ((listAt x0.parts (Ty.dflt (.st 1)) (0:Int).toNat).parts) ((listAt x0.parts (Ty.dflt (.st 1)) (1:Int).toNat).op) ((listAt x0.parts (Ty.dflt (.st 1)) (1:Int).toNat).n) ((listAt x0.parts (Ty.dflt (.st 1)) (1:Int).toNat).parts)
  else none
 else none
def f127.b {R:Type} (L N:Nat) (k:Tree→Bool→Option R) (x0:Tree) (x1:Int):Option R:=
 f127.b' L N k x0 x1
def f127 (L N:Nat) (x0:Tree) (x1:Int):Option (Tree×Bool):=f127.b L N (fun a0 a1=>some (a0,a1)) x0 x1
def f127.ent (L N:Nat):=entDa [(.st 1),i64] (.many [(.st 1),.bool]) fun d=>f127 L N d.1 d.2.1
noncomputable def E127 (L N:Nat):Env:={P:=Tryz.prog,ty:=tyOf,Φ:=(Φ162 L N),inl:=inlT,live:=lives,liveX:=livesX,L:=L,dp:=none,prom:=promT,heal:=healT,ren:=renT}
theorem f127.b_eq {R:Type} (L N:Nat) (κ:AV→Option R) (x0:Tree) (x1:Int):
  evBody (E127 L N) (evCallI (E127 L N) 0 1000) 1000 127 Tryz.f127 [(.tv (.st 1) x0),(.tv i64 x1)] [] [] (finC (.many [(.st 1),.bool]) κ)
  =f127.b L N (fun a0 a1=>κ (.tup [(.tv (.st 1) a0),(.tv .bool a1)])) x0 x1:=by kernel_rfl
theorem f127.ok (L N:Nat) (hΦ:TellsOk Tryz.prog ((Φ162 L N))):EntOk Tryz.prog 127 (f127.ent L N):=entDa_ok (E:=(E127 L N)) (dep:=1000) (f:=Tryz.f127) (sound_of hΦ) okP (callI_sound (sound_of hΦ) okP 0 1000) rfl fun d _ hy=>(f127.b_eq L N (unR (.many [(.st 1),.bool])) d.1 d.2.1).trans (Eq.trans (b:=f127.b L N (fun a0 a1=>some (a0,a1)) d.1 d.2.1) (by kernel_rfl) hy)
def Φ127 (L N:Nat):Tells:=(addT (Φ162 L N) 127 (f127.ent L N))
theorem Φ127_ok (L N:Nat):TellsOk Tryz.prog (Φ127 L N):=addT_ok (Φ162_ok L N) (f127.ok L N (Φ162_ok L N))
def f163.b' {R:Type} (L N:Nat) (k:Tree→Option R) (x0:Int) (x1:Tree):Option R:=
 k (Tree.mk (4:Int) x0 ([(Tree.mk x1.op x1.n x1.parts)]:LT))
def f163.b {R:Type} (L N:Nat) (k:Tree→Option R) (x0:Int) (x1:Tree):Option R:=
 f163.b' L N k x0 x1
def f163 (L N:Nat) (x0:Int) (x1:Tree):Option (Tree):=f163.b L N some x0 x1
def f163.ent (L N:Nat):=entDa [i64,(.st 1)] (.one (.st 1)) fun d=>f163 L N d.1 d.2.1
noncomputable def E163 (L N:Nat):Env:={P:=Tryz.prog,ty:=tyOf,Φ:=(Φ127 L N),inl:=inlT,live:=lives,liveX:=livesX,L:=L,dp:=none,prom:=promT,heal:=healT,ren:=renT}
theorem f163.b_eq {R:Type} (L N:Nat) (κ:AV→Option R) (x0:Int) (x1:Tree):
  evBody (E163 L N) (evCallI (E163 L N) 0 1000) 1000 163 Tryz.f163 [(.tv i64 x0),(.tv (.st 1) x1)] [] [] (finC (.one (.st 1)) κ)
  =f163.b L N (fun a0=>κ (.tv (.st 1) a0)) x0 x1:=by kernel_rfl
theorem f163.ok (L N:Nat) (hΦ:TellsOk Tryz.prog ((Φ127 L N))):EntOk Tryz.prog 163 (f163.ent L N):=entDa_ok (E:=(E163 L N)) (dep:=1000) (f:=Tryz.f163) (sound_of hΦ) okP (callI_sound (sound_of hΦ) okP 0 1000) rfl fun d _ hy=>(f163.b_eq L N (unR (.one (.st 1))) d.1 d.2.1).trans (Eq.trans (b:=f163.b L N some d.1 d.2.1) (by kernel_rfl) hy)
def Φ163 (L N:Nat):Tells:=(addT (Φ127 L N) 163 (f163.ent L N))
theorem Φ163_ok (L N:Nat):TellsOk Tryz.prog (Φ163 L N):=addT_ok (Φ127_ok L N) (f163.ok L N (Φ127_ok L N))
def f164.s0' {R:Type} (L N:Nat) (self164:Tree→Int→Option (Bool)) (k0_e0:Int→Int→Int→LT→Option R) (k0_r:Int→Bool→Int→Int→LT→Option R) (rec0:Int→Int→Int→Int→LT→Option R) (s9:Int) (s10:Int) (s11:Int) (s12:Int) (s13:LT):Option R:=
 bif (decide (s10<(s13.length:Int))) then
  bif (decide (0≤s10)&&decide (s10<(s13.length:Int))) then
   (self164 (listAt s13 (Ty.dflt (.st 1)) s10.toNat) s9).bind fun y18=>
   bif y18 then
    k0_r s9 true s11 s12 s13
   else rec0 s9 (wi (s10+(1:Int))) s11 s12 s13
  else none
 else k0_e0 s9 s11 s12 s13
def f164.s0 {R:Type} (L N:Nat) (self164:Tree→Int→Option (Bool)) (k0_e0:Int→Int→Int→LT→Option R) (k0_r:Int→Bool→Int→Int→LT→Option R) (rec0:Int→Int→Int→Int→LT→Option R) (s9:Int) (s10:Int) (s11:Int) (s12:Int) (s13:LT):Option R:=
 f164.s0' L N self164 k0_e0 k0_r rec0 s9 s10 s11 s12 s13
def f164.l0 {R:Type} (L N:Nat) (self164:Tree→Int→Option (Bool)) (k0_e0:Int→Int→Int→LT→Option R) (k0_r:Int→Bool→Int→Int→LT→Option R):Nat→Int→Int→Int→Int→LT→Option R
 |0,_,_,_,_,_=>none
 |n+1,s9,s10,s11,s12,s13=>f164.s0 L N self164 k0_e0 k0_r (f164.l0 L N self164 k0_e0 k0_r n) s9 s10 s11 s12 s13
def f164.T0 (s9:Int) (s10:Int) (s11:Int) (s12:Int) (s13:LT):T:=mkT 44 [(1,(.tv i64 s9)),(2,(.ptr 1002 0)),(5,(.tv i64 s10))]
def f164.H0 (s9:Int) (s10:Int) (s11:Int) (s12:Int) (s13:LT):H:=[(1002,(.box [(.tv i64 s11),(.tv i64 s12),(.tv (.sl (.st 1)) s13)]))]
def f164.T0_e0 (z14:Int) (z15:Int) (z16:Int) (z17:LT):T:=mkT 44 [(1,(.tv i64 z14)),(2,(.ptr 1002 0))]
def f164.H0_e0 (z14:Int) (z15:Int) (z16:Int) (z17:LT):H:=[(1002,(.box [(.tv i64 z15),(.tv i64 z16),(.tv (.sl (.st 1)) z17)]))]
def f164.T0_r (z19:Int) (z20:Bool) (z21:Int) (z22:Int) (z23:LT):T:=mkT 44 [(1,(.tv i64 z19)),(2,(.ptr 1002 0)),(4,(.tv .bool z20))]
def f164.H0_r (z19:Int) (z20:Bool) (z21:Int) (z22:Int) (z23:LT):H:=[(1002,(.box [(.tv i64 z21),(.tv i64 z22),(.tv (.sl (.st 1)) z23)]))]
def f164.p0_e0' {R:Type} (L N:Nat) (self164:Tree→Int→Option (Bool)) (k:Bool→Option R) (z14:Int) (z15:Int) (z16:Int) (z17:LT):Option R:=
 bif (z15==(1:Int)) then
  bif (z16 !=(0:Int)) then
   (f135 L N z16).bind fun y24=>
   k (y24==z14)
  else k false
 else k false
def f164.p0_e0 {R:Type} (L N:Nat) (self164:Tree→Int→Option (Bool)) (k:Bool→Option R) (z14:Int) (z15:Int) (z16:Int) (z17:LT):Option R:=
 f164.p0_e0' L N self164 k z14 z15 z16 z17
def f164.p0_r' {R:Type} (L N:Nat) (self164:Tree→Int→Option (Bool)) (k:Bool→Option R) (z19:Int) (z20:Bool) (z21:Int) (z22:Int) (z23:LT):Option R:=
 k z20
def f164.p0_r {R:Type} (L N:Nat) (self164:Tree→Int→Option (Bool)) (k:Bool→Option R) (z19:Int) (z20:Bool) (z21:Int) (z22:Int) (z23:LT):Option R:=
 f164.p0_r' L N self164 k z19 z20 z21 z22 z23
def f164.j0' {R:Type} (L N:Nat) (self164:Tree→Int→Option (Bool)) (k:Bool→Option R) (w0:Int→Int→Int→Int→LT→Option R) (v5:Int) (v6:Int) (v7:Int) (v8:LT):Option R:=
 w0 v5 (0:Int) v6 v7 v8
def f164.b' {R:Type} (L N:Nat) (self164:Tree→Int→Option (Bool)) (k:Bool→Option R) (w0:Int→Int→Int→Int→LT→Option R) (x0:Tree) (x1:Int):Option R:=
 bif (x0.op==(4:Int)) then
  bif (x0.n==x1) then
   k false
  else f164.j0' L N self164 k w0 x1 x0.op x0.n x0.parts
 else f164.j0' L N self164 k w0 x1 x0.op x0.n x0.parts
def f164.b {R:Type} (L N:Nat) (self164:Tree→Int→Option (Bool)) (k:Bool→Option R) (x0:Tree) (x1:Int):Option R:=
 f164.b' L N self164 k (fun s9 s10 s11 s12 s13=>f164.l0 L N self164 (fun z14 z15 z16 z17=>f164.p0_e0 L N self164 k z14 z15 z16 z17) (fun z19 z20 z21 z22 z23=>f164.p0_r L N self164 k z19 z20 z21 z22 z23) L s9 s10 s11 s12 s13) x0 x1
def f164 (L N:Nat):Nat→Tree→Int→Option (Bool)
 |0,_,_=>none
 |n+1,x0,x1=>f164.b L N (f164 L N n) some x0 x1
def f164.ent (L N m:Nat):=entRo [(.st 1),i64] (.one .bool) fun d=>f164 L N m d.1 d.2.1
def Φ164s (L N m:Nat):Tells:=(addT (Φ163 L N) 164 (f164.ent L N m))
noncomputable def E164 (L N m:Nat):Env:={P:=Tryz.prog,ty:=tyOf,Φ:=Φ164s L N m,inl:=inlT,live:=lives,liveX:=livesX,L:=L,dp:=none,prom:=promT,heal:=healT,ren:=renT}
noncomputable def f164.c0:Code:=loopAt 0 (codeOf Tryz.f164)
def f164.X0_e0 {R:Type} (κ:KX R):=fun z14 z15 z16 z17=>κ (.exit 0) (f164.T0_e0 z14 z15 z16 z17) (f164.H0_e0 z14 z15 z16 z17)
def f164.X0_r {R:Type} (κ:KX R):=fun z19 z20 z21 z22 z23=>κ .ret (f164.T0_r z19 z20 z21 z22 z23) (f164.H0_r z19 z20 z21 z22 z23)
def f164.R0 {R:Type} (rec:KT R):=fun s9 s10 s11 s12 s13=>rec (f164.T0 s9 s10 s11 s12 s13) (f164.H0 s9 s10 s11 s12 s13)
theorem f164.s0_eq {R:Type} (L N m:Nat) (κ:KX R) (rec:KT R) (s9:Int) (s10:Int) (s11:Int) (s12:Int) (s13:LT):
  evRd (E164 L N m) (evCallI (E164 L N m) 0 1000) 1000 164 44 0 f164.c0 κ rec (f164.T0 s9 s10 s11 s12 s13) (f164.H0 s9 s10 s11 s12 s13)
  =f164.s0 L N (f164 L N m) (f164.X0_e0 κ) (f164.X0_r κ) (f164.R0 rec) s9 s10 s11 s12 s13:=by kernel_rfl
theorem f164.l0_eq {R:Type} (L N m:Nat) (κ:KX R):∀(n:Nat) (s9:Int) (s10:Int) (s11:Int) (s12:Int) (s13:LT),
  evLp (E164 L N m) (evCallI (E164 L N m) 0 1000) 1000 164 44 0 f164.c0 κ n (f164.T0 s9 s10 s11 s12 s13) (f164.H0 s9 s10 s11 s12 s13)
  =f164.l0 L N (f164 L N m) (f164.X0_e0 κ) (f164.X0_r κ) n s9 s10 s11 s12 s13:=by
 intro n
 induction n with
 |zero=>intros;rfl
 |succ n ih=>
  intro s9 s10 s11 s12 s13
  rw [evLp_succ,f164.s0_eq]
  delta f164.R0
  simp only [ih]
  rfl
theorem f164.p0_e0_eq {R:Type} (L N m:Nat) (κ:AV→Option R) (z14:Int) (z15:Int) (z16:Int) (z17:LT):
  (contAt (E164 L N m) (evCallI (E164 L N m) 0 1000) 1000 164 44 0 (codeOf Tryz.f164) (finK (E164 L N m) 1000 Tryz.f164 (finC (.one .bool) κ))) (.exit 0) (f164.T0_e0 z14 z15 z16 z17) (f164.H0_e0 z14 z15 z16 z17)
  =f164.p0_e0 L N (f164 L N m) (fun a0=>κ (.tv .bool a0)) z14 z15 z16 z17:=by kernel_rfl
theorem f164.p0_r_eq {R:Type} (L N m:Nat) (κ:AV→Option R) (z19:Int) (z20:Bool) (z21:Int) (z22:Int) (z23:LT):
  (contAt (E164 L N m) (evCallI (E164 L N m) 0 1000) 1000 164 44 0 (codeOf Tryz.f164) (finK (E164 L N m) 1000 Tryz.f164 (finC (.one .bool) κ))) .ret (f164.T0_r z19 z20 z21 z22 z23) (f164.H0_r z19 z20 z21 z22 z23)
  =f164.p0_r L N (f164 L N m) (fun a0=>κ (.tv .bool a0)) z19 z20 z21 z22 z23:=by kernel_rfl
theorem f164.b_eq {R:Type} (L N m:Nat) (κ:AV→Option R) (x0:Tree) (x1:Int):
  evBody (E164 L N m) (evCallI (E164 L N m) 0 1000) 1000 164 Tryz.f164 [(.tv (.st 1) x0),(.tv i64 x1)] [] [] (finC (.one .bool) κ)
  =f164.b L N (f164 L N m) (fun a0=>κ (.tv .bool a0)) x0 x1:=by
 refine Eq.trans (b:=f164.b' L N (f164 L N m) (fun a0=>κ (.tv .bool a0)) (fun s9 s10 s11 s12 s13=>evLp (E164 L N m) (evCallI (E164 L N m) 0 1000) 1000 164 44 0 f164.c0 (contAt (E164 L N m) (evCallI (E164 L N m) 0 1000) 1000 164 44 0 (codeOf Tryz.f164) (finK (E164 L N m) 1000 Tryz.f164 (finC (.one .bool) κ))) L (f164.T0 s9 s10 s11 s12 s13) (f164.H0 s9 s10 s11 s12 s13)) x0 x1) (by kernel_rfl) ?_
 unfold f164.b
 simp only [f164.l0_eq]
 delta f164.X0_e0 f164.X0_r
 simp only [f164.p0_e0_eq,f164.p0_r_eq]
theorem f164.ok (L N m:Nat) (hΦ:TellsOk Tryz.prog (Φ164s L N m)):EntOk Tryz.prog 164 (f164.ent L N (m+1)):=entRo_ok (E:=(E164 L N m)) (dep:=1000) (f:=Tryz.f164) (sound_of hΦ) okP (callI_sound (sound_of hΦ) okP 0 1000) rfl rfl fun d _ hy=>(f164.b_eq L N m (unR (.one .bool)) d.1 d.2.1).trans (Eq.trans (b:=f164.b L N (f164 L N m) some d.1 d.2.1) (by kernel_rfl) hy)
theorem Φ164s_ok (L N:Nat):∀m,TellsOk Tryz.prog (Φ164s L N m):=by
 intro m
 induction m with
 |zero=>exact (addT_ok (Φ163_ok L N) (entRo_no fun _=>rfl))
 |succ m ih=>exact (addT_ok (Φ163_ok L N) (f164.ok L N m ih))
def Φ164 (L N:Nat):Tells:=(addT (Φ163 L N) 164 (f164.ent L N N))
theorem Φ164_ok (L N:Nat):TellsOk Tryz.prog (Φ164 L N):=Φ164s_ok L N N
def f128.j0' {R:Type} (L N:Nat) (k:Tree→Bool→Option R) (v6:Int) (v7:Bool) (v8:Int) (v9:Int) (v10:LT) (v11:Int) (v12:Int) (v13:Int) (v14:Int) (v15:LT):Option R:=
 bif v7 then
  bif (decide (0≤(0:Int))&&decide ((0:Int)<(v15.length:Int))) then
   (f163 L N v9 (listAt v15 (Ty.dflt (.st 1)) (0:Int).toNat)).bind fun y16=>
   k (Tree.mk (1:Int) v14 ([y16]:LT)) true
  else none
 else bif (v6==(10:Int)) then
  (f61 L N (Tree.mk v13 v14 v15)).bind fun y17=>
  bif y17 then
   (f164 L N N (Tree.mk v13 v14 v15) v9).bind fun y18=>
   bif (!y18) then
    k (Tree.mk ((Tree.mk v13 v14 v15).op) ((Tree.mk v13 v14 v15).n) ((Tree.mk v13 v14 v15).parts)) true
   else k (Tree.mk (0:Int) (0:Int) []) false
  else k (Tree.mk (0:Int) (0:Int) []) false
 else k (Tree.mk (0:Int) (0:Int) []) false
def f128.b' {R:Type} (L N:Nat) (k:Tree→Bool→Option R) (x0:Tree) (x1:Int):Option R:=
 bif (decide (0≤(0:Int))&&decide ((0:Int)<(x0.parts.length:Int))) then
  bif (bif (x1==(7:Int)) then ((listAt x0.parts (Ty.dflt (.st 1)) (0:Int).toNat).op==(4:Int)) else false) then
   bif (decide (0≤(0:Int))&&decide ((0:Int)<(((listAt x0.parts (Ty.dflt (.st 1)) (0:Int).toNat).parts).length:Int))) then
    (f163 L N x0.n (listAt ((listAt x0.parts (Ty.dflt (.st 1)) (0:Int).toNat).parts) (Ty.dflt (.st 1)) (0:Int).toNat)).bind fun y0=>
    (f163 L N ((listAt x0.parts (Ty.dflt (.st 1)) (0:Int).toNat).n) y0).bind fun y1=>
    k (Tree.mk y1.op y1.n y1.parts) true
   else none
  else bif (bif (x1==(8:Int)) then ((listAt x0.parts (Ty.dflt (.st 1)) (0:Int).toNat).op==(2:Int)) else false) then
   bif (decide (0≤(0:Int))&&decide ((0:Int)<(((listAt x0.parts (Ty.dflt (.st 1)) (0:Int).toNat).parts).length:Int))) then
    (f163 L N x0.n (listAt ((listAt x0.parts (Ty.dflt (.st 1)) (0:Int).toNat).parts) (Ty.dflt (.st 1)) (0:Int).toNat)).bind fun y2=>
    bif (decide (0≤(1:Int))&&decide ((1:Int)<(((listAt x0.parts (Ty.dflt (.st 1)) (0:Int).toNat).parts).length:Int))) then
     (f163 L N x0.n (listAt ((listAt x0.parts (Ty.dflt (.st 1)) (0:Int).toNat).parts) (Ty.dflt (.st 1)) (1:Int).toNat)).bind fun y3=>
     (f162 L N (2:Int) y2 y3).bind fun y4=>
     k (Tree.mk y4.op y4.n y4.parts) true
    else none
   else none
  else bif (x1==(9:Int)) then
   bif ((listAt x0.parts (Ty.dflt (.st 1)) (0:Int).toNat).op==(1:Int)) then
    bif ((listAt x0.parts (Ty.dflt (.st 1)) (0:Int).toNat).n==(0:Int)) then
     f128.j0' L N k x1 true x0.op x0.n x0.parts (0:Int) (0:Int) ((listAt x0.parts (Ty.dflt (.st 1)) (0:Int).toNat).op) ((listAt x0.parts (Ty.dflt (.st 1)) (0:Int).toNat).n) ((listAt x0.parts (Ty.dflt (.st 1)) (0:Int).toNat).parts)
    else (f135 L N ((listAt x0.parts (Ty.dflt (.st 1)) (0:Int).toNat).n)).bind fun y5=>
    f128.j0' L N k x1 (y5 !=x0.n) x0.op x0.n x0.parts (0:Int) (0:Int) ((listAt x0.parts (Ty.dflt (.st 1)) (0:Int).toNat).op) ((listAt x0.parts (Ty.dflt (.st 1)) (0:Int).toNat).n) ((listAt x0.parts (Ty.dflt (.st 1)) (0:Int).toNat).parts)
   else f128.j0' L N k x1 false x0.op x0.n x0.parts (0:Int) (0:Int) ((listAt x0.parts (Ty.dflt (.st 1)) (0:Int).toNat).op) ((listAt x0.parts (Ty.dflt (.st 1)) (0:Int).toNat).n) ((listAt x0.parts (Ty.dflt (.st 1)) (0:Int).toNat).parts)
  else f128.j0' L N k x1 false x0.op x0.n x0.parts (0:Int) (0:Int) ((listAt x0.parts (Ty.dflt (.st 1)) (0:Int).toNat).op) ((listAt x0.parts (Ty.dflt (.st 1)) (0:Int).toNat).n) ((listAt x0.parts (Ty.dflt (.st 1)) (0:Int).toNat).parts)
 else none
def f128.b {R:Type} (L N:Nat) (k:Tree→Bool→Option R) (x0:Tree) (x1:Int):Option R:=
 f128.b' L N k x0 x1
def f128 (L N:Nat) (x0:Tree) (x1:Int):Option (Tree×Bool):=f128.b L N (fun a0 a1=>some (a0,a1)) x0 x1
def f128.ent (L N:Nat):=entDa [(.st 1),i64] (.many [(.st 1),.bool]) fun d=>f128 L N d.1 d.2.1
noncomputable def E128 (L N:Nat):Env:={P:=Tryz.prog,ty:=tyOf,Φ:=(Φ164 L N),inl:=inlT,live:=lives,liveX:=livesX,L:=L,dp:=none,prom:=promT,heal:=healT,ren:=renT,ifc:=fun f=>Nat.beq f 128}
theorem f128.b_eq {R:Type} (L N:Nat) (κ:AV→Option R) (x0:Tree) (x1:Int):
  evBody (E128 L N) (evCallI (E128 L N) 0 1000) 1000 128 Tryz.f128 [(.tv (.st 1) x0),(.tv i64 x1)] [] [] (finC (.many [(.st 1),.bool]) κ)
  =f128.b L N (fun a0 a1=>κ (.tup [(.tv (.st 1) a0),(.tv .bool a1)])) x0 x1:=by kernel_rfl
theorem f128.ok (L N:Nat) (hΦ:TellsOk Tryz.prog ((Φ164 L N))):EntOk Tryz.prog 128 (f128.ent L N):=entDa_ok (E:=(E128 L N)) (dep:=1000) (f:=Tryz.f128) (sound_of hΦ) okP (callI_sound (sound_of hΦ) okP 0 1000) rfl fun d _ hy=>(f128.b_eq L N (unR (.many [(.st 1),.bool])) d.1 d.2.1).trans (Eq.trans (b:=f128.b L N (fun a0 a1=>some (a0,a1)) d.1 d.2.1) (by kernel_rfl) hy)
def Φ128 (L N:Nat):Tells:=(addT (Φ164 L N) 128 (f128.ent L N))
theorem Φ128_ok (L N:Nat):TellsOk Tryz.prog (Φ128 L N):=addT_ok (Φ164_ok L N) (f128.ok L N (Φ164_ok L N))
def f86.s0' {R:Type} (L N:Nat) (k0_e1:Int→Int→LT→Option R) (rec0:Int→Int→Int→LT→LS→Option R) (s32:Int) (s33:Int) (s34:Int) (s35:LT) (s36:LS):Option R:=
 bif (decide (s32<(s36.length:Int))) then
  bif (decide (0≤s32)&&decide (s32<(s36.length:Int))) then
   bif (decide (0≤s32)&&decide (s32<(s36.length:Int))) then
    bif (decide (s35.length+([(Tree.mk (1:Int) ((listAt s36 (Ty.dflt (.st 3)) s32.toNat).act) ([(Tree.mk ((listAt s36 (Ty.dflt (.st 3)) s32.toNat).thn.op) ((listAt s36 (Ty.dflt (.st 3)) s32.toNat).thn.n) ((listAt s36 (Ty.dflt (.st 3)) s32.toNat).thn.parts))]:LT))]:LT).length≤lim)) then
     rec0 (wi (s32+(1:Int))) s33 s34 (s35++([(Tree.mk (1:Int) ((listAt s36 (Ty.dflt (.st 3)) s32.toNat).act) ([(Tree.mk ((listAt s36 (Ty.dflt (.st 3)) s32.toNat).thn.op) ((listAt s36 (Ty.dflt (.st 3)) s32.toNat).thn.n) ((listAt s36 (Ty.dflt (.st 3)) s32.toNat).thn.parts))]:LT))]:LT)) s36
    else none
   else none
  else none
 else k0_e1 s33 s34 s35
def f86.s0 {R:Type} (L N:Nat) (k0_e1:Int→Int→LT→Option R) (rec0:Int→Int→Int→LT→LS→Option R) (s32:Int) (s33:Int) (s34:Int) (s35:LT) (s36:LS):Option R:=
 f86.s0' L N k0_e1 rec0 s32 s33 s34 s35 s36
def f86.l0 {R:Type} (L N:Nat) (k0_e1:Int→Int→LT→Option R):Nat→Int→Int→Int→LT→LS→Option R
 |0,_,_,_,_,_=>none
 |n+1,s32,s33,s34,s35,s36=>f86.s0 L N k0_e1 (f86.l0 L N k0_e1 n) s32 s33 s34 s35 s36
def f86.T0 (s32:Int) (s33:Int) (s34:Int) (s35:LT) (s36:LS):T:=mkT 94 [(4,(.ptr 1004 0)),(6,(.row 1067)),(7,(.row 1069)),(8,(.tv i64 s32))]
def f86.H0 (s32:Int) (s33:Int) (s34:Int) (s35:LT) (s36:LS):H:=[(1004,(.box [(.tv i64 s33),(.tv i64 s34),.nil])),(1067,(.row 25 (.st 1) s35)),(1069,(.row 113 (.st 3) s36))]
def f86.T0_e1 (z37:Int) (z38:Int) (z39:LT):T:=mkT 94 [(4,(.ptr 1004 0)),(6,(.row 1067))]
def f86.H0_e1 (z37:Int) (z38:Int) (z39:LT):H:=[(1004,(.box [(.tv i64 z37),(.tv i64 z38),.nil])),(1067,(.row 25 (.st 1) z39))]
def f86.p0_e1' {R:Type} (L N:Nat) (k:Tree→Bool→Option R) (z37:Int) (z38:Int) (z39:LT):Option R:=
 (f100 L N z39).bind fun y40=>
 k (Tree.mk y40.op y40.n y40.parts) true
def f86.p0_e1 {R:Type} (L N:Nat) (k:Tree→Bool→Option R) (z37:Int) (z38:Int) (z39:LT):Option R:=
 f86.p0_e1' L N k z37 z38 z39
def f86.j0' {R:Type} (L N:Nat) (k:Tree→Bool→Option R) (w0:Int→Int→Int→LT→LS→Option R) (v25:Bool) (v26:Int) (v27:Int) (v28:LT) (v29:Int) (v30:Int):Option R:=
 bif v25 then
  (f98 L N N (Tree.mk v26 v27 v28) []).bind fun y31=>
  w0 (0:Int) v29 v30 ([]:LT) y31
 else k (Tree.mk (0:Int) (0:Int) []) false
def f86.j1' {R:Type} (L N:Nat) (k:Tree→Bool→Option R) (w0:Int→Int→Int→LT→LS→Option R) (v16:Int) (v17:Bool) (v18:Int) (v19:Int) (v20:LT) (v21:Int) (v22:Int):Option R:=
 bif v17 then
  (f128 L N (Tree.mk v18 v19 v20) v16).bind fun y23=>
  k (Tree.mk y23.1.op y23.1.n y23.1.parts) y23.2
 else bif (v16==(11:Int)) then
  (f61 L N (Tree.mk v18 v19 v20)).bind fun y24=>
  f86.j0' L N k w0 y24 v18 v19 v20 v21 v22
 else f86.j0' L N k w0 false v18 v19 v20 v21 v22
def f86.j2' {R:Type} (L N:Nat) (k:Tree→Bool→Option R) (w0:Int→Int→Int→LT→LS→Option R) (v8:Int) (v9:Bool) (v10:Int) (v11:Int) (v12:LT) (v13:Int) (v14:Int):Option R:=
 bif v9 then
  bif (decide (0≤(wi (v8-(4:Int))))&&decide ((wi (v8-(4:Int)))<(([(0:Int),(1:Int),(3:Int)]:LI).length:Int))) then
   (f127 L N (Tree.mk v10 v11 v12) (listAt ([(0:Int),(1:Int),(3:Int)]:LI) (0:Int) (wi (v8-(4:Int))).toNat)).bind fun y15=>
   k (Tree.mk y15.1.op y15.1.n y15.1.parts) y15.2
  else none
 else bif (decide (v8≥(7:Int))) then
  bif (decide (v8≤(10:Int))) then
   f86.j1' L N k w0 v8 (v10==(4:Int)) v10 v11 v12 v13 v14
  else f86.j1' L N k w0 v8 false v10 v11 v12 v13 v14
 else f86.j1' L N k w0 v8 false v10 v11 v12 v13 v14
def f86.j3' {R:Type} (L N:Nat) (k:Tree→Bool→Option R) (w0:Int→Int→Int→LT→LS→Option R) (v0:Int) (v1:Bool) (v2:Int) (v3:Int) (v4:LT) (v5:Int) (v6:Int):Option R:=
 bif v1 then
  (f127 L N (Tree.mk v2 v3 v4) v0).bind fun y7=>
  k (Tree.mk y7.1.op y7.1.n y7.1.parts) y7.2
 else bif (decide (v0≥(4:Int))) then
  bif (decide (v0≤(6:Int))) then
   f86.j2' L N k w0 v0 (v2==(3:Int)) v2 v3 v4 v5 v6
  else f86.j2' L N k w0 v0 false v2 v3 v4 v5 v6
 else f86.j2' L N k w0 v0 false v2 v3 v4 v5 v6
def f86.b' {R:Type} (L N:Nat) (k:Tree→Bool→Option R) (w0:Int→Int→Int→LT→LS→Option R) (x0:Tree) (x1:Int):Option R:=
 bif (decide (x1≤(3:Int))) then
  f86.j3' L N k w0 x1 (x0.op==(2:Int)) x0.op x0.n x0.parts (0:Int) (0:Int)
 else f86.j3' L N k w0 x1 false x0.op x0.n x0.parts (0:Int) (0:Int)
def f86.b {R:Type} (L N:Nat) (k:Tree→Bool→Option R) (x0:Tree) (x1:Int):Option R:=
 f86.b' L N k (fun s32 s33 s34 s35 s36=>f86.l0 L N (fun z37 z38 z39=>f86.p0_e1 L N k z37 z38 z39) L s32 s33 s34 s35 s36) x0 x1
def f86 (L N:Nat) (x0:Tree) (x1:Int):Option (Tree×Bool):=f86.b L N (fun a0 a1=>some (a0,a1)) x0 x1
def f86.ent (L N:Nat):=entDa [(.st 1),i64] (.many [(.st 1),.bool]) fun d=>f86 L N d.1 d.2.1
noncomputable def E86 (L N:Nat):Env:={P:=Tryz.prog,ty:=tyOf,Φ:=(Φ128 L N),inl:=inlT,live:=lives,liveX:=livesX,L:=L,dp:=none,prom:=promT,heal:=healT,ren:=renT}
noncomputable def f86.c0:Code:=loopAt 1 (codeOf Tryz.f86)
def f86.X0_e1 {R:Type} (κ:KX R):=fun z37 z38 z39=>κ (.exit 1) (f86.T0_e1 z37 z38 z39) (f86.H0_e1 z37 z38 z39)
def f86.R0 {R:Type} (rec:KT R):=fun s32 s33 s34 s35 s36=>rec (f86.T0 s32 s33 s34 s35 s36) (f86.H0 s32 s33 s34 s35 s36)
theorem f86.s0_eq {R:Type} (L N:Nat) (κ:KX R) (rec:KT R) (s32:Int) (s33:Int) (s34:Int) (s35:LT) (s36:LS):
  evRd (E86 L N) (evCallI (E86 L N) 0 1000) 1000 86 94 1 f86.c0 κ rec (f86.T0 s32 s33 s34 s35 s36) (f86.H0 s32 s33 s34 s35 s36)
  =f86.s0 L N (f86.X0_e1 κ) (f86.R0 rec) s32 s33 s34 s35 s36:=by kernel_rfl
theorem f86.l0_eq {R:Type} (L N:Nat) (κ:KX R):∀(n:Nat) (s32:Int) (s33:Int) (s34:Int) (s35:LT) (s36:LS),
  evLp (E86 L N) (evCallI (E86 L N) 0 1000) 1000 86 94 1 f86.c0 κ n (f86.T0 s32 s33 s34 s35 s36) (f86.H0 s32 s33 s34 s35 s36)
  =f86.l0 L N (f86.X0_e1 κ) n s32 s33 s34 s35 s36:=by
 intro n
 induction n with
 |zero=>intros;rfl
 |succ n ih=>
  intro s32 s33 s34 s35 s36
  rw [evLp_succ,f86.s0_eq]
  delta f86.R0
  simp only [ih]
  rfl
theorem f86.p0_e1_eq {R:Type} (L N:Nat) (κ:AV→Option R) (z37:Int) (z38:Int) (z39:LT):
  (contAt (E86 L N) (evCallI (E86 L N) 0 1000) 1000 86 94 1 (codeOf Tryz.f86) (finK (E86 L N) 1000 Tryz.f86 (finC (.many [(.st 1),.bool]) κ))) (.exit 1) (f86.T0_e1 z37 z38 z39) (f86.H0_e1 z37 z38 z39)
  =f86.p0_e1 L N (fun a0 a1=>κ (.tup [(.tv (.st 1) a0),(.tv .bool a1)])) z37 z38 z39:=by kernel_rfl
theorem f86.b_eq {R:Type} (L N:Nat) (κ:AV→Option R) (x0:Tree) (x1:Int):
  evBody (E86 L N) (evCallI (E86 L N) 0 1000) 1000 86 Tryz.f86 [(.tv (.st 1) x0),(.tv i64 x1)] [] [] (finC (.many [(.st 1),.bool]) κ)
  =f86.b L N (fun a0 a1=>κ (.tup [(.tv (.st 1) a0),(.tv .bool a1)])) x0 x1:=by
 refine Eq.trans (b:=f86.b' L N (fun a0 a1=>κ (.tup [(.tv (.st 1) a0),(.tv .bool a1)])) (fun s32 s33 s34 s35 s36=>evLp (E86 L N) (evCallI (E86 L N) 0 1000) 1000 86 94 1 f86.c0 (contAt (E86 L N) (evCallI (E86 L N) 0 1000) 1000 86 94 1 (codeOf Tryz.f86) (finK (E86 L N) 1000 Tryz.f86 (finC (.many [(.st 1),.bool]) κ))) L (f86.T0 s32 s33 s34 s35 s36) (f86.H0 s32 s33 s34 s35 s36)) x0 x1) (by kernel_rfl) ?_
 unfold f86.b
 simp only [f86.l0_eq]
 delta f86.X0_e1
 simp only [f86.p0_e1_eq]
theorem f86.ok (L N:Nat) (hΦ:TellsOk Tryz.prog ((Φ128 L N))):EntOk Tryz.prog 86 (f86.ent L N):=entDa_ok (E:=(E86 L N)) (dep:=1000) (f:=Tryz.f86) (sound_of hΦ) okP (callI_sound (sound_of hΦ) okP 0 1000) rfl fun d _ hy=>(f86.b_eq L N (unR (.many [(.st 1),.bool])) d.1 d.2.1).trans (Eq.trans (b:=f86.b L N (fun a0 a1=>some (a0,a1)) d.1 d.2.1) (by kernel_rfl) hy)
def Φ86 (L N:Nat):Tells:=(addT (Φ128 L N) 86 (f86.ent L N))
theorem Φ86_ok (L N:Nat):TellsOk Tryz.prog (Φ86 L N):=addT_ok (Φ128_ok L N) (f86.ok L N (Φ128_ok L N))
def f55.b' {R:Type} (L N:Nat) (self55:Tree→Int→LI→Option (Tree×Bool)) (k:Tree→Bool→Option R) (x0:Tree) (x1:Int) (x2:LI):Option R:=
 bif ((x2.length:Int)==(0:Int)) then
  (f86 L N (Tree.mk x0.op x0.n x0.parts) x1).bind fun y0=>
  k (Tree.mk y0.1.op y0.1.n y0.1.parts) y0.2
 else bif (decide (0≤(0:Int))&&decide ((0:Int)<(x2.length:Int))) then
  (f54 L N (listAt x2 (0:Int) (0:Int).toNat) (0:Int) (wi ((x0.parts.length:Int)-(1:Int)))).bind fun y1=>
  bif (!y1) then
   k (Tree.mk (0:Int) (0:Int) []) false
  else bif (decide (0≤(0:Int))&&decide ((0:Int)<(x2.length:Int))) then
   bif (decide (0≤(listAt x2 (0:Int) (0:Int).toNat))&&decide ((listAt x2 (0:Int) (0:Int).toNat)<(x0.parts.length:Int))) then
    bif (slB (1:Int) (x2.length:Int) x2.length) then
     (self55 (listAt x0.parts (Ty.dflt (.st 1)) (listAt x2 (0:Int) (0:Int).toNat).toNat) x1 (slX x2 (1:Int) (x2.length:Int))).bind fun y2=>
     bif (!y2.2) then
      k (Tree.mk (0:Int) (0:Int) []) false
     else bif (decide (([]:LT).length+x0.parts.length≤lim)) then
      bif (decide (0≤(0:Int))&&decide ((0:Int)<(x2.length:Int))) then
       bif (decide (0≤(listAt x2 (0:Int) (0:Int).toNat))&&decide ((listAt x2 (0:Int) (0:Int).toNat)<((([]:LT)++x0.parts).length:Int))) then
        k (Tree.mk x0.op x0.n ((([]:LT)++x0.parts).set ((listAt x2 (0:Int) (0:Int).toNat).toNat) (Tree.mk y2.1.op y2.1.n y2.1.parts))) true
       else none
      else none
     else none
    else none
   else none
  else none
 else none
def f55.b {R:Type} (L N:Nat) (self55:Tree→Int→LI→Option (Tree×Bool)) (k:Tree→Bool→Option R) (x0:Tree) (x1:Int) (x2:LI):Option R:=
 f55.b' L N self55 k x0 x1 x2
def f55 (L N:Nat):Nat→Tree→Int→LI→Option (Tree×Bool)
 |0,_,_,_=>none
 |n+1,x0,x1,x2=>f55.b L N (f55 L N n) (fun a0 a1=>some (a0,a1)) x0 x1 x2
def f55.ent (L N m:Nat):=entDa [(.st 1),i64,(.sl i64)] (.many [(.st 1),.bool]) fun d=>f55 L N m d.1 d.2.1 d.2.2.1
def Φ55s (L N m:Nat):Tells:=(addT (Φ86 L N) 55 (f55.ent L N m))
noncomputable def E55 (L N m:Nat):Env:={P:=Tryz.prog,ty:=tyOf,Φ:=Φ55s L N m,inl:=inlT,live:=lives,liveX:=livesX,L:=L,dp:=none,prom:=promT,heal:=healT,ren:=renT,fresh:=fun s=>Nat.beq s 1053}
theorem f55.b_eq {R:Type} (L N m:Nat) (κ:AV→Option R) (x0:Tree) (x1:Int) (x2:LI):
  evBody (E55 L N m) (evCallI (E55 L N m) 0 1000) 1000 55 Tryz.f55 [(.tv (.st 1) x0),(.tv i64 x1),(.tv (.sl i64) x2)] [] [] (finC (.many [(.st 1),.bool]) κ)
  =f55.b L N (f55 L N m) (fun a0 a1=>κ (.tup [(.tv (.st 1) a0),(.tv .bool a1)])) x0 x1 x2:=by kernel_rfl
theorem f55.ok (L N m:Nat) (hΦ:TellsOk Tryz.prog (Φ55s L N m)):EntOk Tryz.prog 55 (f55.ent L N (m+1)):=entDa_ok (E:=(E55 L N m)) (dep:=1000) (f:=Tryz.f55) (sound_of hΦ) okP (callI_sound (sound_of hΦ) okP 0 1000) rfl fun d _ hy=>(f55.b_eq L N m (unR (.many [(.st 1),.bool])) d.1 d.2.1 d.2.2.1).trans (Eq.trans (b:=f55.b L N (f55 L N m) (fun a0 a1=>some (a0,a1)) d.1 d.2.1 d.2.2.1) (by kernel_rfl) hy)
theorem Φ55s_ok (L N:Nat):∀m,TellsOk Tryz.prog (Φ55s L N m):=by
 intro m
 induction m with
 |zero=>exact (addT_ok (Φ86_ok L N) (entDa_no fun _=>rfl))
 |succ m ih=>exact (addT_ok (Φ86_ok L N) (f55.ok L N m ih))
def Φ55 (L N:Nat):Tells:=(addT (Φ86 L N) 55 (f55.ent L N N))
theorem Φ55_ok (L N:Nat):TellsOk Tryz.prog (Φ55 L N):=Φ55s_ok L N N
def f87.s0' {R:Type} (L N:Nat) (self87:Tree→LI→Option (Tree)) (k0_e1:Int→Int→Int→Int→LT→Option R) (rec0:LI→Int→Int→Int→LT→Int→Int→Int→Int→LT→Option R) (s26:LI) (s27:Int) (s28:Int) (s29:Int) (s30:LT) (s31:Int) (s32:Int) (s33:Int) (s34:Int) (s35:LT):Option R:=
 bif (decide (s27<(s30.length:Int))) then
  bif (decide (0≤s27)&&decide (s27<(s30.length:Int))) then
   (self87 (listAt s30 (Ty.dflt (.st 1)) s27.toNat) s26).bind fun y41=>
   bif (decide (s35.length+([y41]:LT).length≤lim)) then
    rec0 s26 (wi (s27+(1:Int))) s28 s29 s30 s31 s32 s33 s34 (s35++([y41]:LT))
   else none
  else none
 else k0_e1 s31 s32 s33 s34 s35
def f87.s0 {R:Type} (L N:Nat) (self87:Tree→LI→Option (Tree)) (k0_e1:Int→Int→Int→Int→LT→Option R) (rec0:LI→Int→Int→Int→LT→Int→Int→Int→Int→LT→Option R) (s26:LI) (s27:Int) (s28:Int) (s29:Int) (s30:LT) (s31:Int) (s32:Int) (s33:Int) (s34:Int) (s35:LT):Option R:=
 f87.s0' L N self87 k0_e1 rec0 s26 s27 s28 s29 s30 s31 s32 s33 s34 s35
def f87.l0 {R:Type} (L N:Nat) (self87:Tree→LI→Option (Tree)) (k0_e1:Int→Int→Int→Int→LT→Option R):Nat→LI→Int→Int→Int→LT→Int→Int→Int→Int→LT→Option R
 |0,_,_,_,_,_,_,_,_,_,_=>none
 |n+1,s26,s27,s28,s29,s30,s31,s32,s33,s34,s35=>f87.s0 L N self87 k0_e1 (f87.l0 L N self87 k0_e1 n) s26 s27 s28 s29 s30 s31 s32 s33 s34 s35
def f87.T0 (s26:LI) (s27:Int) (s28:Int) (s29:Int) (s30:LT) (s31:Int) (s32:Int) (s33:Int) (s34:Int) (s35:LT):T:=mkT 78 [(1,(.tv (.sl i64) s26)),(2,(.ptr 1002 0)),(4,(.ptr 1004 0)),(5,(.ptr 1005 0)),(6,(.tv i64 s27))]
def f87.H0 (s26:LI) (s27:Int) (s28:Int) (s29:Int) (s30:LT) (s31:Int) (s32:Int) (s33:Int) (s34:Int) (s35:LT):H:=[(1002,(.box [(.tv i64 s28),(.tv i64 s29),(.tv (.sl (.st 1)) s30)])),(1004,(.box [(.tv i64 s31),(.tv i64 s32),.nil])),(1005,(.box [(.tv i64 s33),(.tv i64 s34),(.row 1910)])),(1910,(.row 25 (.st 1) s35))]
def f87.T0_e1 (z36:Int) (z37:Int) (z38:Int) (z39:Int) (z40:LT):T:=mkT 78 [(4,(.ptr 1004 0)),(5,(.ptr 1005 0))]
def f87.H0_e1 (z36:Int) (z37:Int) (z38:Int) (z39:Int) (z40:LT):H:=[(1004,(.box [(.tv i64 z36),(.tv i64 z37),.nil])),(1005,(.box [(.tv i64 z38),(.tv i64 z39),(.row 1910)])),(1910,(.row 25 (.st 1) z40))]
def f87.p0_e1' {R:Type} (L N:Nat) (self87:Tree→LI→Option (Tree)) (k:Tree→Option R) (z36:Int) (z37:Int) (z38:Int) (z39:Int) (z40:LT):Option R:=
 k (Tree.mk z38 z39 z40)
def f87.p0_e1 {R:Type} (L N:Nat) (self87:Tree→LI→Option (Tree)) (k:Tree→Option R) (z36:Int) (z37:Int) (z38:Int) (z39:Int) (z40:LT):Option R:=
 f87.p0_e1' L N self87 k z36 z37 z38 z39 z40
def f87.j2' {R:Type} (L N:Nat) (self87:Tree→LI→Option (Tree)) (k:Tree→Option R) (w0:LI→Int→Int→Int→LT→Int→Int→Int→Int→LT→Option R) (v18:LI) (v19:Int) (v20:Int) (v21:LT) (v22:Int) (v23:Int) (v24:Int) (v25:Int):Option R:=
 w0 v18 (0:Int) v19 v20 v21 v22 v23 v24 v25 ([]:LT)
def f87.j0' {R:Type} (L N:Nat) (self87:Tree→LI→Option (Tree)) (k:Tree→Option R) (w0:LI→Int→Int→Int→LT→Int→Int→Int→Int→LT→Option R) (v9:LI) (v10:Bool) (v11:Int) (v12:Int) (v13:LT) (v14:Int) (v15:Int) (v16:Int) (v17:Int):Option R:=
 bif v10 then
  bif (decide (0≤(wi ((wi (0-v12))-(1:Int))))&&decide ((wi ((wi (0-v12))-(1:Int)))<(v9.length:Int))) then
   f87.j2' L N self87 k w0 v9 v11 v12 v13 v14 v15 v16 (wi (0-(wi ((listAt v9 (0:Int) (wi ((wi (0-v12))-(1:Int))).toNat)+(1:Int)))))
  else none
 else f87.j2' L N self87 k w0 v9 v11 v12 v13 v14 v15 v16 v17
def f87.j1' {R:Type} (L N:Nat) (self87:Tree→LI→Option (Tree)) (k:Tree→Option R) (w0:LI→Int→Int→Int→LT→Int→Int→Int→Int→LT→Option R) (v0:LI) (v1:Bool) (v2:Int) (v3:Int) (v4:LT) (v5:Int) (v6:Int) (v7:Int) (v8:Int):Option R:=
 bif v1 then
  bif (decide (0≤(wi (v3-(1:Int))))&&decide ((wi (v3-(1:Int)))<(v0.length:Int))) then
   f87.j2' L N self87 k w0 v0 v2 v3 v4 v5 v6 v7 (wi ((listAt v0 (0:Int) (wi (v3-(1:Int))).toNat)+(1:Int)))
  else none
 else bif (v2==(1:Int)) then
  f87.j0' L N self87 k w0 v0 (decide (v3<(0:Int))) v2 v3 v4 v5 v6 v7 v8
 else f87.j0' L N self87 k w0 v0 false v2 v3 v4 v5 v6 v7 v8
def f87.b' {R:Type} (L N:Nat) (self87:Tree→LI→Option (Tree)) (k:Tree→Option R) (w0:LI→Int→Int→Int→LT→Int→Int→Int→Int→LT→Option R) (x0:Tree) (x1:LI):Option R:=
 bif (x0.op==(4:Int)) then
  bif (decide (0≤x0.n)&&decide (x0.n<(x1.length:Int))) then
   f87.j2' L N self87 k w0 x1 x0.op x0.n x0.parts (0:Int) (0:Int) x0.op (listAt x1 (0:Int) x0.n.toNat)
  else none
 else bif (x0.op==(1:Int)) then
  f87.j1' L N self87 k w0 x1 (decide (x0.n>(0:Int))) x0.op x0.n x0.parts (0:Int) (0:Int) x0.op x0.n
 else f87.j1' L N self87 k w0 x1 false x0.op x0.n x0.parts (0:Int) (0:Int) x0.op x0.n
def f87.b {R:Type} (L N:Nat) (self87:Tree→LI→Option (Tree)) (k:Tree→Option R) (x0:Tree) (x1:LI):Option R:=
 f87.b' L N self87 k (fun s26 s27 s28 s29 s30 s31 s32 s33 s34 s35=>f87.l0 L N self87 (fun z36 z37 z38 z39 z40=>f87.p0_e1 L N self87 k z36 z37 z38 z39 z40) L s26 s27 s28 s29 s30 s31 s32 s33 s34 s35) x0 x1
def f87 (L N:Nat):Nat→Tree→LI→Option (Tree)
 |0,_,_=>none
 |n+1,x0,x1=>f87.b L N (f87 L N n) some x0 x1
def f87.ent (L N m:Nat):=entDa [(.st 1),(.sl i64)] (.one (.st 1)) fun d=>f87 L N m d.1 d.2.1
def Φ87s (L N m:Nat):Tells:=(addT (Φ55 L N) 87 (f87.ent L N m))
noncomputable def E87 (L N m:Nat):Env:={P:=Tryz.prog,ty:=tyOf,Φ:=Φ87s L N m,inl:=inlT,live:=lives,liveX:=livesX,L:=L,dp:=none,prom:=promT,heal:=healT,ren:=renT}
noncomputable def f87.c0:Code:=loopAt 1 (codeOf Tryz.f87)
def f87.X0_e1 {R:Type} (κ:KX R):=fun z36 z37 z38 z39 z40=>κ (.exit 1) (f87.T0_e1 z36 z37 z38 z39 z40) (f87.H0_e1 z36 z37 z38 z39 z40)
def f87.R0 {R:Type} (rec:KT R):=fun s26 s27 s28 s29 s30 s31 s32 s33 s34 s35=>rec (f87.T0 s26 s27 s28 s29 s30 s31 s32 s33 s34 s35) (f87.H0 s26 s27 s28 s29 s30 s31 s32 s33 s34 s35)
theorem f87.s0_eq {R:Type} (L N m:Nat) (κ:KX R) (rec:KT R) (s26:LI) (s27:Int) (s28:Int) (s29:Int) (s30:LT) (s31:Int) (s32:Int) (s33:Int) (s34:Int) (s35:LT):
  evRd (E87 L N m) (evCallI (E87 L N m) 0 1000) 1000 87 78 1 f87.c0 κ rec (f87.T0 s26 s27 s28 s29 s30 s31 s32 s33 s34 s35) (f87.H0 s26 s27 s28 s29 s30 s31 s32 s33 s34 s35)
  =f87.s0 L N (f87 L N m) (f87.X0_e1 κ) (f87.R0 rec) s26 s27 s28 s29 s30 s31 s32 s33 s34 s35:=by kernel_rfl
theorem f87.l0_eq {R:Type} (L N m:Nat) (κ:KX R):∀(n:Nat) (s26:LI) (s27:Int) (s28:Int) (s29:Int) (s30:LT) (s31:Int) (s32:Int) (s33:Int) (s34:Int) (s35:LT),
  evLp (E87 L N m) (evCallI (E87 L N m) 0 1000) 1000 87 78 1 f87.c0 κ n (f87.T0 s26 s27 s28 s29 s30 s31 s32 s33 s34 s35) (f87.H0 s26 s27 s28 s29 s30 s31 s32 s33 s34 s35)
  =f87.l0 L N (f87 L N m) (f87.X0_e1 κ) n s26 s27 s28 s29 s30 s31 s32 s33 s34 s35:=by
 intro n
 induction n with
 |zero=>intros;rfl
 |succ n ih=>
  intro s26 s27 s28 s29 s30 s31 s32 s33 s34 s35
  rw [evLp_succ,f87.s0_eq]
  delta f87.R0
  simp only [ih]
  rfl
theorem f87.p0_e1_eq {R:Type} (L N m:Nat) (κ:AV→Option R) (z36:Int) (z37:Int) (z38:Int) (z39:Int) (z40:LT):
  (contAt (E87 L N m) (evCallI (E87 L N m) 0 1000) 1000 87 78 1 (codeOf Tryz.f87) (finK (E87 L N m) 1000 Tryz.f87 (finC (.one (.st 1)) κ))) (.exit 1) (f87.T0_e1 z36 z37 z38 z39 z40) (f87.H0_e1 z36 z37 z38 z39 z40)
  =f87.p0_e1 L N (f87 L N m) (fun a0=>κ (.tv (.st 1) a0)) z36 z37 z38 z39 z40:=by kernel_rfl
theorem f87.b_eq {R:Type} (L N m:Nat) (κ:AV→Option R) (x0:Tree) (x1:LI):
  evBody (E87 L N m) (evCallI (E87 L N m) 0 1000) 1000 87 Tryz.f87 [(.tv (.st 1) x0),(.tv (.sl i64) x1)] [] [] (finC (.one (.st 1)) κ)
  =f87.b L N (f87 L N m) (fun a0=>κ (.tv (.st 1) a0)) x0 x1:=by
 refine Eq.trans (b:=f87.b' L N (f87 L N m) (fun a0=>κ (.tv (.st 1) a0)) (fun s26 s27 s28 s29 s30 s31 s32 s33 s34 s35=>evLp (E87 L N m) (evCallI (E87 L N m) 0 1000) 1000 87 78 1 f87.c0 (contAt (E87 L N m) (evCallI (E87 L N m) 0 1000) 1000 87 78 1 (codeOf Tryz.f87) (finK (E87 L N m) 1000 Tryz.f87 (finC (.one (.st 1)) κ))) L (f87.T0 s26 s27 s28 s29 s30 s31 s32 s33 s34 s35) (f87.H0 s26 s27 s28 s29 s30 s31 s32 s33 s34 s35)) x0 x1) (by kernel_rfl) ?_
 unfold f87.b
 simp only [f87.l0_eq]
 delta f87.X0_e1
 simp only [f87.p0_e1_eq]
theorem f87.ok (L N m:Nat) (hΦ:TellsOk Tryz.prog (Φ87s L N m)):EntOk Tryz.prog 87 (f87.ent L N (m+1)):=entDa_ok (E:=(E87 L N m)) (dep:=1000) (f:=Tryz.f87) (sound_of hΦ) okP (callI_sound (sound_of hΦ) okP 0 1000) rfl fun d _ hy=>(f87.b_eq L N m (unR (.one (.st 1))) d.1 d.2.1).trans (Eq.trans (b:=f87.b L N (f87 L N m) some d.1 d.2.1) (by kernel_rfl) hy)
theorem Φ87s_ok (L N:Nat):∀m,TellsOk Tryz.prog (Φ87s L N m):=by
 intro m
 induction m with
 |zero=>exact (addT_ok (Φ55_ok L N) (entDa_no fun _=>rfl))
 |succ m ih=>exact (addT_ok (Φ55_ok L N) (f87.ok L N m ih))
def Φ87 (L N:Nat):Tells:=(addT (Φ55 L N) 87 (f87.ent L N N))
theorem Φ87_ok (L N:Nat):TellsOk Tryz.prog (Φ87 L N):=Φ87s_ok L N N
def f88.s0' {R:Type} (L N:Nat) (k0_e0:Int→Int→LI→Option R) (rec0:Int→Int→Int→LI→Option R) (s0:Int) (s1:Int) (s2:Int) (s3:LI):Option R:=
 bif (decide (s2<(4:Int))) then
  bif (decide (s3.length+([s2]:LI).length≤lim)) then
   rec0 s0 s1 (wi (s2+(1:Int))) (s3++([s2]:LI))
  else none
 else k0_e0 s0 s1 s3
def f88.s0 {R:Type} (L N:Nat) (k0_e0:Int→Int→LI→Option R) (rec0:Int→Int→Int→LI→Option R) (s0:Int) (s1:Int) (s2:Int) (s3:LI):Option R:=
 f88.s0' L N k0_e0 rec0 s0 s1 s2 s3
def f88.l0 {R:Type} (L N:Nat) (k0_e0:Int→Int→LI→Option R):Nat→Int→Int→Int→LI→Option R
 |0,_,_,_,_=>none
 |n+1,s0,s1,s2,s3=>f88.s0 L N k0_e0 (f88.l0 L N k0_e0 n) s0 s1 s2 s3
def f88.T0 (s0:Int) (s1:Int) (s2:Int) (s3:LI):T:=mkT 25 [(0,(.tv i64 s0)),(1,(.tv i64 s1)),(5,(.row 1007)),(6,(.tv i64 s2))]
def f88.H0 (s0:Int) (s1:Int) (s2:Int) (s3:LI):H:=[(1007,(.row 3 i64 s3))]
def f88.T0_e0 (z4:Int) (z5:Int) (z6:LI):T:=mkT 25 [(0,(.tv i64 z4)),(1,(.tv i64 z5)),(5,(.row 1007))]
def f88.H0_e0 (z4:Int) (z5:Int) (z6:LI):H:=[(1007,(.row 3 i64 z6))]
def f88.p0_e0' {R:Type} (L N:Nat) (k:LI→Option R) (z4:Int) (z5:Int) (z6:LI):Option R:=
 bif (decide (0≤z4)&&decide (z4<(z6.length:Int))) then
  bif (decide (0≤z5)&&decide (z5<((z6.set z4.toNat z5).length:Int))) then
   k ((z6.set z4.toNat z5).set z5.toNat z4)
  else none
 else none
def f88.p0_e0 {R:Type} (L N:Nat) (k:LI→Option R) (z4:Int) (z5:Int) (z6:LI):Option R:=
 f88.p0_e0' L N k z4 z5 z6
def f88.b' {R:Type} (L N:Nat) (k:LI→Option R) (w0:Int→Int→Int→LI→Option R) (x0:Int) (x1:Int):Option R:=
 w0 x0 x1 (0:Int) ([]:LI)
def f88.b {R:Type} (L N:Nat) (k:LI→Option R) (x0:Int) (x1:Int):Option R:=
 f88.b' L N k (fun s0 s1 s2 s3=>f88.l0 L N (fun z4 z5 z6=>f88.p0_e0 L N k z4 z5 z6) L s0 s1 s2 s3) x0 x1
def f88 (L N:Nat) (x0:Int) (x1:Int):Option (LI):=f88.b L N some x0 x1
def f88.ent (L N:Nat):=entDa [i64,i64] (.one (.sl i64)) fun d=>f88 L N d.1 d.2.1
noncomputable def E88 (L N:Nat):Env:={P:=Tryz.prog,ty:=tyOf,Φ:=(Φ87 L N),inl:=inlT,live:=lives,liveX:=livesX,L:=L,dp:=none,prom:=promT,heal:=healT,ren:=renT}
noncomputable def f88.c0:Code:=loopAt 0 (codeOf Tryz.f88)
def f88.X0_e0 {R:Type} (κ:KX R):=fun z4 z5 z6=>κ (.exit 0) (f88.T0_e0 z4 z5 z6) (f88.H0_e0 z4 z5 z6)
def f88.R0 {R:Type} (rec:KT R):=fun s0 s1 s2 s3=>rec (f88.T0 s0 s1 s2 s3) (f88.H0 s0 s1 s2 s3)
theorem f88.s0_eq {R:Type} (L N:Nat) (κ:KX R) (rec:KT R) (s0:Int) (s1:Int) (s2:Int) (s3:LI):
  evRd (E88 L N) (evCallI (E88 L N) 0 1000) 1000 88 25 0 f88.c0 κ rec (f88.T0 s0 s1 s2 s3) (f88.H0 s0 s1 s2 s3)
  =f88.s0 L N (f88.X0_e0 κ) (f88.R0 rec) s0 s1 s2 s3:=by kernel_rfl
theorem f88.l0_eq {R:Type} (L N:Nat) (κ:KX R):∀(n:Nat) (s0:Int) (s1:Int) (s2:Int) (s3:LI),
  evLp (E88 L N) (evCallI (E88 L N) 0 1000) 1000 88 25 0 f88.c0 κ n (f88.T0 s0 s1 s2 s3) (f88.H0 s0 s1 s2 s3)
  =f88.l0 L N (f88.X0_e0 κ) n s0 s1 s2 s3:=by
 intro n
 induction n with
 |zero=>intros;rfl
 |succ n ih=>
  intro s0 s1 s2 s3
  rw [evLp_succ,f88.s0_eq]
  delta f88.R0
  simp only [ih]
  rfl
theorem f88.p0_e0_eq {R:Type} (L N:Nat) (κ:AV→Option R) (z4:Int) (z5:Int) (z6:LI):
  (contAt (E88 L N) (evCallI (E88 L N) 0 1000) 1000 88 25 0 (codeOf Tryz.f88) (finK (E88 L N) 1000 Tryz.f88 (finC (.one (.sl i64)) κ))) (.exit 0) (f88.T0_e0 z4 z5 z6) (f88.H0_e0 z4 z5 z6)
  =f88.p0_e0 L N (fun a0=>κ (.tv (.sl i64) a0)) z4 z5 z6:=by kernel_rfl
theorem f88.b_eq {R:Type} (L N:Nat) (κ:AV→Option R) (x0:Int) (x1:Int):
  evBody (E88 L N) (evCallI (E88 L N) 0 1000) 1000 88 Tryz.f88 [(.tv i64 x0),(.tv i64 x1)] [] [] (finC (.one (.sl i64)) κ)
  =f88.b L N (fun a0=>κ (.tv (.sl i64) a0)) x0 x1:=by
 refine Eq.trans (b:=f88.b' L N (fun a0=>κ (.tv (.sl i64) a0)) (fun s0 s1 s2 s3=>evLp (E88 L N) (evCallI (E88 L N) 0 1000) 1000 88 25 0 f88.c0 (contAt (E88 L N) (evCallI (E88 L N) 0 1000) 1000 88 25 0 (codeOf Tryz.f88) (finK (E88 L N) 1000 Tryz.f88 (finC (.one (.sl i64)) κ))) L (f88.T0 s0 s1 s2 s3) (f88.H0 s0 s1 s2 s3)) x0 x1) (by kernel_rfl) ?_
 unfold f88.b
 simp only [f88.l0_eq]
 delta f88.X0_e0
 simp only [f88.p0_e0_eq]
theorem f88.ok (L N:Nat) (hΦ:TellsOk Tryz.prog ((Φ87 L N))):EntOk Tryz.prog 88 (f88.ent L N):=entDa_ok (E:=(E88 L N)) (dep:=1000) (f:=Tryz.f88) (sound_of hΦ) okP (callI_sound (sound_of hΦ) okP 0 1000) rfl fun d _ hy=>(f88.b_eq L N (unR (.one (.sl i64))) d.1 d.2.1).trans (Eq.trans (b:=f88.b L N some d.1 d.2.1) (by kernel_rfl) hy)
def Φ88 (L N:Nat):Tells:=(addT (Φ87 L N) 88 (f88.ent L N))
theorem Φ88_ok (L N:Nat):TellsOk Tryz.prog (Φ88 L N):=addT_ok (Φ87_ok L N) (f88.ok L N (Φ87_ok L N))
def f56.b' {R:Type} (L N:Nat) (k:Tree→Option R) (x0:Tree):Option R:=
 (f88 L N (0:Int) (0:Int)).bind fun y0=>
 (f87 L N N (Tree.mk x0.op x0.n x0.parts) y0).bind fun y1=>
 k (Tree.mk y1.op y1.n y1.parts)
def f56.b {R:Type} (L N:Nat) (k:Tree→Option R) (x0:Tree):Option R:=
 f56.b' L N k x0
def f56 (L N:Nat) (x0:Tree):Option (Tree):=f56.b L N some x0
def f56.ent (L N:Nat):=entDa [(.st 1)] (.one (.st 1)) fun d=>f56 L N d.1
noncomputable def E56 (L N:Nat):Env:={P:=Tryz.prog,ty:=tyOf,Φ:=(Φ88 L N),inl:=inlT,live:=lives,liveX:=livesX,L:=L,dp:=none,prom:=promT,heal:=healT,ren:=renT}
theorem f56.b_eq {R:Type} (L N:Nat) (κ:AV→Option R) (x0:Tree):
  evBody (E56 L N) (evCallI (E56 L N) 0 1000) 1000 56 Tryz.f56 [(.tv (.st 1) x0)] [] [] (finC (.one (.st 1)) κ)
  =f56.b L N (fun a0=>κ (.tv (.st 1) a0)) x0:=by kernel_rfl
theorem f56.ok (L N:Nat) (hΦ:TellsOk Tryz.prog ((Φ88 L N))):EntOk Tryz.prog 56 (f56.ent L N):=entDa_ok (E:=(E56 L N)) (dep:=1000) (f:=Tryz.f56) (sound_of hΦ) okP (callI_sound (sound_of hΦ) okP 0 1000) rfl fun d _ hy=>(f56.b_eq L N (unR (.one (.st 1))) d.1).trans (Eq.trans (b:=f56.b L N some d.1) (by kernel_rfl) hy)
def Φ56 (L N:Nat):Tells:=(addT (Φ88 L N) 56 (f56.ent L N))
theorem Φ56_ok (L N:Nat):TellsOk Tryz.prog (Φ56 L N):=addT_ok (Φ88_ok L N) (f56.ok L N (Φ88_ok L N))
def f18.j0' {R:Type} (L N:Nat) (k:Tree→Bool→Option R) (v10:Int) (v11:LI) (v12:Int) (v13:Int) (v14:LT) (v15:Int) (v16:Int):Option R:=
 (f55 L N N (Tree.mk v12 v13 v14) v10 v11).bind fun y17=>
 bif (!y17.2) then
  k (Tree.mk (0:Int) (0:Int) []) false
 else (f53 L N (Tree.mk y17.1.op y17.1.n y17.1.parts)).bind fun y18=>
 bif (!y18) then
  k (Tree.mk (0:Int) (0:Int) []) false
 else (f56 L N (Tree.mk y17.1.op y17.1.n y17.1.parts)).bind fun y32=>
 k (Tree.mk y32.op y32.n y32.parts) true
def f18.b' {R:Type} (L N:Nat) (k:Tree→Bool→Option R) (x0:Tree) (x1:Int) (x2:LI):Option R:=
 (f53 L N (Tree.mk x0.op x0.n x0.parts)).bind fun y0=>
 bif (!y0) then
  k (Tree.mk (0:Int) (0:Int) []) false
 else (f54 L N x1 (0:Int) (11:Int)).bind fun y1=>
 bif (!y1) then
  k (Tree.mk (0:Int) (0:Int) []) false
 else f18.j0' L N k x1 x2 x0.op x0.n x0.parts (0:Int) (0:Int)
def f18.b {R:Type} (L N:Nat) (k:Tree→Bool→Option R) (x0:Tree) (x1:Int) (x2:LI):Option R:=
 f18.b' L N k x0 x1 x2
def f18 (L N:Nat) (x0:Tree) (x1:Int) (x2:LI):Option (Tree×Bool):=f18.b L N (fun a0 a1=>some (a0,a1)) x0 x1 x2
def f18.ent (L N:Nat):=entDa [(.st 1),i64,(.sl i64)] (.many [(.st 1),.bool]) fun d=>f18 L N d.1 d.2.1 d.2.2.1
noncomputable def E18 (L N:Nat):Env:={P:=Tryz.prog,ty:=tyOf,Φ:=(Φ56 L N),inl:=inlT,live:=lives,liveX:=livesX,L:=L,dp:=none,prom:=promT,heal:=healT,ren:=renT}
theorem f18.b_eq {R:Type} (L N:Nat) (κ:AV→Option R) (x0:Tree) (x1:Int) (x2:LI):
  evBody (E18 L N) (evCallI (E18 L N) 0 1000) 1000 18 Tryz.f18 [(.tv (.st 1) x0),(.tv i64 x1),(.tv (.sl i64) x2)] [] [] (finC (.many [(.st 1),.bool]) κ)
  =f18.b L N (fun a0 a1=>κ (.tup [(.tv (.st 1) a0),(.tv .bool a1)])) x0 x1 x2:=by kernel_rfl
theorem f18.ok (L N:Nat) (hΦ:TellsOk Tryz.prog ((Φ56 L N))):EntOk Tryz.prog 18 (f18.ent L N):=entDa_ok (E:=(E18 L N)) (dep:=1000) (f:=Tryz.f18) (sound_of hΦ) okP (callI_sound (sound_of hΦ) okP 0 1000) rfl fun d _ hy=>(f18.b_eq L N (unR (.many [(.st 1),.bool])) d.1 d.2.1 d.2.2.1).trans (Eq.trans (b:=f18.b L N (fun a0 a1=>some (a0,a1)) d.1 d.2.1 d.2.2.1) (by kernel_rfl) hy)
def Φ18 (L N:Nat):Tells:=(addT (Φ56 L N) 18 (f18.ent L N))
theorem Φ18_ok (L N:Nat):TellsOk Tryz.prog (Φ18 L N):=addT_ok (Φ56_ok L N) (f18.ok L N (Φ56_ok L N))
def f33.b' {R:Type} (L N:Nat) (k:LI→Int→Option R) (x0:LI):Option R:=
 bif (decide ((x0.length:Int)>(2000:Int))) then
  bif (slB (0:Int) (2000:Int) x0.length) then
   k (slX x0 (0:Int) (2000:Int)) (0:Int)
  else none
 else k x0 (0:Int)
def f33.b {R:Type} (L N:Nat) (k:LI→Int→Option R) (x0:LI):Option R:=
 f33.b' L N k x0
def f33 (L N:Nat) (x0:LI):Option (LI×Int):=f33.b L N (fun a0 a1=>some (a0,a1)) x0
def f33.ent (L N:Nat) (args:List AV) (vw:View) (site:Nat):Ans:=match coeD [(.sl (.int .u8))] vw args with
 |some (d,u)=>⟨LI×Int,f33 L N d.1,fun y=>(.ptr site 0,u++[(site,some (.box [(.tv (.sl (.int .u8)) y.1),(.tv i64 y.2)]))],[])⟩
 |none=>Ans.no
noncomputable def E33 (L N:Nat):Env:={P:=Tryz.prog,ty:=tyOf,Φ:=(Φ18 L N),inl:=inlT,live:=lives,liveX:=livesX,L:=L,dp:=none,prom:=promT,heal:=healT,ren:=renT}
theorem f33.b_eq {R:Type} (L N:Nat) (κ:Dens [(.sl (.int .u8)),i64]→Option R) (x0:LI):
  evBody (E33 L N) (evCallI (E33 L N) 0 1000) 1000 33 Tryz.f33 [(.tv (.sl (.int .u8)) x0)] [] [] (finB [(.sl (.int .u8)),i64] κ)
  =f33.b L N (fun a0 a1=>κ (a0,a1,())) x0:=by kernel_rfl
theorem f33.ok (L N:Nat) (hΦ:TellsOk Tryz.prog ((Φ18 L N))):EntOk Tryz.prog 33 (f33.ent L N):=by
 intro args vw site h
 unfold f33.ent
 split
 ·rename_i d u ha
  intro y hy hs
  refine call_newbox (y:=y) (dep:=1000) (d1:=(y.1,y.2,())) (E:=(E33 L N)) (ts:=[(.sl (.int .u8))]) (tb:=[(.sl (.int .u8)),i64]) (κ:=(fun d=>some (d.1,d.2.1))) (sound_of hΦ) okP (callI_sound (sound_of hΦ) okP 0 1000) (f:=Tryz.f33) rfl hs ha ?_ (fun _ h=>by obtain rfl:=Option.some.inj h;rfl) site
  exact (f33.b_eq L N (fun d=>some (d.1,d.2.1)) d.1).trans (Eq.trans (b:=f33.b L N (fun a0 a1=>some (a0,a1)) d.1) (by kernel_rfl) hy)
 ·intro y hy
  cases hy
def Φ33 (L N:Nat):Tells:=(addT (Φ18 L N) 33 (f33.ent L N))
theorem Φ33_ok (L N:Nat):TellsOk Tryz.prog (Φ33 L N):=addT_ok (Φ18_ok L N) (f33.ok L N (Φ18_ok L N))
def f49.j0' {R:Type} (L N:Nat) (k:Int→LI→Int→Option R) (v4:Int) (v5:LI) (v6:Int):Option R:=
 bif (decide ((wi (v6-(1:Int)))<(v5.length:Int))) then
  bif (decide (0≤(wi (v6-(1:Int))))&&decide ((wi (v6-(1:Int)))<(v5.length:Int))) then
   bif (decide (v4=0)) then
    none
   else k (Int.tmod (wi ((listAt v5 (0:Int) (wi (v6-(1:Int))).toNat))) v4) v5 v6
  else none
 else bif (decide ((v5.length:Int)=0)) then
  none
 else bif (decide (0≤(Int.tmod (wi (v6-(1:Int))) (v5.length:Int)))&&decide ((Int.tmod (wi (v6-(1:Int))) (v5.length:Int))<(v5.length:Int))) then
  bif (decide ((v5.length:Int)=0)) then
   none
  else bif (decide (0≤(Int.tmod (wi ((wi ((wi (v6-(1:Int)))*(7:Int)))+(3:Int))) (v5.length:Int)))&&decide ((Int.tmod (wi ((wi ((wi (v6-(1:Int)))*(7:Int)))+(3:Int))) (v5.length:Int))<(v5.length:Int))) then
   bif (decide ((v5.length:Int)=0)) then
    none
   else bif (decide ((64:Int)=0)) then
    none
   else bif (decide (v4=0)) then
    none
   else k (Int.tmod (IntKind.wrap .i64 ((BitVec.ofInt (IntKind.bits .i64) (wi ((wi ((wi ((wi ((wi ((listAt v5 (0:Int) (Int.tmod (wi (v6-(1:Int))) (v5.length:Int)).toNat)))*(131:Int)))+(wi ((wi ((listAt v5 (0:Int) (Int.tmod (wi ((wi ((wi (v6-(1:Int)))*(7:Int)))+(3:Int))) (v5.length:Int)).toNat)))*(1117:Int)))))+(wi ((wi (v6-(1:Int)))*(29:Int)))))+(wi ((wi (Int.tdiv (wi (v6-(1:Int))) (v5.length:Int)))*(53:Int)))))^^^BitVec.ofInt (IntKind.bits .i64) (wi (Int.tdiv (wi ((wi ((wi ((wi ((wi ((listAt v5 (0:Int) (Int.tmod (wi (v6-(1:Int))) (v5.length:Int)).toNat)))*(131:Int)))+(wi ((wi ((listAt v5 (0:Int) (Int.tmod (wi ((wi ((wi (v6-(1:Int)))*(7:Int)))+(3:Int))) (v5.length:Int)).toNat)))*(1117:Int)))))+(wi ((wi (v6-(1:Int)))*(29:Int)))))+(wi ((wi (Int.tdiv (wi (v6-(1:Int))) (v5.length:Int)))*(53:Int))))) (64:Int)))).toNat)) v4) v5 v6
  else none
 else none
def f49.b' {R:Type} (L N:Nat) (k:Int→LI→Int→Option R) (c0:LI) (c1:Int) (x0:Int):Option R:=
 bif (decide (x0<(1:Int))) then
  k (0:Int) c0 (wi (c1+(1:Int)))
 else bif ((c0.length:Int)==(0:Int)) then
  k (0:Int) c0 (wi (c1+(1:Int)))
 else f49.j0' L N k x0 c0 (wi (c1+(1:Int)))
def f49.b {R:Type} (L N:Nat) (k:Int→LI→Int→Option R) (c0:LI) (c1:Int) (x0:Int):Option R:=
 f49.b' L N k c0 c1 x0
def f49 (L N:Nat) (c0:LI) (c1:Int) (x0:Int):Option (Int×LI×Int):=f49.b L N (fun a0 a1 a2=>some (a0,a1,a2)) c0 c1 x0
def f49.ent (L N:Nat) (args:List AV) (vw:View) (site:Nat):Ans:=match boxD [(.sl (.int .u8)),i64] [i64] vw args with
 |some (o,d0,d,u)=>⟨Int×LI×Int,f49 L N d0.1 d0.2.1 d.1,fun y=>((.tv i64 y.1),u++[(o,some (.box [(.tv (.sl (.int .u8)) y.2.1),(.tv i64 y.2.2)]))],[])⟩
 |none=>Ans.no
noncomputable def E49 (L N:Nat):Env:={P:=Tryz.prog,ty:=tyOf,Φ:=(Φ33 L N),inl:=inlT,live:=lives,liveX:=livesX,L:=L,dp:=none,prom:=promT,heal:=healT,ren:=renT}
theorem f49.b_eq {R:Type} (L N:Nat) (κ:AV→Dens [(.sl (.int .u8)),i64]→Option R) (c0:LI) (c1:Int) (x0:Int):
  evBody (E49 L N) (evCallI (E49 L N) 0 1000) 1000 49 Tryz.f49 [(.ptr 0 0),(.tv i64 x0)] [.ptr 0 0] [(0,(.box [(.tv (.sl (.int .u8)) c0),(.tv i64 c1)]))] (finM (.one i64) [(.sl (.int .u8)),i64] κ)
  =f49.b L N (fun a0 a1 a2=>κ (.tv i64 a0) (a1,a2,())) c0 c1 x0:=by kernel_rfl
theorem f49.ok (L N:Nat) (hΦ:TellsOk Tryz.prog ((Φ33 L N))):EntOk Tryz.prog 49 (f49.ent L N):=by
 intro args vw site h
 unfold f49.ent
 split
 ·rename_i o d0 d u ha
  intro y hy hs
  obtain ⟨rest,cs,rfl,ho,hd0,hr,hu⟩:=boxD_some ha
  refine call_box (y:=y) (dep:=1000) (v':=(.tv i64 y.1)) (d1:=(y.2.1,y.2.2,())) (E:=(E49 L N)) (ts:=[(.sl (.int .u8)),i64]) (tr:=[i64]) (rs:=(.one i64)) (κ:=(fun v d=>(unR (.one i64) v).bind fun x=>some (x,d.1,d.2.1))) (sound_of hΦ) okP (callI_sound (sound_of hΦ) okP 0 1000) (f:=Tryz.f49) rfl hs ho hd0 hr hu ?_ (fun _ _ h=>by obtain ⟨x,h1,h2⟩:=unR_bind h;obtain rfl:=Option.some.inj h2;exact ⟨h1,rfl⟩) site
  exact (f49.b_eq L N (fun v d=>(unR (.one i64) v).bind fun x=>some (x,d.1,d.2.1)) d0.1 d0.2.1 d.1).trans (Eq.trans (b:=f49.b L N (fun a0 a1 a2=>some (a0,a1,a2)) d0.1 d0.2.1 d.1) (by kernel_rfl) hy)
 ·intro y hy
  cases hy
def Φ49 (L N:Nat):Tells:=(addT (Φ33 L N) 49 (f49.ent L N))
theorem Φ49_ok (L N:Nat):TellsOk Tryz.prog (Φ49 L N):=addT_ok (Φ33_ok L N) (f49.ok L N (Φ33_ok L N))
def f64.b' {R:Type} (L N:Nat) (k:Int→LI→Int→Option R) (c0:LI) (c1:Int):Option R:=
 (f49 L N c0 c1 (3:Int)).bind fun y0=>
 bif (decide (y0.1>(0:Int))) then
  (f49 L N y0.2.1 y0.2.2 (5:Int)).bind fun y1=>
  k (wi (y1.1-(2:Int))) y1.2.1 y1.2.2
 else (f49 L N y0.2.1 y0.2.2 (9:Int)).bind fun y2=>
 k (wi (y2.1-(4:Int))) y2.2.1 y2.2.2
def f64.b {R:Type} (L N:Nat) (k:Int→LI→Int→Option R) (c0:LI) (c1:Int):Option R:=
 f64.b' L N k c0 c1
def f64 (L N:Nat) (c0:LI) (c1:Int):Option (Int×LI×Int):=f64.b L N (fun a0 a1 a2=>some (a0,a1,a2)) c0 c1
def f64.ent (L N:Nat) (args:List AV) (vw:View) (site:Nat):Ans:=match boxD [(.sl (.int .u8)),i64] [] vw args with
 |some (o,d0,d,u)=>⟨Int×LI×Int,f64 L N d0.1 d0.2.1,fun y=>((.tv i64 y.1),u++[(o,some (.box [(.tv (.sl (.int .u8)) y.2.1),(.tv i64 y.2.2)]))],[])⟩
 |none=>Ans.no
noncomputable def E64 (L N:Nat):Env:={P:=Tryz.prog,ty:=tyOf,Φ:=(Φ49 L N),inl:=inlT,live:=lives,liveX:=livesX,L:=L,dp:=none,prom:=promT,heal:=healT,ren:=renT}
theorem f64.b_eq {R:Type} (L N:Nat) (κ:AV→Dens [(.sl (.int .u8)),i64]→Option R) (c0:LI) (c1:Int):
  evBody (E64 L N) (evCallI (E64 L N) 0 1000) 1000 64 Tryz.f64 [(.ptr 0 0)] [.ptr 0 0] [(0,(.box [(.tv (.sl (.int .u8)) c0),(.tv i64 c1)]))] (finM (.one i64) [(.sl (.int .u8)),i64] κ)
  =f64.b L N (fun a0 a1 a2=>κ (.tv i64 a0) (a1,a2,())) c0 c1:=by kernel_rfl
theorem f64.ok (L N:Nat) (hΦ:TellsOk Tryz.prog ((Φ49 L N))):EntOk Tryz.prog 64 (f64.ent L N):=by
 intro args vw site h
 unfold f64.ent
 split
 ·rename_i o d0 d u ha
  intro y hy hs
  obtain ⟨rest,cs,rfl,ho,hd0,hr,hu⟩:=boxD_some ha
  refine call_box (y:=y) (dep:=1000) (v':=(.tv i64 y.1)) (d1:=(y.2.1,y.2.2,())) (E:=(E64 L N)) (ts:=[(.sl (.int .u8)),i64]) (tr:=[]) (rs:=(.one i64)) (κ:=(fun v d=>(unR (.one i64) v).bind fun x=>some (x,d.1,d.2.1))) (sound_of hΦ) okP (callI_sound (sound_of hΦ) okP 0 1000) (f:=Tryz.f64) rfl hs ho hd0 hr hu ?_ (fun _ _ h=>by obtain ⟨x,h1,h2⟩:=unR_bind h;obtain rfl:=Option.some.inj h2;exact ⟨h1,rfl⟩) site
  exact (f64.b_eq L N (fun v d=>(unR (.one i64) v).bind fun x=>some (x,d.1,d.2.1)) d0.1 d0.2.1).trans (Eq.trans (b:=f64.b L N (fun a0 a1 a2=>some (a0,a1,a2)) d0.1 d0.2.1) (by kernel_rfl) hy)
 ·intro y hy
  cases hy
def Φ64 (L N:Nat):Tells:=(addT (Φ49 L N) 64 (f64.ent L N))
theorem Φ64_ok (L N:Nat):TellsOk Tryz.prog (Φ64 L N):=addT_ok (Φ49_ok L N) (f64.ok L N (Φ49_ok L N))
def f80.j0' {R:Type} (L N:Nat) (self80:LI→Int→Int→Int→Bool→Option (Tree×LI×Int)) (k:Tree→LI→Int→Option R) (v10:Int) (v11:Int) (v12:Bool) (v13:Int) (v14:Bool) (v15:LI) (v16:Int) (v17:Int) (v18:Int):Option R:=
 bif v14 then
  (f49 L N v15 v16 v11).bind fun y19=>
  k (Tree.mk (5:Int) y19.1 []) y19.2.1 y19.2.2
 else bif (v13==(0:Int)) then
  k (Tree.mk (0:Int) (0:Int) []) v15 v16
 else bif (decide (v13<(5:Int))) then
  (f64 L N v15 v16).bind fun y20=>
  bif (v10==(0:Int)) then
   k (Tree.mk (1:Int) y20.1 ([(Tree.mk (0:Int) (0:Int) [])]:LT)) y20.2.1 y20.2.2
  else (self80 y20.2.1 y20.2.2 (bif decide ((wi (v10-(1:Int)))>(0:Int)) then (wi (v10-(1:Int))) else (0:Int)) v11 true).bind fun y21=>
  k (Tree.mk (1:Int) y20.1 ([y21.1]:LT)) y21.2.1 y21.2.2
 else bif (v13==(5:Int)) then
  (f49 L N v15 v16 (4:Int)).bind fun y22=>
  (self80 y22.2.1 y22.2.2 (wi (v10-(1:Int))) v11 v12).bind fun y23=>
  k (Tree.mk (4:Int) y22.1 ([y23.1]:LT)) y23.2.1 y23.2.2
 else bif (v13==(8:Int)) then
  (self80 v15 v16 (wi (v10-(1:Int))) v11 v12).bind fun y34=>
  (self80 y34.2.1 y34.2.2 (wi (v10-(1:Int))) v11 v12).bind fun y35=>
  k (Tree.mk (3:Int) (0:Int) ([(Tree.mk y34.1.op y34.1.n y34.1.parts),(Tree.mk y35.1.op y35.1.n y35.1.parts)]:LT)) y35.2.1 y35.2.2
 else (self80 v15 v16 (wi (v10-(1:Int))) v11 v12).bind fun y36=>
 (self80 y36.2.1 y36.2.2 (wi (v10-(1:Int))) v11 v12).bind fun y37=>
 k (Tree.mk (2:Int) (0:Int) ([(Tree.mk y36.1.op y36.1.n y36.1.parts),(Tree.mk y37.1.op y37.1.n y37.1.parts)]:LT)) y37.2.1 y37.2.2
def f80.j1' {R:Type} (L N:Nat) (self80:LI→Int→Int→Int→Bool→Option (Tree×LI×Int)) (k:Tree→LI→Int→Option R) (v2:Int) (v3:Int) (v4:Bool) (v5:Int) (v6:LI) (v7:Int) (v8:Int) (v9:Int):Option R:=
 bif (decide (v5<(2:Int))) then
  bif (decide (v3>(0:Int))) then
   f80.j0' L N self80 k v2 v3 v4 v5 v4 v6 v7 v8 v9
  else f80.j0' L N self80 k v2 v3 v4 v5 false v6 v7 v8 v9
 else f80.j0' L N self80 k v2 v3 v4 v5 false v6 v7 v8 v9
def f80.b' {R:Type} (L N:Nat) (self80:LI→Int→Int→Int→Bool→Option (Tree×LI×Int)) (k:Tree→LI→Int→Option R) (c0:LI) (c1:Int) (x0:Int) (x1:Int) (x2:Bool):Option R:=
 (f49 L N c0 c1 (9:Int)).bind fun y0=>
 bif (x0==(0:Int)) then
  (f49 L N y0.2.1 y0.2.2 (2:Int)).bind fun y1=>
  f80.j1' L N self80 k x0 x1 x2 y1.1 y1.2.1 y1.2.2 (0:Int) (0:Int)
 else f80.j1' L N self80 k x0 x1 x2 y0.1 y0.2.1 y0.2.2 (0:Int) (0:Int)
def f80.b {R:Type} (L N:Nat) (self80:LI→Int→Int→Int→Bool→Option (Tree×LI×Int)) (k:Tree→LI→Int→Option R) (c0:LI) (c1:Int) (x0:Int) (x1:Int) (x2:Bool):Option R:=
 f80.b' L N self80 k c0 c1 x0 x1 x2
def f80 (L N:Nat):Nat→LI→Int→Int→Int→Bool→Option (Tree×LI×Int)
 |0,_,_,_,_,_=>none
 |n+1,c0,c1,x0,x1,x2=>f80.b L N (f80 L N n) (fun a0 a1 a2=>some (a0,a1,a2)) c0 c1 x0 x1 x2
def f80.ent (L N m:Nat) (args:List AV) (vw:View) (site:Nat):Ans:=match boxD [(.sl (.int .u8)),i64] [i64,i64,.bool] vw args with
 |some (o,d0,d,u)=>⟨Tree×LI×Int,f80 L N m d0.1 d0.2.1 d.1 d.2.1 d.2.2.1,fun y=>((.tv (.st 1) y.1),u++[(o,some (.box [(.tv (.sl (.int .u8)) y.2.1),(.tv i64 y.2.2)]))],[])⟩
 |none=>Ans.no
def Φ80s (L N m:Nat):Tells:=(addT (Φ64 L N) 80 (f80.ent L N m))
noncomputable def E80 (L N m:Nat):Env:={P:=Tryz.prog,ty:=tyOf,Φ:=Φ80s L N m,inl:=inlT,live:=lives,liveX:=livesX,L:=L,dp:=none,prom:=promT,heal:=healT,ren:=renT}
theorem f80.b_eq {R:Type} (L N m:Nat) (κ:AV→Dens [(.sl (.int .u8)),i64]→Option R) (c0:LI) (c1:Int) (x0:Int) (x1:Int) (x2:Bool):
  evBody (E80 L N m) (evCallI (E80 L N m) 0 1000) 1000 80 Tryz.f80 [(.ptr 0 0),(.tv i64 x0),(.tv i64 x1),(.tv .bool x2)] [.ptr 0 0] [(0,(.box [(.tv (.sl (.int .u8)) c0),(.tv i64 c1)]))] (finM (.one (.st 1)) [(.sl (.int .u8)),i64] κ)
  =f80.b L N (f80 L N m) (fun a0 a1 a2=>κ (.tv (.st 1) a0) (a1,a2,())) c0 c1 x0 x1 x2:=by kernel_rfl
theorem f80.ok (L N m:Nat) (hΦ:TellsOk Tryz.prog (Φ80s L N m)):EntOk Tryz.prog 80 (f80.ent L N (m+1)):=by
 intro args vw site h
 unfold f80.ent
 split
 ·rename_i o d0 d u ha
  intro y hy hs
  obtain ⟨rest,cs,rfl,ho,hd0,hr,hu⟩:=boxD_some ha
  refine call_box (y:=y) (dep:=1000) (v':=(.tv (.st 1) y.1)) (d1:=(y.2.1,y.2.2,())) (E:=(E80 L N m)) (ts:=[(.sl (.int .u8)),i64]) (tr:=[i64,i64,.bool]) (rs:=(.one (.st 1))) (κ:=(fun v d=>(unR (.one (.st 1)) v).bind fun x=>some (x,d.1,d.2.1))) (sound_of hΦ) okP (callI_sound (sound_of hΦ) okP 0 1000) (f:=Tryz.f80) rfl hs ho hd0 hr hu ?_ (fun _ _ h=>by obtain ⟨x,h1,h2⟩:=unR_bind h;obtain rfl:=Option.some.inj h2;exact ⟨h1,rfl⟩) site
  exact (f80.b_eq L N m (fun v d=>(unR (.one (.st 1)) v).bind fun x=>some (x,d.1,d.2.1)) d0.1 d0.2.1 d.1 d.2.1 d.2.2.1).trans (Eq.trans (b:=f80.b L N (f80 L N m) (fun a0 a1 a2=>some (a0,a1,a2)) d0.1 d0.2.1 d.1 d.2.1 d.2.2.1) (by kernel_rfl) hy)
 ·intro y hy
  cases hy
theorem Φ80s_ok (L N:Nat):∀m,TellsOk Tryz.prog (Φ80s L N m):=by
 intro m
 induction m with
 |zero=>exact (addT_ok (Φ64_ok L N) (fun args vw site h=>by unfold f80.ent;split<;>(intro y hy;cases hy)))
 |succ m ih=>exact (addT_ok (Φ64_ok L N) (f80.ok L N m ih))
def Φ80 (L N:Nat):Tells:=(addT (Φ64 L N) 80 (f80.ent L N N))
theorem Φ80_ok (L N:Nat):TellsOk Tryz.prog (Φ80 L N):=Φ80s_ok L N N
def f47.b' {R:Type} (L N:Nat) (k:Tree→LI→Int→Option R) (c0:LI) (c1:Int) (x0:Int):Option R:=
 (f49 L N c0 c1 (4:Int)).bind fun y0=>
 (f80 L N N y0.2.1 y0.2.2 (wi ((1:Int)+y0.1)) x0 false).bind fun y1=>
 (f49 L N y1.2.1 y1.2.2 (24:Int)).bind fun y2=>
 bif (y2.1==(0:Int)) then
  k (Tree.mk ((Tree.mk y1.1.op (wi (y1.1.n+(7:Int))) y1.1.parts).op) ((Tree.mk y1.1.op (wi (y1.1.n+(7:Int))) y1.1.parts).n) ((Tree.mk y1.1.op (wi (y1.1.n+(7:Int))) y1.1.parts).parts)) y2.2.1 y2.2.2
 else bif (y2.1==(1:Int)) then
  (f49 L N y2.2.1 y2.2.2 (8:Int)).bind fun y3=>
  k (Tree.mk ((Tree.mk y3.1 y1.1.n y1.1.parts).op) ((Tree.mk y3.1 y1.1.n y1.1.parts).n) ((Tree.mk y3.1 y1.1.n y1.1.parts).parts)) y3.2.1 y3.2.2
 else bif (y2.1==(2:Int)) then
  bif (decide (([(Tree.mk (0:Int) (0:Int) [])]:LT).length+y1.1.parts.length≤lim)) then
   k (Tree.mk y1.1.op y1.1.n (([(Tree.mk (0:Int) (0:Int) [])]:LT)++y1.1.parts)) y2.2.1 y2.2.2
  else none
 else k (Tree.mk ((Tree.mk y1.1.op y1.1.n y1.1.parts).op) ((Tree.mk y1.1.op y1.1.n y1.1.parts).n) ((Tree.mk y1.1.op y1.1.n y1.1.parts).parts)) y2.2.1 y2.2.2
def f47.b {R:Type} (L N:Nat) (k:Tree→LI→Int→Option R) (c0:LI) (c1:Int) (x0:Int):Option R:=
 f47.b' L N k c0 c1 x0
def f47 (L N:Nat) (c0:LI) (c1:Int) (x0:Int):Option (Tree×LI×Int):=f47.b L N (fun a0 a1 a2=>some (a0,a1,a2)) c0 c1 x0
def f47.ent (L N:Nat) (args:List AV) (vw:View) (site:Nat):Ans:=match boxD [(.sl (.int .u8)),i64] [i64] vw args with
 |some (o,d0,d,u)=>⟨Tree×LI×Int,f47 L N d0.1 d0.2.1 d.1,fun y=>((.tv (.st 1) y.1),u++[(o,some (.box [(.tv (.sl (.int .u8)) y.2.1),(.tv i64 y.2.2)]))],[])⟩
 |none=>Ans.no
noncomputable def E47 (L N:Nat):Env:={P:=Tryz.prog,ty:=tyOf,Φ:=(Φ80 L N),inl:=inlT,live:=lives,liveX:=livesX,L:=L,dp:=none,prom:=promT,heal:=healT,ren:=renT}
theorem f47.b_eq {R:Type} (L N:Nat) (κ:AV→Dens [(.sl (.int .u8)),i64]→Option R) (c0:LI) (c1:Int) (x0:Int):
  evBody (E47 L N) (evCallI (E47 L N) 0 1000) 1000 47 Tryz.f47 [(.ptr 0 0),(.tv i64 x0)] [.ptr 0 0] [(0,(.box [(.tv (.sl (.int .u8)) c0),(.tv i64 c1)]))] (finM (.one (.st 1)) [(.sl (.int .u8)),i64] κ)
  =f47.b L N (fun a0 a1 a2=>κ (.tv (.st 1) a0) (a1,a2,())) c0 c1 x0:=by kernel_rfl
theorem f47.ok (L N:Nat) (hΦ:TellsOk Tryz.prog ((Φ80 L N))):EntOk Tryz.prog 47 (f47.ent L N):=by
 intro args vw site h
 unfold f47.ent
 split
 ·rename_i o d0 d u ha
  intro y hy hs
  obtain ⟨rest,cs,rfl,ho,hd0,hr,hu⟩:=boxD_some ha
  refine call_box (y:=y) (dep:=1000) (v':=(.tv (.st 1) y.1)) (d1:=(y.2.1,y.2.2,())) (E:=(E47 L N)) (ts:=[(.sl (.int .u8)),i64]) (tr:=[i64]) (rs:=(.one (.st 1))) (κ:=(fun v d=>(unR (.one (.st 1)) v).bind fun x=>some (x,d.1,d.2.1))) (sound_of hΦ) okP (callI_sound (sound_of hΦ) okP 0 1000) (f:=Tryz.f47) rfl hs ho hd0 hr hu ?_ (fun _ _ h=>by obtain ⟨x,h1,h2⟩:=unR_bind h;obtain rfl:=Option.some.inj h2;exact ⟨h1,rfl⟩) site
  exact (f47.b_eq L N (fun v d=>(unR (.one (.st 1)) v).bind fun x=>some (x,d.1,d.2.1)) d0.1 d0.2.1 d.1).trans (Eq.trans (b:=f47.b L N (fun a0 a1 a2=>some (a0,a1,a2)) d0.1 d0.2.1 d.1) (by kernel_rfl) hy)
 ·intro y hy
  cases hy
def Φ47 (L N:Nat):Tells:=(addT (Φ80 L N) 47 (f47.ent L N))
theorem Φ47_ok (L N:Nat):TellsOk Tryz.prog (Φ47 L N):=addT_ok (Φ80_ok L N) (f47.ok L N (Φ80_ok L N))
def f48.s0' {R:Type} (L N:Nat) (k0_e0:LI→Int→LI→Option R) (rec0:Int→LI→Int→Int→Int→LT→LI→Option R) (s1:Int) (s2:LI) (s3:Int) (s4:Int) (s5:Int) (s6:LT) (s7:LI):Option R:=
 bif (decide (s1>(0:Int))) then
  bif ((s6.length:Int)==(0:Int)) then
   k0_e0 s2 s3 s7
  else (f49 L N s2 s3 (s6.length:Int)).bind fun y11=>
  bif (decide (s7.length+([y11.1]:LI).length≤lim)) then
   bif (decide (0≤y11.1)&&decide (y11.1<(s6.length:Int))) then
    rec0 (wi (s1-(1:Int))) y11.2.1 y11.2.2 ((listAt s6 (Ty.dflt (.st 1)) y11.1.toNat).op) ((listAt s6 (Ty.dflt (.st 1)) y11.1.toNat).n) ((listAt s6 (Ty.dflt (.st 1)) y11.1.toNat).parts) (s7++([y11.1]:LI))
   else none
  else none
 else k0_e0 s2 s3 s7
def f48.s0 {R:Type} (L N:Nat) (k0_e0:LI→Int→LI→Option R) (rec0:Int→LI→Int→Int→Int→LT→LI→Option R) (s1:Int) (s2:LI) (s3:Int) (s4:Int) (s5:Int) (s6:LT) (s7:LI):Option R:=
 f48.s0' L N k0_e0 rec0 s1 s2 s3 s4 s5 s6 s7
def f48.l0 {R:Type} (L N:Nat) (k0_e0:LI→Int→LI→Option R):Nat→Int→LI→Int→Int→Int→LT→LI→Option R
 |0,_,_,_,_,_,_,_=>none
 |n+1,s1,s2,s3,s4,s5,s6,s7=>f48.s0 L N k0_e0 (f48.l0 L N k0_e0 n) s1 s2 s3 s4 s5 s6 s7
def f48.T0 (s1:Int) (s2:LI) (s3:Int) (s4:Int) (s5:Int) (s6:LT) (s7:LI):T:=mkT 40 [(0,(.ptr 0 0)),(3,(.ptr 1003 0)),(5,(.row 1008)),(6,(.tv i64 s1))]++[.ptr 0 0]
def f48.H0 (s1:Int) (s2:LI) (s3:Int) (s4:Int) (s5:Int) (s6:LT) (s7:LI):H:=[(0,(.box [(.tv (.sl (.int .u8)) s2),(.tv i64 s3)])),(1003,(.box [(.tv i64 s4),(.tv i64 s5),(.tv (.sl (.st 1)) s6)])),(1008,(.row 3 i64 s7))]
def f48.T0_e0 (z8:LI) (z9:Int) (z10:LI):T:=mkT 40 [(0,(.ptr 0 0)),(5,(.row 1008))]++[.ptr 0 0]
def f48.H0_e0 (z8:LI) (z9:Int) (z10:LI):H:=[(0,(.box [(.tv (.sl (.int .u8)) z8),(.tv i64 z9)])),(1008,(.row 3 i64 z10))]
def f48.p0_e0' {R:Type} (L N:Nat) (k:LI→LI→Int→Option R) (z8:LI) (z9:Int) (z10:LI):Option R:=
 (f49 L N z8 z9 (30:Int)).bind fun y12=>
 bif (y12.1==(0:Int)) then
  bif (decide (z10.length+([(5:Int)]:LI).length≤lim)) then
   k (z10++([(5:Int)]:LI)) y12.2.1 y12.2.2
  else none
 else k z10 y12.2.1 y12.2.2
def f48.p0_e0 {R:Type} (L N:Nat) (k:LI→LI→Int→Option R) (z8:LI) (z9:Int) (z10:LI):Option R:=
 f48.p0_e0' L N k z8 z9 z10
def f48.b' {R:Type} (L N:Nat) (k:LI→LI→Int→Option R) (w0:Int→LI→Int→Int→Int→LT→LI→Option R) (c0:LI) (c1:Int) (x0:Tree):Option R:=
 (f49 L N c0 c1 (4:Int)).bind fun y0=>
 w0 y0.1 y0.2.1 y0.2.2 x0.op x0.n x0.parts ([]:LI)
def f48.b {R:Type} (L N:Nat) (k:LI→LI→Int→Option R) (c0:LI) (c1:Int) (x0:Tree):Option R:=
 f48.b' L N k (fun s1 s2 s3 s4 s5 s6 s7=>f48.l0 L N (fun z8 z9 z10=>f48.p0_e0 L N k z8 z9 z10) L s1 s2 s3 s4 s5 s6 s7) c0 c1 x0
def f48 (L N:Nat) (c0:LI) (c1:Int) (x0:Tree):Option (LI×LI×Int):=f48.b L N (fun a0 a1 a2=>some (a0,a1,a2)) c0 c1 x0
def f48.ent (L N:Nat) (args:List AV) (vw:View) (site:Nat):Ans:=match boxD [(.sl (.int .u8)),i64] [(.st 1)] vw args with
 |some (o,d0,d,u)=>⟨LI×LI×Int,f48 L N d0.1 d0.2.1 d.1,fun y=>((.tv (.sl i64) y.1),u++[(o,some (.box [(.tv (.sl (.int .u8)) y.2.1),(.tv i64 y.2.2)]))],[])⟩
 |none=>Ans.no
noncomputable def E48 (L N:Nat):Env:={P:=Tryz.prog,ty:=tyOf,Φ:=(Φ47 L N),inl:=inlT,live:=lives,liveX:=livesX,L:=L,dp:=none,prom:=promT,heal:=healT,ren:=renT}
noncomputable def f48.c0:Code:=loopAt 0 (codeOf Tryz.f48)
def f48.X0_e0 {R:Type} (κ:KX R):=fun z8 z9 z10=>κ (.exit 0) (f48.T0_e0 z8 z9 z10) (f48.H0_e0 z8 z9 z10)
def f48.R0 {R:Type} (rec:KT R):=fun s1 s2 s3 s4 s5 s6 s7=>rec (f48.T0 s1 s2 s3 s4 s5 s6 s7) (f48.H0 s1 s2 s3 s4 s5 s6 s7)
theorem f48.s0_eq {R:Type} (L N:Nat) (κ:KX R) (rec:KT R) (s1:Int) (s2:LI) (s3:Int) (s4:Int) (s5:Int) (s6:LT) (s7:LI):
  evRd (E48 L N) (evCallI (E48 L N) 0 1000) 1000 48 40 0 f48.c0 κ rec (f48.T0 s1 s2 s3 s4 s5 s6 s7) (f48.H0 s1 s2 s3 s4 s5 s6 s7)
  =f48.s0 L N (f48.X0_e0 κ) (f48.R0 rec) s1 s2 s3 s4 s5 s6 s7:=by kernel_rfl
theorem f48.l0_eq {R:Type} (L N:Nat) (κ:KX R):∀(n:Nat) (s1:Int) (s2:LI) (s3:Int) (s4:Int) (s5:Int) (s6:LT) (s7:LI),
  evLp (E48 L N) (evCallI (E48 L N) 0 1000) 1000 48 40 0 f48.c0 κ n (f48.T0 s1 s2 s3 s4 s5 s6 s7) (f48.H0 s1 s2 s3 s4 s5 s6 s7)
  =f48.l0 L N (f48.X0_e0 κ) n s1 s2 s3 s4 s5 s6 s7:=by
 intro n
 induction n with
 |zero=>intros;rfl
 |succ n ih=>
  intro s1 s2 s3 s4 s5 s6 s7
  rw [evLp_succ,f48.s0_eq]
  delta f48.R0
  simp only [ih]
  rfl
theorem f48.p0_e0_eq {R:Type} (L N:Nat) (κ:AV→Dens [(.sl (.int .u8)),i64]→Option R) (z8:LI) (z9:Int) (z10:LI):
  (contAt (E48 L N) (evCallI (E48 L N) 0 1000) 1000 48 40 0 (codeOf Tryz.f48) (finK (E48 L N) 1000 Tryz.f48 (finM (.one (.sl i64)) [(.sl (.int .u8)),i64] κ))) (.exit 0) (f48.T0_e0 z8 z9 z10) (f48.H0_e0 z8 z9 z10)
  =f48.p0_e0 L N (fun a0 a1 a2=>κ (.tv (.sl i64) a0) (a1,a2,())) z8 z9 z10:=by kernel_rfl
theorem f48.b_eq {R:Type} (L N:Nat) (κ:AV→Dens [(.sl (.int .u8)),i64]→Option R) (c0:LI) (c1:Int) (x0:Tree):
  evBody (E48 L N) (evCallI (E48 L N) 0 1000) 1000 48 Tryz.f48 [(.ptr 0 0),(.tv (.st 1) x0)] [.ptr 0 0] [(0,(.box [(.tv (.sl (.int .u8)) c0),(.tv i64 c1)]))] (finM (.one (.sl i64)) [(.sl (.int .u8)),i64] κ)
  =f48.b L N (fun a0 a1 a2=>κ (.tv (.sl i64) a0) (a1,a2,())) c0 c1 x0:=by
 refine Eq.trans (b:=f48.b' L N (fun a0 a1 a2=>κ (.tv (.sl i64) a0) (a1,a2,())) (fun s1 s2 s3 s4 s5 s6 s7=>evLp (E48 L N) (evCallI (E48 L N) 0 1000) 1000 48 40 0 f48.c0 (contAt (E48 L N) (evCallI (E48 L N) 0 1000) 1000 48 40 0 (codeOf Tryz.f48) (finK (E48 L N) 1000 Tryz.f48 (finM (.one (.sl i64)) [(.sl (.int .u8)),i64] κ))) L (f48.T0 s1 s2 s3 s4 s5 s6 s7) (f48.H0 s1 s2 s3 s4 s5 s6 s7)) c0 c1 x0) (by kernel_rfl) ?_
 unfold f48.b
 simp only [f48.l0_eq]
 delta f48.X0_e0
 simp only [f48.p0_e0_eq]
theorem f48.ok (L N:Nat) (hΦ:TellsOk Tryz.prog ((Φ47 L N))):EntOk Tryz.prog 48 (f48.ent L N):=by
 intro args vw site h
 unfold f48.ent
 split
 ·rename_i o d0 d u ha
  intro y hy hs
  obtain ⟨rest,cs,rfl,ho,hd0,hr,hu⟩:=boxD_some ha
  refine call_box (y:=y) (dep:=1000) (v':=(.tv (.sl i64) y.1)) (d1:=(y.2.1,y.2.2,())) (E:=(E48 L N)) (ts:=[(.sl (.int .u8)),i64]) (tr:=[(.st 1)]) (rs:=(.one (.sl i64))) (κ:=(fun v d=>(unR (.one (.sl i64)) v).bind fun x=>some (x,d.1,d.2.1))) (sound_of hΦ) okP (callI_sound (sound_of hΦ) okP 0 1000) (f:=Tryz.f48) rfl hs ho hd0 hr hu ?_ (fun _ _ h=>by obtain ⟨x,h1,h2⟩:=unR_bind h;obtain rfl:=Option.some.inj h2;exact ⟨h1,rfl⟩) site
  exact (f48.b_eq L N (fun v d=>(unR (.one (.sl i64)) v).bind fun x=>some (x,d.1,d.2.1)) d0.1 d0.2.1 d.1).trans (Eq.trans (b:=f48.b L N (fun a0 a1 a2=>some (a0,a1,a2)) d0.1 d0.2.1 d.1) (by kernel_rfl) hy)
 ·intro y hy
  cases hy
def Φ48 (L N:Nat):Tells:=(addT (Φ47 L N) 48 (f48.ent L N))
theorem Φ48_ok (L N:Nat):TellsOk Tryz.prog (Φ48 L N):=addT_ok (Φ47_ok L N) (f48.ok L N (Φ47_ok L N))
def f16.s0' {R:Type} (L N:Nat) (k0_e0:LI→Int→Int→Int→Int→Int→LT→Option R) (rec0:LI→Int→Int→Int→Int→Int→LT→Option R) (s5:LI) (s6:Int) (s7:Int) (s8:Int) (s9:Int) (s10:Int) (s11:LT):Option R:=
 bif (decide (s6<(12:Int))) then
  (f18 L N (Tree.mk s9 s10 s11) s6 s5).bind fun y19=>
  bif y19.2 then
   k0_e0 s5 s6 s7 s8 s9 s10 s11
  else rec0 s5 (wi (s6+(1:Int))) s7 s8 s9 s10 s11
 else k0_e0 s5 s6 s7 s8 s9 s10 s11
def f16.s0 {R:Type} (L N:Nat) (k0_e0:LI→Int→Int→Int→Int→Int→LT→Option R) (rec0:LI→Int→Int→Int→Int→Int→LT→Option R) (s5:LI) (s6:Int) (s7:Int) (s8:Int) (s9:Int) (s10:Int) (s11:LT):Option R:=
 f16.s0' L N k0_e0 rec0 s5 s6 s7 s8 s9 s10 s11
def f16.l0 {R:Type} (L N:Nat) (k0_e0:LI→Int→Int→Int→Int→Int→LT→Option R):Nat→LI→Int→Int→Int→Int→Int→LT→Option R
 |0,_,_,_,_,_,_,_=>none
 |n+1,s5,s6,s7,s8,s9,s10,s11=>f16.s0 L N k0_e0 (f16.l0 L N k0_e0 n) s5 s6 s7 s8 s9 s10 s11
def f16.T0 (s5:LI) (s6:Int) (s7:Int) (s8:Int) (s9:Int) (s10:Int) (s11:LT):T:=mkT 38 [(2,(.ptr 1002 0)),(6,(.ptr 1006 0)),(7,(.tv (.sl i64) s5)),(8,(.tv i64 s6))]
def f16.H0 (s5:LI) (s6:Int) (s7:Int) (s8:Int) (s9:Int) (s10:Int) (s11:LT):H:=[(1002,(.box [(.tv i64 s7),(.tv i64 s8),.nil])),(1006,(.box [(.tv i64 s9),(.tv i64 s10),(.tv (.sl (.st 1)) s11)]))]
def f16.T0_e0 (z12:LI) (z13:Int) (z14:Int) (z15:Int) (z16:Int) (z17:Int) (z18:LT):T:=mkT 38 [(2,(.ptr 1002 0)),(6,(.ptr 1006 0)),(7,(.tv (.sl i64) z12)),(8,(.tv i64 z13))]
def f16.H0_e0 (z12:LI) (z13:Int) (z14:Int) (z15:Int) (z16:Int) (z17:Int) (z18:LT):H:=[(1002,(.box [(.tv i64 z14),(.tv i64 z15),.nil])),(1006,(.box [(.tv i64 z16),(.tv i64 z17),(.tv (.sl (.st 1)) z18)]))]
def f16.p0_e0' {R:Type} (L N:Nat) (k:Tree→Int→LI→Option R) (z12:LI) (z13:Int) (z14:Int) (z15:Int) (z16:Int) (z17:Int) (z18:LT):Option R:=
 k (Tree.mk ((Tree.mk z16 z17 z18).op) ((Tree.mk z16 z17 z18).n) ((Tree.mk z16 z17 z18).parts)) z13 z12
def f16.p0_e0 {R:Type} (L N:Nat) (k:Tree→Int→LI→Option R) (z12:LI) (z13:Int) (z14:Int) (z15:Int) (z16:Int) (z17:Int) (z18:LT):Option R:=
 f16.p0_e0' L N k z12 z13 z14 z15 z16 z17 z18
def f16.b' {R:Type} (L N:Nat) (k:Tree→Int→LI→Option R) (w0:LI→Int→Int→Int→Int→Int→LT→Option R) (x0:LI):Option R:=
 (f33 L N x0).bind fun y0=>
 (f47 L N y0.1 y0.2 (0:Int)).bind fun y1=>
 (f48 L N y1.2.1 y1.2.2 (Tree.mk y1.1.op y1.1.n y1.1.parts)).bind fun y2=>
 (f49 L N y2.2.1 y2.2.2 (13:Int)).bind fun y3=>
 (f49 L N y3.2.1 y3.2.2 (2:Int)).bind fun y4=>
 bif (y4.1==(0:Int)) then
  w0 y2.1 (0:Int) (0:Int) (0:Int) y1.1.op y1.1.n y1.1.parts
 else k (Tree.mk ((Tree.mk y1.1.op y1.1.n y1.1.parts).op) ((Tree.mk y1.1.op y1.1.n y1.1.parts).n) ((Tree.mk y1.1.op y1.1.n y1.1.parts).parts)) y3.1 y2.1
def f16.b {R:Type} (L N:Nat) (k:Tree→Int→LI→Option R) (x0:LI):Option R:=
 f16.b' L N k (fun s5 s6 s7 s8 s9 s10 s11=>f16.l0 L N (fun z12 z13 z14 z15 z16 z17 z18=>f16.p0_e0 L N k z12 z13 z14 z15 z16 z17 z18) L s5 s6 s7 s8 s9 s10 s11) x0
def f16 (L N:Nat) (x0:LI):Option (Tree×Int×LI):=f16.b L N (fun a0 a1 a2=>some (a0,a1,a2)) x0
def f16.ent (L N:Nat):=entDa [(.sl (.int .u8))] (.many [(.st 1),i64,(.sl i64)]) fun d=>f16 L N d.1
noncomputable def E16 (L N:Nat):Env:={P:=Tryz.prog,ty:=tyOf,Φ:=(Φ48 L N),inl:=inlT,live:=lives,liveX:=livesX,L:=L,dp:=none,prom:=promT,heal:=healT,ren:=renT}
noncomputable def f16.c0:Code:=loopAt 0 (codeOf Tryz.f16)
def f16.X0_e0 {R:Type} (κ:KX R):=fun z12 z13 z14 z15 z16 z17 z18=>κ (.exit 0) (f16.T0_e0 z12 z13 z14 z15 z16 z17 z18) (f16.H0_e0 z12 z13 z14 z15 z16 z17 z18)
def f16.R0 {R:Type} (rec:KT R):=fun s5 s6 s7 s8 s9 s10 s11=>rec (f16.T0 s5 s6 s7 s8 s9 s10 s11) (f16.H0 s5 s6 s7 s8 s9 s10 s11)
theorem f16.s0_eq {R:Type} (L N:Nat) (κ:KX R) (rec:KT R) (s5:LI) (s6:Int) (s7:Int) (s8:Int) (s9:Int) (s10:Int) (s11:LT):
  evRd (E16 L N) (evCallI (E16 L N) 0 1000) 1000 16 38 0 f16.c0 κ rec (f16.T0 s5 s6 s7 s8 s9 s10 s11) (f16.H0 s5 s6 s7 s8 s9 s10 s11)
  =f16.s0 L N (f16.X0_e0 κ) (f16.R0 rec) s5 s6 s7 s8 s9 s10 s11:=by kernel_rfl
theorem f16.l0_eq {R:Type} (L N:Nat) (κ:KX R):∀(n:Nat) (s5:LI) (s6:Int) (s7:Int) (s8:Int) (s9:Int) (s10:Int) (s11:LT),
  evLp (E16 L N) (evCallI (E16 L N) 0 1000) 1000 16 38 0 f16.c0 κ n (f16.T0 s5 s6 s7 s8 s9 s10 s11) (f16.H0 s5 s6 s7 s8 s9 s10 s11)
  =f16.l0 L N (f16.X0_e0 κ) n s5 s6 s7 s8 s9 s10 s11:=by
 intro n
 induction n with
 |zero=>intros;rfl
 |succ n ih=>
  intro s5 s6 s7 s8 s9 s10 s11
  rw [evLp_succ,f16.s0_eq]
  delta f16.R0
  simp only [ih]
  rfl
theorem f16.p0_e0_eq {R:Type} (L N:Nat) (κ:AV→Option R) (z12:LI) (z13:Int) (z14:Int) (z15:Int) (z16:Int) (z17:Int) (z18:LT):
  (contAt (E16 L N) (evCallI (E16 L N) 0 1000) 1000 16 38 0 (codeOf Tryz.f16) (finK (E16 L N) 1000 Tryz.f16 (finC (.many [(.st 1),i64,(.sl i64)]) κ))) (.exit 0) (f16.T0_e0 z12 z13 z14 z15 z16 z17 z18) (f16.H0_e0 z12 z13 z14 z15 z16 z17 z18)
  =f16.p0_e0 L N (fun a0 a1 a2=>κ (.tup [(.tv (.st 1) a0),(.tv i64 a1),(.tv (.sl i64) a2)])) z12 z13 z14 z15 z16 z17 z18:=by kernel_rfl
theorem f16.b_eq {R:Type} (L N:Nat) (κ:AV→Option R) (x0:LI):
  evBody (E16 L N) (evCallI (E16 L N) 0 1000) 1000 16 Tryz.f16 [(.tv (.sl (.int .u8)) x0)] [] [] (finC (.many [(.st 1),i64,(.sl i64)]) κ)
  =f16.b L N (fun a0 a1 a2=>κ (.tup [(.tv (.st 1) a0),(.tv i64 a1),(.tv (.sl i64) a2)])) x0:=by
 refine Eq.trans (b:=f16.b' L N (fun a0 a1 a2=>κ (.tup [(.tv (.st 1) a0),(.tv i64 a1),(.tv (.sl i64) a2)])) (fun s5 s6 s7 s8 s9 s10 s11=>evLp (E16 L N) (evCallI (E16 L N) 0 1000) 1000 16 38 0 f16.c0 (contAt (E16 L N) (evCallI (E16 L N) 0 1000) 1000 16 38 0 (codeOf Tryz.f16) (finK (E16 L N) 1000 Tryz.f16 (finC (.many [(.st 1),i64,(.sl i64)]) κ))) L (f16.T0 s5 s6 s7 s8 s9 s10 s11) (f16.H0 s5 s6 s7 s8 s9 s10 s11)) x0) (by kernel_rfl) ?_
 unfold f16.b
 simp only [f16.l0_eq]
 delta f16.X0_e0
 simp only [f16.p0_e0_eq]
theorem f16.ok (L N:Nat) (hΦ:TellsOk Tryz.prog ((Φ48 L N))):EntOk Tryz.prog 16 (f16.ent L N):=entDa_ok (E:=(E16 L N)) (dep:=1000) (f:=Tryz.f16) (sound_of hΦ) okP (callI_sound (sound_of hΦ) okP 0 1000) rfl fun d _ hy=>(f16.b_eq L N (unR (.many [(.st 1),i64,(.sl i64)])) d.1).trans (Eq.trans (b:=f16.b L N (fun a0 a1 a2=>some (a0,a1,a2)) d.1) (by kernel_rfl) hy)
def Φ16 (L N:Nat):Tells:=(addT (Φ48 L N) 16 (f16.ent L N))
theorem Φ16_ok (L N:Nat):TellsOk Tryz.prog (Φ16 L N):=addT_ok (Φ48_ok L N) (f16.ok L N (Φ48_ok L N))
def f59.b' {R:Type} (L N:Nat) (self59:Tree→Option (Bool)) (self91:Tree→Option (Bool)) (self90_5:LT→Option (Bool)) (self129_5:LT→Option (Int)) (k:Bool→Option R) (x0:Tree):Option R:=
 bif (x0.op !=(5:Int)) then
  (self90_5 x0.parts).bind fun y0=>
  k (!y0)
 else k false
def f59.b {R:Type} (L N:Nat) (self59:Tree→Option (Bool)) (self91:Tree→Option (Bool)) (self90_5:LT→Option (Bool)) (self129_5:LT→Option (Int)) (k:Bool→Option R) (x0:Tree):Option R:=
 f59.b' L N self59 self91 self90_5 self129_5 k x0
def f91.b' {R:Type} (L N:Nat) (self59:Tree→Option (Bool)) (self91:Tree→Option (Bool)) (self90_5:LT→Option (Bool)) (self129_5:LT→Option (Int)) (k:Bool→Option R) (x0:Tree):Option R:=
 (self59 (Tree.mk x0.op x0.n x0.parts)).bind fun y0=>
 k (!y0)
def f91.b {R:Type} (L N:Nat) (self59:Tree→Option (Bool)) (self91:Tree→Option (Bool)) (self90_5:LT→Option (Bool)) (self129_5:LT→Option (Int)) (k:Bool→Option R) (x0:Tree):Option R:=
 f91.b' L N self59 self91 self90_5 self129_5 k x0
def f90_5.b' {R:Type} (L N:Nat) (self59:Tree→Option (Bool)) (self91:Tree→Option (Bool)) (self90_5:LT→Option (Bool)) (self129_5:LT→Option (Int)) (k:Bool→Option R) (x0:LT):Option R:=
 (self129_5 x0).bind fun y0=>
 k (decide (y0≥(0:Int)))
def f90_5.b {R:Type} (L N:Nat) (self59:Tree→Option (Bool)) (self91:Tree→Option (Bool)) (self90_5:LT→Option (Bool)) (self129_5:LT→Option (Int)) (k:Bool→Option R) (x0:LT):Option R:=
 f90_5.b' L N self59 self91 self90_5 self129_5 k x0
def f129_5.s0' {R:Type} (L N:Nat) (self59:Tree→Option (Bool)) (self91:Tree→Option (Bool)) (self90_5:LT→Option (Bool)) (self129_5:LT→Option (Int)) (k0_e0:Option R) (k0_r:Int→Option R) (rec0:LT→Int→Int→Option R) (s0:LT) (s1:Int) (s2:Int):Option R:=
 bif (decide (s2<s1)) then
  bif (decide (0≤s2)&&decide (s2<(s0.length:Int))) then
   (self91 (listAt s0 (Ty.dflt (.st 1)) s2.toNat)).bind fun y3=>
   bif y3 then
    k0_r s2
   else rec0 s0 s1 (wi (s2+(1:Int)))
  else none
 else k0_e0
def f129_5.s0 {R:Type} (L N:Nat) (self59:Tree→Option (Bool)) (self91:Tree→Option (Bool)) (self90_5:LT→Option (Bool)) (self129_5:LT→Option (Int)) (k0_e0:Option R) (k0_r:Int→Option R) (rec0:LT→Int→Int→Option R) (s0:LT) (s1:Int) (s2:Int):Option R:=
 f129_5.s0' L N self59 self91 self90_5 self129_5 k0_e0 k0_r rec0 s0 s1 s2
def f129_5.l0 {R:Type} (L N:Nat) (self59:Tree→Option (Bool)) (self91:Tree→Option (Bool)) (self90_5:LT→Option (Bool)) (self129_5:LT→Option (Int)) (k0_e0:Option R) (k0_r:Int→Option R):Nat→LT→Int→Int→Option R
 |0,_,_,_=>none
 |n+1,s0,s1,s2=>f129_5.s0 L N self59 self91 self90_5 self129_5 k0_e0 k0_r (f129_5.l0 L N self59 self91 self90_5 self129_5 k0_e0 k0_r n) s0 s1 s2
def f129_5.T0 (s0:LT) (s1:Int) (s2:Int):T:=mkT 19 [(0,(.tv (.sl (.st 1)) s0)),(1,(.fn 91 [])),(7,(.tv i64 s1)),(8,(.tv i64 s2))]
def f129_5.H0 (s0:LT) (s1:Int) (s2:Int):H:=[]
def f129_5.T0_e0:T:=mkT 19 []
def f129_5.H0_e0:H:=[]
def f129_5.T0_r (z4:Int):T:=mkT 19 [(4,(.tv i64 z4))]
def f129_5.H0_r (z4:Int):H:=[]
def f129_5.p0_e0' {R:Type} (L N:Nat) (self59:Tree→Option (Bool)) (self91:Tree→Option (Bool)) (self90_5:LT→Option (Bool)) (self129_5:LT→Option (Int)) (k:Int→Option R):Option R:=
 k (-1:Int)
def f129_5.p0_e0 {R:Type} (L N:Nat) (self59:Tree→Option (Bool)) (self91:Tree→Option (Bool)) (self90_5:LT→Option (Bool)) (self129_5:LT→Option (Int)) (k:Int→Option R):Option R:=
 f129_5.p0_e0' L N self59 self91 self90_5 self129_5 k
def f129_5.p0_r' {R:Type} (L N:Nat) (self59:Tree→Option (Bool)) (self91:Tree→Option (Bool)) (self90_5:LT→Option (Bool)) (self129_5:LT→Option (Int)) (k:Int→Option R) (z4:Int):Option R:=
 k z4
def f129_5.p0_r {R:Type} (L N:Nat) (self59:Tree→Option (Bool)) (self91:Tree→Option (Bool)) (self90_5:LT→Option (Bool)) (self129_5:LT→Option (Int)) (k:Int→Option R) (z4:Int):Option R:=
 f129_5.p0_r' L N self59 self91 self90_5 self129_5 k z4
def f129_5.b' {R:Type} (L N:Nat) (self59:Tree→Option (Bool)) (self91:Tree→Option (Bool)) (self90_5:LT→Option (Bool)) (self129_5:LT→Option (Int)) (k:Int→Option R) (w0:LT→Int→Int→Option R) (x0:LT):Option R:=
 w0 x0 (x0.length:Int) (0:Int)
def f129_5.b {R:Type} (L N:Nat) (self59:Tree→Option (Bool)) (self91:Tree→Option (Bool)) (self90_5:LT→Option (Bool)) (self129_5:LT→Option (Int)) (k:Int→Option R) (x0:LT):Option R:=
 f129_5.b' L N self59 self91 self90_5 self129_5 k (fun s0 s1 s2=>f129_5.l0 L N self59 self91 self90_5 self129_5 (f129_5.p0_e0 L N self59 self91 self90_5 self129_5 k) (fun z4=>f129_5.p0_r L N self59 self91 self90_5 self129_5 k z4) L s0 s1 s2) x0
mutual
def f59 (L N:Nat):Nat→Tree→Option (Bool)
 |0,_=>none
 |n+1,x0=>f59.b L N (f59 L N n) (f91 L N n) (f90_5 L N n) (f129_5 L N n) some x0
def f91 (L N:Nat):Nat→Tree→Option (Bool)
 |0,_=>none
 |n+1,x0=>f91.b L N (f59 L N n) (f91 L N n) (f90_5 L N n) (f129_5 L N n) some x0
def f90_5 (L N:Nat):Nat→LT→Option (Bool)
 |0,_=>none
 |n+1,x0=>f90_5.b L N (f59 L N n) (f91 L N n) (f90_5 L N n) (f129_5 L N n) some x0
def f129_5 (L N:Nat):Nat→LT→Option (Int)
 |0,_=>none
 |n+1,x0=>f129_5.b L N (f59 L N n) (f91 L N n) (f90_5 L N n) (f129_5 L N n) some x0
end
def f59.ent (L N m:Nat):=entRo [(.st 1)] (.one .bool) fun d=>f59 L N m d.1
def f91.ent (L N m:Nat):=entRo [(.st 1)] (.one .bool) fun d=>f91 L N m d.1
def f90_5.ent (L N m:Nat):=entRf [(.dat (.sl (.st 1))),(.fn 91 [])] (.one .bool) fun d=>f90_5 L N m d.1
def f129_5.ent (L N m:Nat):=entRf [(.dat (.sl (.st 1))),(.fn 91 [])] (.one i64) fun d=>f129_5 L N m d.1
def Φ59s (L N m:Nat):Tells:=(addO (addO (addT (addT (Φ16 L N) 59 (f59.ent L N m)) 91 (f91.ent L N m)) 90 (f90_5.ent L N m)) 129 (f129_5.ent L N m))
noncomputable def E59 (L N m:Nat):Env:={P:=Tryz.prog,ty:=tyOf,Φ:=Φ59s L N m,inl:=inlT,live:=lives,liveX:=livesX,L:=L,dp:=none,prom:=promT,heal:=healT,ren:=renT}
theorem f59.b_eq {R:Type} (L N m:Nat) (κ:AV→Option R) (x0:Tree):
  evBody (E59 L N m) (evCallI (E59 L N m) 0 1000) 1000 59 Tryz.f59 [(.tv (.st 1) x0)] [] [] (finC (.one .bool) κ)
  =f59.b L N (f59 L N m) (f91 L N m) (f90_5 L N m) (f129_5 L N m) (fun a0=>κ (.tv .bool a0)) x0:=by kernel_rfl
theorem f91.b_eq {R:Type} (L N m:Nat) (κ:AV→Option R) (x0:Tree):
  evBody (E59 L N m) (evCallI (E59 L N m) 0 1000) 1000 91 Tryz.f91 [(.tv (.st 1) x0)] [] [] (finC (.one .bool) κ)
  =f91.b L N (f59 L N m) (f91 L N m) (f90_5 L N m) (f129_5 L N m) (fun a0=>κ (.tv .bool a0)) x0:=by kernel_rfl
theorem f90_5.b_eq {R:Type} (L N m:Nat) (κ:AV→Option R) (x0:LT):
  evBody (E59 L N m) (evCallI (E59 L N m) 0 1000) 1000 90 Tryz.f90 [(.tv (.sl (.st 1)) x0),(.fn 91 [])] [] [] (finC (.one .bool) κ)
  =f90_5.b L N (f59 L N m) (f91 L N m) (f90_5 L N m) (f129_5 L N m) (fun a0=>κ (.tv .bool a0)) x0:=by kernel_rfl
noncomputable def f129_5.c0:Code:=loopAt 0 (codeOf Tryz.f129)
def f129_5.X0_e0 {R:Type} (κ:KX R):=κ (.exit 0) f129_5.T0_e0 f129_5.H0_e0
def f129_5.X0_r {R:Type} (κ:KX R):=fun z4=>κ .ret (f129_5.T0_r z4) (f129_5.H0_r z4)
def f129_5.R0 {R:Type} (rec:KT R):=fun s0 s1 s2=>rec (f129_5.T0 s0 s1 s2) (f129_5.H0 s0 s1 s2)
theorem f129_5.s0_eq {R:Type} (L N m:Nat) (κ:KX R) (rec:KT R) (s0:LT) (s1:Int) (s2:Int):
  evRd (E59 L N m) (evCallI (E59 L N m) 0 1000) 1000 129 19 0 f129_5.c0 κ rec (f129_5.T0 s0 s1 s2) (f129_5.H0 s0 s1 s2)
  =f129_5.s0 L N (f59 L N m) (f91 L N m) (f90_5 L N m) (f129_5 L N m) (f129_5.X0_e0 κ) (f129_5.X0_r κ) (f129_5.R0 rec) s0 s1 s2:=by kernel_rfl
theorem f129_5.l0_eq {R:Type} (L N m:Nat) (κ:KX R):∀(n:Nat) (s0:LT) (s1:Int) (s2:Int),
  evLp (E59 L N m) (evCallI (E59 L N m) 0 1000) 1000 129 19 0 f129_5.c0 κ n (f129_5.T0 s0 s1 s2) (f129_5.H0 s0 s1 s2)
  =f129_5.l0 L N (f59 L N m) (f91 L N m) (f90_5 L N m) (f129_5 L N m) (f129_5.X0_e0 κ) (f129_5.X0_r κ) n s0 s1 s2:=by
 intro n
 induction n with
 |zero=>intros;rfl
 |succ n ih=>
  intro s0 s1 s2
  rw [evLp_succ,f129_5.s0_eq]
  delta f129_5.R0
  simp only [ih]
  rfl
theorem f129_5.p0_e0_eq {R:Type} (L N m:Nat) (κ:AV→Option R):
  (contAt (E59 L N m) (evCallI (E59 L N m) 0 1000) 1000 129 19 0 (codeOf Tryz.f129) (finK (E59 L N m) 1000 Tryz.f129 (finC (.one i64) κ))) (.exit 0) f129_5.T0_e0 f129_5.H0_e0
  =f129_5.p0_e0 L N (f59 L N m) (f91 L N m) (f90_5 L N m) (f129_5 L N m) (fun a0=>κ (.tv i64 a0)):=by kernel_rfl
theorem f129_5.p0_r_eq {R:Type} (L N m:Nat) (κ:AV→Option R) (z4:Int):
  (contAt (E59 L N m) (evCallI (E59 L N m) 0 1000) 1000 129 19 0 (codeOf Tryz.f129) (finK (E59 L N m) 1000 Tryz.f129 (finC (.one i64) κ))) .ret (f129_5.T0_r z4) (f129_5.H0_r z4)
  =f129_5.p0_r L N (f59 L N m) (f91 L N m) (f90_5 L N m) (f129_5 L N m) (fun a0=>κ (.tv i64 a0)) z4:=by kernel_rfl
theorem f129_5.b_eq {R:Type} (L N m:Nat) (κ:AV→Option R) (x0:LT):
  evBody (E59 L N m) (evCallI (E59 L N m) 0 1000) 1000 129 Tryz.f129 [(.tv (.sl (.st 1)) x0),(.fn 91 [])] [] [] (finC (.one i64) κ)
  =f129_5.b L N (f59 L N m) (f91 L N m) (f90_5 L N m) (f129_5 L N m) (fun a0=>κ (.tv i64 a0)) x0:=by
 refine Eq.trans (b:=f129_5.b' L N (f59 L N m) (f91 L N m) (f90_5 L N m) (f129_5 L N m) (fun a0=>κ (.tv i64 a0)) (fun s0 s1 s2=>evLp (E59 L N m) (evCallI (E59 L N m) 0 1000) 1000 129 19 0 f129_5.c0 (contAt (E59 L N m) (evCallI (E59 L N m) 0 1000) 1000 129 19 0 (codeOf Tryz.f129) (finK (E59 L N m) 1000 Tryz.f129 (finC (.one i64) κ))) L (f129_5.T0 s0 s1 s2) (f129_5.H0 s0 s1 s2)) x0) (by kernel_rfl) ?_
 unfold f129_5.b
 simp only [f129_5.l0_eq]
 delta f129_5.X0_e0 f129_5.X0_r
 simp only [f129_5.p0_e0_eq,f129_5.p0_r_eq]
theorem f59.ok (L N m:Nat) (hΦ:TellsOk Tryz.prog (Φ59s L N m)):EntOk Tryz.prog 59 (f59.ent L N (m+1)):=entRo_ok (E:=(E59 L N m)) (dep:=1000) (f:=Tryz.f59) (sound_of hΦ) okP (callI_sound (sound_of hΦ) okP 0 1000) rfl rfl fun d _ hy=>(f59.b_eq L N m (unR (.one .bool)) d.1).trans (Eq.trans (b:=f59.b L N (f59 L N m) (f91 L N m) (f90_5 L N m) (f129_5 L N m) some d.1) (by kernel_rfl) hy)
theorem f91.ok (L N m:Nat) (hΦ:TellsOk Tryz.prog (Φ59s L N m)):EntOk Tryz.prog 91 (f91.ent L N (m+1)):=entRo_ok (E:=(E59 L N m)) (dep:=1000) (f:=Tryz.f91) (sound_of hΦ) okP (callI_sound (sound_of hΦ) okP 0 1000) rfl rfl fun d _ hy=>(f91.b_eq L N m (unR (.one .bool)) d.1).trans (Eq.trans (b:=f91.b L N (f59 L N m) (f91 L N m) (f90_5 L N m) (f129_5 L N m) some d.1) (by kernel_rfl) hy)
theorem f90_5.ok (L N m:Nat) (hΦ:TellsOk Tryz.prog (Φ59s L N m)):EntOkO Tryz.prog 90 (f90_5.ent L N (m+1)):=entRf_ok (E:=(E59 L N m)) (dep:=1000) (f:=Tryz.f90) (sound_of hΦ) okP (callI_sound (sound_of hΦ) okP 0 1000) rfl rfl fun d _ hy=>(f90_5.b_eq L N m (unR (.one .bool)) d.1).trans (Eq.trans (b:=f90_5.b L N (f59 L N m) (f91 L N m) (f90_5 L N m) (f129_5 L N m) some d.1) (by kernel_rfl) hy)
theorem f129_5.ok (L N m:Nat) (hΦ:TellsOk Tryz.prog (Φ59s L N m)):EntOkO Tryz.prog 129 (f129_5.ent L N (m+1)):=entRf_ok (E:=(E59 L N m)) (dep:=1000) (f:=Tryz.f129) (sound_of hΦ) okP (callI_sound (sound_of hΦ) okP 0 1000) rfl rfl fun d _ hy=>(f129_5.b_eq L N m (unR (.one i64)) d.1).trans (Eq.trans (b:=f129_5.b L N (f59 L N m) (f91 L N m) (f90_5 L N m) (f129_5 L N m) some d.1) (by kernel_rfl) hy)
theorem Φ59s_ok (L N:Nat):∀m,TellsOk Tryz.prog (Φ59s L N m):=by
 intro m
 induction m with
 |zero=>exact (addO_ok (addO_ok (addT_ok (addT_ok (Φ16_ok L N) (entRo_no fun _=>rfl)) (entRo_no fun _=>rfl)) (entRf_no fun _=>rfl)) (entRf_no fun _=>rfl))
 |succ m ih=>exact (addO_ok (addO_ok (addT_ok (addT_ok (Φ16_ok L N) (f59.ok L N m ih)) (f91.ok L N m ih)) (f90_5.ok L N m ih)) (f129_5.ok L N m ih))
def Φ59 (L N:Nat):Tells:=(addO (addO (addT (addT (Φ16 L N) 59 (f59.ent L N N)) 91 (f91.ent L N N)) 90 (f90_5.ent L N N)) 129 (f129_5.ent L N N))
theorem Φ59_ok (L N:Nat):TellsOk Tryz.prog (Φ59 L N):=Φ59s_ok L N N
def f94.b' {R:Type} (L N:Nat) (k:Tree→Option R) (x0:Int) (x1:Tree):Option R:=
 k (Tree.mk (1:Int) x0 ([(Tree.mk x1.op x1.n x1.parts)]:LT))
def f94.b {R:Type} (L N:Nat) (k:Tree→Option R) (x0:Int) (x1:Tree):Option R:=
 f94.b' L N k x0 x1
def f94 (L N:Nat) (x0:Int) (x1:Tree):Option (Tree):=f94.b L N some x0 x1
def f94.ent (L N:Nat):=entDa [i64,(.st 1)] (.one (.st 1)) fun d=>f94 L N d.1 d.2.1
noncomputable def E94 (L N:Nat):Env:={P:=Tryz.prog,ty:=tyOf,Φ:=(Φ59 L N),inl:=inlT,live:=lives,liveX:=livesX,L:=L,dp:=none,prom:=promT,heal:=healT,ren:=renT}
theorem f94.b_eq {R:Type} (L N:Nat) (κ:AV→Option R) (x0:Int) (x1:Tree):
  evBody (E94 L N) (evCallI (E94 L N) 0 1000) 1000 94 Tryz.f94 [(.tv i64 x0),(.tv (.st 1) x1)] [] [] (finC (.one (.st 1)) κ)
  =f94.b L N (fun a0=>κ (.tv (.st 1) a0)) x0 x1:=by kernel_rfl
theorem f94.ok (L N:Nat) (hΦ:TellsOk Tryz.prog ((Φ59 L N))):EntOk Tryz.prog 94 (f94.ent L N):=entDa_ok (E:=(E94 L N)) (dep:=1000) (f:=Tryz.f94) (sound_of hΦ) okP (callI_sound (sound_of hΦ) okP 0 1000) rfl fun d _ hy=>(f94.b_eq L N (unR (.one (.st 1))) d.1 d.2.1).trans (Eq.trans (b:=f94.b L N some d.1 d.2.1) (by kernel_rfl) hy)
def Φ94 (L N:Nat):Tells:=(addT (Φ59 L N) 94 (f94.ent L N))
theorem Φ94_ok (L N:Nat):TellsOk Tryz.prog (Φ94 L N):=addT_ok (Φ59_ok L N) (f94.ok L N (Φ59_ok L N))
def f96.s0' {R:Type} (L N:Nat) (k0_e0:Int→Int→Int→Int→LT→Option R) (rec0:LT→Int→Int→Int→Int→Int→LT→Option R) (s0:LT) (s1:Int) (s2:Int) (s3:Int) (s4:Int) (s5:Int) (s6:LT):Option R:=
 bif (decide (s1≥(0:Int))) then
  bif (decide (0≤s1)&&decide (s1<(s0.length:Int))) then
   rec0 s0 (wi (s1-(1:Int))) s2 s3 ((Tree.mk (2:Int) (0:Int) ([(listAt s0 (Ty.dflt (.st 1)) s1.toNat),(Tree.mk s4 s5 s6)]:LT)).op) ((Tree.mk (2:Int) (0:Int) ([(listAt s0 (Ty.dflt (.st 1)) s1.toNat),(Tree.mk s4 s5 s6)]:LT)).n) ((Tree.mk (2:Int) (0:Int) ([(listAt s0 (Ty.dflt (.st 1)) s1.toNat),(Tree.mk s4 s5 s6)]:LT)).parts)
  else none
 else k0_e0 s2 s3 s4 s5 s6
def f96.s0 {R:Type} (L N:Nat) (k0_e0:Int→Int→Int→Int→LT→Option R) (rec0:LT→Int→Int→Int→Int→Int→LT→Option R) (s0:LT) (s1:Int) (s2:Int) (s3:Int) (s4:Int) (s5:Int) (s6:LT):Option R:=
 f96.s0' L N k0_e0 rec0 s0 s1 s2 s3 s4 s5 s6
def f96.l0 {R:Type} (L N:Nat) (k0_e0:Int→Int→Int→Int→LT→Option R):Nat→LT→Int→Int→Int→Int→Int→LT→Option R
 |0,_,_,_,_,_,_,_=>none
 |n+1,s0,s1,s2,s3,s4,s5,s6=>f96.s0 L N k0_e0 (f96.l0 L N k0_e0 n) s0 s1 s2 s3 s4 s5 s6
def f96.T0 (s0:LT) (s1:Int) (s2:Int) (s3:Int) (s4:Int) (s5:Int) (s6:LT):T:=mkT 30 [(0,(.tv (.sl (.st 1)) s0)),(2,(.ptr 1002 0)),(3,(.ptr 1003 0)),(4,(.tv i64 s1))]
def f96.H0 (s0:LT) (s1:Int) (s2:Int) (s3:Int) (s4:Int) (s5:Int) (s6:LT):H:=[(1002,(.box [(.tv i64 s2),(.tv i64 s3),.nil])),(1003,(.box [(.tv i64 s4),(.tv i64 s5),(.tv (.sl (.st 1)) s6)]))]
def f96.T0_e0 (z7:Int) (z8:Int) (z9:Int) (z10:Int) (z11:LT):T:=mkT 30 [(2,(.ptr 1002 0)),(3,(.ptr 1003 0))]
def f96.H0_e0 (z7:Int) (z8:Int) (z9:Int) (z10:Int) (z11:LT):H:=[(1002,(.box [(.tv i64 z7),(.tv i64 z8),.nil])),(1003,(.box [(.tv i64 z9),(.tv i64 z10),(.tv (.sl (.st 1)) z11)]))]
def f96.p0_e0' {R:Type} (L N:Nat) (k:Tree→Option R) (z7:Int) (z8:Int) (z9:Int) (z10:Int) (z11:LT):Option R:=
 k (Tree.mk ((Tree.mk z9 z10 z11).op) ((Tree.mk z9 z10 z11).n) ((Tree.mk z9 z10 z11).parts))
def f96.p0_e0 {R:Type} (L N:Nat) (k:Tree→Option R) (z7:Int) (z8:Int) (z9:Int) (z10:Int) (z11:LT):Option R:=
 f96.p0_e0' L N k z7 z8 z9 z10 z11
def f96.b' {R:Type} (L N:Nat) (k:Tree→Option R) (w0:LT→Int→Int→Int→Int→Int→LT→Option R) (x0:LT):Option R:=
 bif ((x0.length:Int)==(0:Int)) then
  k (Tree.mk ((Tree.mk (0:Int) (0:Int) []).op) ((Tree.mk (0:Int) (0:Int) []).n) ((Tree.mk (0:Int) (0:Int) []).parts))
 else bif (decide (0≤(wi ((x0.length:Int)-(1:Int))))&&decide ((wi ((x0.length:Int)-(1:Int)))<(x0.length:Int))) then
  w0 x0 (wi ((x0.length:Int)-(2:Int))) (0:Int) (0:Int) ((listAt x0 (Ty.dflt (.st 1)) (wi ((x0.length:Int)-(1:Int))).toNat).op) ((listAt x0 (Ty.dflt (.st 1)) (wi ((x0.length:Int)-(1:Int))).toNat).n) ((listAt x0 (Ty.dflt (.st 1)) (wi ((x0.length:Int)-(1:Int))).toNat).parts)
 else none
def f96.b {R:Type} (L N:Nat) (k:Tree→Option R) (x0:LT):Option R:=
 f96.b' L N k (fun s0 s1 s2 s3 s4 s5 s6=>f96.l0 L N (fun z7 z8 z9 z10 z11=>f96.p0_e0 L N k z7 z8 z9 z10 z11) L s0 s1 s2 s3 s4 s5 s6) x0
def f96 (L N:Nat) (x0:LT):Option (Tree):=f96.b L N some x0
def f96.ent (L N:Nat):=entDa [(.sl (.st 1))] (.one (.st 1)) fun d=>f96 L N d.1
noncomputable def E96 (L N:Nat):Env:={P:=Tryz.prog,ty:=tyOf,Φ:=(Φ94 L N),inl:=inlT,live:=lives,liveX:=livesX,L:=L,dp:=none,prom:=promT,heal:=healT,ren:=renT,zd:=true}
noncomputable def f96.c0:Code:=loopAt 0 (codeOf Tryz.f96)
def f96.X0_e0 {R:Type} (κ:KX R):=fun z7 z8 z9 z10 z11=>κ (.exit 0) (f96.T0_e0 z7 z8 z9 z10 z11) (f96.H0_e0 z7 z8 z9 z10 z11)
def f96.R0 {R:Type} (rec:KT R):=fun s0 s1 s2 s3 s4 s5 s6=>rec (f96.T0 s0 s1 s2 s3 s4 s5 s6) (f96.H0 s0 s1 s2 s3 s4 s5 s6)
theorem f96.s0_eq {R:Type} (L N:Nat) (κ:KX R) (rec:KT R) (s0:LT) (s1:Int) (s2:Int) (s3:Int) (s4:Int) (s5:Int) (s6:LT):
  evRd (E96 L N) (evCallI (E96 L N) 0 1000) 1000 96 30 0 f96.c0 κ rec (f96.T0 s0 s1 s2 s3 s4 s5 s6) (f96.H0 s0 s1 s2 s3 s4 s5 s6)
  =f96.s0 L N (f96.X0_e0 κ) (f96.R0 rec) s0 s1 s2 s3 s4 s5 s6:=by kernel_rfl
theorem f96.l0_eq {R:Type} (L N:Nat) (κ:KX R):∀(n:Nat) (s0:LT) (s1:Int) (s2:Int) (s3:Int) (s4:Int) (s5:Int) (s6:LT),
  evLp (E96 L N) (evCallI (E96 L N) 0 1000) 1000 96 30 0 f96.c0 κ n (f96.T0 s0 s1 s2 s3 s4 s5 s6) (f96.H0 s0 s1 s2 s3 s4 s5 s6)
  =f96.l0 L N (f96.X0_e0 κ) n s0 s1 s2 s3 s4 s5 s6:=by
 intro n
 induction n with
 |zero=>intros;rfl
 |succ n ih=>
  intro s0 s1 s2 s3 s4 s5 s6
  rw [evLp_succ,f96.s0_eq]
  delta f96.R0
  simp only [ih]
  rfl
theorem f96.p0_e0_eq {R:Type} (L N:Nat) (κ:AV→Option R) (z7:Int) (z8:Int) (z9:Int) (z10:Int) (z11:LT):
  (contAt (E96 L N) (evCallI (E96 L N) 0 1000) 1000 96 30 0 (codeOf Tryz.f96) (finK (E96 L N) 1000 Tryz.f96 (finC (.one (.st 1)) κ))) (.exit 0) (f96.T0_e0 z7 z8 z9 z10 z11) (f96.H0_e0 z7 z8 z9 z10 z11)
  =f96.p0_e0 L N (fun a0=>κ (.tv (.st 1) a0)) z7 z8 z9 z10 z11:=by kernel_rfl
theorem f96.b_eq {R:Type} (L N:Nat) (κ:AV→Option R) (x0:LT):
  evBody (E96 L N) (evCallI (E96 L N) 0 1000) 1000 96 Tryz.f96 [(.tv (.sl (.st 1)) x0)] [] [] (finC (.one (.st 1)) κ)
  =f96.b L N (fun a0=>κ (.tv (.st 1) a0)) x0:=by
 refine Eq.trans (b:=f96.b' L N (fun a0=>κ (.tv (.st 1) a0)) (fun s0 s1 s2 s3 s4 s5 s6=>evLp (E96 L N) (evCallI (E96 L N) 0 1000) 1000 96 30 0 f96.c0 (contAt (E96 L N) (evCallI (E96 L N) 0 1000) 1000 96 30 0 (codeOf Tryz.f96) (finK (E96 L N) 1000 Tryz.f96 (finC (.one (.st 1)) κ))) L (f96.T0 s0 s1 s2 s3 s4 s5 s6) (f96.H0 s0 s1 s2 s3 s4 s5 s6)) x0) (by kernel_rfl) ?_
 unfold f96.b
 simp only [f96.l0_eq]
 delta f96.X0_e0
 simp only [f96.p0_e0_eq]
theorem f96.ok (L N:Nat) (hΦ:TellsOk Tryz.prog ((Φ94 L N))):EntOk Tryz.prog 96 (f96.ent L N):=entDa_ok (E:=(E96 L N)) (dep:=1000) (f:=Tryz.f96) (sound_of hΦ) okP (callI_sound (sound_of hΦ) okP 0 1000) rfl fun d _ hy=>(f96.b_eq L N (unR (.one (.st 1))) d.1).trans (Eq.trans (b:=f96.b L N some d.1) (by kernel_rfl) hy)
def Φ96 (L N:Nat):Tells:=(addT (Φ94 L N) 96 (f96.ent L N))
theorem Φ96_ok (L N:Nat):TellsOk Tryz.prog (Φ96 L N):=addT_ok (Φ94_ok L N) (f96.ok L N (Φ94_ok L N))
def f124_1.b' {R:Type} (L N:Nat) (k:Bool→Option R) (x0:Int) (x1:Tree):Option R:=
 k (x1.op==x0)
def f124_1.b {R:Type} (L N:Nat) (k:Bool→Option R) (x0:Int) (x1:Tree):Option R:=
 f124_1.b' L N k x0 x1
def f124_1 (L N:Nat) (x0:Int) (x1:Tree):Option (Bool):=f124_1.b L N some x0 x1
def f124_1.ent (L N:Nat):=entRf [(.dat i64),(.imp (.st 1) 0)] (.one .bool) fun d=>f124_1 L N d.1 d.2.1
noncomputable def E124_1 (L N:Nat):Env:={P:=Tryz.prog,ty:=tyOf,Φ:=(Φ96 L N),inl:=inlT,live:=lives,liveX:=livesX,L:=L,dp:=none,prom:=promT,heal:=healT,ren:=renT}
theorem f124_1.b_eq {R:Type} (L N:Nat) (κ:AV→Option R) (x0:Int) (x1:Tree):
  evBody (E124_1 L N) (evCallI (E124_1 L N) 0 1000) 1000 124 Tryz.f124 [(.tv i64 x0),(.imp (.st 1) x1 0)] [] [] (finC (.one .bool) κ)
  =f124_1.b L N (fun a0=>κ (.tv .bool a0)) x0 x1:=by kernel_rfl
theorem f124_1.ok (L N:Nat) (hΦ:TellsOk Tryz.prog ((Φ96 L N))):EntOkO Tryz.prog 124 (f124_1.ent L N):=entRf_ok (E:=(E124_1 L N)) (dep:=1000) (f:=Tryz.f124) (sound_of hΦ) okP (callI_sound (sound_of hΦ) okP 0 1000) rfl rfl fun d _ hy=>(f124_1.b_eq L N (unR (.one .bool)) d.1 d.2.1).trans (Eq.trans (b:=f124_1.b L N some d.1 d.2.1) (by kernel_rfl) hy)
def Φ124_1 (L N:Nat):Tells:=(addO (Φ96 L N) 124 (f124_1.ent L N))
theorem Φ124_1_ok (L N:Nat):TellsOk Tryz.prog (Φ124_1 L N):=addO_ok (Φ96_ok L N) (f124_1.ok L N (Φ96_ok L N))
def f125_1.b' {R:Type} (L N:Nat) (k:Bool→Option R) (x0:Int) (x1:Int) (x2:Tree):Option R:=
 bif (decide ((x2.parts.length:Int)>x0)) then
  bif (decide (0≤x0)&&decide (x0<(x2.parts.length:Int))) then
   k ((listAt x2.parts (Ty.dflt (.st 1)) x0.toNat).op==x1)
  else none
 else k false
def f125_1.b {R:Type} (L N:Nat) (k:Bool→Option R) (x0:Int) (x1:Int) (x2:Tree):Option R:=
 f125_1.b' L N k x0 x1 x2
def f125_1 (L N:Nat) (x0:Int) (x1:Int) (x2:Tree):Option (Bool):=f125_1.b L N some x0 x1 x2
def f125_1.ent (L N:Nat):=entRf [(.dat i64),(.dat i64),(.imp (.st 1) 0)] (.one .bool) fun d=>f125_1 L N d.1 d.2.1 d.2.2.1
noncomputable def E125_1 (L N:Nat):Env:={P:=Tryz.prog,ty:=tyOf,Φ:=(Φ124_1 L N),inl:=inlT,live:=lives,liveX:=livesX,L:=L,dp:=none,prom:=promT,heal:=healT,ren:=renT}
theorem f125_1.b_eq {R:Type} (L N:Nat) (κ:AV→Option R) (x0:Int) (x1:Int) (x2:Tree):
  evBody (E125_1 L N) (evCallI (E125_1 L N) 0 1000) 1000 125 Tryz.f125 [(.tv i64 x0),(.tv i64 x1),(.imp (.st 1) x2 0)] [] [] (finC (.one .bool) κ)
  =f125_1.b L N (fun a0=>κ (.tv .bool a0)) x0 x1 x2:=by kernel_rfl
theorem f125_1.ok (L N:Nat) (hΦ:TellsOk Tryz.prog ((Φ124_1 L N))):EntOkO Tryz.prog 125 (f125_1.ent L N):=entRf_ok (E:=(E125_1 L N)) (dep:=1000) (f:=Tryz.f125) (sound_of hΦ) okP (callI_sound (sound_of hΦ) okP 0 1000) rfl rfl fun d _ hy=>(f125_1.b_eq L N (unR (.one .bool)) d.1 d.2.1 d.2.2.1).trans (Eq.trans (b:=f125_1.b L N some d.1 d.2.1 d.2.2.1) (by kernel_rfl) hy)
def Φ125_1 (L N:Nat):Tells:=(addO (Φ124_1 L N) 125 (f125_1.ent L N))
theorem Φ125_1_ok (L N:Nat):TellsOk Tryz.prog (Φ125_1 L N):=addO_ok (Φ124_1_ok L N) (f125_1.ok L N (Φ124_1_ok L N))
def f58_1.s0' {R:Type} (L N:Nat) (self58_1:Bool→Bool→Bool→Bool→Tree→Option (Bool×Bool×Bool×Bool)) (k0_e0:Bool→Bool→Bool→Bool→Int→Int→LT→Bool→Bool→Bool→Bool→Option R) (rec0:LT→Int→Int→Bool→Bool→Bool→Bool→Int→Int→LT→Bool→Bool→Bool→Bool→Option R) (s0:LT) (s1:Int) (s2:Int) (s3:Bool) (s4:Bool) (s5:Bool) (s6:Bool) (s7:Int) (s8:Int) (s9:LT) (s10:Bool) (s11:Bool) (s12:Bool) (s13:Bool):Option R:=
 bif (decide (s2<s1)) then
  bif (decide (0≤s2)&&decide (s2<(s0.length:Int))) then
   (self58_1 s10 s11 s12 s13 (Tree.mk ((listAt s0 (Ty.dflt (.st 1)) s2.toNat).op) ((listAt s0 (Ty.dflt (.st 1)) s2.toNat).n) ((listAt s0 (Ty.dflt (.st 1)) s2.toNat).parts))).bind fun y25=>
   rec0 s0 s1 (wi (s2+(1:Int))) s3 s4 s5 s6 s7 s8 s9 y25.1 y25.2.1 y25.2.2.1 y25.2.2.2
  else none
 else k0_e0 s3 s4 s5 s6 s7 s8 s9 s10 s11 s12 s13
def f58_1.s0 {R:Type} (L N:Nat) (self58_1:Bool→Bool→Bool→Bool→Tree→Option (Bool×Bool×Bool×Bool)) (k0_e0:Bool→Bool→Bool→Bool→Int→Int→LT→Bool→Bool→Bool→Bool→Option R) (rec0:LT→Int→Int→Bool→Bool→Bool→Bool→Int→Int→LT→Bool→Bool→Bool→Bool→Option R) (s0:LT) (s1:Int) (s2:Int) (s3:Bool) (s4:Bool) (s5:Bool) (s6:Bool) (s7:Int) (s8:Int) (s9:LT) (s10:Bool) (s11:Bool) (s12:Bool) (s13:Bool):Option R:=
 f58_1.s0' L N self58_1 k0_e0 rec0 s0 s1 s2 s3 s4 s5 s6 s7 s8 s9 s10 s11 s12 s13
def f58_1.l0 {R:Type} (L N:Nat) (self58_1:Bool→Bool→Bool→Bool→Tree→Option (Bool×Bool×Bool×Bool)) (k0_e0:Bool→Bool→Bool→Bool→Int→Int→LT→Bool→Bool→Bool→Bool→Option R):Nat→LT→Int→Int→Bool→Bool→Bool→Bool→Int→Int→LT→Bool→Bool→Bool→Bool→Option R
 |0,_,_,_,_,_,_,_,_,_,_,_,_,_,_=>none
 |n+1,s0,s1,s2,s3,s4,s5,s6,s7,s8,s9,s10,s11,s12,s13=>f58_1.s0 L N self58_1 k0_e0 (f58_1.l0 L N self58_1 k0_e0 n) s0 s1 s2 s3 s4 s5 s6 s7 s8 s9 s10 s11 s12 s13
def f58_1.T0 (s0:LT) (s1:Int) (s2:Int) (s3:Bool) (s4:Bool) (s5:Bool) (s6:Bool) (s7:Int) (s8:Int) (s9:LT) (s10:Bool) (s11:Bool) (s12:Bool) (s13:Bool):T:=mkT 56 [(1,(.ptr 0 0)),(2,(.ptr 1002 0)),(4,(.ptr 1004 0)),(11,(.tv (.sl (.st 1)) s0)),(12,(.tv i64 s1)),(13,(.tv i64 s2))]++[.ptr 0 0]
def f58_1.H0 (s0:LT) (s1:Int) (s2:Int) (s3:Bool) (s4:Bool) (s5:Bool) (s6:Bool) (s7:Int) (s8:Int) (s9:LT) (s10:Bool) (s11:Bool) (s12:Bool) (s13:Bool):H:=[(0,(.box [(.tv .bool s3),(.tv .bool s4),(.tv .bool s5),(.tv .bool s6)])),(1002,(.box [(.tv i64 s7),(.tv i64 s8),(.tv (.sl (.st 1)) s9)])),(1004,(.box [(.tv .bool s10),(.tv .bool s11),(.tv .bool s12),(.tv .bool s13)]))]
def f58_1.T0_e0 (z14:Bool) (z15:Bool) (z16:Bool) (z17:Bool) (z18:Int) (z19:Int) (z20:LT) (z21:Bool) (z22:Bool) (z23:Bool) (z24:Bool):T:=mkT 56 [(1,(.ptr 0 0)),(2,(.ptr 1002 0)),(4,(.ptr 1004 0))]++[.ptr 0 0]
def f58_1.H0_e0 (z14:Bool) (z15:Bool) (z16:Bool) (z17:Bool) (z18:Int) (z19:Int) (z20:LT) (z21:Bool) (z22:Bool) (z23:Bool) (z24:Bool):H:=[(0,(.box [(.tv .bool z14),(.tv .bool z15),(.tv .bool z16),(.tv .bool z17)])),(1002,(.box [(.tv i64 z18),(.tv i64 z19),(.tv (.sl (.st 1)) z20)])),(1004,(.box [(.tv .bool z21),(.tv .bool z22),(.tv .bool z23),(.tv .bool z24)]))]
def f58_1.s1' {R:Type} (L N:Nat) (self58_1:Bool→Bool→Bool→Bool→Tree→Option (Bool×Bool×Bool×Bool)) (k1_e2:Bool→Bool→Bool→Bool→Option R) (rec1:Bool→Bool→Bool→Bool→Int→Bool→Bool→Bool→Bool→Option R) (s58:Bool) (s59:Bool) (s60:Bool) (s61:Bool) (s62:Int) (s63:Bool) (s64:Bool) (s65:Bool) (s66:Bool):Option R:=
 bif (decide (s62<(4:Int))) then
  bif (decide (0≤s62)&&decide (s62<((4:Nat):Int))) then
   bif (decide (0≤s62)&&decide (s62<((4:Nat):Int))) then
    bif (Nat.blt (0+s62.toNat) 4) then
     bif (atB (0+s62.toNat) [s63,s64,s65,s66]) then
      bif (decide (0≤s62)&&decide (s62<((4:Nat):Int))) then
       bif (Nat.blt (0+s62.toNat) 4) then
        rec1 s58 s59 s60 s61 (wi (s62+(1:Int))) (bif Nat.beq (0+s62.toNat) 0 then true else s63) (bif Nat.beq (0+s62.toNat) 1 then true else s64) (bif Nat.beq (0+s62.toNat) 2 then true else s65) (bif Nat.beq (0+s62.toNat) 3 then true else s66)
       else none
      else none
     else bif (decide (0≤s62)&&decide (s62<((4:Nat):Int))) then
      bif (Nat.blt (0+s62.toNat) 4) then
       rec1 s58 s59 s60 s61 (wi (s62+(1:Int))) (bif Nat.beq (0+s62.toNat) 0 then (atB s62.toNat [s58,s59,s60,s61]) else s63) (bif Nat.beq (0+s62.toNat) 1 then (atB s62.toNat [s58,s59,s60,s61]) else s64) (bif Nat.beq (0+s62.toNat) 2 then (atB s62.toNat [s58,s59,s60,s61]) else s65) (bif Nat.beq (0+s62.toNat) 3 then (atB s62.toNat [s58,s59,s60,s61]) else s66)
      else none
     else none
    else none
   else none
  else none
 else k1_e2 s63 s64 s65 s66
def f58_1.s1 {R:Type} (L N:Nat) (self58_1:Bool→Bool→Bool→Bool→Tree→Option (Bool×Bool×Bool×Bool)) (k1_e2:Bool→Bool→Bool→Bool→Option R) (rec1:Bool→Bool→Bool→Bool→Int→Bool→Bool→Bool→Bool→Option R) (s58:Bool) (s59:Bool) (s60:Bool) (s61:Bool) (s62:Int) (s63:Bool) (s64:Bool) (s65:Bool) (s66:Bool):Option R:=
 f58_1.s1' L N self58_1 k1_e2 rec1 s58 s59 s60 s61 s62 s63 s64 s65 s66
def f58_1.l1 {R:Type} (L N:Nat) (self58_1:Bool→Bool→Bool→Bool→Tree→Option (Bool×Bool×Bool×Bool)) (k1_e2:Bool→Bool→Bool→Bool→Option R):Nat→Bool→Bool→Bool→Bool→Int→Bool→Bool→Bool→Bool→Option R
 |0,_,_,_,_,_,_,_,_,_=>none
 |n+1,s58,s59,s60,s61,s62,s63,s64,s65,s66=>f58_1.s1 L N self58_1 k1_e2 (f58_1.l1 L N self58_1 k1_e2 n) s58 s59 s60 s61 s62 s63 s64 s65 s66
def f58_1.T1 (s58:Bool) (s59:Bool) (s60:Bool) (s61:Bool) (s62:Int) (s63:Bool) (s64:Bool) (s65:Bool) (s66:Bool):T:=mkT 56 [(1,(.ptr 0 0)),(38,(.agg [(.tv .bool s58),(.tv .bool s59),(.tv .bool s60),(.tv .bool s61)])),(39,(.tv i64 s62))]++[.ptr 0 0]
def f58_1.H1 (s58:Bool) (s59:Bool) (s60:Bool) (s61:Bool) (s62:Int) (s63:Bool) (s64:Bool) (s65:Bool) (s66:Bool):H:=[(0,(.box [(.tv .bool s63),(.tv .bool s64),(.tv .bool s65),(.tv .bool s66)]))]
def f58_1.T1_e2 (z67:Bool) (z68:Bool) (z69:Bool) (z70:Bool):T:=mkT 56 []++[.ptr 0 0]
def f58_1.H1_e2 (z67:Bool) (z68:Bool) (z69:Bool) (z70:Bool):H:=[(0,(.box [(.tv .bool z67),(.tv .bool z68),(.tv .bool z69),(.tv .bool z70)]))]
def f58_1.p1_e2' {R:Type} (L N:Nat) (self58_1:Bool→Bool→Bool→Bool→Tree→Option (Bool×Bool×Bool×Bool)) (k:Bool→Bool→Bool→Bool→Option R) (z67:Bool) (z68:Bool) (z69:Bool) (z70:Bool):Option R:=
 k z67 z68 z69 z70
def f58_1.p1_e2 {R:Type} (L N:Nat) (self58_1:Bool→Bool→Bool→Bool→Tree→Option (Bool×Bool×Bool×Bool)) (k:Bool→Bool→Bool→Bool→Option R) (z67:Bool) (z68:Bool) (z69:Bool) (z70:Bool):Option R:=
 f58_1.p1_e2' L N self58_1 k z67 z68 z69 z70
def f58_1.j1' {R:Type} (L N:Nat) (self58_1:Bool→Bool→Bool→Bool→Tree→Option (Bool×Bool×Bool×Bool)) (k:Bool→Bool→Bool→Bool→Option R) (w1:Bool→Bool→Bool→Bool→Int→Bool→Bool→Bool→Bool→Option R) (v50:Bool) (v51:Bool) (v52:Bool) (v53:Bool) (v54:Bool) (v55:Bool) (v56:Bool) (v57:Bool):Option R:=
 w1 v54 v55 v56 v57 (0:Int) v50 v51 v52 v53
def f58_1.j2' {R:Type} (L N:Nat) (self58_1:Bool→Bool→Bool→Bool→Tree→Option (Bool×Bool×Bool×Bool)) (k:Bool→Bool→Bool→Bool→Option R) (w1:Bool→Bool→Bool→Bool→Int→Bool→Bool→Bool→Bool→Option R) (v39:Bool) (v40:Bool) (v41:Bool) (v42:Bool) (v43:Int) (v44:Int) (v45:LT) (v46:Bool) (v47:Bool) (v48:Bool) (v49:Bool):Option R:=
 bif (v43==(4:Int)) then
  bif (decide (0≤v44)&&decide (v44<((4:Nat):Int))) then
   bif (Nat.blt (0+v44.toNat) 4) then
    f58_1.j1' L N self58_1 k w1 v39 v40 v41 v42 (bif Nat.beq (0+v44.toNat) 0 then false else v46) (bif Nat.beq (0+v44.toNat) 1 then false else v47) (bif Nat.beq (0+v44.toNat) 2 then false else v48) (bif Nat.beq (0+v44.toNat) 3 then false else v49)
   else none
  else none
 else f58_1.j1' L N self58_1 k w1 v39 v40 v41 v42 v46 v47 v48 v49
def f58_1.j0' {R:Type} (L N:Nat) (self58_1:Bool→Bool→Bool→Bool→Tree→Option (Bool×Bool×Bool×Bool)) (k:Bool→Bool→Bool→Bool→Option R) (w1:Bool→Bool→Bool→Bool→Int→Bool→Bool→Bool→Bool→Option R) (v26:Bool) (v27:Bool) (v28:Bool) (v29:Bool) (v30:Bool) (v31:Int) (v32:Int) (v33:LT) (v34:Bool) (v35:Bool) (v36:Bool) (v37:Bool):Option R:=
 bif v26 then
  (f89 L N v32).bind fun y38=>
  bif (decide (0≤y38)&&decide (y38<((4:Nat):Int))) then
   bif (Nat.blt (0+y38.toNat) 4) then
    f58_1.j2' L N self58_1 k w1 v27 v28 v29 v30 v31 v32 v33 (bif Nat.beq (0+y38.toNat) 0 then true else v34) (bif Nat.beq (0+y38.toNat) 1 then true else v35) (bif Nat.beq (0+y38.toNat) 2 then true else v36) (bif Nat.beq (0+y38.toNat) 3 then true else v37)
   else none
  else none
 else f58_1.j2' L N self58_1 k w1 v27 v28 v29 v30 v31 v32 v33 v34 v35 v36 v37
def f58_1.p0_e0' {R:Type} (L N:Nat) (self58_1:Bool→Bool→Bool→Bool→Tree→Option (Bool×Bool×Bool×Bool)) (k:Bool→Bool→Bool→Bool→Option R) (w1:Bool→Bool→Bool→Bool→Int→Bool→Bool→Bool→Bool→Option R) (z14:Bool) (z15:Bool) (z16:Bool) (z17:Bool) (z18:Int) (z19:Int) (z20:LT) (z21:Bool) (z22:Bool) (z23:Bool) (z24:Bool):Option R:=
 bif (z18==(1:Int)) then
  f58_1.j0' L N self58_1 k w1 (z19 !=(0:Int)) z14 z15 z16 z17 z18 z19 z20 z21 z22 z23 z24
 else f58_1.j0' L N self58_1 k w1 false z14 z15 z16 z17 z18 z19 z20 z21 z22 z23 z24
def f58_1.p0_e0 {R:Type} (L N:Nat) (self58_1:Bool→Bool→Bool→Bool→Tree→Option (Bool×Bool×Bool×Bool)) (k:Bool→Bool→Bool→Bool→Option R) (z14:Bool) (z15:Bool) (z16:Bool) (z17:Bool) (z18:Int) (z19:Int) (z20:LT) (z21:Bool) (z22:Bool) (z23:Bool) (z24:Bool):Option R:=
 f58_1.p0_e0' L N self58_1 k (fun s58 s59 s60 s61 s62 s63 s64 s65 s66=>f58_1.l1 L N self58_1 (fun z67 z68 z69 z70=>f58_1.p1_e2 L N self58_1 k z67 z68 z69 z70) L s58 s59 s60 s61 s62 s63 s64 s65 s66) z14 z15 z16 z17 z18 z19 z20 z21 z22 z23 z24
def f58_1.b' {R:Type} (L N:Nat) (self58_1:Bool→Bool→Bool→Bool→Tree→Option (Bool×Bool×Bool×Bool)) (k:Bool→Bool→Bool→Bool→Option R) (w0:LT→Int→Int→Bool→Bool→Bool→Bool→Int→Int→LT→Bool→Bool→Bool→Bool→Option R) (c0:Bool) (c1:Bool) (c2:Bool) (c3:Bool) (x0:Tree):Option R:=
 w0 x0.parts (x0.parts.length:Int) (0:Int) c0 c1 c2 c3 x0.op x0.n x0.parts false false false false
def f58_1.b {R:Type} (L N:Nat) (self58_1:Bool→Bool→Bool→Bool→Tree→Option (Bool×Bool×Bool×Bool)) (k:Bool→Bool→Bool→Bool→Option R) (c0:Bool) (c1:Bool) (c2:Bool) (c3:Bool) (x0:Tree):Option R:=
 f58_1.b' L N self58_1 k (fun s0 s1 s2 s3 s4 s5 s6 s7 s8 s9 s10 s11 s12 s13=>f58_1.l0 L N self58_1 (fun z14 z15 z16 z17 z18 z19 z20 z21 z22 z23 z24=>f58_1.p0_e0 L N self58_1 k z14 z15 z16 z17 z18 z19 z20 z21 z22 z23 z24) L s0 s1 s2 s3 s4 s5 s6 s7 s8 s9 s10 s11 s12 s13) c0 c1 c2 c3 x0
def f58_1 (L N:Nat):Nat→Bool→Bool→Bool→Bool→Tree→Option (Bool×Bool×Bool×Bool)
 |0,_,_,_,_,_=>none
 |n+1,c0,c1,c2,c3,x0=>f58_1.b L N (f58_1 L N n) (fun a0 a1 a2 a3=>some (a0,a1,a2,a3)) c0 c1 c2 c3 x0
def f58_1.ent (L N m:Nat) (args:List AV) (vw:View) (_:Nat):Option Ans:=match mutD [.bool,.bool,.bool,.bool] [(.sh (.dat (.st 1))),(.mut 0)] vw args with
 |some (o,d0,d,u)=>some ⟨Bool×Bool×Bool×Bool,f58_1 L N m d0.1 d0.2.1 d0.2.2.1 d0.2.2.2.1 d.1,fun y=>((.tup []),u++[(o,some (.box [(.tv .bool y.1),(.tv .bool y.2.1),(.tv .bool y.2.2.1),(.tv .bool y.2.2.2)]))],[])⟩
 |none=>none
def Φ58_1s (L N m:Nat):Tells:=(addO (Φ125_1 L N) 58 (f58_1.ent L N m))
noncomputable def E58_1 (L N m:Nat):Env:={P:=Tryz.prog,ty:=tyOf,Φ:=Φ58_1s L N m,inl:=inlT,live:=lives,liveX:=livesX,L:=L,dp:=none,prom:=promT,heal:=healT,ren:=renT}
noncomputable def f58_1.c0:Code:=loopAt 0 (codeOf Tryz.f58)
def f58_1.X0_e0 {R:Type} (κ:KX R):=fun z14 z15 z16 z17 z18 z19 z20 z21 z22 z23 z24=>κ (.exit 0) (f58_1.T0_e0 z14 z15 z16 z17 z18 z19 z20 z21 z22 z23 z24) (f58_1.H0_e0 z14 z15 z16 z17 z18 z19 z20 z21 z22 z23 z24)
def f58_1.R0 {R:Type} (rec:KT R):=fun s0 s1 s2 s3 s4 s5 s6 s7 s8 s9 s10 s11 s12 s13=>rec (f58_1.T0 s0 s1 s2 s3 s4 s5 s6 s7 s8 s9 s10 s11 s12 s13) (f58_1.H0 s0 s1 s2 s3 s4 s5 s6 s7 s8 s9 s10 s11 s12 s13)
theorem f58_1.s0_eq {R:Type} (L N m:Nat) (κ:KX R) (rec:KT R) (s0:LT) (s1:Int) (s2:Int) (s3:Bool) (s4:Bool) (s5:Bool) (s6:Bool) (s7:Int) (s8:Int) (s9:LT) (s10:Bool) (s11:Bool) (s12:Bool) (s13:Bool):
  evRd (E58_1 L N m) (evCallI (E58_1 L N m) 0 1000) 1000 58 56 0 f58_1.c0 κ rec (f58_1.T0 s0 s1 s2 s3 s4 s5 s6 s7 s8 s9 s10 s11 s12 s13) (f58_1.H0 s0 s1 s2 s3 s4 s5 s6 s7 s8 s9 s10 s11 s12 s13)
  =f58_1.s0 L N (f58_1 L N m) (f58_1.X0_e0 κ) (f58_1.R0 rec) s0 s1 s2 s3 s4 s5 s6 s7 s8 s9 s10 s11 s12 s13:=by kernel_rfl
theorem f58_1.l0_eq {R:Type} (L N m:Nat) (κ:KX R):∀(n:Nat) (s0:LT) (s1:Int) (s2:Int) (s3:Bool) (s4:Bool) (s5:Bool) (s6:Bool) (s7:Int) (s8:Int) (s9:LT) (s10:Bool) (s11:Bool) (s12:Bool) (s13:Bool),
  evLp (E58_1 L N m) (evCallI (E58_1 L N m) 0 1000) 1000 58 56 0 f58_1.c0 κ n (f58_1.T0 s0 s1 s2 s3 s4 s5 s6 s7 s8 s9 s10 s11 s12 s13) (f58_1.H0 s0 s1 s2 s3 s4 s5 s6 s7 s8 s9 s10 s11 s12 s13)
  =f58_1.l0 L N (f58_1 L N m) (f58_1.X0_e0 κ) n s0 s1 s2 s3 s4 s5 s6 s7 s8 s9 s10 s11 s12 s13:=by
 intro n
 induction n with
 |zero=>intros;rfl
 |succ n ih=>
  intro s0 s1 s2 s3 s4 s5 s6 s7 s8 s9 s10 s11 s12 s13
  rw [evLp_succ,f58_1.s0_eq]
  delta f58_1.R0
  simp only [ih]
  rfl
noncomputable def f58_1.c1:Code:=loopAt 2 (codeOf Tryz.f58)
def f58_1.X1_e2 {R:Type} (κ:KX R):=fun z67 z68 z69 z70=>κ (.exit 2) (f58_1.T1_e2 z67 z68 z69 z70) (f58_1.H1_e2 z67 z68 z69 z70)
def f58_1.R1 {R:Type} (rec:KT R):=fun s58 s59 s60 s61 s62 s63 s64 s65 s66=>rec (f58_1.T1 s58 s59 s60 s61 s62 s63 s64 s65 s66) (f58_1.H1 s58 s59 s60 s61 s62 s63 s64 s65 s66)
theorem f58_1.s1_eq {R:Type} (L N m:Nat) (κ:KX R) (rec:KT R) (s58:Bool) (s59:Bool) (s60:Bool) (s61:Bool) (s62:Int) (s63:Bool) (s64:Bool) (s65:Bool) (s66:Bool):
  evRd (E58_1 L N m) (evCallI (E58_1 L N m) 0 1000) 1000 58 56 2 f58_1.c1 κ rec (f58_1.T1 s58 s59 s60 s61 s62 s63 s64 s65 s66) (f58_1.H1 s58 s59 s60 s61 s62 s63 s64 s65 s66)
  =f58_1.s1 L N (f58_1 L N m) (f58_1.X1_e2 κ) (f58_1.R1 rec) s58 s59 s60 s61 s62 s63 s64 s65 s66:=by kernel_rfl
theorem f58_1.l1_eq {R:Type} (L N m:Nat) (κ:KX R):∀(n:Nat) (s58:Bool) (s59:Bool) (s60:Bool) (s61:Bool) (s62:Int) (s63:Bool) (s64:Bool) (s65:Bool) (s66:Bool),
  evLp (E58_1 L N m) (evCallI (E58_1 L N m) 0 1000) 1000 58 56 2 f58_1.c1 κ n (f58_1.T1 s58 s59 s60 s61 s62 s63 s64 s65 s66) (f58_1.H1 s58 s59 s60 s61 s62 s63 s64 s65 s66)
  =f58_1.l1 L N (f58_1 L N m) (f58_1.X1_e2 κ) n s58 s59 s60 s61 s62 s63 s64 s65 s66:=by
 intro n
 induction n with
 |zero=>intros;rfl
 |succ n ih=>
  intro s58 s59 s60 s61 s62 s63 s64 s65 s66
  rw [evLp_succ,f58_1.s1_eq]
  delta f58_1.R1
  simp only [ih]
  rfl
theorem f58_1.p1_e2_eq {R:Type} (L N m:Nat) (κ:AV→Dens [.bool,.bool,.bool,.bool]→Option R) (z67:Bool) (z68:Bool) (z69:Bool) (z70:Bool):
  (contAt (E58_1 L N m) (evCallI (E58_1 L N m) 0 1000) 1000 58 56 2 (codeOf Tryz.f58) (finK (E58_1 L N m) 1000 Tryz.f58 (finM (.many []) [.bool,.bool,.bool,.bool] κ))) (.exit 2) (f58_1.T1_e2 z67 z68 z69 z70) (f58_1.H1_e2 z67 z68 z69 z70)
  =f58_1.p1_e2 L N (f58_1 L N m) (fun a0 a1 a2 a3=>κ (.tup []) (a0,a1,a2,a3,())) z67 z68 z69 z70:=by kernel_rfl
theorem f58_1.p0_e0_eq {R:Type} (L N m:Nat) (κ:AV→Dens [.bool,.bool,.bool,.bool]→Option R) (z14:Bool) (z15:Bool) (z16:Bool) (z17:Bool) (z18:Int) (z19:Int) (z20:LT) (z21:Bool) (z22:Bool) (z23:Bool) (z24:Bool):
  (contAt (E58_1 L N m) (evCallI (E58_1 L N m) 0 1000) 1000 58 56 0 (codeOf Tryz.f58) (finK (E58_1 L N m) 1000 Tryz.f58 (finM (.many []) [.bool,.bool,.bool,.bool] κ))) (.exit 0) (f58_1.T0_e0 z14 z15 z16 z17 z18 z19 z20 z21 z22 z23 z24) (f58_1.H0_e0 z14 z15 z16 z17 z18 z19 z20 z21 z22 z23 z24)
  =f58_1.p0_e0 L N (f58_1 L N m) (fun a0 a1 a2 a3=>κ (.tup []) (a0,a1,a2,a3,())) z14 z15 z16 z17 z18 z19 z20 z21 z22 z23 z24:=by
 refine Eq.trans (b:=f58_1.p0_e0' L N (f58_1 L N m) (fun a0 a1 a2 a3=>κ (.tup []) (a0,a1,a2,a3,())) (fun s58 s59 s60 s61 s62 s63 s64 s65 s66=>evLp (E58_1 L N m) (evCallI (E58_1 L N m) 0 1000) 1000 58 56 2 f58_1.c1 (contAt (E58_1 L N m) (evCallI (E58_1 L N m) 0 1000) 1000 58 56 2 (codeOf Tryz.f58) (finK (E58_1 L N m) 1000 Tryz.f58 (finM (.many []) [.bool,.bool,.bool,.bool] κ))) L (f58_1.T1 s58 s59 s60 s61 s62 s63 s64 s65 s66) (f58_1.H1 s58 s59 s60 s61 s62 s63 s64 s65 s66)) z14 z15 z16 z17 z18 z19 z20 z21 z22 z23 z24) (by kernel_rfl) ?_
 unfold f58_1.p0_e0
 simp only [f58_1.l1_eq]
 delta f58_1.X1_e2
 simp only [f58_1.p1_e2_eq]
theorem f58_1.b_eq {R:Type} (L N m:Nat) (κ:AV→Dens [.bool,.bool,.bool,.bool]→Option R) (c0:Bool) (c1:Bool) (c2:Bool) (c3:Bool) (x0:Tree):
  evBody (E58_1 L N m) (evCallI (E58_1 L N m) 0 1000) 1000 58 Tryz.f58 [(.tv (.st 1) x0),(.ptr 0 0)] [.ptr 0 0] [(0,(.box [(.tv .bool c0),(.tv .bool c1),(.tv .bool c2),(.tv .bool c3)]))] (finM (.many []) [.bool,.bool,.bool,.bool] κ)
  =f58_1.b L N (f58_1 L N m) (fun a0 a1 a2 a3=>κ (.tup []) (a0,a1,a2,a3,())) c0 c1 c2 c3 x0:=by
 refine Eq.trans (b:=f58_1.b' L N (f58_1 L N m) (fun a0 a1 a2 a3=>κ (.tup []) (a0,a1,a2,a3,())) (fun s0 s1 s2 s3 s4 s5 s6 s7 s8 s9 s10 s11 s12 s13=>evLp (E58_1 L N m) (evCallI (E58_1 L N m) 0 1000) 1000 58 56 0 f58_1.c0 (contAt (E58_1 L N m) (evCallI (E58_1 L N m) 0 1000) 1000 58 56 0 (codeOf Tryz.f58) (finK (E58_1 L N m) 1000 Tryz.f58 (finM (.many []) [.bool,.bool,.bool,.bool] κ))) L (f58_1.T0 s0 s1 s2 s3 s4 s5 s6 s7 s8 s9 s10 s11 s12 s13) (f58_1.H0 s0 s1 s2 s3 s4 s5 s6 s7 s8 s9 s10 s11 s12 s13)) c0 c1 c2 c3 x0) (by kernel_rfl) ?_
 unfold f58_1.b
 simp only [f58_1.l0_eq]
 delta f58_1.X0_e0
 simp only [f58_1.p0_e0_eq]
theorem f58_1.ok (L N m:Nat) (hΦ:TellsOk Tryz.prog (Φ58_1s L N m)):EntOkO Tryz.prog 58 (f58_1.ent L N (m+1)):=by
 intro args vw site h a ha
 unfold f58_1.ent at ha
 split at ha
 ·rename_i o d0 d u hd
  obtain rfl:=Option.some.inj ha
  intro y hy hs
  obtain ⟨cs,ho,hd0,hr⟩:=mutD_some hd
  refine call_mut (y:=y) (dep:=1000) (v':=(.tup [])) (d1:=(y.1,y.2.1,y.2.2.1,y.2.2.2,())) (E:=(E58_1 L N m)) (ts:=[.bool,.bool,.bool,.bool]) (rs:=(.many [])) (κ:=(fun v d=>(unR (.many []) v).bind fun x=>some (d.1,d.2.1,d.2.2.1,d.2.2.2.1))) (sound_of hΦ) okP (callI_sound (sound_of hΦ) okP 0 1000) (f:=Tryz.f58) rfl hs ho hd0 hr ?_ (fun _ _ h=>by obtain ⟨x,h1,h2⟩:=unR_bind h;obtain rfl:=Option.some.inj h2;exact ⟨h1,rfl⟩) site
  exact (f58_1.b_eq L N m (fun v d=>(unR (.many []) v).bind fun x=>some (d.1,d.2.1,d.2.2.1,d.2.2.2.1)) d0.1 d0.2.1 d0.2.2.1 d0.2.2.2.1 d.1).trans (Eq.trans (b:=f58_1.b L N (f58_1 L N m) (fun a0 a1 a2 a3=>some (a0,a1,a2,a3)) d0.1 d0.2.1 d0.2.2.1 d0.2.2.2.1 d.1) (by kernel_rfl) hy)
 ·cases ha
theorem Φ58_1s_ok (L N:Nat):∀m,TellsOk Tryz.prog (Φ58_1s L N m):=by
 intro m
 induction m with
 |zero=>exact (addO_ok (Φ125_1_ok L N) (fun args vw site h a ha=>by unfold f58_1.ent at ha;split at ha<;>first|(cases ha;done)|(obtain rfl:=Option.some.inj ha;intro y hy;cases hy)))
 |succ m ih=>exact (addO_ok (Φ125_1_ok L N) (f58_1.ok L N m ih))
def Φ58_1 (L N:Nat):Tells:=(addO (Φ125_1 L N) 58 (f58_1.ent L N N))
theorem Φ58_1_ok (L N:Nat):TellsOk Tryz.prog (Φ58_1 L N):=Φ58_1s_ok L N N
def f83.s0' {R:Type} (L N:Nat) (k0_e1:Int→Int→LT→Option R) (rec0:Int→Int→Int→Int→LT→LS→Option R) (s69:Int) (s70:Int) (s71:Int) (s72:Int) (s73:LT) (s74:LS):Option R:=
 bif (decide (s70<s69)) then
  bif (decide (0≤s70)&&decide (s70<(s74.length:Int))) then
   (f94 L N ((listAt s74 (Ty.dflt (.st 3)) s70.toNat).act) (Tree.mk ((listAt s74 (Ty.dflt (.st 3)) s70.toNat).thn.op) ((listAt s74 (Ty.dflt (.st 3)) s70.toNat).thn.n) ((listAt s74 (Ty.dflt (.st 3)) s70.toNat).thn.parts))).bind fun y78=>
   bif (decide (s73.length+([y78]:LT).length≤lim)) then
    rec0 s69 (wi (s70+(1:Int))) s71 s72 (s73++([y78]:LT)) s74
   else none
  else none
 else k0_e1 s71 s72 s73
def f83.s0 {R:Type} (L N:Nat) (k0_e1:Int→Int→LT→Option R) (rec0:Int→Int→Int→Int→LT→LS→Option R) (s69:Int) (s70:Int) (s71:Int) (s72:Int) (s73:LT) (s74:LS):Option R:=
 f83.s0' L N k0_e1 rec0 s69 s70 s71 s72 s73 s74
def f83.l0 {R:Type} (L N:Nat) (k0_e1:Int→Int→LT→Option R):Nat→Int→Int→Int→Int→LT→LS→Option R
 |0,_,_,_,_,_,_=>none
 |n+1,s69,s70,s71,s72,s73,s74=>f83.s0 L N k0_e1 (f83.l0 L N k0_e1 n) s69 s70 s71 s72 s73 s74
def f83.T0 (s69:Int) (s70:Int) (s71:Int) (s72:Int) (s73:LT) (s74:LS):T:=mkT 262 [(4,(.ptr 1004 0)),(14,(.row 1242)),(244,(.row 1244)),(245,(.tv i64 s69)),(246,(.tv i64 s70))]
def f83.H0 (s69:Int) (s70:Int) (s71:Int) (s72:Int) (s73:LT) (s74:LS):H:=[(1004,(.box [(.tv i64 s71),(.tv i64 s72),.nil])),(1242,(.row 25 (.st 1) s73)),(1244,(.row 113 (.st 3) s74))]
def f83.T0_e1 (z75:Int) (z76:Int) (z77:LT):T:=mkT 262 [(4,(.ptr 1004 0)),(14,(.row 1242))]
def f83.H0_e1 (z75:Int) (z76:Int) (z77:LT):H:=[(1004,(.box [(.tv i64 z75),(.tv i64 z76),.nil])),(1242,(.row 25 (.st 1) z77))]
def f83.p0_e1' {R:Type} (L N:Nat) (k:Tree→Bool→Option R) (z75:Int) (z76:Int) (z77:LT):Option R:=
 (f96 L N z77).bind fun y79=>
 k (Tree.mk y79.op y79.n y79.parts) true
def f83.p0_e1 {R:Type} (L N:Nat) (k:Tree→Bool→Option R) (z75:Int) (z76:Int) (z77:LT):Option R:=
 f83.p0_e1' L N k z75 z76 z77
def f83.j0' {R:Type} (L N:Nat) (k:Tree→Bool→Option R) (v3:Int) (v4:Bool) (v5:Int) (v6:Int) (v7:LT) (v8:Int) (v9:Int):Option R:=
 bif v4 then
  bif (decide (0≤(1:Int))&&decide ((1:Int)<(v7.length:Int))) then
   bif (decide (0≤(0:Int))&&decide ((0:Int)<(((listAt v7 (Ty.dflt (.st 1)) (1:Int).toNat).parts).length:Int))) then
    bif (decide (0≤(1:Int))&&decide ((1:Int)<(v7.length:Int))) then
     bif (decide (0≤(1:Int))&&decide ((1:Int)<(((listAt v7 (Ty.dflt (.st 1)) (1:Int).toNat).parts).length:Int))) then
      bif (decide (0≤(0:Int))&&decide ((0:Int)<(v7.length:Int))) then
       k (Tree.mk v3 (0:Int) ([(Tree.mk v3 (0:Int) ([(listAt v7 (Ty.dflt (.st 1)) (0:Int).toNat),(Tree.mk ((listAt ((listAt v7 (Ty.dflt (.st 1)) (1:Int).toNat).parts) (Ty.dflt (.st 1)) (0:Int).toNat).op) ((listAt ((listAt v7 (Ty.dflt (.st 1)) (1:Int).toNat).parts) (Ty.dflt (.st 1)) (0:Int).toNat).n) ((listAt ((listAt v7 (Ty.dflt (.st 1)) (1:Int).toNat).parts) (Ty.dflt (.st 1)) (0:Int).toNat).parts))]:LT)),(Tree.mk ((listAt ((listAt v7 (Ty.dflt (.st 1)) (1:Int).toNat).parts) (Ty.dflt (.st 1)) (1:Int).toNat).op) ((listAt ((listAt v7 (Ty.dflt (.st 1)) (1:Int).toNat).parts) (Ty.dflt (.st 1)) (1:Int).toNat).n) ((listAt ((listAt v7 (Ty.dflt (.st 1)) (1:Int).toNat).parts) (Ty.dflt (.st 1)) (1:Int).toNat).parts))]:LT)) true
      else none
     else none
    else none
   else none
  else none
 else k (Tree.mk (0:Int) (0:Int) []) false
def f83.j1' {R:Type} (L N:Nat) (k:Tree→Bool→Option R) (v13:Bool) (v14:Int) (v15:Int) (v16:LT) (v17:Int) (v18:Int):Option R:=
 bif v13 then
  bif (decide (0≤(0:Int))&&decide ((0:Int)<(v16.length:Int))) then
   k (Tree.mk ((listAt v16 (Ty.dflt (.st 1)) (0:Int).toNat).op) ((listAt v16 (Ty.dflt (.st 1)) (0:Int).toNat).n) ((listAt v16 (Ty.dflt (.st 1)) (0:Int).toNat).parts)) true
  else none
 else k (Tree.mk (0:Int) (0:Int) []) false
def f83.j2' {R:Type} (L N:Nat) (k:Tree→Bool→Option R) (v21:Bool) (v22:Int) (v23:Int) (v24:LT) (v25:Int) (v26:Int):Option R:=
 bif v21 then
  bif (decide (0≤(0:Int))&&decide ((0:Int)<(v24.length:Int))) then
   k (Tree.mk ((listAt v24 (Ty.dflt (.st 1)) (0:Int).toNat).op) ((listAt v24 (Ty.dflt (.st 1)) (0:Int).toNat).n) ((listAt v24 (Ty.dflt (.st 1)) (0:Int).toNat).parts)) true
  else none
 else k (Tree.mk (0:Int) (0:Int) []) false
def f83.j3' {R:Type} (L N:Nat) (k:Tree→Bool→Option R) (v29:Bool) (v30:Int) (v31:Int) (v32:LT) (v33:Int) (v34:Int):Option R:=
 bif v29 then
  bif (decide (0≤(0:Int))&&decide ((0:Int)<(v32.length:Int))) then
   bif (decide (0≤(0:Int))&&decide ((0:Int)<(v32.length:Int))) then
    bif (decide (0≤(0:Int))&&decide ((0:Int)<(((listAt v32 (Ty.dflt (.st 1)) (0:Int).toNat).parts).length:Int))) then
     (f126 L N v31 (listAt ((listAt v32 (Ty.dflt (.st 1)) (0:Int).toNat).parts) (Ty.dflt (.st 1)) (0:Int).toNat)).bind fun y35=>
     (f126 L N ((listAt v32 (Ty.dflt (.st 1)) (0:Int).toNat).n) y35).bind fun y36=>
     k (Tree.mk y36.op y36.n y36.parts) true
    else none
   else none
  else none
 else k (Tree.mk (0:Int) (0:Int) []) false
def f83.j4' {R:Type} (L N:Nat) (k:Tree→Bool→Option R) (v39:Bool) (v40:Int) (v41:Int) (v42:LT) (v43:Int) (v44:Int):Option R:=
 bif v39 then
  bif (decide (0≤(0:Int))&&decide ((0:Int)<(v42.length:Int))) then
   bif (decide (0≤(0:Int))&&decide ((0:Int)<(((listAt v42 (Ty.dflt (.st 1)) (0:Int).toNat).parts).length:Int))) then
    (f126 L N v41 (listAt ((listAt v42 (Ty.dflt (.st 1)) (0:Int).toNat).parts) (Ty.dflt (.st 1)) (0:Int).toNat)).bind fun y45=>
    bif (decide (0≤(0:Int))&&decide ((0:Int)<(v42.length:Int))) then
     bif (decide (0≤(1:Int))&&decide ((1:Int)<(((listAt v42 (Ty.dflt (.st 1)) (0:Int).toNat).parts).length:Int))) then
      (f126 L N v41 (listAt ((listAt v42 (Ty.dflt (.st 1)) (0:Int).toNat).parts) (Ty.dflt (.st 1)) (1:Int).toNat)).bind fun y46=>
      k (Tree.mk (2:Int) (0:Int) ([y45,y46]:LT)) true
     else none
    else none
   else none
  else none
 else k (Tree.mk (0:Int) (0:Int) []) false
def f83.j5' {R:Type} (L N:Nat) (k:Tree→Bool→Option R) (v50:Bool) (v51:Int) (v52:Int) (v53:LT) (v54:Int) (v55:Int):Option R:=
 bif v50 then
  bif (decide (0≤(0:Int))&&decide ((0:Int)<(v53.length:Int))) then
   bif (decide (0≤(0:Int))&&decide ((0:Int)<(v53.length:Int))) then
    bif (decide (0≤(0:Int))&&decide ((0:Int)<(((listAt v53 (Ty.dflt (.st 1)) (0:Int).toNat).parts).length:Int))) then
     (f126 L N v52 (listAt ((listAt v53 (Ty.dflt (.st 1)) (0:Int).toNat).parts) (Ty.dflt (.st 1)) (0:Int).toNat)).bind fun y56=>
     (f94 L N ((listAt v53 (Ty.dflt (.st 1)) (0:Int).toNat).n) y56).bind fun y57=>
     k (Tree.mk y57.op y57.n y57.parts) true
    else none
   else none
  else none
 else k (Tree.mk (0:Int) (0:Int) []) false
def f83.j6' {R:Type} (L N:Nat) (k:Tree→Bool→Option R) (v60:Bool) (v61:Int) (v62:Int) (v63:LT) (v64:Int) (v65:Int):Option R:=
 bif v60 then
  bif (decide (0≤(0:Int))&&decide ((0:Int)<(v63.length:Int))) then
   (f58_1 L N N false false false false (listAt v63 (Ty.dflt (.st 1)) (0:Int).toNat)).bind fun y66=>
   bif (decide (0≤(0:Int))&&decide ((0:Int)<(v63.length:Int))) then
    bif (decide (0≤v62)&&decide (v62<((4:Nat):Int))) then
     bif (Nat.blt (0+v62.toNat) 4) then
      k (Tree.mk ((listAt v63 (Ty.dflt (.st 1)) (0:Int).toNat).op) ((listAt v63 (Ty.dflt (.st 1)) (0:Int).toNat).n) ((listAt v63 (Ty.dflt (.st 1)) (0:Int).toNat).parts)) (!(atB (0+v62.toNat) [y66.1,y66.2.1,y66.2.2.1,y66.2.2.2]))
     else none
    else none
   else none
  else none
 else k (Tree.mk (0:Int) (0:Int) []) false
def f83.b' {R:Type} (L N:Nat) (k:Tree→Bool→Option R) (w0:Int→Int→Int→Int→LT→LS→Option R) (x0:Tree) (x1:Int):Option R:=
 bif (bif (x1==(0:Int)) then (x1==(0:Int)) else (x1==(4:Int))) then
  (f124_1 L N (bif (x1==(4:Int)) then ((3:Int):Int) else ((2:Int):Int)) (Tree.mk x0.op x0.n x0.parts)).bind fun y0=>
  bif y0 then
   bif (decide (0≤(1:Int))&&decide ((1:Int)<(x0.parts.length:Int))) then
    bif (decide (0≤(0:Int))&&decide ((0:Int)<(x0.parts.length:Int))) then
     k (Tree.mk (bif (x1==(4:Int)) then ((3:Int):Int) else ((2:Int):Int)) (0:Int) ([(listAt x0.parts (Ty.dflt (.st 1)) (1:Int).toNat),(listAt x0.parts (Ty.dflt (.st 1)) (0:Int).toNat)]:LT)) true
    else none
   else none
  else k (Tree.mk (0:Int) (0:Int) []) false
 else bif (bif (x1==(1:Int)) then (x1==(1:Int)) else (x1==(5:Int))) then
  (f124_1 L N (bif (x1==(5:Int)) then ((3:Int):Int) else ((2:Int):Int)) (Tree.mk x0.op x0.n x0.parts)).bind fun y1=>
  bif y1 then
   (f125_1 L N (1:Int) (bif (x1==(5:Int)) then ((3:Int):Int) else ((2:Int):Int)) (Tree.mk x0.op x0.n x0.parts)).bind fun y2=>
   f83.j0' L N k (bif (x1==(5:Int)) then ((3:Int):Int) else ((2:Int):Int)) y2 x0.op x0.n x0.parts (0:Int) (0:Int)
  else f83.j0' L N k (bif (x1==(5:Int)) then ((3:Int):Int) else ((2:Int):Int)) false x0.op x0.n x0.parts (0:Int) (0:Int)
 else bif (x1==(2:Int)) then
  (f124_1 L N (2:Int) (Tree.mk x0.op x0.n x0.parts)).bind fun y10=>
  bif y10 then
   bif (decide (0≤(0:Int))&&decide ((0:Int)<(x0.parts.length:Int))) then
    (f92 L N N (listAt x0.parts (Ty.dflt (.st 1)) (0:Int).toNat)).bind fun y11=>
    bif (decide (0≤(1:Int))&&decide ((1:Int)<(x0.parts.length:Int))) then
     (f92 L N N (listAt x0.parts (Ty.dflt (.st 1)) (1:Int).toNat)).bind fun y12=>
     f83.j1' L N k (y11.toList==y12.toList) x0.op x0.n x0.parts (0:Int) (0:Int)
    else none
   else none
  else f83.j1' L N k false x0.op x0.n x0.parts (0:Int) (0:Int)
 else bif (bif (x1==(3:Int)) then (x1==(3:Int)) else (x1==(6:Int))) then
  (f124_1 L N (bif (x1==(6:Int)) then ((3:Int):Int) else ((2:Int):Int)) (Tree.mk x0.op x0.n x0.parts)).bind fun y19=>
  bif y19 then
   (f125_1 L N (1:Int) (0:Int) (Tree.mk x0.op x0.n x0.parts)).bind fun y20=>
   f83.j2' L N k y20 x0.op x0.n x0.parts (0:Int) (0:Int)
  else f83.j2' L N k false x0.op x0.n x0.parts (0:Int) (0:Int)
 else bif (x1==(7:Int)) then
  (f124_1 L N (4:Int) (Tree.mk x0.op x0.n x0.parts)).bind fun y27=>
  bif y27 then
   (f125_1 L N (0:Int) (4:Int) (Tree.mk x0.op x0.n x0.parts)).bind fun y28=>
   f83.j3' L N k y28 x0.op x0.n x0.parts (0:Int) (0:Int)
  else f83.j3' L N k false x0.op x0.n x0.parts (0:Int) (0:Int)
 else bif (x1==(8:Int)) then
  (f124_1 L N (4:Int) (Tree.mk x0.op x0.n x0.parts)).bind fun y37=>
  bif y37 then
   (f125_1 L N (0:Int) (2:Int) (Tree.mk x0.op x0.n x0.parts)).bind fun y38=>
   f83.j4' L N k y38 x0.op x0.n x0.parts (0:Int) (0:Int)
  else f83.j4' L N k false x0.op x0.n x0.parts (0:Int) (0:Int)
 else bif (x1==(9:Int)) then
  (f124_1 L N (4:Int) (Tree.mk x0.op x0.n x0.parts)).bind fun y47=>
  bif y47 then
   (f125_1 L N (0:Int) (1:Int) (Tree.mk x0.op x0.n x0.parts)).bind fun y48=>
   bif y48 then
    bif (decide (0≤(0:Int))&&decide ((0:Int)<(x0.parts.length:Int))) then
     bif ((listAt x0.parts (Ty.dflt (.st 1)) (0:Int).toNat).n==(0:Int)) then
      f83.j5' L N k true x0.op x0.n x0.parts (0:Int) (0:Int)
     else bif (decide (0≤(0:Int))&&decide ((0:Int)<(x0.parts.length:Int))) then
      (f89 L N ((listAt x0.parts (Ty.dflt (.st 1)) (0:Int).toNat).n)).bind fun y49=>
      f83.j5' L N k (y49 !=x0.n) x0.op x0.n x0.parts (0:Int) (0:Int)
     else none
    else none
   else f83.j5' L N k false x0.op x0.n x0.parts (0:Int) (0:Int)
  else f83.j5' L N k false x0.op x0.n x0.parts (0:Int) (0:Int)
 else bif (x1==(10:Int)) then
  (f124_1 L N (4:Int) (Tree.mk x0.op x0.n x0.parts)).bind fun y58=>
  bif y58 then
   bif (decide (0≤(0:Int))&&decide ((0:Int)<(x0.parts.length:Int))) then
    (f59 L N N (listAt x0.parts (Ty.dflt (.st 1)) (0:Int).toNat)).bind fun y59=>
    f83.j6' L N k y59 x0.op x0.n x0.parts (0:Int) (0:Int)
   else none
  else f83.j6' L N k false x0.op x0.n x0.parts (0:Int) (0:Int)
 else bif (x1==(11:Int)) then
  (f59 L N N (Tree.mk x0.op x0.n x0.parts)).bind fun y67=>
  bif y67 then
   (f93 L N N (Tree.mk x0.op x0.n x0.parts) []).bind fun y68=>
   w0 (y68.length:Int) (0:Int) (0:Int) (0:Int) ([]:LT) y68
  else k (Tree.mk (0:Int) (0:Int) []) false
 else k (Tree.mk (0:Int) (0:Int) []) false
def f83.b {R:Type} (L N:Nat) (k:Tree→Bool→Option R) (x0:Tree) (x1:Int):Option R:=
 f83.b' L N k (fun s69 s70 s71 s72 s73 s74=>f83.l0 L N (fun z75 z76 z77=>f83.p0_e1 L N k z75 z76 z77) L s69 s70 s71 s72 s73 s74) x0 x1
def f83 (L N:Nat) (x0:Tree) (x1:Int):Option (Tree×Bool):=f83.b L N (fun a0 a1=>some (a0,a1)) x0 x1
def f83.ent (L N:Nat):=entDa [(.st 1),i64] (.many [(.st 1),.bool]) fun d=>f83 L N d.1 d.2.1
noncomputable def E83 (L N:Nat):Env:={P:=Tryz.prog,ty:=tyOf,Φ:=(Φ58_1 L N),inl:=inlT,live:=lives,liveX:=livesX,L:=L,dp:=none,prom:=promT,heal:=healT,ren:=renT,ifc:=fun f=>Nat.beq f 83}
noncomputable def f83.c0:Code:=loopAt 1 (codeOf Tryz.f83)
def f83.X0_e1 {R:Type} (κ:KX R):=fun z75 z76 z77=>κ (.exit 1) (f83.T0_e1 z75 z76 z77) (f83.H0_e1 z75 z76 z77)
end Go.Proofs.YthidlhjjnaldhaaGreatDoor.Ev
