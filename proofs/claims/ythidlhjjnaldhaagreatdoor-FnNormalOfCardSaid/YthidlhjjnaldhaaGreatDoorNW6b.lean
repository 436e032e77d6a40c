/- The seat's functions as plain functions, continued: made by program (wip/gen/gen.py). -/
import Derived.Test.YthidlhjjnaldhaaGreatDoorNW6a
namespace Go.Proofs.YthidlhjjnaldhaaGreatDoor.Ev
open Go
set_option linter.unusedVariables false
set_option maxRecDepth 20000
def f57.s0' {R:Type} (L N:Nat) (self19:Tree→Tree→Option (Bool)) (self57:LT→LT→Option (Bool)) (k0_e0:Option R) (k0_r:Bool→Option R) (rec0:LT→LT→Int→Option R) (s0:LT) (s1:LT) (s2:Int):Option R:=
 bif (decide (s2<(s0.length:Int))) then
  bif (decide (0≤s2)&&decide (s2<(s0.length:Int))) then
   bif (decide (0≤s2)&&decide (s2<(s1.length:Int))) then
    (self19 (listAt s0 (Ty.dflt (.st 1)) s2.toNat) (listAt s1 (Ty.dflt (.st 1)) s2.toNat)).bind fun y3=>
    bif (!y3) then
     k0_r false
    else rec0 s0 s1 (wi (s2+(1:Int)))
   else none
  else none
 else k0_e0
def f57.s0 {R:Type} (L N:Nat) (self19:Tree→Tree→Option (Bool)) (self57:LT→LT→Option (Bool)) (k0_e0:Option R) (k0_r:Bool→Option R) (rec0:LT→LT→Int→Option R) (s0:LT) (s1:LT) (s2:Int):Option R:=
 f57.s0' L N self19 self57 k0_e0 k0_r rec0 s0 s1 s2
def f57.l0 {R:Type} (L N:Nat) (self19:Tree→Tree→Option (Bool)) (self57:LT→LT→Option (Bool)) (k0_e0:Option R) (k0_r:Bool→Option R):Nat→LT→LT→Int→Option R
 |0,_,_,_=>none
 |n+1,s0,s1,s2=>f57.s0 L N self19 self57 k0_e0 k0_r (f57.l0 L N self19 self57 k0_e0 k0_r n) s0 s1 s2
def f57.T0 (s0:LT) (s1:LT) (s2:Int):T:=mkT 27 [(0,(.tv (.sl (.st 1)) s0)),(1,(.tv (.sl (.st 1)) s1)),(5,(.tv i64 s2))]
def f57.H0 (s0:LT) (s1:LT) (s2:Int):H:=[]
def f57.T0_e0:T:=mkT 27 []
def f57.H0_e0:H:=[]
def f57.T0_r (z4:Bool):T:=mkT 27 [(4,(.tv .bool z4))]
def f57.H0_r (z4:Bool):H:=[]
def f57.p0_e0' {R:Type} (L N:Nat) (self19:Tree→Tree→Option (Bool)) (self57:LT→LT→Option (Bool)) (k:Bool→Option R):Option R:=
 k true
def f57.p0_e0 {R:Type} (L N:Nat) (self19:Tree→Tree→Option (Bool)) (self57:LT→LT→Option (Bool)) (k:Bool→Option R):Option R:=
 f57.p0_e0' L N self19 self57 k
def f57.p0_r' {R:Type} (L N:Nat) (self19:Tree→Tree→Option (Bool)) (self57:LT→LT→Option (Bool)) (k:Bool→Option R) (z4:Bool):Option R:=
 k z4
def f57.p0_r {R:Type} (L N:Nat) (self19:Tree→Tree→Option (Bool)) (self57:LT→LT→Option (Bool)) (k:Bool→Option R) (z4:Bool):Option R:=
 f57.p0_r' L N self19 self57 k z4
def f57.b' {R:Type} (L N:Nat) (self19:Tree→Tree→Option (Bool)) (self57:LT→LT→Option (Bool)) (k:Bool→Option R) (w0:LT→LT→Int→Option R) (x0:LT) (x1:LT):Option R:=
 bif ((x0.length:Int) !=(x1.length:Int)) then
  k false
 else w0 x0 x1 (0:Int)
def f57.b {R:Type} (L N:Nat) (self19:Tree→Tree→Option (Bool)) (self57:LT→LT→Option (Bool)) (k:Bool→Option R) (x0:LT) (x1:LT):Option R:=
 f57.b' L N self19 self57 k (fun s0 s1 s2=>f57.l0 L N self19 self57 (f57.p0_e0 L N self19 self57 k) (fun z4=>f57.p0_r L N self19 self57 k z4) L s0 s1 s2) x0 x1
mutual
def f19 (L N:Nat):Nat→Tree→Tree→Option (Bool)
 |0,_,_=>none
 |n+1,x0,x1=>f19.b L N (f19 L N n) (f57 L N n) some x0 x1
def f57 (L N:Nat):Nat→LT→LT→Option (Bool)
 |0,_,_=>none
 |n+1,x0,x1=>f57.b L N (f19 L N n) (f57 L N n) some x0 x1
end
def f19.ent (L N m:Nat):=entRo [(.st 1),(.st 1)] (.one .bool) fun d=>f19 L N m d.1 d.2.1
def f57.ent (L N m:Nat):=entRo [(.sl (.st 1)),(.sl (.st 1))] (.one .bool) fun d=>f57 L N m d.1 d.2.1
def Φ19s (L N m:Nat):Tells:=(addT (addT (Φ15 L N) 19 (f19.ent L N m)) 57 (f57.ent L N m))
noncomputable def E19 (L N m:Nat):Env:={P:=Tryz.prog,ty:=tyOf,Φ:=Φ19s L N m,inl:=inlT,live:=lives,liveX:=livesX,L:=L,dp:=none,prom:=promT,heal:=healT,ren:=renT}
theorem f19.b_eq {R:Type} (L N m:Nat) (κ:AV→Option R) (x0:Tree) (x1:Tree):
  evBody (E19 L N m) (evCallI (E19 L N m) 0 1000) 1000 19 Tryz.f19 [(.tv (.st 1) x0),(.tv (.st 1) x1)] [] [] (finC (.one .bool) κ)
  =f19.b L N (f19 L N m) (f57 L N m) (fun a0=>κ (.tv .bool a0)) x0 x1:=by kernel_rfl
noncomputable def f57.c0:Code:=loopAt 0 (codeOf Tryz.f57)
def f57.X0_e0 {R:Type} (κ:KX R):=κ (.exit 0) f57.T0_e0 f57.H0_e0
def f57.X0_r {R:Type} (κ:KX R):=fun z4=>κ .ret (f57.T0_r z4) (f57.H0_r z4)
def f57.R0 {R:Type} (rec:KT R):=fun s0 s1 s2=>rec (f57.T0 s0 s1 s2) (f57.H0 s0 s1 s2)
theorem f57.s0_eq {R:Type} (L N m:Nat) (κ:KX R) (rec:KT R) (s0:LT) (s1:LT) (s2:Int):
  evRd (E19 L N m) (evCallI (E19 L N m) 0 1000) 1000 57 27 0 f57.c0 κ rec (f57.T0 s0 s1 s2) (f57.H0 s0 s1 s2)
  =f57.s0 L N (f19 L N m) (f57 L N m) (f57.X0_e0 κ) (f57.X0_r κ) (f57.R0 rec) s0 s1 s2:=by kernel_rfl
theorem f57.l0_eq {R:Type} (L N m:Nat) (κ:KX R):∀(n:Nat) (s0:LT) (s1:LT) (s2:Int),
  evLp (E19 L N m) (evCallI (E19 L N m) 0 1000) 1000 57 27 0 f57.c0 κ n (f57.T0 s0 s1 s2) (f57.H0 s0 s1 s2)
  =f57.l0 L N (f19 L N m) (f57 L N m) (f57.X0_e0 κ) (f57.X0_r κ) n s0 s1 s2:=by
 intro n
 induction n with
 |zero=>intros;rfl
 |succ n ih=>
  intro s0 s1 s2
  rw [evLp_succ,f57.s0_eq]
  delta f57.R0
  simp only [ih]
  rfl
theorem f57.p0_e0_eq {R:Type} (L N m:Nat) (κ:AV→Option R):
  (contAt (E19 L N m) (evCallI (E19 L N m) 0 1000) 1000 57 27 0 (codeOf Tryz.f57) (finK (E19 L N m) 1000 Tryz.f57 (finC (.one .bool) κ))) (.exit 0) f57.T0_e0 f57.H0_e0
  =f57.p0_e0 L N (f19 L N m) (f57 L N m) (fun a0=>κ (.tv .bool a0)):=by kernel_rfl
theorem f57.p0_r_eq {R:Type} (L N m:Nat) (κ:AV→Option R) (z4:Bool):
  (contAt (E19 L N m) (evCallI (E19 L N m) 0 1000) 1000 57 27 0 (codeOf Tryz.f57) (finK (E19 L N m) 1000 Tryz.f57 (finC (.one .bool) κ))) .ret (f57.T0_r z4) (f57.H0_r z4)
  =f57.p0_r L N (f19 L N m) (f57 L N m) (fun a0=>κ (.tv .bool a0)) z4:=by kernel_rfl
theorem f57.b_eq {R:Type} (L N m:Nat) (κ:AV→Option R) (x0:LT) (x1:LT):
  evBody (E19 L N m) (evCallI (E19 L N m) 0 1000) 1000 57 Tryz.f57 [(.tv (.sl (.st 1)) x0),(.tv (.sl (.st 1)) x1)] [] [] (finC (.one .bool) κ)
  =f57.b L N (f19 L N m) (f57 L N m) (fun a0=>κ (.tv .bool a0)) x0 x1:=by
 refine Eq.trans (b:=f57.b' L N (f19 L N m) (f57 L N m) (fun a0=>κ (.tv .bool a0)) (fun s0 s1 s2=>evLp (E19 L N m) (evCallI (E19 L N m) 0 1000) 1000 57 27 0 f57.c0 (contAt (E19 L N m) (evCallI (E19 L N m) 0 1000) 1000 57 27 0 (codeOf Tryz.f57) (finK (E19 L N m) 1000 Tryz.f57 (finC (.one .bool) κ))) L (f57.T0 s0 s1 s2) (f57.H0 s0 s1 s2)) x0 x1) (by kernel_rfl) ?_
 unfold f57.b
 simp only [f57.l0_eq]
 delta f57.X0_e0 f57.X0_r
 simp only [f57.p0_e0_eq,f57.p0_r_eq]
theorem f19.ok (L N m:Nat) (hΦ:TellsOk Tryz.prog (Φ19s L N m)):EntOk Tryz.prog 19 (f19.ent L N (m+1)):=entRo_ok (E:=(E19 L N m)) (dep:=1000) (f:=Tryz.f19) (sound_of hΦ) okP (callI_sound (sound_of hΦ) okP 0 1000) rfl rfl fun d _ hy=>(f19.b_eq L N m (unR (.one .bool)) d.1 d.2.1).trans (Eq.trans (b:=f19.b L N (f19 L N m) (f57 L N m) some d.1 d.2.1) (by kernel_rfl) hy)
theorem f57.ok (L N m:Nat) (hΦ:TellsOk Tryz.prog (Φ19s L N m)):EntOk Tryz.prog 57 (f57.ent L N (m+1)):=entRo_ok (E:=(E19 L N m)) (dep:=1000) (f:=Tryz.f57) (sound_of hΦ) okP (callI_sound (sound_of hΦ) okP 0 1000) rfl rfl fun d _ hy=>(f57.b_eq L N m (unR (.one .bool)) d.1 d.2.1).trans (Eq.trans (b:=f57.b L N (f19 L N m) (f57 L N m) some d.1 d.2.1) (by kernel_rfl) hy)
theorem Φ19s_ok (L N:Nat):∀m,TellsOk Tryz.prog (Φ19s L N m):=by
 intro m
 induction m with
 |zero=>exact (addT_ok (addT_ok (Φ15_ok L N) (entRo_no fun _=>rfl)) (entRo_no fun _=>rfl))
 |succ m ih=>exact (addT_ok (addT_ok (Φ15_ok L N) (f19.ok L N m ih)) (f57.ok L N m ih))
def Φ19 (L N:Nat):Tells:=(addT (addT (Φ15 L N) 19 (f19.ent L N N)) 57 (f57.ent L N N))
theorem Φ19_ok (L N:Nat):TellsOk Tryz.prog (Φ19 L N):=Φ19s_ok L N N
def f33.b' {R:Type} (L N:Nat) (k:LI→Int→Option R) (x0:LI):Option R:=
 bif (decide ((x0.length:Int)>(2000:Int))) then
  bif (slB (0:Int) (2000:Int) x0.length) then
   k (slX x0 (0:Int) (2000:Int)) (0:Int)
  else none
 else k x0 (0:Int)
def f33.b {R:Type} (L N:Nat) (k:LI→Int→Option R) (x0:LI):Option R:=
 f33.b' L N k x0
def f33 (L N:Nat) (x0:LI):Option (LI×Int):=f33.b L N (fun a0 a1=>some (a0,a1)) x0
def f33.ent (L N:Nat) (args:List AV) (vw:View) (site:Nat):Ans:=match coeD [(.sl (.int .u8))] vw args with
 |some (d,u)=>⟨LI×Int,f33 L N d.1,fun y=>(.ptr site 0,u++[(site,some (.box [(.tv (.sl (.int .u8)) y.1),(.tv i64 y.2)]))],[])⟩
 |none=>Ans.no
noncomputable def E33 (L N:Nat):Env:={P:=Tryz.prog,ty:=tyOf,Φ:=(Φ19 L N),inl:=inlT,live:=lives,liveX:=livesX,L:=L,dp:=none,prom:=promT,heal:=healT,ren:=renT}
theorem f33.b_eq {R:Type} (L N:Nat) (κ:Dens [(.sl (.int .u8)),i64]→Option R) (x0:LI):
  evBody (E33 L N) (evCallI (E33 L N) 0 1000) 1000 33 Tryz.f33 [(.tv (.sl (.int .u8)) x0)] [] [] (finB [(.sl (.int .u8)),i64] κ)
  =f33.b L N (fun a0 a1=>κ (a0,a1,())) x0:=by kernel_rfl
theorem f33.ok (L N:Nat) (hΦ:TellsOk Tryz.prog ((Φ19 L N))):EntOk Tryz.prog 33 (f33.ent L N):=by
 intro args vw site h
 unfold f33.ent
 split
 ·rename_i d u ha
  intro y hy hs
  refine call_newbox (y:=y) (dep:=1000) (d1:=(y.1,y.2,())) (E:=(E33 L N)) (ts:=[(.sl (.int .u8))]) (tb:=[(.sl (.int .u8)),i64]) (κ:=(fun d=>some (d.1,d.2.1))) (sound_of hΦ) okP (callI_sound (sound_of hΦ) okP 0 1000) (f:=Tryz.f33) rfl hs ha ?_ (fun _ h=>by obtain rfl:=Option.some.inj h;rfl) site
  exact (f33.b_eq L N (fun d=>some (d.1,d.2.1)) d.1).trans (Eq.trans (b:=f33.b L N (fun a0 a1=>some (a0,a1)) d.1) (by kernel_rfl) hy)
 ·intro y hy
  cases hy
def Φ33 (L N:Nat):Tells:=(addT (Φ19 L N) 33 (f33.ent L N))
theorem Φ33_ok (L N:Nat):TellsOk Tryz.prog (Φ33 L N):=addT_ok (Φ19_ok L N) (f33.ok L N (Φ19_ok L N))
def f49.j0' {R:Type} (L N:Nat) (k:Int→LI→Int→Option R) (v4:Int) (v5:LI) (v6:Int):Option R:=
 bif (decide ((wi (v6-(1:Int)))<(v5.length:Int))) then
  bif (decide (0≤(wi (v6-(1:Int))))&&decide ((wi (v6-(1:Int)))<(v5.length:Int))) then
   bif (decide (v4=0)) then
    none
   else k (Int.tmod (wi ((listAt v5 (0:Int) (wi (v6-(1:Int))).toNat))) v4) v5 v6
  else none
 else bif (decide ((v5.length:Int)=0)) then
  none
 else bif (decide (0≤(Int.tmod (wi (v6-(1:Int))) (v5.length:Int)))&&decide ((Int.tmod (wi (v6-(1:Int))) (v5.length:Int))<(v5.length:Int))) then
  bif (decide ((v5.length:Int)=0)) then
   none
  else bif (decide (0≤(Int.tmod (wi ((wi ((wi (v6-(1:Int)))*(7:Int)))+(3:Int))) (v5.length:Int)))&&decide ((Int.tmod (wi ((wi ((wi (v6-(1:Int)))*(7:Int)))+(3:Int))) (v5.length:Int))<(v5.length:Int))) then
   bif (decide ((v5.length:Int)=0)) then
    none
   else bif (decide ((64:Int)=0)) then
    none
   else bif (decide (v4=0)) then
    none
   else k (Int.tmod (IntKind.wrap .i64 ((BitVec.ofInt (IntKind.bits .i64) (wi ((wi ((wi ((wi ((wi ((listAt v5 (0:Int) (Int.tmod (wi (v6-(1:Int))) (v5.length:Int)).toNat)))*(131:Int)))+(wi ((wi ((listAt v5 (0:Int) (Int.tmod (wi ((wi ((wi (v6-(1:Int)))*(7:Int)))+(3:Int))) (v5.length:Int)).toNat)))*(1117:Int)))))+(wi ((wi (v6-(1:Int)))*(29:Int)))))+(wi ((wi (Int.tdiv (wi (v6-(1:Int))) (v5.length:Int)))*(53:Int)))))^^^BitVec.ofInt (IntKind.bits .i64) (wi (Int.tdiv (wi ((wi ((wi ((wi ((wi ((listAt v5 (0:Int) (Int.tmod (wi (v6-(1:Int))) (v5.length:Int)).toNat)))*(131:Int)))+(wi ((wi ((listAt v5 (0:Int) (Int.tmod (wi ((wi ((wi (v6-(1:Int)))*(7:Int)))+(3:Int))) (v5.length:Int)).toNat)))*(1117:Int)))))+(wi ((wi (v6-(1:Int)))*(29:Int)))))+(wi ((wi (Int.tdiv (wi (v6-(1:Int))) (v5.length:Int)))*(53:Int))))) (64:Int)))).toNat)) v4) v5 v6
  else none
 else none
def f49.b' {R:Type} (L N:Nat) (k:Int→LI→Int→Option R) (c0:LI) (c1:Int) (x0:Int):Option R:=
 bif (decide (x0<(1:Int))) then
  k (0:Int) c0 (wi (c1+(1:Int)))
 else bif ((c0.length:Int)==(0:Int)) then
  k (0:Int) c0 (wi (c1+(1:Int)))
 else f49.j0' L N k x0 c0 (wi (c1+(1:Int)))
def f49.b {R:Type} (L N:Nat) (k:Int→LI→Int→Option R) (c0:LI) (c1:Int) (x0:Int):Option R:=
 f49.b' L N k c0 c1 x0
def f49 (L N:Nat) (c0:LI) (c1:Int) (x0:Int):Option (Int×LI×Int):=f49.b L N (fun a0 a1 a2=>some (a0,a1,a2)) c0 c1 x0
def f49.ent (L N:Nat) (args:List AV) (vw:View) (site:Nat):Ans:=match boxD [(.sl (.int .u8)),i64] [i64] vw args with
 |some (o,d0,d,u)=>⟨Int×LI×Int,f49 L N d0.1 d0.2.1 d.1,fun y=>((.tv i64 y.1),u++[(o,some (.box [(.tv (.sl (.int .u8)) y.2.1),(.tv i64 y.2.2)]))],[])⟩
 |none=>Ans.no
noncomputable def E49 (L N:Nat):Env:={P:=Tryz.prog,ty:=tyOf,Φ:=(Φ33 L N),inl:=inlT,live:=lives,liveX:=livesX,L:=L,dp:=none,prom:=promT,heal:=healT,ren:=renT}
theorem f49.b_eq {R:Type} (L N:Nat) (κ:AV→Dens [(.sl (.int .u8)),i64]→Option R) (c0:LI) (c1:Int) (x0:Int):
  evBody (E49 L N) (evCallI (E49 L N) 0 1000) 1000 49 Tryz.f49 [(.ptr 0 0),(.tv i64 x0)] [.ptr 0 0] [(0,(.box [(.tv (.sl (.int .u8)) c0),(.tv i64 c1)]))] (finM (.one i64) [(.sl (.int .u8)),i64] κ)
  =f49.b L N (fun a0 a1 a2=>κ (.tv i64 a0) (a1,a2,())) c0 c1 x0:=by kernel_rfl
theorem f49.ok (L N:Nat) (hΦ:TellsOk Tryz.prog ((Φ33 L N))):EntOk Tryz.prog 49 (f49.ent L N):=by
 intro args vw site h
 unfold f49.ent
 split
 ·rename_i o d0 d u ha
  intro y hy hs
  obtain ⟨rest,cs,rfl,ho,hd0,hr,hu⟩:=boxD_some ha
  refine call_box (y:=y) (dep:=1000) (v':=(.tv i64 y.1)) (d1:=(y.2.1,y.2.2,())) (E:=(E49 L N)) (ts:=[(.sl (.int .u8)),i64]) (tr:=[i64]) (rs:=(.one i64)) (κ:=(fun v d=>(unR (.one i64) v).bind fun x=>some (x,d.1,d.2.1))) (sound_of hΦ) okP (callI_sound (sound_of hΦ) okP 0 1000) (f:=Tryz.f49) rfl hs ho hd0 hr hu ?_ (fun _ _ h=>by obtain ⟨x,h1,h2⟩:=unR_bind h;obtain rfl:=Option.some.inj h2;exact ⟨h1,rfl⟩) site
  exact (f49.b_eq L N (fun v d=>(unR (.one i64) v).bind fun x=>some (x,d.1,d.2.1)) d0.1 d0.2.1 d.1).trans (Eq.trans (b:=f49.b L N (fun a0 a1 a2=>some (a0,a1,a2)) d0.1 d0.2.1 d.1) (by kernel_rfl) hy)
 ·intro y hy
  cases hy
def Φ49 (L N:Nat):Tells:=(addT (Φ33 L N) 49 (f49.ent L N))
theorem Φ49_ok (L N:Nat):TellsOk Tryz.prog (Φ49 L N):=addT_ok (Φ33_ok L N) (f49.ok L N (Φ33_ok L N))
def f64.b' {R:Type} (L N:Nat) (k:Int→LI→Int→Option R) (c0:LI) (c1:Int):Option R:=
 (f49 L N c0 c1 (3:Int)).bind fun y0=>
 bif (decide (y0.1>(0:Int))) then
  (f49 L N y0.2.1 y0.2.2 (5:Int)).bind fun y1=>
  k (wi (y1.1-(2:Int))) y1.2.1 y1.2.2
 else (f49 L N y0.2.1 y0.2.2 (9:Int)).bind fun y2=>
 k (wi (y2.1-(4:Int))) y2.2.1 y2.2.2
def f64.b {R:Type} (L N:Nat) (k:Int→LI→Int→Option R) (c0:LI) (c1:Int):Option R:=
 f64.b' L N k c0 c1
def f64 (L N:Nat) (c0:LI) (c1:Int):Option (Int×LI×Int):=f64.b L N (fun a0 a1 a2=>some (a0,a1,a2)) c0 c1
def f64.ent (L N:Nat) (args:List AV) (vw:View) (site:Nat):Ans:=match boxD [(.sl (.int .u8)),i64] [] vw args with
 |some (o,d0,d,u)=>⟨Int×LI×Int,f64 L N d0.1 d0.2.1,fun y=>((.tv i64 y.1),u++[(o,some (.box [(.tv (.sl (.int .u8)) y.2.1),(.tv i64 y.2.2)]))],[])⟩
 |none=>Ans.no
noncomputable def E64 (L N:Nat):Env:={P:=Tryz.prog,ty:=tyOf,Φ:=(Φ49 L N),inl:=inlT,live:=lives,liveX:=livesX,L:=L,dp:=none,prom:=promT,heal:=healT,ren:=renT}
theorem f64.b_eq {R:Type} (L N:Nat) (κ:AV→Dens [(.sl (.int .u8)),i64]→Option R) (c0:LI) (c1:Int):
  evBody (E64 L N) (evCallI (E64 L N) 0 1000) 1000 64 Tryz.f64 [(.ptr 0 0)] [.ptr 0 0] [(0,(.box [(.tv (.sl (.int .u8)) c0),(.tv i64 c1)]))] (finM (.one i64) [(.sl (.int .u8)),i64] κ)
  =f64.b L N (fun a0 a1 a2=>κ (.tv i64 a0) (a1,a2,())) c0 c1:=by kernel_rfl
theorem f64.ok (L N:Nat) (hΦ:TellsOk Tryz.prog ((Φ49 L N))):EntOk Tryz.prog 64 (f64.ent L N):=by
 intro args vw site h
 unfold f64.ent
 split
 ·rename_i o d0 d u ha
  intro y hy hs
  obtain ⟨rest,cs,rfl,ho,hd0,hr,hu⟩:=boxD_some ha
  refine call_box (y:=y) (dep:=1000) (v':=(.tv i64 y.1)) (d1:=(y.2.1,y.2.2,())) (E:=(E64 L N)) (ts:=[(.sl (.int .u8)),i64]) (tr:=[]) (rs:=(.one i64)) (κ:=(fun v d=>(unR (.one i64) v).bind fun x=>some (x,d.1,d.2.1))) (sound_of hΦ) okP (callI_sound (sound_of hΦ) okP 0 1000) (f:=Tryz.f64) rfl hs ho hd0 hr hu ?_ (fun _ _ h=>by obtain ⟨x,h1,h2⟩:=unR_bind h;obtain rfl:=Option.some.inj h2;exact ⟨h1,rfl⟩) site
  exact (f64.b_eq L N (fun v d=>(unR (.one i64) v).bind fun x=>some (x,d.1,d.2.1)) d0.1 d0.2.1).trans (Eq.trans (b:=f64.b L N (fun a0 a1 a2=>some (a0,a1,a2)) d0.1 d0.2.1) (by kernel_rfl) hy)
 ·intro y hy
  cases hy
def Φ64 (L N:Nat):Tells:=(addT (Φ49 L N) 64 (f64.ent L N))
theorem Φ64_ok (L N:Nat):TellsOk Tryz.prog (Φ64 L N):=addT_ok (Φ49_ok L N) (f64.ok L N (Φ49_ok L N))
def f80.j0' {R:Type} (L N:Nat) (self80:LI→Int→Int→Int→Bool→Option (Tree×LI×Int)) (k:Tree→LI→Int→Option R) (v10:Int) (v11:Int) (v12:Bool) (v13:Int) (v14:Bool) (v15:LI) (v16:Int) (v17:Int) (v18:Int):Option R:=
 bif v14 then
  (f49 L N v15 v16 v11).bind fun y19=>
  k (Tree.mk (5:Int) y19.1 []) y19.2.1 y19.2.2
 else bif (v13==(0:Int)) then
  k (Tree.mk (0:Int) (0:Int) []) v15 v16
 else bif (decide (v13<(5:Int))) then
  (f64 L N v15 v16).bind fun y20=>
  bif (v10==(0:Int)) then
   k (Tree.mk (1:Int) y20.1 ([(Tree.mk (0:Int) (0:Int) [])]:LT)) y20.2.1 y20.2.2
  else (self80 y20.2.1 y20.2.2 (bif decide ((wi (v10-(1:Int)))>(0:Int)) then (wi (v10-(1:Int))) else (0:Int)) v11 true).bind fun y21=>
  k (Tree.mk (1:Int) y20.1 ([y21.1]:LT)) y21.2.1 y21.2.2
 else bif (v13==(5:Int)) then
  (f49 L N v15 v16 (4:Int)).bind fun y22=>
  (self80 y22.2.1 y22.2.2 (wi (v10-(1:Int))) v11 v12).bind fun y23=>
  k (Tree.mk (4:Int) y22.1 ([y23.1]:LT)) y23.2.1 y23.2.2
 else bif (v13==(8:Int)) then
  (self80 v15 v16 (wi (v10-(1:Int))) v11 v12).bind fun y34=>
  (self80 y34.2.1 y34.2.2 (wi (v10-(1:Int))) v11 v12).bind fun y35=>
  k (Tree.mk (3:Int) (0:Int) ([(Tree.mk y34.1.op y34.1.n y34.1.parts),(Tree.mk y35.1.op y35.1.n y35.1.parts)]:LT)) y35.2.1 y35.2.2
 else (self80 v15 v16 (wi (v10-(1:Int))) v11 v12).bind fun y36=>
 (self80 y36.2.1 y36.2.2 (wi (v10-(1:Int))) v11 v12).bind fun y37=>
 k (Tree.mk (2:Int) (0:Int) ([(Tree.mk y36.1.op y36.1.n y36.1.parts),(Tree.mk y37.1.op y37.1.n y37.1.parts)]:LT)) y37.2.1 y37.2.2
def f80.j1' {R:Type} (L N:Nat) (self80:LI→Int→Int→Int→Bool→Option (Tree×LI×Int)) (k:Tree→LI→Int→Option R) (v2:Int) (v3:Int) (v4:Bool) (v5:Int) (v6:LI) (v7:Int) (v8:Int) (v9:Int):Option R:=
 bif (decide (v5<(2:Int))) then
  bif (decide (v3>(0:Int))) then
   f80.j0' L N self80 k v2 v3 v4 v5 v4 v6 v7 v8 v9
  else f80.j0' L N self80 k v2 v3 v4 v5 false v6 v7 v8 v9
 else f80.j0' L N self80 k v2 v3 v4 v5 false v6 v7 v8 v9
def f80.b' {R:Type} (L N:Nat) (self80:LI→Int→Int→Int→Bool→Option (Tree×LI×Int)) (k:Tree→LI→Int→Option R) (c0:LI) (c1:Int) (x0:Int) (x1:Int) (x2:Bool):Option R:=
 (f49 L N c0 c1 (9:Int)).bind fun y0=>
 bif (x0==(0:Int)) then
  (f49 L N y0.2.1 y0.2.2 (2:Int)).bind fun y1=>
  f80.j1' L N self80 k x0 x1 x2 y1.1 y1.2.1 y1.2.2 (0:Int) (0:Int)
 else f80.j1' L N self80 k x0 x1 x2 y0.1 y0.2.1 y0.2.2 (0:Int) (0:Int)
def f80.b {R:Type} (L N:Nat) (self80:LI→Int→Int→Int→Bool→Option (Tree×LI×Int)) (k:Tree→LI→Int→Option R) (c0:LI) (c1:Int) (x0:Int) (x1:Int) (x2:Bool):Option R:=
 f80.b' L N self80 k c0 c1 x0 x1 x2
def f80 (L N:Nat):Nat→LI→Int→Int→Int→Bool→Option (Tree×LI×Int)
 |0,_,_,_,_,_=>none
 |n+1,c0,c1,x0,x1,x2=>f80.b L N (f80 L N n) (fun a0 a1 a2=>some (a0,a1,a2)) c0 c1 x0 x1 x2
def f80.ent (L N m:Nat) (args:List AV) (vw:View) (site:Nat):Ans:=match boxD [(.sl (.int .u8)),i64] [i64,i64,.bool] vw args with
 |some (o,d0,d,u)=>⟨Tree×LI×Int,f80 L N m d0.1 d0.2.1 d.1 d.2.1 d.2.2.1,fun y=>((.tv (.st 1) y.1),u++[(o,some (.box [(.tv (.sl (.int .u8)) y.2.1),(.tv i64 y.2.2)]))],[])⟩
 |none=>Ans.no
def Φ80s (L N m:Nat):Tells:=(addT (Φ64 L N) 80 (f80.ent L N m))
noncomputable def E80 (L N m:Nat):Env:={P:=Tryz.prog,ty:=tyOf,Φ:=Φ80s L N m,inl:=inlT,live:=lives,liveX:=livesX,L:=L,dp:=none,prom:=promT,heal:=healT,ren:=renT}
theorem f80.b_eq {R:Type} (L N m:Nat) (κ:AV→Dens [(.sl (.int .u8)),i64]→Option R) (c0:LI) (c1:Int) (x0:Int) (x1:Int) (x2:Bool):
  evBody (E80 L N m) (evCallI (E80 L N m) 0 1000) 1000 80 Tryz.f80 [(.ptr 0 0),(.tv i64 x0),(.tv i64 x1),(.tv .bool x2)] [.ptr 0 0] [(0,(.box [(.tv (.sl (.int .u8)) c0),(.tv i64 c1)]))] (finM (.one (.st 1)) [(.sl (.int .u8)),i64] κ)
  =f80.b L N (f80 L N m) (fun a0 a1 a2=>κ (.tv (.st 1) a0) (a1,a2,())) c0 c1 x0 x1 x2:=by kernel_rfl
theorem f80.ok (L N m:Nat) (hΦ:TellsOk Tryz.prog (Φ80s L N m)):EntOk Tryz.prog 80 (f80.ent L N (m+1)):=by
 intro args vw site h
 unfold f80.ent
 split
 ·rename_i o d0 d u ha
  intro y hy hs
  obtain ⟨rest,cs,rfl,ho,hd0,hr,hu⟩:=boxD_some ha
  refine call_box (y:=y) (dep:=1000) (v':=(.tv (.st 1) y.1)) (d1:=(y.2.1,y.2.2,())) (E:=(E80 L N m)) (ts:=[(.sl (.int .u8)),i64]) (tr:=[i64,i64,.bool]) (rs:=(.one (.st 1))) (κ:=(fun v d=>(unR (.one (.st 1)) v).bind fun x=>some (x,d.1,d.2.1))) (sound_of hΦ) okP (callI_sound (sound_of hΦ) okP 0 1000) (f:=Tryz.f80) rfl hs ho hd0 hr hu ?_ (fun _ _ h=>by obtain ⟨x,h1,h2⟩:=unR_bind h;obtain rfl:=Option.some.inj h2;exact ⟨h1,rfl⟩) site
  exact (f80.b_eq L N m (fun v d=>(unR (.one (.st 1)) v).bind fun x=>some (x,d.1,d.2.1)) d0.1 d0.2.1 d.1 d.2.1 d.2.2.1).trans (Eq.trans (b:=f80.b L N (f80 L N m) (fun a0 a1 a2=>some (a0,a1,a2)) d0.1 d0.2.1 d.1 d.2.1 d.2.2.1) (by kernel_rfl) hy)
 ·intro y hy
  cases hy
theorem Φ80s_ok (L N:Nat):∀m,TellsOk Tryz.prog (Φ80s L N m):=by
 intro m
 induction m with
 |zero=>exact (addT_ok (Φ64_ok L N) (fun args vw site h=>by unfold f80.ent;split<;>(intro y hy;cases hy)))
 |succ m ih=>exact (addT_ok (Φ64_ok L N) (f80.ok L N m ih))
def Φ80 (L N:Nat):Tells:=(addT (Φ64 L N) 80 (f80.ent L N N))
theorem Φ80_ok (L N:Nat):TellsOk Tryz.prog (Φ80 L N):=Φ80s_ok L N N
def f47.b' {R:Type} (L N:Nat) (k:Tree→LI→Int→Option R) (c0:LI) (c1:Int) (x0:Int):Option R:=
 (f49 L N c0 c1 (4:Int)).bind fun y0=>
 (f80 L N N y0.2.1 y0.2.2 (wi ((1:Int)+y0.1)) x0 false).bind fun y1=>
 (f49 L N y1.2.1 y1.2.2 (24:Int)).bind fun y2=>
 bif (y2.1==(0:Int)) then
  k (Tree.mk ((Tree.mk y1.1.op (wi (y1.1.n+(7:Int))) y1.1.parts).op) ((Tree.mk y1.1.op (wi (y1.1.n+(7:Int))) y1.1.parts).n) ((Tree.mk y1.1.op (wi (y1.1.n+(7:Int))) y1.1.parts).parts)) y2.2.1 y2.2.2
 else bif (y2.1==(1:Int)) then
  (f49 L N y2.2.1 y2.2.2 (8:Int)).bind fun y3=>
  k (Tree.mk ((Tree.mk y3.1 y1.1.n y1.1.parts).op) ((Tree.mk y3.1 y1.1.n y1.1.parts).n) ((Tree.mk y3.1 y1.1.n y1.1.parts).parts)) y3.2.1 y3.2.2
 else bif (y2.1==(2:Int)) then
  bif (decide (([(Tree.mk (0:Int) (0:Int) [])]:LT).length+y1.1.parts.length≤lim)) then
   k (Tree.mk y1.1.op y1.1.n (([(Tree.mk (0:Int) (0:Int) [])]:LT)++y1.1.parts)) y2.2.1 y2.2.2
  else none
 else k (Tree.mk ((Tree.mk y1.1.op y1.1.n y1.1.parts).op) ((Tree.mk y1.1.op y1.1.n y1.1.parts).n) ((Tree.mk y1.1.op y1.1.n y1.1.parts).parts)) y2.2.1 y2.2.2
def f47.b {R:Type} (L N:Nat) (k:Tree→LI→Int→Option R) (c0:LI) (c1:Int) (x0:Int):Option R:=
 f47.b' L N k c0 c1 x0
def f47 (L N:Nat) (c0:LI) (c1:Int) (x0:Int):Option (Tree×LI×Int):=f47.b L N (fun a0 a1 a2=>some (a0,a1,a2)) c0 c1 x0
def f47.ent (L N:Nat) (args:List AV) (vw:View) (site:Nat):Ans:=match boxD [(.sl (.int .u8)),i64] [i64] vw args with
 |some (o,d0,d,u)=>⟨Tree×LI×Int,f47 L N d0.1 d0.2.1 d.1,fun y=>((.tv (.st 1) y.1),u++[(o,some (.box [(.tv (.sl (.int .u8)) y.2.1),(.tv i64 y.2.2)]))],[])⟩
 |none=>Ans.no
noncomputable def E47 (L N:Nat):Env:={P:=Tryz.prog,ty:=tyOf,Φ:=(Φ80 L N),inl:=inlT,live:=lives,liveX:=livesX,L:=L,dp:=none,prom:=promT,heal:=healT,ren:=renT}
theorem f47.b_eq {R:Type} (L N:Nat) (κ:AV→Dens [(.sl (.int .u8)),i64]→Option R) (c0:LI) (c1:Int) (x0:Int):
  evBody (E47 L N) (evCallI (E47 L N) 0 1000) 1000 47 Tryz.f47 [(.ptr 0 0),(.tv i64 x0)] [.ptr 0 0] [(0,(.box [(.tv (.sl (.int .u8)) c0),(.tv i64 c1)]))] (finM (.one (.st 1)) [(.sl (.int .u8)),i64] κ)
  =f47.b L N (fun a0 a1 a2=>κ (.tv (.st 1) a0) (a1,a2,())) c0 c1 x0:=by kernel_rfl
theorem f47.ok (L N:Nat) (hΦ:TellsOk Tryz.prog ((Φ80 L N))):EntOk Tryz.prog 47 (f47.ent L N):=by
 intro args vw site h
 unfold f47.ent
 split
 ·rename_i o d0 d u ha
  intro y hy hs
  obtain ⟨rest,cs,rfl,ho,hd0,hr,hu⟩:=boxD_some ha
  refine call_box (y:=y) (dep:=1000) (v':=(.tv (.st 1) y.1)) (d1:=(y.2.1,y.2.2,())) (E:=(E47 L N)) (ts:=[(.sl (.int .u8)),i64]) (tr:=[i64]) (rs:=(.one (.st 1))) (κ:=(fun v d=>(unR (.one (.st 1)) v).bind fun x=>some (x,d.1,d.2.1))) (sound_of hΦ) okP (callI_sound (sound_of hΦ) okP 0 1000) (f:=Tryz.f47) rfl hs ho hd0 hr hu ?_ (fun _ _ h=>by obtain ⟨x,h1,h2⟩:=unR_bind h;obtain rfl:=Option.some.inj h2;exact ⟨h1,rfl⟩) site
  exact (f47.b_eq L N (fun v d=>(unR (.one (.st 1)) v).bind fun x=>some (x,d.1,d.2.1)) d0.1 d0.2.1 d.1).trans (Eq.trans (b:=f47.b L N (fun a0 a1 a2=>some (a0,a1,a2)) d0.1 d0.2.1 d.1) (by kernel_rfl) hy)
 ·intro y hy
  cases hy
def Φ47 (L N:Nat):Tells:=(addT (Φ80 L N) 47 (f47.ent L N))
theorem Φ47_ok (L N:Nat):TellsOk Tryz.prog (Φ47 L N):=addT_ok (Φ80_ok L N) (f47.ok L N (Φ80_ok L N))
def f22.b' {R:Type} (L N:Nat) (k:Tree→Option R) (x0:LI):Option R:=
 (f33 L N x0).bind fun y0=>
 (f47 L N y0.1 y0.2 (0:Int)).bind fun y1=>
 k (Tree.mk ((Tree.mk y1.1.op y1.1.n y1.1.parts).op) ((Tree.mk y1.1.op y1.1.n y1.1.parts).n) ((Tree.mk y1.1.op y1.1.n y1.1.parts).parts))
def f22.b {R:Type} (L N:Nat) (k:Tree→Option R) (x0:LI):Option R:=
 f22.b' L N k x0
def f22 (L N:Nat) (x0:LI):Option (Tree):=f22.b L N some x0
def f22.ent (L N:Nat):=entDa [(.sl (.int .u8))] (.one (.st 1)) fun d=>f22 L N d.1
noncomputable def E22 (L N:Nat):Env:={P:=Tryz.prog,ty:=tyOf,Φ:=(Φ47 L N),inl:=inlT,live:=lives,liveX:=livesX,L:=L,dp:=none,prom:=promT,heal:=healT,ren:=renT}
theorem f22.b_eq {R:Type} (L N:Nat) (κ:AV→Option R) (x0:LI):
  evBody (E22 L N) (evCallI (E22 L N) 0 1000) 1000 22 Tryz.f22 [(.tv (.sl (.int .u8)) x0)] [] [] (finC (.one (.st 1)) κ)
  =f22.b L N (fun a0=>κ (.tv (.st 1) a0)) x0:=by kernel_rfl
theorem f22.ok (L N:Nat) (hΦ:TellsOk Tryz.prog ((Φ47 L N))):EntOk Tryz.prog 22 (f22.ent L N):=entDa_ok (E:=(E22 L N)) (dep:=1000) (f:=Tryz.f22) (sound_of hΦ) okP (callI_sound (sound_of hΦ) okP 0 1000) rfl fun d _ hy=>(f22.b_eq L N (unR (.one (.st 1))) d.1).trans (Eq.trans (b:=f22.b L N some d.1) (by kernel_rfl) hy)
def Φ22 (L N:Nat):Tells:=(addT (Φ47 L N) 22 (f22.ent L N))
theorem Φ22_ok (L N:Nat):TellsOk Tryz.prog (Φ22 L N):=addT_ok (Φ47_ok L N) (f22.ok L N (Φ47_ok L N))
def f52.s0' {R:Type} (L N:Nat) (self52:Tree→Option (Tree)) (k0_e0:Int→Int→Int→Int→LT→Option R) (rec0:LT→Int→Int→Int→Int→Int→Int→LT→Option R) (s0:LT) (s1:Int) (s2:Int) (s3:Int) (s4:Int) (s5:Int) (s6:Int) (s7:LT):Option R:=
 bif (decide (s2<s1)) then
  bif (decide (0≤s2)&&decide (s2<(s0.length:Int))) then
   (self52 (Tree.mk ((listAt s0 (Ty.dflt (.st 1)) s2.toNat).op) ((listAt s0 (Ty.dflt (.st 1)) s2.toNat).n) ((listAt s0 (Ty.dflt (.st 1)) s2.toNat).parts))).bind fun y13=>
   bif (decide (s7.length+([y13]:LT).length≤lim)) then
    rec0 s0 s1 (wi (s2+(1:Int))) s3 s4 s5 s6 (s7++([y13]:LT))
   else none
  else none
 else k0_e0 s3 s4 s5 s6 s7
def f52.s0 {R:Type} (L N:Nat) (self52:Tree→Option (Tree)) (k0_e0:Int→Int→Int→Int→LT→Option R) (rec0:LT→Int→Int→Int→Int→Int→Int→LT→Option R) (s0:LT) (s1:Int) (s2:Int) (s3:Int) (s4:Int) (s5:Int) (s6:Int) (s7:LT):Option R:=
 f52.s0' L N self52 k0_e0 rec0 s0 s1 s2 s3 s4 s5 s6 s7
def f52.l0 {R:Type} (L N:Nat) (self52:Tree→Option (Tree)) (k0_e0:Int→Int→Int→Int→LT→Option R):Nat→LT→Int→Int→Int→Int→Int→Int→LT→Option R
 |0,_,_,_,_,_,_,_,_=>none
 |n+1,s0,s1,s2,s3,s4,s5,s6,s7=>f52.s0 L N self52 k0_e0 (f52.l0 L N self52 k0_e0 n) s0 s1 s2 s3 s4 s5 s6 s7
def f52.T0 (s0:LT) (s1:Int) (s2:Int) (s3:Int) (s4:Int) (s5:Int) (s6:Int) (s7:LT):T:=mkT 27 [(2,(.ptr 1002 0)),(3,(.ptr 1003 0)),(12,(.tv (.sl (.st 1)) s0)),(13,(.tv i64 s1)),(14,(.tv i64 s2))]
def f52.H0 (s0:LT) (s1:Int) (s2:Int) (s3:Int) (s4:Int) (s5:Int) (s6:Int) (s7:LT):H:=[(1002,(.box [(.tv i64 s3),(.tv i64 s4),.nil])),(1003,(.box [(.tv i64 s5),(.tv i64 s6),(.row 1900)])),(1900,(.row 25 (.st 1) s7))]
def f52.T0_e0 (z8:Int) (z9:Int) (z10:Int) (z11:Int) (z12:LT):T:=mkT 27 [(2,(.ptr 1002 0)),(3,(.ptr 1003 0))]
def f52.H0_e0 (z8:Int) (z9:Int) (z10:Int) (z11:Int) (z12:LT):H:=[(1002,(.box [(.tv i64 z8),(.tv i64 z9),.nil])),(1003,(.box [(.tv i64 z10),(.tv i64 z11),(.row 1900)])),(1900,(.row 25 (.st 1) z12))]
def f52.p0_e0' {R:Type} (L N:Nat) (self52:Tree→Option (Tree)) (k:Tree→Option R) (z8:Int) (z9:Int) (z10:Int) (z11:Int) (z12:LT):Option R:=
 k (Tree.mk z10 z11 z12)
def f52.p0_e0 {R:Type} (L N:Nat) (self52:Tree→Option (Tree)) (k:Tree→Option R) (z8:Int) (z9:Int) (z10:Int) (z11:Int) (z12:LT):Option R:=
 f52.p0_e0' L N self52 k z8 z9 z10 z11 z12
def f52.b' {R:Type} (L N:Nat) (self52:Tree→Option (Tree)) (k:Tree→Option R) (w0:LT→Int→Int→Int→Int→Int→Int→LT→Option R) (x0:Tree):Option R:=
 w0 x0.parts (x0.parts.length:Int) (0:Int) (0:Int) (0:Int) x0.op x0.n ([]:LT)
def f52.b {R:Type} (L N:Nat) (self52:Tree→Option (Tree)) (k:Tree→Option R) (x0:Tree):Option R:=
 f52.b' L N self52 k (fun s0 s1 s2 s3 s4 s5 s6 s7=>f52.l0 L N self52 (fun z8 z9 z10 z11 z12=>f52.p0_e0 L N self52 k z8 z9 z10 z11 z12) L s0 s1 s2 s3 s4 s5 s6 s7) x0
def f52 (L N:Nat):Nat→Tree→Option (Tree)
 |0,_=>none
 |n+1,x0=>f52.b L N (f52 L N n) some x0
def f52.ent (L N m:Nat):=entDa [(.st 1)] (.one (.st 1)) fun d=>f52 L N m d.1
def Φ52s (L N m:Nat):Tells:=(addT (Φ22 L N) 52 (f52.ent L N m))
noncomputable def E52 (L N m:Nat):Env:={P:=Tryz.prog,ty:=tyOf,Φ:=Φ52s L N m,inl:=inlT,live:=lives,liveX:=livesX,L:=L,dp:=none,prom:=promT,heal:=healT,ren:=renT}
noncomputable def f52.c0:Code:=loopAt 0 (codeOf Tryz.f52)
def f52.X0_e0 {R:Type} (κ:KX R):=fun z8 z9 z10 z11 z12=>κ (.exit 0) (f52.T0_e0 z8 z9 z10 z11 z12) (f52.H0_e0 z8 z9 z10 z11 z12)
def f52.R0 {R:Type} (rec:KT R):=fun s0 s1 s2 s3 s4 s5 s6 s7=>rec (f52.T0 s0 s1 s2 s3 s4 s5 s6 s7) (f52.H0 s0 s1 s2 s3 s4 s5 s6 s7)
theorem f52.s0_eq {R:Type} (L N m:Nat) (κ:KX R) (rec:KT R) (s0:LT) (s1:Int) (s2:Int) (s3:Int) (s4:Int) (s5:Int) (s6:Int) (s7:LT):
  evRd (E52 L N m) (evCallI (E52 L N m) 0 1000) 1000 52 27 0 f52.c0 κ rec (f52.T0 s0 s1 s2 s3 s4 s5 s6 s7) (f52.H0 s0 s1 s2 s3 s4 s5 s6 s7)
  =f52.s0 L N (f52 L N m) (f52.X0_e0 κ) (f52.R0 rec) s0 s1 s2 s3 s4 s5 s6 s7:=by kernel_rfl
theorem f52.l0_eq {R:Type} (L N m:Nat) (κ:KX R):∀(n:Nat) (s0:LT) (s1:Int) (s2:Int) (s3:Int) (s4:Int) (s5:Int) (s6:Int) (s7:LT),
  evLp (E52 L N m) (evCallI (E52 L N m) 0 1000) 1000 52 27 0 f52.c0 κ n (f52.T0 s0 s1 s2 s3 s4 s5 s6 s7) (f52.H0 s0 s1 s2 s3 s4 s5 s6 s7)
  =f52.l0 L N (f52 L N m) (f52.X0_e0 κ) n s0 s1 s2 s3 s4 s5 s6 s7:=by
 intro n
 induction n with
 |zero=>intros;rfl
 |succ n ih=>
  intro s0 s1 s2 s3 s4 s5 s6 s7
  rw [evLp_succ,f52.s0_eq]
  delta f52.R0
  simp only [ih]
  rfl
theorem f52.p0_e0_eq {R:Type} (L N m:Nat) (κ:AV→Option R) (z8:Int) (z9:Int) (z10:Int) (z11:Int) (z12:LT):
  (contAt (E52 L N m) (evCallI (E52 L N m) 0 1000) 1000 52 27 0 (codeOf Tryz.f52) (finK (E52 L N m) 1000 Tryz.f52 (finC (.one (.st 1)) κ))) (.exit 0) (f52.T0_e0 z8 z9 z10 z11 z12) (f52.H0_e0 z8 z9 z10 z11 z12)
  =f52.p0_e0 L N (f52 L N m) (fun a0=>κ (.tv (.st 1) a0)) z8 z9 z10 z11 z12:=by kernel_rfl
theorem f52.b_eq {R:Type} (L N m:Nat) (κ:AV→Option R) (x0:Tree):
  evBody (E52 L N m) (evCallI (E52 L N m) 0 1000) 1000 52 Tryz.f52 [(.tv (.st 1) x0)] [] [] (finC (.one (.st 1)) κ)
  =f52.b L N (f52 L N m) (fun a0=>κ (.tv (.st 1) a0)) x0:=by
 refine Eq.trans (b:=f52.b' L N (f52 L N m) (fun a0=>κ (.tv (.st 1) a0)) (fun s0 s1 s2 s3 s4 s5 s6 s7=>evLp (E52 L N m) (evCallI (E52 L N m) 0 1000) 1000 52 27 0 f52.c0 (contAt (E52 L N m) (evCallI (E52 L N m) 0 1000) 1000 52 27 0 (codeOf Tryz.f52) (finK (E52 L N m) 1000 Tryz.f52 (finC (.one (.st 1)) κ))) L (f52.T0 s0 s1 s2 s3 s4 s5 s6 s7) (f52.H0 s0 s1 s2 s3 s4 s5 s6 s7)) x0) (by kernel_rfl) ?_
 unfold f52.b
 simp only [f52.l0_eq]
 delta f52.X0_e0
 simp only [f52.p0_e0_eq]
theorem f52.ok (L N m:Nat) (hΦ:TellsOk Tryz.prog (Φ52s L N m)):EntOk Tryz.prog 52 (f52.ent L N (m+1)):=entDa_ok (E:=(E52 L N m)) (dep:=1000) (f:=Tryz.f52) (sound_of hΦ) okP (callI_sound (sound_of hΦ) okP 0 1000) rfl fun d _ hy=>(f52.b_eq L N m (unR (.one (.st 1))) d.1).trans (Eq.trans (b:=f52.b L N (f52 L N m) some d.1) (by kernel_rfl) hy)
theorem Φ52s_ok (L N:Nat):∀m,TellsOk Tryz.prog (Φ52s L N m):=by
 intro m
 induction m with
 |zero=>exact (addT_ok (Φ22_ok L N) (entDa_no fun _=>rfl))
 |succ m ih=>exact (addT_ok (Φ22_ok L N) (f52.ok L N m ih))
def Φ52 (L N:Nat):Tells:=(addT (Φ22 L N) 52 (f52.ent L N N))
theorem Φ52_ok (L N:Nat):TellsOk Tryz.prog (Φ52 L N):=Φ52s_ok L N N
def f59.b' {R:Type} (L N:Nat) (self59:Tree→Option (Bool)) (self91:Tree→Option (Bool)) (self90_5:LT→Option (Bool)) (self129_5:LT→Option (Int)) (k:Bool→Option R) (x0:Tree):Option R:=
 bif (x0.op !=(5:Int)) then
  (self90_5 x0.parts).bind fun y0=>
  k (!y0)
 else k false
def f59.b {R:Type} (L N:Nat) (self59:Tree→Option (Bool)) (self91:Tree→Option (Bool)) (self90_5:LT→Option (Bool)) (self129_5:LT→Option (Int)) (k:Bool→Option R) (x0:Tree):Option R:=
 f59.b' L N self59 self91 self90_5 self129_5 k x0
def f91.b' {R:Type} (L N:Nat) (self59:Tree→Option (Bool)) (self91:Tree→Option (Bool)) (self90_5:LT→Option (Bool)) (self129_5:LT→Option (Int)) (k:Bool→Option R) (x0:Tree):Option R:=
 (self59 (Tree.mk x0.op x0.n x0.parts)).bind fun y0=>
 k (!y0)
def f91.b {R:Type} (L N:Nat) (self59:Tree→Option (Bool)) (self91:Tree→Option (Bool)) (self90_5:LT→Option (Bool)) (self129_5:LT→Option (Int)) (k:Bool→Option R) (x0:Tree):Option R:=
 f91.b' L N self59 self91 self90_5 self129_5 k x0
def f90_5.b' {R:Type} (L N:Nat) (self59:Tree→Option (Bool)) (self91:Tree→Option (Bool)) (self90_5:LT→Option (Bool)) (self129_5:LT→Option (Int)) (k:Bool→Option R) (x0:LT):Option R:=
 (self129_5 x0).bind fun y0=>
 k (decide (y0≥(0:Int)))
def f90_5.b {R:Type} (L N:Nat) (self59:Tree→Option (Bool)) (self91:Tree→Option (Bool)) (self90_5:LT→Option (Bool)) (self129_5:LT→Option (Int)) (k:Bool→Option R) (x0:LT):Option R:=
 f90_5.b' L N self59 self91 self90_5 self129_5 k x0
def f129_5.s0' {R:Type} (L N:Nat) (self59:Tree→Option (Bool)) (self91:Tree→Option (Bool)) (self90_5:LT→Option (Bool)) (self129_5:LT→Option (Int)) (k0_e0:Option R) (k0_r:Int→Option R) (rec0:LT→Int→Int→Option R) (s0:LT) (s1:Int) (s2:Int):Option R:=
 bif (decide (s2<s1)) then
  bif (decide (0≤s2)&&decide (s2<(s0.length:Int))) then
   (self91 (listAt s0 (Ty.dflt (.st 1)) s2.toNat)).bind fun y3=>
   bif y3 then
    k0_r s2
   else rec0 s0 s1 (wi (s2+(1:Int)))
  else none
 else k0_e0
def f129_5.s0 {R:Type} (L N:Nat) (self59:Tree→Option (Bool)) (self91:Tree→Option (Bool)) (self90_5:LT→Option (Bool)) (self129_5:LT→Option (Int)) (k0_e0:Option R) (k0_r:Int→Option R) (rec0:LT→Int→Int→Option R) (s0:LT) (s1:Int) (s2:Int):Option R:=
 f129_5.s0' L N self59 self91 self90_5 self129_5 k0_e0 k0_r rec0 s0 s1 s2
def f129_5.l0 {R:Type} (L N:Nat) (self59:Tree→Option (Bool)) (self91:Tree→Option (Bool)) (self90_5:LT→Option (Bool)) (self129_5:LT→Option (Int)) (k0_e0:Option R) (k0_r:Int→Option R):Nat→LT→Int→Int→Option R
 |0,_,_,_=>none
 |n+1,s0,s1,s2=>f129_5.s0 L N self59 self91 self90_5 self129_5 k0_e0 k0_r (f129_5.l0 L N self59 self91 self90_5 self129_5 k0_e0 k0_r n) s0 s1 s2
def f129_5.T0 (s0:LT) (s1:Int) (s2:Int):T:=mkT 19 [(0,(.tv (.sl (.st 1)) s0)),(1,(.fn 91 [])),(7,(.tv i64 s1)),(8,(.tv i64 s2))]
def f129_5.H0 (s0:LT) (s1:Int) (s2:Int):H:=[]
def f129_5.T0_e0:T:=mkT 19 []
def f129_5.H0_e0:H:=[]
def f129_5.T0_r (z4:Int):T:=mkT 19 [(4,(.tv i64 z4))]
def f129_5.H0_r (z4:Int):H:=[]
def f129_5.p0_e0' {R:Type} (L N:Nat) (self59:Tree→Option (Bool)) (self91:Tree→Option (Bool)) (self90_5:LT→Option (Bool)) (self129_5:LT→Option (Int)) (k:Int→Option R):Option R:=
 k (-1:Int)
def f129_5.p0_e0 {R:Type} (L N:Nat) (self59:Tree→Option (Bool)) (self91:Tree→Option (Bool)) (self90_5:LT→Option (Bool)) (self129_5:LT→Option (Int)) (k:Int→Option R):Option R:=
 f129_5.p0_e0' L N self59 self91 self90_5 self129_5 k
def f129_5.p0_r' {R:Type} (L N:Nat) (self59:Tree→Option (Bool)) (self91:Tree→Option (Bool)) (self90_5:LT→Option (Bool)) (self129_5:LT→Option (Int)) (k:Int→Option R) (z4:Int):Option R:=
 k z4
def f129_5.p0_r {R:Type} (L N:Nat) (self59:Tree→Option (Bool)) (self91:Tree→Option (Bool)) (self90_5:LT→Option (Bool)) (self129_5:LT→Option (Int)) (k:Int→Option R) (z4:Int):Option R:=
 f129_5.p0_r' L N self59 self91 self90_5 self129_5 k z4
def f129_5.b' {R:Type} (L N:Nat) (self59:Tree→Option (Bool)) (self91:Tree→Option (Bool)) (self90_5:LT→Option (Bool)) (self129_5:LT→Option (Int)) (k:Int→Option R) (w0:LT→Int→Int→Option R) (x0:LT):Option R:=
 w0 x0 (x0.length:Int) (0:Int)
def f129_5.b {R:Type} (L N:Nat) (self59:Tree→Option (Bool)) (self91:Tree→Option (Bool)) (self90_5:LT→Option (Bool)) (self129_5:LT→Option (Int)) (k:Int→Option R) (x0:LT):Option R:=
 f129_5.b' L N self59 self91 self90_5 self129_5 k (fun s0 s1 s2=>f129_5.l0 L N self59 self91 self90_5 self129_5 (f129_5.p0_e0 L N self59 self91 self90_5 self129_5 k) (fun z4=>f129_5.p0_r L N self59 self91 self90_5 self129_5 k z4) L s0 s1 s2) x0
mutual
def f59 (L N:Nat):Nat→Tree→Option (Bool)
 |0,_=>none
 |n+1,x0=>f59.b L N (f59 L N n) (f91 L N n) (f90_5 L N n) (f129_5 L N n) some x0
def f91 (L N:Nat):Nat→Tree→Option (Bool)
 |0,_=>none
 |n+1,x0=>f91.b L N (f59 L N n) (f91 L N n) (f90_5 L N n) (f129_5 L N n) some x0
def f90_5 (L N:Nat):Nat→LT→Option (Bool)
 |0,_=>none
 |n+1,x0=>f90_5.b L N (f59 L N n) (f91 L N n) (f90_5 L N n) (f129_5 L N n) some x0
def f129_5 (L N:Nat):Nat→LT→Option (Int)
 |0,_=>none
 |n+1,x0=>f129_5.b L N (f59 L N n) (f91 L N n) (f90_5 L N n) (f129_5 L N n) some x0
end
def f59.ent (L N m:Nat):=entRo [(.st 1)] (.one .bool) fun d=>f59 L N m d.1
def f91.ent (L N m:Nat):=entRo [(.st 1)] (.one .bool) fun d=>f91 L N m d.1
def f90_5.ent (L N m:Nat):=entRf [(.dat (.sl (.st 1))),(.fn 91 [])] (.one .bool) fun d=>f90_5 L N m d.1
def f129_5.ent (L N m:Nat):=entRf [(.dat (.sl (.st 1))),(.fn 91 [])] (.one i64) fun d=>f129_5 L N m d.1
def Φ59s (L N m:Nat):Tells:=(addO (addO (addT (addT (Φ52 L N) 59 (f59.ent L N m)) 91 (f91.ent L N m)) 90 (f90_5.ent L N m)) 129 (f129_5.ent L N m))
noncomputable def E59 (L N m:Nat):Env:={P:=Tryz.prog,ty:=tyOf,Φ:=Φ59s L N m,inl:=inlT,live:=lives,liveX:=livesX,L:=L,dp:=none,prom:=promT,heal:=healT,ren:=renT}
theorem f59.b_eq {R:Type} (L N m:Nat) (κ:AV→Option R) (x0:Tree):
  evBody (E59 L N m) (evCallI (E59 L N m) 0 1000) 1000 59 Tryz.f59 [(.tv (.st 1) x0)] [] [] (finC (.one .bool) κ)
  =f59.b L N (f59 L N m) (f91 L N m) (f90_5 L N m) (f129_5 L N m) (fun a0=>κ (.tv .bool a0)) x0:=by kernel_rfl
theorem f91.b_eq {R:Type} (L N m:Nat) (κ:AV→Option R) (x0:Tree):
  evBody (E59 L N m) (evCallI (E59 L N m) 0 1000) 1000 91 Tryz.f91 [(.tv (.st 1) x0)] [] [] (finC (.one .bool) κ)
  =f91.b L N (f59 L N m) (f91 L N m) (f90_5 L N m) (f129_5 L N m) (fun a0=>κ (.tv .bool a0)) x0:=by kernel_rfl
theorem f90_5.b_eq {R:Type} (L N m:Nat) (κ:AV→Option R) (x0:LT):
  evBody (E59 L N m) (evCallI (E59 L N m) 0 1000) 1000 90 Tryz.f90 [(.tv (.sl (.st 1)) x0),(.fn 91 [])] [] [] (finC (.one .bool) κ)
  =f90_5.b L N (f59 L N m) (f91 L N m) (f90_5 L N m) (f129_5 L N m) (fun a0=>κ (.tv .bool a0)) x0:=by kernel_rfl
noncomputable def f129_5.c0:Code:=loopAt 0 (codeOf Tryz.f129)
def f129_5.X0_e0 {R:Type} (κ:KX R):=κ (.exit 0) f129_5.T0_e0 f129_5.H0_e0
def f129_5.X0_r {R:Type} (κ:KX R):=fun z4=>κ .ret (f129_5.T0_r z4) (f129_5.H0_r z4)
def f129_5.R0 {R:Type} (rec:KT R):=fun s0 s1 s2=>rec (f129_5.T0 s0 s1 s2) (f129_5.H0 s0 s1 s2)
theorem f129_5.s0_eq {R:Type} (L N m:Nat) (κ:KX R) (rec:KT R) (s0:LT) (s1:Int) (s2:Int):
  evRd (E59 L N m) (evCallI (E59 L N m) 0 1000) 1000 129 19 0 f129_5.c0 κ rec (f129_5.T0 s0 s1 s2) (f129_5.H0 s0 s1 s2)
  =f129_5.s0 L N (f59 L N m) (f91 L N m) (f90_5 L N m) (f129_5 L N m) (f129_5.X0_e0 κ) (f129_5.X0_r κ) (f129_5.R0 rec) s0 s1 s2:=by kernel_rfl
theorem f129_5.l0_eq {R:Type} (L N m:Nat) (κ:KX R):∀(n:Nat) (s0:LT) (s1:Int) (s2:Int),
  evLp (E59 L N m) (evCallI (E59 L N m) 0 1000) 1000 129 19 0 f129_5.c0 κ n (f129_5.T0 s0 s1 s2) (f129_5.H0 s0 s1 s2)
  =f129_5.l0 L N (f59 L N m) (f91 L N m) (f90_5 L N m) (f129_5 L N m) (f129_5.X0_e0 κ) (f129_5.X0_r κ) n s0 s1 s2:=by
 intro n
 induction n with
 |zero=>intros;rfl
 |succ n ih=>
  intro s0 s1 s2
  rw [evLp_succ,f129_5.s0_eq]
  delta f129_5.R0
  simp only [ih]
  rfl
theorem f129_5.p0_e0_eq {R:Type} (L N m:Nat) (κ:AV→Option R):
  (contAt (E59 L N m) (evCallI (E59 L N m) 0 1000) 1000 129 19 0 (codeOf Tryz.f129) (finK (E59 L N m) 1000 Tryz.f129 (finC (.one i64) κ))) (.exit 0) f129_5.T0_e0 f129_5.H0_e0
  =f129_5.p0_e0 L N (f59 L N m) (f91 L N m) (f90_5 L N m) (f129_5 L N m) (fun a0=>κ (.tv i64 a0)):=by kernel_rfl
theorem f129_5.p0_r_eq {R:Type} (L N m:Nat) (κ:AV→Option R) (z4:Int):
  (contAt (E59 L N m) (evCallI (E59 L N m) 0 1000) 1000 129 19 0 (codeOf Tryz.f129) (finK (E59 L N m) 1000 Tryz.f129 (finC (.one i64) κ))) .ret (f129_5.T0_r z4) (f129_5.H0_r z4)
  =f129_5.p0_r L N (f59 L N m) (f91 L N m) (f90_5 L N m) (f129_5 L N m) (fun a0=>κ (.tv i64 a0)) z4:=by kernel_rfl
theorem f129_5.b_eq {R:Type} (L N m:Nat) (κ:AV→Option R) (x0:LT):
  evBody (E59 L N m) (evCallI (E59 L N m) 0 1000) 1000 129 Tryz.f129 [(.tv (.sl (.st 1)) x0),(.fn 91 [])] [] [] (finC (.one i64) κ)
  =f129_5.b L N (f59 L N m) (f91 L N m) (f90_5 L N m) (f129_5 L N m) (fun a0=>κ (.tv i64 a0)) x0:=by
 refine Eq.trans (b:=f129_5.b' L N (f59 L N m) (f91 L N m) (f90_5 L N m) (f129_5 L N m) (fun a0=>κ (.tv i64 a0)) (fun s0 s1 s2=>evLp (E59 L N m) (evCallI (E59 L N m) 0 1000) 1000 129 19 0 f129_5.c0 (contAt (E59 L N m) (evCallI (E59 L N m) 0 1000) 1000 129 19 0 (codeOf Tryz.f129) (finK (E59 L N m) 1000 Tryz.f129 (finC (.one i64) κ))) L (f129_5.T0 s0 s1 s2) (f129_5.H0 s0 s1 s2)) x0) (by kernel_rfl) ?_
 unfold f129_5.b
 simp only [f129_5.l0_eq]
 delta f129_5.X0_e0 f129_5.X0_r
 simp only [f129_5.p0_e0_eq,f129_5.p0_r_eq]
theorem f59.ok (L N m:Nat) (hΦ:TellsOk Tryz.prog (Φ59s L N m)):EntOk Tryz.prog 59 (f59.ent L N (m+1)):=entRo_ok (E:=(E59 L N m)) (dep:=1000) (f:=Tryz.f59) (sound_of hΦ) okP (callI_sound (sound_of hΦ) okP 0 1000) rfl rfl fun d _ hy=>(f59.b_eq L N m (unR (.one .bool)) d.1).trans (Eq.trans (b:=f59.b L N (f59 L N m) (f91 L N m) (f90_5 L N m) (f129_5 L N m) some d.1) (by kernel_rfl) hy)
theorem f91.ok (L N m:Nat) (hΦ:TellsOk Tryz.prog (Φ59s L N m)):EntOk Tryz.prog 91 (f91.ent L N (m+1)):=entRo_ok (E:=(E59 L N m)) (dep:=1000) (f:=Tryz.f91) (sound_of hΦ) okP (callI_sound (sound_of hΦ) okP 0 1000) rfl rfl fun d _ hy=>(f91.b_eq L N m (unR (.one .bool)) d.1).trans (Eq.trans (b:=f91.b L N (f59 L N m) (f91 L N m) (f90_5 L N m) (f129_5 L N m) some d.1) (by kernel_rfl) hy)
theorem f90_5.ok (L N m:Nat) (hΦ:TellsOk Tryz.prog (Φ59s L N m)):EntOkO Tryz.prog 90 (f90_5.ent L N (m+1)):=entRf_ok (E:=(E59 L N m)) (dep:=1000) (f:=Tryz.f90) (sound_of hΦ) okP (callI_sound (sound_of hΦ) okP 0 1000) rfl rfl fun d _ hy=>(f90_5.b_eq L N m (unR (.one .bool)) d.1).trans (Eq.trans (b:=f90_5.b L N (f59 L N m) (f91 L N m) (f90_5 L N m) (f129_5 L N m) some d.1) (by kernel_rfl) hy)
theorem f129_5.ok (L N m:Nat) (hΦ:TellsOk Tryz.prog (Φ59s L N m)):EntOkO Tryz.prog 129 (f129_5.ent L N (m+1)):=entRf_ok (E:=(E59 L N m)) (dep:=1000) (f:=Tryz.f129) (sound_of hΦ) okP (callI_sound (sound_of hΦ) okP 0 1000) rfl rfl fun d _ hy=>(f129_5.b_eq L N m (unR (.one i64)) d.1).trans (Eq.trans (b:=f129_5.b L N (f59 L N m) (f91 L N m) (f90_5 L N m) (f129_5 L N m) some d.1) (by kernel_rfl) hy)
theorem Φ59s_ok (L N:Nat):∀m,TellsOk Tryz.prog (Φ59s L N m):=by
 intro m
 induction m with
 |zero=>exact (addO_ok (addO_ok (addT_ok (addT_ok (Φ52_ok L N) (entRo_no fun _=>rfl)) (entRo_no fun _=>rfl)) (entRf_no fun _=>rfl)) (entRf_no fun _=>rfl))
 |succ m ih=>exact (addO_ok (addO_ok (addT_ok (addT_ok (Φ52_ok L N) (f59.ok L N m ih)) (f91.ok L N m ih)) (f90_5.ok L N m ih)) (f129_5.ok L N m ih))
def Φ59 (L N:Nat):Tells:=(addO (addO (addT (addT (Φ52 L N) 59 (f59.ent L N N)) 91 (f91.ent L N N)) 90 (f90_5.ent L N N)) 129 (f129_5.ent L N N))
theorem Φ59_ok (L N:Nat):TellsOk Tryz.prog (Φ59 L N):=Φ59s_ok L N N
def f94.b' {R:Type} (L N:Nat) (k:Tree→Option R) (x0:Int) (x1:Tree):Option R:=
 k (Tree.mk (1:Int) x0 ([(Tree.mk x1.op x1.n x1.parts)]:LT))
def f94.b {R:Type} (L N:Nat) (k:Tree→Option R) (x0:Int) (x1:Tree):Option R:=
 f94.b' L N k x0 x1
def f94 (L N:Nat) (x0:Int) (x1:Tree):Option (Tree):=f94.b L N some x0 x1
def f94.ent (L N:Nat):=entDa [i64,(.st 1)] (.one (.st 1)) fun d=>f94 L N d.1 d.2.1
noncomputable def E94 (L N:Nat):Env:={P:=Tryz.prog,ty:=tyOf,Φ:=(Φ59 L N),inl:=inlT,live:=lives,liveX:=livesX,L:=L,dp:=none,prom:=promT,heal:=healT,ren:=renT}
theorem f94.b_eq {R:Type} (L N:Nat) (κ:AV→Option R) (x0:Int) (x1:Tree):
  evBody (E94 L N) (evCallI (E94 L N) 0 1000) 1000 94 Tryz.f94 [(.tv i64 x0),(.tv (.st 1) x1)] [] [] (finC (.one (.st 1)) κ)
  =f94.b L N (fun a0=>κ (.tv (.st 1) a0)) x0 x1:=by kernel_rfl
theorem f94.ok (L N:Nat) (hΦ:TellsOk Tryz.prog ((Φ59 L N))):EntOk Tryz.prog 94 (f94.ent L N):=entDa_ok (E:=(E94 L N)) (dep:=1000) (f:=Tryz.f94) (sound_of hΦ) okP (callI_sound (sound_of hΦ) okP 0 1000) rfl fun d _ hy=>(f94.b_eq L N (unR (.one (.st 1))) d.1 d.2.1).trans (Eq.trans (b:=f94.b L N some d.1 d.2.1) (by kernel_rfl) hy)
def Φ94 (L N:Nat):Tells:=(addT (Φ59 L N) 94 (f94.ent L N))
theorem Φ94_ok (L N:Nat):TellsOk Tryz.prog (Φ94 L N):=addT_ok (Φ59_ok L N) (f94.ok L N (Φ59_ok L N))
def f96.s0' {R:Type} (L N:Nat) (k0_e0:Int→Int→Int→Int→LT→Option R) (rec0:LT→Int→Int→Int→Int→Int→LT→Option R) (s0:LT) (s1:Int) (s2:Int) (s3:Int) (s4:Int) (s5:Int) (s6:LT):Option R:=
 bif (decide (s1≥(0:Int))) then
  bif (decide (0≤s1)&&decide (s1<(s0.length:Int))) then
   rec0 s0 (wi (s1-(1:Int))) s2 s3 ((Tree.mk (2:Int) (0:Int) ([(listAt s0 (Ty.dflt (.st 1)) s1.toNat),(Tree.mk s4 s5 s6)]:LT)).op) ((Tree.mk (2:Int) (0:Int) ([(listAt s0 (Ty.dflt (.st 1)) s1.toNat),(Tree.mk s4 s5 s6)]:LT)).n) ((Tree.mk (2:Int) (0:Int) ([(listAt s0 (Ty.dflt (.st 1)) s1.toNat),(Tree.mk s4 s5 s6)]:LT)).parts)
  else none
 else k0_e0 s2 s3 s4 s5 s6
def f96.s0 {R:Type} (L N:Nat) (k0_e0:Int→Int→Int→Int→LT→Option R) (rec0:LT→Int→Int→Int→Int→Int→LT→Option R) (s0:LT) (s1:Int) (s2:Int) (s3:Int) (s4:Int) (s5:Int) (s6:LT):Option R:=
 f96.s0' L N k0_e0 rec0 s0 s1 s2 s3 s4 s5 s6
def f96.l0 {R:Type} (L N:Nat) (k0_e0:Int→Int→Int→Int→LT→Option R):Nat→LT→Int→Int→Int→Int→Int→LT→Option R
 |0,_,_,_,_,_,_,_=>none
 |n+1,s0,s1,s2,s3,s4,s5,s6=>f96.s0 L N k0_e0 (f96.l0 L N k0_e0 n) s0 s1 s2 s3 s4 s5 s6
def f96.T0 (s0:LT) (s1:Int) (s2:Int) (s3:Int) (s4:Int) (s5:Int) (s6:LT):T:=mkT 30 [(0,(.tv (.sl (.st 1)) s0)),(2,(.ptr 1002 0)),(3,(.ptr 1003 0)),(4,(.tv i64 s1))]
def f96.H0 (s0:LT) (s1:Int) (s2:Int) (s3:Int) (s4:Int) (s5:Int) (s6:LT):H:=[(1002,(.box [(.tv i64 s2),(.tv i64 s3),.nil])),(1003,(.box [(.tv i64 s4),(.tv i64 s5),(.tv (.sl (.st 1)) s6)]))]
def f96.T0_e0 (z7:Int) (z8:Int) (z9:Int) (z10:Int) (z11:LT):T:=mkT 30 [(2,(.ptr 1002 0)),(3,(.ptr 1003 0))]
def f96.H0_e0 (z7:Int) (z8:Int) (z9:Int) (z10:Int) (z11:LT):H:=[(1002,(.box [(.tv i64 z7),(.tv i64 z8),.nil])),(1003,(.box [(.tv i64 z9),(.tv i64 z10),(.tv (.sl (.st 1)) z11)]))]
def f96.p0_e0' {R:Type} (L N:Nat) (k:Tree→Option R) (z7:Int) (z8:Int) (z9:Int) (z10:Int) (z11:LT):Option R:=
 k (Tree.mk ((Tree.mk z9 z10 z11).op) ((Tree.mk z9 z10 z11).n) ((Tree.mk z9 z10 z11).parts))
def f96.p0_e0 {R:Type} (L N:Nat) (k:Tree→Option R) (z7:Int) (z8:Int) (z9:Int) (z10:Int) (z11:LT):Option R:=
 f96.p0_e0' L N k z7 z8 z9 z10 z11
def f96.b' {R:Type} (L N:Nat) (k:Tree→Option R) (w0:LT→Int→Int→Int→Int→Int→LT→Option R) (x0:LT):Option R:=
 bif ((x0.length:Int)==(0:Int)) then
  k (Tree.mk ((Tree.mk (0:Int) (0:Int) []).op) ((Tree.mk (0:Int) (0:Int) []).n) ((Tree.mk (0:Int) (0:Int) []).parts))
 else bif (decide (0≤(wi ((x0.length:Int)-(1:Int))))&&decide ((wi ((x0.length:Int)-(1:Int)))<(x0.length:Int))) then
  w0 x0 (wi ((x0.length:Int)-(2:Int))) (0:Int) (0:Int) ((listAt x0 (Ty.dflt (.st 1)) (wi ((x0.length:Int)-(1:Int))).toNat).op) ((listAt x0 (Ty.dflt (.st 1)) (wi ((x0.length:Int)-(1:Int))).toNat).n) ((listAt x0 (Ty.dflt (.st 1)) (wi ((x0.length:Int)-(1:Int))).toNat).parts)
 else none
def f96.b {R:Type} (L N:Nat) (k:Tree→Option R) (x0:LT):Option R:=
 f96.b' L N k (fun s0 s1 s2 s3 s4 s5 s6=>f96.l0 L N (fun z7 z8 z9 z10 z11=>f96.p0_e0 L N k z7 z8 z9 z10 z11) L s0 s1 s2 s3 s4 s5 s6) x0
def f96 (L N:Nat) (x0:LT):Option (Tree):=f96.b L N some x0
def f96.ent (L N:Nat):=entDa [(.sl (.st 1))] (.one (.st 1)) fun d=>f96 L N d.1
noncomputable def E96 (L N:Nat):Env:={P:=Tryz.prog,ty:=tyOf,Φ:=(Φ94 L N),inl:=inlT,live:=lives,liveX:=livesX,L:=L,dp:=none,prom:=promT,heal:=healT,ren:=renT,zd:=true}
noncomputable def f96.c0:Code:=loopAt 0 (codeOf Tryz.f96)
def f96.X0_e0 {R:Type} (κ:KX R):=fun z7 z8 z9 z10 z11=>κ (.exit 0) (f96.T0_e0 z7 z8 z9 z10 z11) (f96.H0_e0 z7 z8 z9 z10 z11)
def f96.R0 {R:Type} (rec:KT R):=fun s0 s1 s2 s3 s4 s5 s6=>rec (f96.T0 s0 s1 s2 s3 s4 s5 s6) (f96.H0 s0 s1 s2 s3 s4 s5 s6)
theorem f96.s0_eq {R:Type} (L N:Nat) (κ:KX R) (rec:KT R) (s0:LT) (s1:Int) (s2:Int) (s3:Int) (s4:Int) (s5:Int) (s6:LT):
  evRd (E96 L N) (evCallI (E96 L N) 0 1000) 1000 96 30 0 f96.c0 κ rec (f96.T0 s0 s1 s2 s3 s4 s5 s6) (f96.H0 s0 s1 s2 s3 s4 s5 s6)
  =f96.s0 L N (f96.X0_e0 κ) (f96.R0 rec) s0 s1 s2 s3 s4 s5 s6:=by kernel_rfl
theorem f96.l0_eq {R:Type} (L N:Nat) (κ:KX R):∀(n:Nat) (s0:LT) (s1:Int) (s2:Int) (s3:Int) (s4:Int) (s5:Int) (s6:LT),
  evLp (E96 L N) (evCallI (E96 L N) 0 1000) 1000 96 30 0 f96.c0 κ n (f96.T0 s0 s1 s2 s3 s4 s5 s6) (f96.H0 s0 s1 s2 s3 s4 s5 s6)
  =f96.l0 L N (f96.X0_e0 κ) n s0 s1 s2 s3 s4 s5 s6:=by
 intro n
 induction n with
 |zero=>intros;rfl
 |succ n ih=>
  intro s0 s1 s2 s3 s4 s5 s6
  rw [evLp_succ,f96.s0_eq]
  delta f96.R0
  simp only [ih]
  rfl
theorem f96.p0_e0_eq {R:Type} (L N:Nat) (κ:AV→Option R) (z7:Int) (z8:Int) (z9:Int) (z10:Int) (z11:LT):
  (contAt (E96 L N) (evCallI (E96 L N) 0 1000) 1000 96 30 0 (codeOf Tryz.f96) (finK (E96 L N) 1000 Tryz.f96 (finC (.one (.st 1)) κ))) (.exit 0) (f96.T0_e0 z7 z8 z9 z10 z11) (f96.H0_e0 z7 z8 z9 z10 z11)
  =f96.p0_e0 L N (fun a0=>κ (.tv (.st 1) a0)) z7 z8 z9 z10 z11:=by kernel_rfl
theorem f96.b_eq {R:Type} (L N:Nat) (κ:AV→Option R) (x0:LT):
  evBody (E96 L N) (evCallI (E96 L N) 0 1000) 1000 96 Tryz.f96 [(.tv (.sl (.st 1)) x0)] [] [] (finC (.one (.st 1)) κ)
  =f96.b L N (fun a0=>κ (.tv (.st 1) a0)) x0:=by
 refine Eq.trans (b:=f96.b' L N (fun a0=>κ (.tv (.st 1) a0)) (fun s0 s1 s2 s3 s4 s5 s6=>evLp (E96 L N) (evCallI (E96 L N) 0 1000) 1000 96 30 0 f96.c0 (contAt (E96 L N) (evCallI (E96 L N) 0 1000) 1000 96 30 0 (codeOf Tryz.f96) (finK (E96 L N) 1000 Tryz.f96 (finC (.one (.st 1)) κ))) L (f96.T0 s0 s1 s2 s3 s4 s5 s6) (f96.H0 s0 s1 s2 s3 s4 s5 s6)) x0) (by kernel_rfl) ?_
 unfold f96.b
 simp only [f96.l0_eq]
 delta f96.X0_e0
 simp only [f96.p0_e0_eq]
theorem f96.ok (L N:Nat) (hΦ:TellsOk Tryz.prog ((Φ94 L N))):EntOk Tryz.prog 96 (f96.ent L N):=entDa_ok (E:=(E96 L N)) (dep:=1000) (f:=Tryz.f96) (sound_of hΦ) okP (callI_sound (sound_of hΦ) okP 0 1000) rfl fun d _ hy=>(f96.b_eq L N (unR (.one (.st 1))) d.1).trans (Eq.trans (b:=f96.b L N some d.1) (by kernel_rfl) hy)
def Φ96 (L N:Nat):Tells:=(addT (Φ94 L N) 96 (f96.ent L N))
theorem Φ96_ok (L N:Nat):TellsOk Tryz.prog (Φ96 L N):=addT_ok (Φ94_ok L N) (f96.ok L N (Φ94_ok L N))
def f60_1.s0' {R:Type} (L N:Nat) (self60_1:(List (ByteArray×Tree))→Tree→Option (Tree×Bool×(List (ByteArray×Tree)))) (k0_e0:ByteArray→(List (ByteArray×Tree))→Int→Int→(List (ByteArray×Tree))→LY→Option R) (k0_r:Bool→ByteArray→(List (ByteArray×Tree))→Int→Int→(List (ByteArray×Tree))→LY→Option R) (rec0:ByteArray→Int→Int→(List (ByteArray×Tree))→Int→Int→(List (ByteArray×Tree))→LY→LS→Option R) (s2:ByteArray) (s3:Int) (s4:Int) (s5:(List (ByteArray×Tree))) (s6:Int) (s7:Int) (s8:(List (ByteArray×Tree))) (s9:LY) (s10:LS):Option R:=
 bif (decide (s4<s3)) then
  bif (decide (0≤s4)&&decide (s4<(s10.length:Int))) then
   (self60_1 s5 (Tree.mk ((listAt s10 (Ty.dflt (.st 3)) s4.toNat).thn.op) ((listAt s10 (Ty.dflt (.st 3)) s4.toNat).thn.n) ((listAt s10 (Ty.dflt (.st 3)) s4.toNat).thn.parts))).bind fun y17=>
   bif (!y17.2.1) then
    k0_r false s2 y17.2.2 (0:Int) (0:Int) s8 s9
   else (f94 L N ((listAt s10 (Ty.dflt (.st 3)) s4.toNat).act) (Tree.mk y17.1.op y17.1.n y17.1.parts)).bind fun y25=>
   (f92 L N N (Tree.mk y25.op y25.n y25.parts)).bind fun y26=>
   bif (!(Option.isSome (mapFind .str (.st 1) y26 s8))) then
    bif (decide (s9.length+([y26]:LY).length≤lim)) then
     rec0 s2 s3 (wi (s4+(1:Int))) y17.2.2 s6 s7 (mapPut .str (.st 1) y26 (Tree.mk y25.op y25.n y25.parts) s8) (s9++([y26]:LY)) s10
    else none
   else rec0 s2 s3 (wi (s4+(1:Int))) y17.2.2 s6 s7 s8 s9 s10
  else none
 else k0_e0 s2 s5 s6 s7 s8 s9
def f60_1.s0 {R:Type} (L N:Nat) (self60_1:(List (ByteArray×Tree))→Tree→Option (Tree×Bool×(List (ByteArray×Tree)))) (k0_e0:ByteArray→(List (ByteArray×Tree))→Int→Int→(List (ByteArray×Tree))→LY→Option R) (k0_r:Bool→ByteArray→(List (ByteArray×Tree))→Int→Int→(List (ByteArray×Tree))→LY→Option R) (rec0:ByteArray→Int→Int→(List (ByteArray×Tree))→Int→Int→(List (ByteArray×Tree))→LY→LS→Option R) (s2:ByteArray) (s3:Int) (s4:Int) (s5:(List (ByteArray×Tree))) (s6:Int) (s7:Int) (s8:(List (ByteArray×Tree))) (s9:LY) (s10:LS):Option R:=
 f60_1.s0' L N self60_1 k0_e0 k0_r rec0 s2 s3 s4 s5 s6 s7 s8 s9 s10
def f60_1.l0 {R:Type} (L N:Nat) (self60_1:(List (ByteArray×Tree))→Tree→Option (Tree×Bool×(List (ByteArray×Tree)))) (k0_e0:ByteArray→(List (ByteArray×Tree))→Int→Int→(List (ByteArray×Tree))→LY→Option R) (k0_r:Bool→ByteArray→(List (ByteArray×Tree))→Int→Int→(List (ByteArray×Tree))→LY→Option R):Nat→ByteArray→Int→Int→(List (ByteArray×Tree))→Int→Int→(List (ByteArray×Tree))→LY→LS→Option R
 |0,_,_,_,_,_,_,_,_,_=>none
 |n+1,s2,s3,s4,s5,s6,s7,s8,s9,s10=>f60_1.s0 L N self60_1 k0_e0 k0_r (f60_1.l0 L N self60_1 k0_e0 k0_r n) s2 s3 s4 s5 s6 s7 s8 s9 s10
def f60_1.T0 (s2:ByteArray) (s3:Int) (s4:Int) (s5:(List (ByteArray×Tree))) (s6:Int) (s7:Int) (s8:(List (ByteArray×Tree))) (s9:LY) (s10:LS):T:=mkT 99 [(1,(.mp 0)),(4,(.ptr 1004 0)),(6,(.tv .str s2)),(9,(.mp 1032)),(10,(.row 1033)),(35,(.row 1035)),(36,(.tv i64 s3)),(37,(.tv i64 s4))]++[.mp 0]
def f60_1.H0 (s2:ByteArray) (s3:Int) (s4:Int) (s5:(List (ByteArray×Tree))) (s6:Int) (s7:Int) (s8:(List (ByteArray×Tree))) (s9:LY) (s10:LS):H:=[(0,(.map .str (.st 1) s5)),(1004,(.box [(.tv i64 s6),(.tv i64 s7),.nil])),(1032,(.map .str (.st 1) s8)),(1033,(.row 9 .str s9)),(1035,(.row 113 (.st 3) s10))]
def f60_1.T0_e0 (z11:ByteArray) (z12:(List (ByteArray×Tree))) (z13:Int) (z14:Int) (z15:(List (ByteArray×Tree))) (z16:LY):T:=mkT 99 [(1,(.mp 0)),(4,(.ptr 1004 0)),(6,(.tv .str z11)),(9,(.mp 1032)),(10,(.row 1033))]++[.mp 0]
def f60_1.H0_e0 (z11:ByteArray) (z12:(List (ByteArray×Tree))) (z13:Int) (z14:Int) (z15:(List (ByteArray×Tree))) (z16:LY):H:=[(0,(.map .str (.st 1) z12)),(1004,(.box [(.tv i64 z13),(.tv i64 z14),.nil])),(1032,(.map .str (.st 1) z15)),(1033,(.row 9 .str z16))]
def f60_1.T0_r (z18:Bool) (z19:ByteArray) (z20:(List (ByteArray×Tree))) (z21:Int) (z22:Int) (z23:(List (ByteArray×Tree))) (z24:LY):T:=mkT 99 [(1,(.mp 0)),(4,(.ptr 1004 0)),(5,(.tv .bool z18)),(6,(.tv .str z19)),(9,(.mp 1032)),(10,(.row 1033))]++[.mp 0]
def f60_1.H0_r (z18:Bool) (z19:ByteArray) (z20:(List (ByteArray×Tree))) (z21:Int) (z22:Int) (z23:(List (ByteArray×Tree))) (z24:LY):H:=[(0,(.map .str (.st 1) z20)),(1004,(.box [(.tv i64 z21),(.tv i64 z22),.nil])),(1032,(.map .str (.st 1) z23)),(1033,(.row 9 .str z24))]
def f60_1.s1' {R:Type} (L N:Nat) (self60_1:(List (ByteArray×Tree))→Tree→Option (Tree×Bool×(List (ByteArray×Tree)))) (k1_e2:ByteArray→(List (ByteArray×Tree))→Int→Int→LT→Option R) (rec1:ByteArray→Int→Int→(List (ByteArray×Tree))→Int→Int→(List (ByteArray×Tree))→LY→LT→Option R) (s37:ByteArray) (s38:Int) (s39:Int) (s40:(List (ByteArray×Tree))) (s41:Int) (s42:Int) (s43:(List (ByteArray×Tree))) (s44:LY) (s45:LT):Option R:=
 bif (decide (s39<s38)) then
  bif (decide (0≤s39)&&decide (s39<(s44.length:Int))) then
   bif (decide (s45.length+([((mapFind .str (.st 1) (listAt s44 ByteArray.empty s39.toNat) s43).getD (Ty.dflt (.st 1)))]:LT).length≤lim)) then
    rec1 s37 s38 (wi (s39+(1:Int))) s40 s41 s42 s43 s44 (s45++([((mapFind .str (.st 1) (listAt s44 ByteArray.empty s39.toNat) s43).getD (Ty.dflt (.st 1)))]:LT))
   else none
  else none
 else k1_e2 s37 s40 s41 s42 s45
def f60_1.s1 {R:Type} (L N:Nat) (self60_1:(List (ByteArray×Tree))→Tree→Option (Tree×Bool×(List (ByteArray×Tree)))) (k1_e2:ByteArray→(List (ByteArray×Tree))→Int→Int→LT→Option R) (rec1:ByteArray→Int→Int→(List (ByteArray×Tree))→Int→Int→(List (ByteArray×Tree))→LY→LT→Option R) (s37:ByteArray) (s38:Int) (s39:Int) (s40:(List (ByteArray×Tree))) (s41:Int) (s42:Int) (s43:(List (ByteArray×Tree))) (s44:LY) (s45:LT):Option R:=
 f60_1.s1' L N self60_1 k1_e2 rec1 s37 s38 s39 s40 s41 s42 s43 s44 s45
def f60_1.l1 {R:Type} (L N:Nat) (self60_1:(List (ByteArray×Tree))→Tree→Option (Tree×Bool×(List (ByteArray×Tree)))) (k1_e2:ByteArray→(List (ByteArray×Tree))→Int→Int→LT→Option R):Nat→ByteArray→Int→Int→(List (ByteArray×Tree))→Int→Int→(List (ByteArray×Tree))→LY→LT→Option R
 |0,_,_,_,_,_,_,_,_,_=>none
 |n+1,s37,s38,s39,s40,s41,s42,s43,s44,s45=>f60_1.s1 L N self60_1 k1_e2 (f60_1.l1 L N self60_1 k1_e2 n) s37 s38 s39 s40 s41 s42 s43 s44 s45
def f60_1.T1 (s37:ByteArray) (s38:Int) (s39:Int) (s40:(List (ByteArray×Tree))) (s41:Int) (s42:Int) (s43:(List (ByteArray×Tree))) (s44:LY) (s45:LT):T:=mkT 99 [(1,(.mp 0)),(4,(.ptr 1004 0)),(6,(.tv .str s37)),(9,(.mp 1032)),(18,(.row 1075)),(76,(.row 1033)),(77,(.tv i64 s38)),(78,(.tv i64 s39))]++[.mp 0]
def f60_1.H1 (s37:ByteArray) (s38:Int) (s39:Int) (s40:(List (ByteArray×Tree))) (s41:Int) (s42:Int) (s43:(List (ByteArray×Tree))) (s44:LY) (s45:LT):H:=[(0,(.map .str (.st 1) s40)),(1004,(.box [(.tv i64 s41),(.tv i64 s42),.nil])),(1032,(.map .str (.st 1) s43)),(1033,(.row 9 .str s44)),(1075,(.row 25 (.st 1) s45))]
def f60_1.T1_e2 (z46:ByteArray) (z47:(List (ByteArray×Tree))) (z48:Int) (z49:Int) (z50:LT):T:=mkT 99 [(1,(.mp 0)),(4,(.ptr 1004 0)),(6,(.tv .str z46)),(18,(.row 1075))]++[.mp 0]
def f60_1.H1_e2 (z46:ByteArray) (z47:(List (ByteArray×Tree))) (z48:Int) (z49:Int) (z50:LT):H:=[(0,(.map .str (.st 1) z47)),(1004,(.box [(.tv i64 z48),(.tv i64 z49),.nil])),(1075,(.row 25 (.st 1) z50))]
def f60_1.p1_e2' {R:Type} (L N:Nat) (self60_1:(List (ByteArray×Tree))→Tree→Option (Tree×Bool×(List (ByteArray×Tree)))) (k:Tree→Bool→(List (ByteArray×Tree))→Option R) (z46:ByteArray) (z47:(List (ByteArray×Tree))) (z48:Int) (z49:Int) (z50:LT):Option R:=
 (f96 L N z50).bind fun y51=>
 (f81 L N N (Tree.mk y51.op y51.n y51.parts) (24:Int)).bind fun y52=>
 bif (decide (y52>(24:Int))) then
  k (Tree.mk (0:Int) (0:Int) []) false z47
 else k (Tree.mk ((Tree.mk y51.op y51.n y51.parts).op) ((Tree.mk y51.op y51.n y51.parts).n) ((Tree.mk y51.op y51.n y51.parts).parts)) true (mapPut .str (.st 1) z46 (Tree.mk y51.op y51.n y51.parts) z47)
def f60_1.p1_e2 {R:Type} (L N:Nat) (self60_1:(List (ByteArray×Tree))→Tree→Option (Tree×Bool×(List (ByteArray×Tree)))) (k:Tree→Bool→(List (ByteArray×Tree))→Option R) (z46:ByteArray) (z47:(List (ByteArray×Tree))) (z48:Int) (z49:Int) (z50:LT):Option R:=
 f60_1.p1_e2' L N self60_1 k z46 z47 z48 z49 z50
def f60_1.p0_e0' {R:Type} (L N:Nat) (self60_1:(List (ByteArray×Tree))→Tree→Option (Tree×Bool×(List (ByteArray×Tree)))) (k:Tree→Bool→(List (ByteArray×Tree))→Option R) (w1:ByteArray→Int→Int→(List (ByteArray×Tree))→Int→Int→(List (ByteArray×Tree))→LY→LT→Option R) (z11:ByteArray) (z12:(List (ByteArray×Tree))) (z13:Int) (z14:Int) (z15:(List (ByteArray×Tree))) (z16:LY):Option R:=
 ((fsortS z16)).bind fun y36=>
 w1 z11 ((sortS z16).length:Int) (0:Int) z12 z13 z14 z15 (sortS z16) ([]:LT)
def f60_1.p0_e0 {R:Type} (L N:Nat) (self60_1:(List (ByteArray×Tree))→Tree→Option (Tree×Bool×(List (ByteArray×Tree)))) (k:Tree→Bool→(List (ByteArray×Tree))→Option R) (z11:ByteArray) (z12:(List (ByteArray×Tree))) (z13:Int) (z14:Int) (z15:(List (ByteArray×Tree))) (z16:LY):Option R:=
 f60_1.p0_e0' L N self60_1 k (fun s37 s38 s39 s40 s41 s42 s43 s44 s45=>f60_1.l1 L N self60_1 (fun z46 z47 z48 z49 z50=>f60_1.p1_e2 L N self60_1 k z46 z47 z48 z49 z50) L s37 s38 s39 s40 s41 s42 s43 s44 s45) z11 z12 z13 z14 z15 z16
def f60_1.p0_r' {R:Type} (L N:Nat) (self60_1:(List (ByteArray×Tree))→Tree→Option (Tree×Bool×(List (ByteArray×Tree)))) (k:Tree→Bool→(List (ByteArray×Tree))→Option R) (z18:Bool) (z19:ByteArray) (z20:(List (ByteArray×Tree))) (z21:Int) (z22:Int) (z23:(List (ByteArray×Tree))) (z24:LY):Option R:=
 k (Tree.mk z21 z22 []) z18 z20
def f60_1.p0_r {R:Type} (L N:Nat) (self60_1:(List (ByteArray×Tree))→Tree→Option (Tree×Bool×(List (ByteArray×Tree)))) (k:Tree→Bool→(List (ByteArray×Tree))→Option R) (z18:Bool) (z19:ByteArray) (z20:(List (ByteArray×Tree))) (z21:Int) (z22:Int) (z23:(List (ByteArray×Tree))) (z24:LY):Option R:=
 f60_1.p0_r' L N self60_1 k z18 z19 z20 z21 z22 z23 z24
def f60_1.b' {R:Type} (L N:Nat) (self60_1:(List (ByteArray×Tree))→Tree→Option (Tree×Bool×(List (ByteArray×Tree)))) (k:Tree→Bool→(List (ByteArray×Tree))→Option R) (w0:ByteArray→Int→Int→(List (ByteArray×Tree))→Int→Int→(List (ByteArray×Tree))→LY→LS→Option R) (c0:(List (ByteArray×Tree))) (x0:Tree):Option R:=
 (f92 L N N (Tree.mk x0.op x0.n x0.parts)).bind fun y0=>
 bif (Option.isSome (mapFind .str (.st 1) y0 c0)) then
  k (Tree.mk ((Tree.mk (((mapFind .str (.st 1) y0 c0).getD (Ty.dflt (.st 1))).op) (((mapFind .str (.st 1) y0 c0).getD (Ty.dflt (.st 1))).n) (((mapFind .str (.st 1) y0 c0).getD (Ty.dflt (.st 1))).parts)).op) ((Tree.mk (((mapFind .str (.st 1) y0 c0).getD (Ty.dflt (.st 1))).op) (((mapFind .str (.st 1) y0 c0).getD (Ty.dflt (.st 1))).n) (((mapFind .str (.st 1) y0 c0).getD (Ty.dflt (.st 1))).parts)).n) ((Tree.mk (((mapFind .str (.st 1) y0 c0).getD (Ty.dflt (.st 1))).op) (((mapFind .str (.st 1) y0 c0).getD (Ty.dflt (.st 1))).n) (((mapFind .str (.st 1) y0 c0).getD (Ty.dflt (.st 1))).parts)).parts)) true c0
 else (f93 L N N (Tree.mk x0.op x0.n x0.parts) []).bind fun y1=>
 w0 y0 (y1.length:Int) (0:Int) c0 (0:Int) (0:Int) ([]:(List (ByteArray×Tree))) ([]:LY) y1
def f60_1.b {R:Type} (L N:Nat) (self60_1:(List (ByteArray×Tree))→Tree→Option (Tree×Bool×(List (ByteArray×Tree)))) (k:Tree→Bool→(List (ByteArray×Tree))→Option R) (c0:(List (ByteArray×Tree))) (x0:Tree):Option R:=
 f60_1.b' L N self60_1 k (fun s2 s3 s4 s5 s6 s7 s8 s9 s10=>f60_1.l0 L N self60_1 (fun z11 z12 z13 z14 z15 z16=>f60_1.p0_e0 L N self60_1 k z11 z12 z13 z14 z15 z16) (fun z18 z19 z20 z21 z22 z23 z24=>f60_1.p0_r L N self60_1 k z18 z19 z20 z21 z22 z23 z24) L s2 s3 s4 s5 s6 s7 s8 s9 s10) c0 x0
def f60_1 (L N:Nat):Nat→(List (ByteArray×Tree))→Tree→Option (Tree×Bool×(List (ByteArray×Tree)))
 |0,_,_=>none
 |n+1,c0,x0=>f60_1.b L N (f60_1 L N n) (fun a0 a1 a2=>some (a0,a1,a2)) c0 x0
def f60_1.ent (L N m:Nat) (args:List AV) (vw:View) (_:Nat):Option Ans:=match mutDM .str (.st 1) [(.sh (.dat (.st 1))),(.mmp 0)] vw args with
 |some (o,d0,d,u)=>some ⟨Tree×Bool×(List (ByteArray×Tree)),f60_1 L N m d0 d.1,fun y=>((.tup [(.tv (.st 1) y.1),(.tv .bool y.2.1)]),u++[(o,some (.map .str (.st 1) y.2.2))],[])⟩
 |none=>none
def Φ60_1s (L N m:Nat):Tells:=(addO (Φ96 L N) 60 (f60_1.ent L N m))
noncomputable def E60_1 (L N m:Nat):Env:={P:=Tryz.prog,ty:=tyOf,Φ:=Φ60_1s L N m,inl:=inlT,live:=lives,liveX:=livesX,L:=L,dp:=none,prom:=promT,heal:=healT,ren:=renT}
noncomputable def f60_1.c0:Code:=loopAt 0 (codeOf Tryz.f60)
def f60_1.X0_e0 {R:Type} (κ:KX R):=fun z11 z12 z13 z14 z15 z16=>κ (.exit 0) (f60_1.T0_e0 z11 z12 z13 z14 z15 z16) (f60_1.H0_e0 z11 z12 z13 z14 z15 z16)
def f60_1.X0_r {R:Type} (κ:KX R):=fun z18 z19 z20 z21 z22 z23 z24=>κ .ret (f60_1.T0_r z18 z19 z20 z21 z22 z23 z24) (f60_1.H0_r z18 z19 z20 z21 z22 z23 z24)
def f60_1.R0 {R:Type} (rec:KT R):=fun s2 s3 s4 s5 s6 s7 s8 s9 s10=>rec (f60_1.T0 s2 s3 s4 s5 s6 s7 s8 s9 s10) (f60_1.H0 s2 s3 s4 s5 s6 s7 s8 s9 s10)
theorem f60_1.s0_eq {R:Type} (L N m:Nat) (κ:KX R) (rec:KT R) (s2:ByteArray) (s3:Int) (s4:Int) (s5:(List (ByteArray×Tree))) (s6:Int) (s7:Int) (s8:(List (ByteArray×Tree))) (s9:LY) (s10:LS):
  evRd (E60_1 L N m) (evCallI (E60_1 L N m) 0 1000) 1000 60 99 0 f60_1.c0 κ rec (f60_1.T0 s2 s3 s4 s5 s6 s7 s8 s9 s10) (f60_1.H0 s2 s3 s4 s5 s6 s7 s8 s9 s10)
  =f60_1.s0 L N (f60_1 L N m) (f60_1.X0_e0 κ) (f60_1.X0_r κ) (f60_1.R0 rec) s2 s3 s4 s5 s6 s7 s8 s9 s10:=by kernel_rfl
theorem f60_1.l0_eq {R:Type} (L N m:Nat) (κ:KX R):∀(n:Nat) (s2:ByteArray) (s3:Int) (s4:Int) (s5:(List (ByteArray×Tree))) (s6:Int) (s7:Int) (s8:(List (ByteArray×Tree))) (s9:LY) (s10:LS),
  evLp (E60_1 L N m) (evCallI (E60_1 L N m) 0 1000) 1000 60 99 0 f60_1.c0 κ n (f60_1.T0 s2 s3 s4 s5 s6 s7 s8 s9 s10) (f60_1.H0 s2 s3 s4 s5 s6 s7 s8 s9 s10)
  =f60_1.l0 L N (f60_1 L N m) (f60_1.X0_e0 κ) (f60_1.X0_r κ) n s2 s3 s4 s5 s6 s7 s8 s9 s10:=by
 intro n
 induction n with
 |zero=>intros;rfl
 |succ n ih=>
  intro s2 s3 s4 s5 s6 s7 s8 s9 s10
  rw [evLp_succ,f60_1.s0_eq]
  delta f60_1.R0
  simp only [ih]
  rfl
noncomputable def f60_1.c1:Code:=loopAt 2 (codeOf Tryz.f60)
def f60_1.X1_e2 {R:Type} (κ:KX R):=fun z46 z47 z48 z49 z50=>κ (.exit 2) (f60_1.T1_e2 z46 z47 z48 z49 z50) (f60_1.H1_e2 z46 z47 z48 z49 z50)
def f60_1.R1 {R:Type} (rec:KT R):=fun s37 s38 s39 s40 s41 s42 s43 s44 s45=>rec (f60_1.T1 s37 s38 s39 s40 s41 s42 s43 s44 s45) (f60_1.H1 s37 s38 s39 s40 s41 s42 s43 s44 s45)
theorem f60_1.s1_eq {R:Type} (L N m:Nat) (κ:KX R) (rec:KT R) (s37:ByteArray) (s38:Int) (s39:Int) (s40:(List (ByteArray×Tree))) (s41:Int) (s42:Int) (s43:(List (ByteArray×Tree))) (s44:LY) (s45:LT):
  evRd (E60_1 L N m) (evCallI (E60_1 L N m) 0 1000) 1000 60 99 2 f60_1.c1 κ rec (f60_1.T1 s37 s38 s39 s40 s41 s42 s43 s44 s45) (f60_1.H1 s37 s38 s39 s40 s41 s42 s43 s44 s45)
  =f60_1.s1 L N (f60_1 L N m) (f60_1.X1_e2 κ) (f60_1.R1 rec) s37 s38 s39 s40 s41 s42 s43 s44 s45:=by kernel_rfl
theorem f60_1.l1_eq {R:Type} (L N m:Nat) (κ:KX R):∀(n:Nat) (s37:ByteArray) (s38:Int) (s39:Int) (s40:(List (ByteArray×Tree))) (s41:Int) (s42:Int) (s43:(List (ByteArray×Tree))) (s44:LY) (s45:LT),
  evLp (E60_1 L N m) (evCallI (E60_1 L N m) 0 1000) 1000 60 99 2 f60_1.c1 κ n (f60_1.T1 s37 s38 s39 s40 s41 s42 s43 s44 s45) (f60_1.H1 s37 s38 s39 s40 s41 s42 s43 s44 s45)
  =f60_1.l1 L N (f60_1 L N m) (f60_1.X1_e2 κ) n s37 s38 s39 s40 s41 s42 s43 s44 s45:=by
 intro n
 induction n with
 |zero=>intros;rfl
 |succ n ih=>
  intro s37 s38 s39 s40 s41 s42 s43 s44 s45
  rw [evLp_succ,f60_1.s1_eq]
  delta f60_1.R1
  simp only [ih]
  rfl
theorem f60_1.p1_e2_eq {R:Type} (L N m:Nat) (κ:AV→(List (ByteArray×Tree))→Option R) (z46:ByteArray) (z47:(List (ByteArray×Tree))) (z48:Int) (z49:Int) (z50:LT):
  (contAt (E60_1 L N m) (evCallI (E60_1 L N m) 0 1000) 1000 60 99 2 (codeOf Tryz.f60) (finK (E60_1 L N m) 1000 Tryz.f60 (finMM (.many [(.st 1),.bool]) .str (.st 1) κ))) (.exit 2) (f60_1.T1_e2 z46 z47 z48 z49 z50) (f60_1.H1_e2 z46 z47 z48 z49 z50)
  =f60_1.p1_e2 L N (f60_1 L N m) (fun a0 a1 a2=>κ (.tup [(.tv (.st 1) a0),(.tv .bool a1)]) a2) z46 z47 z48 z49 z50:=by kernel_rfl
theorem f60_1.p0_e0_eq {R:Type} (L N m:Nat) (κ:AV→(List (ByteArray×Tree))→Option R) (z11:ByteArray) (z12:(List (ByteArray×Tree))) (z13:Int) (z14:Int) (z15:(List (ByteArray×Tree))) (z16:LY):
  (contAt (E60_1 L N m) (evCallI (E60_1 L N m) 0 1000) 1000 60 99 0 (codeOf Tryz.f60) (finK (E60_1 L N m) 1000 Tryz.f60 (finMM (.many [(.st 1),.bool]) .str (.st 1) κ))) (.exit 0) (f60_1.T0_e0 z11 z12 z13 z14 z15 z16) (f60_1.H0_e0 z11 z12 z13 z14 z15 z16)
  =f60_1.p0_e0 L N (f60_1 L N m) (fun a0 a1 a2=>κ (.tup [(.tv (.st 1) a0),(.tv .bool a1)]) a2) z11 z12 z13 z14 z15 z16:=by
 refine Eq.trans (b:=f60_1.p0_e0' L N (f60_1 L N m) (fun a0 a1 a2=>κ (.tup [(.tv (.st 1) a0),(.tv .bool a1)]) a2) (fun s37 s38 s39 s40 s41 s42 s43 s44 s45=>evLp (E60_1 L N m) (evCallI (E60_1 L N m) 0 1000) 1000 60 99 2 f60_1.c1 (contAt (E60_1 L N m) (evCallI (E60_1 L N m) 0 1000) 1000 60 99 2 (codeOf Tryz.f60) (finK (E60_1 L N m) 1000 Tryz.f60 (finMM (.many [(.st 1),.bool]) .str (.st 1) κ))) L (f60_1.T1 s37 s38 s39 s40 s41 s42 s43 s44 s45) (f60_1.H1 s37 s38 s39 s40 s41 s42 s43 s44 s45)) z11 z12 z13 z14 z15 z16) (by kernel_rfl) ?_
 unfold f60_1.p0_e0
 simp only [f60_1.l1_eq]
 delta f60_1.X1_e2
 simp only [f60_1.p1_e2_eq]
theorem f60_1.p0_r_eq {R:Type} (L N m:Nat) (κ:AV→(List (ByteArray×Tree))→Option R) (z18:Bool) (z19:ByteArray) (z20:(List (ByteArray×Tree))) (z21:Int) (z22:Int) (z23:(List (ByteArray×Tree))) (z24:LY):
  (contAt (E60_1 L N m) (evCallI (E60_1 L N m) 0 1000) 1000 60 99 0 (codeOf Tryz.f60) (finK (E60_1 L N m) 1000 Tryz.f60 (finMM (.many [(.st 1),.bool]) .str (.st 1) κ))) .ret (f60_1.T0_r z18 z19 z20 z21 z22 z23 z24) (f60_1.H0_r z18 z19 z20 z21 z22 z23 z24)
  =f60_1.p0_r L N (f60_1 L N m) (fun a0 a1 a2=>κ (.tup [(.tv (.st 1) a0),(.tv .bool a1)]) a2) z18 z19 z20 z21 z22 z23 z24:=by kernel_rfl
theorem f60_1.b_eq {R:Type} (L N m:Nat) (κ:AV→(List (ByteArray×Tree))→Option R) (c0:(List (ByteArray×Tree))) (x0:Tree):
  evBody (E60_1 L N m) (evCallI (E60_1 L N m) 0 1000) 1000 60 Tryz.f60 [(.tv (.st 1) x0),(.mp 0)] [.mp 0] [(0,(.map .str (.st 1) c0))] (finMM (.many [(.st 1),.bool]) .str (.st 1) κ)
  =f60_1.b L N (f60_1 L N m) (fun a0 a1 a2=>κ (.tup [(.tv (.st 1) a0),(.tv .bool a1)]) a2) c0 x0:=by
 refine Eq.trans (b:=f60_1.b' L N (f60_1 L N m) (fun a0 a1 a2=>κ (.tup [(.tv (.st 1) a0),(.tv .bool a1)]) a2) (fun s2 s3 s4 s5 s6 s7 s8 s9 s10=>evLp (E60_1 L N m) (evCallI (E60_1 L N m) 0 1000) 1000 60 99 0 f60_1.c0 (contAt (E60_1 L N m) (evCallI (E60_1 L N m) 0 1000) 1000 60 99 0 (codeOf Tryz.f60) (finK (E60_1 L N m) 1000 Tryz.f60 (finMM (.many [(.st 1),.bool]) .str (.st 1) κ))) L (f60_1.T0 s2 s3 s4 s5 s6 s7 s8 s9 s10) (f60_1.H0 s2 s3 s4 s5 s6 s7 s8 s9 s10)) c0 x0) (by kernel_rfl) ?_
 unfold f60_1.b
 simp only [f60_1.l0_eq]
 delta f60_1.X0_e0 f60_1.X0_r
 simp only [f60_1.p0_e0_eq,f60_1.p0_r_eq]
theorem f60_1.ok (L N m:Nat) (hΦ:TellsOk Tryz.prog (Φ60_1s L N m)):EntOkO Tryz.prog 60 (f60_1.ent L N (m+1)):=by
 intro args vw site h a ha
 unfold f60_1.ent at ha
 split at ha
 ·rename_i o d0 d u hd
  obtain rfl:=Option.some.inj ha
  intro y hy hs
  obtain ⟨ho,hr⟩:=mutDM_some hd
  refine call_mutM (y:=y) (dep:=1000) (v':=(.tup [(.tv (.st 1) y.1),(.tv .bool y.2.1)])) (d1:=y.2.2) (E:=(E60_1 L N m)) (kt:=.str) (vt:=(.st 1)) (rs:=(.many [(.st 1),.bool])) (κ:=(fun v d=>(unR (.many [(.st 1),.bool]) v).bind fun x=>some (x.1,x.2,d))) (sound_of hΦ) okP (callI_sound (sound_of hΦ) okP 0 1000) (f:=Tryz.f60) rfl hs ho hr ?_ (fun _ _ h=>by obtain ⟨x,h1,h2⟩:=unR_bind h;obtain rfl:=Option.some.inj h2;exact ⟨h1,rfl⟩) site
  exact (f60_1.b_eq L N m (fun v d=>(unR (.many [(.st 1),.bool]) v).bind fun x=>some (x.1,x.2,d)) d0 d.1).trans (Eq.trans (b:=f60_1.b L N (f60_1 L N m) (fun a0 a1 a2=>some (a0,a1,a2)) d0 d.1) (by kernel_rfl) hy)
 ·cases ha
theorem Φ60_1s_ok (L N:Nat):∀m,TellsOk Tryz.prog (Φ60_1s L N m):=by
 intro m
 induction m with
 |zero=>exact (addO_ok (Φ96_ok L N) (fun args vw site h a ha=>by unfold f60_1.ent at ha;split at ha<;>first|(cases ha;done)|(obtain rfl:=Option.some.inj ha;intro y hy;cases hy)))
 |succ m ih=>exact (addO_ok (Φ96_ok L N) (f60_1.ok L N m ih))
def Φ60_1 (L N:Nat):Tells:=(addO (Φ96 L N) 60 (f60_1.ent L N N))
theorem Φ60_1_ok (L N:Nat):TellsOk Tryz.prog (Φ60_1 L N):=Φ60_1s_ok L N N
def f23.j0' {R:Type} (L N:Nat) (k:Tree→Bool→Option R) (v8:Int) (v9:Int) (v10:LT) (v11:Int) (v12:Int):Option R:=
 (f60_1 L N N ([]:(List (ByteArray×Tree))) (Tree.mk v8 v9 v10)).bind fun y13=>
 bif (!y13.2.1) then
  k (Tree.mk (0:Int) (0:Int) []) false
 else (f52 L N N (Tree.mk y13.1.op y13.1.n y13.1.parts)).bind fun y14=>
 k (Tree.mk y14.op y14.n y14.parts) true
def f23.b' {R:Type} (L N:Nat) (k:Tree→Bool→Option R) (x0:Tree):Option R:=
 (f50 L N (Tree.mk x0.op x0.n x0.parts)).bind fun y0=>
 bif (!y0) then
  k (Tree.mk (0:Int) (0:Int) []) false
 else (f59 L N N (Tree.mk x0.op x0.n x0.parts)).bind fun y1=>
 bif (!y1) then
  k (Tree.mk (0:Int) (0:Int) []) false
 else f23.j0' L N k x0.op x0.n x0.parts (0:Int) (0:Int)
def f23.b {R:Type} (L N:Nat) (k:Tree→Bool→Option R) (x0:Tree):Option R:=
 f23.b' L N k x0
def f23 (L N:Nat) (x0:Tree):Option (Tree×Bool):=f23.b L N (fun a0 a1=>some (a0,a1)) x0
def f23.ent (L N:Nat):=entDa [(.st 1)] (.many [(.st 1),.bool]) fun d=>f23 L N d.1
noncomputable def E23 (L N:Nat):Env:={P:=Tryz.prog,ty:=tyOf,Φ:=(Φ60_1 L N),inl:=inlT,live:=lives,liveX:=livesX,L:=L,dp:=none,prom:=promT,heal:=healT,ren:=renT}
theorem f23.b_eq {R:Type} (L N:Nat) (κ:AV→Option R) (x0:Tree):
  evBody (E23 L N) (evCallI (E23 L N) 0 1000) 1000 23 Tryz.f23 [(.tv (.st 1) x0)] [] [] (finC (.many [(.st 1),.bool]) κ)
  =f23.b L N (fun a0 a1=>κ (.tup [(.tv (.st 1) a0),(.tv .bool a1)])) x0:=by kernel_rfl
theorem f23.ok (L N:Nat) (hΦ:TellsOk Tryz.prog ((Φ60_1 L N))):EntOk Tryz.prog 23 (f23.ent L N):=entDa_ok (E:=(E23 L N)) (dep:=1000) (f:=Tryz.f23) (sound_of hΦ) okP (callI_sound (sound_of hΦ) okP 0 1000) rfl fun d _ hy=>(f23.b_eq L N (unR (.many [(.st 1),.bool])) d.1).trans (Eq.trans (b:=f23.b L N (fun a0 a1=>some (a0,a1)) d.1) (by kernel_rfl) hy)
def Φ23 (L N:Nat):Tells:=(addT (Φ60_1 L N) 23 (f23.ent L N))
theorem Φ23_ok (L N:Nat):TellsOk Tryz.prog (Φ23 L N):=addT_ok (Φ60_1_ok L N) (f23.ok L N (Φ60_1_ok L N))
def f54.b' {R:Type} (L N:Nat) (k:Bool→Option R) (x0:Int) (x1:Int) (x2:Int):Option R:=
 bif (decide (x0≥x1)) then
  k (decide (x0≤x2))
 else k false
def f54.b {R:Type} (L N:Nat) (k:Bool→Option R) (x0:Int) (x1:Int) (x2:Int):Option R:=
 f54.b' L N k x0 x1 x2
def f54 (L N:Nat) (x0:Int) (x1:Int) (x2:Int):Option (Bool):=f54.b L N some x0 x1 x2
def f54.ent (L N:Nat):=entRo [i64,i64,i64] (.one .bool) fun d=>f54 L N d.1 d.2.1 d.2.2.1
noncomputable def E54 (L N:Nat):Env:={P:=Tryz.prog,ty:=tyOf,Φ:=(Φ23 L N),inl:=inlT,live:=lives,liveX:=livesX,L:=L,dp:=none,prom:=promT,heal:=healT,ren:=renT}
theorem f54.b_eq {R:Type} (L N:Nat) (κ:AV→Option R) (x0:Int) (x1:Int) (x2:Int):
  evBody (E54 L N) (evCallI (E54 L N) 0 1000) 1000 54 Tryz.f54 [(.tv i64 x0),(.tv i64 x1),(.tv i64 x2)] [] [] (finC (.one .bool) κ)
  =f54.b L N (fun a0=>κ (.tv .bool a0)) x0 x1 x2:=by kernel_rfl
theorem f54.ok (L N:Nat) (hΦ:TellsOk Tryz.prog ((Φ23 L N))):EntOk Tryz.prog 54 (f54.ent L N):=entRo_ok (E:=(E54 L N)) (dep:=1000) (f:=Tryz.f54) (sound_of hΦ) okP (callI_sound (sound_of hΦ) okP 0 1000) rfl rfl fun d _ hy=>(f54.b_eq L N (unR (.one .bool)) d.1 d.2.1 d.2.2.1).trans (Eq.trans (b:=f54.b L N some d.1 d.2.1 d.2.2.1) (by kernel_rfl) hy)
def Φ54 (L N:Nat):Tells:=(addT (Φ23 L N) 54 (f54.ent L N))
theorem Φ54_ok (L N:Nat):TellsOk Tryz.prog (Φ54 L N):=addT_ok (Φ23_ok L N) (f54.ok L N (Φ23_ok L N))
def f118.b' {R:Type} (L N:Nat) (k:Bool→Option R) (x0:Int):Option R:=
 (f54 L N x0 (-4:Int) (4:Int)).bind fun y0=>
 k y0
def f118.b {R:Type} (L N:Nat) (k:Bool→Option R) (x0:Int):Option R:=
 f118.b' L N k x0
def f118 (L N:Nat) (x0:Int):Option (Bool):=f118.b L N some x0
def f118.ent (L N:Nat):=entRo [i64] (.one .bool) fun d=>f118 L N d.1
noncomputable def E118 (L N:Nat):Env:={P:=Tryz.prog,ty:=tyOf,Φ:=(Φ54 L N),inl:=inlT,live:=lives,liveX:=livesX,L:=L,dp:=none,prom:=promT,heal:=healT,ren:=renT}
theorem f118.b_eq {R:Type} (L N:Nat) (κ:AV→Option R) (x0:Int):
  evBody (E118 L N) (evCallI (E118 L N) 0 1000) 1000 118 Tryz.f118 [(.tv i64 x0)] [] [] (finC (.one .bool) κ)
  =f118.b L N (fun a0=>κ (.tv .bool a0)) x0:=by kernel_rfl
theorem f118.ok (L N:Nat) (hΦ:TellsOk Tryz.prog ((Φ54 L N))):EntOk Tryz.prog 118 (f118.ent L N):=entRo_ok (E:=(E118 L N)) (dep:=1000) (f:=Tryz.f118) (sound_of hΦ) okP (callI_sound (sound_of hΦ) okP 0 1000) rfl rfl fun d _ hy=>(f118.b_eq L N (unR (.one .bool)) d.1).trans (Eq.trans (b:=f118.b L N some d.1) (by kernel_rfl) hy)
def Φ118 (L N:Nat):Tells:=(addT (Φ54 L N) 118 (f118.ent L N))
theorem Φ118_ok (L N:Nat):TellsOk Tryz.prog (Φ118 L N):=addT_ok (Φ54_ok L N) (f118.ok L N (Φ54_ok L N))
def f85.s0' {R:Type} (L N:Nat) (self85:Tree→Option (Int)) (k0_e1:Int→Option R) (k0_r:Int→Int→Option R) (rec0:Int→Int→Int→Int→Int→LT→Option R) (s24:Int) (s25:Int) (s26:Int) (s27:Int) (s28:Int) (s29:LT):Option R:=
 bif (decide (s26<s24)) then
  bif (decide (0≤s26)&&decide (s26<(s29.length:Int))) then
   (self85 (listAt s29 (Ty.dflt (.st 1)) s26.toNat)).bind fun y31=>
   bif (y31==(0:Int)) then
    k0_r (0:Int) s25
   else rec0 s24 (bif decide ((wi (s25+y31))<(1000:Int)) then (wi (s25+y31)) else (1000:Int)) (wi (s26+(1:Int))) s27 s28 s29
  else none
 else k0_e1 s25
def f85.s0 {R:Type} (L N:Nat) (self85:Tree→Option (Int)) (k0_e1:Int→Option R) (k0_r:Int→Int→Option R) (rec0:Int→Int→Int→Int→Int→LT→Option R) (s24:Int) (s25:Int) (s26:Int) (s27:Int) (s28:Int) (s29:LT):Option R:=
 f85.s0' L N self85 k0_e1 k0_r rec0 s24 s25 s26 s27 s28 s29
def f85.l0 {R:Type} (L N:Nat) (self85:Tree→Option (Int)) (k0_e1:Int→Option R) (k0_r:Int→Int→Option R):Nat→Int→Int→Int→Int→Int→LT→Option R
 |0,_,_,_,_,_,_=>none
 |n+1,s24,s25,s26,s27,s28,s29=>f85.s0 L N self85 k0_e1 k0_r (f85.l0 L N self85 k0_e1 k0_r n) s24 s25 s26 s27 s28 s29
def f85.T0 (s24:Int) (s25:Int) (s26:Int) (s27:Int) (s28:Int) (s29:LT):T:=mkT 60 [(1,(.ptr 1001 0)),(3,(.tv i64 s24)),(5,(.tv i64 s25)),(6,(.tv i64 s26))]
def f85.H0 (s24:Int) (s25:Int) (s26:Int) (s27:Int) (s28:Int) (s29:LT):H:=[(1001,(.box [(.tv i64 s27),(.tv i64 s28),(.tv (.sl (.st 1)) s29)]))]
def f85.T0_e1 (z30:Int):T:=mkT 60 [(5,(.tv i64 z30))]
def f85.H0_e1 (z30:Int):H:=[]
def f85.T0_r (z32:Int) (z33:Int):T:=mkT 60 [(2,(.tv i64 z32)),(5,(.tv i64 z33))]
def f85.H0_r (z32:Int) (z33:Int):H:=[]
def f85.p0_e1' {R:Type} (L N:Nat) (self85:Tree→Option (Int)) (k:Int→Option R) (z30:Int):Option R:=
 k z30
def f85.p0_e1 {R:Type} (L N:Nat) (self85:Tree→Option (Int)) (k:Int→Option R) (z30:Int):Option R:=
 f85.p0_e1' L N self85 k z30
def f85.p0_r' {R:Type} (L N:Nat) (self85:Tree→Option (Int)) (k:Int→Option R) (z32:Int) (z33:Int):Option R:=
 k z32
def f85.p0_r {R:Type} (L N:Nat) (self85:Tree→Option (Int)) (k:Int→Option R) (z32:Int) (z33:Int):Option R:=
 f85.p0_r' L N self85 k z32 z33
def f85.j1' {R:Type} (L N:Nat) (self85:Tree→Option (Int)) (k:Int→Option R) (w0:Int→Int→Int→Int→Int→LT→Option R) (v20:Int) (v21:Int) (v22:Int) (v23:LT):Option R:=
 w0 v20 (1:Int) (0:Int) v21 v22 v23
def f85.j2' {R:Type} (L N:Nat) (self85:Tree→Option (Int)) (k:Int→Option R) (w0:Int→Int→Int→Int→Int→LT→Option R) (v10:Int) (v11:Bool) (v12:Int) (v13:Int) (v14:LT):Option R:=
 bif (!v11) then
  k (0:Int)
 else bif ((v14.length:Int) !=v10) then
  k (0:Int)
 else f85.j1' L N self85 k w0 v10 v12 v13 v14
def f85.j0' {R:Type} (L N:Nat) (self85:Tree→Option (Int)) (k:Int→Option R) (w0:Int→Int→Int→Int→Int→LT→Option R) (v1:Int) (v2:Bool) (v3:Int) (v4:Bool) (v5:Int) (v6:Int) (v7:LT):Option R:=
 bif v4 then
  f85.j2' L N self85 k w0 (2:Int) v2 v5 v6 v7
 else bif (v3==(4:Int)) then
  (f54 L N v6 (0:Int) (3:Int)).bind fun y8=>
  f85.j2' L N self85 k w0 (1:Int) y8 v5 v6 v7
 else bif (v3==(5:Int)) then
  (f54 L N v6 (0:Int) (2:Int)).bind fun y9=>
  f85.j2' L N self85 k w0 v1 y9 v5 v6 v7
 else f85.j2' L N self85 k w0 v1 false v5 v6 v7
def f85.b' {R:Type} (L N:Nat) (self85:Tree→Option (Int)) (k:Int→Option R) (w0:Int→Int→Int→Int→Int→LT→Option R) (x0:Tree):Option R:=
 bif (x0.op==(0:Int)) then
  f85.j2' L N self85 k w0 (0:Int) (x0.n==(0:Int)) x0.op x0.n x0.parts
 else bif (x0.op==(1:Int)) then
  (f118 L N x0.n).bind fun y0=>
  f85.j2' L N self85 k w0 (1:Int) y0 x0.op x0.n x0.parts
 else bif (x0.op==(2:Int)) then
  f85.j0' L N self85 k w0 (0:Int) (x0.n==(0:Int)) x0.op (x0.op==(2:Int)) x0.op x0.n x0.parts
 else f85.j0' L N self85 k w0 (0:Int) (x0.n==(0:Int)) x0.op (x0.op==(3:Int)) x0.op x0.n x0.parts
def f85.b {R:Type} (L N:Nat) (self85:Tree→Option (Int)) (k:Int→Option R) (x0:Tree):Option R:=
 f85.b' L N self85 k (fun s24 s25 s26 s27 s28 s29=>f85.l0 L N self85 (fun z30=>f85.p0_e1 L N self85 k z30) (fun z32 z33=>f85.p0_r L N self85 k z32 z33) L s24 s25 s26 s27 s28 s29) x0
def f85 (L N:Nat):Nat→Tree→Option (Int)
 |0,_=>none
 |n+1,x0=>f85.b L N (f85 L N n) some x0
def f85.ent (L N m:Nat):=entRo [(.st 1)] (.one i64) fun d=>f85 L N m d.1
def Φ85s (L N m:Nat):Tells:=(addT (Φ118 L N) 85 (f85.ent L N m))
noncomputable def E85 (L N m:Nat):Env:={P:=Tryz.prog,ty:=tyOf,Φ:=Φ85s L N m,inl:=inlT,live:=lives,liveX:=livesX,L:=L,dp:=none,prom:=promT,heal:=healT,ren:=renT}
noncomputable def f85.c0:Code:=loopAt 1 (codeOf Tryz.f85)
def f85.X0_e1 {R:Type} (κ:KX R):=fun z30=>κ (.exit 1) (f85.T0_e1 z30) (f85.H0_e1 z30)
def f85.X0_r {R:Type} (κ:KX R):=fun z32 z33=>κ .ret (f85.T0_r z32 z33) (f85.H0_r z32 z33)
def f85.R0 {R:Type} (rec:KT R):=fun s24 s25 s26 s27 s28 s29=>rec (f85.T0 s24 s25 s26 s27 s28 s29) (f85.H0 s24 s25 s26 s27 s28 s29)
theorem f85.s0_eq {R:Type} (L N m:Nat) (κ:KX R) (rec:KT R) (s24:Int) (s25:Int) (s26:Int) (s27:Int) (s28:Int) (s29:LT):
  evRd (E85 L N m) (evCallI (E85 L N m) 0 1000) 1000 85 60 1 f85.c0 κ rec (f85.T0 s24 s25 s26 s27 s28 s29) (f85.H0 s24 s25 s26 s27 s28 s29)
  =f85.s0 L N (f85 L N m) (f85.X0_e1 κ) (f85.X0_r κ) (f85.R0 rec) s24 s25 s26 s27 s28 s29:=by kernel_rfl
theorem f85.l0_eq {R:Type} (L N m:Nat) (κ:KX R):∀(n:Nat) (s24:Int) (s25:Int) (s26:Int) (s27:Int) (s28:Int) (s29:LT),
  evLp (E85 L N m) (evCallI (E85 L N m) 0 1000) 1000 85 60 1 f85.c0 κ n (f85.T0 s24 s25 s26 s27 s28 s29) (f85.H0 s24 s25 s26 s27 s28 s29)
  =f85.l0 L N (f85 L N m) (f85.X0_e1 κ) (f85.X0_r κ) n s24 s25 s26 s27 s28 s29:=by
 intro n
 induction n with
 |zero=>intros;rfl
 |succ n ih=>
  intro s24 s25 s26 s27 s28 s29
  rw [evLp_succ,f85.s0_eq]
  delta f85.R0
  simp only [ih]
  rfl
theorem f85.p0_e1_eq {R:Type} (L N m:Nat) (κ:AV→Option R) (z30:Int):
  (contAt (E85 L N m) (evCallI (E85 L N m) 0 1000) 1000 85 60 1 (codeOf Tryz.f85) (finK (E85 L N m) 1000 Tryz.f85 (finC (.one i64) κ))) (.exit 1) (f85.T0_e1 z30) (f85.H0_e1 z30)
  =f85.p0_e1 L N (f85 L N m) (fun a0=>κ (.tv i64 a0)) z30:=by kernel_rfl
theorem f85.p0_r_eq {R:Type} (L N m:Nat) (κ:AV→Option R) (z32:Int) (z33:Int):
  (contAt (E85 L N m) (evCallI (E85 L N m) 0 1000) 1000 85 60 1 (codeOf Tryz.f85) (finK (E85 L N m) 1000 Tryz.f85 (finC (.one i64) κ))) .ret (f85.T0_r z32 z33) (f85.H0_r z32 z33)
  =f85.p0_r L N (f85 L N m) (fun a0=>κ (.tv i64 a0)) z32 z33:=by kernel_rfl
theorem f85.b_eq {R:Type} (L N m:Nat) (κ:AV→Option R) (x0:Tree):
  evBody (E85 L N m) (evCallI (E85 L N m) 0 1000) 1000 85 Tryz.f85 [(.tv (.st 1) x0)] [] [] (finC (.one i64) κ)
  =f85.b L N (f85 L N m) (fun a0=>κ (.tv i64 a0)) x0:=by
 refine Eq.trans (b:=f85.b' L N (f85 L N m) (fun a0=>κ (.tv i64 a0)) (fun s24 s25 s26 s27 s28 s29=>evLp (E85 L N m) (evCallI (E85 L N m) 0 1000) 1000 85 60 1 f85.c0 (contAt (E85 L N m) (evCallI (E85 L N m) 0 1000) 1000 85 60 1 (codeOf Tryz.f85) (finK (E85 L N m) 1000 Tryz.f85 (finC (.one i64) κ))) L (f85.T0 s24 s25 s26 s27 s28 s29) (f85.H0 s24 s25 s26 s27 s28 s29)) x0) (by kernel_rfl) ?_
 unfold f85.b
 simp only [f85.l0_eq]
 delta f85.X0_e1 f85.X0_r
 simp only [f85.p0_e1_eq,f85.p0_r_eq]
theorem f85.ok (L N m:Nat) (hΦ:TellsOk Tryz.prog (Φ85s L N m)):EntOk Tryz.prog 85 (f85.ent L N (m+1)):=entRo_ok (E:=(E85 L N m)) (dep:=1000) (f:=Tryz.f85) (sound_of hΦ) okP (callI_sound (sound_of hΦ) okP 0 1000) rfl rfl fun d _ hy=>(f85.b_eq L N m (unR (.one i64)) d.1).trans (Eq.trans (b:=f85.b L N (f85 L N m) some d.1) (by kernel_rfl) hy)
theorem Φ85s_ok (L N:Nat):∀m,TellsOk Tryz.prog (Φ85s L N m):=by
 intro m
 induction m with
 |zero=>exact (addT_ok (Φ118_ok L N) (entRo_no fun _=>rfl))
 |succ m ih=>exact (addT_ok (Φ118_ok L N) (f85.ok L N m ih))
def Φ85 (L N:Nat):Tells:=(addT (Φ118 L N) 85 (f85.ent L N N))
theorem Φ85_ok (L N:Nat):TellsOk Tryz.prog (Φ85 L N):=Φ85s_ok L N N
def f53.b' {R:Type} (L N:Nat) (k:Bool→Option R) (x0:Tree):Option R:=
 (f85 L N N (Tree.mk x0.op x0.n x0.parts)).bind fun y0=>
 (f54 L N y0 (1:Int) (24:Int)).bind fun y1=>
 k y1
def f53.b {R:Type} (L N:Nat) (k:Bool→Option R) (x0:Tree):Option R:=
 f53.b' L N k x0
def f53 (L N:Nat) (x0:Tree):Option (Bool):=f53.b L N some x0
def f53.ent (L N:Nat):=entRo [(.st 1)] (.one .bool) fun d=>f53 L N d.1
noncomputable def E53 (L N:Nat):Env:={P:=Tryz.prog,ty:=tyOf,Φ:=(Φ85 L N),inl:=inlT,live:=lives,liveX:=livesX,L:=L,dp:=none,prom:=promT,heal:=healT,ren:=renT}
theorem f53.b_eq {R:Type} (L N:Nat) (κ:AV→Option R) (x0:Tree):
  evBody (E53 L N) (evCallI (E53 L N) 0 1000) 1000 53 Tryz.f53 [(.tv (.st 1) x0)] [] [] (finC (.one .bool) κ)
  =f53.b L N (fun a0=>κ (.tv .bool a0)) x0:=by kernel_rfl
theorem f53.ok (L N:Nat) (hΦ:TellsOk Tryz.prog ((Φ85 L N))):EntOk Tryz.prog 53 (f53.ent L N):=entRo_ok (E:=(E53 L N)) (dep:=1000) (f:=Tryz.f53) (sound_of hΦ) okP (callI_sound (sound_of hΦ) okP 0 1000) rfl rfl fun d _ hy=>(f53.b_eq L N (unR (.one .bool)) d.1).trans (Eq.trans (b:=f53.b L N some d.1) (by kernel_rfl) hy)
def Φ53 (L N:Nat):Tells:=(addT (Φ85 L N) 53 (f53.ent L N))
theorem Φ53_ok (L N:Nat):TellsOk Tryz.prog (Φ53 L N):=addT_ok (Φ85_ok L N) (f53.ok L N (Φ85_ok L N))
def f87.s0' {R:Type} (L N:Nat) (self87:Tree→LI→Option (Tree)) (k0_e1:Int→Int→Int→Int→LT→Option R) (rec0:LI→Int→Int→Int→LT→Int→Int→Int→Int→LT→Option R) (s26:LI) (s27:Int) (s28:Int) (s29:Int) (s30:LT) (s31:Int) (s32:Int) (s33:Int) (s34:Int) (s35:LT):Option R:=
 bif (decide (s27<(s30.length:Int))) then
  bif (decide (0≤s27)&&decide (s27<(s30.length:Int))) then
   (self87 (listAt s30 (Ty.dflt (.st 1)) s27.toNat) s26).bind fun y41=>
   bif (decide (s35.length+([y41]:LT).length≤lim)) then
    rec0 s26 (wi (s27+(1:Int))) s28 s29 s30 s31 s32 s33 s34 (s35++([y41]:LT))
   else none
  else none
 else k0_e1 s31 s32 s33 s34 s35
def f87.s0 {R:Type} (L N:Nat) (self87:Tree→LI→Option (Tree)) (k0_e1:Int→Int→Int→Int→LT→Option R) (rec0:LI→Int→Int→Int→LT→Int→Int→Int→Int→LT→Option R) (s26:LI) (s27:Int) (s28:Int) (s29:Int) (s30:LT) (s31:Int) (s32:Int) (s33:Int) (s34:Int) (s35:LT):Option R:=
 f87.s0' L N self87 k0_e1 rec0 s26 s27 s28 s29 s30 s31 s32 s33 s34 s35
def f87.l0 {R:Type} (L N:Nat) (self87:Tree→LI→Option (Tree)) (k0_e1:Int→Int→Int→Int→LT→Option R):Nat→LI→Int→Int→Int→LT→Int→Int→Int→Int→LT→Option R
 |0,_,_,_,_,_,_,_,_,_,_=>none
 |n+1,s26,s27,s28,s29,s30,s31,s32,s33,s34,s35=>f87.s0 L N self87 k0_e1 (f87.l0 L N self87 k0_e1 n) s26 s27 s28 s29 s30 s31 s32 s33 s34 s35
def f87.T0 (s26:LI) (s27:Int) (s28:Int) (s29:Int) (s30:LT) (s31:Int) (s32:Int) (s33:Int) (s34:Int) (s35:LT):T:=mkT 78 [(1,(.tv (.sl i64) s26)),(2,(.ptr 1002 0)),(4,(.ptr 1004 0)),(5,(.ptr 1005 0)),(6,(.tv i64 s27))]
def f87.H0 (s26:LI) (s27:Int) (s28:Int) (s29:Int) (s30:LT) (s31:Int) (s32:Int) (s33:Int) (s34:Int) (s35:LT):H:=[(1002,(.box [(.tv i64 s28),(.tv i64 s29),(.tv (.sl (.st 1)) s30)])),(1004,(.box [(.tv i64 s31),(.tv i64 s32),.nil])),(1005,(.box [(.tv i64 s33),(.tv i64 s34),(.row 1910)])),(1910,(.row 25 (.st 1) s35))]
def f87.T0_e1 (z36:Int) (z37:Int) (z38:Int) (z39:Int) (z40:LT):T:=mkT 78 [(4,(.ptr 1004 0)),(5,(.ptr 1005 0))]
def f87.H0_e1 (z36:Int) (z37:Int) (z38:Int) (z39:Int) (z40:LT):H:=[(1004,(.box [(.tv i64 z36),(.tv i64 z37),.nil])),(1005,(.box [(.tv i64 z38),(.tv i64 z39),(.row 1910)])),(1910,(.row 25 (.st 1) z40))]
def f87.p0_e1' {R:Type} (L N:Nat) (self87:Tree→LI→Option (Tree)) (k:Tree→Option R) (z36:Int) (z37:Int) (z38:Int) (z39:Int) (z40:LT):Option R:=
 k (Tree.mk z38 z39 z40)
def f87.p0_e1 {R:Type} (L N:Nat) (self87:Tree→LI→Option (Tree)) (k:Tree→Option R) (z36:Int) (z37:Int) (z38:Int) (z39:Int) (z40:LT):Option R:=
 f87.p0_e1' L N self87 k z36 z37 z38 z39 z40
def f87.j2' {R:Type} (L N:Nat) (self87:Tree→LI→Option (Tree)) (k:Tree→Option R) (w0:LI→Int→Int→Int→LT→Int→Int→Int→Int→LT→Option R) (v18:LI) (v19:Int) (v20:Int) (v21:LT) (v22:Int) (v23:Int) (v24:Int) (v25:Int):Option R:=
 w0 v18 (0:Int) v19 v20 v21 v22 v23 v24 v25 ([]:LT)
def f87.j0' {R:Type} (L N:Nat) (self87:Tree→LI→Option (Tree)) (k:Tree→Option R) (w0:LI→Int→Int→Int→LT→Int→Int→Int→Int→LT→Option R) (v9:LI) (v10:Bool) (v11:Int) (v12:Int) (v13:LT) (v14:Int) (v15:Int) (v16:Int) (v17:Int):Option R:=
 bif v10 then
  bif (decide (0≤(wi ((wi (0-v12))-(1:Int))))&&decide ((wi ((wi (0-v12))-(1:Int)))<(v9.length:Int))) then
   f87.j2' L N self87 k w0 v9 v11 v12 v13 v14 v15 v16 (wi (0-(wi ((listAt v9 (0:Int) (wi ((wi (0-v12))-(1:Int))).toNat)+(1:Int)))))
  else none
 else f87.j2' L N self87 k w0 v9 v11 v12 v13 v14 v15 v16 v17
def f87.j1' {R:Type} (L N:Nat) (self87:Tree→LI→Option (Tree)) (k:Tree→Option R) (w0:LI→Int→Int→Int→LT→Int→Int→Int→Int→LT→Option R) (v0:LI) (v1:Bool) (v2:Int) (v3:Int) (v4:LT) (v5:Int) (v6:Int) (v7:Int) (v8:Int):Option R:=
 bif v1 then
  bif (decide (0≤(wi (v3-(1:Int))))&&decide ((wi (v3-(1:Int)))<(v0.length:Int))) then
   f87.j2' L N self87 k w0 v0 v2 v3 v4 v5 v6 v7 (wi ((listAt v0 (0:Int) (wi (v3-(1:Int))).toNat)+(1:Int)))
  else none
 else bif (v2==(1:Int)) then
  f87.j0' L N self87 k w0 v0 (decide (v3<(0:Int))) v2 v3 v4 v5 v6 v7 v8
 else f87.j0' L N self87 k w0 v0 false v2 v3 v4 v5 v6 v7 v8
def f87.b' {R:Type} (L N:Nat) (self87:Tree→LI→Option (Tree)) (k:Tree→Option R) (w0:LI→Int→Int→Int→LT→Int→Int→Int→Int→LT→Option R) (x0:Tree) (x1:LI):Option R:=
 bif (x0.op==(4:Int)) then
  bif (decide (0≤x0.n)&&decide (x0.n<(x1.length:Int))) then
   f87.j2' L N self87 k w0 x1 x0.op x0.n x0.parts (0:Int) (0:Int) x0.op (listAt x1 (0:Int) x0.n.toNat)
  else none
 else bif (x0.op==(1:Int)) then
  f87.j1' L N self87 k w0 x1 (decide (x0.n>(0:Int))) x0.op x0.n x0.parts (0:Int) (0:Int) x0.op x0.n
 else f87.j1' L N self87 k w0 x1 false x0.op x0.n x0.parts (0:Int) (0:Int) x0.op x0.n
def f87.b {R:Type} (L N:Nat) (self87:Tree→LI→Option (Tree)) (k:Tree→Option R) (x0:Tree) (x1:LI):Option R:=
 f87.b' L N self87 k (fun s26 s27 s28 s29 s30 s31 s32 s33 s34 s35=>f87.l0 L N self87 (fun z36 z37 z38 z39 z40=>f87.p0_e1 L N self87 k z36 z37 z38 z39 z40) L s26 s27 s28 s29 s30 s31 s32 s33 s34 s35) x0 x1
def f87 (L N:Nat):Nat→Tree→LI→Option (Tree)
 |0,_,_=>none
 |n+1,x0,x1=>f87.b L N (f87 L N n) some x0 x1
def f87.ent (L N m:Nat):=entDa [(.st 1),(.sl i64)] (.one (.st 1)) fun d=>f87 L N m d.1 d.2.1
def Φ87s (L N m:Nat):Tells:=(addT (Φ53 L N) 87 (f87.ent L N m))
noncomputable def E87 (L N m:Nat):Env:={P:=Tryz.prog,ty:=tyOf,Φ:=Φ87s L N m,inl:=inlT,live:=lives,liveX:=livesX,L:=L,dp:=none,prom:=promT,heal:=healT,ren:=renT}
noncomputable def f87.c0:Code:=loopAt 1 (codeOf Tryz.f87)
def f87.X0_e1 {R:Type} (κ:KX R):=fun z36 z37 z38 z39 z40=>κ (.exit 1) (f87.T0_e1 z36 z37 z38 z39 z40) (f87.H0_e1 z36 z37 z38 z39 z40)
def f87.R0 {R:Type} (rec:KT R):=fun s26 s27 s28 s29 s30 s31 s32 s33 s34 s35=>rec (f87.T0 s26 s27 s28 s29 s30 s31 s32 s33 s34 s35) (f87.H0 s26 s27 s28 s29 s30 s31 s32 s33 s34 s35)
theorem f87.s0_eq {R:Type} (L N m:Nat) (κ:KX R) (rec:KT R) (s26:LI) (s27:Int) (s28:Int) (s29:Int) (s30:LT) (s31:Int) (s32:Int) (s33:Int) (s34:Int) (s35:LT):
  evRd (E87 L N m) (evCallI (E87 L N m) 0 1000) 1000 87 78 1 f87.c0 κ rec (f87.T0 s26 s27 s28 s29 s30 s31 s32 s33 s34 s35) (f87.H0 s26 s27 s28 s29 s30 s31 s32 s33 s34 s35)
  =f87.s0 L N (f87 L N m) (f87.X0_e1 κ) (f87.R0 rec) s26 s27 s28 s29 s30 s31 s32 s33 s34 s35:=by kernel_rfl
theorem f87.l0_eq {R:Type} (L N m:Nat) (κ:KX R):∀(n:Nat) (s26:LI) (s27:Int) (s28:Int) (s29:Int) (s30:LT) (s31:Int) (s32:Int) (s33:Int) (s34:Int) (s35:LT),
  evLp (E87 L N m) (evCallI (E87 L N m) 0 1000) 1000 87 78 1 f87.c0 κ n (f87.T0 s26 s27 s28 s29 s30 s31 s32 s33 s34 s35) (f87.H0 s26 s27 s28 s29 s30 s31 s32 s33 s34 s35)
  =f87.l0 L N (f87 L N m) (f87.X0_e1 κ) n s26 s27 s28 s29 s30 s31 s32 s33 s34 s35:=by
 intro n
 induction n with
 |zero=>intros;rfl
 |succ n ih=>
  intro s26 s27 s28 s29 s30 s31 s32 s33 s34 s35
  rw [evLp_succ,f87.s0_eq]
  delta f87.R0
  simp only [ih]
  rfl
theorem f87.p0_e1_eq {R:Type} (L N m:Nat) (κ:AV→Option R) (z36:Int) (z37:Int) (z38:Int) (z39:Int) (z40:LT):
  (contAt (E87 L N m) (evCallI (E87 L N m) 0 1000) 1000 87 78 1 (codeOf Tryz.f87) (finK (E87 L N m) 1000 Tryz.f87 (finC (.one (.st 1)) κ))) (.exit 1) (f87.T0_e1 z36 z37 z38 z39 z40) (f87.H0_e1 z36 z37 z38 z39 z40)
  =f87.p0_e1 L N (f87 L N m) (fun a0=>κ (.tv (.st 1) a0)) z36 z37 z38 z39 z40:=by kernel_rfl
theorem f87.b_eq {R:Type} (L N m:Nat) (κ:AV→Option R) (x0:Tree) (x1:LI):
  evBody (E87 L N m) (evCallI (E87 L N m) 0 1000) 1000 87 Tryz.f87 [(.tv (.st 1) x0),(.tv (.sl i64) x1)] [] [] (finC (.one (.st 1)) κ)
  =f87.b L N (f87 L N m) (fun a0=>κ (.tv (.st 1) a0)) x0 x1:=by
 refine Eq.trans (b:=f87.b' L N (f87 L N m) (fun a0=>κ (.tv (.st 1) a0)) (fun s26 s27 s28 s29 s30 s31 s32 s33 s34 s35=>evLp (E87 L N m) (evCallI (E87 L N m) 0 1000) 1000 87 78 1 f87.c0 (contAt (E87 L N m) (evCallI (E87 L N m) 0 1000) 1000 87 78 1 (codeOf Tryz.f87) (finK (E87 L N m) 1000 Tryz.f87 (finC (.one (.st 1)) κ))) L (f87.T0 s26 s27 s28 s29 s30 s31 s32 s33 s34 s35) (f87.H0 s26 s27 s28 s29 s30 s31 s32 s33 s34 s35)) x0 x1) (by kernel_rfl) ?_
 unfold f87.b
 simp only [f87.l0_eq]
 delta f87.X0_e1
 simp only [f87.p0_e1_eq]
theorem f87.ok (L N m:Nat) (hΦ:TellsOk Tryz.prog (Φ87s L N m)):EntOk Tryz.prog 87 (f87.ent L N (m+1)):=entDa_ok (E:=(E87 L N m)) (dep:=1000) (f:=Tryz.f87) (sound_of hΦ) okP (callI_sound (sound_of hΦ) okP 0 1000) rfl fun d _ hy=>(f87.b_eq L N m (unR (.one (.st 1))) d.1 d.2.1).trans (Eq.trans (b:=f87.b L N (f87 L N m) some d.1 d.2.1) (by kernel_rfl) hy)
theorem Φ87s_ok (L N:Nat):∀m,TellsOk Tryz.prog (Φ87s L N m):=by
 intro m
 induction m with
 |zero=>exact (addT_ok (Φ53_ok L N) (entDa_no fun _=>rfl))
 |succ m ih=>exact (addT_ok (Φ53_ok L N) (f87.ok L N m ih))
def Φ87 (L N:Nat):Tells:=(addT (Φ53 L N) 87 (f87.ent L N N))
theorem Φ87_ok (L N:Nat):TellsOk Tryz.prog (Φ87 L N):=Φ87s_ok L N N
def f88.s0' {R:Type} (L N:Nat) (k0_e0:Int→Int→LI→Option R) (rec0:Int→Int→Int→LI→Option R) (s0:Int) (s1:Int) (s2:Int) (s3:LI):Option R:=
 bif (decide (s2<(4:Int))) then
  bif (decide (s3.length+([s2]:LI).length≤lim)) then
   rec0 s0 s1 (wi (s2+(1:Int))) (s3++([s2]:LI))
  else none
 else k0_e0 s0 s1 s3
def f88.s0 {R:Type} (L N:Nat) (k0_e0:Int→Int→LI→Option R) (rec0:Int→Int→Int→LI→Option R) (s0:Int) (s1:Int) (s2:Int) (s3:LI):Option R:=
 f88.s0' L N k0_e0 rec0 s0 s1 s2 s3
def f88.l0 {R:Type} (L N:Nat) (k0_e0:Int→Int→LI→Option R):Nat→Int→Int→Int→LI→Option R
 |0,_,_,_,_=>none
 |n+1,s0,s1,s2,s3=>f88.s0 L N k0_e0 (f88.l0 L N k0_e0 n) s0 s1 s2 s3
def f88.T0 (s0:Int) (s1:Int) (s2:Int) (s3:LI):T:=mkT 25 [(0,(.tv i64 s0)),(1,(.tv i64 s1)),(5,(.row 1007)),(6,(.tv i64 s2))]
def f88.H0 (s0:Int) (s1:Int) (s2:Int) (s3:LI):H:=[(1007,(.row 3 i64 s3))]
def f88.T0_e0 (z4:Int) (z5:Int) (z6:LI):T:=mkT 25 [(0,(.tv i64 z4)),(1,(.tv i64 z5)),(5,(.row 1007))]
def f88.H0_e0 (z4:Int) (z5:Int) (z6:LI):H:=[(1007,(.row 3 i64 z6))]
def f88.p0_e0' {R:Type} (L N:Nat) (k:LI→Option R) (z4:Int) (z5:Int) (z6:LI):Option R:=
 bif (decide (0≤z4)&&decide (z4<(z6.length:Int))) then
  bif (decide (0≤z5)&&decide (z5<((z6.set z4.toNat z5).length:Int))) then
   k ((z6.set z4.toNat z5).set z5.toNat z4)
  else none
 else none
def f88.p0_e0 {R:Type} (L N:Nat) (k:LI→Option R) (z4:Int) (z5:Int) (z6:LI):Option R:=
 f88.p0_e0' L N k z4 z5 z6
def f88.b' {R:Type} (L N:Nat) (k:LI→Option R) (w0:Int→Int→Int→LI→Option R) (x0:Int) (x1:Int):Option R:=
 w0 x0 x1 (0:Int) ([]:LI)
def f88.b {R:Type} (L N:Nat) (k:LI→Option R) (x0:Int) (x1:Int):Option R:=
 f88.b' L N k (fun s0 s1 s2 s3=>f88.l0 L N (fun z4 z5 z6=>f88.p0_e0 L N k z4 z5 z6) L s0 s1 s2 s3) x0 x1
def f88 (L N:Nat) (x0:Int) (x1:Int):Option (LI):=f88.b L N some x0 x1
def f88.ent (L N:Nat):=entDa [i64,i64] (.one (.sl i64)) fun d=>f88 L N d.1 d.2.1
noncomputable def E88 (L N:Nat):Env:={P:=Tryz.prog,ty:=tyOf,Φ:=(Φ87 L N),inl:=inlT,live:=lives,liveX:=livesX,L:=L,dp:=none,prom:=promT,heal:=healT,ren:=renT}
noncomputable def f88.c0:Code:=loopAt 0 (codeOf Tryz.f88)
def f88.X0_e0 {R:Type} (κ:KX R):=fun z4 z5 z6=>κ (.exit 0) (f88.T0_e0 z4 z5 z6) (f88.H0_e0 z4 z5 z6)
def f88.R0 {R:Type} (rec:KT R):=fun s0 s1 s2 s3=>rec (f88.T0 s0 s1 s2 s3) (f88.H0 s0 s1 s2 s3)
theorem f88.s0_eq {R:Type} (L N:Nat) (κ:KX R) (rec:KT R) (s0:Int) (s1:Int) (s2:Int) (s3:LI):
  evRd (E88 L N) (evCallI (E88 L N) 0 1000) 1000 88 25 0 f88.c0 κ rec (f88.T0 s0 s1 s2 s3) (f88.H0 s0 s1 s2 s3)
  =f88.s0 L N (f88.X0_e0 κ) (f88.R0 rec) s0 s1 s2 s3:=by kernel_rfl
theorem f88.l0_eq {R:Type} (L N:Nat) (κ:KX R):∀(n:Nat) (s0:Int) (s1:Int) (s2:Int) (s3:LI),
  evLp (E88 L N) (evCallI (E88 L N) 0 1000) 1000 88 25 0 f88.c0 κ n (f88.T0 s0 s1 s2 s3) (f88.H0 s0 s1 s2 s3)
  =f88.l0 L N (f88.X0_e0 κ) n s0 s1 s2 s3:=by
 intro n
 induction n with
 |zero=>intros;rfl
 |succ n ih=>
  intro s0 s1 s2 s3
  rw [evLp_succ,f88.s0_eq]
  delta f88.R0
  simp only [ih]
  rfl
theorem f88.p0_e0_eq {R:Type} (L N:Nat) (κ:AV→Option R) (z4:Int) (z5:Int) (z6:LI):
  (contAt (E88 L N) (evCallI (E88 L N) 0 1000) 1000 88 25 0 (codeOf Tryz.f88) (finK (E88 L N) 1000 Tryz.f88 (finC (.one (.sl i64)) κ))) (.exit 0) (f88.T0_e0 z4 z5 z6) (f88.H0_e0 z4 z5 z6)
  =f88.p0_e0 L N (fun a0=>κ (.tv (.sl i64) a0)) z4 z5 z6:=by kernel_rfl
theorem f88.b_eq {R:Type} (L N:Nat) (κ:AV→Option R) (x0:Int) (x1:Int):
  evBody (E88 L N) (evCallI (E88 L N) 0 1000) 1000 88 Tryz.f88 [(.tv i64 x0),(.tv i64 x1)] [] [] (finC (.one (.sl i64)) κ)
  =f88.b L N (fun a0=>κ (.tv (.sl i64) a0)) x0 x1:=by
 refine Eq.trans (b:=f88.b' L N (fun a0=>κ (.tv (.sl i64) a0)) (fun s0 s1 s2 s3=>evLp (E88 L N) (evCallI (E88 L N) 0 1000) 1000 88 25 0 f88.c0 (contAt (E88 L N) (evCallI (E88 L N) 0 1000) 1000 88 25 0 (codeOf Tryz.f88) (finK (E88 L N) 1000 Tryz.f88 (finC (.one (.sl i64)) κ))) L (f88.T0 s0 s1 s2 s3) (f88.H0 s0 s1 s2 s3)) x0 x1) (by kernel_rfl) ?_
 unfold f88.b
 simp only [f88.l0_eq]
 delta f88.X0_e0
 simp only [f88.p0_e0_eq]
theorem f88.ok (L N:Nat) (hΦ:TellsOk Tryz.prog ((Φ87 L N))):EntOk Tryz.prog 88 (f88.ent L N):=entDa_ok (E:=(E88 L N)) (dep:=1000) (f:=Tryz.f88) (sound_of hΦ) okP (callI_sound (sound_of hΦ) okP 0 1000) rfl fun d _ hy=>(f88.b_eq L N (unR (.one (.sl i64))) d.1 d.2.1).trans (Eq.trans (b:=f88.b L N some d.1 d.2.1) (by kernel_rfl) hy)
def Φ88 (L N:Nat):Tells:=(addT (Φ87 L N) 88 (f88.ent L N))
theorem Φ88_ok (L N:Nat):TellsOk Tryz.prog (Φ88 L N):=addT_ok (Φ87_ok L N) (f88.ok L N (Φ87_ok L N))
def f56.b' {R:Type} (L N:Nat) (k:Tree→Option R) (x0:Tree):Option R:=
 (f88 L N (0:Int) (0:Int)).bind fun y0=>
 (f87 L N N (Tree.mk x0.op x0.n x0.parts) y0).bind fun y1=>
 k (Tree.mk y1.op y1.n y1.parts)
def f56.b {R:Type} (L N:Nat) (k:Tree→Option R) (x0:Tree):Option R:=
 f56.b' L N k x0
def f56 (L N:Nat) (x0:Tree):Option (Tree):=f56.b L N some x0
def f56.ent (L N:Nat):=entDa [(.st 1)] (.one (.st 1)) fun d=>f56 L N d.1
noncomputable def E56 (L N:Nat):Env:={P:=Tryz.prog,ty:=tyOf,Φ:=(Φ88 L N),inl:=inlT,live:=lives,liveX:=livesX,L:=L,dp:=none,prom:=promT,heal:=healT,ren:=renT}
theorem f56.b_eq {R:Type} (L N:Nat) (κ:AV→Option R) (x0:Tree):
  evBody (E56 L N) (evCallI (E56 L N) 0 1000) 1000 56 Tryz.f56 [(.tv (.st 1) x0)] [] [] (finC (.one (.st 1)) κ)
  =f56.b L N (fun a0=>κ (.tv (.st 1) a0)) x0:=by kernel_rfl
theorem f56.ok (L N:Nat) (hΦ:TellsOk Tryz.prog ((Φ88 L N))):EntOk Tryz.prog 56 (f56.ent L N):=entDa_ok (E:=(E56 L N)) (dep:=1000) (f:=Tryz.f56) (sound_of hΦ) okP (callI_sound (sound_of hΦ) okP 0 1000) rfl fun d _ hy=>(f56.b_eq L N (unR (.one (.st 1))) d.1).trans (Eq.trans (b:=f56.b L N some d.1) (by kernel_rfl) hy)
def Φ56 (L N:Nat):Tells:=(addT (Φ88 L N) 56 (f56.ent L N))
theorem Φ56_ok (L N:Nat):TellsOk Tryz.prog (Φ56 L N):=addT_ok (Φ88_ok L N) (f56.ok L N (Φ88_ok L N))
def f97.j0' {R:Type} (L N:Nat) (self97:Tree→Bool→Option (Int)) (k0_e0:Int→Option R) (rec0:Bool→Int→Int→Int→Int→LT→Option R) (v14:Bool) (v15:Int) (v16:Int) (v17:Int) (v18:Int) (v19:LT):Option R:=
 bif (decide (0≤v16)&&decide (v16<(v19.length:Int))) then
  (self97 (listAt v19 (Ty.dflt (.st 1)) v16.toNat) v14).bind fun y20=>
  rec0 v14 (bif decide (y20>v15) then y20 else v15) (wi (v16+(1:Int))) v17 v18 v19
 else none
def f97.s0' {R:Type} (L N:Nat) (self97:Tree→Bool→Option (Int)) (k0_e0:Int→Option R) (rec0:Bool→Int→Int→Int→Int→LT→Option R) (s0:Bool) (s1:Int) (s2:Int) (s3:Int) (s4:Int) (s5:LT):Option R:=
 bif (decide (s2<(s5.length:Int))) then
  bif s0 then
   bif (!(s3==(1:Int))) then
    f97.j0' L N self97 k0_e0 rec0 s0 s1 s2 s3 s4 s5
   else k0_e0 s1
  else bif (!false) then
   f97.j0' L N self97 k0_e0 rec0 s0 s1 s2 s3 s4 s5
  else k0_e0 s1
 else k0_e0 s1
def f97.s0 {R:Type} (L N:Nat) (self97:Tree→Bool→Option (Int)) (k0_e0:Int→Option R) (rec0:Bool→Int→Int→Int→Int→LT→Option R) (s0:Bool) (s1:Int) (s2:Int) (s3:Int) (s4:Int) (s5:LT):Option R:=
 f97.s0' L N self97 k0_e0 rec0 s0 s1 s2 s3 s4 s5
def f97.l0 {R:Type} (L N:Nat) (self97:Tree→Bool→Option (Int)) (k0_e0:Int→Option R):Nat→Bool→Int→Int→Int→Int→LT→Option R
 |0,_,_,_,_,_,_=>none
 |n+1,s0,s1,s2,s3,s4,s5=>f97.s0 L N self97 k0_e0 (f97.l0 L N self97 k0_e0 n) s0 s1 s2 s3 s4 s5
def f97.T0 (s0:Bool) (s1:Int) (s2:Int) (s3:Int) (s4:Int) (s5:LT):T:=mkT 38 [(1,(.tv .bool s0)),(2,(.ptr 1002 0)),(5,(.tv i64 s1)),(6,(.tv i64 s2))]
def f97.H0 (s0:Bool) (s1:Int) (s2:Int) (s3:Int) (s4:Int) (s5:LT):H:=[(1002,(.box [(.tv i64 s3),(.tv i64 s4),(.tv (.sl (.st 1)) s5)]))]
def f97.T0_e0 (z13:Int):T:=mkT 38 [(5,(.tv i64 z13))]
def f97.H0_e0 (z13:Int):H:=[]
def f97.p0_e0' {R:Type} (L N:Nat) (self97:Tree→Bool→Option (Int)) (k:Int→Option R) (z13:Int):Option R:=
 k z13
def f97.p0_e0 {R:Type} (L N:Nat) (self97:Tree→Bool→Option (Int)) (k:Int→Option R) (z13:Int):Option R:=
 f97.p0_e0' L N self97 k z13
def f97.b' {R:Type} (L N:Nat) (self97:Tree→Bool→Option (Int)) (k:Int→Option R) (w0:Bool→Int→Int→Int→Int→LT→Option R) (x0:Tree) (x1:Bool):Option R:=
 bif (x0.op==(5:Int)) then
  k x0.n
 else w0 x1 (-1:Int) (0:Int) x0.op x0.n x0.parts
def f97.b {R:Type} (L N:Nat) (self97:Tree→Bool→Option (Int)) (k:Int→Option R) (x0:Tree) (x1:Bool):Option R:=
 f97.b' L N self97 k (fun s0 s1 s2 s3 s4 s5=>f97.l0 L N self97 (fun z13=>f97.p0_e0 L N self97 k z13) L s0 s1 s2 s3 s4 s5) x0 x1
def f97 (L N:Nat):Nat→Tree→Bool→Option (Int)
 |0,_,_=>none
 |n+1,x0,x1=>f97.b L N (f97 L N n) some x0 x1
def f97.ent (L N m:Nat):=entRo [(.st 1),.bool] (.one i64) fun d=>f97 L N m d.1 d.2.1
def Φ97s (L N m:Nat):Tells:=(addT (Φ56 L N) 97 (f97.ent L N m))
noncomputable def E97 (L N m:Nat):Env:={P:=Tryz.prog,ty:=tyOf,Φ:=Φ97s L N m,inl:=inlT,live:=lives,liveX:=livesX,L:=L,dp:=none,prom:=promT,heal:=healT,ren:=renT}
noncomputable def f97.c0:Code:=loopAt 0 (codeOf Tryz.f97)
def f97.X0_e0 {R:Type} (κ:KX R):=fun z13=>κ (.exit 0) (f97.T0_e0 z13) (f97.H0_e0 z13)
def f97.R0 {R:Type} (rec:KT R):=fun s0 s1 s2 s3 s4 s5=>rec (f97.T0 s0 s1 s2 s3 s4 s5) (f97.H0 s0 s1 s2 s3 s4 s5)
theorem f97.s0_eq {R:Type} (L N m:Nat) (κ:KX R) (rec:KT R) (s0:Bool) (s1:Int) (s2:Int) (s3:Int) (s4:Int) (s5:LT):
  evRd (E97 L N m) (evCallI (E97 L N m) 0 1000) 1000 97 38 0 f97.c0 κ rec (f97.T0 s0 s1 s2 s3 s4 s5) (f97.H0 s0 s1 s2 s3 s4 s5)
  =f97.s0 L N (f97 L N m) (f97.X0_e0 κ) (f97.R0 rec) s0 s1 s2 s3 s4 s5:=by kernel_rfl
theorem f97.l0_eq {R:Type} (L N m:Nat) (κ:KX R):∀(n:Nat) (s0:Bool) (s1:Int) (s2:Int) (s3:Int) (s4:Int) (s5:LT),
  evLp (E97 L N m) (evCallI (E97 L N m) 0 1000) 1000 97 38 0 f97.c0 κ n (f97.T0 s0 s1 s2 s3 s4 s5) (f97.H0 s0 s1 s2 s3 s4 s5)
  =f97.l0 L N (f97 L N m) (f97.X0_e0 κ) n s0 s1 s2 s3 s4 s5:=by
 intro n
 induction n with
 |zero=>intros;rfl
 |succ n ih=>
  intro s0 s1 s2 s3 s4 s5
  rw [evLp_succ,f97.s0_eq]
  delta f97.R0
  simp only [ih]
  rfl
theorem f97.p0_e0_eq {R:Type} (L N m:Nat) (κ:AV→Option R) (z13:Int):
  (contAt (E97 L N m) (evCallI (E97 L N m) 0 1000) 1000 97 38 0 (codeOf Tryz.f97) (finK (E97 L N m) 1000 Tryz.f97 (finC (.one i64) κ))) (.exit 0) (f97.T0_e0 z13) (f97.H0_e0 z13)
  =f97.p0_e0 L N (f97 L N m) (fun a0=>κ (.tv i64 a0)) z13:=by kernel_rfl
theorem f97.b_eq {R:Type} (L N m:Nat) (κ:AV→Option R) (x0:Tree) (x1:Bool):
  evBody (E97 L N m) (evCallI (E97 L N m) 0 1000) 1000 97 Tryz.f97 [(.tv (.st 1) x0),(.tv .bool x1)] [] [] (finC (.one i64) κ)
  =f97.b L N (f97 L N m) (fun a0=>κ (.tv i64 a0)) x0 x1:=by
 refine Eq.trans (b:=f97.b' L N (f97 L N m) (fun a0=>κ (.tv i64 a0)) (fun s0 s1 s2 s3 s4 s5=>evLp (E97 L N m) (evCallI (E97 L N m) 0 1000) 1000 97 38 0 f97.c0 (contAt (E97 L N m) (evCallI (E97 L N m) 0 1000) 1000 97 38 0 (codeOf Tryz.f97) (finK (E97 L N m) 1000 Tryz.f97 (finC (.one i64) κ))) L (f97.T0 s0 s1 s2 s3 s4 s5) (f97.H0 s0 s1 s2 s3 s4 s5)) x0 x1) (by kernel_rfl) ?_
 unfold f97.b
 simp only [f97.l0_eq]
 delta f97.X0_e0
 simp only [f97.p0_e0_eq]
theorem f97.ok (L N m:Nat) (hΦ:TellsOk Tryz.prog (Φ97s L N m)):EntOk Tryz.prog 97 (f97.ent L N (m+1)):=entRo_ok (E:=(E97 L N m)) (dep:=1000) (f:=Tryz.f97) (sound_of hΦ) okP (callI_sound (sound_of hΦ) okP 0 1000) rfl rfl fun d _ hy=>(f97.b_eq L N m (unR (.one i64)) d.1 d.2.1).trans (Eq.trans (b:=f97.b L N (f97 L N m) some d.1 d.2.1) (by kernel_rfl) hy)
theorem Φ97s_ok (L N:Nat):∀m,TellsOk Tryz.prog (Φ97s L N m):=by
 intro m
 induction m with
 |zero=>exact (addT_ok (Φ56_ok L N) (entRo_no fun _=>rfl))
 |succ m ih=>exact (addT_ok (Φ56_ok L N) (f97.ok L N m ih))
def Φ97 (L N:Nat):Tells:=(addT (Φ56 L N) 97 (f97.ent L N N))
theorem Φ97_ok (L N:Nat):TellsOk Tryz.prog (Φ97 L N):=Φ97s_ok L N N
def f61.b' {R:Type} (L N:Nat) (k:Bool→Option R) (x0:Tree):Option R:=
 (f97 L N N (Tree.mk x0.op x0.n x0.parts) false).bind fun y0=>
 k (decide (y0<(0:Int)))
def f61.b {R:Type} (L N:Nat) (k:Bool→Option R) (x0:Tree):Option R:=
 f61.b' L N k x0
def f61 (L N:Nat) (x0:Tree):Option (Bool):=f61.b L N some x0
def f61.ent (L N:Nat):=entRo [(.st 1)] (.one .bool) fun d=>f61 L N d.1
noncomputable def E61 (L N:Nat):Env:={P:=Tryz.prog,ty:=tyOf,Φ:=(Φ97 L N),inl:=inlT,live:=lives,liveX:=livesX,L:=L,dp:=none,prom:=promT,heal:=healT,ren:=renT}
theorem f61.b_eq {R:Type} (L N:Nat) (κ:AV→Option R) (x0:Tree):
  evBody (E61 L N) (evCallI (E61 L N) 0 1000) 1000 61 Tryz.f61 [(.tv (.st 1) x0)] [] [] (finC (.one .bool) κ)
  =f61.b L N (fun a0=>κ (.tv .bool a0)) x0:=by kernel_rfl
theorem f61.ok (L N:Nat) (hΦ:TellsOk Tryz.prog ((Φ97 L N))):EntOk Tryz.prog 61 (f61.ent L N):=entRo_ok (E:=(E61 L N)) (dep:=1000) (f:=Tryz.f61) (sound_of hΦ) okP (callI_sound (sound_of hΦ) okP 0 1000) rfl rfl fun d _ hy=>(f61.b_eq L N (unR (.one .bool)) d.1).trans (Eq.trans (b:=f61.b L N some d.1) (by kernel_rfl) hy)
def Φ61 (L N:Nat):Tells:=(addT (Φ97 L N) 61 (f61.ent L N))
theorem Φ61_ok (L N:Nat):TellsOk Tryz.prog (Φ61 L N):=addT_ok (Φ97_ok L N) (f61.ok L N (Φ97_ok L N))
def f135.b' {R:Type} (L N:Nat) (k:Int→Option R) (x0:Int):Option R:=
 k (wi ((bif decide ((wi (0-x0))>x0) then (wi (0-x0)) else x0)-(1:Int)))
def f135.b {R:Type} (L N:Nat) (k:Int→Option R) (x0:Int):Option R:=
 f135.b' L N k x0
def f135 (L N:Nat) (x0:Int):Option (Int):=f135.b L N some x0
def f135.ent (L N:Nat):=entRo [i64] (.one i64) fun d=>f135 L N d.1
noncomputable def E135 (L N:Nat):Env:={P:=Tryz.prog,ty:=tyOf,Φ:=(Φ61 L N),inl:=inlT,live:=lives,liveX:=livesX,L:=L,dp:=none,prom:=promT,heal:=healT,ren:=renT}
theorem f135.b_eq {R:Type} (L N:Nat) (κ:AV→Option R) (x0:Int):
  evBody (E135 L N) (evCallI (E135 L N) 0 1000) 1000 135 Tryz.f135 [(.tv i64 x0)] [] [] (finC (.one i64) κ)
  =f135.b L N (fun a0=>κ (.tv i64 a0)) x0:=by kernel_rfl
theorem f135.ok (L N:Nat) (hΦ:TellsOk Tryz.prog ((Φ61 L N))):EntOk Tryz.prog 135 (f135.ent L N):=entRo_ok (E:=(E135 L N)) (dep:=1000) (f:=Tryz.f135) (sound_of hΦ) okP (callI_sound (sound_of hΦ) okP 0 1000) rfl rfl fun d _ hy=>(f135.b_eq L N (unR (.one i64)) d.1).trans (Eq.trans (b:=f135.b L N some d.1) (by kernel_rfl) hy)
def Φ135 (L N:Nat):Tells:=(addT (Φ61 L N) 135 (f135.ent L N))
theorem Φ135_ok (L N:Nat):TellsOk Tryz.prog (Φ135 L N):=addT_ok (Φ61_ok L N) (f135.ok L N (Φ61_ok L N))
def f98.s0' {R:Type} (L N:Nat) (self98:Tree→LT→Option (LS)) (k0_e1:Int→Int→LT→LS→LS→LS→Option R) (rec0:Int→Int→Int→LT→LS→LS→LS→Option R) (s4:Int) (s5:Int) (s6:Int) (s7:LT) (s8:LS) (s9:LS) (s10:LS):Option R:=
 bif (decide (s4<(s9.length:Int))) then
  bif (decide (0≤s4)&&decide (s4<(s9.length:Int))) then
   bif (decide (0≤s4)&&decide (s4<(s9.length:Int))) then
    bif (decide (0≤(1:Int))&&decide ((1:Int)<(s7.length:Int))) then
     bif (decide (s8.length+([(Step.mk ((listAt s9 (Ty.dflt (.st 3)) s4.toNat).act) (Tree.mk (3:Int) (0:Int) ([(Tree.mk ((listAt s9 (Ty.dflt (.st 3)) s4.toNat).thn.op) ((listAt s9 (Ty.dflt (.st 3)) s4.toNat).thn.n) ((listAt s9 (Ty.dflt (.st 3)) s4.toNat).thn.parts)),(listAt s7 (Ty.dflt (.st 1)) (1:Int).toNat)]:LT)))]:LS).length≤lim)) then
      rec0 (wi (s4+(1:Int))) s5 s6 s7 (s8++([(Step.mk ((listAt s9 (Ty.dflt (.st 3)) s4.toNat).act) (Tree.mk (3:Int) (0:Int) ([(Tree.mk ((listAt s9 (Ty.dflt (.st 3)) s4.toNat).thn.op) ((listAt s9 (Ty.dflt (.st 3)) s4.toNat).thn.n) ((listAt s9 (Ty.dflt (.st 3)) s4.toNat).thn.parts)),(listAt s7 (Ty.dflt (.st 1)) (1:Int).toNat)]:LT)))]:LS)) s9 s10
     else none
    else none
   else none
  else none
 else k0_e1 s5 s6 s7 s8 s9 s10
def f98.s0 {R:Type} (L N:Nat) (self98:Tree→LT→Option (LS)) (k0_e1:Int→Int→LT→LS→LS→LS→Option R) (rec0:Int→Int→Int→LT→LS→LS→LS→Option R) (s4:Int) (s5:Int) (s6:Int) (s7:LT) (s8:LS) (s9:LS) (s10:LS):Option R:=
 f98.s0' L N self98 k0_e1 rec0 s4 s5 s6 s7 s8 s9 s10
def f98.l0 {R:Type} (L N:Nat) (self98:Tree→LT→Option (LS)) (k0_e1:Int→Int→LT→LS→LS→LS→Option R):Nat→Int→Int→Int→LT→LS→LS→LS→Option R
 |0,_,_,_,_,_,_,_=>none
 |n+1,s4,s5,s6,s7,s8,s9,s10=>f98.s0 L N self98 k0_e1 (f98.l0 L N self98 k0_e1 n) s4 s5 s6 s7 s8 s9 s10
def f98.T0 (s4:Int) (s5:Int) (s6:Int) (s7:LT) (s8:LS) (s9:LS) (s10:LS):T:=mkT 217 [(2,(.ptr 1002 0)),(5,(.row 1014)),(6,(.row 1051)),(7,(.row 1057)),(8,(.tv i64 s4))]
def f98.H0 (s4:Int) (s5:Int) (s6:Int) (s7:LT) (s8:LS) (s9:LS) (s10:LS):H:=[(1002,(.box [(.tv i64 s5),(.tv i64 s6),(.tv (.sl (.st 1)) s7)])),(1014,(.row 113 (.st 3) s8)),(1051,(.row 113 (.st 3) s9)),(1057,(.row 113 (.st 3) s10))]
def f98.T0_e1 (z11:Int) (z12:Int) (z13:LT) (z14:LS) (z15:LS) (z16:LS):T:=mkT 217 [(2,(.ptr 1002 0)),(5,(.row 1014)),(6,(.row 1051)),(7,(.row 1057))]
def f98.H0_e1 (z11:Int) (z12:Int) (z13:LT) (z14:LS) (z15:LS) (z16:LS):H:=[(1002,(.box [(.tv i64 z11),(.tv i64 z12),(.tv (.sl (.st 1)) z13)])),(1014,(.row 113 (.st 3) z14)),(1051,(.row 113 (.st 3) z15)),(1057,(.row 113 (.st 3) z16))]
def f98.s1' {R:Type} (L N:Nat) (self98:Tree→LT→Option (LS)) (k1_e3:LS→LS→LS→Option R) (rec1:Int→Int→Int→LT→LS→LS→LS→Option R) (s17:Int) (s18:Int) (s19:Int) (s20:LT) (s21:LS) (s22:LS) (s23:LS):Option R:=
 bif (decide (s17<(s23.length:Int))) then
  bif (decide (0≤s17)&&decide (s17<(s23.length:Int))) then
   bif (decide (0≤(0:Int))&&decide ((0:Int)<(s20.length:Int))) then
    bif (decide (0≤s17)&&decide (s17<(s23.length:Int))) then
     bif (decide (s21.length+([(Step.mk ((listAt s23 (Ty.dflt (.st 3)) s17.toNat).act) (Tree.mk (3:Int) (0:Int) ([(listAt s20 (Ty.dflt (.st 1)) (0:Int).toNat),(Tree.mk ((listAt s23 (Ty.dflt (.st 3)) s17.toNat).thn.op) ((listAt s23 (Ty.dflt (.st 3)) s17.toNat).thn.n) ((listAt s23 (Ty.dflt (.st 3)) s17.toNat).thn.parts))]:LT)))]:LS).length≤lim)) then
      rec1 (wi (s17+(1:Int))) s18 s19 s20 (s21++([(Step.mk ((listAt s23 (Ty.dflt (.st 3)) s17.toNat).act) (Tree.mk (3:Int) (0:Int) ([(listAt s20 (Ty.dflt (.st 1)) (0:Int).toNat),(Tree.mk ((listAt s23 (Ty.dflt (.st 3)) s17.toNat).thn.op) ((listAt s23 (Ty.dflt (.st 3)) s17.toNat).thn.n) ((listAt s23 (Ty.dflt (.st 3)) s17.toNat).thn.parts))]:LT)))]:LS)) s22 s23
     else none
    else none
   else none
  else none
 else k1_e3 s21 s22 s23
def f98.s1 {R:Type} (L N:Nat) (self98:Tree→LT→Option (LS)) (k1_e3:LS→LS→LS→Option R) (rec1:Int→Int→Int→LT→LS→LS→LS→Option R) (s17:Int) (s18:Int) (s19:Int) (s20:LT) (s21:LS) (s22:LS) (s23:LS):Option R:=
 f98.s1' L N self98 k1_e3 rec1 s17 s18 s19 s20 s21 s22 s23
def f98.l1 {R:Type} (L N:Nat) (self98:Tree→LT→Option (LS)) (k1_e3:LS→LS→LS→Option R):Nat→Int→Int→Int→LT→LS→LS→LS→Option R
 |0,_,_,_,_,_,_,_=>none
 |n+1,s17,s18,s19,s20,s21,s22,s23=>f98.s1 L N self98 k1_e3 (f98.l1 L N self98 k1_e3 n) s17 s18 s19 s20 s21 s22 s23
def f98.T1 (s17:Int) (s18:Int) (s19:Int) (s20:LT) (s21:LS) (s22:LS) (s23:LS):T:=mkT 217 [(2,(.ptr 1002 0)),(5,(.row 1014)),(6,(.row 1051)),(7,(.row 1057)),(9,(.tv i64 s17))]
def f98.H1 (s17:Int) (s18:Int) (s19:Int) (s20:LT) (s21:LS) (s22:LS) (s23:LS):H:=[(1002,(.box [(.tv i64 s18),(.tv i64 s19),(.tv (.sl (.st 1)) s20)])),(1014,(.row 113 (.st 3) s21)),(1051,(.row 113 (.st 3) s22)),(1057,(.row 113 (.st 3) s23))]
def f98.T1_e3 (z24:LS) (z25:LS) (z26:LS):T:=mkT 217 [(5,(.row 1014)),(6,(.row 1051)),(7,(.row 1057))]
def f98.H1_e3 (z24:LS) (z25:LS) (z26:LS):H:=[(1014,(.row 113 (.st 3) z24)),(1051,(.row 113 (.st 3) z25)),(1057,(.row 113 (.st 3) z26))]
def f98.j0' {R:Type} (L N:Nat) (self98:Tree→LT→Option (LS)) (k3_e7:Int→LS→LS→LS→Option R) (rec3:Int→Int→LS→LS→LS→Option R) (v41:Int) (v42:Int) (v43:Bool) (v44:LS) (v45:LS) (v46:LS):Option R:=
 bif v43 then
  bif (decide (0≤v41)&&decide (v41<(v45.length:Int))) then
   bif (decide (0≤v42)&&decide (v42<(v46.length:Int))) then
    bif (decide (v44.length+([(Step.mk (0:Int) (Tree.mk (3:Int) (0:Int) ([(Tree.mk ((listAt v45 (Ty.dflt (.st 3)) v41.toNat).thn.op) ((listAt v45 (Ty.dflt (.st 3)) v41.toNat).thn.n) ((listAt v45 (Ty.dflt (.st 3)) v41.toNat).thn.parts)),(Tree.mk ((listAt v46 (Ty.dflt (.st 3)) v42.toNat).thn.op) ((listAt v46 (Ty.dflt (.st 3)) v42.toNat).thn.n) ((listAt v46 (Ty.dflt (.st 3)) v42.toNat).thn.parts))]:LT)))]:LS).length≤lim)) then
     rec3 v41 (wi (v42+(1:Int))) (v44++([(Step.mk (0:Int) (Tree.mk (3:Int) (0:Int) ([(Tree.mk ((listAt v45 (Ty.dflt (.st 3)) v41.toNat).thn.op) ((listAt v45 (Ty.dflt (.st 3)) v41.toNat).thn.n) ((listAt v45 (Ty.dflt (.st 3)) v41.toNat).thn.parts)),(Tree.mk ((listAt v46 (Ty.dflt (.st 3)) v42.toNat).thn.op) ((listAt v46 (Ty.dflt (.st 3)) v42.toNat).thn.n) ((listAt v46 (Ty.dflt (.st 3)) v42.toNat).thn.parts))]:LT)))]:LS)) v45 v46
    else none
   else none
  else none
 else rec3 v41 (wi (v42+(1:Int))) v44 v45 v46
def f98.s3' {R:Type} (L N:Nat) (self98:Tree→LT→Option (LS)) (k3_e7:Int→LS→LS→LS→Option R) (rec3:Int→Int→LS→LS→LS→Option R) (s32:Int) (s33:Int) (s34:LS) (s35:LS) (s36:LS):Option R:=
 bif (decide (s33<(s36.length:Int))) then
  bif (decide (0≤s32)&&decide (s32<(s35.length:Int))) then
   bif ((listAt s35 (Ty.dflt (.st 3)) s32.toNat).act !=(0:Int)) then
    bif (decide (0≤s32)&&decide (s32<(s35.length:Int))) then
     bif (decide (0≤s33)&&decide (s33<(s36.length:Int))) then
      f98.j0' L N self98 k3_e7 rec3 s32 s33 ((listAt s35 (Ty.dflt (.st 3)) s32.toNat).act==(wi (0-(listAt s36 (Ty.dflt (.st 3)) s33.toNat).act))) s34 s35 s36
     else none
    else none
   else f98.j0' L N self98 k3_e7 rec3 s32 s33 false s34 s35 s36
  else none
 else k3_e7 s32 s34 s35 s36
def f98.s3 {R:Type} (L N:Nat) (self98:Tree→LT→Option (LS)) (k3_e7:Int→LS→LS→LS→Option R) (rec3:Int→Int→LS→LS→LS→Option R) (s32:Int) (s33:Int) (s34:LS) (s35:LS) (s36:LS):Option R:=
 f98.s3' L N self98 k3_e7 rec3 s32 s33 s34 s35 s36
def f98.l3 {R:Type} (L N:Nat) (self98:Tree→LT→Option (LS)) (k3_e7:Int→LS→LS→LS→Option R):Nat→Int→Int→LS→LS→LS→Option R
 |0,_,_,_,_,_=>none
 |n+1,s32,s33,s34,s35,s36=>f98.s3 L N self98 k3_e7 (f98.l3 L N self98 k3_e7 n) s32 s33 s34 s35 s36
def f98.T3 (s32:Int) (s33:Int) (s34:LS) (s35:LS) (s36:LS):T:=mkT 217 [(5,(.row 1014)),(6,(.row 1051)),(7,(.row 1057)),(10,(.tv i64 s32)),(11,(.tv i64 s33))]
def f98.H3 (s32:Int) (s33:Int) (s34:LS) (s35:LS) (s36:LS):H:=[(1014,(.row 113 (.st 3) s34)),(1051,(.row 113 (.st 3) s35)),(1057,(.row 113 (.st 3) s36))]
def f98.T3_e7 (z37:Int) (z38:LS) (z39:LS) (z40:LS):T:=mkT 217 [(5,(.row 1014)),(6,(.row 1051)),(7,(.row 1057)),(10,(.tv i64 z37))]
def f98.H3_e7 (z37:Int) (z38:LS) (z39:LS) (z40:LS):H:=[(1014,(.row 113 (.st 3) z38)),(1051,(.row 113 (.st 3) z39)),(1057,(.row 113 (.st 3) z40))]
def f98.p3_e7' {R:Type} (L N:Nat) (self98:Tree→LT→Option (LS)) (k2_e5:LS→Option R) (rec2:Int→LS→LS→LS→Option R) (z37:Int) (z38:LS) (z39:LS) (z40:LS):Option R:=
 rec2 (wi (z37+(1:Int))) z38 z39 z40
def f98.p3_e7 {R:Type} (L N:Nat) (self98:Tree→LT→Option (LS)) (k2_e5:LS→Option R) (rec2:Int→LS→LS→LS→Option R) (z37:Int) (z38:LS) (z39:LS) (z40:LS):Option R:=
 f98.p3_e7' L N self98 k2_e5 rec2 z37 z38 z39 z40
def f98.s2' {R:Type} (L N:Nat) (self98:Tree→LT→Option (LS)) (k2_e5:LS→Option R) (rec2:Int→LS→LS→LS→Option R) (w3:Int→Int→LS→LS→LS→Option R) (s27:Int) (s28:LS) (s29:LS) (s30:LS):Option R:=
 bif (decide (s27<(s29.length:Int))) then
  w3 s27 (0:Int) s28 s29 s30
 else k2_e5 s28
def f98.s2 {R:Type} (L N:Nat) (self98:Tree→LT→Option (LS)) (k2_e5:LS→Option R) (rec2:Int→LS→LS→LS→Option R) (s27:Int) (s28:LS) (s29:LS) (s30:LS):Option R:=
 f98.s2' L N self98 k2_e5 rec2 (fun s32 s33 s34 s35 s36=>f98.l3 L N self98 (fun z37 z38 z39 z40=>f98.p3_e7 L N self98 k2_e5 rec2 z37 z38 z39 z40) L s32 s33 s34 s35 s36) s27 s28 s29 s30
def f98.l2 {R:Type} (L N:Nat) (self98:Tree→LT→Option (LS)) (k2_e5:LS→Option R):Nat→Int→LS→LS→LS→Option R
 |0,_,_,_,_=>none
 |n+1,s27,s28,s29,s30=>f98.s2 L N self98 k2_e5 (f98.l2 L N self98 k2_e5 n) s27 s28 s29 s30
def f98.T2 (s27:Int) (s28:LS) (s29:LS) (s30:LS):T:=mkT 217 [(5,(.row 1014)),(6,(.row 1051)),(7,(.row 1057)),(10,(.tv i64 s27))]
def f98.H2 (s27:Int) (s28:LS) (s29:LS) (s30:LS):H:=[(1014,(.row 113 (.st 3) s28)),(1051,(.row 113 (.st 3) s29)),(1057,(.row 113 (.st 3) s30))]
def f98.T2_e5 (z31:LS):T:=mkT 217 [(5,(.row 1014))]
def f98.H2_e5 (z31:LS):H:=[(1014,(.row 113 (.st 3) z31))]
def f98.p2_e5' {R:Type} (L N:Nat) (self98:Tree→LT→Option (LS)) (k:LS→Option R) (z31:LS):Option R:=
 k z31
def f98.p2_e5 {R:Type} (L N:Nat) (self98:Tree→LT→Option (LS)) (k:LS→Option R) (z31:LS):Option R:=
 f98.p2_e5' L N self98 k z31
def f98.p1_e3' {R:Type} (L N:Nat) (self98:Tree→LT→Option (LS)) (k:LS→Option R) (w2:Int→LS→LS→LS→Option R) (z24:LS) (z25:LS) (z26:LS):Option R:=
 w2 (0:Int) z24 z25 z26
def f98.p1_e3 {R:Type} (L N:Nat) (self98:Tree→LT→Option (LS)) (k:LS→Option R) (z24:LS) (z25:LS) (z26:LS):Option R:=
 f98.p1_e3' L N self98 k (fun s27 s28 s29 s30=>f98.l2 L N self98 (fun z31=>f98.p2_e5 L N self98 k z31) L s27 s28 s29 s30) z24 z25 z26
def f98.p0_e1' {R:Type} (L N:Nat) (self98:Tree→LT→Option (LS)) (k:LS→Option R) (w1:Int→Int→Int→LT→LS→LS→LS→Option R) (z11:Int) (z12:Int) (z13:LT) (z14:LS) (z15:LS) (z16:LS):Option R:=
 w1 (0:Int) z11 z12 z13 z14 z15 z16
def f98.p0_e1 {R:Type} (L N:Nat) (self98:Tree→LT→Option (LS)) (k:LS→Option R) (z11:Int) (z12:Int) (z13:LT) (z14:LS) (z15:LS) (z16:LS):Option R:=
 f98.p0_e1' L N self98 k (fun s17 s18 s19 s20 s21 s22 s23=>f98.l1 L N self98 (fun z24 z25 z26=>f98.p1_e3 L N self98 k z24 z25 z26) L s17 s18 s19 s20 s21 s22 s23) z11 z12 z13 z14 z15 z16
def f98.j1' {R:Type} (L N:Nat) (self98:Tree→LT→Option (LS)) (k4_e9:LS→Option R) (rec4:Int→Int→Int→LT→LS→LS→Option R) (v61:Int) (v62:Bool) (v63:Int) (v64:Int) (v65:LT) (v66:LS) (v67:LS):Option R:=
 bif v62 then
  bif (decide (0≤v61)&&decide (v61<(v67.length:Int))) then
   bif (decide (0≤v61)&&decide (v61<(v67.length:Int))) then
    bif (decide (v66.length+([(Step.mk ((listAt v67 (Ty.dflt (.st 3)) v61.toNat).act) (Tree.mk (4:Int) v64 ([(Tree.mk ((listAt v67 (Ty.dflt (.st 3)) v61.toNat).thn.op) ((listAt v67 (Ty.dflt (.st 3)) v61.toNat).thn.n) ((listAt v67 (Ty.dflt (.st 3)) v61.toNat).thn.parts))]:LT)))]:LS).length≤lim)) then
     rec4 (wi (v61+(1:Int))) v63 v64 v65 (v66++([(Step.mk ((listAt v67 (Ty.dflt (.st 3)) v61.toNat).act) (Tree.mk (4:Int) v64 ([(Tree.mk ((listAt v67 (Ty.dflt (.st 3)) v61.toNat).thn.op) ((listAt v67 (Ty.dflt (.st 3)) v61.toNat).thn.n) ((listAt v67 (Ty.dflt (.st 3)) v61.toNat).thn.parts))]:LT)))]:LS)) v67
    else none
   else none
  else none
 else rec4 (wi (v61+(1:Int))) v63 v64 v65 v66 v67
def f98.s4' {R:Type} (L N:Nat) (self98:Tree→LT→Option (LS)) (k4_e9:LS→Option R) (rec4:Int→Int→Int→LT→LS→LS→Option R) (s53:Int) (s54:Int) (s55:Int) (s56:LT) (s57:LS) (s58:LS):Option R:=
 bif (decide (s53<(s58.length:Int))) then
  bif (decide (0≤s53)&&decide (s53<(s58.length:Int))) then
   bif ((listAt s58 (Ty.dflt (.st 3)) s53.toNat).act==(0:Int)) then
    f98.j1' L N self98 k4_e9 rec4 s53 true s54 s55 s56 s57 s58
   else bif (decide (0≤s53)&&decide (s53<(s58.length:Int))) then
    (f135 L N ((listAt s58 (Ty.dflt (.st 3)) s53.toNat).act)).bind fun y60=>
    f98.j1' L N self98 k4_e9 rec4 s53 (y60 !=s55) s54 s55 s56 s57 s58
   else none
  else none
 else k4_e9 s57
def f98.s4 {R:Type} (L N:Nat) (self98:Tree→LT→Option (LS)) (k4_e9:LS→Option R) (rec4:Int→Int→Int→LT→LS→LS→Option R) (s53:Int) (s54:Int) (s55:Int) (s56:LT) (s57:LS) (s58:LS):Option R:=
 f98.s4' L N self98 k4_e9 rec4 s53 s54 s55 s56 s57 s58
def f98.l4 {R:Type} (L N:Nat) (self98:Tree→LT→Option (LS)) (k4_e9:LS→Option R):Nat→Int→Int→Int→LT→LS→LS→Option R
 |0,_,_,_,_,_,_=>none
 |n+1,s53,s54,s55,s56,s57,s58=>f98.s4 L N self98 k4_e9 (f98.l4 L N self98 k4_e9 n) s53 s54 s55 s56 s57 s58
def f98.T4 (s53:Int) (s54:Int) (s55:Int) (s56:LT) (s57:LS) (s58:LS):T:=mkT 217 [(2,(.ptr 1002 0)),(5,(.row 1014)),(12,(.row 1165)),(13,(.tv i64 s53))]
def f98.H4 (s53:Int) (s54:Int) (s55:Int) (s56:LT) (s57:LS) (s58:LS):H:=[(1002,(.box [(.tv i64 s54),(.tv i64 s55),(.tv (.sl (.st 1)) s56)])),(1014,(.row 113 (.st 3) s57)),(1165,(.row 113 (.st 3) s58))]
def f98.T4_e9 (z59:LS):T:=mkT 217 [(5,(.row 1014))]
def f98.H4_e9 (z59:LS):H:=[(1014,(.row 113 (.st 3) z59))]
def f98.p4_e9' {R:Type} (L N:Nat) (self98:Tree→LT→Option (LS)) (k:LS→Option R) (z59:LS):Option R:=
 k z59
def f98.p4_e9 {R:Type} (L N:Nat) (self98:Tree→LT→Option (LS)) (k:LS→Option R) (z59:LS):Option R:=
 f98.p4_e9' L N self98 k z59
def f98.b' {R:Type} (L N:Nat) (self98:Tree→LT→Option (LS)) (k:LS→Option R) (w0:Int→Int→Int→LT→LS→LS→LS→Option R) (w4:Int→Int→Int→LT→LS→LS→Option R) (x0:Tree) (x1:LT):Option R:=
 bif (x0.op==(1:Int)) then
  bif (decide (0≤(0:Int))&&decide ((0:Int)<(x0.parts.length:Int))) then
   bif (decide (([]:LS).length+([(Step.mk x0.n (Tree.mk ((listAt x0.parts (Ty.dflt (.st 1)) (0:Int).toNat).op) ((listAt x0.parts (Ty.dflt (.st 1)) (0:Int).toNat).n) ((listAt x0.parts (Ty.dflt (.st 1)) (0:Int).toNat).parts)))]:LS).length≤lim)) then
    k (([]:LS)++([(Step.mk x0.n (Tree.mk ((listAt x0.parts (Ty.dflt (.st 1)) (0:Int).toNat).op) ((listAt x0.parts (Ty.dflt (.st 1)) (0:Int).toNat).n) ((listAt x0.parts (Ty.dflt (.st 1)) (0:Int).toNat).parts)))]:LS))
   else none
  else none
 else bif (x0.op==(2:Int)) then
  bif (decide (0≤(0:Int))&&decide ((0:Int)<(x0.parts.length:Int))) then
   (self98 (listAt x0.parts (Ty.dflt (.st 1)) (0:Int).toNat) x1).bind fun y0=>
   bif (decide (0≤(1:Int))&&decide ((1:Int)<(x0.parts.length:Int))) then
    (self98 (listAt x0.parts (Ty.dflt (.st 1)) (1:Int).toNat) x1).bind fun y1=>
    bif (decide (y0.length+y1.length≤lim)) then
     k (y0++y1)
    else none
   else none
  else none
 else bif (x0.op==(3:Int)) then
  bif (decide (0≤(0:Int))&&decide ((0:Int)<(x0.parts.length:Int))) then
   (self98 (listAt x0.parts (Ty.dflt (.st 1)) (0:Int).toNat) x1).bind fun y2=>
   bif (decide (0≤(1:Int))&&decide ((1:Int)<(x0.parts.length:Int))) then
    (self98 (listAt x0.parts (Ty.dflt (.st 1)) (1:Int).toNat) x1).bind fun y3=>
    w0 (0:Int) x0.op x0.n x0.parts ([]:LS) y2 y3
   else none
  else none
 else bif (x0.op==(4:Int)) then
  bif (decide (0≤(0:Int))&&decide ((0:Int)<(x0.parts.length:Int))) then
   (self98 (listAt x0.parts (Ty.dflt (.st 1)) (0:Int).toNat) x1).bind fun y52=>
   w4 (0:Int) x0.op x0.n x0.parts ([]:LS) y52
  else none
 else bif (x0.op==(5:Int)) then
  bif (decide (0≤x0.n)&&decide (x0.n<(x1.length:Int))) then
   (self98 (listAt x1 (Ty.dflt (.st 1)) x0.n.toNat) x1).bind fun y74=>
   k y74
  else none
 else k ([]:LS)
def f98.b {R:Type} (L N:Nat) (self98:Tree→LT→Option (LS)) (k:LS→Option R) (x0:Tree) (x1:LT):Option R:=
 f98.b' L N self98 k (fun s4 s5 s6 s7 s8 s9 s10=>f98.l0 L N self98 (fun z11 z12 z13 z14 z15 z16=>f98.p0_e1 L N self98 k z11 z12 z13 z14 z15 z16) L s4 s5 s6 s7 s8 s9 s10) (fun s53 s54 s55 s56 s57 s58=>f98.l4 L N self98 (fun z59=>f98.p4_e9 L N self98 k z59) L s53 s54 s55 s56 s57 s58) x0 x1
def f98 (L N:Nat):Nat→Tree→LT→Option (LS)
 |0,_,_=>none
 |n+1,x0,x1=>f98.b L N (f98 L N n) some x0 x1
def f98.ent (L N m:Nat) (args:List AV) (vw:View) (site:Nat):Ans:=match coeD [(.st 1),(.sl (.st 1))] vw args with
 |some (d,u)=>⟨LS,f98 L N m d.1 d.2.1,fun y=>(.row site,u++[(site,some (.row 113 (.st 3) y))],[])⟩
 |none=>Ans.no
def Φ98s (L N m:Nat):Tells:=(addT (Φ135 L N) 98 (f98.ent L N m))
noncomputable def E98 (L N m:Nat):Env:={P:=Tryz.prog,ty:=tyOf,Φ:=Φ98s L N m,inl:=inlT,live:=lives,liveX:=livesX,L:=L,dp:=none,prom:=promT,heal:=healT,ren:=renT}
noncomputable def f98.c0:Code:=loopAt 1 (codeOf Tryz.f98)
def f98.X0_e1 {R:Type} (κ:KX R):=fun z11 z12 z13 z14 z15 z16=>κ (.exit 1) (f98.T0_e1 z11 z12 z13 z14 z15 z16) (f98.H0_e1 z11 z12 z13 z14 z15 z16)
def f98.R0 {R:Type} (rec:KT R):=fun s4 s5 s6 s7 s8 s9 s10=>rec (f98.T0 s4 s5 s6 s7 s8 s9 s10) (f98.H0 s4 s5 s6 s7 s8 s9 s10)
theorem f98.s0_eq {R:Type} (L N m:Nat) (κ:KX R) (rec:KT R) (s4:Int) (s5:Int) (s6:Int) (s7:LT) (s8:LS) (s9:LS) (s10:LS):
  evRd (E98 L N m) (evCallI (E98 L N m) 0 1000) 1000 98 217 1 f98.c0 κ rec (f98.T0 s4 s5 s6 s7 s8 s9 s10) (f98.H0 s4 s5 s6 s7 s8 s9 s10)
  =f98.s0 L N (f98 L N m) (f98.X0_e1 κ) (f98.R0 rec) s4 s5 s6 s7 s8 s9 s10:=by kernel_rfl
theorem f98.l0_eq {R:Type} (L N m:Nat) (κ:KX R):∀(n:Nat) (s4:Int) (s5:Int) (s6:Int) (s7:LT) (s8:LS) (s9:LS) (s10:LS),
  evLp (E98 L N m) (evCallI (E98 L N m) 0 1000) 1000 98 217 1 f98.c0 κ n (f98.T0 s4 s5 s6 s7 s8 s9 s10) (f98.H0 s4 s5 s6 s7 s8 s9 s10)
  =f98.l0 L N (f98 L N m) (f98.X0_e1 κ) n s4 s5 s6 s7 s8 s9 s10:=by
 intro n
 induction n with
 |zero=>intros;rfl
 |succ n ih=>
  intro s4 s5 s6 s7 s8 s9 s10
  rw [evLp_succ,f98.s0_eq]
  delta f98.R0
  simp only [ih]
  rfl
noncomputable def f98.c1:Code:=loopAt 3 (codeOf Tryz.f98)
def f98.X1_e3 {R:Type} (κ:KX R):=fun z24 z25 z26=>κ (.exit 3) (f98.T1_e3 z24 z25 z26) (f98.H1_e3 z24 z25 z26)
def f98.R1 {R:Type} (rec:KT R):=fun s17 s18 s19 s20 s21 s22 s23=>rec (f98.T1 s17 s18 s19 s20 s21 s22 s23) (f98.H1 s17 s18 s19 s20 s21 s22 s23)
theorem f98.s1_eq {R:Type} (L N m:Nat) (κ:KX R) (rec:KT R) (s17:Int) (s18:Int) (s19:Int) (s20:LT) (s21:LS) (s22:LS) (s23:LS):
  evRd (E98 L N m) (evCallI (E98 L N m) 0 1000) 1000 98 217 3 f98.c1 κ rec (f98.T1 s17 s18 s19 s20 s21 s22 s23) (f98.H1 s17 s18 s19 s20 s21 s22 s23)
  =f98.s1 L N (f98 L N m) (f98.X1_e3 κ) (f98.R1 rec) s17 s18 s19 s20 s21 s22 s23:=by kernel_rfl
theorem f98.l1_eq {R:Type} (L N m:Nat) (κ:KX R):∀(n:Nat) (s17:Int) (s18:Int) (s19:Int) (s20:LT) (s21:LS) (s22:LS) (s23:LS),
  evLp (E98 L N m) (evCallI (E98 L N m) 0 1000) 1000 98 217 3 f98.c1 κ n (f98.T1 s17 s18 s19 s20 s21 s22 s23) (f98.H1 s17 s18 s19 s20 s21 s22 s23)
  =f98.l1 L N (f98 L N m) (f98.X1_e3 κ) n s17 s18 s19 s20 s21 s22 s23:=by
 intro n
 induction n with
 |zero=>intros;rfl
 |succ n ih=>
  intro s17 s18 s19 s20 s21 s22 s23
  rw [evLp_succ,f98.s1_eq]
  delta f98.R1
  simp only [ih]
  rfl
noncomputable def f98.c2:Code:=loopAt 5 (codeOf Tryz.f98)
noncomputable def f98.c3:Code:=loopAt 7 f98.c2
def f98.X3_e7 {R:Type} (κ:KX R):=fun z37 z38 z39 z40=>κ (.exit 7) (f98.T3_e7 z37 z38 z39 z40) (f98.H3_e7 z37 z38 z39 z40)
def f98.R3 {R:Type} (rec:KT R):=fun s32 s33 s34 s35 s36=>rec (f98.T3 s32 s33 s34 s35 s36) (f98.H3 s32 s33 s34 s35 s36)
theorem f98.s3_eq {R:Type} (L N m:Nat) (κ:KX R) (rec:KT R) (s32:Int) (s33:Int) (s34:LS) (s35:LS) (s36:LS):
  evRd (E98 L N m) (evCallI (E98 L N m) 0 1000) 1000 98 217 7 f98.c3 κ rec (f98.T3 s32 s33 s34 s35 s36) (f98.H3 s32 s33 s34 s35 s36)
  =f98.s3 L N (f98 L N m) (f98.X3_e7 κ) (f98.R3 rec) s32 s33 s34 s35 s36:=by kernel_rfl
theorem f98.l3_eq {R:Type} (L N m:Nat) (κ:KX R):∀(n:Nat) (s32:Int) (s33:Int) (s34:LS) (s35:LS) (s36:LS),
  evLp (E98 L N m) (evCallI (E98 L N m) 0 1000) 1000 98 217 7 f98.c3 κ n (f98.T3 s32 s33 s34 s35 s36) (f98.H3 s32 s33 s34 s35 s36)
  =f98.l3 L N (f98 L N m) (f98.X3_e7 κ) n s32 s33 s34 s35 s36:=by
 intro n
 induction n with
 |zero=>intros;rfl
 |succ n ih=>
  intro s32 s33 s34 s35 s36
  rw [evLp_succ,f98.s3_eq]
  delta f98.R3
  simp only [ih]
  rfl
def f98.X2_e5 {R:Type} (κ:KX R):=fun z31=>κ (.exit 5) (f98.T2_e5 z31) (f98.H2_e5 z31)
def f98.R2 {R:Type} (rec:KT R):=fun s27 s28 s29 s30=>rec (f98.T2 s27 s28 s29 s30) (f98.H2 s27 s28 s29 s30)
theorem f98.p3_e7_eq {R:Type} (L N m:Nat) (κ:KX R) (rec:KT R) (z37:Int) (z38:LS) (z39:LS) (z40:LS):
  (contAt (E98 L N m) (evCallI (E98 L N m) 0 1000) 1000 98 217 7 f98.c2 (rdK (E98 L N m) 1000 98 217 5 κ rec)) (.exit 7) (f98.T3_e7 z37 z38 z39 z40) (f98.H3_e7 z37 z38 z39 z40)
  =f98.p3_e7 L N (f98 L N m) (f98.X2_e5 κ) (f98.R2 rec) z37 z38 z39 z40:=by kernel_rfl
theorem f98.s2_eq {R:Type} (L N m:Nat) (κ:KX R) (rec:KT R) (s27:Int) (s28:LS) (s29:LS) (s30:LS):
  evRd (E98 L N m) (evCallI (E98 L N m) 0 1000) 1000 98 217 5 f98.c2 κ rec (f98.T2 s27 s28 s29 s30) (f98.H2 s27 s28 s29 s30)
  =f98.s2 L N (f98 L N m) (f98.X2_e5 κ) (f98.R2 rec) s27 s28 s29 s30:=by
 refine Eq.trans (b:=f98.s2' L N (f98 L N m) (f98.X2_e5 κ) (f98.R2 rec) (fun s32 s33 s34 s35 s36=>evLp (E98 L N m) (evCallI (E98 L N m) 0 1000) 1000 98 217 7 f98.c3 (contAt (E98 L N m) (evCallI (E98 L N m) 0 1000) 1000 98 217 7 f98.c2 (rdK (E98 L N m) 1000 98 217 5 κ rec)) L (f98.T3 s32 s33 s34 s35 s36) (f98.H3 s32 s33 s34 s35 s36)) s27 s28 s29 s30) (by kernel_rfl) ?_
 unfold f98.s2
 simp only [f98.l3_eq]
 delta f98.X3_e7
 simp only [f98.p3_e7_eq]
theorem f98.l2_eq {R:Type} (L N m:Nat) (κ:KX R):∀(n:Nat) (s27:Int) (s28:LS) (s29:LS) (s30:LS),
  evLp (E98 L N m) (evCallI (E98 L N m) 0 1000) 1000 98 217 5 f98.c2 κ n (f98.T2 s27 s28 s29 s30) (f98.H2 s27 s28 s29 s30)
  =f98.l2 L N (f98 L N m) (f98.X2_e5 κ) n s27 s28 s29 s30:=by
 intro n
 induction n with
 |zero=>intros;rfl
 |succ n ih=>
  intro s27 s28 s29 s30
  rw [evLp_succ,f98.s2_eq]
  delta f98.R2
  simp only [ih]
  rfl
theorem f98.p2_e5_eq {R:Type} (L N m:Nat) (κ:List Step→Option R) (z31:LS):
  (contAt (E98 L N m) (evCallI (E98 L N m) 0 1000) 1000 98 217 5 (codeOf Tryz.f98) (finK (E98 L N m) 1000 Tryz.f98 (finRow 113 (.st 3) κ))) (.exit 5) (f98.T2_e5 z31) (f98.H2_e5 z31)
  =f98.p2_e5 L N (f98 L N m) κ z31:=by kernel_rfl
theorem f98.p1_e3_eq {R:Type} (L N m:Nat) (κ:List Step→Option R) (z24:LS) (z25:LS) (z26:LS):
  (contAt (E98 L N m) (evCallI (E98 L N m) 0 1000) 1000 98 217 3 (codeOf Tryz.f98) (finK (E98 L N m) 1000 Tryz.f98 (finRow 113 (.st 3) κ))) (.exit 3) (f98.T1_e3 z24 z25 z26) (f98.H1_e3 z24 z25 z26)
  =f98.p1_e3 L N (f98 L N m) κ z24 z25 z26:=by
 refine Eq.trans (b:=f98.p1_e3' L N (f98 L N m) κ (fun s27 s28 s29 s30=>evLp (E98 L N m) (evCallI (E98 L N m) 0 1000) 1000 98 217 5 f98.c2 (contAt (E98 L N m) (evCallI (E98 L N m) 0 1000) 1000 98 217 5 (codeOf Tryz.f98) (finK (E98 L N m) 1000 Tryz.f98 (finRow 113 (.st 3) κ))) L (f98.T2 s27 s28 s29 s30) (f98.H2 s27 s28 s29 s30)) z24 z25 z26) (by kernel_rfl) ?_
 unfold f98.p1_e3
 simp only [f98.l2_eq]
 delta f98.X2_e5
 simp only [f98.p2_e5_eq]
theorem f98.p0_e1_eq {R:Type} (L N m:Nat) (κ:List Step→Option R) (z11:Int) (z12:Int) (z13:LT) (z14:LS) (z15:LS) (z16:LS):
  (contAt (E98 L N m) (evCallI (E98 L N m) 0 1000) 1000 98 217 1 (codeOf Tryz.f98) (finK (E98 L N m) 1000 Tryz.f98 (finRow 113 (.st 3) κ))) (.exit 1) (f98.T0_e1 z11 z12 z13 z14 z15 z16) (f98.H0_e1 z11 z12 z13 z14 z15 z16)
  =f98.p0_e1 L N (f98 L N m) κ z11 z12 z13 z14 z15 z16:=by
 refine Eq.trans (b:=f98.p0_e1' L N (f98 L N m) κ (fun s17 s18 s19 s20 s21 s22 s23=>evLp (E98 L N m) (evCallI (E98 L N m) 0 1000) 1000 98 217 3 f98.c1 (contAt (E98 L N m) (evCallI (E98 L N m) 0 1000) 1000 98 217 3 (codeOf Tryz.f98) (finK (E98 L N m) 1000 Tryz.f98 (finRow 113 (.st 3) κ))) L (f98.T1 s17 s18 s19 s20 s21 s22 s23) (f98.H1 s17 s18 s19 s20 s21 s22 s23)) z11 z12 z13 z14 z15 z16) (by kernel_rfl) ?_
 unfold f98.p0_e1
 simp only [f98.l1_eq]
 delta f98.X1_e3
 simp only [f98.p1_e3_eq]
noncomputable def f98.c4:Code:=loopAt 9 (codeOf Tryz.f98)
def f98.X4_e9 {R:Type} (κ:KX R):=fun z59=>κ (.exit 9) (f98.T4_e9 z59) (f98.H4_e9 z59)
def f98.R4 {R:Type} (rec:KT R):=fun s53 s54 s55 s56 s57 s58=>rec (f98.T4 s53 s54 s55 s56 s57 s58) (f98.H4 s53 s54 s55 s56 s57 s58)
theorem f98.s4_eq {R:Type} (L N m:Nat) (κ:KX R) (rec:KT R) (s53:Int) (s54:Int) (s55:Int) (s56:LT) (s57:LS) (s58:LS):
  evRd (E98 L N m) (evCallI (E98 L N m) 0 1000) 1000 98 217 9 f98.c4 κ rec (f98.T4 s53 s54 s55 s56 s57 s58) (f98.H4 s53 s54 s55 s56 s57 s58)
  =f98.s4 L N (f98 L N m) (f98.X4_e9 κ) (f98.R4 rec) s53 s54 s55 s56 s57 s58:=by kernel_rfl
theorem f98.l4_eq {R:Type} (L N m:Nat) (κ:KX R):∀(n:Nat) (s53:Int) (s54:Int) (s55:Int) (s56:LT) (s57:LS) (s58:LS),
  evLp (E98 L N m) (evCallI (E98 L N m) 0 1000) 1000 98 217 9 f98.c4 κ n (f98.T4 s53 s54 s55 s56 s57 s58) (f98.H4 s53 s54 s55 s56 s57 s58)
  =f98.l4 L N (f98 L N m) (f98.X4_e9 κ) n s53 s54 s55 s56 s57 s58:=by
 intro n
 induction n with
 |zero=>intros;rfl
 |succ n ih=>
  intro s53 s54 s55 s56 s57 s58
  rw [evLp_succ,f98.s4_eq]
  delta f98.R4
  simp only [ih]
  rfl
theorem f98.p4_e9_eq {R:Type} (L N m:Nat) (κ:List Step→Option R) (z59:LS):
  (contAt (E98 L N m) (evCallI (E98 L N m) 0 1000) 1000 98 217 9 (codeOf Tryz.f98) (finK (E98 L N m) 1000 Tryz.f98 (finRow 113 (.st 3) κ))) (.exit 9) (f98.T4_e9 z59) (f98.H4_e9 z59)
  =f98.p4_e9 L N (f98 L N m) κ z59:=by kernel_rfl
theorem f98.b_eq {R:Type} (L N m:Nat) (κ:List Step→Option R) (x0:Tree) (x1:LT):
  evBody (E98 L N m) (evCallI (E98 L N m) 0 1000) 1000 98 Tryz.f98 [(.tv (.st 1) x0),(.tv (.sl (.st 1)) x1)] [] [] (finRow 113 (.st 3) κ)
  =f98.b L N (f98 L N m) κ x0 x1:=by
 refine Eq.trans (b:=f98.b' L N (f98 L N m) κ (fun s4 s5 s6 s7 s8 s9 s10=>evLp (E98 L N m) (evCallI (E98 L N m) 0 1000) 1000 98 217 1 f98.c0 (contAt (E98 L N m) (evCallI (E98 L N m) 0 1000) 1000 98 217 1 (codeOf Tryz.f98) (finK (E98 L N m) 1000 Tryz.f98 (finRow 113 (.st 3) κ))) L (f98.T0 s4 s5 s6 s7 s8 s9 s10) (f98.H0 s4 s5 s6 s7 s8 s9 s10)) (fun s53 s54 s55 s56 s57 s58=>evLp (E98 L N m) (evCallI (E98 L N m) 0 1000) 1000 98 217 9 f98.c4 (contAt (E98 L N m) (evCallI (E98 L N m) 0 1000) 1000 98 217 9 (codeOf Tryz.f98) (finK (E98 L N m) 1000 Tryz.f98 (finRow 113 (.st 3) κ))) L (f98.T4 s53 s54 s55 s56 s57 s58) (f98.H4 s53 s54 s55 s56 s57 s58)) x0 x1) (by kernel_rfl) ?_
 unfold f98.b
 simp only [f98.l0_eq,f98.l4_eq]
 delta f98.X0_e1 f98.X4_e9
 simp only [f98.p0_e1_eq,f98.p4_e9_eq]
theorem f98.ok (L N m:Nat) (hΦ:TellsOk Tryz.prog (Φ98s L N m)):EntOk Tryz.prog 98 (f98.ent L N (m+1)):=by
 intro args vw site h
 unfold f98.ent
 split
 ·rename_i d u ha
  intro y hy hs
  refine call_row (dep:=1000) (E:=(E98 L N m)) (sound_of hΦ) okP (callI_sound (sound_of hΦ) okP 0 1000) (f:=Tryz.f98) rfl hs ha ?_ site
  exact (f98.b_eq L N m some d.1 d.2.1).trans hy
 ·intro y hy
  cases hy
theorem Φ98s_ok (L N:Nat):∀m,TellsOk Tryz.prog (Φ98s L N m):=by
 intro m
 induction m with
 |zero=>exact (addT_ok (Φ135_ok L N) (fun args vw site h=>by unfold f98.ent;split<;>(intro y hy;cases hy)))
 |succ m ih=>exact (addT_ok (Φ135_ok L N) (f98.ok L N m ih))
def Φ98 (L N:Nat):Tells:=(addT (Φ135 L N) 98 (f98.ent L N N))
theorem Φ98_ok (L N:Nat):TellsOk Tryz.prog (Φ98 L N):=Φ98s_ok L N N
def f136.b' {R:Type} (L N:Nat) (self136:Int→Option (ByteArray)) (k:ByteArray→Option R) (x0:Int):Option R:=
 bif (decide (x0<(-9223372036854775807:Int))) then
  k (ByteArray.mk #[45,57,50,50,51,51,55,50,48,51,54,56,53,52,55,55,53,56,48,56])
 else bif (decide (x0<(0:Int))) then
  (self136 (wi (0-x0))).bind fun y0=>
  bif (decide ((ByteArray.mk #[45]).size+y0.size≤4611686018427387904)) then
   k ((ByteArray.mk #[45])++y0)
  else none
 else bif (decide (x0<(10:Int))) then
  k (strOfNums ([(IntKind.wrap .u8 ((wi ((48:Int)+x0))))]:LI))
 else bif (decide ((10:Int)=0)) then
  none
 else (self136 (wi (Int.tdiv x0 (10:Int)))).bind fun y1=>
 bif (decide ((10:Int)=0)) then
  none
 else bif (decide (y1.size+(strOfNums ([(IntKind.wrap .u8 ((wi ((48:Int)+(Int.tmod x0 (10:Int))))))]:LI)).size≤4611686018427387904)) then
  k (y1++(strOfNums ([(IntKind.wrap .u8 ((wi ((48:Int)+(Int.tmod x0 (10:Int))))))]:LI)))
 else none
def f136.b {R:Type} (L N:Nat) (self136:Int→Option (ByteArray)) (k:ByteArray→Option R) (x0:Int):Option R:=
 f136.b' L N self136 k x0
def f136 (L N:Nat):Nat→Int→Option (ByteArray)
 |0,_=>none
 |n+1,x0=>f136.b L N (f136 L N n) some x0
def f136.ent (L N m:Nat):=entRo [i64] (.one .str) fun d=>f136 L N m d.1
def Φ136s (L N m:Nat):Tells:=(addT (Φ98 L N) 136 (f136.ent L N m))
noncomputable def E136 (L N m:Nat):Env:={P:=Tryz.prog,ty:=tyOf,Φ:=Φ136s L N m,inl:=inlT,live:=lives,liveX:=livesX,L:=L,dp:=none,prom:=promT,heal:=healT,ren:=renT}
theorem f136.b_eq {R:Type} (L N m:Nat) (κ:AV→Option R) (x0:Int):
  evBody (E136 L N m) (evCallI (E136 L N m) 0 1000) 1000 136 Tryz.f136 [(.tv i64 x0)] [] [] (finC (.one .str) κ)
  =f136.b L N (f136 L N m) (fun a0=>κ (.tv .str a0)) x0:=by kernel_rfl
theorem f136.ok (L N m:Nat) (hΦ:TellsOk Tryz.prog (Φ136s L N m)):EntOk Tryz.prog 136 (f136.ent L N (m+1)):=entRo_ok (E:=(E136 L N m)) (dep:=1000) (f:=Tryz.f136) (sound_of hΦ) okP (callI_sound (sound_of hΦ) okP 0 1000) rfl rfl fun d _ hy=>(f136.b_eq L N m (unR (.one .str)) d.1).trans (Eq.trans (b:=f136.b L N (f136 L N m) some d.1) (by kernel_rfl) hy)
theorem Φ136s_ok (L N:Nat):∀m,TellsOk Tryz.prog (Φ136s L N m):=by
 intro m
 induction m with
 |zero=>exact (addT_ok (Φ98_ok L N) (entRo_no fun _=>rfl))
 |succ m ih=>exact (addT_ok (Φ98_ok L N) (f136.ok L N m ih))
def Φ136 (L N:Nat):Tells:=(addT (Φ98 L N) 136 (f136.ent L N N))
theorem Φ136_ok (L N:Nat):TellsOk Tryz.prog (Φ136 L N):=Φ136s_ok L N N
def f137.b' {R:Type} (L N:Nat) (k:LY→Option R):Option R:=
 k ([(ByteArray.mk #[]),(ByteArray.mk #[97,99,116]),(ByteArray.mk #[115,117,109]),(ByteArray.mk #[112,97,114]),(ByteArray.mk #[104,105,100,101])]:LY)
def f137.b {R:Type} (L N:Nat) (k:LY→Option R):Option R:=
 f137.b' L N k
def f137 (L N:Nat):Option (LY):=f137.b L N some
def f137.ent (L N:Nat):=entDa [] (.one (.sl .str)) fun d=>f137 L N
noncomputable def E137 (L N:Nat):Env:={P:=Tryz.prog,ty:=tyOf,Φ:=(Φ136 L N),inl:=inlT,live:=lives,liveX:=livesX,L:=L,dp:=none,prom:=promT,heal:=healT,ren:=renT}
theorem f137.b_eq {R:Type} (L N:Nat) (κ:AV→Option R):
  evBody (E137 L N) (evCallI (E137 L N) 0 1000) 1000 137 Tryz.f137 [] [] [] (finC (.one (.sl .str)) κ)
  =f137.b L N (fun a0=>κ (.tv (.sl .str) a0)):=by kernel_rfl
theorem f137.ok (L N:Nat) (hΦ:TellsOk Tryz.prog ((Φ136 L N))):EntOk Tryz.prog 137 (f137.ent L N):=entDa_ok (E:=(E137 L N)) (dep:=1000) (f:=Tryz.f137) (sound_of hΦ) okP (callI_sound (sound_of hΦ) okP 0 1000) rfl fun _ _ hy=>(f137.b_eq L N (unR (.one (.sl .str)))).trans (Eq.trans (b:=f137.b L N some) (by kernel_rfl) hy)
def Φ137 (L N:Nat):Tells:=(addT (Φ136 L N) 137 (f137.ent L N))
theorem Φ137_ok (L N:Nat):TellsOk Tryz.prog (Φ137 L N):=addT_ok (Φ136_ok L N) (f137.ok L N (Φ136_ok L N))
def f138.b' {R:Type} (L N:Nat) (k:ByteArray→Option R) (x0:Int):Option R:=
 bif (x0==(0:Int)) then
  k (ByteArray.mk #[116,97,117])
 else bif (decide (x0<(0:Int))) then
  (f135 L N x0).bind fun y0=>
  (f135 L N x0).bind fun y1=>
  bif (slB y0 (wi (y1+(1:Int))) (ByteArray.mk #[97,98,99,100]).size) then
   bif (decide ((ByteArray.mk #[33]).size+((ByteArray.mk #[97,98,99,100]).extract y0.toNat (wi (y1+(1:Int))).toNat).size≤4611686018427387904)) then
    k ((ByteArray.mk #[33])++((ByteArray.mk #[97,98,99,100]).extract y0.toNat (wi (y1+(1:Int))).toNat))
   else none
  else none
 else (f135 L N x0).bind fun y2=>
 (f135 L N x0).bind fun y3=>
 bif (slB y2 (wi (y3+(1:Int))) (ByteArray.mk #[97,98,99,100]).size) then
  k ((ByteArray.mk #[97,98,99,100]).extract y2.toNat (wi (y3+(1:Int))).toNat)
 else none
def f138.b {R:Type} (L N:Nat) (k:ByteArray→Option R) (x0:Int):Option R:=
 f138.b' L N k x0
def f138 (L N:Nat) (x0:Int):Option (ByteArray):=f138.b L N some x0
def f138.ent (L N:Nat):=entRo [i64] (.one .str) fun d=>f138 L N d.1
noncomputable def E138 (L N:Nat):Env:={P:=Tryz.prog,ty:=tyOf,Φ:=(Φ137 L N),inl:=inlT,live:=lives,liveX:=livesX,L:=L,dp:=none,prom:=promT,heal:=healT,ren:=renT}
theorem f138.b_eq {R:Type} (L N:Nat) (κ:AV→Option R) (x0:Int):
  evBody (E138 L N) (evCallI (E138 L N) 0 1000) 1000 138 Tryz.f138 [(.tv i64 x0)] [] [] (finC (.one .str) κ)
  =f138.b L N (fun a0=>κ (.tv .str a0)) x0:=by kernel_rfl
theorem f138.ok (L N:Nat) (hΦ:TellsOk Tryz.prog ((Φ137 L N))):EntOk Tryz.prog 138 (f138.ent L N):=entRo_ok (E:=(E138 L N)) (dep:=1000) (f:=Tryz.f138) (sound_of hΦ) okP (callI_sound (sound_of hΦ) okP 0 1000) rfl rfl fun d _ hy=>(f138.b_eq L N (unR (.one .str)) d.1).trans (Eq.trans (b:=f138.b L N some d.1) (by kernel_rfl) hy)
def Φ138 (L N:Nat):Tells:=(addT (Φ137 L N) 138 (f138.ent L N))
theorem Φ138_ok (L N:Nat):TellsOk Tryz.prog (Φ138 L N):=addT_ok (Φ137_ok L N) (f138.ok L N (Φ137_ok L N))
def f99.s0' {R:Type} (L N:Nat) (self99:Tree→Option (ByteArray)) (k0_e1:ByteArray→Option R) (rec0:ByteArray→Int→Int→Int→LT→Option R) (s12:ByteArray) (s13:Int) (s14:Int) (s15:Int) (s16:LT):Option R:=
 bif (decide (s13<(s16.length:Int))) then
  bif (decide (s12.size+(ByteArray.mk #[32]).size≤4611686018427387904)) then
   bif (decide (0≤s13)&&decide (s13<(s16.length:Int))) then
    (self99 (listAt s16 (Ty.dflt (.st 1)) s13.toNat)).bind fun y18=>
    bif (decide ((s12++(ByteArray.mk #[32])).size+y18.size≤4611686018427387904)) then
     rec0 ((s12++(ByteArray.mk #[32]))++y18) (wi (s13+(1:Int))) s14 s15 s16
    else none
   else none
  else none
 else k0_e1 s12
def f99.s0 {R:Type} (L N:Nat) (self99:Tree→Option (ByteArray)) (k0_e1:ByteArray→Option R) (rec0:ByteArray→Int→Int→Int→LT→Option R) (s12:ByteArray) (s13:Int) (s14:Int) (s15:Int) (s16:LT):Option R:=
 f99.s0' L N self99 k0_e1 rec0 s12 s13 s14 s15 s16
def f99.l0 {R:Type} (L N:Nat) (self99:Tree→Option (ByteArray)) (k0_e1:ByteArray→Option R):Nat→ByteArray→Int→Int→Int→LT→Option R
 |0,_,_,_,_,_=>none
 |n+1,s12,s13,s14,s15,s16=>f99.s0 L N self99 k0_e1 (f99.l0 L N self99 k0_e1 n) s12 s13 s14 s15 s16
def f99.T0 (s12:ByteArray) (s13:Int) (s14:Int) (s15:Int) (s16:LT):T:=mkT 58 [(1,(.ptr 1001 0)),(3,(.tv .str s12)),(4,(.tv i64 s13))]
def f99.H0 (s12:ByteArray) (s13:Int) (s14:Int) (s15:Int) (s16:LT):H:=[(1001,(.box [(.tv i64 s14),(.tv i64 s15),(.tv (.sl (.st 1)) s16)]))]
def f99.T0_e1 (z17:ByteArray):T:=mkT 58 [(3,(.tv .str z17))]
def f99.H0_e1 (z17:ByteArray):H:=[]
def f99.p0_e1' {R:Type} (L N:Nat) (self99:Tree→Option (ByteArray)) (k:ByteArray→Option R) (z17:ByteArray):Option R:=
 bif (decide (z17.size+(ByteArray.mk #[41]).size≤4611686018427387904)) then
  k (z17++(ByteArray.mk #[41]))
 else none
def f99.p0_e1 {R:Type} (L N:Nat) (self99:Tree→Option (ByteArray)) (k:ByteArray→Option R) (z17:ByteArray):Option R:=
 f99.p0_e1' L N self99 k z17
def f99.j0' {R:Type} (L N:Nat) (self99:Tree→Option (ByteArray)) (k:ByteArray→Option R) (w0:ByteArray→Int→Int→Int→LT→Option R) (v8:ByteArray) (v9:Int) (v10:Int) (v11:LT):Option R:=
 w0 v8 (0:Int) v9 v10 v11
def f99.j1' {R:Type} (L N:Nat) (self99:Tree→Option (ByteArray)) (k:ByteArray→Option R) (w0:ByteArray→Int→Int→Int→LT→Option R) (v3:ByteArray) (v4:Int) (v5:Int) (v6:LT):Option R:=
 bif (v4==(4:Int)) then
  bif (decide (v3.size+(ByteArray.mk #[32]).size≤4611686018427387904)) then
   (f138 L N (wi (v5+(1:Int)))).bind fun y7=>
   bif (decide ((v3++(ByteArray.mk #[32])).size+y7.size≤4611686018427387904)) then
    f99.j0' L N self99 k w0 ((v3++(ByteArray.mk #[32]))++y7) v4 v5 v6
   else none
  else none
 else f99.j0' L N self99 k w0 v3 v4 v5 v6
def f99.b' {R:Type} (L N:Nat) (self99:Tree→Option (ByteArray)) (k:ByteArray→Option R) (w0:ByteArray→Int→Int→Int→LT→Option R) (x0:Tree):Option R:=
 bif (x0.op==(0:Int)) then
  k (ByteArray.mk #[48])
 else bif (x0.op==(5:Int)) then
  (f136 L N N x0.n).bind fun y0=>
  bif (decide ((ByteArray.mk #[88]).size+y0.size≤4611686018427387904)) then
   k ((ByteArray.mk #[88])++y0)
  else none
 else (f137 L N).bind fun y1=>
 bif (decide (0≤x0.op)&&decide (x0.op<(y1.length:Int))) then
  bif (decide ((ByteArray.mk #[40]).size+(listAt y1 ByteArray.empty x0.op.toNat).size≤4611686018427387904)) then
   bif (x0.op==(1:Int)) then
    bif (decide (((ByteArray.mk #[40])++(listAt y1 ByteArray.empty x0.op.toNat)).size+(ByteArray.mk #[32]).size≤4611686018427387904)) then
     (f138 L N x0.n).bind fun y2=>
     bif (decide ((((ByteArray.mk #[40])++(listAt y1 ByteArray.empty x0.op.toNat))++(ByteArray.mk #[32])).size+y2.size≤4611686018427387904)) then
      f99.j1' L N self99 k w0 ((((ByteArray.mk #[40])++(listAt y1 ByteArray.empty x0.op.toNat))++(ByteArray.mk #[32]))++y2) x0.op x0.n x0.parts
     else none
    else none
   else f99.j1' L N self99 k w0 ((ByteArray.mk #[40])++(listAt y1 ByteArray.empty x0.op.toNat)) x0.op x0.n x0.parts
  else none
 else none
def f99.b {R:Type} (L N:Nat) (self99:Tree→Option (ByteArray)) (k:ByteArray→Option R) (x0:Tree):Option R:=
 f99.b' L N self99 k (fun s12 s13 s14 s15 s16=>f99.l0 L N self99 (fun z17=>f99.p0_e1 L N self99 k z17) L s12 s13 s14 s15 s16) x0
def f99 (L N:Nat):Nat→Tree→Option (ByteArray)
 |0,_=>none
 |n+1,x0=>f99.b L N (f99 L N n) some x0
def f99.ent (L N m:Nat):=entRo [(.st 1)] (.one .str) fun d=>f99 L N m d.1
def Φ99s (L N m:Nat):Tells:=(addT (Φ138 L N) 99 (f99.ent L N m))
noncomputable def E99 (L N m:Nat):Env:={P:=Tryz.prog,ty:=tyOf,Φ:=Φ99s L N m,inl:=inlT,live:=lives,liveX:=livesX,L:=L,dp:=none,prom:=promT,heal:=healT,ren:=renT}
noncomputable def f99.c0:Code:=loopAt 1 (codeOf Tryz.f99)
def f99.X0_e1 {R:Type} (κ:KX R):=fun z17=>κ (.exit 1) (f99.T0_e1 z17) (f99.H0_e1 z17)
def f99.R0 {R:Type} (rec:KT R):=fun s12 s13 s14 s15 s16=>rec (f99.T0 s12 s13 s14 s15 s16) (f99.H0 s12 s13 s14 s15 s16)
theorem f99.s0_eq {R:Type} (L N m:Nat) (κ:KX R) (rec:KT R) (s12:ByteArray) (s13:Int) (s14:Int) (s15:Int) (s16:LT):
  evRd (E99 L N m) (evCallI (E99 L N m) 0 1000) 1000 99 58 1 f99.c0 κ rec (f99.T0 s12 s13 s14 s15 s16) (f99.H0 s12 s13 s14 s15 s16)
  =f99.s0 L N (f99 L N m) (f99.X0_e1 κ) (f99.R0 rec) s12 s13 s14 s15 s16:=by kernel_rfl
theorem f99.l0_eq {R:Type} (L N m:Nat) (κ:KX R):∀(n:Nat) (s12:ByteArray) (s13:Int) (s14:Int) (s15:Int) (s16:LT),
  evLp (E99 L N m) (evCallI (E99 L N m) 0 1000) 1000 99 58 1 f99.c0 κ n (f99.T0 s12 s13 s14 s15 s16) (f99.H0 s12 s13 s14 s15 s16)
  =f99.l0 L N (f99 L N m) (f99.X0_e1 κ) n s12 s13 s14 s15 s16:=by
 intro n
 induction n with
 |zero=>intros;rfl
 |succ n ih=>
  intro s12 s13 s14 s15 s16
  rw [evLp_succ,f99.s0_eq]
  delta f99.R0
  simp only [ih]
  rfl
theorem f99.p0_e1_eq {R:Type} (L N m:Nat) (κ:AV→Option R) (z17:ByteArray):
  (contAt (E99 L N m) (evCallI (E99 L N m) 0 1000) 1000 99 58 1 (codeOf Tryz.f99) (finK (E99 L N m) 1000 Tryz.f99 (finC (.one .str) κ))) (.exit 1) (f99.T0_e1 z17) (f99.H0_e1 z17)
  =f99.p0_e1 L N (f99 L N m) (fun a0=>κ (.tv .str a0)) z17:=by kernel_rfl
theorem f99.b_eq {R:Type} (L N m:Nat) (κ:AV→Option R) (x0:Tree):
  evBody (E99 L N m) (evCallI (E99 L N m) 0 1000) 1000 99 Tryz.f99 [(.tv (.st 1) x0)] [] [] (finC (.one .str) κ)
  =f99.b L N (f99 L N m) (fun a0=>κ (.tv .str a0)) x0:=by
 refine Eq.trans (b:=f99.b' L N (f99 L N m) (fun a0=>κ (.tv .str a0)) (fun s12 s13 s14 s15 s16=>evLp (E99 L N m) (evCallI (E99 L N m) 0 1000) 1000 99 58 1 f99.c0 (contAt (E99 L N m) (evCallI (E99 L N m) 0 1000) 1000 99 58 1 (codeOf Tryz.f99) (finK (E99 L N m) 1000 Tryz.f99 (finC (.one .str) κ))) L (f99.T0 s12 s13 s14 s15 s16) (f99.H0 s12 s13 s14 s15 s16)) x0) (by kernel_rfl) ?_
 unfold f99.b
 simp only [f99.l0_eq]
 delta f99.X0_e1
 simp only [f99.p0_e1_eq]
theorem f99.ok (L N m:Nat) (hΦ:TellsOk Tryz.prog (Φ99s L N m)):EntOk Tryz.prog 99 (f99.ent L N (m+1)):=entRo_ok (E:=(E99 L N m)) (dep:=1000) (f:=Tryz.f99) (sound_of hΦ) okP (callI_sound (sound_of hΦ) okP 0 1000) rfl rfl fun d _ hy=>(f99.b_eq L N m (unR (.one .str)) d.1).trans (Eq.trans (b:=f99.b L N (f99 L N m) some d.1) (by kernel_rfl) hy)
theorem Φ99s_ok (L N:Nat):∀m,TellsOk Tryz.prog (Φ99s L N m):=by
 intro m
 induction m with
 |zero=>exact (addT_ok (Φ138_ok L N) (entRo_no fun _=>rfl))
 |succ m ih=>exact (addT_ok (Φ138_ok L N) (f99.ok L N m ih))
def Φ99 (L N:Nat):Tells:=(addT (Φ138 L N) 99 (f99.ent L N N))
theorem Φ99_ok (L N:Nat):TellsOk Tryz.prog (Φ99 L N):=Φ99s_ok L N N
def f100.s0' {R:Type} (L N:Nat) (k0_e0:Int→Int→Int→Int→LT→Option R) (rec0:LT→Int→Int→Int→Int→Int→LT→Option R) (s0:LT) (s1:Int) (s2:Int) (s3:Int) (s4:Int) (s5:Int) (s6:LT):Option R:=
 bif (decide (s1≥(0:Int))) then
  bif (decide (0≤s1)&&decide (s1<(s0.length:Int))) then
   rec0 s0 (wi (s1-(1:Int))) s2 s3 ((Tree.mk (2:Int) (0:Int) ([(listAt s0 (Ty.dflt (.st 1)) s1.toNat),(Tree.mk s4 s5 s6)]:LT)).op) ((Tree.mk (2:Int) (0:Int) ([(listAt s0 (Ty.dflt (.st 1)) s1.toNat),(Tree.mk s4 s5 s6)]:LT)).n) ((Tree.mk (2:Int) (0:Int) ([(listAt s0 (Ty.dflt (.st 1)) s1.toNat),(Tree.mk s4 s5 s6)]:LT)).parts)
  else none
 else k0_e0 s2 s3 s4 s5 s6
def f100.s0 {R:Type} (L N:Nat) (k0_e0:Int→Int→Int→Int→LT→Option R) (rec0:LT→Int→Int→Int→Int→Int→LT→Option R) (s0:LT) (s1:Int) (s2:Int) (s3:Int) (s4:Int) (s5:Int) (s6:LT):Option R:=
 f100.s0' L N k0_e0 rec0 s0 s1 s2 s3 s4 s5 s6
def f100.l0 {R:Type} (L N:Nat) (k0_e0:Int→Int→Int→Int→LT→Option R):Nat→LT→Int→Int→Int→Int→Int→LT→Option R
 |0,_,_,_,_,_,_,_=>none
 |n+1,s0,s1,s2,s3,s4,s5,s6=>f100.s0 L N k0_e0 (f100.l0 L N k0_e0 n) s0 s1 s2 s3 s4 s5 s6
def f100.T0 (s0:LT) (s1:Int) (s2:Int) (s3:Int) (s4:Int) (s5:Int) (s6:LT):T:=mkT 30 [(0,(.tv (.sl (.st 1)) s0)),(2,(.ptr 1002 0)),(3,(.ptr 1003 0)),(4,(.tv i64 s1))]
def f100.H0 (s0:LT) (s1:Int) (s2:Int) (s3:Int) (s4:Int) (s5:Int) (s6:LT):H:=[(1002,(.box [(.tv i64 s2),(.tv i64 s3),.nil])),(1003,(.box [(.tv i64 s4),(.tv i64 s5),(.tv (.sl (.st 1)) s6)]))]
def f100.T0_e0 (z7:Int) (z8:Int) (z9:Int) (z10:Int) (z11:LT):T:=mkT 30 [(2,(.ptr 1002 0)),(3,(.ptr 1003 0))]
def f100.H0_e0 (z7:Int) (z8:Int) (z9:Int) (z10:Int) (z11:LT):H:=[(1002,(.box [(.tv i64 z7),(.tv i64 z8),.nil])),(1003,(.box [(.tv i64 z9),(.tv i64 z10),(.tv (.sl (.st 1)) z11)]))]
def f100.p0_e0' {R:Type} (L N:Nat) (k:Tree→Option R) (z7:Int) (z8:Int) (z9:Int) (z10:Int) (z11:LT):Option R:=
 k (Tree.mk ((Tree.mk z9 z10 z11).op) ((Tree.mk z9 z10 z11).n) ((Tree.mk z9 z10 z11).parts))
def f100.p0_e0 {R:Type} (L N:Nat) (k:Tree→Option R) (z7:Int) (z8:Int) (z9:Int) (z10:Int) (z11:LT):Option R:=
 f100.p0_e0' L N k z7 z8 z9 z10 z11
def f100.b' {R:Type} (L N:Nat) (k:Tree→Option R) (w0:LT→Int→Int→Int→Int→Int→LT→Option R) (x0:LT):Option R:=
 bif ((x0.length:Int)==(0:Int)) then
  k (Tree.mk ((Tree.mk (0:Int) (0:Int) []).op) ((Tree.mk (0:Int) (0:Int) []).n) ((Tree.mk (0:Int) (0:Int) []).parts))
 else bif (decide (0≤(wi ((x0.length:Int)-(1:Int))))&&decide ((wi ((x0.length:Int)-(1:Int)))<(x0.length:Int))) then
  w0 x0 (wi ((x0.length:Int)-(2:Int))) (0:Int) (0:Int) ((listAt x0 (Ty.dflt (.st 1)) (wi ((x0.length:Int)-(1:Int))).toNat).op) ((listAt x0 (Ty.dflt (.st 1)) (wi ((x0.length:Int)-(1:Int))).toNat).n) ((listAt x0 (Ty.dflt (.st 1)) (wi ((x0.length:Int)-(1:Int))).toNat).parts)
 else none
def f100.b {R:Type} (L N:Nat) (k:Tree→Option R) (x0:LT):Option R:=
 f100.b' L N k (fun s0 s1 s2 s3 s4 s5 s6=>f100.l0 L N (fun z7 z8 z9 z10 z11=>f100.p0_e0 L N k z7 z8 z9 z10 z11) L s0 s1 s2 s3 s4 s5 s6) x0
def f100 (L N:Nat) (x0:LT):Option (Tree):=f100.b L N some x0
def f100.ent (L N:Nat):=entDa [(.sl (.st 1))] (.one (.st 1)) fun d=>f100 L N d.1
noncomputable def E100 (L N:Nat):Env:={P:=Tryz.prog,ty:=tyOf,Φ:=(Φ99 L N),inl:=inlT,live:=lives,liveX:=livesX,L:=L,dp:=none,prom:=promT,heal:=healT,ren:=renT,zd:=true}
noncomputable def f100.c0:Code:=loopAt 0 (codeOf Tryz.f100)
def f100.X0_e0 {R:Type} (κ:KX R):=fun z7 z8 z9 z10 z11=>κ (.exit 0) (f100.T0_e0 z7 z8 z9 z10 z11) (f100.H0_e0 z7 z8 z9 z10 z11)
def f100.R0 {R:Type} (rec:KT R):=fun s0 s1 s2 s3 s4 s5 s6=>rec (f100.T0 s0 s1 s2 s3 s4 s5 s6) (f100.H0 s0 s1 s2 s3 s4 s5 s6)
theorem f100.s0_eq {R:Type} (L N:Nat) (κ:KX R) (rec:KT R) (s0:LT) (s1:Int) (s2:Int) (s3:Int) (s4:Int) (s5:Int) (s6:LT):
  evRd (E100 L N) (evCallI (E100 L N) 0 1000) 1000 100 30 0 f100.c0 κ rec (f100.T0 s0 s1 s2 s3 s4 s5 s6) (f100.H0 s0 s1 s2 s3 s4 s5 s6)
  =f100.s0 L N (f100.X0_e0 κ) (f100.R0 rec) s0 s1 s2 s3 s4 s5 s6:=by kernel_rfl
theorem f100.l0_eq {R:Type} (L N:Nat) (κ:KX R):∀(n:Nat) (s0:LT) (s1:Int) (s2:Int) (s3:Int) (s4:Int) (s5:Int) (s6:LT),
  evLp (E100 L N) (evCallI (E100 L N) 0 1000) 1000 100 30 0 f100.c0 κ n (f100.T0 s0 s1 s2 s3 s4 s5 s6) (f100.H0 s0 s1 s2 s3 s4 s5 s6)
  =f100.l0 L N (f100.X0_e0 κ) n s0 s1 s2 s3 s4 s5 s6:=by
 intro n
 induction n with
 |zero=>intros;rfl
 |succ n ih=>
  intro s0 s1 s2 s3 s4 s5 s6
  rw [evLp_succ,f100.s0_eq]
  delta f100.R0
  simp only [ih]
  rfl
theorem f100.p0_e0_eq {R:Type} (L N:Nat) (κ:AV→Option R) (z7:Int) (z8:Int) (z9:Int) (z10:Int) (z11:LT):
  (contAt (E100 L N) (evCallI (E100 L N) 0 1000) 1000 100 30 0 (codeOf Tryz.f100) (finK (E100 L N) 1000 Tryz.f100 (finC (.one (.st 1)) κ))) (.exit 0) (f100.T0_e0 z7 z8 z9 z10 z11) (f100.H0_e0 z7 z8 z9 z10 z11)
  =f100.p0_e0 L N (fun a0=>κ (.tv (.st 1) a0)) z7 z8 z9 z10 z11:=by kernel_rfl
theorem f100.b_eq {R:Type} (L N:Nat) (κ:AV→Option R) (x0:LT):
  evBody (E100 L N) (evCallI (E100 L N) 0 1000) 1000 100 Tryz.f100 [(.tv (.sl (.st 1)) x0)] [] [] (finC (.one (.st 1)) κ)
  =f100.b L N (fun a0=>κ (.tv (.st 1) a0)) x0:=by
 refine Eq.trans (b:=f100.b' L N (fun a0=>κ (.tv (.st 1) a0)) (fun s0 s1 s2 s3 s4 s5 s6=>evLp (E100 L N) (evCallI (E100 L N) 0 1000) 1000 100 30 0 f100.c0 (contAt (E100 L N) (evCallI (E100 L N) 0 1000) 1000 100 30 0 (codeOf Tryz.f100) (finK (E100 L N) 1000 Tryz.f100 (finC (.one (.st 1)) κ))) L (f100.T0 s0 s1 s2 s3 s4 s5 s6) (f100.H0 s0 s1 s2 s3 s4 s5 s6)) x0) (by kernel_rfl) ?_
 unfold f100.b
 simp only [f100.l0_eq]
 delta f100.X0_e0
 simp only [f100.p0_e0_eq]
theorem f100.ok (L N:Nat) (hΦ:TellsOk Tryz.prog ((Φ99 L N))):EntOk Tryz.prog 100 (f100.ent L N):=entDa_ok (E:=(E100 L N)) (dep:=1000) (f:=Tryz.f100) (sound_of hΦ) okP (callI_sound (sound_of hΦ) okP 0 1000) rfl fun d _ hy=>(f100.b_eq L N (unR (.one (.st 1))) d.1).trans (Eq.trans (b:=f100.b L N some d.1) (by kernel_rfl) hy)
def Φ100 (L N:Nat):Tells:=(addT (Φ99 L N) 100 (f100.ent L N))
theorem Φ100_ok (L N:Nat):TellsOk Tryz.prog (Φ100 L N):=addT_ok (Φ99_ok L N) (f100.ok L N (Φ99_ok L N))
def f62.s1' {R:Type} (L N:Nat) (self62:Tree→Option (Tree×Bool)) (k1_e2:LT→Int→Int→Int→Int→Int→Int→LS→LT→Option R) (rec1:LT→Int→Int→Int→Int→Int→Int→LS→LT→Option R) (s14:LT) (s15:Int) (s16:Int) (s17:Int) (s18:Int) (s19:Int) (s20:Int) (s21:LS) (s22:LT):Option R:=
 bif (decide (s16>(0:Int))) then
  (f99 L N N (Tree.mk s19 s20 s22)).bind fun y23=>
  bif (decide (0≤(wi (s16-(1:Int))))&&decide ((wi (s16-(1:Int)))<(s14.length:Int))) then
   (f99 L N N (listAt s14 (Ty.dflt (.st 1)) (wi (s16-(1:Int))).toNat)).bind fun y24=>
   bif (Op.bytesLess y23.toList y24.toList) then
    rec1 s14 s15 (wi (s16-(1:Int))) s17 s18 s19 s20 s21 s22
   else k1_e2 s14 s15 s16 s17 s18 s19 s20 s21 s22
  else none
 else k1_e2 s14 s15 s16 s17 s18 s19 s20 s21 s22
def f62.s1 {R:Type} (L N:Nat) (self62:Tree→Option (Tree×Bool)) (k1_e2:LT→Int→Int→Int→Int→Int→Int→LS→LT→Option R) (rec1:LT→Int→Int→Int→Int→Int→Int→LS→LT→Option R) (s14:LT) (s15:Int) (s16:Int) (s17:Int) (s18:Int) (s19:Int) (s20:Int) (s21:LS) (s22:LT):Option R:=
 f62.s1' L N self62 k1_e2 rec1 s14 s15 s16 s17 s18 s19 s20 s21 s22
def f62.l1 {R:Type} (L N:Nat) (self62:Tree→Option (Tree×Bool)) (k1_e2:LT→Int→Int→Int→Int→Int→Int→LS→LT→Option R):Nat→LT→Int→Int→Int→Int→Int→Int→LS→LT→Option R
 |0,_,_,_,_,_,_,_,_,_=>none
 |n+1,s14,s15,s16,s17,s18,s19,s20,s21,s22=>f62.s1 L N self62 k1_e2 (f62.l1 L N self62 k1_e2 n) s14 s15 s16 s17 s18 s19 s20 s21 s22
def f62.T1 (s14:LT) (s15:Int) (s16:Int) (s17:Int) (s18:Int) (s19:Int) (s20:Int) (s21:LS) (s22:LT):T:=mkT 89 [(2,(.ptr 1002 0)),(4,(.row 1013)),(5,(.tv (.sl (.st 1)) s14)),(6,(.tv i64 s15)),(9,(.ptr 1009 0)),(10,(.tv i64 s16))]
def f62.H1 (s14:LT) (s15:Int) (s16:Int) (s17:Int) (s18:Int) (s19:Int) (s20:Int) (s21:LS) (s22:LT):H:=[(1002,(.box [(.tv i64 s17),(.tv i64 s18),.nil])),(1009,(.box [(.tv i64 s19),(.tv i64 s20),(.row 1039)])),(1013,(.row 113 (.st 3) s21)),(1039,(.row 25 (.st 1) s22))]
def f62.T1_e2 (z35:LT) (z36:Int) (z37:Int) (z38:Int) (z39:Int) (z40:Int) (z41:Int) (z42:LS) (z43:LT):T:=mkT 89 [(2,(.ptr 1002 0)),(4,(.row 1013)),(5,(.tv (.sl (.st 1)) z35)),(6,(.tv i64 z36)),(9,(.ptr 1009 0)),(10,(.tv i64 z37))]
def f62.H1_e2 (z35:LT) (z36:Int) (z37:Int) (z38:Int) (z39:Int) (z40:Int) (z41:Int) (z42:LS) (z43:LT):H:=[(1002,(.box [(.tv i64 z38),(.tv i64 z39),.nil])),(1009,(.box [(.tv i64 z40),(.tv i64 z41),(.row 1039)])),(1013,(.row 113 (.st 3) z42)),(1039,(.row 25 (.st 1) z43))]
def f62.j0' {R:Type} (L N:Nat) (self62:Tree→Option (Tree×Bool)) (k0_e0:LT→Int→Int→Option R) (k0_r:Bool→LT→Int→Int→Option R) (rec0:LT→Int→Int→Int→LS→Option R) (v65:LT) (v66:Int) (v67:Int) (v68:Int) (v69:Int) (v70:Int) (v71:Int) (v72:LS) (v73:LT):Option R:=
 bif (slB (0:Int) v67 v65.length) then
  bif (decide (([]:LT).length+(slX v65 (0:Int) v67).length≤lim)) then
   bif (decide ((([]:LT)++(slX v65 (0:Int) v67)).length+([(Tree.mk v70 v71 v73)]:LT).length≤lim)) then
    bif (slB v67 (v65.length:Int) v65.length) then
     bif (decide (((([]:LT)++(slX v65 (0:Int) v67))++([(Tree.mk v70 v71 v73)]:LT)).length+(slX v65 v67 (v65.length:Int)).length≤lim)) then
      rec0 (((([]:LT)++(slX v65 (0:Int) v67))++([(Tree.mk v70 v71 v73)]:LT))++(slX v65 v67 (v65.length:Int))) (wi (v66+(1:Int))) v68 v69 v72
     else none
    else none
   else none
  else none
 else none
def f62.p1_e2' {R:Type} (L N:Nat) (self62:Tree→Option (Tree×Bool)) (k0_e0:LT→Int→Int→Option R) (k0_r:Bool→LT→Int→Int→Option R) (rec0:LT→Int→Int→Int→LS→Option R) (z35:LT) (z36:Int) (z37:Int) (z38:Int) (z39:Int) (z40:Int) (z41:Int) (z42:LS) (z43:LT):Option R:=
 bif (decide (z37>(0:Int))) then
  (f99 L N N (Tree.mk z40 z41 z43)).bind fun y53=>
  bif (decide (0≤(wi (z37-(1:Int))))&&decide ((wi (z37-(1:Int)))<(z35.length:Int))) then
   (f99 L N N (listAt z35 (Ty.dflt (.st 1)) (wi (z37-(1:Int))).toNat)).bind fun y54=>
   bif (y53.toList==y54.toList) then
    rec0 z35 (wi (z36+(1:Int))) z38 z39 z42
   else f62.j0' L N self62 k0_e0 k0_r rec0 z35 z36 z37 z38 z39 z40 z41 z42 z43
  else none
 else f62.j0' L N self62 k0_e0 k0_r rec0 z35 z36 z37 z38 z39 z40 z41 z42 z43
def f62.p1_e2 {R:Type} (L N:Nat) (self62:Tree→Option (Tree×Bool)) (k0_e0:LT→Int→Int→Option R) (k0_r:Bool→LT→Int→Int→Option R) (rec0:LT→Int→Int→Int→LS→Option R) (z35:LT) (z36:Int) (z37:Int) (z38:Int) (z39:Int) (z40:Int) (z41:Int) (z42:LS) (z43:LT):Option R:=
 f62.p1_e2' L N self62 k0_e0 k0_r rec0 z35 z36 z37 z38 z39 z40 z41 z42 z43
def f62.s0' {R:Type} (L N:Nat) (self62:Tree→Option (Tree×Bool)) (k0_e0:LT→Int→Int→Option R) (k0_r:Bool→LT→Int→Int→Option R) (rec0:LT→Int→Int→Int→LS→Option R) (w1:LT→Int→Int→Int→Int→Int→Int→LS→LT→Option R) (s1:LT) (s2:Int) (s3:Int) (s4:Int) (s5:LS):Option R:=
 bif (decide (s2<(s5.length:Int))) then
  bif (decide (0≤s2)&&decide (s2<(s5.length:Int))) then
   (self62 (Tree.mk ((listAt s5 (Ty.dflt (.st 3)) s2.toNat).thn.op) ((listAt s5 (Ty.dflt (.st 3)) s2.toNat).thn.n) ((listAt s5 (Ty.dflt (.st 3)) s2.toNat).thn.parts))).bind fun y9=>
   bif (!y9.2) then
    k0_r false s1 (0:Int) (0:Int)
   else bif (decide (0≤s2)&&decide (s2<(s5.length:Int))) then
    w1 s1 s2 (s1.length:Int) s3 s4 (1:Int) ((listAt s5 (Ty.dflt (.st 3)) s2.toNat).act) s5 ([(Tree.mk y9.1.op y9.1.n y9.1.parts)]:LT)
   else none
  else none
 else k0_e0 s1 s3 s4
def f62.s0 {R:Type} (L N:Nat) (self62:Tree→Option (Tree×Bool)) (k0_e0:LT→Int→Int→Option R) (k0_r:Bool→LT→Int→Int→Option R) (rec0:LT→Int→Int→Int→LS→Option R) (s1:LT) (s2:Int) (s3:Int) (s4:Int) (s5:LS):Option R:=
 f62.s0' L N self62 k0_e0 k0_r rec0 (fun s14 s15 s16 s17 s18 s19 s20 s21 s22=>f62.l1 L N self62 (fun z35 z36 z37 z38 z39 z40 z41 z42 z43=>f62.p1_e2 L N self62 k0_e0 k0_r rec0 z35 z36 z37 z38 z39 z40 z41 z42 z43) L s14 s15 s16 s17 s18 s19 s20 s21 s22) s1 s2 s3 s4 s5
def f62.l0 {R:Type} (L N:Nat) (self62:Tree→Option (Tree×Bool)) (k0_e0:LT→Int→Int→Option R) (k0_r:Bool→LT→Int→Int→Option R):Nat→LT→Int→Int→Int→LS→Option R
 |0,_,_,_,_,_=>none
 |n+1,s1,s2,s3,s4,s5=>f62.s0 L N self62 k0_e0 k0_r (f62.l0 L N self62 k0_e0 k0_r n) s1 s2 s3 s4 s5
def f62.T0 (s1:LT) (s2:Int) (s3:Int) (s4:Int) (s5:LS):T:=mkT 89 [(2,(.ptr 1002 0)),(4,(.row 1013)),(5,(.tv (.sl (.st 1)) s1)),(6,(.tv i64 s2))]
def f62.H0 (s1:LT) (s2:Int) (s3:Int) (s4:Int) (s5:LS):H:=[(1002,(.box [(.tv i64 s3),(.tv i64 s4),.nil])),(1013,(.row 113 (.st 3) s5))]
def f62.T0_e0 (z6:LT) (z7:Int) (z8:Int):T:=mkT 89 [(2,(.ptr 1002 0)),(5,(.tv (.sl (.st 1)) z6))]
def f62.H0_e0 (z6:LT) (z7:Int) (z8:Int):H:=[(1002,(.box [(.tv i64 z7),(.tv i64 z8),.nil]))]
def f62.T0_r (z10:Bool) (z11:LT) (z12:Int) (z13:Int):T:=mkT 89 [(2,(.ptr 1002 0)),(3,(.tv .bool z10)),(5,(.tv (.sl (.st 1)) z11))]
def f62.H0_r (z10:Bool) (z11:LT) (z12:Int) (z13:Int):H:=[(1002,(.box [(.tv i64 z12),(.tv i64 z13),.nil]))]
def f62.p0_e0' {R:Type} (L N:Nat) (self62:Tree→Option (Tree×Bool)) (k:Tree→Bool→Option R) (z6:LT) (z7:Int) (z8:Int):Option R:=
 (f100 L N z6).bind fun y79=>
 (f85 L N N (Tree.mk y79.op y79.n y79.parts)).bind fun y80=>
 k (Tree.mk ((Tree.mk y79.op y79.n y79.parts).op) ((Tree.mk y79.op y79.n y79.parts).n) ((Tree.mk y79.op y79.n y79.parts).parts)) (decide (y80≤(24:Int)))
def f62.p0_e0 {R:Type} (L N:Nat) (self62:Tree→Option (Tree×Bool)) (k:Tree→Bool→Option R) (z6:LT) (z7:Int) (z8:Int):Option R:=
 f62.p0_e0' L N self62 k z6 z7 z8
def f62.p0_r' {R:Type} (L N:Nat) (self62:Tree→Option (Tree×Bool)) (k:Tree→Bool→Option R) (z10:Bool) (z11:LT) (z12:Int) (z13:Int):Option R:=
 k (Tree.mk z12 z13 []) z10
def f62.p0_r {R:Type} (L N:Nat) (self62:Tree→Option (Tree×Bool)) (k:Tree→Bool→Option R) (z10:Bool) (z11:LT) (z12:Int) (z13:Int):Option R:=
 f62.p0_r' L N self62 k z10 z11 z12 z13
def f62.b' {R:Type} (L N:Nat) (self62:Tree→Option (Tree×Bool)) (k:Tree→Bool→Option R) (w0:LT→Int→Int→Int→LS→Option R) (x0:Tree):Option R:=
 (f98 L N N (Tree.mk x0.op x0.n x0.parts) []).bind fun y0=>
 w0 ([]:LT) (0:Int) (0:Int) (0:Int) y0
def f62.b {R:Type} (L N:Nat) (self62:Tree→Option (Tree×Bool)) (k:Tree→Bool→Option R) (x0:Tree):Option R:=
 f62.b' L N self62 k (fun s1 s2 s3 s4 s5=>f62.l0 L N self62 (fun z6 z7 z8=>f62.p0_e0 L N self62 k z6 z7 z8) (fun z10 z11 z12 z13=>f62.p0_r L N self62 k z10 z11 z12 z13) L s1 s2 s3 s4 s5) x0
def f62 (L N:Nat):Nat→Tree→Option (Tree×Bool)
 |0,_=>none
 |n+1,x0=>f62.b L N (f62 L N n) (fun a0 a1=>some (a0,a1)) x0
def f62.ent (L N m:Nat):=entDa [(.st 1)] (.many [(.st 1),.bool]) fun d=>f62 L N m d.1
def Φ62s (L N m:Nat):Tells:=(addT (Φ100 L N) 62 (f62.ent L N m))
noncomputable def E62 (L N m:Nat):Env:={P:=Tryz.prog,ty:=tyOf,Φ:=Φ62s L N m,inl:=inlT,live:=lives,liveX:=livesX,L:=L,dp:=none,prom:=promT,heal:=healT,ren:=renT,fresh:=fun s=>Nat.beq s 1075||Nat.beq s 1078||Nat.beq s 1082,cold:=fun s=>Nat.beq s 1014||Nat.beq s 1082}
noncomputable def f62.c0:Code:=loopAt 0 (codeOf Tryz.f62)
noncomputable def f62.c1:Code:=loopAt 2 f62.c0
def f62.X1_e2 {R:Type} (κ:KX R):=fun z35 z36 z37 z38 z39 z40 z41 z42 z43=>κ (.exit 2) (f62.T1_e2 z35 z36 z37 z38 z39 z40 z41 z42 z43) (f62.H1_e2 z35 z36 z37 z38 z39 z40 z41 z42 z43)
def f62.R1 {R:Type} (rec:KT R):=fun s14 s15 s16 s17 s18 s19 s20 s21 s22=>rec (f62.T1 s14 s15 s16 s17 s18 s19 s20 s21 s22) (f62.H1 s14 s15 s16 s17 s18 s19 s20 s21 s22)
theorem f62.s1_eq {R:Type} (L N m:Nat) (κ:KX R) (rec:KT R) (s14:LT) (s15:Int) (s16:Int) (s17:Int) (s18:Int) (s19:Int) (s20:Int) (s21:LS) (s22:LT):
  evRd (E62 L N m) (evCallI (E62 L N m) 0 1000) 1000 62 89 2 f62.c1 κ rec (f62.T1 s14 s15 s16 s17 s18 s19 s20 s21 s22) (f62.H1 s14 s15 s16 s17 s18 s19 s20 s21 s22)
  =f62.s1 L N (f62 L N m) (f62.X1_e2 κ) (f62.R1 rec) s14 s15 s16 s17 s18 s19 s20 s21 s22:=by kernel_rfl
theorem f62.l1_eq {R:Type} (L N m:Nat) (κ:KX R):∀(n:Nat) (s14:LT) (s15:Int) (s16:Int) (s17:Int) (s18:Int) (s19:Int) (s20:Int) (s21:LS) (s22:LT),
  evLp (E62 L N m) (evCallI (E62 L N m) 0 1000) 1000 62 89 2 f62.c1 κ n (f62.T1 s14 s15 s16 s17 s18 s19 s20 s21 s22) (f62.H1 s14 s15 s16 s17 s18 s19 s20 s21 s22)
  =f62.l1 L N (f62 L N m) (f62.X1_e2 κ) n s14 s15 s16 s17 s18 s19 s20 s21 s22:=by
 intro n
 induction n with
 |zero=>intros;rfl
 |succ n ih=>
  intro s14 s15 s16 s17 s18 s19 s20 s21 s22
  rw [evLp_succ,f62.s1_eq]
  delta f62.R1
  simp only [ih]
  rfl
def f62.X0_e0 {R:Type} (κ:KX R):=fun z6 z7 z8=>κ (.exit 0) (f62.T0_e0 z6 z7 z8) (f62.H0_e0 z6 z7 z8)
def f62.X0_r {R:Type} (κ:KX R):=fun z10 z11 z12 z13=>κ .ret (f62.T0_r z10 z11 z12 z13) (f62.H0_r z10 z11 z12 z13)
def f62.R0 {R:Type} (rec:KT R):=fun s1 s2 s3 s4 s5=>rec (f62.T0 s1 s2 s3 s4 s5) (f62.H0 s1 s2 s3 s4 s5)
theorem f62.p1_e2_eq {R:Type} (L N m:Nat) (κ:KX R) (rec:KT R) (z35:LT) (z36:Int) (z37:Int) (z38:Int) (z39:Int) (z40:Int) (z41:Int) (z42:LS) (z43:LT):
  (contAt (E62 L N m) (evCallI (E62 L N m) 0 1000) 1000 62 89 2 f62.c0 (rdK (E62 L N m) 1000 62 89 0 κ rec)) (.exit 2) (f62.T1_e2 z35 z36 z37 z38 z39 z40 z41 z42 z43) (f62.H1_e2 z35 z36 z37 z38 z39 z40 z41 z42 z43)
  =f62.p1_e2 L N (f62 L N m) (f62.X0_e0 κ) (f62.X0_r κ) (f62.R0 rec) z35 z36 z37 z38 z39 z40 z41 z42 z43:=by kernel_rfl
theorem f62.s0_eq {R:Type} (L N m:Nat) (κ:KX R) (rec:KT R) (s1:LT) (s2:Int) (s3:Int) (s4:Int) (s5:LS):
  evRd (E62 L N m) (evCallI (E62 L N m) 0 1000) 1000 62 89 0 f62.c0 κ rec (f62.T0 s1 s2 s3 s4 s5) (f62.H0 s1 s2 s3 s4 s5)
  =f62.s0 L N (f62 L N m) (f62.X0_e0 κ) (f62.X0_r κ) (f62.R0 rec) s1 s2 s3 s4 s5:=by
 refine Eq.trans (b:=f62.s0' L N (f62 L N m) (f62.X0_e0 κ) (f62.X0_r κ) (f62.R0 rec) (fun s14 s15 s16 s17 s18 s19 s20 s21 s22=>evLp (E62 L N m) (evCallI (E62 L N m) 0 1000) 1000 62 89 2 f62.c1 (contAt (E62 L N m) (evCallI (E62 L N m) 0 1000) 1000 62 89 2 f62.c0 (rdK (E62 L N m) 1000 62 89 0 κ rec)) L (f62.T1 s14 s15 s16 s17 s18 s19 s20 s21 s22) (f62.H1 s14 s15 s16 s17 s18 s19 s20 s21 s22)) s1 s2 s3 s4 s5) (by kernel_rfl) ?_
 unfold f62.s0
 simp only [f62.l1_eq]
 delta f62.X1_e2
 simp only [f62.p1_e2_eq]
theorem f62.l0_eq {R:Type} (L N m:Nat) (κ:KX R):∀(n:Nat) (s1:LT) (s2:Int) (s3:Int) (s4:Int) (s5:LS),
  evLp (E62 L N m) (evCallI (E62 L N m) 0 1000) 1000 62 89 0 f62.c0 κ n (f62.T0 s1 s2 s3 s4 s5) (f62.H0 s1 s2 s3 s4 s5)
  =f62.l0 L N (f62 L N m) (f62.X0_e0 κ) (f62.X0_r κ) n s1 s2 s3 s4 s5:=by
 intro n
 induction n with
 |zero=>intros;rfl
 |succ n ih=>
  intro s1 s2 s3 s4 s5
  rw [evLp_succ,f62.s0_eq]
  delta f62.R0
  simp only [ih]
  rfl
theorem f62.p0_e0_eq {R:Type} (L N m:Nat) (κ:AV→Option R) (z6:LT) (z7:Int) (z8:Int):
  (contAt (E62 L N m) (evCallI (E62 L N m) 0 1000) 1000 62 89 0 (codeOf Tryz.f62) (finK (E62 L N m) 1000 Tryz.f62 (finC (.many [(.st 1),.bool]) κ))) (.exit 0) (f62.T0_e0 z6 z7 z8) (f62.H0_e0 z6 z7 z8)
  =f62.p0_e0 L N (f62 L N m) (fun a0 a1=>κ (.tup [(.tv (.st 1) a0),(.tv .bool a1)])) z6 z7 z8:=by kernel_rfl
theorem f62.p0_r_eq {R:Type} (L N m:Nat) (κ:AV→Option R) (z10:Bool) (z11:LT) (z12:Int) (z13:Int):
  (contAt (E62 L N m) (evCallI (E62 L N m) 0 1000) 1000 62 89 0 (codeOf Tryz.f62) (finK (E62 L N m) 1000 Tryz.f62 (finC (.many [(.st 1),.bool]) κ))) .ret (f62.T0_r z10 z11 z12 z13) (f62.H0_r z10 z11 z12 z13)
  =f62.p0_r L N (f62 L N m) (fun a0 a1=>κ (.tup [(.tv (.st 1) a0),(.tv .bool a1)])) z10 z11 z12 z13:=by kernel_rfl
theorem f62.b_eq {R:Type} (L N m:Nat) (κ:AV→Option R) (x0:Tree):
  evBody (E62 L N m) (evCallI (E62 L N m) 0 1000) 1000 62 Tryz.f62 [(.tv (.st 1) x0)] [] [] (finC (.many [(.st 1),.bool]) κ)
  =f62.b L N (f62 L N m) (fun a0 a1=>κ (.tup [(.tv (.st 1) a0),(.tv .bool a1)])) x0:=by
 refine Eq.trans (b:=f62.b' L N (f62 L N m) (fun a0 a1=>κ (.tup [(.tv (.st 1) a0),(.tv .bool a1)])) (fun s1 s2 s3 s4 s5=>evLp (E62 L N m) (evCallI (E62 L N m) 0 1000) 1000 62 89 0 f62.c0 (contAt (E62 L N m) (evCallI (E62 L N m) 0 1000) 1000 62 89 0 (codeOf Tryz.f62) (finK (E62 L N m) 1000 Tryz.f62 (finC (.many [(.st 1),.bool]) κ))) L (f62.T0 s1 s2 s3 s4 s5) (f62.H0 s1 s2 s3 s4 s5)) x0) (by kernel_rfl) ?_
 unfold f62.b
 simp only [f62.l0_eq]
 delta f62.X0_e0 f62.X0_r
 simp only [f62.p0_e0_eq,f62.p0_r_eq]
theorem f62.ok (L N m:Nat) (hΦ:TellsOk Tryz.prog (Φ62s L N m)):EntOk Tryz.prog 62 (f62.ent L N (m+1)):=entDa_ok (E:=(E62 L N m)) (dep:=1000) (f:=Tryz.f62) (sound_of hΦ) okP (callI_sound (sound_of hΦ) okP 0 1000) rfl fun d _ hy=>(f62.b_eq L N m (unR (.many [(.st 1),.bool])) d.1).trans (Eq.trans (b:=f62.b L N (f62 L N m) (fun a0 a1=>some (a0,a1)) d.1) (by kernel_rfl) hy)
theorem Φ62s_ok (L N:Nat):∀m,TellsOk Tryz.prog (Φ62s L N m):=by
 intro m
 induction m with
 |zero=>exact (addT_ok (Φ100_ok L N) (entDa_no fun _=>rfl))
 |succ m ih=>exact (addT_ok (Φ100_ok L N) (f62.ok L N m ih))
def Φ62 (L N:Nat):Tells:=(addT (Φ100 L N) 62 (f62.ent L N N))
theorem Φ62_ok (L N:Nat):TellsOk Tryz.prog (Φ62 L N):=Φ62s_ok L N N
def f24.j0' {R:Type} (L N:Nat) (k:Tree→Bool→Option R) (v8:Int) (v9:Int) (v10:LT) (v11:Int) (v12:Int):Option R:=
 (f62 L N N (Tree.mk v8 v9 v10)).bind fun y13=>
 bif (!y13.2) then
  k (Tree.mk (0:Int) (0:Int) []) false
 else (f56 L N (Tree.mk y13.1.op y13.1.n y13.1.parts)).bind fun y14=>
 k (Tree.mk y14.op y14.n y14.parts) true
def f24.b' {R:Type} (L N:Nat) (k:Tree→Bool→Option R) (x0:Tree):Option R:=
 (f53 L N (Tree.mk x0.op x0.n x0.parts)).bind fun y0=>
 bif (!y0) then
  k (Tree.mk (0:Int) (0:Int) []) false
 else (f61 L N (Tree.mk x0.op x0.n x0.parts)).bind fun y1=>
 bif (!y1) then
  k (Tree.mk (0:Int) (0:Int) []) false
 else f24.j0' L N k x0.op x0.n x0.parts (0:Int) (0:Int)
def f24.b {R:Type} (L N:Nat) (k:Tree→Bool→Option R) (x0:Tree):Option R:=
 f24.b' L N k x0
def f24 (L N:Nat) (x0:Tree):Option (Tree×Bool):=f24.b L N (fun a0 a1=>some (a0,a1)) x0
def f24.ent (L N:Nat):=entDa [(.st 1)] (.many [(.st 1),.bool]) fun d=>f24 L N d.1
noncomputable def E24 (L N:Nat):Env:={P:=Tryz.prog,ty:=tyOf,Φ:=(Φ62 L N),inl:=inlT,live:=lives,liveX:=livesX,L:=L,dp:=none,prom:=promT,heal:=healT,ren:=renT}
theorem f24.b_eq {R:Type} (L N:Nat) (κ:AV→Option R) (x0:Tree):
  evBody (E24 L N) (evCallI (E24 L N) 0 1000) 1000 24 Tryz.f24 [(.tv (.st 1) x0)] [] [] (finC (.many [(.st 1),.bool]) κ)
  =f24.b L N (fun a0 a1=>κ (.tup [(.tv (.st 1) a0),(.tv .bool a1)])) x0:=by kernel_rfl
theorem f24.ok (L N:Nat) (hΦ:TellsOk Tryz.prog ((Φ62 L N))):EntOk Tryz.prog 24 (f24.ent L N):=entDa_ok (E:=(E24 L N)) (dep:=1000) (f:=Tryz.f24) (sound_of hΦ) okP (callI_sound (sound_of hΦ) okP 0 1000) rfl fun d _ hy=>(f24.b_eq L N (unR (.many [(.st 1),.bool])) d.1).trans (Eq.trans (b:=f24.b L N (fun a0 a1=>some (a0,a1)) d.1) (by kernel_rfl) hy)
def Φ24 (L N:Nat):Tells:=(addT (Φ62 L N) 24 (f24.ent L N))
theorem Φ24_ok (L N:Nat):TellsOk Tryz.prog (Φ24 L N):=addT_ok (Φ62_ok L N) (f24.ok L N (Φ62_ok L N))
def f6.j0' {R:Type} (L N:Nat) (k:Bool→Option R) (v12:Bool) (v13:Int) (v14:Int) (v15:LT) (v16:Int) (v17:Int) (v18:LT):Option R:=
 bif (!v12) then
  k true
 else (f23 L N (Tree.mk v16 v17 v18)).bind fun y19=>
 (f15 L N (Tree.mk v13 v14 v15) (Tree.mk v16 v17 v18) []).bind fun y20=>
 bif y19.2 then
  (f19 L N N (Tree.mk y19.1.op y19.1.n y19.1.parts) (Tree.mk v16 v17 v18)).bind fun y21=>
  bif y21 then
   bif (!y20.2) then
    k true
   else k y20.1
  else k false
 else k false
def f6.b' {R:Type} (L N:Nat) (k:Bool→Option R) (x0:LI):Option R:=
 bif (decide ((x0.length:Int)>(1048576:Int))) then
  k true
 else (f22 L N x0).bind fun y0=>
 (f23 L N (Tree.mk y0.op y0.n y0.parts)).bind fun y1=>
 (f24 L N (Tree.mk y0.op y0.n y0.parts)).bind fun y2=>
 (f19 L N N (Tree.mk y1.1.op y1.1.n y1.1.parts) (Tree.mk y2.1.op y2.1.n y2.1.parts)).bind fun y3=>
 bif (!y3) then
  k false
 else bif (!(y1.2==y2.2)) then
  k false
 else f6.j0' L N k y1.2 y0.op y0.n y0.parts y1.1.op y1.1.n y1.1.parts
def f6.b {R:Type} (L N:Nat) (k:Bool→Option R) (x0:LI):Option R:=
 f6.b' L N k x0
def f6 (L N:Nat) (x0:LI):Option (Bool):=f6.b L N some x0
def f6.ent (L N:Nat):=entRo [(.sl (.int .u8))] (.one .bool) fun d=>f6 L N d.1
noncomputable def E6 (L N:Nat):Env:={P:=Tryz.prog,ty:=tyOf,Φ:=(Φ24 L N),inl:=inlT,live:=lives,liveX:=livesX,L:=L,dp:=none,prom:=promT,heal:=healT,ren:=renT}
theorem f6.b_eq {R:Type} (L N:Nat) (κ:AV→Option R) (x0:LI):
  evBody (E6 L N) (evCallI (E6 L N) 0 1000) 1000 6 Tryz.f6 [(.tv (.sl (.int .u8)) x0)] [] [] (finC (.one .bool) κ)
  =f6.b L N (fun a0=>κ (.tv .bool a0)) x0:=by kernel_rfl
theorem f6.ok (L N:Nat) (hΦ:TellsOk Tryz.prog ((Φ24 L N))):EntOk Tryz.prog 6 (f6.ent L N):=entRo_ok (E:=(E6 L N)) (dep:=1000) (f:=Tryz.f6) (sound_of hΦ) okP (callI_sound (sound_of hΦ) okP 0 1000) rfl rfl fun d _ hy=>(f6.b_eq L N (unR (.one .bool)) d.1).trans (Eq.trans (b:=f6.b L N some d.1) (by kernel_rfl) hy)
def Φ6 (L N:Nat):Tells:=(addT (Φ24 L N) 6 (f6.ent L N))
theorem Φ6_ok (L N:Nat):TellsOk Tryz.prog (Φ6 L N):=addT_ok (Φ24_ok L N) (f6.ok L N (Φ24_ok L N))
end Go.Proofs.YthidlhjjnaldhaaGreatDoor.Ev
