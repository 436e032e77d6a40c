/- The seat's functions as plain functions, continued: made by program (wip/gen/gen.py). -/
import Derived.Test.YtfdcjocallblcaaGreatDoorGS3a
namespace Go.Proofs.YtfdcjocallblcaaGreatDoor.Ev
open Go
set_option linter.unusedVariables false
set_option maxRecDepth 20000
def f53_2.s0 {R:Type} (L N:Nat) (k0_e0:LI→Option R) (rec0:LI→LLM→LI→Int→Int→LI→LLM→Option R) (s0:LI) (s1:LLM) (s2:LI) (s3:Int) (s4:Int) (s5:LI) (s6:LLM):Option R:=
 f53_2.s0' L N k0_e0 rec0 (fun s9 s10 s11 s12 s13 s14 s15 s16 s17=>f53_2.l1 L N (fun z18 z19 z20 z21 z22 z23 z24=>f53_2.p1_e2 L N k0_e0 rec0 z18 z19 z20 z21 z22 z23 z24) L s9 s10 s11 s12 s13 s14 s15 s16 s17) s0 s1 s2 s3 s4 s5 s6
def f53_2.l0 {R:Type} (L N:Nat) (k0_e0:LI→Option R):Nat→LI→LLM→LI→Int→Int→LI→LLM→Option R
 |0,_,_,_,_,_,_,_=>none
 |n+1,s0,s1,s2,s3,s4,s5,s6=>f53_2.s0 L N k0_e0 (f53_2.l0 L N k0_e0 n) s0 s1 s2 s3 s4 s5 s6
def f53_2.T0 (s0:LI) (s1:LLM) (s2:LI) (s3:Int) (s4:Int) (s5:LI) (s6:LLM):T:=mkT 61 [(0,(.tv (.sl i64) s0)),(1,(.fn 54 [(.imf 33 [(.imp (.sl (.sl (.st 0))) s1 0)]),(.imp (.sl i64) s2 0)])),(5,(.row 1011)),(6,(.row 1014)),(16,(.tv i64 s3)),(17,(.tv i64 s4))]
def f53_2.H0 (s0:LI) (s1:LLM) (s2:LI) (s3:Int) (s4:Int) (s5:LI) (s6:LLM):H:=[(1011,(.row 3 i64 s5)),(1014,(.row 43 (.sl (.st 0)) s6))]
def f53_2.T0_e0 (z7:LI):T:=mkT 61 [(5,(.row 1011))]
def f53_2.H0_e0 (z7:LI):H:=[(1011,(.row 3 i64 z7))]
def f53_2.p0_e0' {R:Type} (L N:Nat) (k:LI→Option R) (z7:LI):Option R:=
 k z7
def f53_2.p0_e0 {R:Type} (L N:Nat) (k:LI→Option R) (z7:LI):Option R:=
 f53_2.p0_e0' L N k z7
def f53_2.b' {R:Type} (L N:Nat) (k:LI→Option R) (w0:LI→LLM→LI→Int→Int→LI→LLM→Option R) (x0:LI) (x1:LLM) (x2:LI):Option R:=
 bif (decide (0≤(x0.length:Int))&&decide ((x0.length:Int)≤(lim:Int))) then
  bif (decide (0≤(x0.length:Int))&&decide ((x0.length:Int)≤(lim:Int))) then
   w0 x0 x1 x2 (x0.length:Int) (0:Int) (List.replicate (x0.length:Int).toNat (0:Int)) (List.replicate (x0.length:Int).toNat [])
  else none
 else none
def f53_2.b {R:Type} (L N:Nat) (k:LI→Option R) (x0:LI) (x1:LLM) (x2:LI):Option R:=
 f53_2.b' L N k (fun s0 s1 s2 s3 s4 s5 s6=>f53_2.l0 L N (fun z7=>f53_2.p0_e0 L N k z7) L s0 s1 s2 s3 s4 s5 s6) x0 x1 x2
def f53_2 (L N:Nat) (x0:LI) (x1:LLM) (x2:LI):Option (LI):=f53_2.b L N some x0 x1 x2
def f53_2.ent (L N:Nat) (args:List AV) (vw:View) (site:Nat):Option Ans:=match shD [(.dat (.sl i64)),(.fn 54 [(.pfn 33 [(.imp (.sl (.sl (.st 0))) 0)]),(.imp (.sl i64) 0)])] vw args with
 |some d=>some ⟨LI,f53_2 L N d.1 d.2.1.1.1 d.2.1.2.1,fun y=>(RN.av site .row (),[(site,some (mkO none 3 i64 y))],[])⟩
 |none=>none
noncomputable def E53_2 (L N:Nat):Env:={P:=Tryz.prog,ty:=tyOf,Φ:=(Φ54_2 L N),inl:=inlT,live:=lives,liveX:=livesX,L:=L,dp:=none,prom:=promT,heal:=healT,ren:=renT}
noncomputable def f53_2.c0:Code:=loopAt 0 (codeOf Tryz.f53)
noncomputable def f53_2.c1:Code:=loopAt 2 f53_2.c0
def f53_2.X1_e2 {R:Type} (κ:KX R):=fun z18 z19 z20 z21 z22 z23 z24=>κ (.exit 2) (f53_2.T1_e2 z18 z19 z20 z21 z22 z23 z24) (f53_2.H1_e2 z18 z19 z20 z21 z22 z23 z24)
def f53_2.R1 {R:Type} (rec:KT R):=fun s9 s10 s11 s12 s13 s14 s15 s16 s17=>rec (f53_2.T1 s9 s10 s11 s12 s13 s14 s15 s16 s17) (f53_2.H1 s9 s10 s11 s12 s13 s14 s15 s16 s17)
theorem f53_2.s1_eq {R:Type} (L N:Nat) (κ:KX R) (rec:KT R) (s9:LI) (s10:LLM) (s11:LI) (s12:Int) (s13:Int) (s14:Int) (s15:Int) (s16:LI) (s17:LLM):
  evRd (E53_2 L N) (evCallI (E53_2 L N) 1 2000) 1000 53 61 2 f53_2.c1 κ rec (f53_2.T1 s9 s10 s11 s12 s13 s14 s15 s16 s17) (f53_2.H1 s9 s10 s11 s12 s13 s14 s15 s16 s17)
  =f53_2.s1 L N (f53_2.X1_e2 κ) (f53_2.R1 rec) s9 s10 s11 s12 s13 s14 s15 s16 s17:=by kernel_rfl
theorem f53_2.l1_eq {R:Type} (L N:Nat) (κ:KX R):∀(n:Nat) (s9:LI) (s10:LLM) (s11:LI) (s12:Int) (s13:Int) (s14:Int) (s15:Int) (s16:LI) (s17:LLM),
  evLp (E53_2 L N) (evCallI (E53_2 L N) 1 2000) 1000 53 61 2 f53_2.c1 κ n (f53_2.T1 s9 s10 s11 s12 s13 s14 s15 s16 s17) (f53_2.H1 s9 s10 s11 s12 s13 s14 s15 s16 s17)
  =f53_2.l1 L N (f53_2.X1_e2 κ) n s9 s10 s11 s12 s13 s14 s15 s16 s17:=by
 intro n
 induction n with
 |zero=>intros;rfl
 |succ n ih=>
  intro s9 s10 s11 s12 s13 s14 s15 s16 s17
  rw [evLp_succ,f53_2.s1_eq]
  delta f53_2.R1
  simp only [ih]
  rfl
def f53_2.X0_e0 {R:Type} (κ:KX R):=fun z7=>κ (.exit 0) (f53_2.T0_e0 z7) (f53_2.H0_e0 z7)
def f53_2.R0 {R:Type} (rec:KT R):=fun s0 s1 s2 s3 s4 s5 s6=>rec (f53_2.T0 s0 s1 s2 s3 s4 s5 s6) (f53_2.H0 s0 s1 s2 s3 s4 s5 s6)
theorem f53_2.p1_e2_eq {R:Type} (L N:Nat) (κ:KX R) (rec:KT R) (z18:LI) (z19:LLM) (z20:LI) (z21:Int) (z22:Int) (z23:LI) (z24:LLM):
  (contAt (E53_2 L N) (evCallI (E53_2 L N) 1 2000) 1000 53 61 2 f53_2.c0 (rdK (E53_2 L N) 1000 53 61 0 κ rec)) (.exit 2) (f53_2.T1_e2 z18 z19 z20 z21 z22 z23 z24) (f53_2.H1_e2 z18 z19 z20 z21 z22 z23 z24)
  =f53_2.p1_e2 L N (f53_2.X0_e0 κ) (f53_2.R0 rec) z18 z19 z20 z21 z22 z23 z24:=by kernel_rfl
theorem f53_2.s0_eq {R:Type} (L N:Nat) (κ:KX R) (rec:KT R) (s0:LI) (s1:LLM) (s2:LI) (s3:Int) (s4:Int) (s5:LI) (s6:LLM):
  evRd (E53_2 L N) (evCallI (E53_2 L N) 1 2000) 1000 53 61 0 f53_2.c0 κ rec (f53_2.T0 s0 s1 s2 s3 s4 s5 s6) (f53_2.H0 s0 s1 s2 s3 s4 s5 s6)
  =f53_2.s0 L N (f53_2.X0_e0 κ) (f53_2.R0 rec) s0 s1 s2 s3 s4 s5 s6:=by
 refine Eq.trans (b:=f53_2.s0' L N (f53_2.X0_e0 κ) (f53_2.R0 rec) (fun s9 s10 s11 s12 s13 s14 s15 s16 s17=>evLp (E53_2 L N) (evCallI (E53_2 L N) 1 2000) 1000 53 61 2 f53_2.c1 (contAt (E53_2 L N) (evCallI (E53_2 L N) 1 2000) 1000 53 61 2 f53_2.c0 (rdK (E53_2 L N) 1000 53 61 0 κ rec)) L (f53_2.T1 s9 s10 s11 s12 s13 s14 s15 s16 s17) (f53_2.H1 s9 s10 s11 s12 s13 s14 s15 s16 s17)) s0 s1 s2 s3 s4 s5 s6) (by kernel_rfl) ?_
 unfold f53_2.s0
 simp only [f53_2.l1_eq]
 delta f53_2.X1_e2
 simp only [f53_2.p1_e2_eq]
theorem f53_2.l0_eq {R:Type} (L N:Nat) (κ:KX R):∀(n:Nat) (s0:LI) (s1:LLM) (s2:LI) (s3:Int) (s4:Int) (s5:LI) (s6:LLM),
  evLp (E53_2 L N) (evCallI (E53_2 L N) 1 2000) 1000 53 61 0 f53_2.c0 κ n (f53_2.T0 s0 s1 s2 s3 s4 s5 s6) (f53_2.H0 s0 s1 s2 s3 s4 s5 s6)
  =f53_2.l0 L N (f53_2.X0_e0 κ) n s0 s1 s2 s3 s4 s5 s6:=by
 intro n
 induction n with
 |zero=>intros;rfl
 |succ n ih=>
  intro s0 s1 s2 s3 s4 s5 s6
  rw [evLp_succ,f53_2.s0_eq]
  delta f53_2.R0
  simp only [ih]
  rfl
theorem f53_2.p0_e0_eq {R:Type} (L N:Nat) (κ:RN.Den .row→List Int→Option R) (z7:LI):
  (contAt (E53_2 L N) (evCallI (E53_2 L N) 1 2000) 1000 53 61 0 (codeOf Tryz.f53) (finK (E53_2 L N) 1000 Tryz.f53 (finN .row none 3 i64 κ))) (.exit 0) (f53_2.T0_e0 z7) (f53_2.H0_e0 z7)
  =f53_2.p0_e0 L N (fun a0=>κ () a0) z7:=by kernel_rfl
theorem f53_2.b_eq {R:Type} (L N:Nat) (κ:RN.Den .row→List Int→Option R) (x0:LI) (x1:LLM) (x2:LI):
  evBody (E53_2 L N) (evCallI (E53_2 L N) 1 2000) 1000 53 Tryz.f53 [(.tv (.sl i64) x0),(.fn 54 [(.imf 33 [(.imp (.sl (.sl (.st 0))) x1 0)]),(.imp (.sl i64) x2 0)])] [] [] (finN .row none 3 i64 κ)
  =f53_2.b L N (fun a0=>κ () a0) x0 x1 x2:=by
 refine Eq.trans (b:=f53_2.b' L N (fun a0=>κ () a0) (fun s0 s1 s2 s3 s4 s5 s6=>evLp (E53_2 L N) (evCallI (E53_2 L N) 1 2000) 1000 53 61 0 f53_2.c0 (contAt (E53_2 L N) (evCallI (E53_2 L N) 1 2000) 1000 53 61 0 (codeOf Tryz.f53) (finK (E53_2 L N) 1000 Tryz.f53 (finN .row none 3 i64 κ))) L (f53_2.T0 s0 s1 s2 s3 s4 s5 s6) (f53_2.H0 s0 s1 s2 s3 s4 s5 s6)) x0 x1 x2) (by kernel_rfl) ?_
 unfold f53_2.b
 simp only [f53_2.l0_eq]
 delta f53_2.X0_e0
 simp only [f53_2.p0_e0_eq]
theorem f53_2.ok (L N:Nat) (hΦ:TellsOk Tryz.prog ((Φ54_2 L N))):EntOkO Tryz.prog 53 (f53_2.ent L N):=by
 intro args vw site h a ha
 unfold f53_2.ent at ha
 split at ha
 ·rename_i d hd
  obtain rfl:=Option.some.inj ha
  intro y hy hs
  refine call_ronF (y:=y) (dep:=1000) (E:=(E53_2 L N)) (rn:=.row) (q:=none) (el:=3) (ty:=i64) (d1:=()) (xs:=y) (κ:=(fun d xs=>some xs)) (sound_of hΦ) okP (callI_sound (sound_of hΦ) okP 1 2000) (f:=Tryz.f53) rfl hs hd ?_ (fun _ _ h=>by obtain rfl:=Option.some.inj h;exact ⟨rfl,rfl⟩) rfl site
  exact (f53_2.b_eq L N (fun d xs=>some xs) d.1 d.2.1.1.1 d.2.1.2.1).trans (Eq.trans (b:=f53_2.b L N some d.1 d.2.1.1.1 d.2.1.2.1) (by kernel_rfl) hy)
 ·cases ha
def Φ53_2 (L N:Nat):Tells:=(addO (Φ54_2 L N) 53 (f53_2.ent L N))
theorem Φ53_2_ok (L N:Nat):TellsOk Tryz.prog (Φ53_2 L N):=addO_ok (Φ54_2_ok L N) (f53_2.ok L N (Φ54_2_ok L N))
def f32_2.s0' {R:Type} (L N:Nat) (k0_r:LLI→Option R) (rec0:LLM→LLI→Option R) (s0:LLM) (s1:LLI):Option R:=
 bif (decide (0≤(wi ((s1.length:Int)-(1:Int))))&&decide ((wi ((s1.length:Int)-(1:Int)))<(s1.length:Int))) then
  (f53_2 L N (listAt s1 [] (wi ((s1.length:Int)-(1:Int))).toNat) s0 (listAt s1 [] (wi ((s1.length:Int)-(1:Int))).toNat)).bind fun y2=>
  (f55 L N y2 (listAt s1 [] (wi ((s1.length:Int)-(1:Int))).toNat)).bind fun y3=>
  bif y3 then
   k0_r s1
  else bif (decide (s1.length+([y2]:LLI).length≤lim)) then
   rec0 s0 (s1++([y2]:LLI))
  else none
 else none
def f32_2.s0 {R:Type} (L N:Nat) (k0_r:LLI→Option R) (rec0:LLM→LLI→Option R) (s0:LLM) (s1:LLI):Option R:=
 f32_2.s0' L N k0_r rec0 s0 s1
def f32_2.l0 {R:Type} (L N:Nat) (k0_r:LLI→Option R):Nat→LLM→LLI→Option R
 |0,_,_=>none
 |n+1,s0,s1=>f32_2.s0 L N k0_r (f32_2.l0 L N k0_r n) s0 s1
def f32_2.T0 (s0:LLM) (s1:LLI):T:=mkT 28 [(3,(.ptr 1003 0)),(5,(.row 1010))]
def f32_2.H0 (s0:LLM) (s1:LLI):H:=[(1003,(.box [(.fn 33 [(.imp (.sl (.sl (.st 0))) s0 0)])])),(1010,(.row 22 (.sl i64) s1))]
def f32_2.T0_r (z4:LLI):T:=mkT 28 [(4,(.row 1010))]
def f32_2.H0_r (z4:LLI):H:=[(1010,(.row 22 (.sl i64) z4))]
def f32_2.p0_r' {R:Type} (L N:Nat) (k:LLI→Option R) (z4:LLI):Option R:=
 k z4
def f32_2.p0_r {R:Type} (L N:Nat) (k:LLI→Option R) (z4:LLI):Option R:=
 f32_2.p0_r' L N k z4
def f32_2.b' {R:Type} (L N:Nat) (k:LLI→Option R) (w0:LLM→LLI→Option R) (x0:Int) (x1:LLM):Option R:=
 bif (decide (0≤x0)&&decide (x0≤(lim:Int))) then
  w0 x1 ([(List.replicate x0.toNat (0:Int))]:LLI)
 else none
def f32_2.b {R:Type} (L N:Nat) (k:LLI→Option R) (x0:Int) (x1:LLM):Option R:=
 f32_2.b' L N k (fun s0 s1=>f32_2.l0 L N (fun z4=>f32_2.p0_r L N k z4) L s0 s1) x0 x1
def f32_2 (L N:Nat) (x0:Int) (x1:LLM):Option (LLI):=f32_2.b L N some x0 x1
def f32_2.ent (L N:Nat):=entDf [(.dat i64),(.fn 33 [(.imp (.sl (.sl (.st 0))) 0)])] (.one (.sl (.sl i64))) fun d=>f32_2 L N d.1 d.2.1.1
noncomputable def E32_2 (L N:Nat):Env:={P:=Tryz.prog,ty:=tyOf,Φ:=(Φ53_2 L N),inl:=inlT,live:=lives,liveX:=livesX,L:=L,dp:=none,prom:=promT,heal:=healT,ren:=renT}
noncomputable def f32_2.c0:Code:=loopAt 0 (codeOf Tryz.f32)
def f32_2.X0_r {R:Type} (κ:KX R):=fun z4=>κ .ret (f32_2.T0_r z4) (f32_2.H0_r z4)
def f32_2.R0 {R:Type} (rec:KT R):=fun s0 s1=>rec (f32_2.T0 s0 s1) (f32_2.H0 s0 s1)
theorem f32_2.s0_eq {R:Type} (L N:Nat) (κ:KX R) (rec:KT R) (s0:LLM) (s1:LLI):
  evRd (E32_2 L N) (evCallI (E32_2 L N) 1 2000) 1000 32 28 0 f32_2.c0 κ rec (f32_2.T0 s0 s1) (f32_2.H0 s0 s1)
  =f32_2.s0 L N (f32_2.X0_r κ) (f32_2.R0 rec) s0 s1:=by kernel_rfl
theorem f32_2.l0_eq {R:Type} (L N:Nat) (κ:KX R):∀(n:Nat) (s0:LLM) (s1:LLI),
  evLp (E32_2 L N) (evCallI (E32_2 L N) 1 2000) 1000 32 28 0 f32_2.c0 κ n (f32_2.T0 s0 s1) (f32_2.H0 s0 s1)
  =f32_2.l0 L N (f32_2.X0_r κ) n s0 s1:=by
 intro n
 induction n with
 |zero=>intros;rfl
 |succ n ih=>
  intro s0 s1
  rw [evLp_succ,f32_2.s0_eq]
  delta f32_2.R0
  simp only [ih]
  rfl
theorem f32_2.p0_r_eq {R:Type} (L N:Nat) (κ:AV→Option R) (z4:LLI):
  (contAt (E32_2 L N) (evCallI (E32_2 L N) 1 2000) 1000 32 28 0 (codeOf Tryz.f32) (finK (E32_2 L N) 1000 Tryz.f32 (finC (.one (.sl (.sl i64))) κ))) .ret (f32_2.T0_r z4) (f32_2.H0_r z4)
  =f32_2.p0_r L N (fun a0=>κ (.tv (.sl (.sl i64)) a0)) z4:=by kernel_rfl
theorem f32_2.b_eq {R:Type} (L N:Nat) (κ:AV→Option R) (x0:Int) (x1:LLM):
  evBody (E32_2 L N) (evCallI (E32_2 L N) 1 2000) 1000 32 Tryz.f32 [(.tv i64 x0),(.fn 33 [(.imp (.sl (.sl (.st 0))) x1 0)])] [] [] (finC (.one (.sl (.sl i64))) κ)
  =f32_2.b L N (fun a0=>κ (.tv (.sl (.sl i64)) a0)) x0 x1:=by
 refine Eq.trans (b:=f32_2.b' L N (fun a0=>κ (.tv (.sl (.sl i64)) a0)) (fun s0 s1=>evLp (E32_2 L N) (evCallI (E32_2 L N) 1 2000) 1000 32 28 0 f32_2.c0 (contAt (E32_2 L N) (evCallI (E32_2 L N) 1 2000) 1000 32 28 0 (codeOf Tryz.f32) (finK (E32_2 L N) 1000 Tryz.f32 (finC (.one (.sl (.sl i64))) κ))) L (f32_2.T0 s0 s1) (f32_2.H0 s0 s1)) x0 x1) (by kernel_rfl) ?_
 unfold f32_2.b
 simp only [f32_2.l0_eq]
 delta f32_2.X0_r
 simp only [f32_2.p0_r_eq]
theorem f32_2.ok (L N:Nat) (hΦ:TellsOk Tryz.prog ((Φ53_2 L N))):EntOkO Tryz.prog 32 (f32_2.ent L N):=entDf_ok (E:=(E32_2 L N)) (dep:=1000) (f:=Tryz.f32) (sound_of hΦ) okP (callI_sound (sound_of hΦ) okP 1 2000) rfl fun d _ hy=>(f32_2.b_eq L N (unR (.one (.sl (.sl i64)))) d.1 d.2.1.1).trans (Eq.trans (b:=f32_2.b L N some d.1 d.2.1.1) (by kernel_rfl) hy)
def Φ32_2 (L N:Nat):Tells:=(addO (Φ53_2 L N) 32 (f32_2.ent L N))
theorem Φ32_2_ok (L N:Nat):TellsOk Tryz.prog (Φ32_2 L N):=addO_ok (Φ53_2_ok L N) (f32_2.ok L N (Φ53_2_ok L N))
def f12.b' {R:Type} (L N:Nat) (k:LI→Option R) (x0:Graph):Option R:=
 (f6 L N (Graph.mk x0.moves)).bind fun y0=>
 bif (!y0) then
  k []
 else (f32_2 L N (x0.moves.length:Int) x0.moves).bind fun y1=>
 bif (decide (0≤(wi ((y1.length:Int)-(1:Int))))&&decide ((wi ((y1.length:Int)-(1:Int)))<(y1.length:Int))) then
  ((fclone (listAt y1 [] (wi ((y1.length:Int)-(1:Int))).toNat))).bind fun y2=>
  k (listAt y1 [] (wi ((y1.length:Int)-(1:Int))).toNat)
 else none
def f12.b {R:Type} (L N:Nat) (k:LI→Option R) (x0:Graph):Option R:=
 f12.b' L N k x0
def f12 (L N:Nat) (x0:Graph):Option (LI):=f12.b L N some x0
def f12.ent (L N:Nat) (args:List AV) (vw:View) (site:Nat):Ans:=match roD [(.st 2)] vw args with
 |some d=>⟨LI,f12 L N d.1,fun y=>(RN.av site .row (),[(site,some (mkO none 3 i64 y))],[])⟩
 |none=>Ans.no
noncomputable def E12 (L N:Nat):Env:={P:=Tryz.prog,ty:=tyOf,Φ:=(Φ32_2 L N),inl:=inlT,live:=lives,liveX:=livesX,L:=L,dp:=none,prom:=promT,heal:=healT,ren:=renT}
theorem f12.b_eq {R:Type} (L N:Nat) (κ:RN.Den .row→List Int→Option R) (x0:Graph):
  evBody (E12 L N) (evCallI (E12 L N) 1 2000) 1000 12 Tryz.f12 [(.tv (.st 2) x0)] [] [] (finN .row none 3 i64 κ)
  =f12.b L N (fun a0=>κ () a0) x0:=by kernel_rfl
theorem f12.ok (L N:Nat) (hΦ:TellsOk Tryz.prog ((Φ32_2 L N))):EntOk Tryz.prog 12 (f12.ent L N):=by
 intro args vw site h
 unfold f12.ent
 split
 ·rename_i d ha
  intro y hy hs
  refine call_ron (y:=y) (dep:=1000) (E:=(E12 L N)) (ts:=[(.st 2)]) (rn:=.row) (q:=none) (el:=3) (ty:=i64) (d1:=()) (xs:=y) (κ:=(fun d xs=>some xs)) (sound_of hΦ) okP (callI_sound (sound_of hΦ) okP 1 2000) (f:=Tryz.f12) rfl hs ha ?_ (fun _ _ h=>by obtain rfl:=Option.some.inj h;exact ⟨rfl,rfl⟩) rfl site
  exact (f12.b_eq L N (fun d xs=>some xs) d.1).trans (Eq.trans (b:=f12.b L N some d.1) (by kernel_rfl) hy)
 ·intro y hy
  cases hy
def Φ12 (L N:Nat):Tells:=(addT (Φ32_2 L N) 12 (f12.ent L N))
theorem Φ12_ok (L N:Nat):TellsOk Tryz.prog (Φ12 L N):=addT_ok (Φ32_2_ok L N) (f12.ok L N (Φ32_2_ok L N))
def f60.s0' {R:Type} (L N:Nat) (k0_e0:LLM→LB→LI→Option R) (rec0:LI→Int→Int→LLM→LB→LI→Option R) (s0:LI) (s1:Int) (s2:Int) (s3:LLM) (s4:LB) (s5:LI):Option R:=
 bif (decide (s2<s1)) then
  bif (decide (0≤s2)&&decide (s2<(s0.length:Int))) then
   bif (decide (0≤(listAt s0 (0:Int) s2.toNat))&&decide ((listAt s0 (0:Int) s2.toNat)<(s4.length:Int))) then
    bif (!(listAt s4 false (listAt s0 (0:Int) s2.toNat).toNat)) then
     bif (decide (0≤(listAt s0 (0:Int) s2.toNat))&&decide ((listAt s0 (0:Int) s2.toNat)<(s4.length:Int))) then
      bif (decide (s5.length+([(listAt s0 (0:Int) s2.toNat)]:LI).length≤lim)) then
       rec0 s0 s1 (wi (s2+(1:Int))) s3 (s4.set ((listAt s0 (0:Int) s2.toNat).toNat) true) (s5++([(listAt s0 (0:Int) s2.toNat)]:LI))
      else none
     else none
    else rec0 s0 s1 (wi (s2+(1:Int))) s3 s4 s5
   else none
  else none
 else k0_e0 s3 s4 s5
def f60.s0 {R:Type} (L N:Nat) (k0_e0:LLM→LB→LI→Option R) (rec0:LI→Int→Int→LLM→LB→LI→Option R) (s0:LI) (s1:Int) (s2:Int) (s3:LLM) (s4:LB) (s5:LI):Option R:=
 f60.s0' L N k0_e0 rec0 s0 s1 s2 s3 s4 s5
def f60.l0 {R:Type} (L N:Nat) (k0_e0:LLM→LB→LI→Option R):Nat→LI→Int→Int→LLM→LB→LI→Option R
 |0,_,_,_,_,_,_=>none
 |n+1,s0,s1,s2,s3,s4,s5=>f60.s0 L N k0_e0 (f60.l0 L N k0_e0 n) s0 s1 s2 s3 s4 s5
def f60.T0 (s0:LI) (s1:Int) (s2:Int) (s3:LLM) (s4:LB) (s5:LI):T:=mkT 79 [(2,(.ptr 1002 0)),(5,(.row 1015)),(6,(.row 1016)),(17,(.tv (.sl i64) s0)),(18,(.tv i64 s1)),(19,(.tv i64 s2))]
def f60.H0 (s0:LI) (s1:Int) (s2:Int) (s3:LLM) (s4:LB) (s5:LI):H:=[(1002,(.box [(.tv (.sl (.sl (.st 0))) s3)])),(1015,(.row 4 .bool s4)),(1016,(.row 3 i64 s5))]
def f60.T0_e0 (z6:LLM) (z7:LB) (z8:LI):T:=mkT 79 [(2,(.ptr 1002 0)),(5,(.row 1015)),(6,(.row 1016))]
def f60.H0_e0 (z6:LLM) (z7:LB) (z8:LI):H:=[(1002,(.box [(.tv (.sl (.sl (.st 0))) z6)])),(1015,(.row 4 .bool z7)),(1016,(.row 3 i64 z8))]
def f60.j0' {R:Type} (L N:Nat) (k2_e4:Int→LLM→LB→LI→Option R) (rec2:Int→LM→Int→Int→LLM→LB→LI→Option R) (v31:Int) (v32:LM) (v33:Int) (v34:Int) (v35:Bool) (v36:LLM) (v37:Int) (v38:Int) (v39:LB) (v40:LI):Option R:=
 bif v35 then
  bif (decide (0≤v38)&&decide (v38<(v39.length:Int))) then
   bif (decide (v40.length+([v38]:LI).length≤lim)) then
    rec2 v31 v32 v33 (wi (v34+(1:Int))) v36 (v39.set v38.toNat true) (v40++([v38]:LI))
   else none
  else none
 else rec2 v31 v32 v33 (wi (v34+(1:Int))) v36 v39 v40
def f60.s2' {R:Type} (L N:Nat) (k2_e4:Int→LLM→LB→LI→Option R) (rec2:Int→LM→Int→Int→LLM→LB→LI→Option R) (s20:Int) (s21:LM) (s22:Int) (s23:Int) (s24:LLM) (s25:LB) (s26:LI):Option R:=
 bif (decide (s23<s22)) then
  bif (decide (0≤s23)&&decide (s23<(s21.length:Int))) then
   bif ((listAt s21 (Ty.dflt (.st 0)) s23.toNat).act==(0:Int)) then
    bif (decide (0≤(listAt s21 (Ty.dflt (.st 0)) s23.toNat).to)&&decide ((listAt s21 (Ty.dflt (.st 0)) s23.toNat).to<(s25.length:Int))) then
     f60.j0' L N k2_e4 rec2 s20 s21 s22 s23 (!(listAt s25 false ((listAt s21 (Ty.dflt (.st 0)) s23.toNat).to).toNat)) s24 ((listAt s21 (Ty.dflt (.st 0)) s23.toNat).act) ((listAt s21 (Ty.dflt (.st 0)) s23.toNat).to) s25 s26
    else none
   else f60.j0' L N k2_e4 rec2 s20 s21 s22 s23 false s24 ((listAt s21 (Ty.dflt (.st 0)) s23.toNat).act) ((listAt s21 (Ty.dflt (.st 0)) s23.toNat).to) s25 s26
  else none
 else k2_e4 s20 s24 s25 s26
def f60.s2 {R:Type} (L N:Nat) (k2_e4:Int→LLM→LB→LI→Option R) (rec2:Int→LM→Int→Int→LLM→LB→LI→Option R) (s20:Int) (s21:LM) (s22:Int) (s23:Int) (s24:LLM) (s25:LB) (s26:LI):Option R:=
 f60.s2' L N k2_e4 rec2 s20 s21 s22 s23 s24 s25 s26
def f60.l2 {R:Type} (L N:Nat) (k2_e4:Int→LLM→LB→LI→Option R):Nat→Int→LM→Int→Int→LLM→LB→LI→Option R
 |0,_,_,_,_,_,_,_=>none
 |n+1,s20,s21,s22,s23,s24,s25,s26=>f60.s2 L N k2_e4 (f60.l2 L N k2_e4 n) s20 s21 s22 s23 s24 s25 s26
def f60.T2 (s20:Int) (s21:LM) (s22:Int) (s23:Int) (s24:LLM) (s25:LB) (s26:LI):T:=mkT 79 [(2,(.ptr 1002 0)),(5,(.row 1015)),(6,(.row 1016)),(9,(.tv i64 s20)),(49,(.tv (.sl (.st 0)) s21)),(50,(.tv i64 s22)),(51,(.tv i64 s23))]
def f60.H2 (s20:Int) (s21:LM) (s22:Int) (s23:Int) (s24:LLM) (s25:LB) (s26:LI):H:=[(1002,(.box [(.tv (.sl (.sl (.st 0))) s24)])),(1015,(.row 4 .bool s25)),(1016,(.row 3 i64 s26))]
def f60.T2_e4 (z27:Int) (z28:LLM) (z29:LB) (z30:LI):T:=mkT 79 [(2,(.ptr 1002 0)),(5,(.row 1015)),(6,(.row 1016)),(9,(.tv i64 z27))]
def f60.H2_e4 (z27:Int) (z28:LLM) (z29:LB) (z30:LI):H:=[(1002,(.box [(.tv (.sl (.sl (.st 0))) z28)])),(1015,(.row 4 .bool z29)),(1016,(.row 3 i64 z30))]
def f60.p2_e4' {R:Type} (L N:Nat) (k1_e2:LI→Option R) (rec1:Int→LLM→LB→LI→Option R) (z27:Int) (z28:LLM) (z29:LB) (z30:LI):Option R:=
 rec1 (wi (z27+(1:Int))) z28 z29 z30
def f60.p2_e4 {R:Type} (L N:Nat) (k1_e2:LI→Option R) (rec1:Int→LLM→LB→LI→Option R) (z27:Int) (z28:LLM) (z29:LB) (z30:LI):Option R:=
 f60.p2_e4' L N k1_e2 rec1 z27 z28 z29 z30
def f60.s1' {R:Type} (L N:Nat) (k1_e2:LI→Option R) (rec1:Int→LLM→LB→LI→Option R) (w2:Int→LM→Int→Int→LLM→LB→LI→Option R) (s15:Int) (s16:LLM) (s17:LB) (s18:LI):Option R:=
 bif (decide (s15<(s18.length:Int))) then
  bif (decide (0≤s15)&&decide (s15<(s18.length:Int))) then
   bif (decide (0≤(listAt s18 (0:Int) s15.toNat))&&decide ((listAt s18 (0:Int) s15.toNat)<(s16.length:Int))) then
    w2 s15 (listAt s16 [] (listAt s18 (0:Int) s15.toNat).toNat) ((listAt s16 [] (listAt s18 (0:Int) s15.toNat).toNat).length:Int) (0:Int) s16 s17 s18
   else none
  else none
 else k1_e2 s18
def f60.s1 {R:Type} (L N:Nat) (k1_e2:LI→Option R) (rec1:Int→LLM→LB→LI→Option R) (s15:Int) (s16:LLM) (s17:LB) (s18:LI):Option R:=
 f60.s1' L N k1_e2 rec1 (fun s20 s21 s22 s23 s24 s25 s26=>f60.l2 L N (fun z27 z28 z29 z30=>f60.p2_e4 L N k1_e2 rec1 z27 z28 z29 z30) L s20 s21 s22 s23 s24 s25 s26) s15 s16 s17 s18
def f60.l1 {R:Type} (L N:Nat) (k1_e2:LI→Option R):Nat→Int→LLM→LB→LI→Option R
 |0,_,_,_,_=>none
 |n+1,s15,s16,s17,s18=>f60.s1 L N k1_e2 (f60.l1 L N k1_e2 n) s15 s16 s17 s18
def f60.T1 (s15:Int) (s16:LLM) (s17:LB) (s18:LI):T:=mkT 79 [(2,(.ptr 1002 0)),(5,(.row 1015)),(6,(.row 1016)),(9,(.tv i64 s15))]
def f60.H1 (s15:Int) (s16:LLM) (s17:LB) (s18:LI):H:=[(1002,(.box [(.tv (.sl (.sl (.st 0))) s16)])),(1015,(.row 4 .bool s17)),(1016,(.row 3 i64 s18))]
def f60.T1_e2 (z19:LI):T:=mkT 79 [(6,(.row 1016))]
def f60.H1_e2 (z19:LI):H:=[(1016,(.row 3 i64 z19))]
def f60.p1_e2' {R:Type} (L N:Nat) (k:LI→Option R) (z19:LI):Option R:=
 ((fsort z19)).bind fun y48=>
 k (sortI z19)
def f60.p1_e2 {R:Type} (L N:Nat) (k:LI→Option R) (z19:LI):Option R:=
 f60.p1_e2' L N k z19
def f60.p0_e0' {R:Type} (L N:Nat) (k:LI→Option R) (w1:Int→LLM→LB→LI→Option R) (z6:LLM) (z7:LB) (z8:LI):Option R:=
 w1 (0:Int) z6 z7 z8
def f60.p0_e0 {R:Type} (L N:Nat) (k:LI→Option R) (z6:LLM) (z7:LB) (z8:LI):Option R:=
 f60.p0_e0' L N k (fun s15 s16 s17 s18=>f60.l1 L N (fun z19=>f60.p1_e2 L N k z19) L s15 s16 s17 s18) z6 z7 z8
def f60.b' {R:Type} (L N:Nat) (k:LI→Option R) (w0:LI→Int→Int→LLM→LB→LI→Option R) (x0:Graph) (x1:LI):Option R:=
 bif (decide (0≤(x0.moves.length:Int))&&decide ((x0.moves.length:Int)≤(lim:Int))) then
  w0 x1 (x1.length:Int) (0:Int) x0.moves (List.replicate (x0.moves.length:Int).toNat false) ([]:LI)
 else none
def f60.b {R:Type} (L N:Nat) (k:LI→Option R) (x0:Graph) (x1:LI):Option R:=
 f60.b' L N k (fun s0 s1 s2 s3 s4 s5=>f60.l0 L N (fun z6 z7 z8=>f60.p0_e0 L N k z6 z7 z8) L s0 s1 s2 s3 s4 s5) x0 x1
def f60 (L N:Nat) (x0:Graph) (x1:LI):Option (LI):=f60.b L N some x0 x1
def f60.ent (L N:Nat) (args:List AV) (vw:View) (site:Nat):Ans:=match roD [(.st 2),(.sl i64)] vw args with
 |some d=>⟨LI,f60 L N d.1 d.2.1,fun y=>(RN.av site .row (),[(site,some (mkO none 3 i64 y))],[])⟩
 |none=>Ans.no
noncomputable def E60 (L N:Nat):Env:={P:=Tryz.prog,ty:=tyOf,Φ:=(Φ12 L N),inl:=inlT,live:=lives,liveX:=livesX,L:=L,dp:=none,prom:=promT,heal:=healT,ren:=renT}
noncomputable def f60.c0:Code:=loopAt 0 (codeOf Tryz.f60)
def f60.X0_e0 {R:Type} (κ:KX R):=fun z6 z7 z8=>κ (.exit 0) (f60.T0_e0 z6 z7 z8) (f60.H0_e0 z6 z7 z8)
def f60.R0 {R:Type} (rec:KT R):=fun s0 s1 s2 s3 s4 s5=>rec (f60.T0 s0 s1 s2 s3 s4 s5) (f60.H0 s0 s1 s2 s3 s4 s5)
theorem f60.s0_eq {R:Type} (L N:Nat) (κ:KX R) (rec:KT R) (s0:LI) (s1:Int) (s2:Int) (s3:LLM) (s4:LB) (s5:LI):
  evRd (E60 L N) (evCallI (E60 L N) 1 2000) 1000 60 79 0 f60.c0 κ rec (f60.T0 s0 s1 s2 s3 s4 s5) (f60.H0 s0 s1 s2 s3 s4 s5)
  =f60.s0 L N (f60.X0_e0 κ) (f60.R0 rec) s0 s1 s2 s3 s4 s5:=by kernel_rfl
theorem f60.l0_eq {R:Type} (L N:Nat) (κ:KX R):∀(n:Nat) (s0:LI) (s1:Int) (s2:Int) (s3:LLM) (s4:LB) (s5:LI),
  evLp (E60 L N) (evCallI (E60 L N) 1 2000) 1000 60 79 0 f60.c0 κ n (f60.T0 s0 s1 s2 s3 s4 s5) (f60.H0 s0 s1 s2 s3 s4 s5)
  =f60.l0 L N (f60.X0_e0 κ) n s0 s1 s2 s3 s4 s5:=by
 intro n
 induction n with
 |zero=>intros;rfl
 |succ n ih=>
  intro s0 s1 s2 s3 s4 s5
  rw [evLp_succ,f60.s0_eq]
  delta f60.R0
  simp only [ih]
  rfl
noncomputable def f60.c1:Code:=loopAt 2 (codeOf Tryz.f60)
noncomputable def f60.c2:Code:=loopAt 4 f60.c1
def f60.X2_e4 {R:Type} (κ:KX R):=fun z27 z28 z29 z30=>κ (.exit 4) (f60.T2_e4 z27 z28 z29 z30) (f60.H2_e4 z27 z28 z29 z30)
def f60.R2 {R:Type} (rec:KT R):=fun s20 s21 s22 s23 s24 s25 s26=>rec (f60.T2 s20 s21 s22 s23 s24 s25 s26) (f60.H2 s20 s21 s22 s23 s24 s25 s26)
theorem f60.s2_eq {R:Type} (L N:Nat) (κ:KX R) (rec:KT R) (s20:Int) (s21:LM) (s22:Int) (s23:Int) (s24:LLM) (s25:LB) (s26:LI):
  evRd (E60 L N) (evCallI (E60 L N) 1 2000) 1000 60 79 4 f60.c2 κ rec (f60.T2 s20 s21 s22 s23 s24 s25 s26) (f60.H2 s20 s21 s22 s23 s24 s25 s26)
  =f60.s2 L N (f60.X2_e4 κ) (f60.R2 rec) s20 s21 s22 s23 s24 s25 s26:=by kernel_rfl
theorem f60.l2_eq {R:Type} (L N:Nat) (κ:KX R):∀(n:Nat) (s20:Int) (s21:LM) (s22:Int) (s23:Int) (s24:LLM) (s25:LB) (s26:LI),
  evLp (E60 L N) (evCallI (E60 L N) 1 2000) 1000 60 79 4 f60.c2 κ n (f60.T2 s20 s21 s22 s23 s24 s25 s26) (f60.H2 s20 s21 s22 s23 s24 s25 s26)
  =f60.l2 L N (f60.X2_e4 κ) n s20 s21 s22 s23 s24 s25 s26:=by
 intro n
 induction n with
 |zero=>intros;rfl
 |succ n ih=>
  intro s20 s21 s22 s23 s24 s25 s26
  rw [evLp_succ,f60.s2_eq]
  delta f60.R2
  simp only [ih]
  rfl
def f60.X1_e2 {R:Type} (κ:KX R):=fun z19=>κ (.exit 2) (f60.T1_e2 z19) (f60.H1_e2 z19)
def f60.R1 {R:Type} (rec:KT R):=fun s15 s16 s17 s18=>rec (f60.T1 s15 s16 s17 s18) (f60.H1 s15 s16 s17 s18)
theorem f60.p2_e4_eq {R:Type} (L N:Nat) (κ:KX R) (rec:KT R) (z27:Int) (z28:LLM) (z29:LB) (z30:LI):
  (contAt (E60 L N) (evCallI (E60 L N) 1 2000) 1000 60 79 4 f60.c1 (rdK (E60 L N) 1000 60 79 2 κ rec)) (.exit 4) (f60.T2_e4 z27 z28 z29 z30) (f60.H2_e4 z27 z28 z29 z30)
  =f60.p2_e4 L N (f60.X1_e2 κ) (f60.R1 rec) z27 z28 z29 z30:=by kernel_rfl
theorem f60.s1_eq {R:Type} (L N:Nat) (κ:KX R) (rec:KT R) (s15:Int) (s16:LLM) (s17:LB) (s18:LI):
  evRd (E60 L N) (evCallI (E60 L N) 1 2000) 1000 60 79 2 f60.c1 κ rec (f60.T1 s15 s16 s17 s18) (f60.H1 s15 s16 s17 s18)
  =f60.s1 L N (f60.X1_e2 κ) (f60.R1 rec) s15 s16 s17 s18:=by
 refine Eq.trans (b:=f60.s1' L N (f60.X1_e2 κ) (f60.R1 rec) (fun s20 s21 s22 s23 s24 s25 s26=>evLp (E60 L N) (evCallI (E60 L N) 1 2000) 1000 60 79 4 f60.c2 (contAt (E60 L N) (evCallI (E60 L N) 1 2000) 1000 60 79 4 f60.c1 (rdK (E60 L N) 1000 60 79 2 κ rec)) L (f60.T2 s20 s21 s22 s23 s24 s25 s26) (f60.H2 s20 s21 s22 s23 s24 s25 s26)) s15 s16 s17 s18) (by kernel_rfl) ?_
 unfold f60.s1
 simp only [f60.l2_eq]
 delta f60.X2_e4
 simp only [f60.p2_e4_eq]
theorem f60.l1_eq {R:Type} (L N:Nat) (κ:KX R):∀(n:Nat) (s15:Int) (s16:LLM) (s17:LB) (s18:LI),
  evLp (E60 L N) (evCallI (E60 L N) 1 2000) 1000 60 79 2 f60.c1 κ n (f60.T1 s15 s16 s17 s18) (f60.H1 s15 s16 s17 s18)
  =f60.l1 L N (f60.X1_e2 κ) n s15 s16 s17 s18:=by
 intro n
 induction n with
 |zero=>intros;rfl
 |succ n ih=>
  intro s15 s16 s17 s18
  rw [evLp_succ,f60.s1_eq]
  delta f60.R1
  simp only [ih]
  rfl
theorem f60.p1_e2_eq {R:Type} (L N:Nat) (κ:RN.Den .row→List Int→Option R) (z19:LI):
  (contAt (E60 L N) (evCallI (E60 L N) 1 2000) 1000 60 79 2 (codeOf Tryz.f60) (finK (E60 L N) 1000 Tryz.f60 (finN .row none 3 i64 κ))) (.exit 2) (f60.T1_e2 z19) (f60.H1_e2 z19)
  =f60.p1_e2 L N (fun a0=>κ () a0) z19:=by kernel_rfl
theorem f60.p0_e0_eq {R:Type} (L N:Nat) (κ:RN.Den .row→List Int→Option R) (z6:LLM) (z7:LB) (z8:LI):
  (contAt (E60 L N) (evCallI (E60 L N) 1 2000) 1000 60 79 0 (codeOf Tryz.f60) (finK (E60 L N) 1000 Tryz.f60 (finN .row none 3 i64 κ))) (.exit 0) (f60.T0_e0 z6 z7 z8) (f60.H0_e0 z6 z7 z8)
  =f60.p0_e0 L N (fun a0=>κ () a0) z6 z7 z8:=by
 refine Eq.trans (b:=f60.p0_e0' L N (fun a0=>κ () a0) (fun s15 s16 s17 s18=>evLp (E60 L N) (evCallI (E60 L N) 1 2000) 1000 60 79 2 f60.c1 (contAt (E60 L N) (evCallI (E60 L N) 1 2000) 1000 60 79 2 (codeOf Tryz.f60) (finK (E60 L N) 1000 Tryz.f60 (finN .row none 3 i64 κ))) L (f60.T1 s15 s16 s17 s18) (f60.H1 s15 s16 s17 s18)) z6 z7 z8) (by kernel_rfl) ?_
 unfold f60.p0_e0
 simp only [f60.l1_eq]
 delta f60.X1_e2
 simp only [f60.p1_e2_eq]
theorem f60.b_eq {R:Type} (L N:Nat) (κ:RN.Den .row→List Int→Option R) (x0:Graph) (x1:LI):
  evBody (E60 L N) (evCallI (E60 L N) 1 2000) 1000 60 Tryz.f60 [(.tv (.st 2) x0),(.tv (.sl i64) x1)] [] [] (finN .row none 3 i64 κ)
  =f60.b L N (fun a0=>κ () a0) x0 x1:=by
 refine Eq.trans (b:=f60.b' L N (fun a0=>κ () a0) (fun s0 s1 s2 s3 s4 s5=>evLp (E60 L N) (evCallI (E60 L N) 1 2000) 1000 60 79 0 f60.c0 (contAt (E60 L N) (evCallI (E60 L N) 1 2000) 1000 60 79 0 (codeOf Tryz.f60) (finK (E60 L N) 1000 Tryz.f60 (finN .row none 3 i64 κ))) L (f60.T0 s0 s1 s2 s3 s4 s5) (f60.H0 s0 s1 s2 s3 s4 s5)) x0 x1) (by kernel_rfl) ?_
 unfold f60.b
 simp only [f60.l0_eq]
 delta f60.X0_e0
 simp only [f60.p0_e0_eq]
theorem f60.ok (L N:Nat) (hΦ:TellsOk Tryz.prog ((Φ12 L N))):EntOk Tryz.prog 60 (f60.ent L N):=by
 intro args vw site h
 unfold f60.ent
 split
 ·rename_i d ha
  intro y hy hs
  refine call_ron (y:=y) (dep:=1000) (E:=(E60 L N)) (ts:=[(.st 2),(.sl i64)]) (rn:=.row) (q:=none) (el:=3) (ty:=i64) (d1:=()) (xs:=y) (κ:=(fun d xs=>some xs)) (sound_of hΦ) okP (callI_sound (sound_of hΦ) okP 1 2000) (f:=Tryz.f60) rfl hs ha ?_ (fun _ _ h=>by obtain rfl:=Option.some.inj h;exact ⟨rfl,rfl⟩) rfl site
  exact (f60.b_eq L N (fun d xs=>some xs) d.1 d.2.1).trans (Eq.trans (b:=f60.b L N some d.1 d.2.1) (by kernel_rfl) hy)
 ·intro y hy
  cases hy
def Φ60 (L N:Nat):Tells:=(addT (Φ12 L N) 60 (f60.ent L N))
theorem Φ60_ok (L N:Nat):TellsOk Tryz.prog (Φ60 L N):=addT_ok (Φ12_ok L N) (f60.ok L N (Φ12_ok L N))
def f56.s0' {R:Type} (L N:Nat) (k0_e0:LLI→Option R) (rec0:Int→Int→LLM→LLI→Option R) (s0:Int) (s1:Int) (s2:LLM) (s3:LLI):Option R:=
 bif (decide (s1<s0)) then
  (f60 L N (Graph.mk s2) ([s1]:LI)).bind fun y5=>
  bif (decide (s3.length+([y5]:LLI).length≤lim)) then
   rec0 s0 (wi (s1+(1:Int))) s2 (s3++([y5]:LLI))
  else none
 else k0_e0 s3
def f56.s0 {R:Type} (L N:Nat) (k0_e0:LLI→Option R) (rec0:Int→Int→LLM→LLI→Option R) (s0:Int) (s1:Int) (s2:LLM) (s3:LLI):Option R:=
 f56.s0' L N k0_e0 rec0 s0 s1 s2 s3
def f56.l0 {R:Type} (L N:Nat) (k0_e0:LLI→Option R):Nat→Int→Int→LLM→LLI→Option R
 |0,_,_,_,_=>none
 |n+1,s0,s1,s2,s3=>f56.s0 L N k0_e0 (f56.l0 L N k0_e0 n) s0 s1 s2 s3
def f56.T0 (s0:Int) (s1:Int) (s2:LLM) (s3:LLI):T:=mkT 21 [(1,(.ptr 1001 0)),(3,(.row 1005)),(8,(.tv i64 s0)),(9,(.tv i64 s1))]
def f56.H0 (s0:Int) (s1:Int) (s2:LLM) (s3:LLI):H:=[(1001,(.box [(.tv (.sl (.sl (.st 0))) s2)])),(1005,(.row 22 (.sl i64) s3))]
def f56.T0_e0 (z4:LLI):T:=mkT 21 [(3,(.row 1005))]
def f56.H0_e0 (z4:LLI):H:=[(1005,(.row 22 (.sl i64) z4))]
def f56.p0_e0' {R:Type} (L N:Nat) (k:LLI→Option R) (z4:LLI):Option R:=
 k z4
def f56.p0_e0 {R:Type} (L N:Nat) (k:LLI→Option R) (z4:LLI):Option R:=
 f56.p0_e0' L N k z4
def f56.b' {R:Type} (L N:Nat) (k:LLI→Option R) (w0:Int→Int→LLM→LLI→Option R) (x0:Graph):Option R:=
 w0 (x0.moves.length:Int) (0:Int) x0.moves ([]:LLI)
def f56.b {R:Type} (L N:Nat) (k:LLI→Option R) (x0:Graph):Option R:=
 f56.b' L N k (fun s0 s1 s2 s3=>f56.l0 L N (fun z4=>f56.p0_e0 L N k z4) L s0 s1 s2 s3) x0
def f56 (L N:Nat) (x0:Graph):Option (LLI):=f56.b L N some x0
def f56.ent (L N:Nat):=entDa [(.st 2)] (.one (.sl (.sl i64))) fun d=>f56 L N d.1
noncomputable def E56 (L N:Nat):Env:={P:=Tryz.prog,ty:=tyOf,Φ:=(Φ60 L N),inl:=inlT,live:=lives,liveX:=livesX,L:=L,dp:=none,prom:=promT,heal:=healT,ren:=renT}
noncomputable def f56.c0:Code:=loopAt 0 (codeOf Tryz.f56)
def f56.X0_e0 {R:Type} (κ:KX R):=fun z4=>κ (.exit 0) (f56.T0_e0 z4) (f56.H0_e0 z4)
def f56.R0 {R:Type} (rec:KT R):=fun s0 s1 s2 s3=>rec (f56.T0 s0 s1 s2 s3) (f56.H0 s0 s1 s2 s3)
theorem f56.s0_eq {R:Type} (L N:Nat) (κ:KX R) (rec:KT R) (s0:Int) (s1:Int) (s2:LLM) (s3:LLI):
  evRd (E56 L N) (evCallI (E56 L N) 1 2000) 1000 56 21 0 f56.c0 κ rec (f56.T0 s0 s1 s2 s3) (f56.H0 s0 s1 s2 s3)
  =f56.s0 L N (f56.X0_e0 κ) (f56.R0 rec) s0 s1 s2 s3:=by kernel_rfl
theorem f56.l0_eq {R:Type} (L N:Nat) (κ:KX R):∀(n:Nat) (s0:Int) (s1:Int) (s2:LLM) (s3:LLI),
  evLp (E56 L N) (evCallI (E56 L N) 1 2000) 1000 56 21 0 f56.c0 κ n (f56.T0 s0 s1 s2 s3) (f56.H0 s0 s1 s2 s3)
  =f56.l0 L N (f56.X0_e0 κ) n s0 s1 s2 s3:=by
 intro n
 induction n with
 |zero=>intros;rfl
 |succ n ih=>
  intro s0 s1 s2 s3
  rw [evLp_succ,f56.s0_eq]
  delta f56.R0
  simp only [ih]
  rfl
theorem f56.p0_e0_eq {R:Type} (L N:Nat) (κ:AV→Option R) (z4:LLI):
  (contAt (E56 L N) (evCallI (E56 L N) 1 2000) 1000 56 21 0 (codeOf Tryz.f56) (finK (E56 L N) 1000 Tryz.f56 (finC (.one (.sl (.sl i64))) κ))) (.exit 0) (f56.T0_e0 z4) (f56.H0_e0 z4)
  =f56.p0_e0 L N (fun a0=>κ (.tv (.sl (.sl i64)) a0)) z4:=by kernel_rfl
theorem f56.b_eq {R:Type} (L N:Nat) (κ:AV→Option R) (x0:Graph):
  evBody (E56 L N) (evCallI (E56 L N) 1 2000) 1000 56 Tryz.f56 [(.tv (.st 2) x0)] [] [] (finC (.one (.sl (.sl i64))) κ)
  =f56.b L N (fun a0=>κ (.tv (.sl (.sl i64)) a0)) x0:=by
 refine Eq.trans (b:=f56.b' L N (fun a0=>κ (.tv (.sl (.sl i64)) a0)) (fun s0 s1 s2 s3=>evLp (E56 L N) (evCallI (E56 L N) 1 2000) 1000 56 21 0 f56.c0 (contAt (E56 L N) (evCallI (E56 L N) 1 2000) 1000 56 21 0 (codeOf Tryz.f56) (finK (E56 L N) 1000 Tryz.f56 (finC (.one (.sl (.sl i64))) κ))) L (f56.T0 s0 s1 s2 s3) (f56.H0 s0 s1 s2 s3)) x0) (by kernel_rfl) ?_
 unfold f56.b
 simp only [f56.l0_eq]
 delta f56.X0_e0
 simp only [f56.p0_e0_eq]
theorem f56.ok (L N:Nat) (hΦ:TellsOk Tryz.prog ((Φ60 L N))):EntOk Tryz.prog 56 (f56.ent L N):=entDa_ok (E:=(E56 L N)) (dep:=1000) (f:=Tryz.f56) (sound_of hΦ) okP (callI_sound (sound_of hΦ) okP 1 2000) rfl fun d _ hy=>(f56.b_eq L N (unR (.one (.sl (.sl i64)))) d.1).trans (Eq.trans (b:=f56.b L N some d.1) (by kernel_rfl) hy)
def Φ56 (L N:Nat):Tells:=(addT (Φ60 L N) 56 (f56.ent L N))
theorem Φ56_ok (L N:Nat):TellsOk Tryz.prog (Φ56 L N):=addT_ok (Φ60_ok L N) (f56.ok L N (Φ60_ok L N))
def f36.s3' {R:Type} (L N:Nat) (k3_e6:LLI→Int→Int→LI→Int→Int→LM→Int→Int→LLM→LM→LLM→LLM→Option R) (rec3:LLI→Int→Int→LI→Int→Int→LM→Int→Int→LI→Int→Int→LLM→Int→Int→LM→LLM→LLM→Option R) (s49:LLI) (s50:Int) (s51:Int) (s52:LI) (s53:Int) (s54:Int) (s55:LM) (s56:Int) (s57:Int) (s58:LI) (s59:Int) (s60:Int) (s61:LLM) (s62:Int) (s63:Int) (s64:LM) (s65:LLM) (s66:LLM):Option R:=
 bif (decide (s60<s59)) then
  bif (decide (0≤s60)&&decide (s60<(s58.length:Int))) then
   bif (decide (s64.length+([(Move.mk s62 (listAt s58 (0:Int) s60.toNat))]:LM).length≤lim)) then
    rec3 s49 s50 s51 s52 s53 s54 s55 s56 s57 s58 s59 (wi (s60+(1:Int))) s61 s62 s63 (s64++([(Move.mk s62 (listAt s58 (0:Int) s60.toNat))]:LM)) s65 s66
   else none
  else none
 else k3_e6 s49 s50 s51 s52 s53 s54 s55 s56 s57 s61 s64 s65 s66
def f36.s3 {R:Type} (L N:Nat) (k3_e6:LLI→Int→Int→LI→Int→Int→LM→Int→Int→LLM→LM→LLM→LLM→Option R) (rec3:LLI→Int→Int→LI→Int→Int→LM→Int→Int→LI→Int→Int→LLM→Int→Int→LM→LLM→LLM→Option R) (s49:LLI) (s50:Int) (s51:Int) (s52:LI) (s53:Int) (s54:Int) (s55:LM) (s56:Int) (s57:Int) (s58:LI) (s59:Int) (s60:Int) (s61:LLM) (s62:Int) (s63:Int) (s64:LM) (s65:LLM) (s66:LLM):Option R:=
 f36.s3' L N k3_e6 rec3 s49 s50 s51 s52 s53 s54 s55 s56 s57 s58 s59 s60 s61 s62 s63 s64 s65 s66
def f36.l3 {R:Type} (L N:Nat) (k3_e6:LLI→Int→Int→LI→Int→Int→LM→Int→Int→LLM→LM→LLM→LLM→Option R):Nat→LLI→Int→Int→LI→Int→Int→LM→Int→Int→LI→Int→Int→LLM→Int→Int→LM→LLM→LLM→Option R
 |0,_,_,_,_,_,_,_,_,_,_,_,_,_,_,_,_,_,_=>none
 |n+1,s49,s50,s51,s52,s53,s54,s55,s56,s57,s58,s59,s60,s61,s62,s63,s64,s65,s66=>f36.s3 L N k3_e6 (f36.l3 L N k3_e6 n) s49 s50 s51 s52 s53 s54 s55 s56 s57 s58 s59 s60 s61 s62 s63 s64 s65 s66
def f36.T3 (s49:LLI) (s50:Int) (s51:Int) (s52:LI) (s53:Int) (s54:Int) (s55:LM) (s56:Int) (s57:Int) (s58:LI) (s59:Int) (s60:Int) (s61:LLM) (s62:Int) (s63:Int) (s64:LM) (s65:LLM) (s66:LLM):T:=mkT 79 [(1,(.ptr 1001 0)),(2,(.ptr 1002 0)),(3,(.tv (.sl (.sl i64)) s49)),(4,(.ptr 1004 0)),(6,(.row 1022)),(10,(.ptr 1010 0)),(18,(.tv i64 s50)),(19,(.tv i64 s51)),(26,(.tv (.sl i64) s52)),(27,(.tv i64 s53)),(28,(.tv i64 s54)),(41,(.tv (.sl (.st 0)) s55)),(42,(.tv i64 s56)),(43,(.tv i64 s57)),(54,(.tv (.sl i64) s58)),(55,(.tv i64 s59)),(56,(.tv i64 s60))]
def f36.H3 (s49:LLI) (s50:Int) (s51:Int) (s52:LI) (s53:Int) (s54:Int) (s55:LM) (s56:Int) (s57:Int) (s58:LI) (s59:Int) (s60:Int) (s61:LLM) (s62:Int) (s63:Int) (s64:LM) (s65:LLM) (s66:LLM):H:=[(1001,(.box [(.tv (.sl (.sl (.st 0))) s61)])),(1002,(.box [(.row 1900)])),(1004,(.box [(.row 1901)])),(1010,(.box [(.tv i64 s62),(.tv i64 s63)])),(1022,(.row 45 (.st 0) s64)),(1900,(.deep 0 (.sl (.st 0)) s65 none)),(1901,(.deep 0 (.sl (.st 0)) s66 none))]
def f36.T3_e6 (z67:LLI) (z68:Int) (z69:Int) (z70:LI) (z71:Int) (z72:Int) (z73:LM) (z74:Int) (z75:Int) (z76:LLM) (z77:LM) (z78:LLM) (z79:LLM):T:=mkT 79 [(1,(.ptr 1001 0)),(2,(.ptr 1002 0)),(3,(.tv (.sl (.sl i64)) z67)),(4,(.ptr 1004 0)),(6,(.row 1022)),(18,(.tv i64 z68)),(19,(.tv i64 z69)),(26,(.tv (.sl i64) z70)),(27,(.tv i64 z71)),(28,(.tv i64 z72)),(41,(.tv (.sl (.st 0)) z73)),(42,(.tv i64 z74)),(43,(.tv i64 z75))]
def f36.H3_e6 (z67:LLI) (z68:Int) (z69:Int) (z70:LI) (z71:Int) (z72:Int) (z73:LM) (z74:Int) (z75:Int) (z76:LLM) (z77:LM) (z78:LLM) (z79:LLM):H:=[(1001,(.box [(.tv (.sl (.sl (.st 0))) z76)])),(1002,(.box [(.row 1900)])),(1004,(.box [(.row 1901)])),(1022,(.row 45 (.st 0) z77)),(1900,(.deep 0 (.sl (.st 0)) z78 none)),(1901,(.deep 0 (.sl (.st 0)) z79 none))]
def f36.p3_e6' {R:Type} (L N:Nat) (k2_e4:LLI→Int→Int→LI→Int→Int→LLM→LM→LLM→LLM→Option R) (rec2:LLI→Int→Int→LI→Int→Int→LM→Int→Int→LLM→LM→LLM→LLM→Option R) (z67:LLI) (z68:Int) (z69:Int) (z70:LI) (z71:Int) (z72:Int) (z73:LM) (z74:Int) (z75:Int) (z76:LLM) (z77:LM) (z78:LLM) (z79:LLM):Option R:=
 rec2 z67 z68 z69 z70 z71 z72 z73 z74 (wi (z75+(1:Int))) z76 z77 z78 z79
def f36.p3_e6 {R:Type} (L N:Nat) (k2_e4:LLI→Int→Int→LI→Int→Int→LLM→LM→LLM→LLM→Option R) (rec2:LLI→Int→Int→LI→Int→Int→LM→Int→Int→LLM→LM→LLM→LLM→Option R) (z67:LLI) (z68:Int) (z69:Int) (z70:LI) (z71:Int) (z72:Int) (z73:LM) (z74:Int) (z75:Int) (z76:LLM) (z77:LM) (z78:LLM) (z79:LLM):Option R:=
 f36.p3_e6' L N k2_e4 rec2 z67 z68 z69 z70 z71 z72 z73 z74 z75 z76 z77 z78 z79
def f36.s2' {R:Type} (L N:Nat) (k2_e4:LLI→Int→Int→LI→Int→Int→LLM→LM→LLM→LLM→Option R) (rec2:LLI→Int→Int→LI→Int→Int→LM→Int→Int→LLM→LM→LLM→LLM→Option R) (w3:LLI→Int→Int→LI→Int→Int→LM→Int→Int→LI→Int→Int→LLM→Int→Int→LM→LLM→LLM→Option R) (s26:LLI) (s27:Int) (s28:Int) (s29:LI) (s30:Int) (s31:Int) (s32:LM) (s33:Int) (s34:Int) (s35:LLM) (s36:LM) (s37:LLM) (s38:LLM):Option R:=
 bif (decide (s34<s33)) then
  bif (decide (0≤s34)&&decide (s34<(s32.length:Int))) then
   bif ((listAt s32 (Ty.dflt (.st 0)) s34.toNat).act !=(0:Int)) then
    bif (decide (0≤(listAt s32 (Ty.dflt (.st 0)) s34.toNat).to)&&decide ((listAt s32 (Ty.dflt (.st 0)) s34.toNat).to<(s26.length:Int))) then
     w3 s26 s27 s28 s29 s30 s31 s32 s33 s34 (listAt s26 [] ((listAt s32 (Ty.dflt (.st 0)) s34.toNat).to).toNat) ((listAt s26 [] ((listAt s32 (Ty.dflt (.st 0)) s34.toNat).to).toNat).length:Int) (0:Int) s35 ((listAt s32 (Ty.dflt (.st 0)) s34.toNat).act) ((listAt s32 (Ty.dflt (.st 0)) s34.toNat).to) s36 s37 s38
    else none
   else rec2 s26 s27 s28 s29 s30 s31 s32 s33 (wi (s34+(1:Int))) s35 s36 s37 s38
  else none
 else k2_e4 s26 s27 s28 s29 s30 s31 s35 s36 s37 s38
def f36.s2 {R:Type} (L N:Nat) (k2_e4:LLI→Int→Int→LI→Int→Int→LLM→LM→LLM→LLM→Option R) (rec2:LLI→Int→Int→LI→Int→Int→LM→Int→Int→LLM→LM→LLM→LLM→Option R) (s26:LLI) (s27:Int) (s28:Int) (s29:LI) (s30:Int) (s31:Int) (s32:LM) (s33:Int) (s34:Int) (s35:LLM) (s36:LM) (s37:LLM) (s38:LLM):Option R:=
 f36.s2' L N k2_e4 rec2 (fun s49 s50 s51 s52 s53 s54 s55 s56 s57 s58 s59 s60 s61 s62 s63 s64 s65 s66=>f36.l3 L N (fun z67 z68 z69 z70 z71 z72 z73 z74 z75 z76 z77 z78 z79=>f36.p3_e6 L N k2_e4 rec2 z67 z68 z69 z70 z71 z72 z73 z74 z75 z76 z77 z78 z79) L s49 s50 s51 s52 s53 s54 s55 s56 s57 s58 s59 s60 s61 s62 s63 s64 s65 s66) s26 s27 s28 s29 s30 s31 s32 s33 s34 s35 s36 s37 s38
def f36.l2 {R:Type} (L N:Nat) (k2_e4:LLI→Int→Int→LI→Int→Int→LLM→LM→LLM→LLM→Option R):Nat→LLI→Int→Int→LI→Int→Int→LM→Int→Int→LLM→LM→LLM→LLM→Option R
 |0,_,_,_,_,_,_,_,_,_,_,_,_,_=>none
 |n+1,s26,s27,s28,s29,s30,s31,s32,s33,s34,s35,s36,s37,s38=>f36.s2 L N k2_e4 (f36.l2 L N k2_e4 n) s26 s27 s28 s29 s30 s31 s32 s33 s34 s35 s36 s37 s38
def f36.T2 (s26:LLI) (s27:Int) (s28:Int) (s29:LI) (s30:Int) (s31:Int) (s32:LM) (s33:Int) (s34:Int) (s35:LLM) (s36:LM) (s37:LLM) (s38:LLM):T:=mkT 79 [(1,(.ptr 1001 0)),(2,(.ptr 1002 0)),(3,(.tv (.sl (.sl i64)) s26)),(4,(.ptr 1004 0)),(6,(.row 1022)),(18,(.tv i64 s27)),(19,(.tv i64 s28)),(26,(.tv (.sl i64) s29)),(27,(.tv i64 s30)),(28,(.tv i64 s31)),(41,(.tv (.sl (.st 0)) s32)),(42,(.tv i64 s33)),(43,(.tv i64 s34))]
def f36.H2 (s26:LLI) (s27:Int) (s28:Int) (s29:LI) (s30:Int) (s31:Int) (s32:LM) (s33:Int) (s34:Int) (s35:LLM) (s36:LM) (s37:LLM) (s38:LLM):H:=[(1001,(.box [(.tv (.sl (.sl (.st 0))) s35)])),(1002,(.box [(.row 1900)])),(1004,(.box [(.row 1901)])),(1022,(.row 45 (.st 0) s36)),(1900,(.deep 0 (.sl (.st 0)) s37 none)),(1901,(.deep 0 (.sl (.st 0)) s38 none))]
def f36.T2_e4 (z39:LLI) (z40:Int) (z41:Int) (z42:LI) (z43:Int) (z44:Int) (z45:LLM) (z46:LM) (z47:LLM) (z48:LLM):T:=mkT 79 [(1,(.ptr 1001 0)),(2,(.ptr 1002 0)),(3,(.tv (.sl (.sl i64)) z39)),(4,(.ptr 1004 0)),(6,(.row 1022)),(18,(.tv i64 z40)),(19,(.tv i64 z41)),(26,(.tv (.sl i64) z42)),(27,(.tv i64 z43)),(28,(.tv i64 z44))]
def f36.H2_e4 (z39:LLI) (z40:Int) (z41:Int) (z42:LI) (z43:Int) (z44:Int) (z45:LLM) (z46:LM) (z47:LLM) (z48:LLM):H:=[(1001,(.box [(.tv (.sl (.sl (.st 0))) z45)])),(1002,(.box [(.row 1900)])),(1004,(.box [(.row 1901)])),(1022,(.row 45 (.st 0) z46)),(1900,(.deep 0 (.sl (.st 0)) z47 none)),(1901,(.deep 0 (.sl (.st 0)) z48 none))]
def f36.p2_e4' {R:Type} (L N:Nat) (k1_e2:LLI→Int→Int→LLM→LM→LLM→LLM→Option R) (rec1:LLI→Int→Int→LI→Int→Int→LLM→LM→LLM→LLM→Option R) (z39:LLI) (z40:Int) (z41:Int) (z42:LI) (z43:Int) (z44:Int) (z45:LLM) (z46:LM) (z47:LLM) (z48:LLM):Option R:=
 rec1 z39 z40 z41 z42 z43 (wi (z44+(1:Int))) z45 z46 z47 z48
def f36.p2_e4 {R:Type} (L N:Nat) (k1_e2:LLI→Int→Int→LLM→LM→LLM→LLM→Option R) (rec1:LLI→Int→Int→LI→Int→Int→LLM→LM→LLM→LLM→Option R) (z39:LLI) (z40:Int) (z41:Int) (z42:LI) (z43:Int) (z44:Int) (z45:LLM) (z46:LM) (z47:LLM) (z48:LLM):Option R:=
 f36.p2_e4' L N k1_e2 rec1 z39 z40 z41 z42 z43 z44 z45 z46 z47 z48
def f36.s1' {R:Type} (L N:Nat) (k1_e2:LLI→Int→Int→LLM→LM→LLM→LLM→Option R) (rec1:LLI→Int→Int→LI→Int→Int→LLM→LM→LLM→LLM→Option R) (w2:LLI→Int→Int→LI→Int→Int→LM→Int→Int→LLM→LM→LLM→LLM→Option R) (s9:LLI) (s10:Int) (s11:Int) (s12:LI) (s13:Int) (s14:Int) (s15:LLM) (s16:LM) (s17:LLM) (s18:LLM):Option R:=
 bif (decide (s14<s13)) then
  bif (decide (0≤s14)&&decide (s14<(s12.length:Int))) then
   bif (decide (s16.length+([(Move.mk (0:Int) (listAt s12 (0:Int) s14.toNat))]:LM).length≤lim)) then
    bif (decide (0≤(listAt s12 (0:Int) s14.toNat))&&decide ((listAt s12 (0:Int) s14.toNat)<(s15.length:Int))) then
     w2 s9 s10 s11 s12 s13 s14 (listAt s15 [] (listAt s12 (0:Int) s14.toNat).toNat) ((listAt s15 [] (listAt s12 (0:Int) s14.toNat).toNat).length:Int) (0:Int) s15 (s16++([(Move.mk (0:Int) (listAt s12 (0:Int) s14.toNat))]:LM)) s17 s18
    else none
   else none
  else none
 else k1_e2 s9 s10 s11 s15 s16 s17 s18
def f36.s1 {R:Type} (L N:Nat) (k1_e2:LLI→Int→Int→LLM→LM→LLM→LLM→Option R) (rec1:LLI→Int→Int→LI→Int→Int→LLM→LM→LLM→LLM→Option R) (s9:LLI) (s10:Int) (s11:Int) (s12:LI) (s13:Int) (s14:Int) (s15:LLM) (s16:LM) (s17:LLM) (s18:LLM):Option R:=
 f36.s1' L N k1_e2 rec1 (fun s26 s27 s28 s29 s30 s31 s32 s33 s34 s35 s36 s37 s38=>f36.l2 L N (fun z39 z40 z41 z42 z43 z44 z45 z46 z47 z48=>f36.p2_e4 L N k1_e2 rec1 z39 z40 z41 z42 z43 z44 z45 z46 z47 z48) L s26 s27 s28 s29 s30 s31 s32 s33 s34 s35 s36 s37 s38) s9 s10 s11 s12 s13 s14 s15 s16 s17 s18
def f36.l1 {R:Type} (L N:Nat) (k1_e2:LLI→Int→Int→LLM→LM→LLM→LLM→Option R):Nat→LLI→Int→Int→LI→Int→Int→LLM→LM→LLM→LLM→Option R
 |0,_,_,_,_,_,_,_,_,_,_=>none
 |n+1,s9,s10,s11,s12,s13,s14,s15,s16,s17,s18=>f36.s1 L N k1_e2 (f36.l1 L N k1_e2 n) s9 s10 s11 s12 s13 s14 s15 s16 s17 s18
def f36.T1 (s9:LLI) (s10:Int) (s11:Int) (s12:LI) (s13:Int) (s14:Int) (s15:LLM) (s16:LM) (s17:LLM) (s18:LLM):T:=mkT 79 [(1,(.ptr 1001 0)),(2,(.ptr 1002 0)),(3,(.tv (.sl (.sl i64)) s9)),(4,(.ptr 1004 0)),(6,(.row 1022)),(18,(.tv i64 s10)),(19,(.tv i64 s11)),(26,(.tv (.sl i64) s12)),(27,(.tv i64 s13)),(28,(.tv i64 s14))]
def f36.H1 (s9:LLI) (s10:Int) (s11:Int) (s12:LI) (s13:Int) (s14:Int) (s15:LLM) (s16:LM) (s17:LLM) (s18:LLM):H:=[(1001,(.box [(.tv (.sl (.sl (.st 0))) s15)])),(1002,(.box [(.row 1900)])),(1004,(.box [(.row 1901)])),(1022,(.row 45 (.st 0) s16)),(1900,(.deep 0 (.sl (.st 0)) s17 none)),(1901,(.deep 0 (.sl (.st 0)) s18 none))]
def f36.T1_e2 (z19:LLI) (z20:Int) (z21:Int) (z22:LLM) (z23:LM) (z24:LLM) (z25:LLM):T:=mkT 79 [(1,(.ptr 1001 0)),(2,(.ptr 1002 0)),(3,(.tv (.sl (.sl i64)) z19)),(4,(.ptr 1004 0)),(6,(.row 1022)),(18,(.tv i64 z20)),(19,(.tv i64 z21))]
def f36.H1_e2 (z19:LLI) (z20:Int) (z21:Int) (z22:LLM) (z23:LM) (z24:LLM) (z25:LLM):H:=[(1001,(.box [(.tv (.sl (.sl (.st 0))) z22)])),(1002,(.box [(.row 1900)])),(1004,(.box [(.row 1901)])),(1022,(.row 45 (.st 0) z23)),(1900,(.deep 0 (.sl (.st 0)) z24 none)),(1901,(.deep 0 (.sl (.st 0)) z25 none))]
def f36.p1_e2' {R:Type} (L N:Nat) (k0_e0:LLM→LLM→Option R) (rec0:LLI→Int→Int→LLM→LLM→LLM→Option R) (z19:LLI) (z20:Int) (z21:Int) (z22:LLM) (z23:LM) (z24:LLM) (z25:LLM):Option R:=
 ((fsortM z23)).bind fun y93=>
 bif (decide (z25.length+([(tidyM z23)]:LLM).length≤lim)) then
  rec0 z19 z20 (wi (z21+(1:Int))) z22 z24 (z25++([(tidyM z23)]:LLM))
 else none
def f36.p1_e2 {R:Type} (L N:Nat) (k0_e0:LLM→LLM→Option R) (rec0:LLI→Int→Int→LLM→LLM→LLM→Option R) (z19:LLI) (z20:Int) (z21:Int) (z22:LLM) (z23:LM) (z24:LLM) (z25:LLM):Option R:=
 f36.p1_e2' L N k0_e0 rec0 z19 z20 z21 z22 z23 z24 z25
def f36.s0' {R:Type} (L N:Nat) (k0_e0:LLM→LLM→Option R) (rec0:LLI→Int→Int→LLM→LLM→LLM→Option R) (w1:LLI→Int→Int→LI→Int→Int→LLM→LM→LLM→LLM→Option R) (s1:LLI) (s2:Int) (s3:Int) (s4:LLM) (s5:LLM) (s6:LLM):Option R:=
 bif (decide (s3<s2)) then
  bif (decide (0≤s3)&&decide (s3<(s1.length:Int))) then
   w1 s1 s2 s3 (listAt s1 [] s3.toNat) ((listAt s1 [] s3.toNat).length:Int) (0:Int) s4 ([]:LM) s5 s6
  else none
 else k0_e0 s5 s6
def f36.s0 {R:Type} (L N:Nat) (k0_e0:LLM→LLM→Option R) (rec0:LLI→Int→Int→LLM→LLM→LLM→Option R) (s1:LLI) (s2:Int) (s3:Int) (s4:LLM) (s5:LLM) (s6:LLM):Option R:=
 f36.s0' L N k0_e0 rec0 (fun s9 s10 s11 s12 s13 s14 s15 s16 s17 s18=>f36.l1 L N (fun z19 z20 z21 z22 z23 z24 z25=>f36.p1_e2 L N k0_e0 rec0 z19 z20 z21 z22 z23 z24 z25) L s9 s10 s11 s12 s13 s14 s15 s16 s17 s18) s1 s2 s3 s4 s5 s6
def f36.l0 {R:Type} (L N:Nat) (k0_e0:LLM→LLM→Option R):Nat→LLI→Int→Int→LLM→LLM→LLM→Option R
 |0,_,_,_,_,_,_=>none
 |n+1,s1,s2,s3,s4,s5,s6=>f36.s0 L N k0_e0 (f36.l0 L N k0_e0 n) s1 s2 s3 s4 s5 s6
def f36.T0 (s1:LLI) (s2:Int) (s3:Int) (s4:LLM) (s5:LLM) (s6:LLM):T:=mkT 79 [(1,(.ptr 1001 0)),(2,(.ptr 1002 0)),(3,(.tv (.sl (.sl i64)) s1)),(4,(.ptr 1004 0)),(18,(.tv i64 s2)),(19,(.tv i64 s3))]
def f36.H0 (s1:LLI) (s2:Int) (s3:Int) (s4:LLM) (s5:LLM) (s6:LLM):H:=[(1001,(.box [(.tv (.sl (.sl (.st 0))) s4)])),(1002,(.box [(.row 1900)])),(1004,(.box [(.row 1901)])),(1900,(.deep 0 (.sl (.st 0)) s5 none)),(1901,(.deep 0 (.sl (.st 0)) s6 none))]
def f36.T0_e0 (z7:LLM) (z8:LLM):T:=mkT 79 [(2,(.ptr 1002 0)),(4,(.ptr 1004 0))]
def f36.H0_e0 (z7:LLM) (z8:LLM):H:=[(1002,(.box [(.row 1900)])),(1004,(.box [(.row 1901)])),(1900,(.deep 0 (.sl (.st 0)) z7 none)),(1901,(.deep 0 (.sl (.st 0)) z8 none))]
def f36.p0_e0' {R:Type} (L N:Nat) (k:LLM→Option R) (z7:LLM) (z8:LLM):Option R:=
 k z8
def f36.p0_e0 {R:Type} (L N:Nat) (k:LLM→Option R) (z7:LLM) (z8:LLM):Option R:=
 f36.p0_e0' L N k z7 z8
def f36.b' {R:Type} (L N:Nat) (k:LLM→Option R) (w0:LLI→Int→Int→LLM→LLM→LLM→Option R) (x0:Graph):Option R:=
 (f56 L N (Graph.mk x0.moves)).bind fun y0=>
 w0 y0 (x0.moves.length:Int) (0:Int) x0.moves ([]:LLM) ([]:LLM)
def f36.b {R:Type} (L N:Nat) (k:LLM→Option R) (x0:Graph):Option R:=
 f36.b' L N k (fun s1 s2 s3 s4 s5 s6=>f36.l0 L N (fun z7 z8=>f36.p0_e0 L N k z7 z8) L s1 s2 s3 s4 s5 s6) x0
def f36 (L N:Nat) (x0:Graph):Option (LLM):=f36.b L N some x0
def f36.ent (L N:Nat) (args:List AV) (vw:View) (site:Nat):Ans:=match roD [(.st 2)] vw args with
 |some d=>⟨LLM,f36 L N d.1,fun y=>(RN.av site (.agg []) (()),[(site,some (mkO (some 0) 43 (.sl (.st 0)) y))],[])⟩
 |none=>Ans.no
noncomputable def E36 (L N:Nat):Env:={P:=Tryz.prog,ty:=tyOf,Φ:=(Φ56 L N),inl:=inlT,live:=lives,liveX:=livesX,L:=L,dp:=(some 0),prom:=promT,heal:=healT,ren:=renT}
noncomputable def f36.c0:Code:=loopAt 0 (codeOf Tryz.f36)
noncomputable def f36.c1:Code:=loopAt 2 f36.c0
noncomputable def f36.c2:Code:=loopAt 4 f36.c1
noncomputable def f36.c3:Code:=loopAt 6 f36.c2
def f36.X3_e6 {R:Type} (κ:KX R):=fun z67 z68 z69 z70 z71 z72 z73 z74 z75 z76 z77 z78 z79=>κ (.exit 6) (f36.T3_e6 z67 z68 z69 z70 z71 z72 z73 z74 z75 z76 z77 z78 z79) (f36.H3_e6 z67 z68 z69 z70 z71 z72 z73 z74 z75 z76 z77 z78 z79)
def f36.R3 {R:Type} (rec:KT R):=fun s49 s50 s51 s52 s53 s54 s55 s56 s57 s58 s59 s60 s61 s62 s63 s64 s65 s66=>rec (f36.T3 s49 s50 s51 s52 s53 s54 s55 s56 s57 s58 s59 s60 s61 s62 s63 s64 s65 s66) (f36.H3 s49 s50 s51 s52 s53 s54 s55 s56 s57 s58 s59 s60 s61 s62 s63 s64 s65 s66)
theorem f36.s3_eq {R:Type} (L N:Nat) (κ:KX R) (rec:KT R) (s49:LLI) (s50:Int) (s51:Int) (s52:LI) (s53:Int) (s54:Int) (s55:LM) (s56:Int) (s57:Int) (s58:LI) (s59:Int) (s60:Int) (s61:LLM) (s62:Int) (s63:Int) (s64:LM) (s65:LLM) (s66:LLM):
  evRd (E36 L N) (evCallI (E36 L N) 1 2000) 1000 36 79 6 f36.c3 κ rec (f36.T3 s49 s50 s51 s52 s53 s54 s55 s56 s57 s58 s59 s60 s61 s62 s63 s64 s65 s66) (f36.H3 s49 s50 s51 s52 s53 s54 s55 s56 s57 s58 s59 s60 s61 s62 s63 s64 s65 s66)
  =f36.s3 L N (f36.X3_e6 κ) (f36.R3 rec) s49 s50 s51 s52 s53 s54 s55 s56 s57 s58 s59 s60 s61 s62 s63 s64 s65 s66:=by kernel_rfl
theorem f36.l3_eq {R:Type} (L N:Nat) (κ:KX R):∀(n:Nat) (s49:LLI) (s50:Int) (s51:Int) (s52:LI) (s53:Int) (s54:Int) (s55:LM) (s56:Int) (s57:Int) (s58:LI) (s59:Int) (s60:Int) (s61:LLM) (s62:Int) (s63:Int) (s64:LM) (s65:LLM) (s66:LLM),
  evLp (E36 L N) (evCallI (E36 L N) 1 2000) 1000 36 79 6 f36.c3 κ n (f36.T3 s49 s50 s51 s52 s53 s54 s55 s56 s57 s58 s59 s60 s61 s62 s63 s64 s65 s66) (f36.H3 s49 s50 s51 s52 s53 s54 s55 s56 s57 s58 s59 s60 s61 s62 s63 s64 s65 s66)
  =f36.l3 L N (f36.X3_e6 κ) n s49 s50 s51 s52 s53 s54 s55 s56 s57 s58 s59 s60 s61 s62 s63 s64 s65 s66:=by
 intro n
 induction n with
 |zero=>intros;rfl
 |succ n ih=>
  intro s49 s50 s51 s52 s53 s54 s55 s56 s57 s58 s59 s60 s61 s62 s63 s64 s65 s66
  rw [evLp_succ,f36.s3_eq]
  delta f36.R3
  simp only [ih]
  rfl
def f36.X2_e4 {R:Type} (κ:KX R):=fun z39 z40 z41 z42 z43 z44 z45 z46 z47 z48=>κ (.exit 4) (f36.T2_e4 z39 z40 z41 z42 z43 z44 z45 z46 z47 z48) (f36.H2_e4 z39 z40 z41 z42 z43 z44 z45 z46 z47 z48)
def f36.R2 {R:Type} (rec:KT R):=fun s26 s27 s28 s29 s30 s31 s32 s33 s34 s35 s36 s37 s38=>rec (f36.T2 s26 s27 s28 s29 s30 s31 s32 s33 s34 s35 s36 s37 s38) (f36.H2 s26 s27 s28 s29 s30 s31 s32 s33 s34 s35 s36 s37 s38)
theorem f36.p3_e6_eq {R:Type} (L N:Nat) (κ:KX R) (rec:KT R) (z67:LLI) (z68:Int) (z69:Int) (z70:LI) (z71:Int) (z72:Int) (z73:LM) (z74:Int) (z75:Int) (z76:LLM) (z77:LM) (z78:LLM) (z79:LLM):
  (contAt (E36 L N) (evCallI (E36 L N) 1 2000) 1000 36 79 6 f36.c2 (rdK (E36 L N) 1000 36 79 4 κ rec)) (.exit 6) (f36.T3_e6 z67 z68 z69 z70 z71 z72 z73 z74 z75 z76 z77 z78 z79) (f36.H3_e6 z67 z68 z69 z70 z71 z72 z73 z74 z75 z76 z77 z78 z79)
  =f36.p3_e6 L N (f36.X2_e4 κ) (f36.R2 rec) z67 z68 z69 z70 z71 z72 z73 z74 z75 z76 z77 z78 z79:=by kernel_rfl
theorem f36.s2_eq {R:Type} (L N:Nat) (κ:KX R) (rec:KT R) (s26:LLI) (s27:Int) (s28:Int) (s29:LI) (s30:Int) (s31:Int) (s32:LM) (s33:Int) (s34:Int) (s35:LLM) (s36:LM) (s37:LLM) (s38:LLM):
  evRd (E36 L N) (evCallI (E36 L N) 1 2000) 1000 36 79 4 f36.c2 κ rec (f36.T2 s26 s27 s28 s29 s30 s31 s32 s33 s34 s35 s36 s37 s38) (f36.H2 s26 s27 s28 s29 s30 s31 s32 s33 s34 s35 s36 s37 s38)
  =f36.s2 L N (f36.X2_e4 κ) (f36.R2 rec) s26 s27 s28 s29 s30 s31 s32 s33 s34 s35 s36 s37 s38:=by
 refine Eq.trans (b:=f36.s2' L N (f36.X2_e4 κ) (f36.R2 rec) (fun s49 s50 s51 s52 s53 s54 s55 s56 s57 s58 s59 s60 s61 s62 s63 s64 s65 s66=>evLp (E36 L N) (evCallI (E36 L N) 1 2000) 1000 36 79 6 f36.c3 (contAt (E36 L N) (evCallI (E36 L N) 1 2000) 1000 36 79 6 f36.c2 (rdK (E36 L N) 1000 36 79 4 κ rec)) L (f36.T3 s49 s50 s51 s52 s53 s54 s55 s56 s57 s58 s59 s60 s61 s62 s63 s64 s65 s66) (f36.H3 s49 s50 s51 s52 s53 s54 s55 s56 s57 s58 s59 s60 s61 s62 s63 s64 s65 s66)) s26 s27 s28 s29 s30 s31 s32 s33 s34 s35 s36 s37 s38) (by kernel_rfl) ?_
 unfold f36.s2
 simp only [f36.l3_eq]
 delta f36.X3_e6
 simp only [f36.p3_e6_eq]
theorem f36.l2_eq {R:Type} (L N:Nat) (κ:KX R):∀(n:Nat) (s26:LLI) (s27:Int) (s28:Int) (s29:LI) (s30:Int) (s31:Int) (s32:LM) (s33:Int) (s34:Int) (s35:LLM) (s36:LM) (s37:LLM) (s38:LLM),
  evLp (E36 L N) (evCallI (E36 L N) 1 2000) 1000 36 79 4 f36.c2 κ n (f36.T2 s26 s27 s28 s29 s30 s31 s32 s33 s34 s35 s36 s37 s38) (f36.H2 s26 s27 s28 s29 s30 s31 s32 s33 s34 s35 s36 s37 s38)
  =f36.l2 L N (f36.X2_e4 κ) n s26 s27 s28 s29 s30 s31 s32 s33 s34 s35 s36 s37 s38:=by
 intro n
 induction n with
 |zero=>intros;rfl
 |succ n ih=>
  intro s26 s27 s28 s29 s30 s31 s32 s33 s34 s35 s36 s37 s38
  rw [evLp_succ,f36.s2_eq]
  delta f36.R2
  simp only [ih]
  rfl
def f36.X1_e2 {R:Type} (κ:KX R):=fun z19 z20 z21 z22 z23 z24 z25=>κ (.exit 2) (f36.T1_e2 z19 z20 z21 z22 z23 z24 z25) (f36.H1_e2 z19 z20 z21 z22 z23 z24 z25)
def f36.R1 {R:Type} (rec:KT R):=fun s9 s10 s11 s12 s13 s14 s15 s16 s17 s18=>rec (f36.T1 s9 s10 s11 s12 s13 s14 s15 s16 s17 s18) (f36.H1 s9 s10 s11 s12 s13 s14 s15 s16 s17 s18)
theorem f36.p2_e4_eq {R:Type} (L N:Nat) (κ:KX R) (rec:KT R) (z39:LLI) (z40:Int) (z41:Int) (z42:LI) (z43:Int) (z44:Int) (z45:LLM) (z46:LM) (z47:LLM) (z48:LLM):
  (contAt (E36 L N) (evCallI (E36 L N) 1 2000) 1000 36 79 4 f36.c1 (rdK (E36 L N) 1000 36 79 2 κ rec)) (.exit 4) (f36.T2_e4 z39 z40 z41 z42 z43 z44 z45 z46 z47 z48) (f36.H2_e4 z39 z40 z41 z42 z43 z44 z45 z46 z47 z48)
  =f36.p2_e4 L N (f36.X1_e2 κ) (f36.R1 rec) z39 z40 z41 z42 z43 z44 z45 z46 z47 z48:=by kernel_rfl
theorem f36.s1_eq {R:Type} (L N:Nat) (κ:KX R) (rec:KT R) (s9:LLI) (s10:Int) (s11:Int) (s12:LI) (s13:Int) (s14:Int) (s15:LLM) (s16:LM) (s17:LLM) (s18:LLM):
  evRd (E36 L N) (evCallI (E36 L N) 1 2000) 1000 36 79 2 f36.c1 κ rec (f36.T1 s9 s10 s11 s12 s13 s14 s15 s16 s17 s18) (f36.H1 s9 s10 s11 s12 s13 s14 s15 s16 s17 s18)
  =f36.s1 L N (f36.X1_e2 κ) (f36.R1 rec) s9 s10 s11 s12 s13 s14 s15 s16 s17 s18:=by
 refine Eq.trans (b:=f36.s1' L N (f36.X1_e2 κ) (f36.R1 rec) (fun s26 s27 s28 s29 s30 s31 s32 s33 s34 s35 s36 s37 s38=>evLp (E36 L N) (evCallI (E36 L N) 1 2000) 1000 36 79 4 f36.c2 (contAt (E36 L N) (evCallI (E36 L N) 1 2000) 1000 36 79 4 f36.c1 (rdK (E36 L N) 1000 36 79 2 κ rec)) L (f36.T2 s26 s27 s28 s29 s30 s31 s32 s33 s34 s35 s36 s37 s38) (f36.H2 s26 s27 s28 s29 s30 s31 s32 s33 s34 s35 s36 s37 s38)) s9 s10 s11 s12 s13 s14 s15 s16 s17 s18) (by kernel_rfl) ?_
 unfold f36.s1
 simp only [f36.l2_eq]
 delta f36.X2_e4
 simp only [f36.p2_e4_eq]
theorem f36.l1_eq {R:Type} (L N:Nat) (κ:KX R):∀(n:Nat) (s9:LLI) (s10:Int) (s11:Int) (s12:LI) (s13:Int) (s14:Int) (s15:LLM) (s16:LM) (s17:LLM) (s18:LLM),
  evLp (E36 L N) (evCallI (E36 L N) 1 2000) 1000 36 79 2 f36.c1 κ n (f36.T1 s9 s10 s11 s12 s13 s14 s15 s16 s17 s18) (f36.H1 s9 s10 s11 s12 s13 s14 s15 s16 s17 s18)
  =f36.l1 L N (f36.X1_e2 κ) n s9 s10 s11 s12 s13 s14 s15 s16 s17 s18:=by
 intro n
 induction n with
 |zero=>intros;rfl
 |succ n ih=>
  intro s9 s10 s11 s12 s13 s14 s15 s16 s17 s18
  rw [evLp_succ,f36.s1_eq]
  delta f36.R1
  simp only [ih]
  rfl
def f36.X0_e0 {R:Type} (κ:KX R):=fun z7 z8=>κ (.exit 0) (f36.T0_e0 z7 z8) (f36.H0_e0 z7 z8)
def f36.R0 {R:Type} (rec:KT R):=fun s1 s2 s3 s4 s5 s6=>rec (f36.T0 s1 s2 s3 s4 s5 s6) (f36.H0 s1 s2 s3 s4 s5 s6)
theorem f36.p1_e2_eq {R:Type} (L N:Nat) (κ:KX R) (rec:KT R) (z19:LLI) (z20:Int) (z21:Int) (z22:LLM) (z23:LM) (z24:LLM) (z25:LLM):
  (contAt (E36 L N) (evCallI (E36 L N) 1 2000) 1000 36 79 2 f36.c0 (rdK (E36 L N) 1000 36 79 0 κ rec)) (.exit 2) (f36.T1_e2 z19 z20 z21 z22 z23 z24 z25) (f36.H1_e2 z19 z20 z21 z22 z23 z24 z25)
  =f36.p1_e2 L N (f36.X0_e0 κ) (f36.R0 rec) z19 z20 z21 z22 z23 z24 z25:=by kernel_rfl
theorem f36.s0_eq {R:Type} (L N:Nat) (κ:KX R) (rec:KT R) (s1:LLI) (s2:Int) (s3:Int) (s4:LLM) (s5:LLM) (s6:LLM):
  evRd (E36 L N) (evCallI (E36 L N) 1 2000) 1000 36 79 0 f36.c0 κ rec (f36.T0 s1 s2 s3 s4 s5 s6) (f36.H0 s1 s2 s3 s4 s5 s6)
  =f36.s0 L N (f36.X0_e0 κ) (f36.R0 rec) s1 s2 s3 s4 s5 s6:=by
 refine Eq.trans (b:=f36.s0' L N (f36.X0_e0 κ) (f36.R0 rec) (fun s9 s10 s11 s12 s13 s14 s15 s16 s17 s18=>evLp (E36 L N) (evCallI (E36 L N) 1 2000) 1000 36 79 2 f36.c1 (contAt (E36 L N) (evCallI (E36 L N) 1 2000) 1000 36 79 2 f36.c0 (rdK (E36 L N) 1000 36 79 0 κ rec)) L (f36.T1 s9 s10 s11 s12 s13 s14 s15 s16 s17 s18) (f36.H1 s9 s10 s11 s12 s13 s14 s15 s16 s17 s18)) s1 s2 s3 s4 s5 s6) (by kernel_rfl) ?_
 unfold f36.s0
 simp only [f36.l1_eq]
 delta f36.X1_e2
 simp only [f36.p1_e2_eq]
theorem f36.l0_eq {R:Type} (L N:Nat) (κ:KX R):∀(n:Nat) (s1:LLI) (s2:Int) (s3:Int) (s4:LLM) (s5:LLM) (s6:LLM),
  evLp (E36 L N) (evCallI (E36 L N) 1 2000) 1000 36 79 0 f36.c0 κ n (f36.T0 s1 s2 s3 s4 s5 s6) (f36.H0 s1 s2 s3 s4 s5 s6)
  =f36.l0 L N (f36.X0_e0 κ) n s1 s2 s3 s4 s5 s6:=by
 intro n
 induction n with
 |zero=>intros;rfl
 |succ n ih=>
  intro s1 s2 s3 s4 s5 s6
  rw [evLp_succ,f36.s0_eq]
  delta f36.R0
  simp only [ih]
  rfl
theorem f36.p0_e0_eq {R:Type} (L N:Nat) (κ:RN.Den (.agg [])→List LM→Option R) (z7:LLM) (z8:LLM):
  (contAt (E36 L N) (evCallI (E36 L N) 1 2000) 1000 36 79 0 (codeOf Tryz.f36) (finK (E36 L N) 1000 Tryz.f36 (finN (.agg []) (some 0) 43 (.sl (.st 0)) κ))) (.exit 0) (f36.T0_e0 z7 z8) (f36.H0_e0 z7 z8)
  =f36.p0_e0 L N (fun a0=>κ (()) a0) z7 z8:=by kernel_rfl
theorem f36.b_eq {R:Type} (L N:Nat) (κ:RN.Den (.agg [])→List LM→Option R) (x0:Graph):
  evBody (E36 L N) (evCallI (E36 L N) 1 2000) 1000 36 Tryz.f36 [(.tv (.st 2) x0)] [] [] (finN (.agg []) (some 0) 43 (.sl (.st 0)) κ)
  =f36.b L N (fun a0=>κ (()) a0) x0:=by
 refine Eq.trans (b:=f36.b' L N (fun a0=>κ (()) a0) (fun s1 s2 s3 s4 s5 s6=>evLp (E36 L N) (evCallI (E36 L N) 1 2000) 1000 36 79 0 f36.c0 (contAt (E36 L N) (evCallI (E36 L N) 1 2000) 1000 36 79 0 (codeOf Tryz.f36) (finK (E36 L N) 1000 Tryz.f36 (finN (.agg []) (some 0) 43 (.sl (.st 0)) κ))) L (f36.T0 s1 s2 s3 s4 s5 s6) (f36.H0 s1 s2 s3 s4 s5 s6)) x0) (by kernel_rfl) ?_
 unfold f36.b
 simp only [f36.l0_eq]
 delta f36.X0_e0
 simp only [f36.p0_e0_eq]
theorem f36.ok (L N:Nat) (hΦ:TellsOk Tryz.prog ((Φ56 L N))):EntOk Tryz.prog 36 (f36.ent L N):=by
 intro args vw site h
 unfold f36.ent
 split
 ·rename_i d ha
  intro y hy hs
  refine call_ron (y:=y) (dep:=1000) (E:=(E36 L N)) (ts:=[(.st 2)]) (rn:=(.agg [])) (q:=(some 0)) (el:=43) (ty:=(.sl (.st 0))) (d1:=(())) (xs:=y) (κ:=(fun d xs=>some xs)) (sound_of hΦ) okP (callI_sound (sound_of hΦ) okP 1 2000) (f:=Tryz.f36) rfl hs ha ?_ (fun _ _ h=>by obtain rfl:=Option.some.inj h;exact ⟨rfl,rfl⟩) rfl site
  exact (f36.b_eq L N (fun d xs=>some xs) d.1).trans (Eq.trans (b:=f36.b L N some d.1) (by kernel_rfl) hy)
 ·intro y hy
  cases hy
def Φ36 (L N:Nat):Tells:=(addT (Φ56 L N) 36 (f36.ent L N))
theorem Φ36_ok (L N:Nat):TellsOk Tryz.prog (Φ36 L N):=addT_ok (Φ56_ok L N) (f36.ok L N (Φ56_ok L N))
def f13.b' {R:Type} (L N:Nat) (k:LI→Option R) (x0:Graph):Option R:=
 (f6 L N (Graph.mk x0.moves)).bind fun y0=>
 bif (!y0) then
  k []
 else (f36 L N (Graph.mk x0.moves)).bind fun y1=>
 (f21 L N (Graph.mk y1)).bind fun y2=>
 k y2
def f13.b {R:Type} (L N:Nat) (k:LI→Option R) (x0:Graph):Option R:=
 f13.b' L N k x0
def f13 (L N:Nat) (x0:Graph):Option (LI):=f13.b L N some x0
def f13.ent (L N:Nat) (args:List AV) (vw:View) (site:Nat):Ans:=match roD [(.st 2)] vw args with
 |some d=>⟨LI,f13 L N d.1,fun y=>(RN.av site .row (),[(site,some (mkO none 3 i64 y))],[])⟩
 |none=>Ans.no
noncomputable def E13 (L N:Nat):Env:={P:=Tryz.prog,ty:=tyOf,Φ:=(Φ36 L N),inl:=inlT,live:=lives,liveX:=livesX,L:=L,dp:=none,prom:=promT,heal:=healT,ren:=renT}
theorem f13.b_eq {R:Type} (L N:Nat) (κ:RN.Den .row→List Int→Option R) (x0:Graph):
  evBody (E13 L N) (evCallI (E13 L N) 1 2000) 1000 13 Tryz.f13 [(.tv (.st 2) x0)] [] [] (finN .row none 3 i64 κ)
  =f13.b L N (fun a0=>κ () a0) x0:=by kernel_rfl
theorem f13.ok (L N:Nat) (hΦ:TellsOk Tryz.prog ((Φ36 L N))):EntOk Tryz.prog 13 (f13.ent L N):=by
 intro args vw site h
 unfold f13.ent
 split
 ·rename_i d ha
  intro y hy hs
  refine call_ron (y:=y) (dep:=1000) (E:=(E13 L N)) (ts:=[(.st 2)]) (rn:=.row) (q:=none) (el:=3) (ty:=i64) (d1:=()) (xs:=y) (κ:=(fun d xs=>some xs)) (sound_of hΦ) okP (callI_sound (sound_of hΦ) okP 1 2000) (f:=Tryz.f13) rfl hs ha ?_ (fun _ _ h=>by obtain rfl:=Option.some.inj h;exact ⟨rfl,rfl⟩) rfl site
  exact (f13.b_eq L N (fun d xs=>some xs) d.1).trans (Eq.trans (b:=f13.b L N some d.1) (by kernel_rfl) hy)
 ·intro y hy
  cases hy
def Φ13 (L N:Nat):Tells:=(addT (Φ36 L N) 13 (f13.ent L N))
theorem Φ13_ok (L N:Nat):TellsOk Tryz.prog (Φ13 L N):=addT_ok (Φ36_ok L N) (f13.ok L N (Φ36_ok L N))
def f37.s0' {R:Type} (L N:Nat) (k0_e0:Option R) (k0_r:Int→Option R) (rec0:LI→Int→Int→Int→Option R) (s0:LI) (s1:Int) (s2:Int) (s3:Int):Option R:=
 bif (decide (s3<s2)) then
  bif (decide (0≤s3)&&decide (s3<(s0.length:Int))) then
   bif (s1==(listAt s0 (0:Int) s3.toNat)) then
    k0_r s3
   else rec0 s0 s1 s2 (wi (s3+(1:Int)))
  else none
 else k0_e0
def f37.s0 {R:Type} (L N:Nat) (k0_e0:Option R) (k0_r:Int→Option R) (rec0:LI→Int→Int→Int→Option R) (s0:LI) (s1:Int) (s2:Int) (s3:Int):Option R:=
 f37.s0' L N k0_e0 k0_r rec0 s0 s1 s2 s3
def f37.l0 {R:Type} (L N:Nat) (k0_e0:Option R) (k0_r:Int→Option R):Nat→LI→Int→Int→Int→Option R
 |0,_,_,_,_=>none
 |n+1,s0,s1,s2,s3=>f37.s0 L N k0_e0 k0_r (f37.l0 L N k0_e0 k0_r n) s0 s1 s2 s3
def f37.T0 (s0:LI) (s1:Int) (s2:Int) (s3:Int):T:=mkT 19 [(0,(.tv (.sl i64) s0)),(1,(.tv i64 s1)),(7,(.tv i64 s2)),(8,(.tv i64 s3))]
def f37.H0 (s0:LI) (s1:Int) (s2:Int) (s3:Int):H:=[]
def f37.T0_e0:T:=mkT 19 []
def f37.H0_e0:H:=[]
def f37.T0_r (z4:Int):T:=mkT 19 [(4,(.tv i64 z4))]
def f37.H0_r (z4:Int):H:=[]
def f37.p0_e0' {R:Type} (L N:Nat) (k:Int→Option R):Option R:=
 k (-1:Int)
def f37.p0_e0 {R:Type} (L N:Nat) (k:Int→Option R):Option R:=
 f37.p0_e0' L N k
def f37.p0_r' {R:Type} (L N:Nat) (k:Int→Option R) (z4:Int):Option R:=
 k z4
def f37.p0_r {R:Type} (L N:Nat) (k:Int→Option R) (z4:Int):Option R:=
 f37.p0_r' L N k z4
def f37.b' {R:Type} (L N:Nat) (k:Int→Option R) (w0:LI→Int→Int→Int→Option R) (x0:LI) (x1:Int):Option R:=
 w0 x0 x1 (x0.length:Int) (0:Int)
def f37.b {R:Type} (L N:Nat) (k:Int→Option R) (x0:LI) (x1:Int):Option R:=
 f37.b' L N k (fun s0 s1 s2 s3=>f37.l0 L N (f37.p0_e0 L N k) (fun z4=>f37.p0_r L N k z4) L s0 s1 s2 s3) x0 x1
def f37 (L N:Nat) (x0:LI) (x1:Int):Option (Int):=f37.b L N some x0 x1
def f37.ent (L N:Nat):=entRo [(.sl i64),i64] (.one i64) fun d=>f37 L N d.1 d.2.1
noncomputable def E37 (L N:Nat):Env:={P:=Tryz.prog,ty:=tyOf,Φ:=(Φ13 L N),inl:=inlT,live:=lives,liveX:=livesX,L:=L,dp:=none,prom:=promT,heal:=healT,ren:=renT}
noncomputable def f37.c0:Code:=loopAt 0 (codeOf Tryz.f37)
def f37.X0_e0 {R:Type} (κ:KX R):=κ (.exit 0) f37.T0_e0 f37.H0_e0
def f37.X0_r {R:Type} (κ:KX R):=fun z4=>κ .ret (f37.T0_r z4) (f37.H0_r z4)
def f37.R0 {R:Type} (rec:KT R):=fun s0 s1 s2 s3=>rec (f37.T0 s0 s1 s2 s3) (f37.H0 s0 s1 s2 s3)
theorem f37.s0_eq {R:Type} (L N:Nat) (κ:KX R) (rec:KT R) (s0:LI) (s1:Int) (s2:Int) (s3:Int):
  evRd (E37 L N) (evCallI (E37 L N) 1 2000) 1000 37 19 0 f37.c0 κ rec (f37.T0 s0 s1 s2 s3) (f37.H0 s0 s1 s2 s3)
  =f37.s0 L N (f37.X0_e0 κ) (f37.X0_r κ) (f37.R0 rec) s0 s1 s2 s3:=by kernel_rfl
theorem f37.l0_eq {R:Type} (L N:Nat) (κ:KX R):∀(n:Nat) (s0:LI) (s1:Int) (s2:Int) (s3:Int),
  evLp (E37 L N) (evCallI (E37 L N) 1 2000) 1000 37 19 0 f37.c0 κ n (f37.T0 s0 s1 s2 s3) (f37.H0 s0 s1 s2 s3)
  =f37.l0 L N (f37.X0_e0 κ) (f37.X0_r κ) n s0 s1 s2 s3:=by
 intro n
 induction n with
 |zero=>intros;rfl
 |succ n ih=>
  intro s0 s1 s2 s3
  rw [evLp_succ,f37.s0_eq]
  delta f37.R0
  simp only [ih]
  rfl
theorem f37.p0_e0_eq {R:Type} (L N:Nat) (κ:AV→Option R):
  (contAt (E37 L N) (evCallI (E37 L N) 1 2000) 1000 37 19 0 (codeOf Tryz.f37) (finK (E37 L N) 1000 Tryz.f37 (finC (.one i64) κ))) (.exit 0) f37.T0_e0 f37.H0_e0
  =f37.p0_e0 L N (fun a0=>κ (.tv i64 a0)):=by kernel_rfl
theorem f37.p0_r_eq {R:Type} (L N:Nat) (κ:AV→Option R) (z4:Int):
  (contAt (E37 L N) (evCallI (E37 L N) 1 2000) 1000 37 19 0 (codeOf Tryz.f37) (finK (E37 L N) 1000 Tryz.f37 (finC (.one i64) κ))) .ret (f37.T0_r z4) (f37.H0_r z4)
  =f37.p0_r L N (fun a0=>κ (.tv i64 a0)) z4:=by kernel_rfl
theorem f37.b_eq {R:Type} (L N:Nat) (κ:AV→Option R) (x0:LI) (x1:Int):
  evBody (E37 L N) (evCallI (E37 L N) 1 2000) 1000 37 Tryz.f37 [(.tv (.sl i64) x0),(.tv i64 x1)] [] [] (finC (.one i64) κ)
  =f37.b L N (fun a0=>κ (.tv i64 a0)) x0 x1:=by
 refine Eq.trans (b:=f37.b' L N (fun a0=>κ (.tv i64 a0)) (fun s0 s1 s2 s3=>evLp (E37 L N) (evCallI (E37 L N) 1 2000) 1000 37 19 0 f37.c0 (contAt (E37 L N) (evCallI (E37 L N) 1 2000) 1000 37 19 0 (codeOf Tryz.f37) (finK (E37 L N) 1000 Tryz.f37 (finC (.one i64) κ))) L (f37.T0 s0 s1 s2 s3) (f37.H0 s0 s1 s2 s3)) x0 x1) (by kernel_rfl) ?_
 unfold f37.b
 simp only [f37.l0_eq]
 delta f37.X0_e0 f37.X0_r
 simp only [f37.p0_e0_eq,f37.p0_r_eq]
theorem f37.ok (L N:Nat) (hΦ:TellsOk Tryz.prog ((Φ13 L N))):EntOk Tryz.prog 37 (f37.ent L N):=entRo_ok (E:=(E37 L N)) (dep:=1000) (f:=Tryz.f37) (sound_of hΦ) okP (callI_sound (sound_of hΦ) okP 1 2000) rfl rfl fun d _ hy=>(f37.b_eq L N (unR (.one i64)) d.1 d.2.1).trans (Eq.trans (b:=f37.b L N some d.1 d.2.1) (by kernel_rfl) hy)
def Φ37 (L N:Nat):Tells:=(addT (Φ13 L N) 37 (f37.ent L N))
theorem Φ37_ok (L N:Nat):TellsOk Tryz.prog (Φ37 L N):=addT_ok (Φ13_ok L N) (f37.ok L N (Φ13_ok L N))
def f14.s0' {R:Type} (L N:Nat) (k0_e0:LLM→LI→LI→Option R) (rec0:Int→Int→LLM→LI→LI→Option R) (s2:Int) (s3:Int) (s4:LLM) (s5:LI) (s6:LI):Option R:=
 bif (decide (s3<s2)) then
  bif (decide (0≤s3)&&decide (s3<(s5.length:Int))) then
   bif (s3==(listAt s5 (0:Int) s3.toNat)) then
    bif (decide (s6.length+([s3]:LI).length≤lim)) then
     rec0 s2 (wi (s3+(1:Int))) s4 s5 (s6++([s3]:LI))
    else none
   else rec0 s2 (wi (s3+(1:Int))) s4 s5 s6
  else none
 else k0_e0 s4 s5 s6
def f14.s0 {R:Type} (L N:Nat) (k0_e0:LLM→LI→LI→Option R) (rec0:Int→Int→LLM→LI→LI→Option R) (s2:Int) (s3:Int) (s4:LLM) (s5:LI) (s6:LI):Option R:=
 f14.s0' L N k0_e0 rec0 s2 s3 s4 s5 s6
def f14.l0 {R:Type} (L N:Nat) (k0_e0:LLM→LI→LI→Option R):Nat→Int→Int→LLM→LI→LI→Option R
 |0,_,_,_,_,_=>none
 |n+1,s2,s3,s4,s5,s6=>f14.s0 L N k0_e0 (f14.l0 L N k0_e0 n) s2 s3 s4 s5 s6
def f14.T0 (s2:Int) (s3:Int) (s4:LLM) (s5:LI) (s6:LI):T:=mkT 77 [(1,(.ptr 1001 0)),(2,(.ptr 1002 0)),(4,(.row 1019)),(5,(.row 1020)),(21,(.row 1019)),(22,(.tv i64 s2)),(23,(.tv i64 s3))]
def f14.H0 (s2:Int) (s3:Int) (s4:LLM) (s5:LI) (s6:LI):H:=[(1001,(.box [(.tv (.sl (.sl (.st 0))) s4)])),(1002,(.box [.nil])),(1019,(.row 3 i64 s5)),(1020,(.row 3 i64 s6))]
def f14.T0_e0 (z7:LLM) (z8:LI) (z9:LI):T:=mkT 77 [(1,(.ptr 1001 0)),(2,(.ptr 1002 0)),(4,(.row 1019)),(5,(.row 1020))]
def f14.H0_e0 (z7:LLM) (z8:LI) (z9:LI):H:=[(1001,(.box [(.tv (.sl (.sl (.st 0))) z7)])),(1002,(.box [.nil])),(1019,(.row 3 i64 z8)),(1020,(.row 3 i64 z9))]
def f14.s2' {R:Type} (L N:Nat) (k2_e4:Int→Int→LLM→LI→LI→LM→LLM→Option R) (rec2:Int→Int→LM→Int→Int→LLM→LI→LI→LM→LLM→Option R) (s22:Int) (s23:Int) (s24:LM) (s25:Int) (s26:Int) (s27:LLM) (s28:LI) (s29:LI) (s30:LM) (s31:LLM):Option R:=
 bif (decide (s26<s25)) then
  bif (decide (0≤s26)&&decide (s26<(s24.length:Int))) then
   bif (decide (0≤(listAt s24 (Ty.dflt (.st 0)) s26.toNat).to)&&decide ((listAt s24 (Ty.dflt (.st 0)) s26.toNat).to<(s28.length:Int))) then
    (f37 L N s29 (listAt s28 (0:Int) ((listAt s24 (Ty.dflt (.st 0)) s26.toNat).to).toNat)).bind fun y39=>
    bif (decide (s30.length+([(Move.mk ((listAt s24 (Ty.dflt (.st 0)) s26.toNat).act) y39)]:LM).length≤lim)) then
     rec2 s22 s23 s24 s25 (wi (s26+(1:Int))) s27 s28 s29 (s30++([(Move.mk ((listAt s24 (Ty.dflt (.st 0)) s26.toNat).act) y39)]:LM)) s31
    else none
   else none
  else none
 else k2_e4 s22 s23 s27 s28 s29 s30 s31
def f14.s2 {R:Type} (L N:Nat) (k2_e4:Int→Int→LLM→LI→LI→LM→LLM→Option R) (rec2:Int→Int→LM→Int→Int→LLM→LI→LI→LM→LLM→Option R) (s22:Int) (s23:Int) (s24:LM) (s25:Int) (s26:Int) (s27:LLM) (s28:LI) (s29:LI) (s30:LM) (s31:LLM):Option R:=
 f14.s2' L N k2_e4 rec2 s22 s23 s24 s25 s26 s27 s28 s29 s30 s31
def f14.l2 {R:Type} (L N:Nat) (k2_e4:Int→Int→LLM→LI→LI→LM→LLM→Option R):Nat→Int→Int→LM→Int→Int→LLM→LI→LI→LM→LLM→Option R
 |0,_,_,_,_,_,_,_,_,_,_=>none
 |n+1,s22,s23,s24,s25,s26,s27,s28,s29,s30,s31=>f14.s2 L N k2_e4 (f14.l2 L N k2_e4 n) s22 s23 s24 s25 s26 s27 s28 s29 s30 s31
def f14.T2 (s22:Int) (s23:Int) (s24:LM) (s25:Int) (s26:Int) (s27:LLM) (s28:LI) (s29:LI) (s30:LM) (s31:LLM):T:=mkT 77 [(1,(.ptr 1001 0)),(2,(.ptr 1002 0)),(4,(.row 1019)),(5,(.row 1020)),(8,(.ptr 1008 0)),(11,(.row 1043)),(37,(.row 1020)),(38,(.tv i64 s22)),(39,(.tv i64 s23)),(48,(.tv (.sl (.st 0)) s24)),(49,(.tv i64 s25)),(50,(.tv i64 s26))]
def f14.H2 (s22:Int) (s23:Int) (s24:LM) (s25:Int) (s26:Int) (s27:LLM) (s28:LI) (s29:LI) (s30:LM) (s31:LLM):H:=[(1001,(.box [(.tv (.sl (.sl (.st 0))) s27)])),(1002,(.box [.nil])),(1008,(.box [(.row 1920)])),(1019,(.row 3 i64 s28)),(1020,(.row 3 i64 s29)),(1043,(.row 45 (.st 0) s30)),(1920,(.row 43 (.sl (.st 0)) s31))]
def f14.T2_e4 (z32:Int) (z33:Int) (z34:LLM) (z35:LI) (z36:LI) (z37:LM) (z38:LLM):T:=mkT 77 [(1,(.ptr 1001 0)),(2,(.ptr 1002 0)),(4,(.row 1019)),(5,(.row 1020)),(8,(.ptr 1008 0)),(11,(.row 1043)),(37,(.row 1020)),(38,(.tv i64 z32)),(39,(.tv i64 z33))]
def f14.H2_e4 (z32:Int) (z33:Int) (z34:LLM) (z35:LI) (z36:LI) (z37:LM) (z38:LLM):H:=[(1001,(.box [(.tv (.sl (.sl (.st 0))) z34)])),(1002,(.box [.nil])),(1008,(.box [(.row 1920)])),(1019,(.row 3 i64 z35)),(1020,(.row 3 i64 z36)),(1043,(.row 45 (.st 0) z37)),(1920,(.row 43 (.sl (.st 0)) z38))]
def f14.p2_e4' {R:Type} (L N:Nat) (k1_e2:LLM→Option R) (rec1:Int→Int→LLM→LI→LI→LLM→Option R) (z32:Int) (z33:Int) (z34:LLM) (z35:LI) (z36:LI) (z37:LM) (z38:LLM):Option R:=
 ((fsortM z37)).bind fun y40=>
 bif (decide (z38.length+([(tidyM z37)]:LLM).length≤lim)) then
  rec1 z32 (wi (z33+(1:Int))) z34 z35 z36 (z38++([(tidyM z37)]:LLM))
 else none
def f14.p2_e4 {R:Type} (L N:Nat) (k1_e2:LLM→Option R) (rec1:Int→Int→LLM→LI→LI→LLM→Option R) (z32:Int) (z33:Int) (z34:LLM) (z35:LI) (z36:LI) (z37:LM) (z38:LLM):Option R:=
 f14.p2_e4' L N k1_e2 rec1 z32 z33 z34 z35 z36 z37 z38
def f14.s1' {R:Type} (L N:Nat) (k1_e2:LLM→Option R) (rec1:Int→Int→LLM→LI→LI→LLM→Option R) (w2:Int→Int→LM→Int→Int→LLM→LI→LI→LM→LLM→Option R) (s15:Int) (s16:Int) (s17:LLM) (s18:LI) (s19:LI) (s20:LLM):Option R:=
 bif (decide (s16<s15)) then
  bif (decide (0≤s16)&&decide (s16<(s19.length:Int))) then
   bif (decide (0≤(listAt s19 (0:Int) s16.toNat))&&decide ((listAt s19 (0:Int) s16.toNat)<(s17.length:Int))) then
    w2 s15 s16 (listAt s17 [] (listAt s19 (0:Int) s16.toNat).toNat) ((listAt s17 [] (listAt s19 (0:Int) s16.toNat).toNat).length:Int) (0:Int) s17 s18 s19 ([]:LM) s20
   else none
  else none
 else k1_e2 s20
def f14.s1 {R:Type} (L N:Nat) (k1_e2:LLM→Option R) (rec1:Int→Int→LLM→LI→LI→LLM→Option R) (s15:Int) (s16:Int) (s17:LLM) (s18:LI) (s19:LI) (s20:LLM):Option R:=
 f14.s1' L N k1_e2 rec1 (fun s22 s23 s24 s25 s26 s27 s28 s29 s30 s31=>f14.l2 L N (fun z32 z33 z34 z35 z36 z37 z38=>f14.p2_e4 L N k1_e2 rec1 z32 z33 z34 z35 z36 z37 z38) L s22 s23 s24 s25 s26 s27 s28 s29 s30 s31) s15 s16 s17 s18 s19 s20
def f14.l1 {R:Type} (L N:Nat) (k1_e2:LLM→Option R):Nat→Int→Int→LLM→LI→LI→LLM→Option R
 |0,_,_,_,_,_,_=>none
 |n+1,s15,s16,s17,s18,s19,s20=>f14.s1 L N k1_e2 (f14.l1 L N k1_e2 n) s15 s16 s17 s18 s19 s20
def f14.T1 (s15:Int) (s16:Int) (s17:LLM) (s18:LI) (s19:LI) (s20:LLM):T:=mkT 77 [(1,(.ptr 1001 0)),(2,(.ptr 1002 0)),(4,(.row 1019)),(5,(.row 1020)),(8,(.ptr 1008 0)),(37,(.row 1020)),(38,(.tv i64 s15)),(39,(.tv i64 s16))]
def f14.H1 (s15:Int) (s16:Int) (s17:LLM) (s18:LI) (s19:LI) (s20:LLM):H:=[(1001,(.box [(.tv (.sl (.sl (.st 0))) s17)])),(1002,(.box [.nil])),(1008,(.box [(.row 1920)])),(1019,(.row 3 i64 s18)),(1020,(.row 3 i64 s19)),(1920,(.row 43 (.sl (.st 0)) s20))]
def f14.T1_e2 (z21:LLM):T:=mkT 77 [(2,(.ptr 1002 0)),(8,(.ptr 1008 0))]
def f14.H1_e2 (z21:LLM):H:=[(1002,(.box [.nil])),(1008,(.box [(.row 1920)])),(1920,(.row 43 (.sl (.st 0)) z21))]
def f14.p1_e2' {R:Type} (L N:Nat) (k:Graph→Bool→Option R) (z21:LLM):Option R:=
 k (Graph.mk z21) true
def f14.p1_e2 {R:Type} (L N:Nat) (k:Graph→Bool→Option R) (z21:LLM):Option R:=
 f14.p1_e2' L N k z21
def f14.p0_e0' {R:Type} (L N:Nat) (k:Graph→Bool→Option R) (w1:Int→Int→LLM→LI→LI→LLM→Option R) (z7:LLM) (z8:LI) (z9:LI):Option R:=
 w1 (z9.length:Int) (0:Int) z7 z8 z9 ([]:LLM)
def f14.p0_e0 {R:Type} (L N:Nat) (k:Graph→Bool→Option R) (z7:LLM) (z8:LI) (z9:LI):Option R:=
 f14.p0_e0' L N k (fun s15 s16 s17 s18 s19 s20=>f14.l1 L N (fun z21=>f14.p1_e2 L N k z21) L s15 s16 s17 s18 s19 s20) z7 z8 z9
def f14.b' {R:Type} (L N:Nat) (k:Graph→Bool→Option R) (w0:Int→Int→LLM→LI→LI→Option R) (x0:Graph):Option R:=
 (f6 L N (Graph.mk x0.moves)).bind fun y0=>
 bif (!y0) then
  k (Graph.mk []) false
 else (f21 L N (Graph.mk x0.moves)).bind fun y1=>
 w0 (y1.length:Int) (0:Int) x0.moves y1 ([]:LI)
def f14.b {R:Type} (L N:Nat) (k:Graph→Bool→Option R) (x0:Graph):Option R:=
 f14.b' L N k (fun s2 s3 s4 s5 s6=>f14.l0 L N (fun z7 z8 z9=>f14.p0_e0 L N k z7 z8 z9) L s2 s3 s4 s5 s6) x0
def f14 (L N:Nat) (x0:Graph):Option (Graph×Bool):=f14.b L N (fun a0 a1=>some (a0,a1)) x0
def f14.ent (L N:Nat):=entDa [(.st 2)] (.many [(.st 2),.bool]) fun d=>f14 L N d.1
noncomputable def E14 (L N:Nat):Env:={P:=Tryz.prog,ty:=tyOf,Φ:=(Φ37 L N),inl:=inlT,live:=lives,liveX:=livesX,L:=L,dp:=none,prom:=promT,heal:=healT,ren:=renT}
noncomputable def f14.c0:Code:=loopAt 0 (codeOf Tryz.f14)
def f14.X0_e0 {R:Type} (κ:KX R):=fun z7 z8 z9=>κ (.exit 0) (f14.T0_e0 z7 z8 z9) (f14.H0_e0 z7 z8 z9)
def f14.R0 {R:Type} (rec:KT R):=fun s2 s3 s4 s5 s6=>rec (f14.T0 s2 s3 s4 s5 s6) (f14.H0 s2 s3 s4 s5 s6)
theorem f14.s0_eq {R:Type} (L N:Nat) (κ:KX R) (rec:KT R) (s2:Int) (s3:Int) (s4:LLM) (s5:LI) (s6:LI):
  evRd (E14 L N) (evCallI (E14 L N) 1 2000) 1000 14 77 0 f14.c0 κ rec (f14.T0 s2 s3 s4 s5 s6) (f14.H0 s2 s3 s4 s5 s6)
  =f14.s0 L N (f14.X0_e0 κ) (f14.R0 rec) s2 s3 s4 s5 s6:=by kernel_rfl
theorem f14.l0_eq {R:Type} (L N:Nat) (κ:KX R):∀(n:Nat) (s2:Int) (s3:Int) (s4:LLM) (s5:LI) (s6:LI),
  evLp (E14 L N) (evCallI (E14 L N) 1 2000) 1000 14 77 0 f14.c0 κ n (f14.T0 s2 s3 s4 s5 s6) (f14.H0 s2 s3 s4 s5 s6)
  =f14.l0 L N (f14.X0_e0 κ) n s2 s3 s4 s5 s6:=by
 intro n
 induction n with
 |zero=>intros;rfl
 |succ n ih=>
  intro s2 s3 s4 s5 s6
  rw [evLp_succ,f14.s0_eq]
  delta f14.R0
  simp only [ih]
  rfl
noncomputable def f14.c1:Code:=loopAt 2 (codeOf Tryz.f14)
noncomputable def f14.c2:Code:=loopAt 4 f14.c1
def f14.X2_e4 {R:Type} (κ:KX R):=fun z32 z33 z34 z35 z36 z37 z38=>κ (.exit 4) (f14.T2_e4 z32 z33 z34 z35 z36 z37 z38) (f14.H2_e4 z32 z33 z34 z35 z36 z37 z38)
def f14.R2 {R:Type} (rec:KT R):=fun s22 s23 s24 s25 s26 s27 s28 s29 s30 s31=>rec (f14.T2 s22 s23 s24 s25 s26 s27 s28 s29 s30 s31) (f14.H2 s22 s23 s24 s25 s26 s27 s28 s29 s30 s31)
theorem f14.s2_eq {R:Type} (L N:Nat) (κ:KX R) (rec:KT R) (s22:Int) (s23:Int) (s24:LM) (s25:Int) (s26:Int) (s27:LLM) (s28:LI) (s29:LI) (s30:LM) (s31:LLM):
  evRd (E14 L N) (evCallI (E14 L N) 1 2000) 1000 14 77 4 f14.c2 κ rec (f14.T2 s22 s23 s24 s25 s26 s27 s28 s29 s30 s31) (f14.H2 s22 s23 s24 s25 s26 s27 s28 s29 s30 s31)
  =f14.s2 L N (f14.X2_e4 κ) (f14.R2 rec) s22 s23 s24 s25 s26 s27 s28 s29 s30 s31:=by kernel_rfl
theorem f14.l2_eq {R:Type} (L N:Nat) (κ:KX R):∀(n:Nat) (s22:Int) (s23:Int) (s24:LM) (s25:Int) (s26:Int) (s27:LLM) (s28:LI) (s29:LI) (s30:LM) (s31:LLM),
  evLp (E14 L N) (evCallI (E14 L N) 1 2000) 1000 14 77 4 f14.c2 κ n (f14.T2 s22 s23 s24 s25 s26 s27 s28 s29 s30 s31) (f14.H2 s22 s23 s24 s25 s26 s27 s28 s29 s30 s31)
  =f14.l2 L N (f14.X2_e4 κ) n s22 s23 s24 s25 s26 s27 s28 s29 s30 s31:=by
 intro n
 induction n with
 |zero=>intros;rfl
 |succ n ih=>
  intro s22 s23 s24 s25 s26 s27 s28 s29 s30 s31
  rw [evLp_succ,f14.s2_eq]
  delta f14.R2
  simp only [ih]
  rfl
def f14.X1_e2 {R:Type} (κ:KX R):=fun z21=>κ (.exit 2) (f14.T1_e2 z21) (f14.H1_e2 z21)
def f14.R1 {R:Type} (rec:KT R):=fun s15 s16 s17 s18 s19 s20=>rec (f14.T1 s15 s16 s17 s18 s19 s20) (f14.H1 s15 s16 s17 s18 s19 s20)
theorem f14.p2_e4_eq {R:Type} (L N:Nat) (κ:KX R) (rec:KT R) (z32:Int) (z33:Int) (z34:LLM) (z35:LI) (z36:LI) (z37:LM) (z38:LLM):
  (contAt (E14 L N) (evCallI (E14 L N) 1 2000) 1000 14 77 4 f14.c1 (rdK (E14 L N) 1000 14 77 2 κ rec)) (.exit 4) (f14.T2_e4 z32 z33 z34 z35 z36 z37 z38) (f14.H2_e4 z32 z33 z34 z35 z36 z37 z38)
  =f14.p2_e4 L N (f14.X1_e2 κ) (f14.R1 rec) z32 z33 z34 z35 z36 z37 z38:=by kernel_rfl
theorem f14.s1_eq {R:Type} (L N:Nat) (κ:KX R) (rec:KT R) (s15:Int) (s16:Int) (s17:LLM) (s18:LI) (s19:LI) (s20:LLM):
  evRd (E14 L N) (evCallI (E14 L N) 1 2000) 1000 14 77 2 f14.c1 κ rec (f14.T1 s15 s16 s17 s18 s19 s20) (f14.H1 s15 s16 s17 s18 s19 s20)
  =f14.s1 L N (f14.X1_e2 κ) (f14.R1 rec) s15 s16 s17 s18 s19 s20:=by
 refine Eq.trans (b:=f14.s1' L N (f14.X1_e2 κ) (f14.R1 rec) (fun s22 s23 s24 s25 s26 s27 s28 s29 s30 s31=>evLp (E14 L N) (evCallI (E14 L N) 1 2000) 1000 14 77 4 f14.c2 (contAt (E14 L N) (evCallI (E14 L N) 1 2000) 1000 14 77 4 f14.c1 (rdK (E14 L N) 1000 14 77 2 κ rec)) L (f14.T2 s22 s23 s24 s25 s26 s27 s28 s29 s30 s31) (f14.H2 s22 s23 s24 s25 s26 s27 s28 s29 s30 s31)) s15 s16 s17 s18 s19 s20) (by kernel_rfl) ?_
 unfold f14.s1
 simp only [f14.l2_eq]
 delta f14.X2_e4
 simp only [f14.p2_e4_eq]
theorem f14.l1_eq {R:Type} (L N:Nat) (κ:KX R):∀(n:Nat) (s15:Int) (s16:Int) (s17:LLM) (s18:LI) (s19:LI) (s20:LLM),
  evLp (E14 L N) (evCallI (E14 L N) 1 2000) 1000 14 77 2 f14.c1 κ n (f14.T1 s15 s16 s17 s18 s19 s20) (f14.H1 s15 s16 s17 s18 s19 s20)
  =f14.l1 L N (f14.X1_e2 κ) n s15 s16 s17 s18 s19 s20:=by
 intro n
 induction n with
 |zero=>intros;rfl
 |succ n ih=>
  intro s15 s16 s17 s18 s19 s20
  rw [evLp_succ,f14.s1_eq]
  delta f14.R1
  simp only [ih]
  rfl
theorem f14.p1_e2_eq {R:Type} (L N:Nat) (κ:AV→Option R) (z21:LLM):
  (contAt (E14 L N) (evCallI (E14 L N) 1 2000) 1000 14 77 2 (codeOf Tryz.f14) (finK (E14 L N) 1000 Tryz.f14 (finC (.many [(.st 2),.bool]) κ))) (.exit 2) (f14.T1_e2 z21) (f14.H1_e2 z21)
  =f14.p1_e2 L N (fun a0 a1=>κ (.tup [(.tv (.st 2) a0),(.tv .bool a1)])) z21:=by kernel_rfl
theorem f14.p0_e0_eq {R:Type} (L N:Nat) (κ:AV→Option R) (z7:LLM) (z8:LI) (z9:LI):
  (contAt (E14 L N) (evCallI (E14 L N) 1 2000) 1000 14 77 0 (codeOf Tryz.f14) (finK (E14 L N) 1000 Tryz.f14 (finC (.many [(.st 2),.bool]) κ))) (.exit 0) (f14.T0_e0 z7 z8 z9) (f14.H0_e0 z7 z8 z9)
  =f14.p0_e0 L N (fun a0 a1=>κ (.tup [(.tv (.st 2) a0),(.tv .bool a1)])) z7 z8 z9:=by
 refine Eq.trans (b:=f14.p0_e0' L N (fun a0 a1=>κ (.tup [(.tv (.st 2) a0),(.tv .bool a1)])) (fun s15 s16 s17 s18 s19 s20=>evLp (E14 L N) (evCallI (E14 L N) 1 2000) 1000 14 77 2 f14.c1 (contAt (E14 L N) (evCallI (E14 L N) 1 2000) 1000 14 77 2 (codeOf Tryz.f14) (finK (E14 L N) 1000 Tryz.f14 (finC (.many [(.st 2),.bool]) κ))) L (f14.T1 s15 s16 s17 s18 s19 s20) (f14.H1 s15 s16 s17 s18 s19 s20)) z7 z8 z9) (by kernel_rfl) ?_
 unfold f14.p0_e0
 simp only [f14.l1_eq]
 delta f14.X1_e2
 simp only [f14.p1_e2_eq]
theorem f14.b_eq {R:Type} (L N:Nat) (κ:AV→Option R) (x0:Graph):
  evBody (E14 L N) (evCallI (E14 L N) 1 2000) 1000 14 Tryz.f14 [(.tv (.st 2) x0)] [] [] (finC (.many [(.st 2),.bool]) κ)
  =f14.b L N (fun a0 a1=>κ (.tup [(.tv (.st 2) a0),(.tv .bool a1)])) x0:=by
 refine Eq.trans (b:=f14.b' L N (fun a0 a1=>κ (.tup [(.tv (.st 2) a0),(.tv .bool a1)])) (fun s2 s3 s4 s5 s6=>evLp (E14 L N) (evCallI (E14 L N) 1 2000) 1000 14 77 0 f14.c0 (contAt (E14 L N) (evCallI (E14 L N) 1 2000) 1000 14 77 0 (codeOf Tryz.f14) (finK (E14 L N) 1000 Tryz.f14 (finC (.many [(.st 2),.bool]) κ))) L (f14.T0 s2 s3 s4 s5 s6) (f14.H0 s2 s3 s4 s5 s6)) x0) (by kernel_rfl) ?_
 unfold f14.b
 simp only [f14.l0_eq]
 delta f14.X0_e0
 simp only [f14.p0_e0_eq]
theorem f14.ok (L N:Nat) (hΦ:TellsOk Tryz.prog ((Φ37 L N))):EntOk Tryz.prog 14 (f14.ent L N):=entDa_ok (E:=(E14 L N)) (dep:=1000) (f:=Tryz.f14) (sound_of hΦ) okP (callI_sound (sound_of hΦ) okP 1 2000) rfl fun d _ hy=>(f14.b_eq L N (unR (.many [(.st 2),.bool])) d.1).trans (Eq.trans (b:=f14.b L N (fun a0 a1=>some (a0,a1)) d.1) (by kernel_rfl) hy)
def Φ14 (L N:Nat):Tells:=(addT (Φ37 L N) 14 (f14.ent L N))
theorem Φ14_ok (L N:Nat):TellsOk Tryz.prog (Φ14 L N):=addT_ok (Φ37_ok L N) (f14.ok L N (Φ37_ok L N))
def f15.s1' {R:Type} (L N:Nat) (k1_e2:LI→LI→Int→Option R) (k1_r:LI→LI→Bool→Int→Option R) (rec1:LI→LI→Int→Int→Option R) (s3:LI) (s4:LI) (s5:Int) (s6:Int):Option R:=
 bif (decide (s6<s5)) then
  bif (decide (0≤s5)&&decide (s5<(s3.length:Int))) then
   bif (decide (0≤s6)&&decide (s6<(s3.length:Int))) then
    bif ((listAt s3 (0:Int) s5.toNat)==(listAt s3 (0:Int) s6.toNat)) then
     bif (decide (0≤s5)&&decide (s5<(s4.length:Int))) then
      bif (decide (0≤s6)&&decide (s6<(s4.length:Int))) then
       bif ((listAt s4 (0:Int) s5.toNat) !=(listAt s4 (0:Int) s6.toNat)) then
        k1_r s3 s4 false s5
       else rec1 s3 s4 s5 (wi (s6+(1:Int)))
      else none
     else none
    else rec1 s3 s4 s5 (wi (s6+(1:Int)))
   else none
  else none
 else k1_e2 s3 s4 s5
def f15.s1 {R:Type} (L N:Nat) (k1_e2:LI→LI→Int→Option R) (k1_r:LI→LI→Bool→Int→Option R) (rec1:LI→LI→Int→Int→Option R) (s3:LI) (s4:LI) (s5:Int) (s6:Int):Option R:=
 f15.s1' L N k1_e2 k1_r rec1 s3 s4 s5 s6
def f15.l1 {R:Type} (L N:Nat) (k1_e2:LI→LI→Int→Option R) (k1_r:LI→LI→Bool→Int→Option R):Nat→LI→LI→Int→Int→Option R
 |0,_,_,_,_=>none
 |n+1,s3,s4,s5,s6=>f15.s1 L N k1_e2 k1_r (f15.l1 L N k1_e2 k1_r n) s3 s4 s5 s6
def f15.T1 (s3:LI) (s4:LI) (s5:Int) (s6:Int):T:=mkT 43 [(0,(.tv (.sl i64) s3)),(1,(.tv (.sl i64) s4)),(5,(.tv i64 s5)),(6,(.tv i64 s6))]
def f15.H1 (s3:LI) (s4:LI) (s5:Int) (s6:Int):H:=[]
def f15.T1_e2 (z7:LI) (z8:LI) (z9:Int):T:=mkT 43 [(0,(.tv (.sl i64) z7)),(1,(.tv (.sl i64) z8)),(5,(.tv i64 z9))]
def f15.H1_e2 (z7:LI) (z8:LI) (z9:Int):H:=[]
def f15.T1_r (z15:LI) (z16:LI) (z17:Bool) (z18:Int):T:=mkT 43 [(0,(.tv (.sl i64) z15)),(1,(.tv (.sl i64) z16)),(4,(.tv .bool z17)),(5,(.tv i64 z18))]
def f15.H1_r (z15:LI) (z16:LI) (z17:Bool) (z18:Int):H:=[]
def f15.p1_e2' {R:Type} (L N:Nat) (k0_e0:Option R) (k0_r:Bool→Option R) (rec0:LI→LI→Int→Option R) (z7:LI) (z8:LI) (z9:Int):Option R:=
 rec0 z7 z8 (wi (z9+(1:Int)))
def f15.p1_e2 {R:Type} (L N:Nat) (k0_e0:Option R) (k0_r:Bool→Option R) (rec0:LI→LI→Int→Option R) (z7:LI) (z8:LI) (z9:Int):Option R:=
 f15.p1_e2' L N k0_e0 k0_r rec0 z7 z8 z9
def f15.p1_r' {R:Type} (L N:Nat) (k0_e0:Option R) (k0_r:Bool→Option R) (rec0:LI→LI→Int→Option R) (z15:LI) (z16:LI) (z17:Bool) (z18:Int):Option R:=
 k0_r z17
def f15.p1_r {R:Type} (L N:Nat) (k0_e0:Option R) (k0_r:Bool→Option R) (rec0:LI→LI→Int→Option R) (z15:LI) (z16:LI) (z17:Bool) (z18:Int):Option R:=
 f15.p1_r' L N k0_e0 k0_r rec0 z15 z16 z17 z18
def f15.s0' {R:Type} (L N:Nat) (k0_e0:Option R) (k0_r:Bool→Option R) (rec0:LI→LI→Int→Option R) (w1:LI→LI→Int→Int→Option R) (s0:LI) (s1:LI) (s2:Int):Option R:=
 bif (decide (s2<(s0.length:Int))) then
  w1 s0 s1 s2 (0:Int)
 else k0_e0
def f15.s0 {R:Type} (L N:Nat) (k0_e0:Option R) (k0_r:Bool→Option R) (rec0:LI→LI→Int→Option R) (s0:LI) (s1:LI) (s2:Int):Option R:=
 f15.s0' L N k0_e0 k0_r rec0 (fun s3 s4 s5 s6=>f15.l1 L N (fun z7 z8 z9=>f15.p1_e2 L N k0_e0 k0_r rec0 z7 z8 z9) (fun z15 z16 z17 z18=>f15.p1_r L N k0_e0 k0_r rec0 z15 z16 z17 z18) L s3 s4 s5 s6) s0 s1 s2
def f15.l0 {R:Type} (L N:Nat) (k0_e0:Option R) (k0_r:Bool→Option R):Nat→LI→LI→Int→Option R
 |0,_,_,_=>none
 |n+1,s0,s1,s2=>f15.s0 L N k0_e0 k0_r (f15.l0 L N k0_e0 k0_r n) s0 s1 s2
def f15.T0 (s0:LI) (s1:LI) (s2:Int):T:=mkT 43 [(0,(.tv (.sl i64) s0)),(1,(.tv (.sl i64) s1)),(5,(.tv i64 s2))]
def f15.H0 (s0:LI) (s1:LI) (s2:Int):H:=[]
def f15.T0_e0:T:=mkT 43 []
def f15.H0_e0:H:=[]
def f15.T0_r (z23:Bool):T:=mkT 43 [(4,(.tv .bool z23))]
def f15.H0_r (z23:Bool):H:=[]
def f15.p0_e0' {R:Type} (L N:Nat) (k:Bool→Option R):Option R:=
 k true
def f15.p0_e0 {R:Type} (L N:Nat) (k:Bool→Option R):Option R:=
 f15.p0_e0' L N k
def f15.p0_r' {R:Type} (L N:Nat) (k:Bool→Option R) (z23:Bool):Option R:=
 k z23
def f15.p0_r {R:Type} (L N:Nat) (k:Bool→Option R) (z23:Bool):Option R:=
 f15.p0_r' L N k z23
def f15.b' {R:Type} (L N:Nat) (k:Bool→Option R) (w0:LI→LI→Int→Option R) (x0:LI) (x1:LI):Option R:=
 bif ((x0.length:Int) !=(x1.length:Int)) then
  k false
 else w0 x0 x1 (0:Int)
def f15.b {R:Type} (L N:Nat) (k:Bool→Option R) (x0:LI) (x1:LI):Option R:=
 f15.b' L N k (fun s0 s1 s2=>f15.l0 L N (f15.p0_e0 L N k) (fun z23=>f15.p0_r L N k z23) L s0 s1 s2) x0 x1
def f15 (L N:Nat) (x0:LI) (x1:LI):Option (Bool):=f15.b L N some x0 x1
def f15.ent (L N:Nat):=entRo [(.sl i64),(.sl i64)] (.one .bool) fun d=>f15 L N d.1 d.2.1
noncomputable def E15 (L N:Nat):Env:={P:=Tryz.prog,ty:=tyOf,Φ:=(Φ14 L N),inl:=inlT,live:=lives,liveX:=livesX,L:=L,dp:=none,prom:=promT,heal:=healT,ren:=renT}
noncomputable def f15.c0:Code:=loopAt 0 (codeOf Tryz.f15)
noncomputable def f15.c1:Code:=loopAt 2 f15.c0
def f15.X1_e2 {R:Type} (κ:KX R):=fun z7 z8 z9=>κ (.exit 2) (f15.T1_e2 z7 z8 z9) (f15.H1_e2 z7 z8 z9)
def f15.X1_r {R:Type} (κ:KX R):=fun z15 z16 z17 z18=>κ .ret (f15.T1_r z15 z16 z17 z18) (f15.H1_r z15 z16 z17 z18)
def f15.R1 {R:Type} (rec:KT R):=fun s3 s4 s5 s6=>rec (f15.T1 s3 s4 s5 s6) (f15.H1 s3 s4 s5 s6)
theorem f15.s1_eq {R:Type} (L N:Nat) (κ:KX R) (rec:KT R) (s3:LI) (s4:LI) (s5:Int) (s6:Int):
  evRd (E15 L N) (evCallI (E15 L N) 1 2000) 1000 15 43 2 f15.c1 κ rec (f15.T1 s3 s4 s5 s6) (f15.H1 s3 s4 s5 s6)
  =f15.s1 L N (f15.X1_e2 κ) (f15.X1_r κ) (f15.R1 rec) s3 s4 s5 s6:=by kernel_rfl
theorem f15.l1_eq {R:Type} (L N:Nat) (κ:KX R):∀(n:Nat) (s3:LI) (s4:LI) (s5:Int) (s6:Int),
  evLp (E15 L N) (evCallI (E15 L N) 1 2000) 1000 15 43 2 f15.c1 κ n (f15.T1 s3 s4 s5 s6) (f15.H1 s3 s4 s5 s6)
  =f15.l1 L N (f15.X1_e2 κ) (f15.X1_r κ) n s3 s4 s5 s6:=by
 intro n
 induction n with
 |zero=>intros;rfl
 |succ n ih=>
  intro s3 s4 s5 s6
  rw [evLp_succ,f15.s1_eq]
  delta f15.R1
  simp only [ih]
  rfl
def f15.X0_e0 {R:Type} (κ:KX R):=κ (.exit 0) f15.T0_e0 f15.H0_e0
def f15.X0_r {R:Type} (κ:KX R):=fun z23=>κ .ret (f15.T0_r z23) (f15.H0_r z23)
def f15.R0 {R:Type} (rec:KT R):=fun s0 s1 s2=>rec (f15.T0 s0 s1 s2) (f15.H0 s0 s1 s2)
theorem f15.p1_e2_eq {R:Type} (L N:Nat) (κ:KX R) (rec:KT R) (z7:LI) (z8:LI) (z9:Int):
  (contAt (E15 L N) (evCallI (E15 L N) 1 2000) 1000 15 43 2 f15.c0 (rdK (E15 L N) 1000 15 43 0 κ rec)) (.exit 2) (f15.T1_e2 z7 z8 z9) (f15.H1_e2 z7 z8 z9)
  =f15.p1_e2 L N (f15.X0_e0 κ) (f15.X0_r κ) (f15.R0 rec) z7 z8 z9:=by kernel_rfl
theorem f15.p1_r_eq {R:Type} (L N:Nat) (κ:KX R) (rec:KT R) (z15:LI) (z16:LI) (z17:Bool) (z18:Int):
  (contAt (E15 L N) (evCallI (E15 L N) 1 2000) 1000 15 43 2 f15.c0 (rdK (E15 L N) 1000 15 43 0 κ rec)) .ret (f15.T1_r z15 z16 z17 z18) (f15.H1_r z15 z16 z17 z18)
  =f15.p1_r L N (f15.X0_e0 κ) (f15.X0_r κ) (f15.R0 rec) z15 z16 z17 z18:=by kernel_rfl
theorem f15.s0_eq {R:Type} (L N:Nat) (κ:KX R) (rec:KT R) (s0:LI) (s1:LI) (s2:Int):
  evRd (E15 L N) (evCallI (E15 L N) 1 2000) 1000 15 43 0 f15.c0 κ rec (f15.T0 s0 s1 s2) (f15.H0 s0 s1 s2)
  =f15.s0 L N (f15.X0_e0 κ) (f15.X0_r κ) (f15.R0 rec) s0 s1 s2:=by
 refine Eq.trans (b:=f15.s0' L N (f15.X0_e0 κ) (f15.X0_r κ) (f15.R0 rec) (fun s3 s4 s5 s6=>evLp (E15 L N) (evCallI (E15 L N) 1 2000) 1000 15 43 2 f15.c1 (contAt (E15 L N) (evCallI (E15 L N) 1 2000) 1000 15 43 2 f15.c0 (rdK (E15 L N) 1000 15 43 0 κ rec)) L (f15.T1 s3 s4 s5 s6) (f15.H1 s3 s4 s5 s6)) s0 s1 s2) (by kernel_rfl) ?_
 unfold f15.s0
 simp only [f15.l1_eq]
 delta f15.X1_e2 f15.X1_r
 simp only [f15.p1_e2_eq,f15.p1_r_eq]
theorem f15.l0_eq {R:Type} (L N:Nat) (κ:KX R):∀(n:Nat) (s0:LI) (s1:LI) (s2:Int),
  evLp (E15 L N) (evCallI (E15 L N) 1 2000) 1000 15 43 0 f15.c0 κ n (f15.T0 s0 s1 s2) (f15.H0 s0 s1 s2)
  =f15.l0 L N (f15.X0_e0 κ) (f15.X0_r κ) n s0 s1 s2:=by
 intro n
 induction n with
 |zero=>intros;rfl
 |succ n ih=>
  intro s0 s1 s2
  rw [evLp_succ,f15.s0_eq]
  delta f15.R0
  simp only [ih]
  rfl
theorem f15.p0_e0_eq {R:Type} (L N:Nat) (κ:AV→Option R):
  (contAt (E15 L N) (evCallI (E15 L N) 1 2000) 1000 15 43 0 (codeOf Tryz.f15) (finK (E15 L N) 1000 Tryz.f15 (finC (.one .bool) κ))) (.exit 0) f15.T0_e0 f15.H0_e0
  =f15.p0_e0 L N (fun a0=>κ (.tv .bool a0)):=by kernel_rfl
theorem f15.p0_r_eq {R:Type} (L N:Nat) (κ:AV→Option R) (z23:Bool):
  (contAt (E15 L N) (evCallI (E15 L N) 1 2000) 1000 15 43 0 (codeOf Tryz.f15) (finK (E15 L N) 1000 Tryz.f15 (finC (.one .bool) κ))) .ret (f15.T0_r z23) (f15.H0_r z23)
  =f15.p0_r L N (fun a0=>κ (.tv .bool a0)) z23:=by kernel_rfl
theorem f15.b_eq {R:Type} (L N:Nat) (κ:AV→Option R) (x0:LI) (x1:LI):
  evBody (E15 L N) (evCallI (E15 L N) 1 2000) 1000 15 Tryz.f15 [(.tv (.sl i64) x0),(.tv (.sl i64) x1)] [] [] (finC (.one .bool) κ)
  =f15.b L N (fun a0=>κ (.tv .bool a0)) x0 x1:=by
 refine Eq.trans (b:=f15.b' L N (fun a0=>κ (.tv .bool a0)) (fun s0 s1 s2=>evLp (E15 L N) (evCallI (E15 L N) 1 2000) 1000 15 43 0 f15.c0 (contAt (E15 L N) (evCallI (E15 L N) 1 2000) 1000 15 43 0 (codeOf Tryz.f15) (finK (E15 L N) 1000 Tryz.f15 (finC (.one .bool) κ))) L (f15.T0 s0 s1 s2) (f15.H0 s0 s1 s2)) x0 x1) (by kernel_rfl) ?_
 unfold f15.b
 simp only [f15.l0_eq]
 delta f15.X0_e0 f15.X0_r
 simp only [f15.p0_e0_eq,f15.p0_r_eq]
theorem f15.ok (L N:Nat) (hΦ:TellsOk Tryz.prog ((Φ14 L N))):EntOk Tryz.prog 15 (f15.ent L N):=entRo_ok (E:=(E15 L N)) (dep:=1000) (f:=Tryz.f15) (sound_of hΦ) okP (callI_sound (sound_of hΦ) okP 1 2000) rfl rfl fun d _ hy=>(f15.b_eq L N (unR (.one .bool)) d.1 d.2.1).trans (Eq.trans (b:=f15.b L N some d.1 d.2.1) (by kernel_rfl) hy)
def Φ15 (L N:Nat):Tells:=(addT (Φ14 L N) 15 (f15.ent L N))
theorem Φ15_ok (L N:Nat):TellsOk Tryz.prog (Φ15 L N):=addT_ok (Φ14_ok L N) (f15.ok L N (Φ14_ok L N))
def f59.s0' {R:Type} (L N:Nat) (self59:Tree→Option (Bool)) (k0_e1:Option R) (k0_r:Bool→Option R) (rec0:LT→Int→Int→Option R) (s13:LT) (s14:Int) (s15:Int):Option R:=
 bif (decide (s15<s14)) then
  bif (decide (0≤s15)&&decide (s15<(s13.length:Int))) then
   (self59 (Tree.mk ((listAt s13 (Ty.dflt (.st 1)) s15.toNat).op) ((listAt s13 (Ty.dflt (.st 1)) s15.toNat).n) ((listAt s13 (Ty.dflt (.st 1)) s15.toNat).parts))).bind fun y16=>
   bif (!y16) then
    k0_r false
   else rec0 s13 s14 (wi (s15+(1:Int)))
  else none
 else k0_e1
def f59.s0 {R:Type} (L N:Nat) (self59:Tree→Option (Bool)) (k0_e1:Option R) (k0_r:Bool→Option R) (rec0:LT→Int→Int→Option R) (s13:LT) (s14:Int) (s15:Int):Option R:=
 f59.s0' L N self59 k0_e1 k0_r rec0 s13 s14 s15
def f59.l0 {R:Type} (L N:Nat) (self59:Tree→Option (Bool)) (k0_e1:Option R) (k0_r:Bool→Option R):Nat→LT→Int→Int→Option R
 |0,_,_,_=>none
 |n+1,s13,s14,s15=>f59.s0 L N self59 k0_e1 k0_r (f59.l0 L N self59 k0_e1 k0_r n) s13 s14 s15
def f59.T0 (s13:LT) (s14:Int) (s15:Int):T:=mkT 48 [(38,(.tv (.sl (.st 1)) s13)),(39,(.tv i64 s14)),(40,(.tv i64 s15))]
def f59.H0 (s13:LT) (s14:Int) (s15:Int):H:=[]
def f59.T0_e1:T:=mkT 48 []
def f59.H0_e1:H:=[]
def f59.T0_r (z17:Bool):T:=mkT 48 [(2,(.tv .bool z17))]
def f59.H0_r (z17:Bool):H:=[]
def f59.p0_e1' {R:Type} (L N:Nat) (self59:Tree→Option (Bool)) (k:Bool→Option R):Option R:=
 k true
def f59.p0_e1 {R:Type} (L N:Nat) (self59:Tree→Option (Bool)) (k:Bool→Option R):Option R:=
 f59.p0_e1' L N self59 k
def f59.p0_r' {R:Type} (L N:Nat) (self59:Tree→Option (Bool)) (k:Bool→Option R) (z17:Bool):Option R:=
 k z17
def f59.p0_r {R:Type} (L N:Nat) (self59:Tree→Option (Bool)) (k:Bool→Option R) (z17:Bool):Option R:=
 f59.p0_r' L N self59 k z17
def f59.j0' {R:Type} (L N:Nat) (self59:Tree→Option (Bool)) (k:Bool→Option R) (w0:LT→Int→Int→Option R) (v10:Int) (v11:Int) (v12:LT):Option R:=
 w0 v12 (v12.length:Int) (0:Int)
def f59.j1' {R:Type} (L N:Nat) (self59:Tree→Option (Bool)) (k:Bool→Option R) (w0:LT→Int→Int→Option R) (v0:Int) (v1:Int) (v2:Int) (v3:LT):Option R:=
 bif ((v3.length:Int) !=v0) then
  k false
 else bif (v1 !=(3:Int)) then
  bif (v2 !=(0:Int)) then
   k false
  else (f22 L N v2).bind fun y4=>
  bif (!y4) then
   k false
  else f59.j0' L N self59 k w0 v1 v2 v3
 else (f22 L N v2).bind fun y5=>
 bif (!y5) then
  k false
 else f59.j0' L N self59 k w0 v1 v2 v3
def f59.b' {R:Type} (L N:Nat) (self59:Tree→Option (Bool)) (k:Bool→Option R) (w0:LT→Int→Int→Option R) (x0:Tree):Option R:=
 bif (x0.op==(0:Int)) then
  f59.j1' L N self59 k w0 (0:Int) x0.op x0.n x0.parts
 else bif (x0.op==(1:Int)) then
  f59.j1' L N self59 k w0 (1:Int) x0.op x0.n x0.parts
 else bif (x0.op==(2:Int)) then
  f59.j1' L N self59 k w0 (2:Int) x0.op x0.n x0.parts
 else bif (x0.op==(3:Int)) then
  f59.j1' L N self59 k w0 (1:Int) x0.op x0.n x0.parts
 else k false
def f59.b {R:Type} (L N:Nat) (self59:Tree→Option (Bool)) (k:Bool→Option R) (x0:Tree):Option R:=
 f59.b' L N self59 k (fun s13 s14 s15=>f59.l0 L N self59 (f59.p0_e1 L N self59 k) (fun z17=>f59.p0_r L N self59 k z17) L s13 s14 s15) x0
def f59 (L N:Nat):Nat→Tree→Option (Bool)
 |0,_=>none
 |n+1,x0=>f59.b L N (f59 L N n) some x0
def f59.ent (L N m:Nat):=entRo [(.st 1)] (.one .bool) fun d=>f59 L N m d.1
def Φ59s (L N m:Nat):Tells:=(addT (Φ15 L N) 59 (f59.ent L N m))
noncomputable def E59 (L N m:Nat):Env:={P:=Tryz.prog,ty:=tyOf,Φ:=Φ59s L N m,inl:=inlT,live:=lives,liveX:=livesX,L:=L,dp:=none,prom:=promT,heal:=healT,ren:=renT}
noncomputable def f59.c0:Code:=loopAt 1 (codeOf Tryz.f59)
def f59.X0_e1 {R:Type} (κ:KX R):=κ (.exit 1) f59.T0_e1 f59.H0_e1
def f59.X0_r {R:Type} (κ:KX R):=fun z17=>κ .ret (f59.T0_r z17) (f59.H0_r z17)
def f59.R0 {R:Type} (rec:KT R):=fun s13 s14 s15=>rec (f59.T0 s13 s14 s15) (f59.H0 s13 s14 s15)
theorem f59.s0_eq {R:Type} (L N m:Nat) (κ:KX R) (rec:KT R) (s13:LT) (s14:Int) (s15:Int):
  evRd (E59 L N m) (evCallI (E59 L N m) 1 2000) 1000 59 48 1 f59.c0 κ rec (f59.T0 s13 s14 s15) (f59.H0 s13 s14 s15)
  =f59.s0 L N (f59 L N m) (f59.X0_e1 κ) (f59.X0_r κ) (f59.R0 rec) s13 s14 s15:=by kernel_rfl
theorem f59.l0_eq {R:Type} (L N m:Nat) (κ:KX R):∀(n:Nat) (s13:LT) (s14:Int) (s15:Int),
  evLp (E59 L N m) (evCallI (E59 L N m) 1 2000) 1000 59 48 1 f59.c0 κ n (f59.T0 s13 s14 s15) (f59.H0 s13 s14 s15)
  =f59.l0 L N (f59 L N m) (f59.X0_e1 κ) (f59.X0_r κ) n s13 s14 s15:=by
 intro n
 induction n with
 |zero=>intros;rfl
 |succ n ih=>
  intro s13 s14 s15
  rw [evLp_succ,f59.s0_eq]
  delta f59.R0
  simp only [ih]
  rfl
theorem f59.p0_e1_eq {R:Type} (L N m:Nat) (κ:AV→Option R):
  (contAt (E59 L N m) (evCallI (E59 L N m) 1 2000) 1000 59 48 1 (codeOf Tryz.f59) (finK (E59 L N m) 1000 Tryz.f59 (finC (.one .bool) κ))) (.exit 1) f59.T0_e1 f59.H0_e1
  =f59.p0_e1 L N (f59 L N m) (fun a0=>κ (.tv .bool a0)):=by kernel_rfl
theorem f59.p0_r_eq {R:Type} (L N m:Nat) (κ:AV→Option R) (z17:Bool):
  (contAt (E59 L N m) (evCallI (E59 L N m) 1 2000) 1000 59 48 1 (codeOf Tryz.f59) (finK (E59 L N m) 1000 Tryz.f59 (finC (.one .bool) κ))) .ret (f59.T0_r z17) (f59.H0_r z17)
  =f59.p0_r L N (f59 L N m) (fun a0=>κ (.tv .bool a0)) z17:=by kernel_rfl
theorem f59.b_eq {R:Type} (L N m:Nat) (κ:AV→Option R) (x0:Tree):
  evBody (E59 L N m) (evCallI (E59 L N m) 1 2000) 1000 59 Tryz.f59 [(.tv (.st 1) x0)] [] [] (finC (.one .bool) κ)
  =f59.b L N (f59 L N m) (fun a0=>κ (.tv .bool a0)) x0:=by
 refine Eq.trans (b:=f59.b' L N (f59 L N m) (fun a0=>κ (.tv .bool a0)) (fun s13 s14 s15=>evLp (E59 L N m) (evCallI (E59 L N m) 1 2000) 1000 59 48 1 f59.c0 (contAt (E59 L N m) (evCallI (E59 L N m) 1 2000) 1000 59 48 1 (codeOf Tryz.f59) (finK (E59 L N m) 1000 Tryz.f59 (finC (.one .bool) κ))) L (f59.T0 s13 s14 s15) (f59.H0 s13 s14 s15)) x0) (by kernel_rfl) ?_
 unfold f59.b
 simp only [f59.l0_eq]
 delta f59.X0_e1 f59.X0_r
 simp only [f59.p0_e1_eq,f59.p0_r_eq]
theorem f59.ok (L N m:Nat) (hΦ:TellsOk Tryz.prog (Φ59s L N m)):EntOk Tryz.prog 59 (f59.ent L N (m+1)):=entRo_ok (E:=(E59 L N m)) (dep:=1000) (f:=Tryz.f59) (sound_of hΦ) okP (callI_sound (sound_of hΦ) okP 1 2000) rfl rfl fun d _ hy=>(f59.b_eq L N m (unR (.one .bool)) d.1).trans (Eq.trans (b:=f59.b L N (f59 L N m) some d.1) (by kernel_rfl) hy)
theorem Φ59s_ok (L N:Nat):∀m,TellsOk Tryz.prog (Φ59s L N m):=by
 intro m
 induction m with
 |zero=>exact (addT_ok (Φ15_ok L N) (entRo_no fun _=>rfl))
 |succ m ih=>exact (addT_ok (Φ15_ok L N) (f59.ok L N m ih))
def Φ59 (L N:Nat):Tells:=(addT (Φ15 L N) 59 (f59.ent L N N))
theorem Φ59_ok (L N:Nat):TellsOk Tryz.prog (Φ59 L N):=Φ59s_ok L N N
def f39.b' {R:Type} (L N:Nat) (k:Bool→Option R) (x0:Tree):Option R:=
 (f52 L N N (Tree.mk x0.op x0.n x0.parts) (60:Int)).bind fun y0=>
 bif (decide (y0≤(60:Int))) then
  (f59 L N N (Tree.mk x0.op x0.n x0.parts)).bind fun y1=>
  k y1
 else k false
def f39.b {R:Type} (L N:Nat) (k:Bool→Option R) (x0:Tree):Option R:=
 f39.b' L N k x0
def f39 (L N:Nat) (x0:Tree):Option (Bool):=f39.b L N some x0
def f39.ent (L N:Nat):=entRo [(.st 1)] (.one .bool) fun d=>f39 L N d.1
noncomputable def E39 (L N:Nat):Env:={P:=Tryz.prog,ty:=tyOf,Φ:=(Φ59 L N),inl:=inlT,live:=lives,liveX:=livesX,L:=L,dp:=none,prom:=promT,heal:=healT,ren:=renT}
theorem f39.b_eq {R:Type} (L N:Nat) (κ:AV→Option R) (x0:Tree):
  evBody (E39 L N) (evCallI (E39 L N) 1 2000) 1000 39 Tryz.f39 [(.tv (.st 1) x0)] [] [] (finC (.one .bool) κ)
  =f39.b L N (fun a0=>κ (.tv .bool a0)) x0:=by kernel_rfl
theorem f39.ok (L N:Nat) (hΦ:TellsOk Tryz.prog ((Φ59 L N))):EntOk Tryz.prog 39 (f39.ent L N):=entRo_ok (E:=(E39 L N)) (dep:=1000) (f:=Tryz.f39) (sound_of hΦ) okP (callI_sound (sound_of hΦ) okP 1 2000) rfl rfl fun d _ hy=>(f39.b_eq L N (unR (.one .bool)) d.1).trans (Eq.trans (b:=f39.b L N some d.1) (by kernel_rfl) hy)
def Φ39 (L N:Nat):Tells:=(addT (Φ59 L N) 39 (f39.ent L N))
theorem Φ39_ok (L N:Nat):TellsOk Tryz.prog (Φ39 L N):=addT_ok (Φ59_ok L N) (f39.ok L N (Φ59_ok L N))
def f40.s0' {R:Type} (L N:Nat) (self40:Graph→Tree→Option (LB)) (k0_e0:LLM→Int→Int→LT→LB→LLB→Option R) (rec0:LT→Int→Int→LLM→Int→Int→LT→LB→LLB→Option R) (s0:LT) (s1:Int) (s2:Int) (s3:LLM) (s4:Int) (s5:Int) (s6:LT) (s7:LB) (s8:LLB):Option R:=
 bif (decide (s2<s1)) then
  bif (decide (0≤s2)&&decide (s2<(s0.length:Int))) then
   (self40 (Graph.mk s3) (Tree.mk ((listAt s0 (Ty.dflt (.st 1)) s2.toNat).op) ((listAt s0 (Ty.dflt (.st 1)) s2.toNat).n) ((listAt s0 (Ty.dflt (.st 1)) s2.toNat).parts))).bind fun y15=>
   bif (decide (s8.length+([y15]:LLB).length≤lim)) then
    rec0 s0 s1 (wi (s2+(1:Int))) s3 s4 s5 s6 s7 (s8++([y15]:LLB))
   else none
  else none
 else k0_e0 s3 s4 s5 s6 s7 s8
def f40.s0 {R:Type} (L N:Nat) (self40:Graph→Tree→Option (LB)) (k0_e0:LLM→Int→Int→LT→LB→LLB→Option R) (rec0:LT→Int→Int→LLM→Int→Int→LT→LB→LLB→Option R) (s0:LT) (s1:Int) (s2:Int) (s3:LLM) (s4:Int) (s5:Int) (s6:LT) (s7:LB) (s8:LLB):Option R:=
 f40.s0' L N self40 k0_e0 rec0 s0 s1 s2 s3 s4 s5 s6 s7 s8
def f40.l0 {R:Type} (L N:Nat) (self40:Graph→Tree→Option (LB)) (k0_e0:LLM→Int→Int→LT→LB→LLB→Option R):Nat→LT→Int→Int→LLM→Int→Int→LT→LB→LLB→Option R
 |0,_,_,_,_,_,_,_,_,_=>none
 |n+1,s0,s1,s2,s3,s4,s5,s6,s7,s8=>f40.s0 L N self40 k0_e0 (f40.l0 L N self40 k0_e0 n) s0 s1 s2 s3 s4 s5 s6 s7 s8
def f40.T0 (s0:LT) (s1:Int) (s2:Int) (s3:LLM) (s4:Int) (s5:Int) (s6:LT) (s7:LB) (s8:LLB):T:=mkT 110 [(2,(.ptr 1002 0)),(3,(.ptr 1003 0)),(5,(.row 1015)),(6,(.row 1016)),(18,(.tv (.sl (.st 1)) s0)),(19,(.tv i64 s1)),(20,(.tv i64 s2))]
def f40.H0 (s0:LT) (s1:Int) (s2:Int) (s3:LLM) (s4:Int) (s5:Int) (s6:LT) (s7:LB) (s8:LLB):H:=[(1002,(.box [(.tv (.sl (.sl (.st 0))) s3)])),(1003,(.box [(.tv i64 s4),(.tv i64 s5),(.tv (.sl (.st 1)) s6)])),(1015,(.row 4 .bool s7)),(1016,(.row 62 (.sl .bool) s8))]
def f40.T0_e0 (z9:LLM) (z10:Int) (z11:Int) (z12:LT) (z13:LB) (z14:LLB):T:=mkT 110 [(2,(.ptr 1002 0)),(3,(.ptr 1003 0)),(5,(.row 1015)),(6,(.row 1016))]
def f40.H0_e0 (z9:LLM) (z10:Int) (z11:Int) (z12:LT) (z13:LB) (z14:LLB):H:=[(1002,(.box [(.tv (.sl (.sl (.st 0))) z9)])),(1003,(.box [(.tv i64 z10),(.tv i64 z11),(.tv (.sl (.st 1)) z12)])),(1015,(.row 4 .bool z13)),(1016,(.row 62 (.sl .bool) z14))]
def f40.s2' {R:Type} (L N:Nat) (self40:Graph→Tree→Option (LB)) (k2_e5:Int→Int→LLM→Int→Int→LT→LB→LLB→Option R) (rec2:Int→Int→Int→LM→Int→Int→LLM→Int→Int→LT→LB→LLB→Option R) (s25:Int) (s26:Int) (s27:Int) (s28:LM) (s29:Int) (s30:Int) (s31:LLM) (s32:Int) (s33:Int) (s34:LT) (s35:LB) (s36:LLB):Option R:=
 bif (decide (s30<s29)) then
  bif (decide (0≤s30)&&decide (s30<(s28.length:Int))) then
   bif (decide (0≤s25)&&decide (s25<(s35.length:Int))) then
    bif (listAt s35 false s25.toNat) then
     bif (decide (0≤s25)&&decide (s25<(s35.length:Int))) then
      rec2 s25 s26 s27 s28 s29 (wi (s30+(1:Int))) s31 s32 s33 s34 (s35.set s25.toNat true) s36
     else none
    else bif ((listAt s28 (Ty.dflt (.st 0)) s30.toNat).act==s33) then
     bif (decide (0≤(0:Int))&&decide ((0:Int)<(s36.length:Int))) then
      bif (decide (0≤(listAt s28 (Ty.dflt (.st 0)) s30.toNat).to)&&decide ((listAt s28 (Ty.dflt (.st 0)) s30.toNat).to<((listAt s36 [] (0:Int).toNat).length:Int))) then
       bif (decide (0≤s25)&&decide (s25<(s35.length:Int))) then
        rec2 s25 s26 s27 s28 s29 (wi (s30+(1:Int))) s31 s32 s33 s34 (s35.set s25.toNat (listAt (listAt s36 [] (0:Int).toNat) false ((listAt s28 (Ty.dflt (.st 0)) s30.toNat).to).toNat)) s36
       else none
      else none
     else none
    else bif (decide (0≤s25)&&decide (s25<(s35.length:Int))) then
     rec2 s25 s26 s27 s28 s29 (wi (s30+(1:Int))) s31 s32 s33 s34 (s35.set s25.toNat false) s36
    else none
   else none
  else none
 else k2_e5 s26 s27 s31 s32 s33 s34 s35 s36
def f40.s2 {R:Type} (L N:Nat) (self40:Graph→Tree→Option (LB)) (k2_e5:Int→Int→LLM→Int→Int→LT→LB→LLB→Option R) (rec2:Int→Int→Int→LM→Int→Int→LLM→Int→Int→LT→LB→LLB→Option R) (s25:Int) (s26:Int) (s27:Int) (s28:LM) (s29:Int) (s30:Int) (s31:LLM) (s32:Int) (s33:Int) (s34:LT) (s35:LB) (s36:LLB):Option R:=
 f40.s2' L N self40 k2_e5 rec2 s25 s26 s27 s28 s29 s30 s31 s32 s33 s34 s35 s36
def f40.l2 {R:Type} (L N:Nat) (self40:Graph→Tree→Option (LB)) (k2_e5:Int→Int→LLM→Int→Int→LT→LB→LLB→Option R):Nat→Int→Int→Int→LM→Int→Int→LLM→Int→Int→LT→LB→LLB→Option R
 |0,_,_,_,_,_,_,_,_,_,_,_,_=>none
 |n+1,s25,s26,s27,s28,s29,s30,s31,s32,s33,s34,s35,s36=>f40.s2 L N self40 k2_e5 (f40.l2 L N self40 k2_e5 n) s25 s26 s27 s28 s29 s30 s31 s32 s33 s34 s35 s36
def f40.T2 (s25:Int) (s26:Int) (s27:Int) (s28:LM) (s29:Int) (s30:Int) (s31:LLM) (s32:Int) (s33:Int) (s34:LT) (s35:LB) (s36:LLB):T:=mkT 110 [(2,(.ptr 1002 0)),(3,(.ptr 1003 0)),(5,(.row 1015)),(6,(.row 1016)),(9,(.tv i64 s25)),(32,(.tv i64 s26)),(33,(.tv i64 s27)),(42,(.tv (.sl (.st 0)) s28)),(43,(.tv i64 s29)),(44,(.tv i64 s30))]
def f40.H2 (s25:Int) (s26:Int) (s27:Int) (s28:LM) (s29:Int) (s30:Int) (s31:LLM) (s32:Int) (s33:Int) (s34:LT) (s35:LB) (s36:LLB):H:=[(1002,(.box [(.tv (.sl (.sl (.st 0))) s31)])),(1003,(.box [(.tv i64 s32),(.tv i64 s33),(.tv (.sl (.st 1)) s34)])),(1015,(.row 4 .bool s35)),(1016,(.row 62 (.sl .bool) s36))]
def f40.T2_e5 (z37:Int) (z38:Int) (z39:LLM) (z40:Int) (z41:Int) (z42:LT) (z43:LB) (z44:LLB):T:=mkT 110 [(2,(.ptr 1002 0)),(3,(.ptr 1003 0)),(5,(.row 1015)),(6,(.row 1016)),(32,(.tv i64 z37)),(33,(.tv i64 z38))]
def f40.H2_e5 (z37:Int) (z38:Int) (z39:LLM) (z40:Int) (z41:Int) (z42:LT) (z43:LB) (z44:LLB):H:=[(1002,(.box [(.tv (.sl (.sl (.st 0))) z39)])),(1003,(.box [(.tv i64 z40),(.tv i64 z41),(.tv (.sl (.st 1)) z42)])),(1015,(.row 4 .bool z43)),(1016,(.row 62 (.sl .bool) z44))]
def f40.p2_e5' {R:Type} (L N:Nat) (self40:Graph→Tree→Option (LB)) (k1_e2:LB→Option R) (rec1:Int→Int→LLM→Int→Int→LT→LB→LLB→Option R) (z37:Int) (z38:Int) (z39:LLM) (z40:Int) (z41:Int) (z42:LT) (z43:LB) (z44:LLB):Option R:=
 rec1 z37 (wi (z38+(1:Int))) z39 z40 z41 z42 z43 z44
def f40.p2_e5 {R:Type} (L N:Nat) (self40:Graph→Tree→Option (LB)) (k1_e2:LB→Option R) (rec1:Int→Int→LLM→Int→Int→LT→LB→LLB→Option R) (z37:Int) (z38:Int) (z39:LLM) (z40:Int) (z41:Int) (z42:LT) (z43:LB) (z44:LLB):Option R:=
 f40.p2_e5' L N self40 k1_e2 rec1 z37 z38 z39 z40 z41 z42 z43 z44
def f40.s1' {R:Type} (L N:Nat) (self40:Graph→Tree→Option (LB)) (k1_e2:LB→Option R) (rec1:Int→Int→LLM→Int→Int→LT→LB→LLB→Option R) (w2:Int→Int→Int→LM→Int→Int→LLM→Int→Int→LT→LB→LLB→Option R) (s16:Int) (s17:Int) (s18:LLM) (s19:Int) (s20:Int) (s21:LT) (s22:LB) (s23:LLB):Option R:=
 bif (decide (s17<s16)) then
  bif (s19==(0:Int)) then
   bif (decide (0≤s17)&&decide (s17<(s22.length:Int))) then
    rec1 s16 (wi (s17+(1:Int))) s18 s19 s20 s21 (s22.set s17.toNat true) s23
   else none
  else bif (s19==(1:Int)) then
   bif (decide (0≤(0:Int))&&decide ((0:Int)<(s23.length:Int))) then
    bif (decide (0≤s17)&&decide (s17<((listAt s23 [] (0:Int).toNat).length:Int))) then
     bif (decide (0≤s17)&&decide (s17<(s22.length:Int))) then
      rec1 s16 (wi (s17+(1:Int))) s18 s19 s20 s21 (s22.set s17.toNat (!(listAt (listAt s23 [] (0:Int).toNat) false s17.toNat))) s23
     else none
    else none
   else none
  else bif (s19==(2:Int)) then
   bif (decide (0≤(0:Int))&&decide ((0:Int)<(s23.length:Int))) then
    bif (decide (0≤s17)&&decide (s17<((listAt s23 [] (0:Int).toNat).length:Int))) then
     bif (listAt (listAt s23 [] (0:Int).toNat) false s17.toNat) then
      bif (decide (0≤(1:Int))&&decide ((1:Int)<(s23.length:Int))) then
       bif (decide (0≤s17)&&decide (s17<((listAt s23 [] (1:Int).toNat).length:Int))) then
        bif (decide (0≤s17)&&decide (s17<(s22.length:Int))) then
         rec1 s16 (wi (s17+(1:Int))) s18 s19 s20 s21 (s22.set s17.toNat (listAt (listAt s23 [] (1:Int).toNat) false s17.toNat)) s23
        else none
       else none
      else none
     else bif (decide (0≤s17)&&decide (s17<(s22.length:Int))) then
      rec1 s16 (wi (s17+(1:Int))) s18 s19 s20 s21 (s22.set s17.toNat false) s23
     else none
    else none
   else none
  else bif (decide (0≤s17)&&decide (s17<(s18.length:Int))) then
   w2 s17 s16 s17 (listAt s18 [] s17.toNat) ((listAt s18 [] s17.toNat).length:Int) (0:Int) s18 s19 s20 s21 s22 s23
  else none
 else k1_e2 s22
def f40.s1 {R:Type} (L N:Nat) (self40:Graph→Tree→Option (LB)) (k1_e2:LB→Option R) (rec1:Int→Int→LLM→Int→Int→LT→LB→LLB→Option R) (s16:Int) (s17:Int) (s18:LLM) (s19:Int) (s20:Int) (s21:LT) (s22:LB) (s23:LLB):Option R:=
 f40.s1' L N self40 k1_e2 rec1 (fun s25 s26 s27 s28 s29 s30 s31 s32 s33 s34 s35 s36=>f40.l2 L N self40 (fun z37 z38 z39 z40 z41 z42 z43 z44=>f40.p2_e5 L N self40 k1_e2 rec1 z37 z38 z39 z40 z41 z42 z43 z44) L s25 s26 s27 s28 s29 s30 s31 s32 s33 s34 s35 s36) s16 s17 s18 s19 s20 s21 s22 s23
def f40.l1 {R:Type} (L N:Nat) (self40:Graph→Tree→Option (LB)) (k1_e2:LB→Option R):Nat→Int→Int→LLM→Int→Int→LT→LB→LLB→Option R
 |0,_,_,_,_,_,_,_,_=>none
 |n+1,s16,s17,s18,s19,s20,s21,s22,s23=>f40.s1 L N self40 k1_e2 (f40.l1 L N self40 k1_e2 n) s16 s17 s18 s19 s20 s21 s22 s23
def f40.T1 (s16:Int) (s17:Int) (s18:LLM) (s19:Int) (s20:Int) (s21:LT) (s22:LB) (s23:LLB):T:=mkT 110 [(2,(.ptr 1002 0)),(3,(.ptr 1003 0)),(5,(.row 1015)),(6,(.row 1016)),(32,(.tv i64 s16)),(33,(.tv i64 s17))]
def f40.H1 (s16:Int) (s17:Int) (s18:LLM) (s19:Int) (s20:Int) (s21:LT) (s22:LB) (s23:LLB):H:=[(1002,(.box [(.tv (.sl (.sl (.st 0))) s18)])),(1003,(.box [(.tv i64 s19),(.tv i64 s20),(.tv (.sl (.st 1)) s21)])),(1015,(.row 4 .bool s22)),(1016,(.row 62 (.sl .bool) s23))]
def f40.T1_e2 (z24:LB):T:=mkT 110 [(5,(.row 1015))]
def f40.H1_e2 (z24:LB):H:=[(1015,(.row 4 .bool z24))]
def f40.p1_e2' {R:Type} (L N:Nat) (self40:Graph→Tree→Option (LB)) (k:LB→Option R) (z24:LB):Option R:=
 k z24
def f40.p1_e2 {R:Type} (L N:Nat) (self40:Graph→Tree→Option (LB)) (k:LB→Option R) (z24:LB):Option R:=
 f40.p1_e2' L N self40 k z24
def f40.p0_e0' {R:Type} (L N:Nat) (self40:Graph→Tree→Option (LB)) (k:LB→Option R) (w1:Int→Int→LLM→Int→Int→LT→LB→LLB→Option R) (z9:LLM) (z10:Int) (z11:Int) (z12:LT) (z13:LB) (z14:LLB):Option R:=
 w1 (z13.length:Int) (0:Int) z9 z10 z11 z12 z13 z14
def f40.p0_e0 {R:Type} (L N:Nat) (self40:Graph→Tree→Option (LB)) (k:LB→Option R) (z9:LLM) (z10:Int) (z11:Int) (z12:LT) (z13:LB) (z14:LLB):Option R:=
 f40.p0_e0' L N self40 k (fun s16 s17 s18 s19 s20 s21 s22 s23=>f40.l1 L N self40 (fun z24=>f40.p1_e2 L N self40 k z24) L s16 s17 s18 s19 s20 s21 s22 s23) z9 z10 z11 z12 z13 z14
def f40.b' {R:Type} (L N:Nat) (self40:Graph→Tree→Option (LB)) (k:LB→Option R) (w0:LT→Int→Int→LLM→Int→Int→LT→LB→LLB→Option R) (x0:Graph) (x1:Tree):Option R:=
 bif (decide (0≤(x0.moves.length:Int))&&decide ((x0.moves.length:Int)≤(lim:Int))) then
  w0 x1.parts (x1.parts.length:Int) (0:Int) x0.moves x1.op x1.n x1.parts (List.replicate (x0.moves.length:Int).toNat false) ([]:LLB)
 else none
def f40.b {R:Type} (L N:Nat) (self40:Graph→Tree→Option (LB)) (k:LB→Option R) (x0:Graph) (x1:Tree):Option R:=
 f40.b' L N self40 k (fun s0 s1 s2 s3 s4 s5 s6 s7 s8=>f40.l0 L N self40 (fun z9 z10 z11 z12 z13 z14=>f40.p0_e0 L N self40 k z9 z10 z11 z12 z13 z14) L s0 s1 s2 s3 s4 s5 s6 s7 s8) x0 x1
def f40 (L N:Nat):Nat→Graph→Tree→Option (LB)
 |0,_,_=>none
 |n+1,x0,x1=>f40.b L N (f40 L N n) some x0 x1
def f40.ent (L N m:Nat):=entDa [(.st 2),(.st 1)] (.one (.sl .bool)) fun d=>f40 L N m d.1 d.2.1
def Φ40s (L N m:Nat):Tells:=(addT (Φ39 L N) 40 (f40.ent L N m))
noncomputable def E40 (L N m:Nat):Env:={P:=Tryz.prog,ty:=tyOf,Φ:=Φ40s L N m,inl:=inlT,live:=lives,liveX:=livesX,L:=L,dp:=none,prom:=promT,heal:=healT,ren:=renT}
noncomputable def f40.c0:Code:=loopAt 0 (codeOf Tryz.f40)
def f40.X0_e0 {R:Type} (κ:KX R):=fun z9 z10 z11 z12 z13 z14=>κ (.exit 0) (f40.T0_e0 z9 z10 z11 z12 z13 z14) (f40.H0_e0 z9 z10 z11 z12 z13 z14)
def f40.R0 {R:Type} (rec:KT R):=fun s0 s1 s2 s3 s4 s5 s6 s7 s8=>rec (f40.T0 s0 s1 s2 s3 s4 s5 s6 s7 s8) (f40.H0 s0 s1 s2 s3 s4 s5 s6 s7 s8)
theorem f40.s0_eq {R:Type} (L N m:Nat) (κ:KX R) (rec:KT R) (s0:LT) (s1:Int) (s2:Int) (s3:LLM) (s4:Int) (s5:Int) (s6:LT) (s7:LB) (s8:LLB):
  evRd (E40 L N m) (evCallI (E40 L N m) 1 2000) 1000 40 110 0 f40.c0 κ rec (f40.T0 s0 s1 s2 s3 s4 s5 s6 s7 s8) (f40.H0 s0 s1 s2 s3 s4 s5 s6 s7 s8)
  =f40.s0 L N (f40 L N m) (f40.X0_e0 κ) (f40.R0 rec) s0 s1 s2 s3 s4 s5 s6 s7 s8:=by kernel_rfl
theorem f40.l0_eq {R:Type} (L N m:Nat) (κ:KX R):∀(n:Nat) (s0:LT) (s1:Int) (s2:Int) (s3:LLM) (s4:Int) (s5:Int) (s6:LT) (s7:LB) (s8:LLB),
  evLp (E40 L N m) (evCallI (E40 L N m) 1 2000) 1000 40 110 0 f40.c0 κ n (f40.T0 s0 s1 s2 s3 s4 s5 s6 s7 s8) (f40.H0 s0 s1 s2 s3 s4 s5 s6 s7 s8)
  =f40.l0 L N (f40 L N m) (f40.X0_e0 κ) n s0 s1 s2 s3 s4 s5 s6 s7 s8:=by
 intro n
 induction n with
 |zero=>intros;rfl
 |succ n ih=>
  intro s0 s1 s2 s3 s4 s5 s6 s7 s8
  rw [evLp_succ,f40.s0_eq]
  delta f40.R0
  simp only [ih]
  rfl
noncomputable def f40.c1:Code:=loopAt 2 (codeOf Tryz.f40)
noncomputable def f40.c2:Code:=loopAt 5 f40.c1
def f40.X2_e5 {R:Type} (κ:KX R):=fun z37 z38 z39 z40 z41 z42 z43 z44=>κ (.exit 5) (f40.T2_e5 z37 z38 z39 z40 z41 z42 z43 z44) (f40.H2_e5 z37 z38 z39 z40 z41 z42 z43 z44)
def f40.R2 {R:Type} (rec:KT R):=fun s25 s26 s27 s28 s29 s30 s31 s32 s33 s34 s35 s36=>rec (f40.T2 s25 s26 s27 s28 s29 s30 s31 s32 s33 s34 s35 s36) (f40.H2 s25 s26 s27 s28 s29 s30 s31 s32 s33 s34 s35 s36)
theorem f40.s2_eq {R:Type} (L N m:Nat) (κ:KX R) (rec:KT R) (s25:Int) (s26:Int) (s27:Int) (s28:LM) (s29:Int) (s30:Int) (s31:LLM) (s32:Int) (s33:Int) (s34:LT) (s35:LB) (s36:LLB):
  evRd (E40 L N m) (evCallI (E40 L N m) 1 2000) 1000 40 110 5 f40.c2 κ rec (f40.T2 s25 s26 s27 s28 s29 s30 s31 s32 s33 s34 s35 s36) (f40.H2 s25 s26 s27 s28 s29 s30 s31 s32 s33 s34 s35 s36)
  =f40.s2 L N (f40 L N m) (f40.X2_e5 κ) (f40.R2 rec) s25 s26 s27 s28 s29 s30 s31 s32 s33 s34 s35 s36:=by kernel_rfl
theorem f40.l2_eq {R:Type} (L N m:Nat) (κ:KX R):∀(n:Nat) (s25:Int) (s26:Int) (s27:Int) (s28:LM) (s29:Int) (s30:Int) (s31:LLM) (s32:Int) (s33:Int) (s34:LT) (s35:LB) (s36:LLB),
  evLp (E40 L N m) (evCallI (E40 L N m) 1 2000) 1000 40 110 5 f40.c2 κ n (f40.T2 s25 s26 s27 s28 s29 s30 s31 s32 s33 s34 s35 s36) (f40.H2 s25 s26 s27 s28 s29 s30 s31 s32 s33 s34 s35 s36)
  =f40.l2 L N (f40 L N m) (f40.X2_e5 κ) n s25 s26 s27 s28 s29 s30 s31 s32 s33 s34 s35 s36:=by
 intro n
 induction n with
 |zero=>intros;rfl
 |succ n ih=>
  intro s25 s26 s27 s28 s29 s30 s31 s32 s33 s34 s35 s36
  rw [evLp_succ,f40.s2_eq]
  delta f40.R2
  simp only [ih]
  rfl
def f40.X1_e2 {R:Type} (κ:KX R):=fun z24=>κ (.exit 2) (f40.T1_e2 z24) (f40.H1_e2 z24)
def f40.R1 {R:Type} (rec:KT R):=fun s16 s17 s18 s19 s20 s21 s22 s23=>rec (f40.T1 s16 s17 s18 s19 s20 s21 s22 s23) (f40.H1 s16 s17 s18 s19 s20 s21 s22 s23)
theorem f40.p2_e5_eq {R:Type} (L N m:Nat) (κ:KX R) (rec:KT R) (z37:Int) (z38:Int) (z39:LLM) (z40:Int) (z41:Int) (z42:LT) (z43:LB) (z44:LLB):
  (contAt (E40 L N m) (evCallI (E40 L N m) 1 2000) 1000 40 110 5 f40.c1 (rdK (E40 L N m) 1000 40 110 2 κ rec)) (.exit 5) (f40.T2_e5 z37 z38 z39 z40 z41 z42 z43 z44) (f40.H2_e5 z37 z38 z39 z40 z41 z42 z43 z44)
  =f40.p2_e5 L N (f40 L N m) (f40.X1_e2 κ) (f40.R1 rec) z37 z38 z39 z40 z41 z42 z43 z44:=by kernel_rfl
theorem f40.s1_eq {R:Type} (L N m:Nat) (κ:KX R) (rec:KT R) (s16:Int) (s17:Int) (s18:LLM) (s19:Int) (s20:Int) (s21:LT) (s22:LB) (s23:LLB):
  evRd (E40 L N m) (evCallI (E40 L N m) 1 2000) 1000 40 110 2 f40.c1 κ rec (f40.T1 s16 s17 s18 s19 s20 s21 s22 s23) (f40.H1 s16 s17 s18 s19 s20 s21 s22 s23)
  =f40.s1 L N (f40 L N m) (f40.X1_e2 κ) (f40.R1 rec) s16 s17 s18 s19 s20 s21 s22 s23:=by
 refine Eq.trans (b:=f40.s1' L N (f40 L N m) (f40.X1_e2 κ) (f40.R1 rec) (fun s25 s26 s27 s28 s29 s30 s31 s32 s33 s34 s35 s36=>evLp (E40 L N m) (evCallI (E40 L N m) 1 2000) 1000 40 110 5 f40.c2 (contAt (E40 L N m) (evCallI (E40 L N m) 1 2000) 1000 40 110 5 f40.c1 (rdK (E40 L N m) 1000 40 110 2 κ rec)) L (f40.T2 s25 s26 s27 s28 s29 s30 s31 s32 s33 s34 s35 s36) (f40.H2 s25 s26 s27 s28 s29 s30 s31 s32 s33 s34 s35 s36)) s16 s17 s18 s19 s20 s21 s22 s23) (by kernel_rfl) ?_
 unfold f40.s1
 simp only [f40.l2_eq]
 delta f40.X2_e5
 simp only [f40.p2_e5_eq]
theorem f40.l1_eq {R:Type} (L N m:Nat) (κ:KX R):∀(n:Nat) (s16:Int) (s17:Int) (s18:LLM) (s19:Int) (s20:Int) (s21:LT) (s22:LB) (s23:LLB),
  evLp (E40 L N m) (evCallI (E40 L N m) 1 2000) 1000 40 110 2 f40.c1 κ n (f40.T1 s16 s17 s18 s19 s20 s21 s22 s23) (f40.H1 s16 s17 s18 s19 s20 s21 s22 s23)
  =f40.l1 L N (f40 L N m) (f40.X1_e2 κ) n s16 s17 s18 s19 s20 s21 s22 s23:=by
 intro n
 induction n with
 |zero=>intros;rfl
 |succ n ih=>
  intro s16 s17 s18 s19 s20 s21 s22 s23
  rw [evLp_succ,f40.s1_eq]
  delta f40.R1
  simp only [ih]
  rfl
theorem f40.p1_e2_eq {R:Type} (L N m:Nat) (κ:AV→Option R) (z24:LB):
  (contAt (E40 L N m) (evCallI (E40 L N m) 1 2000) 1000 40 110 2 (codeOf Tryz.f40) (finK (E40 L N m) 1000 Tryz.f40 (finC (.one (.sl .bool)) κ))) (.exit 2) (f40.T1_e2 z24) (f40.H1_e2 z24)
  =f40.p1_e2 L N (f40 L N m) (fun a0=>κ (.tv (.sl .bool) a0)) z24:=by kernel_rfl
theorem f40.p0_e0_eq {R:Type} (L N m:Nat) (κ:AV→Option R) (z9:LLM) (z10:Int) (z11:Int) (z12:LT) (z13:LB) (z14:LLB):
  (contAt (E40 L N m) (evCallI (E40 L N m) 1 2000) 1000 40 110 0 (codeOf Tryz.f40) (finK (E40 L N m) 1000 Tryz.f40 (finC (.one (.sl .bool)) κ))) (.exit 0) (f40.T0_e0 z9 z10 z11 z12 z13 z14) (f40.H0_e0 z9 z10 z11 z12 z13 z14)
  =f40.p0_e0 L N (f40 L N m) (fun a0=>κ (.tv (.sl .bool) a0)) z9 z10 z11 z12 z13 z14:=by
 refine Eq.trans (b:=f40.p0_e0' L N (f40 L N m) (fun a0=>κ (.tv (.sl .bool) a0)) (fun s16 s17 s18 s19 s20 s21 s22 s23=>evLp (E40 L N m) (evCallI (E40 L N m) 1 2000) 1000 40 110 2 f40.c1 (contAt (E40 L N m) (evCallI (E40 L N m) 1 2000) 1000 40 110 2 (codeOf Tryz.f40) (finK (E40 L N m) 1000 Tryz.f40 (finC (.one (.sl .bool)) κ))) L (f40.T1 s16 s17 s18 s19 s20 s21 s22 s23) (f40.H1 s16 s17 s18 s19 s20 s21 s22 s23)) z9 z10 z11 z12 z13 z14) (by kernel_rfl) ?_
 unfold f40.p0_e0
 simp only [f40.l1_eq]
 delta f40.X1_e2
 simp only [f40.p1_e2_eq]
theorem f40.b_eq {R:Type} (L N m:Nat) (κ:AV→Option R) (x0:Graph) (x1:Tree):
  evBody (E40 L N m) (evCallI (E40 L N m) 1 2000) 1000 40 Tryz.f40 [(.tv (.st 2) x0),(.tv (.st 1) x1)] [] [] (finC (.one (.sl .bool)) κ)
  =f40.b L N (f40 L N m) (fun a0=>κ (.tv (.sl .bool) a0)) x0 x1:=by
 refine Eq.trans (b:=f40.b' L N (f40 L N m) (fun a0=>κ (.tv (.sl .bool) a0)) (fun s0 s1 s2 s3 s4 s5 s6 s7 s8=>evLp (E40 L N m) (evCallI (E40 L N m) 1 2000) 1000 40 110 0 f40.c0 (contAt (E40 L N m) (evCallI (E40 L N m) 1 2000) 1000 40 110 0 (codeOf Tryz.f40) (finK (E40 L N m) 1000 Tryz.f40 (finC (.one (.sl .bool)) κ))) L (f40.T0 s0 s1 s2 s3 s4 s5 s6 s7 s8) (f40.H0 s0 s1 s2 s3 s4 s5 s6 s7 s8)) x0 x1) (by kernel_rfl) ?_
 unfold f40.b
 simp only [f40.l0_eq]
 delta f40.X0_e0
 simp only [f40.p0_e0_eq]
theorem f40.ok (L N m:Nat) (hΦ:TellsOk Tryz.prog (Φ40s L N m)):EntOk Tryz.prog 40 (f40.ent L N (m+1)):=entDa_ok (E:=(E40 L N m)) (dep:=1000) (f:=Tryz.f40) (sound_of hΦ) okP (callI_sound (sound_of hΦ) okP 1 2000) rfl fun d _ hy=>(f40.b_eq L N m (unR (.one (.sl .bool))) d.1 d.2.1).trans (Eq.trans (b:=f40.b L N (f40 L N m) some d.1 d.2.1) (by kernel_rfl) hy)
theorem Φ40s_ok (L N:Nat):∀m,TellsOk Tryz.prog (Φ40s L N m):=by
 intro m
 induction m with
 |zero=>exact (addT_ok (Φ39_ok L N) (entDa_no fun _=>rfl))
 |succ m ih=>exact (addT_ok (Φ39_ok L N) (f40.ok L N m ih))
def Φ40 (L N:Nat):Tells:=(addT (Φ39 L N) 40 (f40.ent L N N))
theorem Φ40_ok (L N:Nat):TellsOk Tryz.prog (Φ40 L N):=Φ40s_ok L N N
def f16.s0' {R:Type} (L N:Nat) (k0_e0:LI→Option R) (rec0:LB→Int→Int→LI→Option R) (s14:LB) (s15:Int) (s16:Int) (s17:LI):Option R:=
 bif (decide (s16<s15)) then
  bif (decide (0≤s16)&&decide (s16<(s14.length:Int))) then
   bif (listAt s14 false s16.toNat) then
    bif (decide (s17.length+([s16]:LI).length≤lim)) then
     rec0 s14 s15 (wi (s16+(1:Int))) (s17++([s16]:LI))
    else none
   else rec0 s14 s15 (wi (s16+(1:Int))) s17
  else none
 else k0_e0 s17
def f16.s0 {R:Type} (L N:Nat) (k0_e0:LI→Option R) (rec0:LB→Int→Int→LI→Option R) (s14:LB) (s15:Int) (s16:Int) (s17:LI):Option R:=
 f16.s0' L N k0_e0 rec0 s14 s15 s16 s17
def f16.l0 {R:Type} (L N:Nat) (k0_e0:LI→Option R):Nat→LB→Int→Int→LI→Option R
 |0,_,_,_,_=>none
 |n+1,s14,s15,s16,s17=>f16.s0 L N k0_e0 (f16.l0 L N k0_e0 n) s14 s15 s16 s17
def f16.T0 (s14:LB) (s15:Int) (s16:Int) (s17:LI):T:=mkT 34 [(5,(.row 1008)),(20,(.tv (.sl .bool) s14)),(21,(.tv i64 s15)),(22,(.tv i64 s16))]
def f16.H0 (s14:LB) (s15:Int) (s16:Int) (s17:LI):H:=[(1008,(.row 3 i64 s17))]
def f16.T0_e0 (z18:LI):T:=mkT 34 [(5,(.row 1008))]
def f16.H0_e0 (z18:LI):H:=[(1008,(.row 3 i64 z18))]
def f16.p0_e0' {R:Type} (L N:Nat) (k:LI→Option R) (z18:LI):Option R:=
 k z18
def f16.p0_e0 {R:Type} (L N:Nat) (k:LI→Option R) (z18:LI):Option R:=
 f16.p0_e0' L N k z18
def f16.j0' {R:Type} (L N:Nat) (k:LI→Option R) (w0:LB→Int→Int→LI→Option R) (v8:LLM) (v9:Int) (v10:Int) (v11:LT) (v12:LI):Option R:=
 (f40 L N N (Graph.mk v8) (Tree.mk v9 v10 v11)).bind fun y13=>
 w0 y13 (y13.length:Int) (0:Int) v12
def f16.b' {R:Type} (L N:Nat) (k:LI→Option R) (w0:LB→Int→Int→LI→Option R) (x0:Graph) (x1:Tree):Option R:=
 (f6 L N (Graph.mk x0.moves)).bind fun y0=>
 bif (!y0) then
  k ([]:LI)
 else (f39 L N (Tree.mk x1.op x1.n x1.parts)).bind fun y1=>
 bif (!y1) then
  k ([]:LI)
 else f16.j0' L N k w0 x0.moves x1.op x1.n x1.parts ([]:LI)
def f16.b {R:Type} (L N:Nat) (k:LI→Option R) (x0:Graph) (x1:Tree):Option R:=
 f16.b' L N k (fun s14 s15 s16 s17=>f16.l0 L N (fun z18=>f16.p0_e0 L N k z18) L s14 s15 s16 s17) x0 x1
def f16 (L N:Nat) (x0:Graph) (x1:Tree):Option (LI):=f16.b L N some x0 x1
def f16.ent (L N:Nat) (args:List AV) (vw:View) (site:Nat):Ans:=match roD [(.st 2),(.st 1)] vw args with
 |some d=>⟨LI,f16 L N d.1 d.2.1,fun y=>(RN.av site .row (),[(site,some (mkO none 3 i64 y))],[])⟩
 |none=>Ans.no
noncomputable def E16 (L N:Nat):Env:={P:=Tryz.prog,ty:=tyOf,Φ:=(Φ40 L N),inl:=inlT,live:=lives,liveX:=livesX,L:=L,dp:=none,prom:=promT,heal:=healT,ren:=renT}
noncomputable def f16.c0:Code:=loopAt 0 (codeOf Tryz.f16)
def f16.X0_e0 {R:Type} (κ:KX R):=fun z18=>κ (.exit 0) (f16.T0_e0 z18) (f16.H0_e0 z18)
def f16.R0 {R:Type} (rec:KT R):=fun s14 s15 s16 s17=>rec (f16.T0 s14 s15 s16 s17) (f16.H0 s14 s15 s16 s17)
theorem f16.s0_eq {R:Type} (L N:Nat) (κ:KX R) (rec:KT R) (s14:LB) (s15:Int) (s16:Int) (s17:LI):
  evRd (E16 L N) (evCallI (E16 L N) 1 2000) 1000 16 34 0 f16.c0 κ rec (f16.T0 s14 s15 s16 s17) (f16.H0 s14 s15 s16 s17)
  =f16.s0 L N (f16.X0_e0 κ) (f16.R0 rec) s14 s15 s16 s17:=by kernel_rfl
theorem f16.l0_eq {R:Type} (L N:Nat) (κ:KX R):∀(n:Nat) (s14:LB) (s15:Int) (s16:Int) (s17:LI),
  evLp (E16 L N) (evCallI (E16 L N) 1 2000) 1000 16 34 0 f16.c0 κ n (f16.T0 s14 s15 s16 s17) (f16.H0 s14 s15 s16 s17)
  =f16.l0 L N (f16.X0_e0 κ) n s14 s15 s16 s17:=by
 intro n
 induction n with
 |zero=>intros;rfl
 |succ n ih=>
  intro s14 s15 s16 s17
  rw [evLp_succ,f16.s0_eq]
  delta f16.R0
  simp only [ih]
  rfl
theorem f16.p0_e0_eq {R:Type} (L N:Nat) (κ:RN.Den .row→List Int→Option R) (z18:LI):
  (contAt (E16 L N) (evCallI (E16 L N) 1 2000) 1000 16 34 0 (codeOf Tryz.f16) (finK (E16 L N) 1000 Tryz.f16 (finN .row none 3 i64 κ))) (.exit 0) (f16.T0_e0 z18) (f16.H0_e0 z18)
  =f16.p0_e0 L N (fun a0=>κ () a0) z18:=by kernel_rfl
theorem f16.b_eq {R:Type} (L N:Nat) (κ:RN.Den .row→List Int→Option R) (x0:Graph) (x1:Tree):
  evBody (E16 L N) (evCallI (E16 L N) 1 2000) 1000 16 Tryz.f16 [(.tv (.st 2) x0),(.tv (.st 1) x1)] [] [] (finN .row none 3 i64 κ)
  =f16.b L N (fun a0=>κ () a0) x0 x1:=by
 refine Eq.trans (b:=f16.b' L N (fun a0=>κ () a0) (fun s14 s15 s16 s17=>evLp (E16 L N) (evCallI (E16 L N) 1 2000) 1000 16 34 0 f16.c0 (contAt (E16 L N) (evCallI (E16 L N) 1 2000) 1000 16 34 0 (codeOf Tryz.f16) (finK (E16 L N) 1000 Tryz.f16 (finN .row none 3 i64 κ))) L (f16.T0 s14 s15 s16 s17) (f16.H0 s14 s15 s16 s17)) x0 x1) (by kernel_rfl) ?_
 unfold f16.b
 simp only [f16.l0_eq]
 delta f16.X0_e0
 simp only [f16.p0_e0_eq]
theorem f16.ok (L N:Nat) (hΦ:TellsOk Tryz.prog ((Φ40 L N))):EntOk Tryz.prog 16 (f16.ent L N):=by
 intro args vw site h
 unfold f16.ent
 split
 ·rename_i d ha
  intro y hy hs
  refine call_ron (y:=y) (dep:=1000) (E:=(E16 L N)) (ts:=[(.st 2),(.st 1)]) (rn:=.row) (q:=none) (el:=3) (ty:=i64) (d1:=()) (xs:=y) (κ:=(fun d xs=>some xs)) (sound_of hΦ) okP (callI_sound (sound_of hΦ) okP 1 2000) (f:=Tryz.f16) rfl hs ha ?_ (fun _ _ h=>by obtain rfl:=Option.some.inj h;exact ⟨rfl,rfl⟩) rfl site
  exact (f16.b_eq L N (fun d xs=>some xs) d.1 d.2.1).trans (Eq.trans (b:=f16.b L N some d.1 d.2.1) (by kernel_rfl) hy)
 ·intro y hy
  cases hy
def Φ16 (L N:Nat):Tells:=(addT (Φ40 L N) 16 (f16.ent L N))
theorem Φ16_ok (L N:Nat):TellsOk Tryz.prog (Φ16 L N):=addT_ok (Φ40_ok L N) (f16.ok L N (Φ40_ok L N))
def f17.s0' {R:Type} (L N:Nat) (k0_e0:Option R) (k0_r:Bool→Option R) (rec0:LI→Int→Int→Option R) (s0:LI) (s1:Int) (s2:Int):Option R:=
 bif (decide (s2<(s0.length:Int))) then
  bif (decide (0≤s2)&&decide (s2<(s0.length:Int))) then
   bif ((listAt s0 (0:Int) s2.toNat)==s1) then
    k0_r true
   else rec0 s0 s1 (wi (s2+(1:Int)))
  else none
 else k0_e0
def f17.s0 {R:Type} (L N:Nat) (k0_e0:Option R) (k0_r:Bool→Option R) (rec0:LI→Int→Int→Option R) (s0:LI) (s1:Int) (s2:Int):Option R:=
 f17.s0' L N k0_e0 k0_r rec0 s0 s1 s2
def f17.l0 {R:Type} (L N:Nat) (k0_e0:Option R) (k0_r:Bool→Option R):Nat→LI→Int→Int→Option R
 |0,_,_,_=>none
 |n+1,s0,s1,s2=>f17.s0 L N k0_e0 k0_r (f17.l0 L N k0_e0 k0_r n) s0 s1 s2
def f17.T0 (s0:LI) (s1:Int) (s2:Int):T:=mkT 18 [(0,(.tv (.sl i64) s0)),(1,(.tv i64 s1)),(5,(.tv i64 s2))]
def f17.H0 (s0:LI) (s1:Int) (s2:Int):H:=[]
def f17.T0_e0:T:=mkT 18 []
def f17.H0_e0:H:=[]
def f17.T0_r (z3:Bool):T:=mkT 18 [(4,(.tv .bool z3))]
def f17.H0_r (z3:Bool):H:=[]
def f17.p0_e0' {R:Type} (L N:Nat) (k:Bool→Option R):Option R:=
 k false
def f17.p0_e0 {R:Type} (L N:Nat) (k:Bool→Option R):Option R:=
 f17.p0_e0' L N k
def f17.p0_r' {R:Type} (L N:Nat) (k:Bool→Option R) (z3:Bool):Option R:=
 k z3
def f17.p0_r {R:Type} (L N:Nat) (k:Bool→Option R) (z3:Bool):Option R:=
 f17.p0_r' L N k z3
def f17.b' {R:Type} (L N:Nat) (k:Bool→Option R) (w0:LI→Int→Int→Option R) (x0:LI) (x1:Int):Option R:=
 w0 x0 x1 (0:Int)
def f17.b {R:Type} (L N:Nat) (k:Bool→Option R) (x0:LI) (x1:Int):Option R:=
 f17.b' L N k (fun s0 s1 s2=>f17.l0 L N (f17.p0_e0 L N k) (fun z3=>f17.p0_r L N k z3) L s0 s1 s2) x0 x1
def f17 (L N:Nat) (x0:LI) (x1:Int):Option (Bool):=f17.b L N some x0 x1
def f17.ent (L N:Nat):=entRo [(.sl i64),i64] (.one .bool) fun d=>f17 L N d.1 d.2.1
noncomputable def E17 (L N:Nat):Env:={P:=Tryz.prog,ty:=tyOf,Φ:=(Φ16 L N),inl:=inlT,live:=lives,liveX:=livesX,L:=L,dp:=none,prom:=promT,heal:=healT,ren:=renT}
noncomputable def f17.c0:Code:=loopAt 0 (codeOf Tryz.f17)
def f17.X0_e0 {R:Type} (κ:KX R):=κ (.exit 0) f17.T0_e0 f17.H0_e0
def f17.X0_r {R:Type} (κ:KX R):=fun z3=>κ .ret (f17.T0_r z3) (f17.H0_r z3)
def f17.R0 {R:Type} (rec:KT R):=fun s0 s1 s2=>rec (f17.T0 s0 s1 s2) (f17.H0 s0 s1 s2)
theorem f17.s0_eq {R:Type} (L N:Nat) (κ:KX R) (rec:KT R) (s0:LI) (s1:Int) (s2:Int):
  evRd (E17 L N) (evCallI (E17 L N) 1 2000) 1000 17 18 0 f17.c0 κ rec (f17.T0 s0 s1 s2) (f17.H0 s0 s1 s2)
  =f17.s0 L N (f17.X0_e0 κ) (f17.X0_r κ) (f17.R0 rec) s0 s1 s2:=by kernel_rfl
theorem f17.l0_eq {R:Type} (L N:Nat) (κ:KX R):∀(n:Nat) (s0:LI) (s1:Int) (s2:Int),
  evLp (E17 L N) (evCallI (E17 L N) 1 2000) 1000 17 18 0 f17.c0 κ n (f17.T0 s0 s1 s2) (f17.H0 s0 s1 s2)
  =f17.l0 L N (f17.X0_e0 κ) (f17.X0_r κ) n s0 s1 s2:=by
 intro n
 induction n with
 |zero=>intros;rfl
 |succ n ih=>
  intro s0 s1 s2
  rw [evLp_succ,f17.s0_eq]
  delta f17.R0
  simp only [ih]
  rfl
theorem f17.p0_e0_eq {R:Type} (L N:Nat) (κ:AV→Option R):
  (contAt (E17 L N) (evCallI (E17 L N) 1 2000) 1000 17 18 0 (codeOf Tryz.f17) (finK (E17 L N) 1000 Tryz.f17 (finC (.one .bool) κ))) (.exit 0) f17.T0_e0 f17.H0_e0
  =f17.p0_e0 L N (fun a0=>κ (.tv .bool a0)):=by kernel_rfl
theorem f17.p0_r_eq {R:Type} (L N:Nat) (κ:AV→Option R) (z3:Bool):
  (contAt (E17 L N) (evCallI (E17 L N) 1 2000) 1000 17 18 0 (codeOf Tryz.f17) (finK (E17 L N) 1000 Tryz.f17 (finC (.one .bool) κ))) .ret (f17.T0_r z3) (f17.H0_r z3)
  =f17.p0_r L N (fun a0=>κ (.tv .bool a0)) z3:=by kernel_rfl
theorem f17.b_eq {R:Type} (L N:Nat) (κ:AV→Option R) (x0:LI) (x1:Int):
  evBody (E17 L N) (evCallI (E17 L N) 1 2000) 1000 17 Tryz.f17 [(.tv (.sl i64) x0),(.tv i64 x1)] [] [] (finC (.one .bool) κ)
  =f17.b L N (fun a0=>κ (.tv .bool a0)) x0 x1:=by
 refine Eq.trans (b:=f17.b' L N (fun a0=>κ (.tv .bool a0)) (fun s0 s1 s2=>evLp (E17 L N) (evCallI (E17 L N) 1 2000) 1000 17 18 0 f17.c0 (contAt (E17 L N) (evCallI (E17 L N) 1 2000) 1000 17 18 0 (codeOf Tryz.f17) (finK (E17 L N) 1000 Tryz.f17 (finC (.one .bool) κ))) L (f17.T0 s0 s1 s2) (f17.H0 s0 s1 s2)) x0 x1) (by kernel_rfl) ?_
 unfold f17.b
 simp only [f17.l0_eq]
 delta f17.X0_e0 f17.X0_r
 simp only [f17.p0_e0_eq,f17.p0_r_eq]
theorem f17.ok (L N:Nat) (hΦ:TellsOk Tryz.prog ((Φ16 L N))):EntOk Tryz.prog 17 (f17.ent L N):=entRo_ok (E:=(E17 L N)) (dep:=1000) (f:=Tryz.f17) (sound_of hΦ) okP (callI_sound (sound_of hΦ) okP 1 2000) rfl rfl fun d _ hy=>(f17.b_eq L N (unR (.one .bool)) d.1 d.2.1).trans (Eq.trans (b:=f17.b L N some d.1 d.2.1) (by kernel_rfl) hy)
def Φ17 (L N:Nat):Tells:=(addT (Φ16 L N) 17 (f17.ent L N))
theorem Φ17_ok (L N:Nat):TellsOk Tryz.prog (Φ17 L N):=addT_ok (Φ16_ok L N) (f17.ok L N (Φ16_ok L N))
def f46.s1' {R:Type} (L N:Nat) (k1_e2:Int→LI→Int→Int→LLM→LI→Option R) (rec1:Int→LI→Int→Int→LM→Int→Int→LLM→LI→Option R) (s8:Int) (s9:LI) (s10:Int) (s11:Int) (s12:LM) (s13:Int) (s14:Int) (s15:LLM) (s16:LI):Option R:=
 bif (decide (s14<s13)) then
  bif (decide (0≤s14)&&decide (s14<(s12.length:Int))) then
   bif ((listAt s12 (Ty.dflt (.st 0)) s14.toNat).act==s8) then
    bif (decide (s16.length+([(listAt s12 (Ty.dflt (.st 0)) s14.toNat).to]:LI).length≤lim)) then
     rec1 s8 s9 s10 s11 s12 s13 (wi (s14+(1:Int))) s15 (s16++([(listAt s12 (Ty.dflt (.st 0)) s14.toNat).to]:LI))
    else none
   else rec1 s8 s9 s10 s11 s12 s13 (wi (s14+(1:Int))) s15 s16
  else none
 else k1_e2 s8 s9 s10 s11 s15 s16
def f46.s1 {R:Type} (L N:Nat) (k1_e2:Int→LI→Int→Int→LLM→LI→Option R) (rec1:Int→LI→Int→Int→LM→Int→Int→LLM→LI→Option R) (s8:Int) (s9:LI) (s10:Int) (s11:Int) (s12:LM) (s13:Int) (s14:Int) (s15:LLM) (s16:LI):Option R:=
 f46.s1' L N k1_e2 rec1 s8 s9 s10 s11 s12 s13 s14 s15 s16
def f46.l1 {R:Type} (L N:Nat) (k1_e2:Int→LI→Int→Int→LLM→LI→Option R):Nat→Int→LI→Int→Int→LM→Int→Int→LLM→LI→Option R
 |0,_,_,_,_,_,_,_,_,_=>none
 |n+1,s8,s9,s10,s11,s12,s13,s14,s15,s16=>f46.s1 L N k1_e2 (f46.l1 L N k1_e2 n) s8 s9 s10 s11 s12 s13 s14 s15 s16
def f46.T1 (s8:Int) (s9:LI) (s10:Int) (s11:Int) (s12:LM) (s13:Int) (s14:Int) (s15:LLM) (s16:LI):T:=mkT 43 [(2,(.tv i64 s8)),(3,(.ptr 1003 0)),(7,(.row 1012)),(13,(.tv (.sl i64) s9)),(14,(.tv i64 s10)),(15,(.tv i64 s11)),(23,(.tv (.sl (.st 0)) s12)),(24,(.tv i64 s13)),(25,(.tv i64 s14))]
def f46.H1 (s8:Int) (s9:LI) (s10:Int) (s11:Int) (s12:LM) (s13:Int) (s14:Int) (s15:LLM) (s16:LI):H:=[(1003,(.box [(.tv (.sl (.sl (.st 0))) s15)])),(1012,(.row 3 i64 s16))]
def f46.T1_e2 (z17:Int) (z18:LI) (z19:Int) (z20:Int) (z21:LLM) (z22:LI):T:=mkT 43 [(2,(.tv i64 z17)),(3,(.ptr 1003 0)),(7,(.row 1012)),(13,(.tv (.sl i64) z18)),(14,(.tv i64 z19)),(15,(.tv i64 z20))]
def f46.H1_e2 (z17:Int) (z18:LI) (z19:Int) (z20:Int) (z21:LLM) (z22:LI):H:=[(1003,(.box [(.tv (.sl (.sl (.st 0))) z21)])),(1012,(.row 3 i64 z22))]
def f46.p1_e2' {R:Type} (L N:Nat) (k0_e0:LLM→LI→Option R) (rec0:Int→LI→Int→Int→LLM→LI→Option R) (z17:Int) (z18:LI) (z19:Int) (z20:Int) (z21:LLM) (z22:LI):Option R:=
 rec0 z17 z18 z19 (wi (z20+(1:Int))) z21 z22
def f46.p1_e2 {R:Type} (L N:Nat) (k0_e0:LLM→LI→Option R) (rec0:Int→LI→Int→Int→LLM→LI→Option R) (z17:Int) (z18:LI) (z19:Int) (z20:Int) (z21:LLM) (z22:LI):Option R:=
 f46.p1_e2' L N k0_e0 rec0 z17 z18 z19 z20 z21 z22
def f46.s0' {R:Type} (L N:Nat) (k0_e0:LLM→LI→Option R) (rec0:Int→LI→Int→Int→LLM→LI→Option R) (w1:Int→LI→Int→Int→LM→Int→Int→LLM→LI→Option R) (s0:Int) (s1:LI) (s2:Int) (s3:Int) (s4:LLM) (s5:LI):Option R:=
 bif (decide (s3<s2)) then
  bif (decide (0≤s3)&&decide (s3<(s1.length:Int))) then
   bif (decide (0≤(listAt s1 (0:Int) s3.toNat))&&decide ((listAt s1 (0:Int) s3.toNat)<(s4.length:Int))) then
    w1 s0 s1 s2 s3 (listAt s4 [] (listAt s1 (0:Int) s3.toNat).toNat) ((listAt s4 [] (listAt s1 (0:Int) s3.toNat).toNat).length:Int) (0:Int) s4 s5
   else none
  else none
 else k0_e0 s4 s5
def f46.s0 {R:Type} (L N:Nat) (k0_e0:LLM→LI→Option R) (rec0:Int→LI→Int→Int→LLM→LI→Option R) (s0:Int) (s1:LI) (s2:Int) (s3:Int) (s4:LLM) (s5:LI):Option R:=
 f46.s0' L N k0_e0 rec0 (fun s8 s9 s10 s11 s12 s13 s14 s15 s16=>f46.l1 L N (fun z17 z18 z19 z20 z21 z22=>f46.p1_e2 L N k0_e0 rec0 z17 z18 z19 z20 z21 z22) L s8 s9 s10 s11 s12 s13 s14 s15 s16) s0 s1 s2 s3 s4 s5
def f46.l0 {R:Type} (L N:Nat) (k0_e0:LLM→LI→Option R):Nat→Int→LI→Int→Int→LLM→LI→Option R
 |0,_,_,_,_,_,_=>none
 |n+1,s0,s1,s2,s3,s4,s5=>f46.s0 L N k0_e0 (f46.l0 L N k0_e0 n) s0 s1 s2 s3 s4 s5
def f46.T0 (s0:Int) (s1:LI) (s2:Int) (s3:Int) (s4:LLM) (s5:LI):T:=mkT 43 [(2,(.tv i64 s0)),(3,(.ptr 1003 0)),(7,(.row 1012)),(13,(.tv (.sl i64) s1)),(14,(.tv i64 s2)),(15,(.tv i64 s3))]
def f46.H0 (s0:Int) (s1:LI) (s2:Int) (s3:Int) (s4:LLM) (s5:LI):H:=[(1003,(.box [(.tv (.sl (.sl (.st 0))) s4)])),(1012,(.row 3 i64 s5))]
def f46.T0_e0 (z6:LLM) (z7:LI):T:=mkT 43 [(3,(.ptr 1003 0)),(7,(.row 1012))]
def f46.H0_e0 (z6:LLM) (z7:LI):H:=[(1003,(.box [(.tv (.sl (.sl (.st 0))) z6)])),(1012,(.row 3 i64 z7))]
def f46.p0_e0' {R:Type} (L N:Nat) (k:LI→Option R) (z6:LLM) (z7:LI):Option R:=
 (f60 L N (Graph.mk z6) z7).bind fun y32=>
 k y32
def f46.p0_e0 {R:Type} (L N:Nat) (k:LI→Option R) (z6:LLM) (z7:LI):Option R:=
 f46.p0_e0' L N k z6 z7
def f46.b' {R:Type} (L N:Nat) (k:LI→Option R) (w0:Int→LI→Int→Int→LLM→LI→Option R) (x0:Graph) (x1:LI) (x2:Int):Option R:=
 w0 x2 x1 (x1.length:Int) (0:Int) x0.moves ([]:LI)
def f46.b {R:Type} (L N:Nat) (k:LI→Option R) (x0:Graph) (x1:LI) (x2:Int):Option R:=
 f46.b' L N k (fun s0 s1 s2 s3 s4 s5=>f46.l0 L N (fun z6 z7=>f46.p0_e0 L N k z6 z7) L s0 s1 s2 s3 s4 s5) x0 x1 x2
def f46 (L N:Nat) (x0:Graph) (x1:LI) (x2:Int):Option (LI):=f46.b L N some x0 x1 x2
def f46.ent (L N:Nat) (args:List AV) (vw:View) (site:Nat):Ans:=match roD [(.st 2),(.sl i64),i64] vw args with
 |some d=>⟨LI,f46 L N d.1 d.2.1 d.2.2.1,fun y=>(RN.av site .row (),[(site,some (mkO none 3 i64 y))],[])⟩
 |none=>Ans.no
noncomputable def E46 (L N:Nat):Env:={P:=Tryz.prog,ty:=tyOf,Φ:=(Φ17 L N),inl:=inlT,live:=lives,liveX:=livesX,L:=L,dp:=none,prom:=promT,heal:=healT,ren:=renT}
noncomputable def f46.c0:Code:=loopAt 0 (codeOf Tryz.f46)
noncomputable def f46.c1:Code:=loopAt 2 f46.c0
def f46.X1_e2 {R:Type} (κ:KX R):=fun z17 z18 z19 z20 z21 z22=>κ (.exit 2) (f46.T1_e2 z17 z18 z19 z20 z21 z22) (f46.H1_e2 z17 z18 z19 z20 z21 z22)
def f46.R1 {R:Type} (rec:KT R):=fun s8 s9 s10 s11 s12 s13 s14 s15 s16=>rec (f46.T1 s8 s9 s10 s11 s12 s13 s14 s15 s16) (f46.H1 s8 s9 s10 s11 s12 s13 s14 s15 s16)
theorem f46.s1_eq {R:Type} (L N:Nat) (κ:KX R) (rec:KT R) (s8:Int) (s9:LI) (s10:Int) (s11:Int) (s12:LM) (s13:Int) (s14:Int) (s15:LLM) (s16:LI):
  evRd (E46 L N) (evCallI (E46 L N) 1 2000) 1000 46 43 2 f46.c1 κ rec (f46.T1 s8 s9 s10 s11 s12 s13 s14 s15 s16) (f46.H1 s8 s9 s10 s11 s12 s13 s14 s15 s16)
  =f46.s1 L N (f46.X1_e2 κ) (f46.R1 rec) s8 s9 s10 s11 s12 s13 s14 s15 s16:=by kernel_rfl
theorem f46.l1_eq {R:Type} (L N:Nat) (κ:KX R):∀(n:Nat) (s8:Int) (s9:LI) (s10:Int) (s11:Int) (s12:LM) (s13:Int) (s14:Int) (s15:LLM) (s16:LI),
  evLp (E46 L N) (evCallI (E46 L N) 1 2000) 1000 46 43 2 f46.c1 κ n (f46.T1 s8 s9 s10 s11 s12 s13 s14 s15 s16) (f46.H1 s8 s9 s10 s11 s12 s13 s14 s15 s16)
  =f46.l1 L N (f46.X1_e2 κ) n s8 s9 s10 s11 s12 s13 s14 s15 s16:=by
 intro n
 induction n with
 |zero=>intros;rfl
 |succ n ih=>
  intro s8 s9 s10 s11 s12 s13 s14 s15 s16
  rw [evLp_succ,f46.s1_eq]
  delta f46.R1
  simp only [ih]
  rfl
def f46.X0_e0 {R:Type} (κ:KX R):=fun z6 z7=>κ (.exit 0) (f46.T0_e0 z6 z7) (f46.H0_e0 z6 z7)
def f46.R0 {R:Type} (rec:KT R):=fun s0 s1 s2 s3 s4 s5=>rec (f46.T0 s0 s1 s2 s3 s4 s5) (f46.H0 s0 s1 s2 s3 s4 s5)
theorem f46.p1_e2_eq {R:Type} (L N:Nat) (κ:KX R) (rec:KT R) (z17:Int) (z18:LI) (z19:Int) (z20:Int) (z21:LLM) (z22:LI):
  (contAt (E46 L N) (evCallI (E46 L N) 1 2000) 1000 46 43 2 f46.c0 (rdK (E46 L N) 1000 46 43 0 κ rec)) (.exit 2) (f46.T1_e2 z17 z18 z19 z20 z21 z22) (f46.H1_e2 z17 z18 z19 z20 z21 z22)
  =f46.p1_e2 L N (f46.X0_e0 κ) (f46.R0 rec) z17 z18 z19 z20 z21 z22:=by kernel_rfl
theorem f46.s0_eq {R:Type} (L N:Nat) (κ:KX R) (rec:KT R) (s0:Int) (s1:LI) (s2:Int) (s3:Int) (s4:LLM) (s5:LI):
  evRd (E46 L N) (evCallI (E46 L N) 1 2000) 1000 46 43 0 f46.c0 κ rec (f46.T0 s0 s1 s2 s3 s4 s5) (f46.H0 s0 s1 s2 s3 s4 s5)
  =f46.s0 L N (f46.X0_e0 κ) (f46.R0 rec) s0 s1 s2 s3 s4 s5:=by
 refine Eq.trans (b:=f46.s0' L N (f46.X0_e0 κ) (f46.R0 rec) (fun s8 s9 s10 s11 s12 s13 s14 s15 s16=>evLp (E46 L N) (evCallI (E46 L N) 1 2000) 1000 46 43 2 f46.c1 (contAt (E46 L N) (evCallI (E46 L N) 1 2000) 1000 46 43 2 f46.c0 (rdK (E46 L N) 1000 46 43 0 κ rec)) L (f46.T1 s8 s9 s10 s11 s12 s13 s14 s15 s16) (f46.H1 s8 s9 s10 s11 s12 s13 s14 s15 s16)) s0 s1 s2 s3 s4 s5) (by kernel_rfl) ?_
 unfold f46.s0
 simp only [f46.l1_eq]
 delta f46.X1_e2
 simp only [f46.p1_e2_eq]
theorem f46.l0_eq {R:Type} (L N:Nat) (κ:KX R):∀(n:Nat) (s0:Int) (s1:LI) (s2:Int) (s3:Int) (s4:LLM) (s5:LI),
  evLp (E46 L N) (evCallI (E46 L N) 1 2000) 1000 46 43 0 f46.c0 κ n (f46.T0 s0 s1 s2 s3 s4 s5) (f46.H0 s0 s1 s2 s3 s4 s5)
  =f46.l0 L N (f46.X0_e0 κ) n s0 s1 s2 s3 s4 s5:=by
 intro n
 induction n with
 |zero=>intros;rfl
 |succ n ih=>
  intro s0 s1 s2 s3 s4 s5
  rw [evLp_succ,f46.s0_eq]
  delta f46.R0
  simp only [ih]
  rfl
theorem f46.p0_e0_eq {R:Type} (L N:Nat) (κ:RN.Den .row→List Int→Option R) (z6:LLM) (z7:LI):
  (contAt (E46 L N) (evCallI (E46 L N) 1 2000) 1000 46 43 0 (codeOf Tryz.f46) (finK (E46 L N) 1000 Tryz.f46 (finN .row none 3 i64 κ))) (.exit 0) (f46.T0_e0 z6 z7) (f46.H0_e0 z6 z7)
  =f46.p0_e0 L N (fun a0=>κ () a0) z6 z7:=by kernel_rfl
theorem f46.b_eq {R:Type} (L N:Nat) (κ:RN.Den .row→List Int→Option R) (x0:Graph) (x1:LI) (x2:Int):
  evBody (E46 L N) (evCallI (E46 L N) 1 2000) 1000 46 Tryz.f46 [(.tv (.st 2) x0),(.tv (.sl i64) x1),(.tv i64 x2)] [] [] (finN .row none 3 i64 κ)
  =f46.b L N (fun a0=>κ () a0) x0 x1 x2:=by
 refine Eq.trans (b:=f46.b' L N (fun a0=>κ () a0) (fun s0 s1 s2 s3 s4 s5=>evLp (E46 L N) (evCallI (E46 L N) 1 2000) 1000 46 43 0 f46.c0 (contAt (E46 L N) (evCallI (E46 L N) 1 2000) 1000 46 43 0 (codeOf Tryz.f46) (finK (E46 L N) 1000 Tryz.f46 (finN .row none 3 i64 κ))) L (f46.T0 s0 s1 s2 s3 s4 s5) (f46.H0 s0 s1 s2 s3 s4 s5)) x0 x1 x2) (by kernel_rfl) ?_
 unfold f46.b
 simp only [f46.l0_eq]
 delta f46.X0_e0
 simp only [f46.p0_e0_eq]
theorem f46.ok (L N:Nat) (hΦ:TellsOk Tryz.prog ((Φ17 L N))):EntOk Tryz.prog 46 (f46.ent L N):=by
 intro args vw site h
 unfold f46.ent
 split
 ·rename_i d ha
  intro y hy hs
  refine call_ron (y:=y) (dep:=1000) (E:=(E46 L N)) (ts:=[(.st 2),(.sl i64),i64]) (rn:=.row) (q:=none) (el:=3) (ty:=i64) (d1:=()) (xs:=y) (κ:=(fun d xs=>some xs)) (sound_of hΦ) okP (callI_sound (sound_of hΦ) okP 1 2000) (f:=Tryz.f46) rfl hs ha ?_ (fun _ _ h=>by obtain rfl:=Option.some.inj h;exact ⟨rfl,rfl⟩) rfl site
  exact (f46.b_eq L N (fun d xs=>some xs) d.1 d.2.1 d.2.2.1).trans (Eq.trans (b:=f46.b L N some d.1 d.2.1 d.2.2.1) (by kernel_rfl) hy)
 ·intro y hy
  cases hy
def Φ46 (L N:Nat):Tells:=(addT (Φ17 L N) 46 (f46.ent L N))
theorem Φ46_ok (L N:Nat):TellsOk Tryz.prog (Φ46 L N):=addT_ok (Φ17_ok L N) (f46.ok L N (Φ17_ok L N))
def f42.s0' {R:Type} (L N:Nat) (k0_e0:LI→Option R) (rec0:LI→Int→Int→LLM→LI→Option R) (s1:LI) (s2:Int) (s3:Int) (s4:LLM) (s5:LI):Option R:=
 bif (decide (s3<s2)) then
  bif (decide (0≤s3)&&decide (s3<(s1.length:Int))) then
   (f46 L N (Graph.mk s4) s5 (listAt s1 (0:Int) s3.toNat)).bind fun y7=>
   rec0 s1 s2 (wi (s3+(1:Int))) s4 y7
  else none
 else k0_e0 s5
def f42.s0 {R:Type} (L N:Nat) (k0_e0:LI→Option R) (rec0:LI→Int→Int→LLM→LI→Option R) (s1:LI) (s2:Int) (s3:Int) (s4:LLM) (s5:LI):Option R:=
 f42.s0' L N k0_e0 rec0 s1 s2 s3 s4 s5
def f42.l0 {R:Type} (L N:Nat) (k0_e0:LI→Option R):Nat→LI→Int→Int→LLM→LI→Option R
 |0,_,_,_,_,_=>none
 |n+1,s1,s2,s3,s4,s5=>f42.s0 L N k0_e0 (f42.l0 L N k0_e0 n) s1 s2 s3 s4 s5
def f42.T0 (s1:LI) (s2:Int) (s3:Int) (s4:LLM) (s5:LI):T:=mkT 23 [(2,(.ptr 1002 0)),(5,(.row 1010)),(11,(.tv (.sl i64) s1)),(12,(.tv i64 s2)),(13,(.tv i64 s3))]
def f42.H0 (s1:LI) (s2:Int) (s3:Int) (s4:LLM) (s5:LI):H:=[(1002,(.box [(.tv (.sl (.sl (.st 0))) s4)])),(1010,(.row 3 i64 s5))]
def f42.T0_e0 (z6:LI):T:=mkT 23 [(5,(.row 1010))]
def f42.H0_e0 (z6:LI):H:=[(1010,(.row 3 i64 z6))]
def f42.p0_e0' {R:Type} (L N:Nat) (k:LI→Option R) (z6:LI):Option R:=
 k z6
def f42.p0_e0 {R:Type} (L N:Nat) (k:LI→Option R) (z6:LI):Option R:=
 f42.p0_e0' L N k z6
def f42.b' {R:Type} (L N:Nat) (k:LI→Option R) (w0:LI→Int→Int→LLM→LI→Option R) (x0:Graph) (x1:LI):Option R:=
 (f60 L N (Graph.mk x0.moves) ([(0:Int)]:LI)).bind fun y0=>
 w0 x1 (x1.length:Int) (0:Int) x0.moves y0
def f42.b {R:Type} (L N:Nat) (k:LI→Option R) (x0:Graph) (x1:LI):Option R:=
 f42.b' L N k (fun s1 s2 s3 s4 s5=>f42.l0 L N (fun z6=>f42.p0_e0 L N k z6) L s1 s2 s3 s4 s5) x0 x1
def f42 (L N:Nat) (x0:Graph) (x1:LI):Option (LI):=f42.b L N some x0 x1
def f42.ent (L N:Nat) (args:List AV) (vw:View) (site:Nat):Ans:=match roD [(.st 2),(.sl i64)] vw args with
 |some d=>⟨LI,f42 L N d.1 d.2.1,fun y=>(RN.av site .row (),[(site,some (mkO none 3 i64 y))],[])⟩
 |none=>Ans.no
noncomputable def E42 (L N:Nat):Env:={P:=Tryz.prog,ty:=tyOf,Φ:=(Φ46 L N),inl:=inlT,live:=lives,liveX:=livesX,L:=L,dp:=none,prom:=promT,heal:=healT,ren:=renT}
noncomputable def f42.c0:Code:=loopAt 0 (codeOf Tryz.f42)
def f42.X0_e0 {R:Type} (κ:KX R):=fun z6=>κ (.exit 0) (f42.T0_e0 z6) (f42.H0_e0 z6)
def f42.R0 {R:Type} (rec:KT R):=fun s1 s2 s3 s4 s5=>rec (f42.T0 s1 s2 s3 s4 s5) (f42.H0 s1 s2 s3 s4 s5)
theorem f42.s0_eq {R:Type} (L N:Nat) (κ:KX R) (rec:KT R) (s1:LI) (s2:Int) (s3:Int) (s4:LLM) (s5:LI):
  evRd (E42 L N) (evCallI (E42 L N) 1 2000) 1000 42 23 0 f42.c0 κ rec (f42.T0 s1 s2 s3 s4 s5) (f42.H0 s1 s2 s3 s4 s5)
  =f42.s0 L N (f42.X0_e0 κ) (f42.R0 rec) s1 s2 s3 s4 s5:=by kernel_rfl
theorem f42.l0_eq {R:Type} (L N:Nat) (κ:KX R):∀(n:Nat) (s1:LI) (s2:Int) (s3:Int) (s4:LLM) (s5:LI),
  evLp (E42 L N) (evCallI (E42 L N) 1 2000) 1000 42 23 0 f42.c0 κ n (f42.T0 s1 s2 s3 s4 s5) (f42.H0 s1 s2 s3 s4 s5)
  =f42.l0 L N (f42.X0_e0 κ) n s1 s2 s3 s4 s5:=by
 intro n
 induction n with
 |zero=>intros;rfl
 |succ n ih=>
  intro s1 s2 s3 s4 s5
  rw [evLp_succ,f42.s0_eq]
  delta f42.R0
  simp only [ih]
  rfl
theorem f42.p0_e0_eq {R:Type} (L N:Nat) (κ:RN.Den .row→List Int→Option R) (z6:LI):
  (contAt (E42 L N) (evCallI (E42 L N) 1 2000) 1000 42 23 0 (codeOf Tryz.f42) (finK (E42 L N) 1000 Tryz.f42 (finN .row none 3 i64 κ))) (.exit 0) (f42.T0_e0 z6) (f42.H0_e0 z6)
  =f42.p0_e0 L N (fun a0=>κ () a0) z6:=by kernel_rfl
theorem f42.b_eq {R:Type} (L N:Nat) (κ:RN.Den .row→List Int→Option R) (x0:Graph) (x1:LI):
  evBody (E42 L N) (evCallI (E42 L N) 1 2000) 1000 42 Tryz.f42 [(.tv (.st 2) x0),(.tv (.sl i64) x1)] [] [] (finN .row none 3 i64 κ)
  =f42.b L N (fun a0=>κ () a0) x0 x1:=by
 refine Eq.trans (b:=f42.b' L N (fun a0=>κ () a0) (fun s1 s2 s3 s4 s5=>evLp (E42 L N) (evCallI (E42 L N) 1 2000) 1000 42 23 0 f42.c0 (contAt (E42 L N) (evCallI (E42 L N) 1 2000) 1000 42 23 0 (codeOf Tryz.f42) (finK (E42 L N) 1000 Tryz.f42 (finN .row none 3 i64 κ))) L (f42.T0 s1 s2 s3 s4 s5) (f42.H0 s1 s2 s3 s4 s5)) x0 x1) (by kernel_rfl) ?_
 unfold f42.b
 simp only [f42.l0_eq]
 delta f42.X0_e0
 simp only [f42.p0_e0_eq]
theorem f42.ok (L N:Nat) (hΦ:TellsOk Tryz.prog ((Φ46 L N))):EntOk Tryz.prog 42 (f42.ent L N):=by
 intro args vw site h
 unfold f42.ent
 split
 ·rename_i d ha
  intro y hy hs
  refine call_ron (y:=y) (dep:=1000) (E:=(E42 L N)) (ts:=[(.st 2),(.sl i64)]) (rn:=.row) (q:=none) (el:=3) (ty:=i64) (d1:=()) (xs:=y) (κ:=(fun d xs=>some xs)) (sound_of hΦ) okP (callI_sound (sound_of hΦ) okP 1 2000) (f:=Tryz.f42) rfl hs ha ?_ (fun _ _ h=>by obtain rfl:=Option.some.inj h;exact ⟨rfl,rfl⟩) rfl site
  exact (f42.b_eq L N (fun d xs=>some xs) d.1 d.2.1).trans (Eq.trans (b:=f42.b L N some d.1 d.2.1) (by kernel_rfl) hy)
 ·intro y hy
  cases hy
def Φ42 (L N:Nat):Tells:=(addT (Φ46 L N) 42 (f42.ent L N))
theorem Φ42_ok (L N:Nat):TellsOk Tryz.prog (Φ42 L N):=addT_ok (Φ46_ok L N) (f42.ok L N (Φ46_ok L N))
def f43.s0' {R:Type} (L N:Nat) (k0_e0:ByteArray→Option R) (rec0:ByteArray→LI→Int→Int→Option R) (s0:ByteArray) (s1:LI) (s2:Int) (s3:Int):Option R:=
 bif (decide (s3<s2)) then
  bif (decide (0≤s3)&&decide (s3<(s1.length:Int))) then
   ((fitoa (listAt s1 (0:Int) s3.toNat))).bind fun y5=>
   bif (decide (y5.size+(ByteArray.mk #[32]).size≤4611686018427387904)) then
    bif (decide (s0.size+(y5++(ByteArray.mk #[32])).size≤4611686018427387904)) then
     rec0 (s0++(y5++(ByteArray.mk #[32]))) s1 s2 (wi (s3+(1:Int)))
    else none
   else none
  else none
 else k0_e0 s0
def f43.s0 {R:Type} (L N:Nat) (k0_e0:ByteArray→Option R) (rec0:ByteArray→LI→Int→Int→Option R) (s0:ByteArray) (s1:LI) (s2:Int) (s3:Int):Option R:=
 f43.s0' L N k0_e0 rec0 s0 s1 s2 s3
def f43.l0 {R:Type} (L N:Nat) (k0_e0:ByteArray→Option R):Nat→ByteArray→LI→Int→Int→Option R
 |0,_,_,_,_=>none
 |n+1,s0,s1,s2,s3=>f43.s0 L N k0_e0 (f43.l0 L N k0_e0 n) s0 s1 s2 s3
def f43.T0 (s0:ByteArray) (s1:LI) (s2:Int) (s3:Int):T:=mkT 20 [(3,(.tv .str s0)),(6,(.tv (.sl i64) s1)),(7,(.tv i64 s2)),(8,(.tv i64 s3))]
def f43.H0 (s0:ByteArray) (s1:LI) (s2:Int) (s3:Int):H:=[]
def f43.T0_e0 (z4:ByteArray):T:=mkT 20 [(3,(.tv .str z4))]
def f43.H0_e0 (z4:ByteArray):H:=[]
def f43.p0_e0' {R:Type} (L N:Nat) (k:ByteArray→Option R) (z4:ByteArray):Option R:=
 bif (decide (z4.size+(ByteArray.mk #[93]).size≤4611686018427387904)) then
  k (z4++(ByteArray.mk #[93]))
 else none
def f43.p0_e0 {R:Type} (L N:Nat) (k:ByteArray→Option R) (z4:ByteArray):Option R:=
 f43.p0_e0' L N k z4
def f43.b' {R:Type} (L N:Nat) (k:ByteArray→Option R) (w0:ByteArray→LI→Int→Int→Option R) (x0:LI):Option R:=
 w0 (ByteArray.mk #[91]) x0 (x0.length:Int) (0:Int)
def f43.b {R:Type} (L N:Nat) (k:ByteArray→Option R) (x0:LI):Option R:=
 f43.b' L N k (fun s0 s1 s2 s3=>f43.l0 L N (fun z4=>f43.p0_e0 L N k z4) L s0 s1 s2 s3) x0
def f43 (L N:Nat) (x0:LI):Option (ByteArray):=f43.b L N some x0
def f43.ent (L N:Nat):=entRo [(.sl i64)] (.one .str) fun d=>f43 L N d.1
noncomputable def E43 (L N:Nat):Env:={P:=Tryz.prog,ty:=tyOf,Φ:=(Φ42 L N),inl:=inlT,live:=lives,liveX:=livesX,L:=L,dp:=none,prom:=promT,heal:=healT,ren:=renT}
noncomputable def f43.c0:Code:=loopAt 0 (codeOf Tryz.f43)
def f43.X0_e0 {R:Type} (κ:KX R):=fun z4=>κ (.exit 0) (f43.T0_e0 z4) (f43.H0_e0 z4)
def f43.R0 {R:Type} (rec:KT R):=fun s0 s1 s2 s3=>rec (f43.T0 s0 s1 s2 s3) (f43.H0 s0 s1 s2 s3)
theorem f43.s0_eq {R:Type} (L N:Nat) (κ:KX R) (rec:KT R) (s0:ByteArray) (s1:LI) (s2:Int) (s3:Int):
  evRd (E43 L N) (evCallI (E43 L N) 1 2000) 1000 43 20 0 f43.c0 κ rec (f43.T0 s0 s1 s2 s3) (f43.H0 s0 s1 s2 s3)
  =f43.s0 L N (f43.X0_e0 κ) (f43.R0 rec) s0 s1 s2 s3:=by kernel_rfl
theorem f43.l0_eq {R:Type} (L N:Nat) (κ:KX R):∀(n:Nat) (s0:ByteArray) (s1:LI) (s2:Int) (s3:Int),
  evLp (E43 L N) (evCallI (E43 L N) 1 2000) 1000 43 20 0 f43.c0 κ n (f43.T0 s0 s1 s2 s3) (f43.H0 s0 s1 s2 s3)
  =f43.l0 L N (f43.X0_e0 κ) n s0 s1 s2 s3:=by
 intro n
 induction n with
 |zero=>intros;rfl
 |succ n ih=>
  intro s0 s1 s2 s3
  rw [evLp_succ,f43.s0_eq]
  delta f43.R0
  simp only [ih]
  rfl
theorem f43.p0_e0_eq {R:Type} (L N:Nat) (κ:AV→Option R) (z4:ByteArray):
  (contAt (E43 L N) (evCallI (E43 L N) 1 2000) 1000 43 20 0 (codeOf Tryz.f43) (finK (E43 L N) 1000 Tryz.f43 (finC (.one .str) κ))) (.exit 0) (f43.T0_e0 z4) (f43.H0_e0 z4)
  =f43.p0_e0 L N (fun a0=>κ (.tv .str a0)) z4:=by kernel_rfl
theorem f43.b_eq {R:Type} (L N:Nat) (κ:AV→Option R) (x0:LI):
  evBody (E43 L N) (evCallI (E43 L N) 1 2000) 1000 43 Tryz.f43 [(.tv (.sl i64) x0)] [] [] (finC (.one .str) κ)
  =f43.b L N (fun a0=>κ (.tv .str a0)) x0:=by
 refine Eq.trans (b:=f43.b' L N (fun a0=>κ (.tv .str a0)) (fun s0 s1 s2 s3=>evLp (E43 L N) (evCallI (E43 L N) 1 2000) 1000 43 20 0 f43.c0 (contAt (E43 L N) (evCallI (E43 L N) 1 2000) 1000 43 20 0 (codeOf Tryz.f43) (finK (E43 L N) 1000 Tryz.f43 (finC (.one .str) κ))) L (f43.T0 s0 s1 s2 s3) (f43.H0 s0 s1 s2 s3)) x0) (by kernel_rfl) ?_
 unfold f43.b
 simp only [f43.l0_eq]
 delta f43.X0_e0
 simp only [f43.p0_e0_eq]
theorem f43.ok (L N:Nat) (hΦ:TellsOk Tryz.prog ((Φ42 L N))):EntOk Tryz.prog 43 (f43.ent L N):=entRo_ok (E:=(E43 L N)) (dep:=1000) (f:=Tryz.f43) (sound_of hΦ) okP (callI_sound (sound_of hΦ) okP 1 2000) rfl rfl fun d _ hy=>(f43.b_eq L N (unR (.one .str)) d.1).trans (Eq.trans (b:=f43.b L N some d.1) (by kernel_rfl) hy)
def Φ43 (L N:Nat):Tells:=(addT (Φ42 L N) 43 (f43.ent L N))
theorem Φ43_ok (L N:Nat):TellsOk Tryz.prog (Φ43 L N):=addT_ok (Φ42_ok L N) (f43.ok L N (Φ42_ok L N))
def f45.s1' {R:Type} (L N:Nat) (k1_e2:LI→Int→Int→LLM→LI→Option R) (rec1:LI→Int→Int→LM→Int→Int→LLM→LI→Option R) (s6:LI) (s7:Int) (s8:Int) (s9:LM) (s10:Int) (s11:Int) (s12:LLM) (s13:LI):Option R:=
 bif (decide (s11<s10)) then
  bif (decide (0≤s11)&&decide (s11<(s9.length:Int))) then
   bif ((listAt s9 (Ty.dflt (.st 0)) s11.toNat).act !=(0:Int)) then
    bif (decide (s13.length+([(listAt s9 (Ty.dflt (.st 0)) s11.toNat).act]:LI).length≤lim)) then
     rec1 s6 s7 s8 s9 s10 (wi (s11+(1:Int))) s12 (s13++([(listAt s9 (Ty.dflt (.st 0)) s11.toNat).act]:LI))
    else none
   else rec1 s6 s7 s8 s9 s10 (wi (s11+(1:Int))) s12 s13
  else none
 else k1_e2 s6 s7 s8 s12 s13
def f45.s1 {R:Type} (L N:Nat) (k1_e2:LI→Int→Int→LLM→LI→Option R) (rec1:LI→Int→Int→LM→Int→Int→LLM→LI→Option R) (s6:LI) (s7:Int) (s8:Int) (s9:LM) (s10:Int) (s11:Int) (s12:LLM) (s13:LI):Option R:=
 f45.s1' L N k1_e2 rec1 s6 s7 s8 s9 s10 s11 s12 s13
def f45.l1 {R:Type} (L N:Nat) (k1_e2:LI→Int→Int→LLM→LI→Option R):Nat→LI→Int→Int→LM→Int→Int→LLM→LI→Option R
 |0,_,_,_,_,_,_,_,_=>none
 |n+1,s6,s7,s8,s9,s10,s11,s12,s13=>f45.s1 L N k1_e2 (f45.l1 L N k1_e2 n) s6 s7 s8 s9 s10 s11 s12 s13
def f45.T1 (s6:LI) (s7:Int) (s8:Int) (s9:LM) (s10:Int) (s11:Int) (s12:LLM) (s13:LI):T:=mkT 41 [(2,(.ptr 1002 0)),(5,(.row 1010)),(11,(.tv (.sl i64) s6)),(12,(.tv i64 s7)),(13,(.tv i64 s8)),(21,(.tv (.sl (.st 0)) s9)),(22,(.tv i64 s10)),(23,(.tv i64 s11))]
def f45.H1 (s6:LI) (s7:Int) (s8:Int) (s9:LM) (s10:Int) (s11:Int) (s12:LLM) (s13:LI):H:=[(1002,(.box [(.tv (.sl (.sl (.st 0))) s12)])),(1010,(.row 3 i64 s13))]
def f45.T1_e2 (z14:LI) (z15:Int) (z16:Int) (z17:LLM) (z18:LI):T:=mkT 41 [(2,(.ptr 1002 0)),(5,(.row 1010)),(11,(.tv (.sl i64) z14)),(12,(.tv i64 z15)),(13,(.tv i64 z16))]
def f45.H1_e2 (z14:LI) (z15:Int) (z16:Int) (z17:LLM) (z18:LI):H:=[(1002,(.box [(.tv (.sl (.sl (.st 0))) z17)])),(1010,(.row 3 i64 z18))]
def f45.p1_e2' {R:Type} (L N:Nat) (k0_e0:LI→Option R) (rec0:LI→Int→Int→LLM→LI→Option R) (z14:LI) (z15:Int) (z16:Int) (z17:LLM) (z18:LI):Option R:=
 rec0 z14 z15 (wi (z16+(1:Int))) z17 z18
def f45.p1_e2 {R:Type} (L N:Nat) (k0_e0:LI→Option R) (rec0:LI→Int→Int→LLM→LI→Option R) (z14:LI) (z15:Int) (z16:Int) (z17:LLM) (z18:LI):Option R:=
 f45.p1_e2' L N k0_e0 rec0 z14 z15 z16 z17 z18
def f45.s0' {R:Type} (L N:Nat) (k0_e0:LI→Option R) (rec0:LI→Int→Int→LLM→LI→Option R) (w1:LI→Int→Int→LM→Int→Int→LLM→LI→Option R) (s0:LI) (s1:Int) (s2:Int) (s3:LLM) (s4:LI):Option R:=
 bif (decide (s2<s1)) then
  bif (decide (0≤s2)&&decide (s2<(s0.length:Int))) then
   bif (decide (0≤(listAt s0 (0:Int) s2.toNat))&&decide ((listAt s0 (0:Int) s2.toNat)<(s3.length:Int))) then
    w1 s0 s1 s2 (listAt s3 [] (listAt s0 (0:Int) s2.toNat).toNat) ((listAt s3 [] (listAt s0 (0:Int) s2.toNat).toNat).length:Int) (0:Int) s3 s4
   else none
  else none
 else k0_e0 s4
def f45.s0 {R:Type} (L N:Nat) (k0_e0:LI→Option R) (rec0:LI→Int→Int→LLM→LI→Option R) (s0:LI) (s1:Int) (s2:Int) (s3:LLM) (s4:LI):Option R:=
 f45.s0' L N k0_e0 rec0 (fun s6 s7 s8 s9 s10 s11 s12 s13=>f45.l1 L N (fun z14 z15 z16 z17 z18=>f45.p1_e2 L N k0_e0 rec0 z14 z15 z16 z17 z18) L s6 s7 s8 s9 s10 s11 s12 s13) s0 s1 s2 s3 s4
def f45.l0 {R:Type} (L N:Nat) (k0_e0:LI→Option R):Nat→LI→Int→Int→LLM→LI→Option R
 |0,_,_,_,_,_=>none
 |n+1,s0,s1,s2,s3,s4=>f45.s0 L N k0_e0 (f45.l0 L N k0_e0 n) s0 s1 s2 s3 s4
def f45.T0 (s0:LI) (s1:Int) (s2:Int) (s3:LLM) (s4:LI):T:=mkT 41 [(2,(.ptr 1002 0)),(5,(.row 1010)),(11,(.tv (.sl i64) s0)),(12,(.tv i64 s1)),(13,(.tv i64 s2))]
def f45.H0 (s0:LI) (s1:Int) (s2:Int) (s3:LLM) (s4:LI):H:=[(1002,(.box [(.tv (.sl (.sl (.st 0))) s3)])),(1010,(.row 3 i64 s4))]
def f45.T0_e0 (z5:LI):T:=mkT 41 [(5,(.row 1010))]
def f45.H0_e0 (z5:LI):H:=[(1010,(.row 3 i64 z5))]
def f45.p0_e0' {R:Type} (L N:Nat) (k:LI→Option R) (z5:LI):Option R:=
 ((fsort z5)).bind fun y27=>
 ((fsort (sortI z5))).bind fun y28=>
 k (Go.Lib.compact (sortI z5))
def f45.p0_e0 {R:Type} (L N:Nat) (k:LI→Option R) (z5:LI):Option R:=
 f45.p0_e0' L N k z5
def f45.b' {R:Type} (L N:Nat) (k:LI→Option R) (w0:LI→Int→Int→LLM→LI→Option R) (x0:Graph) (x1:LI):Option R:=
 w0 x1 (x1.length:Int) (0:Int) x0.moves ([]:LI)
def f45.b {R:Type} (L N:Nat) (k:LI→Option R) (x0:Graph) (x1:LI):Option R:=
 f45.b' L N k (fun s0 s1 s2 s3 s4=>f45.l0 L N (fun z5=>f45.p0_e0 L N k z5) L s0 s1 s2 s3 s4) x0 x1
def f45 (L N:Nat) (x0:Graph) (x1:LI):Option (LI):=f45.b L N some x0 x1
def f45.ent (L N:Nat):=entDa [(.st 2),(.sl i64)] (.one (.sl i64)) fun d=>f45 L N d.1 d.2.1
noncomputable def E45 (L N:Nat):Env:={P:=Tryz.prog,ty:=tyOf,Φ:=(Φ43 L N),inl:=inlT,live:=lives,liveX:=livesX,L:=L,dp:=none,prom:=promT,heal:=healT,ren:=renT}
noncomputable def f45.c0:Code:=loopAt 0 (codeOf Tryz.f45)
noncomputable def f45.c1:Code:=loopAt 2 f45.c0
def f45.X1_e2 {R:Type} (κ:KX R):=fun z14 z15 z16 z17 z18=>κ (.exit 2) (f45.T1_e2 z14 z15 z16 z17 z18) (f45.H1_e2 z14 z15 z16 z17 z18)
def f45.R1 {R:Type} (rec:KT R):=fun s6 s7 s8 s9 s10 s11 s12 s13=>rec (f45.T1 s6 s7 s8 s9 s10 s11 s12 s13) (f45.H1 s6 s7 s8 s9 s10 s11 s12 s13)
theorem f45.s1_eq {R:Type} (L N:Nat) (κ:KX R) (rec:KT R) (s6:LI) (s7:Int) (s8:Int) (s9:LM) (s10:Int) (s11:Int) (s12:LLM) (s13:LI):
  evRd (E45 L N) (evCallI (E45 L N) 1 2000) 1000 45 41 2 f45.c1 κ rec (f45.T1 s6 s7 s8 s9 s10 s11 s12 s13) (f45.H1 s6 s7 s8 s9 s10 s11 s12 s13)
  =f45.s1 L N (f45.X1_e2 κ) (f45.R1 rec) s6 s7 s8 s9 s10 s11 s12 s13:=by kernel_rfl
theorem f45.l1_eq {R:Type} (L N:Nat) (κ:KX R):∀(n:Nat) (s6:LI) (s7:Int) (s8:Int) (s9:LM) (s10:Int) (s11:Int) (s12:LLM) (s13:LI),
  evLp (E45 L N) (evCallI (E45 L N) 1 2000) 1000 45 41 2 f45.c1 κ n (f45.T1 s6 s7 s8 s9 s10 s11 s12 s13) (f45.H1 s6 s7 s8 s9 s10 s11 s12 s13)
  =f45.l1 L N (f45.X1_e2 κ) n s6 s7 s8 s9 s10 s11 s12 s13:=by
 intro n
 induction n with
 |zero=>intros;rfl
 |succ n ih=>
  intro s6 s7 s8 s9 s10 s11 s12 s13
  rw [evLp_succ,f45.s1_eq]
  delta f45.R1
  simp only [ih]
  rfl
def f45.X0_e0 {R:Type} (κ:KX R):=fun z5=>κ (.exit 0) (f45.T0_e0 z5) (f45.H0_e0 z5)
def f45.R0 {R:Type} (rec:KT R):=fun s0 s1 s2 s3 s4=>rec (f45.T0 s0 s1 s2 s3 s4) (f45.H0 s0 s1 s2 s3 s4)
theorem f45.p1_e2_eq {R:Type} (L N:Nat) (κ:KX R) (rec:KT R) (z14:LI) (z15:Int) (z16:Int) (z17:LLM) (z18:LI):
  (contAt (E45 L N) (evCallI (E45 L N) 1 2000) 1000 45 41 2 f45.c0 (rdK (E45 L N) 1000 45 41 0 κ rec)) (.exit 2) (f45.T1_e2 z14 z15 z16 z17 z18) (f45.H1_e2 z14 z15 z16 z17 z18)
  =f45.p1_e2 L N (f45.X0_e0 κ) (f45.R0 rec) z14 z15 z16 z17 z18:=by kernel_rfl
theorem f45.s0_eq {R:Type} (L N:Nat) (κ:KX R) (rec:KT R) (s0:LI) (s1:Int) (s2:Int) (s3:LLM) (s4:LI):
  evRd (E45 L N) (evCallI (E45 L N) 1 2000) 1000 45 41 0 f45.c0 κ rec (f45.T0 s0 s1 s2 s3 s4) (f45.H0 s0 s1 s2 s3 s4)
  =f45.s0 L N (f45.X0_e0 κ) (f45.R0 rec) s0 s1 s2 s3 s4:=by
 refine Eq.trans (b:=f45.s0' L N (f45.X0_e0 κ) (f45.R0 rec) (fun s6 s7 s8 s9 s10 s11 s12 s13=>evLp (E45 L N) (evCallI (E45 L N) 1 2000) 1000 45 41 2 f45.c1 (contAt (E45 L N) (evCallI (E45 L N) 1 2000) 1000 45 41 2 f45.c0 (rdK (E45 L N) 1000 45 41 0 κ rec)) L (f45.T1 s6 s7 s8 s9 s10 s11 s12 s13) (f45.H1 s6 s7 s8 s9 s10 s11 s12 s13)) s0 s1 s2 s3 s4) (by kernel_rfl) ?_
 unfold f45.s0
 simp only [f45.l1_eq]
 delta f45.X1_e2
 simp only [f45.p1_e2_eq]
theorem f45.l0_eq {R:Type} (L N:Nat) (κ:KX R):∀(n:Nat) (s0:LI) (s1:Int) (s2:Int) (s3:LLM) (s4:LI),
  evLp (E45 L N) (evCallI (E45 L N) 1 2000) 1000 45 41 0 f45.c0 κ n (f45.T0 s0 s1 s2 s3 s4) (f45.H0 s0 s1 s2 s3 s4)
  =f45.l0 L N (f45.X0_e0 κ) n s0 s1 s2 s3 s4:=by
 intro n
 induction n with
 |zero=>intros;rfl
 |succ n ih=>
  intro s0 s1 s2 s3 s4
  rw [evLp_succ,f45.s0_eq]
  delta f45.R0
  simp only [ih]
  rfl
theorem f45.p0_e0_eq {R:Type} (L N:Nat) (κ:AV→Option R) (z5:LI):
  (contAt (E45 L N) (evCallI (E45 L N) 1 2000) 1000 45 41 0 (codeOf Tryz.f45) (finK (E45 L N) 1000 Tryz.f45 (finC (.one (.sl i64)) κ))) (.exit 0) (f45.T0_e0 z5) (f45.H0_e0 z5)
  =f45.p0_e0 L N (fun a0=>κ (.tv (.sl i64) a0)) z5:=by kernel_rfl
theorem f45.b_eq {R:Type} (L N:Nat) (κ:AV→Option R) (x0:Graph) (x1:LI):
  evBody (E45 L N) (evCallI (E45 L N) 1 2000) 1000 45 Tryz.f45 [(.tv (.st 2) x0),(.tv (.sl i64) x1)] [] [] (finC (.one (.sl i64)) κ)
  =f45.b L N (fun a0=>κ (.tv (.sl i64) a0)) x0 x1:=by
 refine Eq.trans (b:=f45.b' L N (fun a0=>κ (.tv (.sl i64) a0)) (fun s0 s1 s2 s3 s4=>evLp (E45 L N) (evCallI (E45 L N) 1 2000) 1000 45 41 0 f45.c0 (contAt (E45 L N) (evCallI (E45 L N) 1 2000) 1000 45 41 0 (codeOf Tryz.f45) (finK (E45 L N) 1000 Tryz.f45 (finC (.one (.sl i64)) κ))) L (f45.T0 s0 s1 s2 s3 s4) (f45.H0 s0 s1 s2 s3 s4)) x0 x1) (by kernel_rfl) ?_
 unfold f45.b
 simp only [f45.l0_eq]
 delta f45.X0_e0
 simp only [f45.p0_e0_eq]
theorem f45.ok (L N:Nat) (hΦ:TellsOk Tryz.prog ((Φ43 L N))):EntOk Tryz.prog 45 (f45.ent L N):=entDa_ok (E:=(E45 L N)) (dep:=1000) (f:=Tryz.f45) (sound_of hΦ) okP (callI_sound (sound_of hΦ) okP 1 2000) rfl fun d _ hy=>(f45.b_eq L N (unR (.one (.sl i64))) d.1 d.2.1).trans (Eq.trans (b:=f45.b L N some d.1 d.2.1) (by kernel_rfl) hy)
def Φ45 (L N:Nat):Tells:=(addT (Φ43 L N) 45 (f45.ent L N))
theorem Φ45_ok (L N:Nat):TellsOk Tryz.prog (Φ45 L N):=addT_ok (Φ43_ok L N) (f45.ok L N (Φ43_ok L N))
def f44_1.s0' {R:Type} (L N:Nat) (k0_e0:LI→LLI→Option R) (rec0:LI→LLM→LI→LI→Int→Int→LLI→Option R) (s1:LI) (s2:LLM) (s3:LI) (s4:LI) (s5:Int) (s6:Int) (s7:LLI):Option R:=
 bif (decide (s6<s5)) then
  bif (decide (0≤s6)&&decide (s6<(s4.length:Int))) then
   (f46 L N (Graph.mk s2) s1 (listAt s4 (0:Int) s6.toNat)).bind fun y10=>
   bif (decide (s7.length+([y10]:LLI).length≤lim)) then
    rec0 s1 s2 s3 s4 s5 (wi (s6+(1:Int))) (s7++([y10]:LLI))
   else none
  else none
 else k0_e0 s3 s7
def f44_1.s0 {R:Type} (L N:Nat) (k0_e0:LI→LLI→Option R) (rec0:LI→LLM→LI→LI→Int→Int→LLI→Option R) (s1:LI) (s2:LLM) (s3:LI) (s4:LI) (s5:Int) (s6:Int) (s7:LLI):Option R:=
 f44_1.s0' L N k0_e0 rec0 s1 s2 s3 s4 s5 s6 s7
def f44_1.l0 {R:Type} (L N:Nat) (k0_e0:LI→LLI→Option R):Nat→LI→LLM→LI→LI→Int→Int→LLI→Option R
 |0,_,_,_,_,_,_,_=>none
 |n+1,s1,s2,s3,s4,s5,s6,s7=>f44_1.s0 L N k0_e0 (f44_1.l0 L N k0_e0 n) s1 s2 s3 s4 s5 s6 s7
def f44_1.T0 (s1:LI) (s2:LLM) (s3:LI) (s4:LI) (s5:Int) (s6:Int) (s7:LLI):T:=mkT 30 [(0,(.tv (.sl i64) s1)),(1,(.imp (.sl (.sl (.st 0))) s2 0)),(6,(.tv (.sl i64) s3)),(7,(.row 1013)),(14,(.tv (.sl i64) s4)),(15,(.tv i64 s5)),(16,(.tv i64 s6))]
def f44_1.H0 (s1:LI) (s2:LLM) (s3:LI) (s4:LI) (s5:Int) (s6:Int) (s7:LLI):H:=[(1013,(.row 22 (.sl i64) s7))]
def f44_1.T0_e0 (z8:LI) (z9:LLI):T:=mkT 30 [(6,(.tv (.sl i64) z8)),(7,(.row 1013))]
def f44_1.H0_e0 (z8:LI) (z9:LLI):H:=[(1013,(.row 22 (.sl i64) z9))]
def f44_1.p0_e0' {R:Type} (L N:Nat) (k:LI→LLI→Bool→Option R) (z8:LI) (z9:LLI):Option R:=
 k z8 z9 true
def f44_1.p0_e0 {R:Type} (L N:Nat) (k:LI→LLI→Bool→Option R) (z8:LI) (z9:LLI):Option R:=
 f44_1.p0_e0' L N k z8 z9
def f44_1.b' {R:Type} (L N:Nat) (k:LI→LLI→Bool→Option R) (w0:LI→LLM→LI→LI→Int→Int→LLI→Option R) (x0:LI) (x1:LLM):Option R:=
 (f45 L N (Graph.mk x1) x0).bind fun y0=>
 w0 x0 x1 y0 y0 (y0.length:Int) (0:Int) ([]:LLI)
def f44_1.b {R:Type} (L N:Nat) (k:LI→LLI→Bool→Option R) (x0:LI) (x1:LLM):Option R:=
 f44_1.b' L N k (fun s1 s2 s3 s4 s5 s6 s7=>f44_1.l0 L N (fun z8 z9=>f44_1.p0_e0 L N k z8 z9) L s1 s2 s3 s4 s5 s6 s7) x0 x1
def f44_1 (L N:Nat) (x0:LI) (x1:LLM):Option (LI×LLI×Bool):=f44_1.b L N (fun a0 a1 a2=>some (a0,a1,a2)) x0 x1
def f44_1.ent (L N:Nat):=entDf [(.dat (.sl i64)),(.imp (.sl (.sl (.st 0))) 0)] (.many [(.sl i64),(.sl (.sl i64)),.bool]) fun d=>f44_1 L N d.1 d.2.1
noncomputable def E44_1 (L N:Nat):Env:={P:=Tryz.prog,ty:=tyOf,Φ:=(Φ45 L N),inl:=inlT,live:=lives,liveX:=livesX,L:=L,dp:=none,prom:=promT,heal:=healT,ren:=renT}
noncomputable def f44_1.c0:Code:=loopAt 0 (codeOf Tryz.f44)
def f44_1.X0_e0 {R:Type} (κ:KX R):=fun z8 z9=>κ (.exit 0) (f44_1.T0_e0 z8 z9) (f44_1.H0_e0 z8 z9)
def f44_1.R0 {R:Type} (rec:KT R):=fun s1 s2 s3 s4 s5 s6 s7=>rec (f44_1.T0 s1 s2 s3 s4 s5 s6 s7) (f44_1.H0 s1 s2 s3 s4 s5 s6 s7)
theorem f44_1.s0_eq {R:Type} (L N:Nat) (κ:KX R) (rec:KT R) (s1:LI) (s2:LLM) (s3:LI) (s4:LI) (s5:Int) (s6:Int) (s7:LLI):
  evRd (E44_1 L N) (evCallI (E44_1 L N) 1 2000) 1000 44 30 0 f44_1.c0 κ rec (f44_1.T0 s1 s2 s3 s4 s5 s6 s7) (f44_1.H0 s1 s2 s3 s4 s5 s6 s7)
  =f44_1.s0 L N (f44_1.X0_e0 κ) (f44_1.R0 rec) s1 s2 s3 s4 s5 s6 s7:=by kernel_rfl
theorem f44_1.l0_eq {R:Type} (L N:Nat) (κ:KX R):∀(n:Nat) (s1:LI) (s2:LLM) (s3:LI) (s4:LI) (s5:Int) (s6:Int) (s7:LLI),
  evLp (E44_1 L N) (evCallI (E44_1 L N) 1 2000) 1000 44 30 0 f44_1.c0 κ n (f44_1.T0 s1 s2 s3 s4 s5 s6 s7) (f44_1.H0 s1 s2 s3 s4 s5 s6 s7)
  =f44_1.l0 L N (f44_1.X0_e0 κ) n s1 s2 s3 s4 s5 s6 s7:=by
 intro n
 induction n with
 |zero=>intros;rfl
 |succ n ih=>
  intro s1 s2 s3 s4 s5 s6 s7
  rw [evLp_succ,f44_1.s0_eq]
  delta f44_1.R0
  simp only [ih]
  rfl
theorem f44_1.p0_e0_eq {R:Type} (L N:Nat) (κ:AV→Option R) (z8:LI) (z9:LLI):
  (contAt (E44_1 L N) (evCallI (E44_1 L N) 1 2000) 1000 44 30 0 (codeOf Tryz.f44) (finK (E44_1 L N) 1000 Tryz.f44 (finC (.many [(.sl i64),(.sl (.sl i64)),.bool]) κ))) (.exit 0) (f44_1.T0_e0 z8 z9) (f44_1.H0_e0 z8 z9)
  =f44_1.p0_e0 L N (fun a0 a1 a2=>κ (.tup [(.tv (.sl i64) a0),(.tv (.sl (.sl i64)) a1),(.tv .bool a2)])) z8 z9:=by kernel_rfl
theorem f44_1.b_eq {R:Type} (L N:Nat) (κ:AV→Option R) (x0:LI) (x1:LLM):
  evBody (E44_1 L N) (evCallI (E44_1 L N) 1 2000) 1000 44 Tryz.f44 [(.tv (.sl i64) x0),(.imp (.sl (.sl (.st 0))) x1 0)] [] [] (finC (.many [(.sl i64),(.sl (.sl i64)),.bool]) κ)
  =f44_1.b L N (fun a0 a1 a2=>κ (.tup [(.tv (.sl i64) a0),(.tv (.sl (.sl i64)) a1),(.tv .bool a2)])) x0 x1:=by
 refine Eq.trans (b:=f44_1.b' L N (fun a0 a1 a2=>κ (.tup [(.tv (.sl i64) a0),(.tv (.sl (.sl i64)) a1),(.tv .bool a2)])) (fun s1 s2 s3 s4 s5 s6 s7=>evLp (E44_1 L N) (evCallI (E44_1 L N) 1 2000) 1000 44 30 0 f44_1.c0 (contAt (E44_1 L N) (evCallI (E44_1 L N) 1 2000) 1000 44 30 0 (codeOf Tryz.f44) (finK (E44_1 L N) 1000 Tryz.f44 (finC (.many [(.sl i64),(.sl (.sl i64)),.bool]) κ))) L (f44_1.T0 s1 s2 s3 s4 s5 s6 s7) (f44_1.H0 s1 s2 s3 s4 s5 s6 s7)) x0 x1) (by kernel_rfl) ?_
 unfold f44_1.b
 simp only [f44_1.l0_eq]
 delta f44_1.X0_e0
 simp only [f44_1.p0_e0_eq]
theorem f44_1.ok (L N:Nat) (hΦ:TellsOk Tryz.prog ((Φ45 L N))):EntOkO Tryz.prog 44 (f44_1.ent L N):=entDf_ok (E:=(E44_1 L N)) (dep:=1000) (f:=Tryz.f44) (sound_of hΦ) okP (callI_sound (sound_of hΦ) okP 1 2000) rfl fun d _ hy=>(f44_1.b_eq L N (unR (.many [(.sl i64),(.sl (.sl i64)),.bool])) d.1 d.2.1).trans (Eq.trans (b:=f44_1.b L N (fun a0 a1 a2=>some (a0,a1,a2)) d.1 d.2.1) (by kernel_rfl) hy)
def Φ44_1 (L N:Nat):Tells:=(addO (Φ45 L N) 44 (f44_1.ent L N))
theorem Φ44_1_ok (L N:Nat):TellsOk Tryz.prog (Φ44_1 L N):=addO_ok (Φ45_ok L N) (f44_1.ok L N (Φ45_ok L N))
def f41_1.j0' {R:Type} (L N:Nat) (k1_e2:LLM→Int→LLI→(List (ByteArray×Int))→LM→LLM→LLM→Option R) (k1_r:LLM→Bool→Int→LLI→(List (ByteArray×Int))→LM→LLM→LLM→Option R) (rec1:LLM→Int→LI→LLI→Int→Int→LLI→(List (ByteArray×Int))→LM→LLM→LLM→Option R) (v40:LLM) (v41:Int) (v42:LI) (v43:Int) (v44:Int) (v45:LLI) (v46:Int) (v47:Int) (v48:LLI) (v49:(List (ByteArray×Int))) (v50:LM) (v51:LLM) (v52:LLM):Option R:=
 bif (decide (0≤v43)&&decide (v43<(v42.length:Int))) then
  bif (decide (v50.length+([(Move.mk (listAt v42 (0:Int) v43.toNat) v44)]:LM).length≤lim)) then
   rec1 v40 v41 v42 v45 v46 (wi (v47+(1:Int))) v48 v49 (v50++([(Move.mk (listAt v42 (0:Int) v43.toNat) v44)]:LM)) v51 v52
  else none
 else none
def f41_1.s1' {R:Type} (L N:Nat) (k1_e2:LLM→Int→LLI→(List (ByteArray×Int))→LM→LLM→LLM→Option R) (k1_r:LLM→Bool→Int→LLI→(List (ByteArray×Int))→LM→LLM→LLM→Option R) (rec1:LLM→Int→LI→LLI→Int→Int→LLI→(List (ByteArray×Int))→LM→LLM→LLM→Option R) (s13:LLM) (s14:Int) (s15:LI) (s16:LLI) (s17:Int) (s18:Int) (s19:LLI) (s20:(List (ByteArray×Int))) (s21:LM) (s22:LLM) (s23:LLM):Option R:=
 bif (decide (s18<s17)) then
  bif (decide (0≤s18)&&decide (s18<(s16.length:Int))) then
   (f43 L N (listAt s16 [] s18.toNat)).bind fun y31=>
   bif (!(Option.isSome (mapFind .str i64 y31 s20))) then
    bif ((s19.length:Int)==(60:Int)) then
     k1_r s13 false s14 s19 s20 s21 s22 s23
    else bif (decide (s19.length+([(listAt s16 [] s18.toNat)]:LLI).length≤lim)) then
     f41_1.j0' L N k1_e2 k1_r rec1 s13 s14 s15 s18 (s19.length:Int) s16 s17 s18 (s19++([(listAt s16 [] s18.toNat)]:LLI)) (mapPut .str i64 y31 (s19.length:Int) s20) s21 s22 s23
    else none
   else f41_1.j0' L N k1_e2 k1_r rec1 s13 s14 s15 s18 ((mapFind .str i64 y31 s20).getD (Ty.dflt i64)) s16 s17 s18 s19 s20 s21 s22 s23
  else none
 else k1_e2 s13 s14 s19 s20 s21 s22 s23
def f41_1.s1 {R:Type} (L N:Nat) (k1_e2:LLM→Int→LLI→(List (ByteArray×Int))→LM→LLM→LLM→Option R) (k1_r:LLM→Bool→Int→LLI→(List (ByteArray×Int))→LM→LLM→LLM→Option R) (rec1:LLM→Int→LI→LLI→Int→Int→LLI→(List (ByteArray×Int))→LM→LLM→LLM→Option R) (s13:LLM) (s14:Int) (s15:LI) (s16:LLI) (s17:Int) (s18:Int) (s19:LLI) (s20:(List (ByteArray×Int))) (s21:LM) (s22:LLM) (s23:LLM):Option R:=
 f41_1.s1' L N k1_e2 k1_r rec1 s13 s14 s15 s16 s17 s18 s19 s20 s21 s22 s23
def f41_1.l1 {R:Type} (L N:Nat) (k1_e2:LLM→Int→LLI→(List (ByteArray×Int))→LM→LLM→LLM→Option R) (k1_r:LLM→Bool→Int→LLI→(List (ByteArray×Int))→LM→LLM→LLM→Option R):Nat→LLM→Int→LI→LLI→Int→Int→LLI→(List (ByteArray×Int))→LM→LLM→LLM→Option R
 |0,_,_,_,_,_,_,_,_,_,_,_=>none
 |n+1,s13,s14,s15,s16,s17,s18,s19,s20,s21,s22,s23=>f41_1.s1 L N k1_e2 k1_r (f41_1.l1 L N k1_e2 k1_r n) s13 s14 s15 s16 s17 s18 s19 s20 s21 s22 s23
def f41_1.T1 (s13:LLM) (s14:Int) (s15:LI) (s16:LLI) (s17:Int) (s18:Int) (s19:LLI) (s20:(List (ByteArray×Int))) (s21:LM) (s22:LLM) (s23:LLM):T:=mkT 97 [(1,(.fn 43 [])),(2,(.fn 44 [(.imp (.sl (.sl (.st 0))) s13 0)])),(6,(.ptr 1006 0)),(8,(.row 1022)),(9,(.mp 1023)),(10,(.ptr 1010 0)),(11,(.tv i64 s14)),(12,(.tv (.sl i64) s15)),(15,(.row 1048)),(49,(.tv (.sl (.sl i64)) s16)),(50,(.tv i64 s17)),(51,(.tv i64 s18))]
def f41_1.H1 (s13:LLM) (s14:Int) (s15:LI) (s16:LLI) (s17:Int) (s18:Int) (s19:LLI) (s20:(List (ByteArray×Int))) (s21:LM) (s22:LLM) (s23:LLM):H:=[(1006,(.box [(.row 1900)])),(1010,(.box [(.row 1901)])),(1022,(.row 22 (.sl i64) s19)),(1023,(.map .str i64 s20)),(1048,(.row 45 (.st 0) s21)),(1900,(.deep 0 (.sl (.st 0)) s22 none)),(1901,(.deep 0 (.sl (.st 0)) s23 none))]
def f41_1.T1_e2 (z24:LLM) (z25:Int) (z26:LLI) (z27:(List (ByteArray×Int))) (z28:LM) (z29:LLM) (z30:LLM):T:=mkT 97 [(1,(.fn 43 [])),(2,(.fn 44 [(.imp (.sl (.sl (.st 0))) z24 0)])),(6,(.ptr 1006 0)),(8,(.row 1022)),(9,(.mp 1023)),(10,(.ptr 1010 0)),(11,(.tv i64 z25)),(15,(.row 1048))]
def f41_1.H1_e2 (z24:LLM) (z25:Int) (z26:LLI) (z27:(List (ByteArray×Int))) (z28:LM) (z29:LLM) (z30:LLM):H:=[(1006,(.box [(.row 1900)])),(1010,(.box [(.row 1901)])),(1022,(.row 22 (.sl i64) z26)),(1023,(.map .str i64 z27)),(1048,(.row 45 (.st 0) z28)),(1900,(.deep 0 (.sl (.st 0)) z29 none)),(1901,(.deep 0 (.sl (.st 0)) z30 none))]
def f41_1.T1_r (z32:LLM) (z33:Bool) (z34:Int) (z35:LLI) (z36:(List (ByteArray×Int))) (z37:LM) (z38:LLM) (z39:LLM):T:=mkT 97 [(1,(.fn 43 [])),(2,(.fn 44 [(.imp (.sl (.sl (.st 0))) z32 0)])),(6,(.ptr 1006 0)),(7,(.tv .bool z33)),(8,(.row 1022)),(9,(.mp 1023)),(10,(.ptr 1010 0)),(11,(.tv i64 z34)),(15,(.row 1048))]
def f41_1.H1_r (z32:LLM) (z33:Bool) (z34:Int) (z35:LLI) (z36:(List (ByteArray×Int))) (z37:LM) (z38:LLM) (z39:LLM):H:=[(1006,(.box [.nil])),(1010,(.box [(.row 1901)])),(1022,(.row 22 (.sl i64) z35)),(1023,(.map .str i64 z36)),(1048,(.row 45 (.st 0) z37)),(1900,(.deep 0 (.sl (.st 0)) z38 none)),(1901,(.deep 0 (.sl (.st 0)) z39 none))]
def f41_1.p1_e2' {R:Type} (L N:Nat) (k0_e0:LLM→LLM→Option R) (k0_r:Bool→LLM→LLM→Option R) (rec0:LLM→Int→LLI→(List (ByteArray×Int))→LLM→LLM→Option R) (z24:LLM) (z25:Int) (z26:LLI) (z27:(List (ByteArray×Int))) (z28:LM) (z29:LLM) (z30:LLM):Option R:=
 ((fsortM z28)).bind fun y53=>
 bif (decide (z30.length+([(tidyM z28)]:LLM).length≤lim)) then
  rec0 z24 (wi (z25+(1:Int))) z26 z27 z29 (z30++([(tidyM z28)]:LLM))
 else none
def f41_1.p1_e2 {R:Type} (L N:Nat) (k0_e0:LLM→LLM→Option R) (k0_r:Bool→LLM→LLM→Option R) (rec0:LLM→Int→LLI→(List (ByteArray×Int))→LLM→LLM→Option R) (z24:LLM) (z25:Int) (z26:LLI) (z27:(List (ByteArray×Int))) (z28:LM) (z29:LLM) (z30:LLM):Option R:=
 f41_1.p1_e2' L N k0_e0 k0_r rec0 z24 z25 z26 z27 z28 z29 z30
def f41_1.p1_r' {R:Type} (L N:Nat) (k0_e0:LLM→LLM→Option R) (k0_r:Bool→LLM→LLM→Option R) (rec0:LLM→Int→LLI→(List (ByteArray×Int))→LLM→LLM→Option R) (z32:LLM) (z33:Bool) (z34:Int) (z35:LLI) (z36:(List (ByteArray×Int))) (z37:LM) (z38:LLM) (z39:LLM):Option R:=
 k0_r z33 z38 z39
def f41_1.p1_r {R:Type} (L N:Nat) (k0_e0:LLM→LLM→Option R) (k0_r:Bool→LLM→LLM→Option R) (rec0:LLM→Int→LLI→(List (ByteArray×Int))→LLM→LLM→Option R) (z32:LLM) (z33:Bool) (z34:Int) (z35:LLI) (z36:(List (ByteArray×Int))) (z37:LM) (z38:LLM) (z39:LLM):Option R:=
 f41_1.p1_r' L N k0_e0 k0_r rec0 z32 z33 z34 z35 z36 z37 z38 z39
def f41_1.s0' {R:Type} (L N:Nat) (k0_e0:LLM→LLM→Option R) (k0_r:Bool→LLM→LLM→Option R) (rec0:LLM→Int→LLI→(List (ByteArray×Int))→LLM→LLM→Option R) (w1:LLM→Int→LI→LLI→Int→Int→LLI→(List (ByteArray×Int))→LM→LLM→LLM→Option R) (s1:LLM) (s2:Int) (s3:LLI) (s4:(List (ByteArray×Int))) (s5:LLM) (s6:LLM):Option R:=
 bif (decide (s2<(s3.length:Int))) then
  bif (decide (0≤s2)&&decide (s2<(s3.length:Int))) then
   (f44_1 L N (listAt s3 [] s2.toNat) s1).bind fun y9=>
   bif (!y9.2.2) then
    k0_r false s5 s6
   else w1 s1 s2 y9.1 y9.2.1 (y9.2.1.length:Int) (0:Int) s3 s4 ([]:LM) s5 s6
  else none
 else k0_e0 s5 s6
def f41_1.s0 {R:Type} (L N:Nat) (k0_e0:LLM→LLM→Option R) (k0_r:Bool→LLM→LLM→Option R) (rec0:LLM→Int→LLI→(List (ByteArray×Int))→LLM→LLM→Option R) (s1:LLM) (s2:Int) (s3:LLI) (s4:(List (ByteArray×Int))) (s5:LLM) (s6:LLM):Option R:=
 f41_1.s0' L N k0_e0 k0_r rec0 (fun s13 s14 s15 s16 s17 s18 s19 s20 s21 s22 s23=>f41_1.l1 L N (fun z24 z25 z26 z27 z28 z29 z30=>f41_1.p1_e2 L N k0_e0 k0_r rec0 z24 z25 z26 z27 z28 z29 z30) (fun z32 z33 z34 z35 z36 z37 z38 z39=>f41_1.p1_r L N k0_e0 k0_r rec0 z32 z33 z34 z35 z36 z37 z38 z39) L s13 s14 s15 s16 s17 s18 s19 s20 s21 s22 s23) s1 s2 s3 s4 s5 s6
def f41_1.l0 {R:Type} (L N:Nat) (k0_e0:LLM→LLM→Option R) (k0_r:Bool→LLM→LLM→Option R):Nat→LLM→Int→LLI→(List (ByteArray×Int))→LLM→LLM→Option R
 |0,_,_,_,_,_,_=>none
 |n+1,s1,s2,s3,s4,s5,s6=>f41_1.s0 L N k0_e0 k0_r (f41_1.l0 L N k0_e0 k0_r n) s1 s2 s3 s4 s5 s6
def f41_1.T0 (s1:LLM) (s2:Int) (s3:LLI) (s4:(List (ByteArray×Int))) (s5:LLM) (s6:LLM):T:=mkT 97 [(1,(.fn 43 [])),(2,(.fn 44 [(.imp (.sl (.sl (.st 0))) s1 0)])),(6,(.ptr 1006 0)),(8,(.row 1022)),(9,(.mp 1023)),(10,(.ptr 1010 0)),(11,(.tv i64 s2))]
def f41_1.H0 (s1:LLM) (s2:Int) (s3:LLI) (s4:(List (ByteArray×Int))) (s5:LLM) (s6:LLM):H:=[(1006,(.box [(.row 1900)])),(1010,(.box [(.row 1901)])),(1022,(.row 22 (.sl i64) s3)),(1023,(.map .str i64 s4)),(1900,(.deep 0 (.sl (.st 0)) s5 none)),(1901,(.deep 0 (.sl (.st 0)) s6 none))]
def f41_1.T0_e0 (z7:LLM) (z8:LLM):T:=mkT 97 [(6,(.ptr 1006 0)),(10,(.ptr 1010 0))]
def f41_1.H0_e0 (z7:LLM) (z8:LLM):H:=[(1006,(.box [(.row 1900)])),(1010,(.box [(.row 1901)])),(1900,(.deep 0 (.sl (.st 0)) z7 none)),(1901,(.deep 0 (.sl (.st 0)) z8 none))]
def f41_1.T0_r (z10:Bool) (z11:LLM) (z12:LLM):T:=mkT 97 [(6,(.ptr 1006 0)),(7,(.tv .bool z10)),(10,(.ptr 1010 0))]
def f41_1.H0_r (z10:Bool) (z11:LLM) (z12:LLM):H:=[(1006,(.box [.nil])),(1010,(.box [(.row 1901)])),(1900,(.deep 0 (.sl (.st 0)) z11 none)),(1901,(.deep 0 (.sl (.st 0)) z12 none))]
def f41_1.p0_e0' {R:Type} (L N:Nat) (k:LLM→Bool→Option R) (z7:LLM) (z8:LLM):Option R:=
 k z8 true
def f41_1.p0_e0 {R:Type} (L N:Nat) (k:LLM→Bool→Option R) (z7:LLM) (z8:LLM):Option R:=
 f41_1.p0_e0' L N k z7 z8
def f41_1.p0_r' {R:Type} (L N:Nat) (k:LLM→Bool→Option R) (z10:Bool) (z11:LLM) (z12:LLM):Option R:=
 k [] z10
def f41_1.p0_r {R:Type} (L N:Nat) (k:LLM→Bool→Option R) (z10:Bool) (z11:LLM) (z12:LLM):Option R:=
 f41_1.p0_r' L N k z10 z11 z12
def f41_1.b' {R:Type} (L N:Nat) (k:LLM→Bool→Option R) (w0:LLM→Int→LLI→(List (ByteArray×Int))→LLM→LLM→Option R) (x0:LI) (x1:LLM):Option R:=
 (f43 L N x0).bind fun y0=>
 w0 x1 (0:Int) ([x0]:LLI) (mapPut .str i64 y0 (0:Int) ([]:(List (ByteArray×Int)))) ([]:LLM) ([]:LLM)
def f41_1.b {R:Type} (L N:Nat) (k:LLM→Bool→Option R) (x0:LI) (x1:LLM):Option R:=
 f41_1.b' L N k (fun s1 s2 s3 s4 s5 s6=>f41_1.l0 L N (fun z7 z8=>f41_1.p0_e0 L N k z7 z8) (fun z10 z11 z12=>f41_1.p0_r L N k z10 z11 z12) L s1 s2 s3 s4 s5 s6) x0 x1
def f41_1 (L N:Nat) (x0:LI) (x1:LLM):Option (LLM×Bool):=f41_1.b L N (fun a0 a1=>some (a0,a1)) x0 x1
def f41_1.ent (L N:Nat) (args:List AV) (vw:View) (site:Nat):Option Ans:=match shD [(.dat (.sl i64)),(.fn 43 []),(.fn 44 [(.imp (.sl (.sl (.st 0))) 0)])] vw args with
 |some d=>some ⟨LLM×Bool,f41_1 L N d.1 d.2.2.1.1,fun y=>(RN.av site (.tup (.agg []) [.bool]) ((()),(y.2,())),[(site,some (mkO (some 0) 43 (.sl (.st 0)) y.1))],[])⟩
 |none=>none
noncomputable def E41_1 (L N:Nat):Env:={P:=Tryz.prog,ty:=tyOf,Φ:=(Φ44_1 L N),inl:=inlT,live:=lives,liveX:=livesX,L:=L,dp:=(some 100),prom:=promT,heal:=healT,ren:=renT}
noncomputable def f41_1.c0:Code:=loopAt 0 (codeOf Tryz.f41)
noncomputable def f41_1.c1:Code:=loopAt 2 f41_1.c0
def f41_1.X1_e2 {R:Type} (κ:KX R):=fun z24 z25 z26 z27 z28 z29 z30=>κ (.exit 2) (f41_1.T1_e2 z24 z25 z26 z27 z28 z29 z30) (f41_1.H1_e2 z24 z25 z26 z27 z28 z29 z30)
def f41_1.X1_r {R:Type} (κ:KX R):=fun z32 z33 z34 z35 z36 z37 z38 z39=>κ .ret (f41_1.T1_r z32 z33 z34 z35 z36 z37 z38 z39) (f41_1.H1_r z32 z33 z34 z35 z36 z37 z38 z39)
def f41_1.R1 {R:Type} (rec:KT R):=fun s13 s14 s15 s16 s17 s18 s19 s20 s21 s22 s23=>rec (f41_1.T1 s13 s14 s15 s16 s17 s18 s19 s20 s21 s22 s23) (f41_1.H1 s13 s14 s15 s16 s17 s18 s19 s20 s21 s22 s23)
theorem f41_1.s1_eq {R:Type} (L N:Nat) (κ:KX R) (rec:KT R) (s13:LLM) (s14:Int) (s15:LI) (s16:LLI) (s17:Int) (s18:Int) (s19:LLI) (s20:(List (ByteArray×Int))) (s21:LM) (s22:LLM) (s23:LLM):
  evRd (E41_1 L N) (evCallI (E41_1 L N) 1 2000) 1000 41 97 2 f41_1.c1 κ rec (f41_1.T1 s13 s14 s15 s16 s17 s18 s19 s20 s21 s22 s23) (f41_1.H1 s13 s14 s15 s16 s17 s18 s19 s20 s21 s22 s23)
  =f41_1.s1 L N (f41_1.X1_e2 κ) (f41_1.X1_r κ) (f41_1.R1 rec) s13 s14 s15 s16 s17 s18 s19 s20 s21 s22 s23:=by kernel_rfl
theorem f41_1.l1_eq {R:Type} (L N:Nat) (κ:KX R):∀(n:Nat) (s13:LLM) (s14:Int) (s15:LI) (s16:LLI) (s17:Int) (s18:Int) (s19:LLI) (s20:(List (ByteArray×Int))) (s21:LM) (s22:LLM) (s23:LLM),
  evLp (E41_1 L N) (evCallI (E41_1 L N) 1 2000) 1000 41 97 2 f41_1.c1 κ n (f41_1.T1 s13 s14 s15 s16 s17 s18 s19 s20 s21 s22 s23) (f41_1.H1 s13 s14 s15 s16 s17 s18 s19 s20 s21 s22 s23)
  =f41_1.l1 L N (f41_1.X1_e2 κ) (f41_1.X1_r κ) n s13 s14 s15 s16 s17 s18 s19 s20 s21 s22 s23:=by
 intro n
 induction n with
 |zero=>intros;rfl
 |succ n ih=>
  intro s13 s14 s15 s16 s17 s18 s19 s20 s21 s22 s23
  rw [evLp_succ,f41_1.s1_eq]
  delta f41_1.R1
  simp only [ih]
  rfl
def f41_1.X0_e0 {R:Type} (κ:KX R):=fun z7 z8=>κ (.exit 0) (f41_1.T0_e0 z7 z8) (f41_1.H0_e0 z7 z8)
def f41_1.X0_r {R:Type} (κ:KX R):=fun z10 z11 z12=>κ .ret (f41_1.T0_r z10 z11 z12) (f41_1.H0_r z10 z11 z12)
def f41_1.R0 {R:Type} (rec:KT R):=fun s1 s2 s3 s4 s5 s6=>rec (f41_1.T0 s1 s2 s3 s4 s5 s6) (f41_1.H0 s1 s2 s3 s4 s5 s6)
theorem f41_1.p1_e2_eq {R:Type} (L N:Nat) (κ:KX R) (rec:KT R) (z24:LLM) (z25:Int) (z26:LLI) (z27:(List (ByteArray×Int))) (z28:LM) (z29:LLM) (z30:LLM):
  (contAt (E41_1 L N) (evCallI (E41_1 L N) 1 2000) 1000 41 97 2 f41_1.c0 (rdK (E41_1 L N) 1000 41 97 0 κ rec)) (.exit 2) (f41_1.T1_e2 z24 z25 z26 z27 z28 z29 z30) (f41_1.H1_e2 z24 z25 z26 z27 z28 z29 z30)
  =f41_1.p1_e2 L N (f41_1.X0_e0 κ) (f41_1.X0_r κ) (f41_1.R0 rec) z24 z25 z26 z27 z28 z29 z30:=by kernel_rfl
theorem f41_1.p1_r_eq {R:Type} (L N:Nat) (κ:KX R) (rec:KT R) (z32:LLM) (z33:Bool) (z34:Int) (z35:LLI) (z36:(List (ByteArray×Int))) (z37:LM) (z38:LLM) (z39:LLM):
  (contAt (E41_1 L N) (evCallI (E41_1 L N) 1 2000) 1000 41 97 2 f41_1.c0 (rdK (E41_1 L N) 1000 41 97 0 κ rec)) .ret (f41_1.T1_r z32 z33 z34 z35 z36 z37 z38 z39) (f41_1.H1_r z32 z33 z34 z35 z36 z37 z38 z39)
  =f41_1.p1_r L N (f41_1.X0_e0 κ) (f41_1.X0_r κ) (f41_1.R0 rec) z32 z33 z34 z35 z36 z37 z38 z39:=by kernel_rfl
theorem f41_1.s0_eq {R:Type} (L N:Nat) (κ:KX R) (rec:KT R) (s1:LLM) (s2:Int) (s3:LLI) (s4:(List (ByteArray×Int))) (s5:LLM) (s6:LLM):
  evRd (E41_1 L N) (evCallI (E41_1 L N) 1 2000) 1000 41 97 0 f41_1.c0 κ rec (f41_1.T0 s1 s2 s3 s4 s5 s6) (f41_1.H0 s1 s2 s3 s4 s5 s6)
  =f41_1.s0 L N (f41_1.X0_e0 κ) (f41_1.X0_r κ) (f41_1.R0 rec) s1 s2 s3 s4 s5 s6:=by
 refine Eq.trans (b:=f41_1.s0' L N (f41_1.X0_e0 κ) (f41_1.X0_r κ) (f41_1.R0 rec) (fun s13 s14 s15 s16 s17 s18 s19 s20 s21 s22 s23=>evLp (E41_1 L N) (evCallI (E41_1 L N) 1 2000) 1000 41 97 2 f41_1.c1 (contAt (E41_1 L N) (evCallI (E41_1 L N) 1 2000) 1000 41 97 2 f41_1.c0 (rdK (E41_1 L N) 1000 41 97 0 κ rec)) L (f41_1.T1 s13 s14 s15 s16 s17 s18 s19 s20 s21 s22 s23) (f41_1.H1 s13 s14 s15 s16 s17 s18 s19 s20 s21 s22 s23)) s1 s2 s3 s4 s5 s6) (by kernel_rfl) ?_
 unfold f41_1.s0
 simp only [f41_1.l1_eq]
 delta f41_1.X1_e2 f41_1.X1_r
 simp only [f41_1.p1_e2_eq,f41_1.p1_r_eq]
theorem f41_1.l0_eq {R:Type} (L N:Nat) (κ:KX R):∀(n:Nat) (s1:LLM) (s2:Int) (s3:LLI) (s4:(List (ByteArray×Int))) (s5:LLM) (s6:LLM),
  evLp (E41_1 L N) (evCallI (E41_1 L N) 1 2000) 1000 41 97 0 f41_1.c0 κ n (f41_1.T0 s1 s2 s3 s4 s5 s6) (f41_1.H0 s1 s2 s3 s4 s5 s6)
  =f41_1.l0 L N (f41_1.X0_e0 κ) (f41_1.X0_r κ) n s1 s2 s3 s4 s5 s6:=by
 intro n
 induction n with
 |zero=>intros;rfl
 |succ n ih=>
  intro s1 s2 s3 s4 s5 s6
  rw [evLp_succ,f41_1.s0_eq]
  delta f41_1.R0
  simp only [ih]
  rfl
theorem f41_1.p0_e0_eq {R:Type} (L N:Nat) (κ:RN.Den (.tup (.agg []) [.bool])→List LM→Option R) (z7:LLM) (z8:LLM):
  (contAt (E41_1 L N) (evCallI (E41_1 L N) 1 2000) 1000 41 97 0 (codeOf Tryz.f41) (finK (E41_1 L N) 1000 Tryz.f41 (finN (.tup (.agg []) [.bool]) (some 0) 43 (.sl (.st 0)) κ))) (.exit 0) (f41_1.T0_e0 z7 z8) (f41_1.H0_e0 z7 z8)
  =f41_1.p0_e0 L N (fun a0 a1=>κ ((()),(a1,())) a0) z7 z8:=by kernel_rfl
theorem f41_1.p0_r_eq {R:Type} (L N:Nat) (κ:RN.Den (.tup (.agg []) [.bool])→List LM→Option R) (z10:Bool) (z11:LLM) (z12:LLM):
  (contAt (E41_1 L N) (evCallI (E41_1 L N) 1 2000) 1000 41 97 0 (codeOf Tryz.f41) (finK (E41_1 L N) 1000 Tryz.f41 (finN (.tup (.agg []) [.bool]) (some 0) 43 (.sl (.st 0)) κ))) .ret (f41_1.T0_r z10 z11 z12) (f41_1.H0_r z10 z11 z12)
  =f41_1.p0_r L N (fun a0 a1=>κ ((()),(a1,())) a0) z10 z11 z12:=by kernel_rfl
theorem f41_1.b_eq {R:Type} (L N:Nat) (κ:RN.Den (.tup (.agg []) [.bool])→List LM→Option R) (x0:LI) (x1:LLM):
  evBody (E41_1 L N) (evCallI (E41_1 L N) 1 2000) 1000 41 Tryz.f41 [(.tv (.sl i64) x0),(.fn 43 []),(.fn 44 [(.imp (.sl (.sl (.st 0))) x1 0)])] [] [] (finN (.tup (.agg []) [.bool]) (some 0) 43 (.sl (.st 0)) κ)
  =f41_1.b L N (fun a0 a1=>κ ((()),(a1,())) a0) x0 x1:=by
 refine Eq.trans (b:=f41_1.b' L N (fun a0 a1=>κ ((()),(a1,())) a0) (fun s1 s2 s3 s4 s5 s6=>evLp (E41_1 L N) (evCallI (E41_1 L N) 1 2000) 1000 41 97 0 f41_1.c0 (contAt (E41_1 L N) (evCallI (E41_1 L N) 1 2000) 1000 41 97 0 (codeOf Tryz.f41) (finK (E41_1 L N) 1000 Tryz.f41 (finN (.tup (.agg []) [.bool]) (some 0) 43 (.sl (.st 0)) κ))) L (f41_1.T0 s1 s2 s3 s4 s5 s6) (f41_1.H0 s1 s2 s3 s4 s5 s6)) x0 x1) (by kernel_rfl) ?_
 unfold f41_1.b
 simp only [f41_1.l0_eq]
 delta f41_1.X0_e0 f41_1.X0_r
 simp only [f41_1.p0_e0_eq,f41_1.p0_r_eq]
theorem f41_1.ok (L N:Nat) (hΦ:TellsOk Tryz.prog ((Φ44_1 L N))):EntOkO Tryz.prog 41 (f41_1.ent L N):=by
 intro args vw site h a ha
 unfold f41_1.ent at ha
 split at ha
 ·rename_i d hd
  obtain rfl:=Option.some.inj ha
  intro y hy hs
  refine call_ronF (y:=y) (dep:=1000) (E:=(E41_1 L N)) (rn:=(.tup (.agg []) [.bool])) (q:=(some 0)) (el:=43) (ty:=(.sl (.st 0))) (d1:=((()),(y.2,()))) (xs:=y.1) (κ:=(fun d xs=>some (xs,d.2.1))) (sound_of hΦ) okP (callI_sound (sound_of hΦ) okP 1 2000) (f:=Tryz.f41) rfl hs hd ?_ (fun _ _ h=>by obtain rfl:=Option.some.inj h;exact ⟨rfl,rfl⟩) rfl site
  exact (f41_1.b_eq L N (fun d xs=>some (xs,d.2.1)) d.1 d.2.2.1.1).trans (Eq.trans (b:=f41_1.b L N (fun a0 a1=>some (a0,a1)) d.1 d.2.2.1.1) (by kernel_rfl) hy)
 ·cases ha
def Φ41_1 (L N:Nat):Tells:=(addO (Φ44_1 L N) 41 (f41_1.ent L N))
theorem Φ41_1_ok (L N:Nat):TellsOk Tryz.prog (Φ41_1 L N):=addO_ok (Φ44_1_ok L N) (f41_1.ok L N (Φ44_1_ok L N))
def f18.b' {R:Type} (L N:Nat) (k:Graph→Bool→Option R) (x0:Graph):Option R:=
 (f6 L N (Graph.mk x0.moves)).bind fun y0=>
 bif (!y0) then
  k (Graph.mk []) false
 else (f42 L N (Graph.mk x0.moves) []).bind fun y1=>
 (f41_1 L N y1 x0.moves).bind fun y2=>
 k (Graph.mk y2.1) y2.2
def f18.b {R:Type} (L N:Nat) (k:Graph→Bool→Option R) (x0:Graph):Option R:=
 f18.b' L N k x0
def f18 (L N:Nat) (x0:Graph):Option (Graph×Bool):=f18.b L N (fun a0 a1=>some (a0,a1)) x0
def f18.ent (L N:Nat):=entDa [(.st 2)] (.many [(.st 2),.bool]) fun d=>f18 L N d.1
noncomputable def E18 (L N:Nat):Env:={P:=Tryz.prog,ty:=tyOf,Φ:=(Φ41_1 L N),inl:=inlT,live:=lives,liveX:=livesX,L:=L,dp:=none,prom:=promT,heal:=healT,ren:=renT}
theorem f18.b_eq {R:Type} (L N:Nat) (κ:AV→Option R) (x0:Graph):
  evBody (E18 L N) (evCallI (E18 L N) 1 2000) 1000 18 Tryz.f18 [(.tv (.st 2) x0)] [] [] (finC (.many [(.st 2),.bool]) κ)
  =f18.b L N (fun a0 a1=>κ (.tup [(.tv (.st 2) a0),(.tv .bool a1)])) x0:=by kernel_rfl
theorem f18.ok (L N:Nat) (hΦ:TellsOk Tryz.prog ((Φ41_1 L N))):EntOk Tryz.prog 18 (f18.ent L N):=entDa_ok (E:=(E18 L N)) (dep:=1000) (f:=Tryz.f18) (sound_of hΦ) okP (callI_sound (sound_of hΦ) okP 1 2000) rfl fun d _ hy=>(f18.b_eq L N (unR (.many [(.st 2),.bool])) d.1).trans (Eq.trans (b:=f18.b L N (fun a0 a1=>some (a0,a1)) d.1) (by kernel_rfl) hy)
def Φ18 (L N:Nat):Tells:=(addT (Φ41_1 L N) 18 (f18.ent L N))
theorem Φ18_ok (L N:Nat):TellsOk Tryz.prog (Φ18 L N):=addT_ok (Φ41_1_ok L N) (f18.ok L N (Φ41_1_ok L N))
def f47_1.s1' {R:Type} (L N:Nat) (k1_e2:Int→Int→Bool→LLM→LLM→(List Duo)→(List (ByteArray×Bool))→Option R) (k1_r:Int→Bool→Int→Bool→LLM→LLM→(List Duo)→(List (ByteArray×Bool))→LI→Option R) (k1_r1:Int→Bool→Int→Bool→LLM→LLM→(List Duo)→(List (ByteArray×Bool))→LI→Option R) (rec1:Int→Int→LI→Int→Int→Bool→LLM→LLM→LI→LI→LI→(List Duo)→(List (ByteArray×Bool))→Option R) (s41:Int) (s42:Int) (s43:LI) (s44:Int) (s45:Int) (s46:Bool) (s47:LLM) (s48:LLM) (s49:LI) (s50:LI) (s51:LI) (s52:(List Duo)) (s53:(List (ByteArray×Bool))):Option R:=
 bif (decide (s45<s44)) then
  bif (decide (0≤s45)&&decide (s45<(s43.length:Int))) then
   (f46 L N (Graph.mk s47) s49 (listAt s43 (0:Int) s45.toNat)).bind fun y61=>
   (f46 L N (Graph.mk s48) s50 (listAt s43 (0:Int) s45.toNat)).bind fun y62=>
   ((fclone s51)).bind fun y63=>
   bif (decide (s51.length+([(listAt s43 (0:Int) s45.toNat)]:LI).length≤lim)) then
    bif ((y62.length:Int)==(0:Int)) then
     bif ((y62.length:Int)==(0:Int)) then
      k1_r s41 true s42 true s47 s48 s52 s53 (s51++([(listAt s43 (0:Int) s45.toNat)]:LI))
     else bif s46 then
      k1_r1 s41 true s42 s46 s47 s48 s52 s53 (s51++([(listAt s43 (0:Int) s45.toNat)]:LI))
     else rec1 s41 s42 s43 s44 (wi (s45+(1:Int))) s46 s47 s48 s49 s50 s51 s52 s53
    else (f43 L N y61).bind fun y111=>
    (f43 L N y62).bind fun y112=>
    bif (decide (y111.size+y112.size≤4611686018427387904)) then
     bif ((mapFind .str .bool (y111++y112) s53).getD (Ty.dflt .bool)) then
      rec1 s41 s42 s43 s44 (wi (s45+(1:Int))) s46 s47 s48 s49 s50 s51 s52 s53
     else bif (decide (s52.length+([(Duo.mk y61 y62 (s51++([(listAt s43 (0:Int) s45.toNat)]:LI)))]:(List Duo)).length≤lim)) then
      rec1 s41 s42 s43 s44 (wi (s45+(1:Int))) s46 s47 s48 s49 s50 s51 (s52++([(Duo.mk y61 y62 (s51++([(listAt s43 (0:Int) s45.toNat)]:LI)))]:(List Duo))) (mapPut .str .bool (y111++y112) true s53)
     else none
    else none
   else none
  else none
 else k1_e2 s41 s42 s46 s47 s48 s52 s53
def f47_1.s1 {R:Type} (L N:Nat) (k1_e2:Int→Int→Bool→LLM→LLM→(List Duo)→(List (ByteArray×Bool))→Option R) (k1_r:Int→Bool→Int→Bool→LLM→LLM→(List Duo)→(List (ByteArray×Bool))→LI→Option R) (k1_r1:Int→Bool→Int→Bool→LLM→LLM→(List Duo)→(List (ByteArray×Bool))→LI→Option R) (rec1:Int→Int→LI→Int→Int→Bool→LLM→LLM→LI→LI→LI→(List Duo)→(List (ByteArray×Bool))→Option R) (s41:Int) (s42:Int) (s43:LI) (s44:Int) (s45:Int) (s46:Bool) (s47:LLM) (s48:LLM) (s49:LI) (s50:LI) (s51:LI) (s52:(List Duo)) (s53:(List (ByteArray×Bool))):Option R:=
 f47_1.s1' L N k1_e2 k1_r k1_r1 rec1 s41 s42 s43 s44 s45 s46 s47 s48 s49 s50 s51 s52 s53
def f47_1.l1 {R:Type} (L N:Nat) (k1_e2:Int→Int→Bool→LLM→LLM→(List Duo)→(List (ByteArray×Bool))→Option R) (k1_r:Int→Bool→Int→Bool→LLM→LLM→(List Duo)→(List (ByteArray×Bool))→LI→Option R) (k1_r1:Int→Bool→Int→Bool→LLM→LLM→(List Duo)→(List (ByteArray×Bool))→LI→Option R):Nat→Int→Int→LI→Int→Int→Bool→LLM→LLM→LI→LI→LI→(List Duo)→(List (ByteArray×Bool))→Option R
 |0,_,_,_,_,_,_,_,_,_,_,_,_,_=>none
 |n+1,s41,s42,s43,s44,s45,s46,s47,s48,s49,s50,s51,s52,s53=>f47_1.s1 L N k1_e2 k1_r k1_r1 (f47_1.l1 L N k1_e2 k1_r k1_r1 n) s41 s42 s43 s44 s45 s46 s47 s48 s49 s50 s51 s52 s53
def f47_1.T1 (s41:Int) (s42:Int) (s43:LI) (s44:Int) (s45:Int) (s46:Bool) (s47:LLM) (s48:LLM) (s49:LI) (s50:LI) (s51:LI) (s52:(List Duo)) (s53:(List (ByteArray×Bool))):T:=mkT 107 [(2,(.tv i64 s41)),(3,(.fn 48 [(.ptr 1 0),(.ptr 0 0)])),(4,(.ptr 1004 0)),(5,(.ptr 1005 0)),(9,(.row 1022)),(10,(.mp 1023)),(11,(.tv i64 s42)),(12,(.ptr 1012 0)),(60,(.tv (.sl i64) s43)),(61,(.tv i64 s44)),(62,(.tv i64 s45))]++[.ptr 0 0]
def f47_1.H1 (s41:Int) (s42:Int) (s43:LI) (s44:Int) (s45:Int) (s46:Bool) (s47:LLM) (s48:LLM) (s49:LI) (s50:LI) (s51:LI) (s52:(List Duo)) (s53:(List (ByteArray×Bool))):H:=[(0,(.box [(.tv .bool s46)])),(1,(.box [.any])),(1004,(.box [(.tv (.sl (.sl (.st 0))) s47)])),(1005,(.box [(.tv (.sl (.sl (.st 0))) s48)])),(1012,(.box [(.tv (.sl i64) s49),(.tv (.sl i64) s50),(.tv (.sl i64) s51)])),(1022,(.row 71 (.st 4) s52)),(1023,(.map .str .bool s53))]
def f47_1.T1_e2 (z54:Int) (z55:Int) (z56:Bool) (z57:LLM) (z58:LLM) (z59:(List Duo)) (z60:(List (ByteArray×Bool))):T:=mkT 107 [(2,(.tv i64 z54)),(3,(.fn 48 [(.ptr 1 0),(.ptr 0 0)])),(4,(.ptr 1004 0)),(5,(.ptr 1005 0)),(9,(.row 1022)),(10,(.mp 1023)),(11,(.tv i64 z55))]++[.ptr 0 0]
def f47_1.H1_e2 (z54:Int) (z55:Int) (z56:Bool) (z57:LLM) (z58:LLM) (z59:(List Duo)) (z60:(List (ByteArray×Bool))):H:=[(0,(.box [(.tv .bool z56)])),(1,(.box [.any])),(1004,(.box [(.tv (.sl (.sl (.st 0))) z57)])),(1005,(.box [(.tv (.sl (.sl (.st 0))) z58)])),(1022,(.row 71 (.st 4) z59)),(1023,(.map .str .bool z60))]
def f47_1.T1_r (z93:Int) (z94:Bool) (z95:Int) (z96:Bool) (z97:LLM) (z98:LLM) (z99:(List Duo)) (z100:(List (ByteArray×Bool))) (z101:LI):T:=mkT 107 [(2,(.tv i64 z93)),(3,(.fn 48 [(.ptr 1 0),(.ptr 0 0)])),(4,(.ptr 1004 0)),(5,(.ptr 1005 0)),(8,(.tv .bool z94)),(9,(.row 1022)),(10,(.mp 1023)),(11,(.tv i64 z95))]++[.ptr 0 0]
def f47_1.H1_r (z93:Int) (z94:Bool) (z95:Int) (z96:Bool) (z97:LLM) (z98:LLM) (z99:(List Duo)) (z100:(List (ByteArray×Bool))) (z101:LI):H:=[(0,(.box [(.tv .bool z96)])),(1,(.box [(.row 1081)])),(1004,(.box [(.tv (.sl (.sl (.st 0))) z97)])),(1005,(.box [(.tv (.sl (.sl (.st 0))) z98)])),(1022,(.row 71 (.st 4) z99)),(1023,(.map .str .bool z100)),(1081,(.row 3 i64 z101))]
def f47_1.T1_r1 (z102:Int) (z103:Bool) (z104:Int) (z105:Bool) (z106:LLM) (z107:LLM) (z108:(List Duo)) (z109:(List (ByteArray×Bool))) (z110:LI):T:=mkT 107 [(2,(.tv i64 z102)),(3,(.fn 48 [(.ptr 1 0),(.ptr 0 0)])),(4,(.ptr 1004 0)),(5,(.ptr 1005 0)),(8,(.tv .bool z103)),(9,(.row 1022)),(10,(.mp 1023)),(11,(.tv i64 z104))]++[.ptr 0 0]
def f47_1.H1_r1 (z102:Int) (z103:Bool) (z104:Int) (z105:Bool) (z106:LLM) (z107:LLM) (z108:(List Duo)) (z109:(List (ByteArray×Bool))) (z110:LI):H:=[(0,(.box [(.tv .bool z105)])),(1,(.box [.any])),(1004,(.box [(.tv (.sl (.sl (.st 0))) z106)])),(1005,(.box [(.tv (.sl (.sl (.st 0))) z107)])),(1022,(.row 71 (.st 4) z108)),(1023,(.map .str .bool z109)),(1081,(.row 3 i64 z110))]
def f47_1.p1_e2' {R:Type} (L N:Nat) (k0_e0:Bool→Option R) (k0_r:Bool→Bool→Option R) (k0_r1:Bool→Bool→LI→Option R) (k0_r2:Bool→Bool→Option R) (rec0:Int→Int→Bool→LLM→LLM→(List Duo)→(List (ByteArray×Bool))→Option R) (z54:Int) (z55:Int) (z56:Bool) (z57:LLM) (z58:LLM) (z59:(List Duo)) (z60:(List (ByteArray×Bool))):Option R:=
 rec0 z54 (wi (z55+(1:Int))) z56 z57 z58 z59 z60
def f47_1.p1_e2 {R:Type} (L N:Nat) (k0_e0:Bool→Option R) (k0_r:Bool→Bool→Option R) (k0_r1:Bool→Bool→LI→Option R) (k0_r2:Bool→Bool→Option R) (rec0:Int→Int→Bool→LLM→LLM→(List Duo)→(List (ByteArray×Bool))→Option R) (z54:Int) (z55:Int) (z56:Bool) (z57:LLM) (z58:LLM) (z59:(List Duo)) (z60:(List (ByteArray×Bool))):Option R:=
 f47_1.p1_e2' L N k0_e0 k0_r k0_r1 k0_r2 rec0 z54 z55 z56 z57 z58 z59 z60
def f47_1.p1_r' {R:Type} (L N:Nat) (k0_e0:Bool→Option R) (k0_r:Bool→Bool→Option R) (k0_r1:Bool→Bool→LI→Option R) (k0_r2:Bool→Bool→Option R) (rec0:Int→Int→Bool→LLM→LLM→(List Duo)→(List (ByteArray×Bool))→Option R) (z93:Int) (z94:Bool) (z95:Int) (z96:Bool) (z97:LLM) (z98:LLM) (z99:(List Duo)) (z100:(List (ByteArray×Bool))) (z101:LI):Option R:=
 k0_r2 z94 z96
def f47_1.p1_r {R:Type} (L N:Nat) (k0_e0:Bool→Option R) (k0_r:Bool→Bool→Option R) (k0_r1:Bool→Bool→LI→Option R) (k0_r2:Bool→Bool→Option R) (rec0:Int→Int→Bool→LLM→LLM→(List Duo)→(List (ByteArray×Bool))→Option R) (z93:Int) (z94:Bool) (z95:Int) (z96:Bool) (z97:LLM) (z98:LLM) (z99:(List Duo)) (z100:(List (ByteArray×Bool))) (z101:LI):Option R:=
 f47_1.p1_r' L N k0_e0 k0_r k0_r1 k0_r2 rec0 z93 z94 z95 z96 z97 z98 z99 z100 z101
def f47_1.p1_r1' {R:Type} (L N:Nat) (k0_e0:Bool→Option R) (k0_r:Bool→Bool→Option R) (k0_r1:Bool→Bool→LI→Option R) (k0_r2:Bool→Bool→Option R) (rec0:Int→Int→Bool→LLM→LLM→(List Duo)→(List (ByteArray×Bool))→Option R) (z102:Int) (z103:Bool) (z104:Int) (z105:Bool) (z106:LLM) (z107:LLM) (z108:(List Duo)) (z109:(List (ByteArray×Bool))) (z110:LI):Option R:=
 k0_r z103 z105
def f47_1.p1_r1 {R:Type} (L N:Nat) (k0_e0:Bool→Option R) (k0_r:Bool→Bool→Option R) (k0_r1:Bool→Bool→LI→Option R) (k0_r2:Bool→Bool→Option R) (rec0:Int→Int→Bool→LLM→LLM→(List Duo)→(List (ByteArray×Bool))→Option R) (z102:Int) (z103:Bool) (z104:Int) (z105:Bool) (z106:LLM) (z107:LLM) (z108:(List Duo)) (z109:(List (ByteArray×Bool))) (z110:LI):Option R:=
 f47_1.p1_r1' L N k0_e0 k0_r k0_r1 k0_r2 rec0 z102 z103 z104 z105 z106 z107 z108 z109 z110
def f47_1.s0' {R:Type} (L N:Nat) (k0_e0:Bool→Option R) (k0_r:Bool→Bool→Option R) (k0_r1:Bool→Bool→LI→Option R) (k0_r2:Bool→Bool→Option R) (rec0:Int→Int→Bool→LLM→LLM→(List Duo)→(List (ByteArray×Bool))→Option R) (w1:Int→Int→LI→Int→Int→Bool→LLM→LLM→LI→LI→LI→(List Duo)→(List (ByteArray×Bool))→Option R) (s4:Int) (s5:Int) (s6:Bool) (s7:LLM) (s8:LLM) (s9:(List Duo)) (s10:(List (ByteArray×Bool))):Option R:=
 bif (decide (s5<(s9.length:Int))) then
  bif (decide (0≤s5)&&decide (s5<(s9.length:Int))) then
   bif (decide ((s9.length:Int)>(400:Int))) then
    k0_r false s6
   else bif ((((Duo.mk ((listAt s9 (Ty.dflt (.st 4)) s5.toNat).a) ((listAt s9 (Ty.dflt (.st 4)) s5.toNat).b) ((listAt s9 (Ty.dflt (.st 4)) s5.toNat).w)).b).length:Int)==(0:Int)) then
    k0_r1 true true ((Duo.mk ((listAt s9 (Ty.dflt (.st 4)) s5.toNat).a) ((listAt s9 (Ty.dflt (.st 4)) s5.toNat).b) ((listAt s9 (Ty.dflt (.st 4)) s5.toNat).w)).w)
   else bif s6 then
    k0_r true s6
   else bif ((((listAt s9 (Ty.dflt (.st 4)) s5.toNat).w).length:Int)==s4) then
    rec0 s4 (wi (s5+(1:Int))) s6 s7 s8 s9 s10
   else (f45 L N (Graph.mk s7) ((listAt s9 (Ty.dflt (.st 4)) s5.toNat).a)).bind fun y40=>
   w1 s4 s5 y40 (y40.length:Int) (0:Int) s6 s7 s8 ((listAt s9 (Ty.dflt (.st 4)) s5.toNat).a) ((listAt s9 (Ty.dflt (.st 4)) s5.toNat).b) ((listAt s9 (Ty.dflt (.st 4)) s5.toNat).w) s9 s10
  else none
 else k0_e0 s6
def f47_1.s0 {R:Type} (L N:Nat) (k0_e0:Bool→Option R) (k0_r:Bool→Bool→Option R) (k0_r1:Bool→Bool→LI→Option R) (k0_r2:Bool→Bool→Option R) (rec0:Int→Int→Bool→LLM→LLM→(List Duo)→(List (ByteArray×Bool))→Option R) (s4:Int) (s5:Int) (s6:Bool) (s7:LLM) (s8:LLM) (s9:(List Duo)) (s10:(List (ByteArray×Bool))):Option R:=
 f47_1.s0' L N k0_e0 k0_r k0_r1 k0_r2 rec0 (fun s41 s42 s43 s44 s45 s46 s47 s48 s49 s50 s51 s52 s53=>f47_1.l1 L N (fun z54 z55 z56 z57 z58 z59 z60=>f47_1.p1_e2 L N k0_e0 k0_r k0_r1 k0_r2 rec0 z54 z55 z56 z57 z58 z59 z60) (fun z93 z94 z95 z96 z97 z98 z99 z100 z101=>f47_1.p1_r L N k0_e0 k0_r k0_r1 k0_r2 rec0 z93 z94 z95 z96 z97 z98 z99 z100 z101) (fun z102 z103 z104 z105 z106 z107 z108 z109 z110=>f47_1.p1_r1 L N k0_e0 k0_r k0_r1 k0_r2 rec0 z102 z103 z104 z105 z106 z107 z108 z109 z110) L s41 s42 s43 s44 s45 s46 s47 s48 s49 s50 s51 s52 s53) s4 s5 s6 s7 s8 s9 s10
def f47_1.l0 {R:Type} (L N:Nat) (k0_e0:Bool→Option R) (k0_r:Bool→Bool→Option R) (k0_r1:Bool→Bool→LI→Option R) (k0_r2:Bool→Bool→Option R):Nat→Int→Int→Bool→LLM→LLM→(List Duo)→(List (ByteArray×Bool))→Option R
 |0,_,_,_,_,_,_,_=>none
 |n+1,s4,s5,s6,s7,s8,s9,s10=>f47_1.s0 L N k0_e0 k0_r k0_r1 k0_r2 (f47_1.l0 L N k0_e0 k0_r k0_r1 k0_r2 n) s4 s5 s6 s7 s8 s9 s10
def f47_1.T0 (s4:Int) (s5:Int) (s6:Bool) (s7:LLM) (s8:LLM) (s9:(List Duo)) (s10:(List (ByteArray×Bool))):T:=mkT 107 [(2,(.tv i64 s4)),(3,(.fn 48 [(.ptr 1 0),(.ptr 0 0)])),(4,(.ptr 1004 0)),(5,(.ptr 1005 0)),(9,(.row 1022)),(10,(.mp 1023)),(11,(.tv i64 s5))]++[.ptr 0 0]
def f47_1.H0 (s4:Int) (s5:Int) (s6:Bool) (s7:LLM) (s8:LLM) (s9:(List Duo)) (s10:(List (ByteArray×Bool))):H:=[(0,(.box [(.tv .bool s6)])),(1,(.box [.any])),(1004,(.box [(.tv (.sl (.sl (.st 0))) s7)])),(1005,(.box [(.tv (.sl (.sl (.st 0))) s8)])),(1022,(.row 71 (.st 4) s9)),(1023,(.map .str .bool s10))]
def f47_1.T0_e0 (z11:Bool):T:=mkT 107 []++[.ptr 0 0]
def f47_1.H0_e0 (z11:Bool):H:=[(0,(.box [(.tv .bool z11)])),(1,(.box [.any]))]
def f47_1.T0_r (z12:Bool) (z13:Bool):T:=mkT 107 [(8,(.tv .bool z12))]++[.ptr 0 0]
def f47_1.H0_r (z12:Bool) (z13:Bool):H:=[(0,(.box [(.tv .bool z13)])),(1,(.box [.any]))]
def f47_1.T0_r1 (z37:Bool) (z38:Bool) (z39:LI):T:=mkT 107 [(8,(.tv .bool z37))]++[.ptr 0 0]
def f47_1.H0_r1 (z37:Bool) (z38:Bool) (z39:LI):H:=[(0,(.box [(.tv .bool z38)])),(1,(.box [(.tv (.sl i64) z39)]))]
def f47_1.T0_r2 (z139:Bool) (z140:Bool):T:=mkT 107 [(8,(.tv .bool z139))]++[.ptr 0 0]
def f47_1.H0_r2 (z139:Bool) (z140:Bool):H:=[(0,(.box [(.tv .bool z140)])),(1,(.box [(.row 1081)]))]
def f47_1.p0_e0' {R:Type} (L N:Nat) (k:Bool→Bool→Option R) (z11:Bool):Option R:=
 k true z11
def f47_1.p0_e0 {R:Type} (L N:Nat) (k:Bool→Bool→Option R) (z11:Bool):Option R:=
 f47_1.p0_e0' L N k z11
def f47_1.p0_r' {R:Type} (L N:Nat) (k:Bool→Bool→Option R) (z12:Bool) (z13:Bool):Option R:=
 k z12 z13
def f47_1.p0_r {R:Type} (L N:Nat) (k:Bool→Bool→Option R) (z12:Bool) (z13:Bool):Option R:=
 f47_1.p0_r' L N k z12 z13
def f47_1.p0_r1' {R:Type} (L N:Nat) (k:Bool→Bool→Option R) (z37:Bool) (z38:Bool) (z39:LI):Option R:=
 k z37 z38
def f47_1.p0_r1 {R:Type} (L N:Nat) (k:Bool→Bool→Option R) (z37:Bool) (z38:Bool) (z39:LI):Option R:=
 f47_1.p0_r1' L N k z37 z38 z39
def f47_1.p0_r2' {R:Type} (L N:Nat) (k:Bool→Bool→Option R) (z139:Bool) (z140:Bool):Option R:=
 k z139 z140
def f47_1.p0_r2 {R:Type} (L N:Nat) (k:Bool→Bool→Option R) (z139:Bool) (z140:Bool):Option R:=
 f47_1.p0_r2' L N k z139 z140
def f47_1.b' {R:Type} (L N:Nat) (k:Bool→Bool→Option R) (w0:Int→Int→Bool→LLM→LLM→(List Duo)→(List (ByteArray×Bool))→Option R) (c0:Bool) (x0:Graph) (x1:Graph) (x2:Int):Option R:=
 (f42 L N (Graph.mk x0.moves) []).bind fun y0=>
 (f42 L N (Graph.mk x1.moves) []).bind fun y1=>
 bif (decide (0≤(0:Int))&&decide ((0:Int)<(([(Duo.mk y0 y1 [])]:(List Duo)).length:Int))) then
  (f43 L N ((listAt ([(Duo.mk y0 y1 [])]:(List Duo)) (Ty.dflt (.st 4)) (0:Int).toNat).a)).bind fun y2=>
  bif (decide (0≤(0:Int))&&decide ((0:Int)<(([(Duo.mk y0 y1 [])]:(List Duo)).length:Int))) then
   (f43 L N ((listAt ([(Duo.mk y0 y1 [])]:(List Duo)) (Ty.dflt (.st 4)) (0:Int).toNat).b)).bind fun y3=>
   bif (decide (y2.size+y3.size≤4611686018427387904)) then
    w0 x2 (0:Int) c0 x0.moves x1.moves ([(Duo.mk y0 y1 [])]:(List Duo)) (mapPut .str .bool (y2++y3) true ([]:(List (ByteArray×Bool))))
   else none
  else none
 else none
end Go.Proofs.YtfdcjocallblcaaGreatDoor.Ev
