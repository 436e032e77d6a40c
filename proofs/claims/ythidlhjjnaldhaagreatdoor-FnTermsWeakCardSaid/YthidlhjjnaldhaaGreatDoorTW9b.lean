/- The seat's functions as plain functions, continued: made by program (wip/gen/gen.py). -/
import Derived.Test.YthidlhjjnaldhaaGreatDoorTW9a
namespace Go.Proofs.YthidlhjjnaldhaaGreatDoor.Ev
open Go
set_option linter.unusedVariables false
set_option maxRecDepth 20000
theorem f36.l2_eq {R:Type} (L N:Nat) (κ:KX R):∀(n:Nat) (s26:LLI) (s27:Int) (s28:Int) (s29:LI) (s30:Int) (s31:Int) (s32:LM) (s33:Int) (s34:Int) (s35:LLM) (s36:LM) (s37:LLM) (s38:LLM),
  evLp (E36 L N) (evCallI (E36 L N) 0 1000) 1000 36 79 4 f36.c2 κ n (f36.T2 s26 s27 s28 s29 s30 s31 s32 s33 s34 s35 s36 s37 s38) (f36.H2 s26 s27 s28 s29 s30 s31 s32 s33 s34 s35 s36 s37 s38)
  =f36.l2 L N (f36.X2_e4 κ) n s26 s27 s28 s29 s30 s31 s32 s33 s34 s35 s36 s37 s38:=by
 intro n
 induction n with
 |zero=>intros;rfl
 |succ n ih=>
  intro s26 s27 s28 s29 s30 s31 s32 s33 s34 s35 s36 s37 s38
  rw [evLp_succ,f36.s2_eq]
  delta f36.R2
  simp only [ih]
  rfl
def f36.X1_e2 {R:Type} (κ:KX R):=fun z19 z20 z21 z22 z23 z24 z25=>κ (.exit 2) (f36.T1_e2 z19 z20 z21 z22 z23 z24 z25) (f36.H1_e2 z19 z20 z21 z22 z23 z24 z25)
def f36.R1 {R:Type} (rec:KT R):=fun s9 s10 s11 s12 s13 s14 s15 s16 s17 s18=>rec (f36.T1 s9 s10 s11 s12 s13 s14 s15 s16 s17 s18) (f36.H1 s9 s10 s11 s12 s13 s14 s15 s16 s17 s18)
theorem f36.p2_e4_eq {R:Type} (L N:Nat) (κ:KX R) (rec:KT R) (z39:LLI) (z40:Int) (z41:Int) (z42:LI) (z43:Int) (z44:Int) (z45:LLM) (z46:LM) (z47:LLM) (z48:LLM):
  (contAt (E36 L N) (evCallI (E36 L N) 0 1000) 1000 36 79 4 f36.c1 (rdK (E36 L N) 1000 36 79 2 κ rec)) (.exit 4) (f36.T2_e4 z39 z40 z41 z42 z43 z44 z45 z46 z47 z48) (f36.H2_e4 z39 z40 z41 z42 z43 z44 z45 z46 z47 z48)
  =f36.p2_e4 L N (f36.X1_e2 κ) (f36.R1 rec) z39 z40 z41 z42 z43 z44 z45 z46 z47 z48:=by kernel_rfl
theorem f36.s1_eq {R:Type} (L N:Nat) (κ:KX R) (rec:KT R) (s9:LLI) (s10:Int) (s11:Int) (s12:LI) (s13:Int) (s14:Int) (s15:LLM) (s16:LM) (s17:LLM) (s18:LLM):
  evRd (E36 L N) (evCallI (E36 L N) 0 1000) 1000 36 79 2 f36.c1 κ rec (f36.T1 s9 s10 s11 s12 s13 s14 s15 s16 s17 s18) (f36.H1 s9 s10 s11 s12 s13 s14 s15 s16 s17 s18)
  =f36.s1 L N (f36.X1_e2 κ) (f36.R1 rec) s9 s10 s11 s12 s13 s14 s15 s16 s17 s18:=by
 refine Eq.trans (b:=f36.s1' L N (f36.X1_e2 κ) (f36.R1 rec) (fun s26 s27 s28 s29 s30 s31 s32 s33 s34 s35 s36 s37 s38=>evLp (E36 L N) (evCallI (E36 L N) 0 1000) 1000 36 79 4 f36.c2 (contAt (E36 L N) (evCallI (E36 L N) 0 1000) 1000 36 79 4 f36.c1 (rdK (E36 L N) 1000 36 79 2 κ rec)) L (f36.T2 s26 s27 s28 s29 s30 s31 s32 s33 s34 s35 s36 s37 s38) (f36.H2 s26 s27 s28 s29 s30 s31 s32 s33 s34 s35 s36 s37 s38)) s9 s10 s11 s12 s13 s14 s15 s16 s17 s18) (by kernel_rfl) ?_
 unfold f36.s1
 simp only [f36.l2_eq]
 delta f36.X2_e4
 simp only [f36.p2_e4_eq]
theorem f36.l1_eq {R:Type} (L N:Nat) (κ:KX R):∀(n:Nat) (s9:LLI) (s10:Int) (s11:Int) (s12:LI) (s13:Int) (s14:Int) (s15:LLM) (s16:LM) (s17:LLM) (s18:LLM),
  evLp (E36 L N) (evCallI (E36 L N) 0 1000) 1000 36 79 2 f36.c1 κ n (f36.T1 s9 s10 s11 s12 s13 s14 s15 s16 s17 s18) (f36.H1 s9 s10 s11 s12 s13 s14 s15 s16 s17 s18)
  =f36.l1 L N (f36.X1_e2 κ) n s9 s10 s11 s12 s13 s14 s15 s16 s17 s18:=by
 intro n
 induction n with
 |zero=>intros;rfl
 |succ n ih=>
  intro s9 s10 s11 s12 s13 s14 s15 s16 s17 s18
  rw [evLp_succ,f36.s1_eq]
  delta f36.R1
  simp only [ih]
  rfl
def f36.X0_e0 {R:Type} (κ:KX R):=fun z7 z8=>κ (.exit 0) (f36.T0_e0 z7 z8) (f36.H0_e0 z7 z8)
def f36.R0 {R:Type} (rec:KT R):=fun s1 s2 s3 s4 s5 s6=>rec (f36.T0 s1 s2 s3 s4 s5 s6) (f36.H0 s1 s2 s3 s4 s5 s6)
theorem f36.p1_e2_eq {R:Type} (L N:Nat) (κ:KX R) (rec:KT R) (z19:LLI) (z20:Int) (z21:Int) (z22:LLM) (z23:LM) (z24:LLM) (z25:LLM):
  (contAt (E36 L N) (evCallI (E36 L N) 0 1000) 1000 36 79 2 f36.c0 (rdK (E36 L N) 1000 36 79 0 κ rec)) (.exit 2) (f36.T1_e2 z19 z20 z21 z22 z23 z24 z25) (f36.H1_e2 z19 z20 z21 z22 z23 z24 z25)
  =f36.p1_e2 L N (f36.X0_e0 κ) (f36.R0 rec) z19 z20 z21 z22 z23 z24 z25:=by kernel_rfl
theorem f36.s0_eq {R:Type} (L N:Nat) (κ:KX R) (rec:KT R) (s1:LLI) (s2:Int) (s3:Int) (s4:LLM) (s5:LLM) (s6:LLM):
  evRd (E36 L N) (evCallI (E36 L N) 0 1000) 1000 36 79 0 f36.c0 κ rec (f36.T0 s1 s2 s3 s4 s5 s6) (f36.H0 s1 s2 s3 s4 s5 s6)
  =f36.s0 L N (f36.X0_e0 κ) (f36.R0 rec) s1 s2 s3 s4 s5 s6:=by
 refine Eq.trans (b:=f36.s0' L N (f36.X0_e0 κ) (f36.R0 rec) (fun s9 s10 s11 s12 s13 s14 s15 s16 s17 s18=>evLp (E36 L N) (evCallI (E36 L N) 0 1000) 1000 36 79 2 f36.c1 (contAt (E36 L N) (evCallI (E36 L N) 0 1000) 1000 36 79 2 f36.c0 (rdK (E36 L N) 1000 36 79 0 κ rec)) L (f36.T1 s9 s10 s11 s12 s13 s14 s15 s16 s17 s18) (f36.H1 s9 s10 s11 s12 s13 s14 s15 s16 s17 s18)) s1 s2 s3 s4 s5 s6) (by kernel_rfl) ?_
 unfold f36.s0
 simp only [f36.l1_eq]
 delta f36.X1_e2
 simp only [f36.p1_e2_eq]
theorem f36.l0_eq {R:Type} (L N:Nat) (κ:KX R):∀(n:Nat) (s1:LLI) (s2:Int) (s3:Int) (s4:LLM) (s5:LLM) (s6:LLM),
  evLp (E36 L N) (evCallI (E36 L N) 0 1000) 1000 36 79 0 f36.c0 κ n (f36.T0 s1 s2 s3 s4 s5 s6) (f36.H0 s1 s2 s3 s4 s5 s6)
  =f36.l0 L N (f36.X0_e0 κ) n s1 s2 s3 s4 s5 s6:=by
 intro n
 induction n with
 |zero=>intros;rfl
 |succ n ih=>
  intro s1 s2 s3 s4 s5 s6
  rw [evLp_succ,f36.s0_eq]
  delta f36.R0
  simp only [ih]
  rfl
theorem f36.p0_e0_eq {R:Type} (L N:Nat) (κ:RN.Den (.agg [])->List LM->Option R) (z7:LLM) (z8:LLM):
  (contAt (E36 L N) (evCallI (E36 L N) 0 1000) 1000 36 79 0 (codeOf Tryz.f36) (finK (E36 L N) 1000 Tryz.f36 (finN (.agg []) (some 0) 61 (.sl (.st 0)) κ))) (.exit 0) (f36.T0_e0 z7 z8) (f36.H0_e0 z7 z8)
  =f36.p0_e0 L N (fun a0=>κ (()) a0) z7 z8:=by kernel_rfl
theorem f36.b_eq {R:Type} (L N:Nat) (κ:RN.Den (.agg [])->List LM->Option R) (x0:Graph):
  evBody (E36 L N) (evCallI (E36 L N) 0 1000) 1000 36 Tryz.f36 [(.tv (.st 2) x0)] [] [] (finN (.agg []) (some 0) 61 (.sl (.st 0)) κ)
  =f36.b L N (fun a0=>κ (()) a0) x0:=by
 refine Eq.trans (b:=f36.b' L N (fun a0=>κ (()) a0) (fun s1 s2 s3 s4 s5 s6=>evLp (E36 L N) (evCallI (E36 L N) 0 1000) 1000 36 79 0 f36.c0 (contAt (E36 L N) (evCallI (E36 L N) 0 1000) 1000 36 79 0 (codeOf Tryz.f36) (finK (E36 L N) 1000 Tryz.f36 (finN (.agg []) (some 0) 61 (.sl (.st 0)) κ))) L (f36.T0 s1 s2 s3 s4 s5 s6) (f36.H0 s1 s2 s3 s4 s5 s6)) x0) (by kernel_rfl) ?_
 unfold f36.b
 simp only [f36.l0_eq]
 delta f36.X0_e0
 simp only [f36.p0_e0_eq]
theorem f36.ok (L N:Nat) (hΦ:TellsOk Tryz.prog ((Φ67 L N))):EntOk Tryz.prog 36 (f36.ent L N):=by
 intro args vw site h
 unfold f36.ent
 split
 ·rename_i d ha
  intro y hy hs
  refine call_ron (y:=y) (dep:=1000) (E:=(E36 L N)) (ts:=[(.st 2)]) (rn:=(.agg [])) (q:=(some 0)) (el:=61) (ty:=(.sl (.st 0))) (d1:=(())) (xs:=y) (κ:=(fun d xs=>some xs)) (sound_of hΦ) okP (callI_sound (sound_of hΦ) okP 0 1000) (f:=Tryz.f36) rfl hs ha ?_ (fun _ _ h=>by obtain rfl:=Option.some.inj h;exact ⟨rfl,rfl⟩) rfl site
  exact (f36.b_eq L N (fun d xs=>some xs) d.1).trans (Eq.trans (b:=f36.b L N some d.1) (by kernel_rfl) hy)
 ·intro y hy
  cases hy
def Φ36 (L N:Nat):Tells:=(addT (Φ67 L N) 36 (f36.ent L N))
theorem Φ36_ok (L N:Nat):TellsOk Tryz.prog (Φ36 L N):=addT_ok (Φ67_ok L N) (f36.ok L N (Φ67_ok L N))
def f146.s0' {R:Type} (L N:Nat) (k0_e0:Option R) (k0_r:Bool->Option R) (rec0:LI->LI->Int->Int->Option R) (s0:LI) (s1:LI) (s2:Int) (s3:Int):Option R:=
 bif (decide (s3<s2)) then
  bif (decide (0≤s3)&&decide (s3<(s0.length:Int))) then
   bif (decide (0≤s3)&&decide (s3<(s1.length:Int))) then
    bif ((listAt s0 (0:Int) s3.toNat) !=(listAt s1 (0:Int) s3.toNat)) then
     k0_r false
    else rec0 s0 s1 s2 (wi (s3+(1:Int)))
   else none
  else none
 else k0_e0
def f146.s0 {R:Type} (L N:Nat) (k0_e0:Option R) (k0_r:Bool->Option R) (rec0:LI->LI->Int->Int->Option R) (s0:LI) (s1:LI) (s2:Int) (s3:Int):Option R:=
 f146.s0' L N k0_e0 k0_r rec0 s0 s1 s2 s3
def f146.l0 {R:Type} (L N:Nat) (k0_e0:Option R) (k0_r:Bool->Option R):Nat->LI->LI->Int->Int->Option R
 |0,_,_,_,_=>none
 |n+1,s0,s1,s2,s3=>f146.s0 L N k0_e0 k0_r (f146.l0 L N k0_e0 k0_r n) s0 s1 s2 s3
def f146.T0 (s0:LI) (s1:LI) (s2:Int) (s3:Int):T:=mkT 26 [(0,(.tv (.sl i64) s0)),(1,(.tv (.sl i64) s1)),(12,(.tv i64 s2)),(13,(.tv i64 s3))]
def f146.H0 (s0:LI) (s1:LI) (s2:Int) (s3:Int):H:=[]
def f146.T0_e0:T:=mkT 26 []
def f146.H0_e0:H:=[]
def f146.T0_r (z4:Bool):T:=mkT 26 [(4,(.tv .bool z4))]
def f146.H0_r (z4:Bool):H:=[]
def f146.p0_e0' {R:Type} (L N:Nat) (k:Bool->Option R):Option R:=
 k true
def f146.p0_e0 {R:Type} (L N:Nat) (k:Bool->Option R):Option R:=
 f146.p0_e0' L N k
def f146.p0_r' {R:Type} (L N:Nat) (k:Bool->Option R) (z4:Bool):Option R:=
 k z4
def f146.p0_r {R:Type} (L N:Nat) (k:Bool->Option R) (z4:Bool):Option R:=
 f146.p0_r' L N k z4
def f146.b' {R:Type} (L N:Nat) (k:Bool->Option R) (w0:LI->LI->Int->Int->Option R) (x0:LI) (x1:LI):Option R:=
 bif ((x0.length:Int) !=(x1.length:Int)) then
  k false
 else w0 x0 x1 (x0.length:Int) (0:Int)
def f146.b {R:Type} (L N:Nat) (k:Bool->Option R) (x0:LI) (x1:LI):Option R:=
 f146.b' L N k (fun s0 s1 s2 s3=>f146.l0 L N (f146.p0_e0 L N k) (fun z4=>f146.p0_r L N k z4) L s0 s1 s2 s3) x0 x1
def f146 (L N:Nat) (x0:LI) (x1:LI):Option (Bool):=f146.b L N some x0 x1
def f146.ent (L N:Nat):=entRo [(.sl i64),(.sl i64)] (.one .bool) fun d=>f146 L N d.1 d.2.1
noncomputable def E146 (L N:Nat):Env:={P:=Tryz.prog,ty:=tyOf,Φ:=(Φ36 L N),inl:=inlT,live:=lives,liveX:=livesX,L:=L,dp:=none,prom:=promT,heal:=healT,ren:=renT}
noncomputable def f146.c0:Code:=loopAt 0 (codeOf Tryz.f146)
def f146.X0_e0 {R:Type} (κ:KX R):=κ (.exit 0) f146.T0_e0 f146.H0_e0
def f146.X0_r {R:Type} (κ:KX R):=fun z4=>κ .ret (f146.T0_r z4) (f146.H0_r z4)
def f146.R0 {R:Type} (rec:KT R):=fun s0 s1 s2 s3=>rec (f146.T0 s0 s1 s2 s3) (f146.H0 s0 s1 s2 s3)
theorem f146.s0_eq {R:Type} (L N:Nat) (κ:KX R) (rec:KT R) (s0:LI) (s1:LI) (s2:Int) (s3:Int):
  evRd (E146 L N) (evCallI (E146 L N) 0 1000) 1000 146 26 0 f146.c0 κ rec (f146.T0 s0 s1 s2 s3) (f146.H0 s0 s1 s2 s3)
  =f146.s0 L N (f146.X0_e0 κ) (f146.X0_r κ) (f146.R0 rec) s0 s1 s2 s3:=by kernel_rfl
theorem f146.l0_eq {R:Type} (L N:Nat) (κ:KX R):∀(n:Nat) (s0:LI) (s1:LI) (s2:Int) (s3:Int),
  evLp (E146 L N) (evCallI (E146 L N) 0 1000) 1000 146 26 0 f146.c0 κ n (f146.T0 s0 s1 s2 s3) (f146.H0 s0 s1 s2 s3)
  =f146.l0 L N (f146.X0_e0 κ) (f146.X0_r κ) n s0 s1 s2 s3:=by
 intro n
 induction n with
 |zero=>intros;rfl
 |succ n ih=>
  intro s0 s1 s2 s3
  rw [evLp_succ,f146.s0_eq]
  delta f146.R0
  simp only [ih]
  rfl
theorem f146.p0_e0_eq {R:Type} (L N:Nat) (κ:AV->Option R):
  (contAt (E146 L N) (evCallI (E146 L N) 0 1000) 1000 146 26 0 (codeOf Tryz.f146) (finK (E146 L N) 1000 Tryz.f146 (finC (.one .bool) κ))) (.exit 0) f146.T0_e0 f146.H0_e0
  =f146.p0_e0 L N (fun a0=>κ (.tv .bool a0)):=by kernel_rfl
theorem f146.p0_r_eq {R:Type} (L N:Nat) (κ:AV->Option R) (z4:Bool):
  (contAt (E146 L N) (evCallI (E146 L N) 0 1000) 1000 146 26 0 (codeOf Tryz.f146) (finK (E146 L N) 1000 Tryz.f146 (finC (.one .bool) κ))) .ret (f146.T0_r z4) (f146.H0_r z4)
  =f146.p0_r L N (fun a0=>κ (.tv .bool a0)) z4:=by kernel_rfl
theorem f146.b_eq {R:Type} (L N:Nat) (κ:AV->Option R) (x0:LI) (x1:LI):
  evBody (E146 L N) (evCallI (E146 L N) 0 1000) 1000 146 Tryz.f146 [(.tv (.sl i64) x0),(.tv (.sl i64) x1)] [] [] (finC (.one .bool) κ)
  =f146.b L N (fun a0=>κ (.tv .bool a0)) x0 x1:=by
 refine Eq.trans (b:=f146.b' L N (fun a0=>κ (.tv .bool a0)) (fun s0 s1 s2 s3=>evLp (E146 L N) (evCallI (E146 L N) 0 1000) 1000 146 26 0 f146.c0 (contAt (E146 L N) (evCallI (E146 L N) 0 1000) 1000 146 26 0 (codeOf Tryz.f146) (finK (E146 L N) 1000 Tryz.f146 (finC (.one .bool) κ))) L (f146.T0 s0 s1 s2 s3) (f146.H0 s0 s1 s2 s3)) x0 x1) (by kernel_rfl) ?_
 unfold f146.b
 simp only [f146.l0_eq]
 delta f146.X0_e0 f146.X0_r
 simp only [f146.p0_e0_eq,f146.p0_r_eq]
theorem f146.ok (L N:Nat) (hΦ:TellsOk Tryz.prog ((Φ36 L N))):EntOk Tryz.prog 146 (f146.ent L N):=entRo_ok (E:=(E146 L N)) (dep:=1000) (f:=Tryz.f146) (sound_of hΦ) okP (callI_sound (sound_of hΦ) okP 0 1000) rfl rfl fun d _ hy=>(f146.b_eq L N (unR (.one .bool)) d.1 d.2.1).trans (Eq.trans (b:=f146.b L N some d.1 d.2.1) (by kernel_rfl) hy)
def Φ146 (L N:Nat):Tells:=(addT (Φ36 L N) 146 (f146.ent L N))
theorem Φ146_ok (L N:Nat):TellsOk Tryz.prog (Φ146 L N):=addT_ok (Φ36_ok L N) (f146.ok L N (Φ36_ok L N))
def f185.s0' {R:Type} (L N:Nat) (k0_e0:Option R) (k0_r:Bool->Option R) (rec0:LM->LM->Int->Int->Option R) (s0:LM) (s1:LM) (s2:Int) (s3:Int):Option R:=
 bif (decide (s3<s2)) then
  bif (decide (0≤s3)&&decide (s3<(s0.length:Int))) then
   bif (decide (0≤s3)&&decide (s3<(s1.length:Int))) then
    bif (!(Move.eqb (listAt s0 (Ty.dflt (.st 0)) s3.toNat) (listAt s1 (Ty.dflt (.st 0)) s3.toNat))) then
     k0_r false
    else rec0 s0 s1 s2 (wi (s3+(1:Int)))
   else none
  else none
 else k0_e0
def f185.s0 {R:Type} (L N:Nat) (k0_e0:Option R) (k0_r:Bool->Option R) (rec0:LM->LM->Int->Int->Option R) (s0:LM) (s1:LM) (s2:Int) (s3:Int):Option R:=
 f185.s0' L N k0_e0 k0_r rec0 s0 s1 s2 s3
def f185.l0 {R:Type} (L N:Nat) (k0_e0:Option R) (k0_r:Bool->Option R):Nat->LM->LM->Int->Int->Option R
 |0,_,_,_,_=>none
 |n+1,s0,s1,s2,s3=>f185.s0 L N k0_e0 k0_r (f185.l0 L N k0_e0 k0_r n) s0 s1 s2 s3
def f185.T0 (s0:LM) (s1:LM) (s2:Int) (s3:Int):T:=mkT 26 [(0,(.tv (.sl (.st 0)) s0)),(1,(.tv (.sl (.st 0)) s1)),(12,(.tv i64 s2)),(13,(.tv i64 s3))]
def f185.H0 (s0:LM) (s1:LM) (s2:Int) (s3:Int):H:=[]
def f185.T0_e0:T:=mkT 26 []
def f185.H0_e0:H:=[]
def f185.T0_r (z4:Bool):T:=mkT 26 [(4,(.tv .bool z4))]
def f185.H0_r (z4:Bool):H:=[]
def f185.p0_e0' {R:Type} (L N:Nat) (k:Bool->Option R):Option R:=
 k true
def f185.p0_e0 {R:Type} (L N:Nat) (k:Bool->Option R):Option R:=
 f185.p0_e0' L N k
def f185.p0_r' {R:Type} (L N:Nat) (k:Bool->Option R) (z4:Bool):Option R:=
 k z4
def f185.p0_r {R:Type} (L N:Nat) (k:Bool->Option R) (z4:Bool):Option R:=
 f185.p0_r' L N k z4
def f185.b' {R:Type} (L N:Nat) (k:Bool->Option R) (w0:LM->LM->Int->Int->Option R) (x0:LM) (x1:LM):Option R:=
 bif ((x0.length:Int) !=(x1.length:Int)) then
  k false
 else w0 x0 x1 (x0.length:Int) (0:Int)
def f185.b {R:Type} (L N:Nat) (k:Bool->Option R) (x0:LM) (x1:LM):Option R:=
 f185.b' L N k (fun s0 s1 s2 s3=>f185.l0 L N (f185.p0_e0 L N k) (fun z4=>f185.p0_r L N k z4) L s0 s1 s2 s3) x0 x1
def f185 (L N:Nat) (x0:LM) (x1:LM):Option (Bool):=f185.b L N some x0 x1
def f185.ent (L N:Nat):=entRo [(.sl (.st 0)),(.sl (.st 0))] (.one .bool) fun d=>f185 L N d.1 d.2.1
noncomputable def E185 (L N:Nat):Env:={P:=Tryz.prog,ty:=tyOf,Φ:=(Φ146 L N),inl:=inlT,live:=lives,liveX:=livesX,L:=L,dp:=none,prom:=promT,heal:=healT,ren:=renT}
noncomputable def f185.c0:Code:=loopAt 0 (codeOf Tryz.f185)
def f185.X0_e0 {R:Type} (κ:KX R):=κ (.exit 0) f185.T0_e0 f185.H0_e0
def f185.X0_r {R:Type} (κ:KX R):=fun z4=>κ .ret (f185.T0_r z4) (f185.H0_r z4)
def f185.R0 {R:Type} (rec:KT R):=fun s0 s1 s2 s3=>rec (f185.T0 s0 s1 s2 s3) (f185.H0 s0 s1 s2 s3)
theorem f185.s0_eq {R:Type} (L N:Nat) (κ:KX R) (rec:KT R) (s0:LM) (s1:LM) (s2:Int) (s3:Int):
  evRd (E185 L N) (evCallI (E185 L N) 0 1000) 1000 185 26 0 f185.c0 κ rec (f185.T0 s0 s1 s2 s3) (f185.H0 s0 s1 s2 s3)
  =f185.s0 L N (f185.X0_e0 κ) (f185.X0_r κ) (f185.R0 rec) s0 s1 s2 s3:=by kernel_rfl
theorem f185.l0_eq {R:Type} (L N:Nat) (κ:KX R):∀(n:Nat) (s0:LM) (s1:LM) (s2:Int) (s3:Int),
  evLp (E185 L N) (evCallI (E185 L N) 0 1000) 1000 185 26 0 f185.c0 κ n (f185.T0 s0 s1 s2 s3) (f185.H0 s0 s1 s2 s3)
  =f185.l0 L N (f185.X0_e0 κ) (f185.X0_r κ) n s0 s1 s2 s3:=by
 intro n
 induction n with
 |zero=>intros;rfl
 |succ n ih=>
  intro s0 s1 s2 s3
  rw [evLp_succ,f185.s0_eq]
  delta f185.R0
  simp only [ih]
  rfl
theorem f185.p0_e0_eq {R:Type} (L N:Nat) (κ:AV->Option R):
  (contAt (E185 L N) (evCallI (E185 L N) 0 1000) 1000 185 26 0 (codeOf Tryz.f185) (finK (E185 L N) 1000 Tryz.f185 (finC (.one .bool) κ))) (.exit 0) f185.T0_e0 f185.H0_e0
  =f185.p0_e0 L N (fun a0=>κ (.tv .bool a0)):=by kernel_rfl
theorem f185.p0_r_eq {R:Type} (L N:Nat) (κ:AV->Option R) (z4:Bool):
  (contAt (E185 L N) (evCallI (E185 L N) 0 1000) 1000 185 26 0 (codeOf Tryz.f185) (finK (E185 L N) 1000 Tryz.f185 (finC (.one .bool) κ))) .ret (f185.T0_r z4) (f185.H0_r z4)
  =f185.p0_r L N (fun a0=>κ (.tv .bool a0)) z4:=by kernel_rfl
theorem f185.b_eq {R:Type} (L N:Nat) (κ:AV->Option R) (x0:LM) (x1:LM):
  evBody (E185 L N) (evCallI (E185 L N) 0 1000) 1000 185 Tryz.f185 [(.tv (.sl (.st 0)) x0),(.tv (.sl (.st 0)) x1)] [] [] (finC (.one .bool) κ)
  =f185.b L N (fun a0=>κ (.tv .bool a0)) x0 x1:=by
 refine Eq.trans (b:=f185.b' L N (fun a0=>κ (.tv .bool a0)) (fun s0 s1 s2 s3=>evLp (E185 L N) (evCallI (E185 L N) 0 1000) 1000 185 26 0 f185.c0 (contAt (E185 L N) (evCallI (E185 L N) 0 1000) 1000 185 26 0 (codeOf Tryz.f185) (finK (E185 L N) 1000 Tryz.f185 (finC (.one .bool) κ))) L (f185.T0 s0 s1 s2 s3) (f185.H0 s0 s1 s2 s3)) x0 x1) (by kernel_rfl) ?_
 unfold f185.b
 simp only [f185.l0_eq]
 delta f185.X0_e0 f185.X0_r
 simp only [f185.p0_e0_eq,f185.p0_r_eq]
theorem f185.ok (L N:Nat) (hΦ:TellsOk Tryz.prog ((Φ146 L N))):EntOk Tryz.prog 185 (f185.ent L N):=entRo_ok (E:=(E185 L N)) (dep:=1000) (f:=Tryz.f185) (sound_of hΦ) okP (callI_sound (sound_of hΦ) okP 0 1000) rfl rfl fun d _ hy=>(f185.b_eq L N (unR (.one .bool)) d.1 d.2.1).trans (Eq.trans (b:=f185.b L N some d.1 d.2.1) (by kernel_rfl) hy)
def Φ185 (L N:Nat):Tells:=(addT (Φ146 L N) 185 (f185.ent L N))
theorem Φ185_ok (L N:Nat):TellsOk Tryz.prog (Φ185 L N):=addT_ok (Φ146_ok L N) (f185.ok L N (Φ146_ok L N))
def f112_1.s0' {R:Type} (L N:Nat) (k0_e0:LM->Option R) (rec0:LI->LM->Int->Int->LM->Option R) (s0:LI) (s1:LM) (s2:Int) (s3:Int) (s4:LM):Option R:=
 bif (decide (s3<s2)) then
  bif (decide (0≤s3)&&decide (s3<(s1.length:Int))) then
   bif (decide (0≤(listAt s1 (Ty.dflt (.st 0)) s3.toNat).to)&&decide ((listAt s1 (Ty.dflt (.st 0)) s3.toNat).to<(s0.length:Int))) then
    bif (decide (s4.length+([(Move.mk ((listAt s1 (Ty.dflt (.st 0)) s3.toNat).act) (listAt s0 (0:Int) ((listAt s1 (Ty.dflt (.st 0)) s3.toNat).to).toNat))]:LM).length≤lim)) then
     rec0 s0 s1 s2 (wi (s3+(1:Int))) (s4++([(Move.mk ((listAt s1 (Ty.dflt (.st 0)) s3.toNat).act) (listAt s0 (0:Int) ((listAt s1 (Ty.dflt (.st 0)) s3.toNat).to).toNat))]:LM))
    else none
   else none
  else none
 else k0_e0 s4
def f112_1.s0 {R:Type} (L N:Nat) (k0_e0:LM->Option R) (rec0:LI->LM->Int->Int->LM->Option R) (s0:LI) (s1:LM) (s2:Int) (s3:Int) (s4:LM):Option R:=
 f112_1.s0' L N k0_e0 rec0 s0 s1 s2 s3 s4
def f112_1.l0 {R:Type} (L N:Nat) (k0_e0:LM->Option R):Nat->LI->LM->Int->Int->LM->Option R
 |0,_,_,_,_,_=>none
 |n+1,s0,s1,s2,s3,s4=>f112_1.s0 L N k0_e0 (f112_1.l0 L N k0_e0 n) s0 s1 s2 s3 s4
def f112_1.T0 (s0:LI) (s1:LM) (s2:Int) (s3:Int) (s4:LM):T:=mkT 34 [(0,(.tv (.sl i64) s0)),(6,(.row 1009)),(14,(.tv (.sl (.st 0)) s1)),(15,(.tv i64 s2)),(16,(.tv i64 s3))]
def f112_1.H0 (s0:LI) (s1:LM) (s2:Int) (s3:Int) (s4:LM):H:=[(1009,(.row 63 (.st 0) s4))]
def f112_1.T0_e0 (z5:LM):T:=mkT 34 [(6,(.row 1009))]
def f112_1.H0_e0 (z5:LM):H:=[(1009,(.row 63 (.st 0) z5))]
def f112_1.p0_e0' {R:Type} (L N:Nat) (k:LM->Option R) (z5:LM):Option R:=
 ((fsortM z5)).bind fun y6=>
 k (tidyM z5)
def f112_1.p0_e0 {R:Type} (L N:Nat) (k:LM->Option R) (z5:LM):Option R:=
 f112_1.p0_e0' L N k z5
def f112_1.b' {R:Type} (L N:Nat) (k:LM->Option R) (w0:LI->LM->Int->Int->LM->Option R) (x0:LI) (x1:Int) (x2:LLM):Option R:=
 bif (decide (0≤x1)&&decide (x1<(x2.length:Int))) then
  w0 x0 (listAt x2 [] x1.toNat) ((listAt x2 [] x1.toNat).length:Int) (0:Int) ([]:LM)
 else none
def f112_1.b {R:Type} (L N:Nat) (k:LM->Option R) (x0:LI) (x1:Int) (x2:LLM):Option R:=
 f112_1.b' L N k (fun s0 s1 s2 s3 s4=>f112_1.l0 L N (fun z5=>f112_1.p0_e0 L N k z5) L s0 s1 s2 s3 s4) x0 x1 x2
def f112_1 (L N:Nat) (x0:LI) (x1:Int) (x2:LLM):Option (LM):=f112_1.b L N some x0 x1 x2
def f112_1.ent (L N:Nat):=entDf [(.dat (.sl i64)),(.dat i64),(.imp (.sl (.sl (.st 0))) 0)] (.one (.sl (.st 0))) fun d=>f112_1 L N d.1 d.2.1 d.2.2.1
noncomputable def E112_1 (L N:Nat):Env:={P:=Tryz.prog,ty:=tyOf,Φ:=(Φ185 L N),inl:=inlT,live:=lives,liveX:=livesX,L:=L,dp:=none,prom:=promT,heal:=healT,ren:=renT}
noncomputable def f112_1.c0:Code:=loopAt 0 (codeOf Tryz.f112)
def f112_1.X0_e0 {R:Type} (κ:KX R):=fun z5=>κ (.exit 0) (f112_1.T0_e0 z5) (f112_1.H0_e0 z5)
def f112_1.R0 {R:Type} (rec:KT R):=fun s0 s1 s2 s3 s4=>rec (f112_1.T0 s0 s1 s2 s3 s4) (f112_1.H0 s0 s1 s2 s3 s4)
theorem f112_1.s0_eq {R:Type} (L N:Nat) (κ:KX R) (rec:KT R) (s0:LI) (s1:LM) (s2:Int) (s3:Int) (s4:LM):
  evRd (E112_1 L N) (evCallI (E112_1 L N) 0 1000) 1000 112 34 0 f112_1.c0 κ rec (f112_1.T0 s0 s1 s2 s3 s4) (f112_1.H0 s0 s1 s2 s3 s4)
  =f112_1.s0 L N (f112_1.X0_e0 κ) (f112_1.R0 rec) s0 s1 s2 s3 s4:=by kernel_rfl
theorem f112_1.l0_eq {R:Type} (L N:Nat) (κ:KX R):∀(n:Nat) (s0:LI) (s1:LM) (s2:Int) (s3:Int) (s4:LM),
  evLp (E112_1 L N) (evCallI (E112_1 L N) 0 1000) 1000 112 34 0 f112_1.c0 κ n (f112_1.T0 s0 s1 s2 s3 s4) (f112_1.H0 s0 s1 s2 s3 s4)
  =f112_1.l0 L N (f112_1.X0_e0 κ) n s0 s1 s2 s3 s4:=by
 intro n
 induction n with
 |zero=>intros;rfl
 |succ n ih=>
  intro s0 s1 s2 s3 s4
  rw [evLp_succ,f112_1.s0_eq]
  delta f112_1.R0
  simp only [ih]
  rfl
theorem f112_1.p0_e0_eq {R:Type} (L N:Nat) (κ:AV->Option R) (z5:LM):
  (contAt (E112_1 L N) (evCallI (E112_1 L N) 0 1000) 1000 112 34 0 (codeOf Tryz.f112) (finK (E112_1 L N) 1000 Tryz.f112 (finC (.one (.sl (.st 0))) κ))) (.exit 0) (f112_1.T0_e0 z5) (f112_1.H0_e0 z5)
  =f112_1.p0_e0 L N (fun a0=>κ (.tv (.sl (.st 0)) a0)) z5:=by kernel_rfl
theorem f112_1.b_eq {R:Type} (L N:Nat) (κ:AV->Option R) (x0:LI) (x1:Int) (x2:LLM):
  evBody (E112_1 L N) (evCallI (E112_1 L N) 0 1000) 1000 112 Tryz.f112 [(.tv (.sl i64) x0),(.tv i64 x1),(.imp (.sl (.sl (.st 0))) x2 0)] [] [] (finC (.one (.sl (.st 0))) κ)
  =f112_1.b L N (fun a0=>κ (.tv (.sl (.st 0)) a0)) x0 x1 x2:=by
 refine Eq.trans (b:=f112_1.b' L N (fun a0=>κ (.tv (.sl (.st 0)) a0)) (fun s0 s1 s2 s3 s4=>evLp (E112_1 L N) (evCallI (E112_1 L N) 0 1000) 1000 112 34 0 f112_1.c0 (contAt (E112_1 L N) (evCallI (E112_1 L N) 0 1000) 1000 112 34 0 (codeOf Tryz.f112) (finK (E112_1 L N) 1000 Tryz.f112 (finC (.one (.sl (.st 0))) κ))) L (f112_1.T0 s0 s1 s2 s3 s4) (f112_1.H0 s0 s1 s2 s3 s4)) x0 x1 x2) (by kernel_rfl) ?_
 unfold f112_1.b
 simp only [f112_1.l0_eq]
 delta f112_1.X0_e0
 simp only [f112_1.p0_e0_eq]
theorem f112_1.ok (L N:Nat) (hΦ:TellsOk Tryz.prog ((Φ185 L N))):EntOkO Tryz.prog 112 (f112_1.ent L N):=entDf_ok (E:=(E112_1 L N)) (dep:=1000) (f:=Tryz.f112) (sound_of hΦ) okP (callI_sound (sound_of hΦ) okP 0 1000) rfl fun d _ hy=>(f112_1.b_eq L N (unR (.one (.sl (.st 0)))) d.1 d.2.1 d.2.2.1).trans (Eq.trans (b:=f112_1.b L N some d.1 d.2.1 d.2.2.1) (by kernel_rfl) hy)
def Φ112_1 (L N:Nat):Tells:=(addO (Φ185 L N) 112 (f112_1.ent L N))
theorem Φ112_1_ok (L N:Nat):TellsOk Tryz.prog (Φ112_1 L N):=addO_ok (Φ185_ok L N) (f112_1.ok L N (Φ185_ok L N))
def f145_1.b' {R:Type} (L N:Nat) (k:LM->Option R) (x0:Int) (x1:LLM) (x2:LI):Option R:=
 (f112_1 L N x2 x0 x1).bind fun y0=>
 k y0
def f145_1.b {R:Type} (L N:Nat) (k:LM->Option R) (x0:Int) (x1:LLM) (x2:LI):Option R:=
 f145_1.b' L N k x0 x1 x2
def f145_1 (L N:Nat) (x0:Int) (x1:LLM) (x2:LI):Option (LM):=f145_1.b L N some x0 x1 x2
def f145_1.ent (L N:Nat):=entDf [(.dat i64),(.pfn 112 [(.imp (.sl (.sl (.st 0))) 0)]),(.imp (.sl i64) 0)] (.one (.sl (.st 0))) fun d=>f145_1 L N d.1 d.2.1.1 d.2.2.1
noncomputable def E145_1 (L N:Nat):Env:={P:=Tryz.prog,ty:=tyOf,Φ:=(Φ112_1 L N),inl:=inlT,live:=lives,liveX:=livesX,L:=L,dp:=none,prom:=promT,heal:=healT,ren:=renT}
theorem f145_1.b_eq {R:Type} (L N:Nat) (κ:AV->Option R) (x0:Int) (x1:LLM) (x2:LI):
  evBody (E145_1 L N) (evCallI (E145_1 L N) 0 1000) 1000 145 Tryz.f145 [(.tv i64 x0),(.imf 112 [(.imp (.sl (.sl (.st 0))) x1 0)]),(.imp (.sl i64) x2 0)] [] [] (finC (.one (.sl (.st 0))) κ)
  =f145_1.b L N (fun a0=>κ (.tv (.sl (.st 0)) a0)) x0 x1 x2:=by kernel_rfl
theorem f145_1.ok (L N:Nat) (hΦ:TellsOk Tryz.prog ((Φ112_1 L N))):EntOkO Tryz.prog 145 (f145_1.ent L N):=entDf_ok (E:=(E145_1 L N)) (dep:=1000) (f:=Tryz.f145) (sound_of hΦ) okP (callI_sound (sound_of hΦ) okP 0 1000) rfl fun d _ hy=>(f145_1.b_eq L N (unR (.one (.sl (.st 0)))) d.1 d.2.1.1 d.2.2.1).trans (Eq.trans (b:=f145_1.b L N some d.1 d.2.1.1 d.2.2.1) (by kernel_rfl) hy)
def Φ145_1 (L N:Nat):Tells:=(addO (Φ112_1 L N) 145 (f145_1.ent L N))
theorem Φ145_1_ok (L N:Nat):TellsOk Tryz.prog (Φ145_1 L N):=addO_ok (Φ112_1_ok L N) (f145_1.ok L N (Φ112_1_ok L N))
def f144_1.j0' {R:Type} (L N:Nat) (k1_e2:LI->LLM->LI->Int->Int->LI->LLM->Option R) (rec1:LI->LLM->LI->Int->Int->Int->Int->LI->LLM->Option R) (v26:LI) (v27:LLM) (v28:LI) (v29:Int) (v30:Int) (v31:Int) (v32:Int) (v33:Bool) (v34:LI) (v35:LLM):Option R:=
 bif v33 then
  bif (decide (0≤v29)&&decide (v29<(v34.length:Int))) then
   k1_e2 v26 v27 v28 v31 v32 (v34.set v29.toNat v30) v35
  else none
 else rec1 v26 v27 v28 v29 (wi (v30+(1:Int))) v31 v32 v34 v35
def f144_1.s1' {R:Type} (L N:Nat) (k1_e2:LI->LLM->LI->Int->Int->LI->LLM->Option R) (rec1:LI->LLM->LI->Int->Int->Int->Int->LI->LLM->Option R) (s9:LI) (s10:LLM) (s11:LI) (s12:Int) (s13:Int) (s14:Int) (s15:Int) (s16:LI) (s17:LLM):Option R:=
 bif (decide (s13<s12)) then
  bif (decide (0≤s13)&&decide (s13<(s9.length:Int))) then
   bif (decide (0≤s12)&&decide (s12<(s9.length:Int))) then
    bif ((listAt s9 (0:Int) s13.toNat)==(listAt s9 (0:Int) s12.toNat)) then
     bif (decide (0≤s13)&&decide (s13<(s17.length:Int))) then
      bif (decide (0≤s12)&&decide (s12<(s17.length:Int))) then
       (f185 L N (listAt s17 [] s13.toNat) (listAt s17 [] s12.toNat)).bind fun y25=>
       f144_1.j0' L N k1_e2 rec1 s9 s10 s11 s12 s13 s14 s15 y25 s16 s17
      else none
     else none
    else f144_1.j0' L N k1_e2 rec1 s9 s10 s11 s12 s13 s14 s15 false s16 s17
   else none
  else none
 else k1_e2 s9 s10 s11 s14 s15 s16 s17
def f144_1.s1 {R:Type} (L N:Nat) (k1_e2:LI->LLM->LI->Int->Int->LI->LLM->Option R) (rec1:LI->LLM->LI->Int->Int->Int->Int->LI->LLM->Option R) (s9:LI) (s10:LLM) (s11:LI) (s12:Int) (s13:Int) (s14:Int) (s15:Int) (s16:LI) (s17:LLM):Option R:=
 f144_1.s1' L N k1_e2 rec1 s9 s10 s11 s12 s13 s14 s15 s16 s17
def f144_1.l1 {R:Type} (L N:Nat) (k1_e2:LI->LLM->LI->Int->Int->LI->LLM->Option R):Nat->LI->LLM->LI->Int->Int->Int->Int->LI->LLM->Option R
 |0,_,_,_,_,_,_,_,_,_=>none
 |n+1,s9,s10,s11,s12,s13,s14,s15,s16,s17=>f144_1.s1 L N k1_e2 (f144_1.l1 L N k1_e2 n) s9 s10 s11 s12 s13 s14 s15 s16 s17
def f144_1.T1 (s9:LI) (s10:LLM) (s11:LI) (s12:Int) (s13:Int) (s14:Int) (s15:Int) (s16:LI) (s17:LLM):T:=mkT 61 [(0,(.tv (.sl i64) s9)),(1,(.fn 145 [(.imf 112 [(.imp (.sl (.sl (.st 0))) s10 0)]),(.imp (.sl i64) s11 0)])),(5,(.row 1011)),(6,(.row 1014)),(7,(.tv i64 s12)),(8,(.tv i64 s13)),(16,(.tv i64 s14)),(17,(.tv i64 s15))]
def f144_1.H1 (s9:LI) (s10:LLM) (s11:LI) (s12:Int) (s13:Int) (s14:Int) (s15:Int) (s16:LI) (s17:LLM):H:=[(1011,(.row 3 i64 s16)),(1014,(.row 61 (.sl (.st 0)) s17))]
def f144_1.T1_e2 (z18:LI) (z19:LLM) (z20:LI) (z21:Int) (z22:Int) (z23:LI) (z24:LLM):T:=mkT 61 [(0,(.tv (.sl i64) z18)),(1,(.fn 145 [(.imf 112 [(.imp (.sl (.sl (.st 0))) z19 0)]),(.imp (.sl i64) z20 0)])),(5,(.row 1011)),(6,(.row 1014)),(16,(.tv i64 z21)),(17,(.tv i64 z22))]
def f144_1.H1_e2 (z18:LI) (z19:LLM) (z20:LI) (z21:Int) (z22:Int) (z23:LI) (z24:LLM):H:=[(1011,(.row 3 i64 z23)),(1014,(.row 61 (.sl (.st 0)) z24))]
def f144_1.p1_e2' {R:Type} (L N:Nat) (k0_e0:LI->Option R) (rec0:LI->LLM->LI->Int->Int->LI->LLM->Option R) (z18:LI) (z19:LLM) (z20:LI) (z21:Int) (z22:Int) (z23:LI) (z24:LLM):Option R:=
 rec0 z18 z19 z20 z21 (wi (z22+(1:Int))) z23 z24
def f144_1.p1_e2 {R:Type} (L N:Nat) (k0_e0:LI->Option R) (rec0:LI->LLM->LI->Int->Int->LI->LLM->Option R) (z18:LI) (z19:LLM) (z20:LI) (z21:Int) (z22:Int) (z23:LI) (z24:LLM):Option R:=
 f144_1.p1_e2' L N k0_e0 rec0 z18 z19 z20 z21 z22 z23 z24
def f144_1.s0' {R:Type} (L N:Nat) (k0_e0:LI->Option R) (rec0:LI->LLM->LI->Int->Int->LI->LLM->Option R) (w1:LI->LLM->LI->Int->Int->Int->Int->LI->LLM->Option R) (s0:LI) (s1:LLM) (s2:LI) (s3:Int) (s4:Int) (s5:LI) (s6:LLM):Option R:=
 bif (decide (s4<s3)) then
  (f145_1 L N s4 s1 s2).bind fun y8=>
  bif (decide (0≤s4)&&decide (s4<(s6.length:Int))) then
   bif (decide (0≤s4)&&decide (s4<(s5.length:Int))) then
    w1 s0 s1 s2 s4 (0:Int) s3 s4 (s5.set s4.toNat s4) (s6.set s4.toNat y8)
   else none
  else none
 else k0_e0 s5
def f144_1.s0 {R:Type} (L N:Nat) (k0_e0:LI->Option R) (rec0:LI->LLM->LI->Int->Int->LI->LLM->Option R) (s0:LI) (s1:LLM) (s2:LI) (s3:Int) (s4:Int) (s5:LI) (s6:LLM):Option R:=
 f144_1.s0' L N k0_e0 rec0 (fun s9 s10 s11 s12 s13 s14 s15 s16 s17=>f144_1.l1 L N (fun z18 z19 z20 z21 z22 z23 z24=>f144_1.p1_e2 L N k0_e0 rec0 z18 z19 z20 z21 z22 z23 z24) L s9 s10 s11 s12 s13 s14 s15 s16 s17) s0 s1 s2 s3 s4 s5 s6
def f144_1.l0 {R:Type} (L N:Nat) (k0_e0:LI->Option R):Nat->LI->LLM->LI->Int->Int->LI->LLM->Option R
 |0,_,_,_,_,_,_,_=>none
 |n+1,s0,s1,s2,s3,s4,s5,s6=>f144_1.s0 L N k0_e0 (f144_1.l0 L N k0_e0 n) s0 s1 s2 s3 s4 s5 s6
def f144_1.T0 (s0:LI) (s1:LLM) (s2:LI) (s3:Int) (s4:Int) (s5:LI) (s6:LLM):T:=mkT 61 [(0,(.tv (.sl i64) s0)),(1,(.fn 145 [(.imf 112 [(.imp (.sl (.sl (.st 0))) s1 0)]),(.imp (.sl i64) s2 0)])),(5,(.row 1011)),(6,(.row 1014)),(16,(.tv i64 s3)),(17,(.tv i64 s4))]
def f144_1.H0 (s0:LI) (s1:LLM) (s2:LI) (s3:Int) (s4:Int) (s5:LI) (s6:LLM):H:=[(1011,(.row 3 i64 s5)),(1014,(.row 61 (.sl (.st 0)) s6))]
def f144_1.T0_e0 (z7:LI):T:=mkT 61 [(5,(.row 1011))]
def f144_1.H0_e0 (z7:LI):H:=[(1011,(.row 3 i64 z7))]
def f144_1.p0_e0' {R:Type} (L N:Nat) (k:LI->Option R) (z7:LI):Option R:=
 k z7
def f144_1.p0_e0 {R:Type} (L N:Nat) (k:LI->Option R) (z7:LI):Option R:=
 f144_1.p0_e0' L N k z7
def f144_1.b' {R:Type} (L N:Nat) (k:LI->Option R) (w0:LI->LLM->LI->Int->Int->LI->LLM->Option R) (x0:LI) (x1:LLM) (x2:LI):Option R:=
 bif (decide (0≤(x0.length:Int))&&decide ((x0.length:Int)≤(lim:Int))) then
  bif (decide (0≤(x0.length:Int))&&decide ((x0.length:Int)≤(lim:Int))) then
   w0 x0 x1 x2 (x0.length:Int) (0:Int) (List.replicate (x0.length:Int).toNat (0:Int)) (List.replicate (x0.length:Int).toNat [])
  else none
 else none
def f144_1.b {R:Type} (L N:Nat) (k:LI->Option R) (x0:LI) (x1:LLM) (x2:LI):Option R:=
 f144_1.b' L N k (fun s0 s1 s2 s3 s4 s5 s6=>f144_1.l0 L N (fun z7=>f144_1.p0_e0 L N k z7) L s0 s1 s2 s3 s4 s5 s6) x0 x1 x2
def f144_1 (L N:Nat) (x0:LI) (x1:LLM) (x2:LI):Option (LI):=f144_1.b L N some x0 x1 x2
def f144_1.ent (L N:Nat) (args:List AV) (vw:View) (site:Nat):Option Ans:=match shD [(.dat (.sl i64)),(.fn 145 [(.pfn 112 [(.imp (.sl (.sl (.st 0))) 0)]),(.imp (.sl i64) 0)])] vw args with
 |some d=>some ⟨LI,f144_1 L N d.1 d.2.1.1.1 d.2.1.2.1,fun y=>(RN.av site .row (),[(site,some (mkO none 3 i64 y))],[])⟩
 |none=>none
noncomputable def E144_1 (L N:Nat):Env:={P:=Tryz.prog,ty:=tyOf,Φ:=(Φ145_1 L N),inl:=inlT,live:=lives,liveX:=livesX,L:=L,dp:=none,prom:=promT,heal:=healT,ren:=renT}
noncomputable def f144_1.c0:Code:=loopAt 0 (codeOf Tryz.f144)
noncomputable def f144_1.c1:Code:=loopAt 2 f144_1.c0
def f144_1.X1_e2 {R:Type} (κ:KX R):=fun z18 z19 z20 z21 z22 z23 z24=>κ (.exit 2) (f144_1.T1_e2 z18 z19 z20 z21 z22 z23 z24) (f144_1.H1_e2 z18 z19 z20 z21 z22 z23 z24)
def f144_1.R1 {R:Type} (rec:KT R):=fun s9 s10 s11 s12 s13 s14 s15 s16 s17=>rec (f144_1.T1 s9 s10 s11 s12 s13 s14 s15 s16 s17) (f144_1.H1 s9 s10 s11 s12 s13 s14 s15 s16 s17)
theorem f144_1.s1_eq {R:Type} (L N:Nat) (κ:KX R) (rec:KT R) (s9:LI) (s10:LLM) (s11:LI) (s12:Int) (s13:Int) (s14:Int) (s15:Int) (s16:LI) (s17:LLM):
  evRd (E144_1 L N) (evCallI (E144_1 L N) 0 1000) 1000 144 61 2 f144_1.c1 κ rec (f144_1.T1 s9 s10 s11 s12 s13 s14 s15 s16 s17) (f144_1.H1 s9 s10 s11 s12 s13 s14 s15 s16 s17)
  =f144_1.s1 L N (f144_1.X1_e2 κ) (f144_1.R1 rec) s9 s10 s11 s12 s13 s14 s15 s16 s17:=by kernel_rfl
theorem f144_1.l1_eq {R:Type} (L N:Nat) (κ:KX R):∀(n:Nat) (s9:LI) (s10:LLM) (s11:LI) (s12:Int) (s13:Int) (s14:Int) (s15:Int) (s16:LI) (s17:LLM),
  evLp (E144_1 L N) (evCallI (E144_1 L N) 0 1000) 1000 144 61 2 f144_1.c1 κ n (f144_1.T1 s9 s10 s11 s12 s13 s14 s15 s16 s17) (f144_1.H1 s9 s10 s11 s12 s13 s14 s15 s16 s17)
  =f144_1.l1 L N (f144_1.X1_e2 κ) n s9 s10 s11 s12 s13 s14 s15 s16 s17:=by
 intro n
 induction n with
 |zero=>intros;rfl
 |succ n ih=>
  intro s9 s10 s11 s12 s13 s14 s15 s16 s17
  rw [evLp_succ,f144_1.s1_eq]
  delta f144_1.R1
  simp only [ih]
  rfl
def f144_1.X0_e0 {R:Type} (κ:KX R):=fun z7=>κ (.exit 0) (f144_1.T0_e0 z7) (f144_1.H0_e0 z7)
def f144_1.R0 {R:Type} (rec:KT R):=fun s0 s1 s2 s3 s4 s5 s6=>rec (f144_1.T0 s0 s1 s2 s3 s4 s5 s6) (f144_1.H0 s0 s1 s2 s3 s4 s5 s6)
theorem f144_1.p1_e2_eq {R:Type} (L N:Nat) (κ:KX R) (rec:KT R) (z18:LI) (z19:LLM) (z20:LI) (z21:Int) (z22:Int) (z23:LI) (z24:LLM):
  (contAt (E144_1 L N) (evCallI (E144_1 L N) 0 1000) 1000 144 61 2 f144_1.c0 (rdK (E144_1 L N) 1000 144 61 0 κ rec)) (.exit 2) (f144_1.T1_e2 z18 z19 z20 z21 z22 z23 z24) (f144_1.H1_e2 z18 z19 z20 z21 z22 z23 z24)
  =f144_1.p1_e2 L N (f144_1.X0_e0 κ) (f144_1.R0 rec) z18 z19 z20 z21 z22 z23 z24:=by kernel_rfl
theorem f144_1.s0_eq {R:Type} (L N:Nat) (κ:KX R) (rec:KT R) (s0:LI) (s1:LLM) (s2:LI) (s3:Int) (s4:Int) (s5:LI) (s6:LLM):
  evRd (E144_1 L N) (evCallI (E144_1 L N) 0 1000) 1000 144 61 0 f144_1.c0 κ rec (f144_1.T0 s0 s1 s2 s3 s4 s5 s6) (f144_1.H0 s0 s1 s2 s3 s4 s5 s6)
  =f144_1.s0 L N (f144_1.X0_e0 κ) (f144_1.R0 rec) s0 s1 s2 s3 s4 s5 s6:=by
 refine Eq.trans (b:=f144_1.s0' L N (f144_1.X0_e0 κ) (f144_1.R0 rec) (fun s9 s10 s11 s12 s13 s14 s15 s16 s17=>evLp (E144_1 L N) (evCallI (E144_1 L N) 0 1000) 1000 144 61 2 f144_1.c1 (contAt (E144_1 L N) (evCallI (E144_1 L N) 0 1000) 1000 144 61 2 f144_1.c0 (rdK (E144_1 L N) 1000 144 61 0 κ rec)) L (f144_1.T1 s9 s10 s11 s12 s13 s14 s15 s16 s17) (f144_1.H1 s9 s10 s11 s12 s13 s14 s15 s16 s17)) s0 s1 s2 s3 s4 s5 s6) (by kernel_rfl) ?_
 unfold f144_1.s0
 simp only [f144_1.l1_eq]
 delta f144_1.X1_e2
 simp only [f144_1.p1_e2_eq]
theorem f144_1.l0_eq {R:Type} (L N:Nat) (κ:KX R):∀(n:Nat) (s0:LI) (s1:LLM) (s2:LI) (s3:Int) (s4:Int) (s5:LI) (s6:LLM),
  evLp (E144_1 L N) (evCallI (E144_1 L N) 0 1000) 1000 144 61 0 f144_1.c0 κ n (f144_1.T0 s0 s1 s2 s3 s4 s5 s6) (f144_1.H0 s0 s1 s2 s3 s4 s5 s6)
  =f144_1.l0 L N (f144_1.X0_e0 κ) n s0 s1 s2 s3 s4 s5 s6:=by
 intro n
 induction n with
 |zero=>intros;rfl
 |succ n ih=>
  intro s0 s1 s2 s3 s4 s5 s6
  rw [evLp_succ,f144_1.s0_eq]
  delta f144_1.R0
  simp only [ih]
  rfl
theorem f144_1.p0_e0_eq {R:Type} (L N:Nat) (κ:RN.Den .row->List Int->Option R) (z7:LI):
  (contAt (E144_1 L N) (evCallI (E144_1 L N) 0 1000) 1000 144 61 0 (codeOf Tryz.f144) (finK (E144_1 L N) 1000 Tryz.f144 (finN .row none 3 i64 κ))) (.exit 0) (f144_1.T0_e0 z7) (f144_1.H0_e0 z7)
  =f144_1.p0_e0 L N (fun a0=>κ () a0) z7:=by kernel_rfl
theorem f144_1.b_eq {R:Type} (L N:Nat) (κ:RN.Den .row->List Int->Option R) (x0:LI) (x1:LLM) (x2:LI):
  evBody (E144_1 L N) (evCallI (E144_1 L N) 0 1000) 1000 144 Tryz.f144 [(.tv (.sl i64) x0),(.fn 145 [(.imf 112 [(.imp (.sl (.sl (.st 0))) x1 0)]),(.imp (.sl i64) x2 0)])] [] [] (finN .row none 3 i64 κ)
  =f144_1.b L N (fun a0=>κ () a0) x0 x1 x2:=by
 refine Eq.trans (b:=f144_1.b' L N (fun a0=>κ () a0) (fun s0 s1 s2 s3 s4 s5 s6=>evLp (E144_1 L N) (evCallI (E144_1 L N) 0 1000) 1000 144 61 0 f144_1.c0 (contAt (E144_1 L N) (evCallI (E144_1 L N) 0 1000) 1000 144 61 0 (codeOf Tryz.f144) (finK (E144_1 L N) 1000 Tryz.f144 (finN .row none 3 i64 κ))) L (f144_1.T0 s0 s1 s2 s3 s4 s5 s6) (f144_1.H0 s0 s1 s2 s3 s4 s5 s6)) x0 x1 x2) (by kernel_rfl) ?_
 unfold f144_1.b
 simp only [f144_1.l0_eq]
 delta f144_1.X0_e0
 simp only [f144_1.p0_e0_eq]
theorem f144_1.ok (L N:Nat) (hΦ:TellsOk Tryz.prog ((Φ145_1 L N))):EntOkO Tryz.prog 144 (f144_1.ent L N):=by
 intro args vw site h a ha
 unfold f144_1.ent at ha
 split at ha
 ·rename_i d hd
  obtain rfl:=Option.some.inj ha
  intro y hy hs
  refine call_ronF (y:=y) (dep:=1000) (E:=(E144_1 L N)) (rn:=.row) (q:=none) (el:=3) (ty:=i64) (d1:=()) (xs:=y) (κ:=(fun d xs=>some xs)) (sound_of hΦ) okP (callI_sound (sound_of hΦ) okP 0 1000) (f:=Tryz.f144) rfl hs hd ?_ (fun _ _ h=>by obtain rfl:=Option.some.inj h;exact ⟨rfl,rfl⟩) rfl site
  exact (f144_1.b_eq L N (fun d xs=>some xs) d.1 d.2.1.1.1 d.2.1.2.1).trans (Eq.trans (b:=f144_1.b L N some d.1 d.2.1.1.1 d.2.1.2.1) (by kernel_rfl) hy)
 ·cases ha
def Φ144_1 (L N:Nat):Tells:=(addO (Φ145_1 L N) 144 (f144_1.ent L N))
theorem Φ144_1_ok (L N:Nat):TellsOk Tryz.prog (Φ144_1 L N):=addO_ok (Φ145_1_ok L N) (f144_1.ok L N (Φ145_1_ok L N))
def f111_1.s0' {R:Type} (L N:Nat) (k0_r:LLI->Option R) (rec0:LLM->LLI->Option R) (s0:LLM) (s1:LLI):Option R:=
 bif (decide (0≤(wi ((s1.length:Int)-(1:Int))))&&decide ((wi ((s1.length:Int)-(1:Int)))<(s1.length:Int))) then
  (f144_1 L N (listAt s1 [] (wi ((s1.length:Int)-(1:Int))).toNat) s0 (listAt s1 [] (wi ((s1.length:Int)-(1:Int))).toNat)).bind fun y2=>
  (f146 L N y2 (listAt s1 [] (wi ((s1.length:Int)-(1:Int))).toNat)).bind fun y3=>
  bif y3 then
   k0_r s1
  else bif (decide (s1.length+([y2]:LLI).length≤lim)) then
   rec0 s0 (s1++([y2]:LLI))
  else none
 else none
def f111_1.s0 {R:Type} (L N:Nat) (k0_r:LLI->Option R) (rec0:LLM->LLI->Option R) (s0:LLM) (s1:LLI):Option R:=
 f111_1.s0' L N k0_r rec0 s0 s1
def f111_1.l0 {R:Type} (L N:Nat) (k0_r:LLI->Option R):Nat->LLM->LLI->Option R
 |0,_,_=>none
 |n+1,s0,s1=>f111_1.s0 L N k0_r (f111_1.l0 L N k0_r n) s0 s1
def f111_1.T0 (s0:LLM) (s1:LLI):T:=mkT 28 [(3,(.ptr 1003 0)),(5,(.row 1010))]
def f111_1.H0 (s0:LLM) (s1:LLI):H:=[(1003,(.box [(.fn 112 [(.imp (.sl (.sl (.st 0))) s0 0)])])),(1010,(.row 32 (.sl i64) s1))]
def f111_1.T0_r (z4:LLI):T:=mkT 28 [(4,(.row 1010))]
def f111_1.H0_r (z4:LLI):H:=[(1010,(.row 32 (.sl i64) z4))]
def f111_1.p0_r' {R:Type} (L N:Nat) (k:LLI->Option R) (z4:LLI):Option R:=
 k z4
def f111_1.p0_r {R:Type} (L N:Nat) (k:LLI->Option R) (z4:LLI):Option R:=
 f111_1.p0_r' L N k z4
def f111_1.b' {R:Type} (L N:Nat) (k:LLI->Option R) (w0:LLM->LLI->Option R) (x0:Int) (x1:LLM):Option R:=
 bif (decide (0≤x0)&&decide (x0≤(lim:Int))) then
  w0 x1 ([(List.replicate x0.toNat (0:Int))]:LLI)
 else none
def f111_1.b {R:Type} (L N:Nat) (k:LLI->Option R) (x0:Int) (x1:LLM):Option R:=
 f111_1.b' L N k (fun s0 s1=>f111_1.l0 L N (fun z4=>f111_1.p0_r L N k z4) L s0 s1) x0 x1
def f111_1 (L N:Nat) (x0:Int) (x1:LLM):Option (LLI):=f111_1.b L N some x0 x1
def f111_1.ent (L N:Nat):=entDf [(.dat i64),(.fn 112 [(.imp (.sl (.sl (.st 0))) 0)])] (.one (.sl (.sl i64))) fun d=>f111_1 L N d.1 d.2.1.1
noncomputable def E111_1 (L N:Nat):Env:={P:=Tryz.prog,ty:=tyOf,Φ:=(Φ144_1 L N),inl:=inlT,live:=lives,liveX:=livesX,L:=L,dp:=none,prom:=promT,heal:=healT,ren:=renT}
noncomputable def f111_1.c0:Code:=loopAt 0 (codeOf Tryz.f111)
def f111_1.X0_r {R:Type} (κ:KX R):=fun z4=>κ .ret (f111_1.T0_r z4) (f111_1.H0_r z4)
def f111_1.R0 {R:Type} (rec:KT R):=fun s0 s1=>rec (f111_1.T0 s0 s1) (f111_1.H0 s0 s1)
theorem f111_1.s0_eq {R:Type} (L N:Nat) (κ:KX R) (rec:KT R) (s0:LLM) (s1:LLI):
  evRd (E111_1 L N) (evCallI (E111_1 L N) 0 1000) 1000 111 28 0 f111_1.c0 κ rec (f111_1.T0 s0 s1) (f111_1.H0 s0 s1)
  =f111_1.s0 L N (f111_1.X0_r κ) (f111_1.R0 rec) s0 s1:=by kernel_rfl
theorem f111_1.l0_eq {R:Type} (L N:Nat) (κ:KX R):∀(n:Nat) (s0:LLM) (s1:LLI),
  evLp (E111_1 L N) (evCallI (E111_1 L N) 0 1000) 1000 111 28 0 f111_1.c0 κ n (f111_1.T0 s0 s1) (f111_1.H0 s0 s1)
  =f111_1.l0 L N (f111_1.X0_r κ) n s0 s1:=by
 intro n
 induction n with
 |zero=>intros;rfl
 |succ n ih=>
  intro s0 s1
  rw [evLp_succ,f111_1.s0_eq]
  delta f111_1.R0
  simp only [ih]
  rfl
theorem f111_1.p0_r_eq {R:Type} (L N:Nat) (κ:AV->Option R) (z4:LLI):
  (contAt (E111_1 L N) (evCallI (E111_1 L N) 0 1000) 1000 111 28 0 (codeOf Tryz.f111) (finK (E111_1 L N) 1000 Tryz.f111 (finC (.one (.sl (.sl i64))) κ))) .ret (f111_1.T0_r z4) (f111_1.H0_r z4)
  =f111_1.p0_r L N (fun a0=>κ (.tv (.sl (.sl i64)) a0)) z4:=by kernel_rfl
theorem f111_1.b_eq {R:Type} (L N:Nat) (κ:AV->Option R) (x0:Int) (x1:LLM):
  evBody (E111_1 L N) (evCallI (E111_1 L N) 0 1000) 1000 111 Tryz.f111 [(.tv i64 x0),(.fn 112 [(.imp (.sl (.sl (.st 0))) x1 0)])] [] [] (finC (.one (.sl (.sl i64))) κ)
  =f111_1.b L N (fun a0=>κ (.tv (.sl (.sl i64)) a0)) x0 x1:=by
 refine Eq.trans (b:=f111_1.b' L N (fun a0=>κ (.tv (.sl (.sl i64)) a0)) (fun s0 s1=>evLp (E111_1 L N) (evCallI (E111_1 L N) 0 1000) 1000 111 28 0 f111_1.c0 (contAt (E111_1 L N) (evCallI (E111_1 L N) 0 1000) 1000 111 28 0 (codeOf Tryz.f111) (finK (E111_1 L N) 1000 Tryz.f111 (finC (.one (.sl (.sl i64))) κ))) L (f111_1.T0 s0 s1) (f111_1.H0 s0 s1)) x0 x1) (by kernel_rfl) ?_
 unfold f111_1.b
 simp only [f111_1.l0_eq]
 delta f111_1.X0_r
 simp only [f111_1.p0_r_eq]
theorem f111_1.ok (L N:Nat) (hΦ:TellsOk Tryz.prog ((Φ144_1 L N))):EntOkO Tryz.prog 111 (f111_1.ent L N):=entDf_ok (E:=(E111_1 L N)) (dep:=1000) (f:=Tryz.f111) (sound_of hΦ) okP (callI_sound (sound_of hΦ) okP 0 1000) rfl fun d _ hy=>(f111_1.b_eq L N (unR (.one (.sl (.sl i64)))) d.1 d.2.1.1).trans (Eq.trans (b:=f111_1.b L N some d.1 d.2.1.1) (by kernel_rfl) hy)
def Φ111_1 (L N:Nat):Tells:=(addO (Φ144_1 L N) 111 (f111_1.ent L N))
theorem Φ111_1_ok (L N:Nat):TellsOk Tryz.prog (Φ111_1 L N):=addO_ok (Φ144_1_ok L N) (f111_1.ok L N (Φ144_1_ok L N))
def f69.b' {R:Type} (L N:Nat) (k:LLI->Option R) (x0:Graph):Option R:=
 (f111_1 L N (x0.moves.length:Int) x0.moves).bind fun y0=>
 k y0
def f69.b {R:Type} (L N:Nat) (k:LLI->Option R) (x0:Graph):Option R:=
 f69.b' L N k x0
def f69 (L N:Nat) (x0:Graph):Option (LLI):=f69.b L N some x0
def f69.ent (L N:Nat):=entDa [(.st 2)] (.one (.sl (.sl i64))) fun d=>f69 L N d.1
noncomputable def E69 (L N:Nat):Env:={P:=Tryz.prog,ty:=tyOf,Φ:=(Φ111_1 L N),inl:=inlT,live:=lives,liveX:=livesX,L:=L,dp:=none,prom:=promT,heal:=healT,ren:=renT}
theorem f69.b_eq {R:Type} (L N:Nat) (κ:AV->Option R) (x0:Graph):
  evBody (E69 L N) (evCallI (E69 L N) 0 1000) 1000 69 Tryz.f69 [(.tv (.st 2) x0)] [] [] (finC (.one (.sl (.sl i64))) κ)
  =f69.b L N (fun a0=>κ (.tv (.sl (.sl i64)) a0)) x0:=by kernel_rfl
theorem f69.ok (L N:Nat) (hΦ:TellsOk Tryz.prog ((Φ111_1 L N))):EntOk Tryz.prog 69 (f69.ent L N):=entDa_ok (E:=(E69 L N)) (dep:=1000) (f:=Tryz.f69) (sound_of hΦ) okP (callI_sound (sound_of hΦ) okP 0 1000) rfl fun d _ hy=>(f69.b_eq L N (unR (.one (.sl (.sl i64)))) d.1).trans (Eq.trans (b:=f69.b L N some d.1) (by kernel_rfl) hy)
def Φ69 (L N:Nat):Tells:=(addT (Φ111_1 L N) 69 (f69.ent L N))
theorem Φ69_ok (L N:Nat):TellsOk Tryz.prog (Φ69 L N):=addT_ok (Φ111_1_ok L N) (f69.ok L N (Φ111_1_ok L N))
def f37.b' {R:Type} (L N:Nat) (k:LI->Option R) (x0:Graph):Option R:=
 (f69 L N (Graph.mk x0.moves)).bind fun y0=>
 bif (decide (0≤(wi ((y0.length:Int)-(1:Int))))&&decide ((wi ((y0.length:Int)-(1:Int)))<(y0.length:Int))) then
  ((fclone (listAt y0 [] (wi ((y0.length:Int)-(1:Int))).toNat))).bind fun y1=>
  k (listAt y0 [] (wi ((y0.length:Int)-(1:Int))).toNat)
 else none
def f37.b {R:Type} (L N:Nat) (k:LI->Option R) (x0:Graph):Option R:=
 f37.b' L N k x0
def f37 (L N:Nat) (x0:Graph):Option (LI):=f37.b L N some x0
def f37.ent (L N:Nat) (args:List AV) (vw:View) (site:Nat):Ans:=match roD [(.st 2)] vw args with
 |some d=>⟨LI,f37 L N d.1,fun y=>(RN.av site .row (),[(site,some (mkO none 3 i64 y))],[])⟩
 |none=>Ans.no
noncomputable def E37 (L N:Nat):Env:={P:=Tryz.prog,ty:=tyOf,Φ:=(Φ69 L N),inl:=inlT,live:=lives,liveX:=livesX,L:=L,dp:=none,prom:=promT,heal:=healT,ren:=renT}
theorem f37.b_eq {R:Type} (L N:Nat) (κ:RN.Den .row->List Int->Option R) (x0:Graph):
  evBody (E37 L N) (evCallI (E37 L N) 0 1000) 1000 37 Tryz.f37 [(.tv (.st 2) x0)] [] [] (finN .row none 3 i64 κ)
  =f37.b L N (fun a0=>κ () a0) x0:=by kernel_rfl
theorem f37.ok (L N:Nat) (hΦ:TellsOk Tryz.prog ((Φ69 L N))):EntOk Tryz.prog 37 (f37.ent L N):=by
 intro args vw site h
 unfold f37.ent
 split
 ·rename_i d ha
  intro y hy hs
  refine call_ron (y:=y) (dep:=1000) (E:=(E37 L N)) (ts:=[(.st 2)]) (rn:=.row) (q:=none) (el:=3) (ty:=i64) (d1:=()) (xs:=y) (κ:=(fun d xs=>some xs)) (sound_of hΦ) okP (callI_sound (sound_of hΦ) okP 0 1000) (f:=Tryz.f37) rfl hs ha ?_ (fun _ _ h=>by obtain rfl:=Option.some.inj h;exact ⟨rfl,rfl⟩) rfl site
  exact (f37.b_eq L N (fun d xs=>some xs) d.1).trans (Eq.trans (b:=f37.b L N some d.1) (by kernel_rfl) hy)
 ·intro y hy
  cases hy
def Φ37 (L N:Nat):Tells:=(addT (Φ69 L N) 37 (f37.ent L N))
theorem Φ37_ok (L N:Nat):TellsOk Tryz.prog (Φ37 L N):=addT_ok (Φ69_ok L N) (f37.ok L N (Φ69_ok L N))
def f14.b' {R:Type} (L N:Nat) (k:Bool->Bool->Option R) (x0:Tree) (x1:Tree) (x2:LT):Option R:=
 (f35 L N (Tree.mk x0.op x0.n x0.parts) (Tree.mk x1.op x1.n x1.parts) x2).bind fun y0=>
 bif (!y0.2.2) then
  k false false
 else (f36 L N (Graph.mk y0.1.moves)).bind fun y1=>
 (f37 L N (Graph.mk y1)).bind fun y2=>
 bif (decide (0≤(0:Int))&&decide ((0:Int)<(y2.length:Int))) then
  bif (decide (0≤y0.2.1)&&decide (y0.2.1<(y2.length:Int))) then
   k ((listAt y2 (0:Int) (0:Int).toNat)==(listAt y2 (0:Int) y0.2.1.toNat)) true
  else none
 else none
def f14.b {R:Type} (L N:Nat) (k:Bool->Bool->Option R) (x0:Tree) (x1:Tree) (x2:LT):Option R:=
 f14.b' L N k x0 x1 x2
def f14 (L N:Nat) (x0:Tree) (x1:Tree) (x2:LT):Option (Bool×Bool):=f14.b L N (fun a0 a1=>some (a0,a1)) x0 x1 x2
def f14.ent (L N:Nat):=entRo [(.st 1),(.st 1),(.sl (.st 1))] (.many [.bool,.bool]) fun d=>f14 L N d.1 d.2.1 d.2.2.1
noncomputable def E14 (L N:Nat):Env:={P:=Tryz.prog,ty:=tyOf,Φ:=(Φ37 L N),inl:=inlT,live:=lives,liveX:=livesX,L:=L,dp:=none,prom:=promT,heal:=healT,ren:=renT}
theorem f14.b_eq {R:Type} (L N:Nat) (κ:AV->Option R) (x0:Tree) (x1:Tree) (x2:LT):
  evBody (E14 L N) (evCallI (E14 L N) 0 1000) 1000 14 Tryz.f14 [(.tv (.st 1) x0),(.tv (.st 1) x1),(.tv (.sl (.st 1)) x2)] [] [] (finC (.many [.bool,.bool]) κ)
  =f14.b L N (fun a0 a1=>κ (.tup [(.tv .bool a0),(.tv .bool a1)])) x0 x1 x2:=by kernel_rfl
theorem f14.ok (L N:Nat) (hΦ:TellsOk Tryz.prog ((Φ37 L N))):EntOk Tryz.prog 14 (f14.ent L N):=entRo_ok (E:=(E14 L N)) (dep:=1000) (f:=Tryz.f14) (sound_of hΦ) okP (callI_sound (sound_of hΦ) okP 0 1000) rfl rfl fun d _ hy=>(f14.b_eq L N (unR (.many [.bool,.bool])) d.1 d.2.1 d.2.2.1).trans (Eq.trans (b:=f14.b L N (fun a0 a1=>some (a0,a1)) d.1 d.2.1 d.2.2.1) (by kernel_rfl) hy)
def Φ14 (L N:Nat):Tells:=(addT (Φ37 L N) 14 (f14.ent L N))
theorem Φ14_ok (L N:Nat):TellsOk Tryz.prog (Φ14 L N):=addT_ok (Φ37_ok L N) (f14.ok L N (Φ37_ok L N))
def f15.b' {R:Type} (L N:Nat) (k:Bool->Bool->Option R) (x0:Tree) (x1:Tree) (x2:LT):Option R:=
 (f35 L N (Tree.mk x0.op x0.n x0.parts) (Tree.mk x1.op x1.n x1.parts) x2).bind fun y0=>
 bif (!y0.2.2) then
  k false false
 else (f37 L N (Graph.mk y0.1.moves)).bind fun y1=>
 bif (decide (0≤(0:Int))&&decide ((0:Int)<(y1.length:Int))) then
  bif (decide (0≤y0.2.1)&&decide (y0.2.1<(y1.length:Int))) then
   k ((listAt y1 (0:Int) (0:Int).toNat)==(listAt y1 (0:Int) y0.2.1.toNat)) true
  else none
 else none
def f15.b {R:Type} (L N:Nat) (k:Bool->Bool->Option R) (x0:Tree) (x1:Tree) (x2:LT):Option R:=
 f15.b' L N k x0 x1 x2
def f15 (L N:Nat) (x0:Tree) (x1:Tree) (x2:LT):Option (Bool×Bool):=f15.b L N (fun a0 a1=>some (a0,a1)) x0 x1 x2
def f15.ent (L N:Nat):=entRo [(.st 1),(.st 1),(.sl (.st 1))] (.many [.bool,.bool]) fun d=>f15 L N d.1 d.2.1 d.2.2.1
noncomputable def E15 (L N:Nat):Env:={P:=Tryz.prog,ty:=tyOf,Φ:=(Φ14 L N),inl:=inlT,live:=lives,liveX:=livesX,L:=L,dp:=none,prom:=promT,heal:=healT,ren:=renT}
theorem f15.b_eq {R:Type} (L N:Nat) (κ:AV->Option R) (x0:Tree) (x1:Tree) (x2:LT):
  evBody (E15 L N) (evCallI (E15 L N) 0 1000) 1000 15 Tryz.f15 [(.tv (.st 1) x0),(.tv (.st 1) x1),(.tv (.sl (.st 1)) x2)] [] [] (finC (.many [.bool,.bool]) κ)
  =f15.b L N (fun a0 a1=>κ (.tup [(.tv .bool a0),(.tv .bool a1)])) x0 x1 x2:=by kernel_rfl
theorem f15.ok (L N:Nat) (hΦ:TellsOk Tryz.prog ((Φ14 L N))):EntOk Tryz.prog 15 (f15.ent L N):=entRo_ok (E:=(E15 L N)) (dep:=1000) (f:=Tryz.f15) (sound_of hΦ) okP (callI_sound (sound_of hΦ) okP 0 1000) rfl rfl fun d _ hy=>(f15.b_eq L N (unR (.many [.bool,.bool])) d.1 d.2.1 d.2.2.1).trans (Eq.trans (b:=f15.b L N (fun a0 a1=>some (a0,a1)) d.1 d.2.1 d.2.2.1) (by kernel_rfl) hy)
def Φ15 (L N:Nat):Tells:=(addT (Φ14 L N) 15 (f15.ent L N))
theorem Φ15_ok (L N:Nat):TellsOk Tryz.prog (Φ15 L N):=addT_ok (Φ14_ok L N) (f15.ok L N (Φ14_ok L N))
def f97.j0' {R:Type} (L N:Nat) (self97:Tree->Bool->Option (Int)) (k0_e0:Int->Option R) (rec0:Bool->Int->Int->Int->Int->LT->Option R) (v14:Bool) (v15:Int) (v16:Int) (v17:Int) (v18:Int) (v19:LT):Option R:=
 bif (decide (0≤v16)&&decide (v16<(v19.length:Int))) then
  (self97 (listAt v19 (Ty.dflt (.st 1)) v16.toNat) v14).bind fun y20=>
  rec0 v14 (bif decide (y20>v15) then y20 else v15) (wi (v16+(1:Int))) v17 v18 v19
 else none
def f97.s0' {R:Type} (L N:Nat) (self97:Tree->Bool->Option (Int)) (k0_e0:Int->Option R) (rec0:Bool->Int->Int->Int->Int->LT->Option R) (s0:Bool) (s1:Int) (s2:Int) (s3:Int) (s4:Int) (s5:LT):Option R:=
 bif (decide (s2<(s5.length:Int))) then
  bif s0 then
   bif (!(s3==(1:Int))) then
    f97.j0' L N self97 k0_e0 rec0 s0 s1 s2 s3 s4 s5
   else k0_e0 s1
  else bif (!false) then
   f97.j0' L N self97 k0_e0 rec0 s0 s1 s2 s3 s4 s5
  else k0_e0 s1
 else k0_e0 s1
def f97.s0 {R:Type} (L N:Nat) (self97:Tree->Bool->Option (Int)) (k0_e0:Int->Option R) (rec0:Bool->Int->Int->Int->Int->LT->Option R) (s0:Bool) (s1:Int) (s2:Int) (s3:Int) (s4:Int) (s5:LT):Option R:=
 f97.s0' L N self97 k0_e0 rec0 s0 s1 s2 s3 s4 s5
def f97.l0 {R:Type} (L N:Nat) (self97:Tree->Bool->Option (Int)) (k0_e0:Int->Option R):Nat->Bool->Int->Int->Int->Int->LT->Option R
 |0,_,_,_,_,_,_=>none
 |n+1,s0,s1,s2,s3,s4,s5=>f97.s0 L N self97 k0_e0 (f97.l0 L N self97 k0_e0 n) s0 s1 s2 s3 s4 s5
def f97.T0 (s0:Bool) (s1:Int) (s2:Int) (s3:Int) (s4:Int) (s5:LT):T:=mkT 38 [(1,(.tv .bool s0)),(2,(.ptr 1002 0)),(5,(.tv i64 s1)),(6,(.tv i64 s2))]
def f97.H0 (s0:Bool) (s1:Int) (s2:Int) (s3:Int) (s4:Int) (s5:LT):H:=[(1002,(.box [(.tv i64 s3),(.tv i64 s4),(.tv (.sl (.st 1)) s5)]))]
def f97.T0_e0 (z13:Int):T:=mkT 38 [(5,(.tv i64 z13))]
def f97.H0_e0 (z13:Int):H:=[]
def f97.p0_e0' {R:Type} (L N:Nat) (self97:Tree->Bool->Option (Int)) (k:Int->Option R) (z13:Int):Option R:=
 k z13
def f97.p0_e0 {R:Type} (L N:Nat) (self97:Tree->Bool->Option (Int)) (k:Int->Option R) (z13:Int):Option R:=
 f97.p0_e0' L N self97 k z13
def f97.b' {R:Type} (L N:Nat) (self97:Tree->Bool->Option (Int)) (k:Int->Option R) (w0:Bool->Int->Int->Int->Int->LT->Option R) (x0:Tree) (x1:Bool):Option R:=
 bif (x0.op==(5:Int)) then
  k x0.n
 else w0 x1 (-1:Int) (0:Int) x0.op x0.n x0.parts
def f97.b {R:Type} (L N:Nat) (self97:Tree->Bool->Option (Int)) (k:Int->Option R) (x0:Tree) (x1:Bool):Option R:=
 f97.b' L N self97 k (fun s0 s1 s2 s3 s4 s5=>f97.l0 L N self97 (fun z13=>f97.p0_e0 L N self97 k z13) L s0 s1 s2 s3 s4 s5) x0 x1
def f97 (L N:Nat):Nat->Tree->Bool->Option (Int)
 |0,_,_=>none
 |n+1,x0,x1=>f97.b L N (f97 L N n) some x0 x1
def f97.ent (L N m:Nat):=entRo [(.st 1),.bool] (.one i64) fun d=>f97 L N m d.1 d.2.1
def Φ97s (L N m:Nat):Tells:=(addT (Φ15 L N) 97 (f97.ent L N m))
noncomputable def E97 (L N m:Nat):Env:={P:=Tryz.prog,ty:=tyOf,Φ:=Φ97s L N m,inl:=inlT,live:=lives,liveX:=livesX,L:=L,dp:=none,prom:=promT,heal:=healT,ren:=renT}
noncomputable def f97.c0:Code:=loopAt 0 (codeOf Tryz.f97)
def f97.X0_e0 {R:Type} (κ:KX R):=fun z13=>κ (.exit 0) (f97.T0_e0 z13) (f97.H0_e0 z13)
def f97.R0 {R:Type} (rec:KT R):=fun s0 s1 s2 s3 s4 s5=>rec (f97.T0 s0 s1 s2 s3 s4 s5) (f97.H0 s0 s1 s2 s3 s4 s5)
theorem f97.s0_eq {R:Type} (L N m:Nat) (κ:KX R) (rec:KT R) (s0:Bool) (s1:Int) (s2:Int) (s3:Int) (s4:Int) (s5:LT):
  evRd (E97 L N m) (evCallI (E97 L N m) 0 1000) 1000 97 38 0 f97.c0 κ rec (f97.T0 s0 s1 s2 s3 s4 s5) (f97.H0 s0 s1 s2 s3 s4 s5)
  =f97.s0 L N (f97 L N m) (f97.X0_e0 κ) (f97.R0 rec) s0 s1 s2 s3 s4 s5:=by kernel_rfl
theorem f97.l0_eq {R:Type} (L N m:Nat) (κ:KX R):∀(n:Nat) (s0:Bool) (s1:Int) (s2:Int) (s3:Int) (s4:Int) (s5:LT),
  evLp (E97 L N m) (evCallI (E97 L N m) 0 1000) 1000 97 38 0 f97.c0 κ n (f97.T0 s0 s1 s2 s3 s4 s5) (f97.H0 s0 s1 s2 s3 s4 s5)
  =f97.l0 L N (f97 L N m) (f97.X0_e0 κ) n s0 s1 s2 s3 s4 s5:=by
 intro n
 induction n with
 |zero=>intros;rfl
 |succ n ih=>
  intro s0 s1 s2 s3 s4 s5
  rw [evLp_succ,f97.s0_eq]
  delta f97.R0
  simp only [ih]
  rfl
theorem f97.p0_e0_eq {R:Type} (L N m:Nat) (κ:AV->Option R) (z13:Int):
  (contAt (E97 L N m) (evCallI (E97 L N m) 0 1000) 1000 97 38 0 (codeOf Tryz.f97) (finK (E97 L N m) 1000 Tryz.f97 (finC (.one i64) κ))) (.exit 0) (f97.T0_e0 z13) (f97.H0_e0 z13)
  =f97.p0_e0 L N (f97 L N m) (fun a0=>κ (.tv i64 a0)) z13:=by kernel_rfl
theorem f97.b_eq {R:Type} (L N m:Nat) (κ:AV->Option R) (x0:Tree) (x1:Bool):
  evBody (E97 L N m) (evCallI (E97 L N m) 0 1000) 1000 97 Tryz.f97 [(.tv (.st 1) x0),(.tv .bool x1)] [] [] (finC (.one i64) κ)
  =f97.b L N (f97 L N m) (fun a0=>κ (.tv i64 a0)) x0 x1:=by
 refine Eq.trans (b:=f97.b' L N (f97 L N m) (fun a0=>κ (.tv i64 a0)) (fun s0 s1 s2 s3 s4 s5=>evLp (E97 L N m) (evCallI (E97 L N m) 0 1000) 1000 97 38 0 f97.c0 (contAt (E97 L N m) (evCallI (E97 L N m) 0 1000) 1000 97 38 0 (codeOf Tryz.f97) (finK (E97 L N m) 1000 Tryz.f97 (finC (.one i64) κ))) L (f97.T0 s0 s1 s2 s3 s4 s5) (f97.H0 s0 s1 s2 s3 s4 s5)) x0 x1) (by kernel_rfl) ?_
 unfold f97.b
 simp only [f97.l0_eq]
 delta f97.X0_e0
 simp only [f97.p0_e0_eq]
theorem f97.ok (L N m:Nat) (hΦ:TellsOk Tryz.prog (Φ97s L N m)):EntOk Tryz.prog 97 (f97.ent L N (m+1)):=entRo_ok (E:=(E97 L N m)) (dep:=1000) (f:=Tryz.f97) (sound_of hΦ) okP (callI_sound (sound_of hΦ) okP 0 1000) rfl rfl fun d _ hy=>(f97.b_eq L N m (unR (.one i64)) d.1 d.2.1).trans (Eq.trans (b:=f97.b L N (f97 L N m) some d.1 d.2.1) (by kernel_rfl) hy)
theorem Φ97s_ok (L N:Nat):∀m,TellsOk Tryz.prog (Φ97s L N m):=by
 intro m
 induction m with
 |zero=>exact (addT_ok (Φ15_ok L N) (entRo_no fun _=>rfl))
 |succ m ih=>exact (addT_ok (Φ15_ok L N) (f97.ok L N m ih))
def Φ97 (L N:Nat):Tells:=(addT (Φ15 L N) 97 (f97.ent L N N))
theorem Φ97_ok (L N:Nat):TellsOk Tryz.prog (Φ97 L N):=Φ97s_ok L N N
def f54.b' {R:Type} (L N:Nat) (k:Bool->Option R) (x0:Int) (x1:Int) (x2:Int):Option R:=
 bif (decide (x0≥x1)) then
  k (decide (x0≤x2))
 else k false
def f54.b {R:Type} (L N:Nat) (k:Bool->Option R) (x0:Int) (x1:Int) (x2:Int):Option R:=
 f54.b' L N k x0 x1 x2
def f54 (L N:Nat) (x0:Int) (x1:Int) (x2:Int):Option (Bool):=f54.b L N some x0 x1 x2
def f54.ent (L N:Nat):=entRo [i64,i64,i64] (.one .bool) fun d=>f54 L N d.1 d.2.1 d.2.2.1
noncomputable def E54 (L N:Nat):Env:={P:=Tryz.prog,ty:=tyOf,Φ:=(Φ97 L N),inl:=inlT,live:=lives,liveX:=livesX,L:=L,dp:=none,prom:=promT,heal:=healT,ren:=renT}
theorem f54.b_eq {R:Type} (L N:Nat) (κ:AV->Option R) (x0:Int) (x1:Int) (x2:Int):
  evBody (E54 L N) (evCallI (E54 L N) 0 1000) 1000 54 Tryz.f54 [(.tv i64 x0),(.tv i64 x1),(.tv i64 x2)] [] [] (finC (.one .bool) κ)
  =f54.b L N (fun a0=>κ (.tv .bool a0)) x0 x1 x2:=by kernel_rfl
theorem f54.ok (L N:Nat) (hΦ:TellsOk Tryz.prog ((Φ97 L N))):EntOk Tryz.prog 54 (f54.ent L N):=entRo_ok (E:=(E54 L N)) (dep:=1000) (f:=Tryz.f54) (sound_of hΦ) okP (callI_sound (sound_of hΦ) okP 0 1000) rfl rfl fun d _ hy=>(f54.b_eq L N (unR (.one .bool)) d.1 d.2.1 d.2.2.1).trans (Eq.trans (b:=f54.b L N some d.1 d.2.1 d.2.2.1) (by kernel_rfl) hy)
def Φ54 (L N:Nat):Tells:=(addT (Φ97 L N) 54 (f54.ent L N))
theorem Φ54_ok (L N:Nat):TellsOk Tryz.prog (Φ54 L N):=addT_ok (Φ97_ok L N) (f54.ok L N (Φ97_ok L N))
def f118.b' {R:Type} (L N:Nat) (k:Bool->Option R) (x0:Int):Option R:=
 (f54 L N x0 (-4:Int) (4:Int)).bind fun y0=>
 k y0
def f118.b {R:Type} (L N:Nat) (k:Bool->Option R) (x0:Int):Option R:=
 f118.b' L N k x0
def f118 (L N:Nat) (x0:Int):Option (Bool):=f118.b L N some x0
def f118.ent (L N:Nat):=entRo [i64] (.one .bool) fun d=>f118 L N d.1
noncomputable def E118 (L N:Nat):Env:={P:=Tryz.prog,ty:=tyOf,Φ:=(Φ54 L N),inl:=inlT,live:=lives,liveX:=livesX,L:=L,dp:=none,prom:=promT,heal:=healT,ren:=renT}
theorem f118.b_eq {R:Type} (L N:Nat) (κ:AV->Option R) (x0:Int):
  evBody (E118 L N) (evCallI (E118 L N) 0 1000) 1000 118 Tryz.f118 [(.tv i64 x0)] [] [] (finC (.one .bool) κ)
  =f118.b L N (fun a0=>κ (.tv .bool a0)) x0:=by kernel_rfl
theorem f118.ok (L N:Nat) (hΦ:TellsOk Tryz.prog ((Φ54 L N))):EntOk Tryz.prog 118 (f118.ent L N):=entRo_ok (E:=(E118 L N)) (dep:=1000) (f:=Tryz.f118) (sound_of hΦ) okP (callI_sound (sound_of hΦ) okP 0 1000) rfl rfl fun d _ hy=>(f118.b_eq L N (unR (.one .bool)) d.1).trans (Eq.trans (b:=f118.b L N some d.1) (by kernel_rfl) hy)
def Φ118 (L N:Nat):Tells:=(addT (Φ54 L N) 118 (f118.ent L N))
theorem Φ118_ok (L N:Nat):TellsOk Tryz.prog (Φ118 L N):=addT_ok (Φ54_ok L N) (f118.ok L N (Φ54_ok L N))
def f85.s0' {R:Type} (L N:Nat) (self85:Tree->Option (Int)) (k0_e1:Int->Option R) (k0_r:Int->Int->Option R) (rec0:Int->Int->Int->Int->Int->LT->Option R) (s24:Int) (s25:Int) (s26:Int) (s27:Int) (s28:Int) (s29:LT):Option R:=
 bif (decide (s26<s24)) then
  bif (decide (0≤s26)&&decide (s26<(s29.length:Int))) then
   (self85 (listAt s29 (Ty.dflt (.st 1)) s26.toNat)).bind fun y31=>
   bif (y31==(0:Int)) then
    k0_r (0:Int) s25
   else rec0 s24 (bif decide ((wi (s25+y31))<(1000:Int)) then (wi (s25+y31)) else (1000:Int)) (wi (s26+(1:Int))) s27 s28 s29
  else none
 else k0_e1 s25
def f85.s0 {R:Type} (L N:Nat) (self85:Tree->Option (Int)) (k0_e1:Int->Option R) (k0_r:Int->Int->Option R) (rec0:Int->Int->Int->Int->Int->LT->Option R) (s24:Int) (s25:Int) (s26:Int) (s27:Int) (s28:Int) (s29:LT):Option R:=
 f85.s0' L N self85 k0_e1 k0_r rec0 s24 s25 s26 s27 s28 s29
def f85.l0 {R:Type} (L N:Nat) (self85:Tree->Option (Int)) (k0_e1:Int->Option R) (k0_r:Int->Int->Option R):Nat->Int->Int->Int->Int->Int->LT->Option R
 |0,_,_,_,_,_,_=>none
 |n+1,s24,s25,s26,s27,s28,s29=>f85.s0 L N self85 k0_e1 k0_r (f85.l0 L N self85 k0_e1 k0_r n) s24 s25 s26 s27 s28 s29
def f85.T0 (s24:Int) (s25:Int) (s26:Int) (s27:Int) (s28:Int) (s29:LT):T:=mkT 60 [(1,(.ptr 1001 0)),(3,(.tv i64 s24)),(5,(.tv i64 s25)),(6,(.tv i64 s26))]
def f85.H0 (s24:Int) (s25:Int) (s26:Int) (s27:Int) (s28:Int) (s29:LT):H:=[(1001,(.box [(.tv i64 s27),(.tv i64 s28),(.tv (.sl (.st 1)) s29)]))]
def f85.T0_e1 (z30:Int):T:=mkT 60 [(5,(.tv i64 z30))]
def f85.H0_e1 (z30:Int):H:=[]
def f85.T0_r (z32:Int) (z33:Int):T:=mkT 60 [(2,(.tv i64 z32)),(5,(.tv i64 z33))]
def f85.H0_r (z32:Int) (z33:Int):H:=[]
def f85.p0_e1' {R:Type} (L N:Nat) (self85:Tree->Option (Int)) (k:Int->Option R) (z30:Int):Option R:=
 k z30
def f85.p0_e1 {R:Type} (L N:Nat) (self85:Tree->Option (Int)) (k:Int->Option R) (z30:Int):Option R:=
 f85.p0_e1' L N self85 k z30
def f85.p0_r' {R:Type} (L N:Nat) (self85:Tree->Option (Int)) (k:Int->Option R) (z32:Int) (z33:Int):Option R:=
 k z32
def f85.p0_r {R:Type} (L N:Nat) (self85:Tree->Option (Int)) (k:Int->Option R) (z32:Int) (z33:Int):Option R:=
 f85.p0_r' L N self85 k z32 z33
def f85.j1' {R:Type} (L N:Nat) (self85:Tree->Option (Int)) (k:Int->Option R) (w0:Int->Int->Int->Int->Int->LT->Option R) (v20:Int) (v21:Int) (v22:Int) (v23:LT):Option R:=
 w0 v20 (1:Int) (0:Int) v21 v22 v23
def f85.j2' {R:Type} (L N:Nat) (self85:Tree->Option (Int)) (k:Int->Option R) (w0:Int->Int->Int->Int->Int->LT->Option R) (v10:Int) (v11:Bool) (v12:Int) (v13:Int) (v14:LT):Option R:=
 bif (!v11) then
  k (0:Int)
 else bif ((v14.length:Int) !=v10) then
  k (0:Int)
 else f85.j1' L N self85 k w0 v10 v12 v13 v14
def f85.j0' {R:Type} (L N:Nat) (self85:Tree->Option (Int)) (k:Int->Option R) (w0:Int->Int->Int->Int->Int->LT->Option R) (v1:Int) (v2:Bool) (v3:Int) (v4:Bool) (v5:Int) (v6:Int) (v7:LT):Option R:=
 bif v4 then
  f85.j2' L N self85 k w0 (2:Int) v2 v5 v6 v7
 else bif (v3==(4:Int)) then
  (f54 L N v6 (0:Int) (3:Int)).bind fun y8=>
  f85.j2' L N self85 k w0 (1:Int) y8 v5 v6 v7
 else bif (v3==(5:Int)) then
  (f54 L N v6 (0:Int) (2:Int)).bind fun y9=>
  f85.j2' L N self85 k w0 v1 y9 v5 v6 v7
 else f85.j2' L N self85 k w0 v1 false v5 v6 v7
def f85.b' {R:Type} (L N:Nat) (self85:Tree->Option (Int)) (k:Int->Option R) (w0:Int->Int->Int->Int->Int->LT->Option R) (x0:Tree):Option R:=
 bif (x0.op==(0:Int)) then
  f85.j2' L N self85 k w0 (0:Int) (x0.n==(0:Int)) x0.op x0.n x0.parts
 else bif (x0.op==(1:Int)) then
  (f118 L N x0.n).bind fun y0=>
  f85.j2' L N self85 k w0 (1:Int) y0 x0.op x0.n x0.parts
 else bif (x0.op==(2:Int)) then
  f85.j0' L N self85 k w0 (0:Int) (x0.n==(0:Int)) x0.op (x0.op==(2:Int)) x0.op x0.n x0.parts
 else f85.j0' L N self85 k w0 (0:Int) (x0.n==(0:Int)) x0.op (x0.op==(3:Int)) x0.op x0.n x0.parts
def f85.b {R:Type} (L N:Nat) (self85:Tree->Option (Int)) (k:Int->Option R) (x0:Tree):Option R:=
 f85.b' L N self85 k (fun s24 s25 s26 s27 s28 s29=>f85.l0 L N self85 (fun z30=>f85.p0_e1 L N self85 k z30) (fun z32 z33=>f85.p0_r L N self85 k z32 z33) L s24 s25 s26 s27 s28 s29) x0
def f85 (L N:Nat):Nat->Tree->Option (Int)
 |0,_=>none
 |n+1,x0=>f85.b L N (f85 L N n) some x0
def f85.ent (L N m:Nat):=entRo [(.st 1)] (.one i64) fun d=>f85 L N m d.1
def Φ85s (L N m:Nat):Tells:=(addT (Φ118 L N) 85 (f85.ent L N m))
noncomputable def E85 (L N m:Nat):Env:={P:=Tryz.prog,ty:=tyOf,Φ:=Φ85s L N m,inl:=inlT,live:=lives,liveX:=livesX,L:=L,dp:=none,prom:=promT,heal:=healT,ren:=renT}
noncomputable def f85.c0:Code:=loopAt 1 (codeOf Tryz.f85)
def f85.X0_e1 {R:Type} (κ:KX R):=fun z30=>κ (.exit 1) (f85.T0_e1 z30) (f85.H0_e1 z30)
def f85.X0_r {R:Type} (κ:KX R):=fun z32 z33=>κ .ret (f85.T0_r z32 z33) (f85.H0_r z32 z33)
def f85.R0 {R:Type} (rec:KT R):=fun s24 s25 s26 s27 s28 s29=>rec (f85.T0 s24 s25 s26 s27 s28 s29) (f85.H0 s24 s25 s26 s27 s28 s29)
theorem f85.s0_eq {R:Type} (L N m:Nat) (κ:KX R) (rec:KT R) (s24:Int) (s25:Int) (s26:Int) (s27:Int) (s28:Int) (s29:LT):
  evRd (E85 L N m) (evCallI (E85 L N m) 0 1000) 1000 85 60 1 f85.c0 κ rec (f85.T0 s24 s25 s26 s27 s28 s29) (f85.H0 s24 s25 s26 s27 s28 s29)
  =f85.s0 L N (f85 L N m) (f85.X0_e1 κ) (f85.X0_r κ) (f85.R0 rec) s24 s25 s26 s27 s28 s29:=by kernel_rfl
theorem f85.l0_eq {R:Type} (L N m:Nat) (κ:KX R):∀(n:Nat) (s24:Int) (s25:Int) (s26:Int) (s27:Int) (s28:Int) (s29:LT),
  evLp (E85 L N m) (evCallI (E85 L N m) 0 1000) 1000 85 60 1 f85.c0 κ n (f85.T0 s24 s25 s26 s27 s28 s29) (f85.H0 s24 s25 s26 s27 s28 s29)
  =f85.l0 L N (f85 L N m) (f85.X0_e1 κ) (f85.X0_r κ) n s24 s25 s26 s27 s28 s29:=by
 intro n
 induction n with
 |zero=>intros;rfl
 |succ n ih=>
  intro s24 s25 s26 s27 s28 s29
  rw [evLp_succ,f85.s0_eq]
  delta f85.R0
  simp only [ih]
  rfl
theorem f85.p0_e1_eq {R:Type} (L N m:Nat) (κ:AV->Option R) (z30:Int):
  (contAt (E85 L N m) (evCallI (E85 L N m) 0 1000) 1000 85 60 1 (codeOf Tryz.f85) (finK (E85 L N m) 1000 Tryz.f85 (finC (.one i64) κ))) (.exit 1) (f85.T0_e1 z30) (f85.H0_e1 z30)
  =f85.p0_e1 L N (f85 L N m) (fun a0=>κ (.tv i64 a0)) z30:=by kernel_rfl
theorem f85.p0_r_eq {R:Type} (L N m:Nat) (κ:AV->Option R) (z32:Int) (z33:Int):
  (contAt (E85 L N m) (evCallI (E85 L N m) 0 1000) 1000 85 60 1 (codeOf Tryz.f85) (finK (E85 L N m) 1000 Tryz.f85 (finC (.one i64) κ))) .ret (f85.T0_r z32 z33) (f85.H0_r z32 z33)
  =f85.p0_r L N (f85 L N m) (fun a0=>κ (.tv i64 a0)) z32 z33:=by kernel_rfl
theorem f85.b_eq {R:Type} (L N m:Nat) (κ:AV->Option R) (x0:Tree):
  evBody (E85 L N m) (evCallI (E85 L N m) 0 1000) 1000 85 Tryz.f85 [(.tv (.st 1) x0)] [] [] (finC (.one i64) κ)
  =f85.b L N (f85 L N m) (fun a0=>κ (.tv i64 a0)) x0:=by
 refine Eq.trans (b:=f85.b' L N (f85 L N m) (fun a0=>κ (.tv i64 a0)) (fun s24 s25 s26 s27 s28 s29=>evLp (E85 L N m) (evCallI (E85 L N m) 0 1000) 1000 85 60 1 f85.c0 (contAt (E85 L N m) (evCallI (E85 L N m) 0 1000) 1000 85 60 1 (codeOf Tryz.f85) (finK (E85 L N m) 1000 Tryz.f85 (finC (.one i64) κ))) L (f85.T0 s24 s25 s26 s27 s28 s29) (f85.H0 s24 s25 s26 s27 s28 s29)) x0) (by kernel_rfl) ?_
 unfold f85.b
 simp only [f85.l0_eq]
 delta f85.X0_e1 f85.X0_r
 simp only [f85.p0_e1_eq,f85.p0_r_eq]
theorem f85.ok (L N m:Nat) (hΦ:TellsOk Tryz.prog (Φ85s L N m)):EntOk Tryz.prog 85 (f85.ent L N (m+1)):=entRo_ok (E:=(E85 L N m)) (dep:=1000) (f:=Tryz.f85) (sound_of hΦ) okP (callI_sound (sound_of hΦ) okP 0 1000) rfl rfl fun d _ hy=>(f85.b_eq L N m (unR (.one i64)) d.1).trans (Eq.trans (b:=f85.b L N (f85 L N m) some d.1) (by kernel_rfl) hy)
theorem Φ85s_ok (L N:Nat):∀m,TellsOk Tryz.prog (Φ85s L N m):=by
 intro m
 induction m with
 |zero=>exact (addT_ok (Φ118_ok L N) (entRo_no fun _=>rfl))
 |succ m ih=>exact (addT_ok (Φ118_ok L N) (f85.ok L N m ih))
def Φ85 (L N:Nat):Tells:=(addT (Φ118 L N) 85 (f85.ent L N N))
theorem Φ85_ok (L N:Nat):TellsOk Tryz.prog (Φ85 L N):=Φ85s_ok L N N
def f53.b' {R:Type} (L N:Nat) (k:Bool->Option R) (x0:Tree):Option R:=
 (f85 L N N (Tree.mk x0.op x0.n x0.parts)).bind fun y0=>
 (f54 L N y0 (1:Int) (24:Int)).bind fun y1=>
 k y1
def f53.b {R:Type} (L N:Nat) (k:Bool->Option R) (x0:Tree):Option R:=
 f53.b' L N k x0
def f53 (L N:Nat) (x0:Tree):Option (Bool):=f53.b L N some x0
def f53.ent (L N:Nat):=entRo [(.st 1)] (.one .bool) fun d=>f53 L N d.1
noncomputable def E53 (L N:Nat):Env:={P:=Tryz.prog,ty:=tyOf,Φ:=(Φ85 L N),inl:=inlT,live:=lives,liveX:=livesX,L:=L,dp:=none,prom:=promT,heal:=healT,ren:=renT}
theorem f53.b_eq {R:Type} (L N:Nat) (κ:AV->Option R) (x0:Tree):
  evBody (E53 L N) (evCallI (E53 L N) 0 1000) 1000 53 Tryz.f53 [(.tv (.st 1) x0)] [] [] (finC (.one .bool) κ)
  =f53.b L N (fun a0=>κ (.tv .bool a0)) x0:=by kernel_rfl
theorem f53.ok (L N:Nat) (hΦ:TellsOk Tryz.prog ((Φ85 L N))):EntOk Tryz.prog 53 (f53.ent L N):=entRo_ok (E:=(E53 L N)) (dep:=1000) (f:=Tryz.f53) (sound_of hΦ) okP (callI_sound (sound_of hΦ) okP 0 1000) rfl rfl fun d _ hy=>(f53.b_eq L N (unR (.one .bool)) d.1).trans (Eq.trans (b:=f53.b L N some d.1) (by kernel_rfl) hy)
def Φ53 (L N:Nat):Tells:=(addT (Φ85 L N) 53 (f53.ent L N))
theorem Φ53_ok (L N:Nat):TellsOk Tryz.prog (Φ53 L N):=addT_ok (Φ85_ok L N) (f53.ok L N (Φ85_ok L N))
def f159.b' {R:Type} (L N:Nat) (k:Bool->Option R) (x0:Tree) (x1:Int):Option R:=
 (f53 L N (Tree.mk x0.op x0.n x0.parts)).bind fun y0=>
 bif y0 then
  (f54 L N x1 (0:Int) (3:Int)).bind fun y1=>
  bif y1 then
   (f97 L N N (Tree.mk x0.op x0.n x0.parts) false).bind fun y2=>
   k (decide (y2<x1))
  else k false
 else k false
def f159.b {R:Type} (L N:Nat) (k:Bool->Option R) (x0:Tree) (x1:Int):Option R:=
 f159.b' L N k x0 x1
def f159 (L N:Nat) (x0:Tree) (x1:Int):Option (Bool):=f159.b L N some x0 x1
def f159.ent (L N:Nat):=entRo [(.st 1),i64] (.one .bool) fun d=>f159 L N d.1 d.2.1
noncomputable def E159 (L N:Nat):Env:={P:=Tryz.prog,ty:=tyOf,Φ:=(Φ53 L N),inl:=inlT,live:=lives,liveX:=livesX,L:=L,dp:=none,prom:=promT,heal:=healT,ren:=renT}
theorem f159.b_eq {R:Type} (L N:Nat) (κ:AV->Option R) (x0:Tree) (x1:Int):
  evBody (E159 L N) (evCallI (E159 L N) 0 1000) 1000 159 Tryz.f159 [(.tv (.st 1) x0),(.tv i64 x1)] [] [] (finC (.one .bool) κ)
  =f159.b L N (fun a0=>κ (.tv .bool a0)) x0 x1:=by kernel_rfl
theorem f159.ok (L N:Nat) (hΦ:TellsOk Tryz.prog ((Φ53 L N))):EntOk Tryz.prog 159 (f159.ent L N):=entRo_ok (E:=(E159 L N)) (dep:=1000) (f:=Tryz.f159) (sound_of hΦ) okP (callI_sound (sound_of hΦ) okP 0 1000) rfl rfl fun d _ hy=>(f159.b_eq L N (unR (.one .bool)) d.1 d.2.1).trans (Eq.trans (b:=f159.b L N some d.1 d.2.1) (by kernel_rfl) hy)
def Φ159 (L N:Nat):Tells:=(addT (Φ53 L N) 159 (f159.ent L N))
theorem Φ159_ok (L N:Nat):TellsOk Tryz.prog (Φ159 L N):=addT_ok (Φ53_ok L N) (f159.ok L N (Φ53_ok L N))
def f158.s0' {R:Type} (L N:Nat) (k0_e0:LT->Option R) (k0_r:LT->Bool->Option R) (rec0:LT->Int->Option R) (s0:LT) (s1:Int):Option R:=
 bif (decide (s1<(s0.length:Int))) then
  bif (decide (0≤s1)&&decide (s1<(s0.length:Int))) then
   (f159 L N (listAt s0 (Ty.dflt (.st 1)) s1.toNat) (s0.length:Int)).bind fun y3=>
   bif (!y3) then
    k0_r s0 false
   else bif (decide (0≤s1)&&decide (s1<(s0.length:Int))) then
    (f97 L N N (listAt s0 (Ty.dflt (.st 1)) s1.toNat) true).bind fun y4=>
    bif (decide (y4≥(0:Int))) then
     k0_r s0 false
    else rec0 s0 (wi (s1+(1:Int)))
   else none
  else none
 else k0_e0 s0
def f158.s0 {R:Type} (L N:Nat) (k0_e0:LT->Option R) (k0_r:LT->Bool->Option R) (rec0:LT->Int->Option R) (s0:LT) (s1:Int):Option R:=
 f158.s0' L N k0_e0 k0_r rec0 s0 s1
def f158.l0 {R:Type} (L N:Nat) (k0_e0:LT->Option R) (k0_r:LT->Bool->Option R):Nat->LT->Int->Option R
 |0,_,_=>none
 |n+1,s0,s1=>f158.s0 L N k0_e0 k0_r (f158.l0 L N k0_e0 k0_r n) s0 s1
def f158.T0 (s0:LT) (s1:Int):T:=mkT 29 [(0,(.tv (.sl (.st 1)) s0)),(3,(.tv i64 s1))]
def f158.H0 (s0:LT) (s1:Int):H:=[]
def f158.T0_e0 (z2:LT):T:=mkT 29 [(0,(.tv (.sl (.st 1)) z2))]
def f158.H0_e0 (z2:LT):H:=[]
def f158.T0_r (z8:LT) (z9:Bool):T:=mkT 29 [(0,(.tv (.sl (.st 1)) z8)),(2,(.tv .bool z9))]
def f158.H0_r (z8:LT) (z9:Bool):H:=[]
def f158.p0_e0' {R:Type} (L N:Nat) (k:Bool->Option R) (z2:LT):Option R:=
 k (decide ((z2.length:Int)≤(3:Int)))
def f158.p0_e0 {R:Type} (L N:Nat) (k:Bool->Option R) (z2:LT):Option R:=
 f158.p0_e0' L N k z2
def f158.p0_r' {R:Type} (L N:Nat) (k:Bool->Option R) (z8:LT) (z9:Bool):Option R:=
 k z9
def f158.p0_r {R:Type} (L N:Nat) (k:Bool->Option R) (z8:LT) (z9:Bool):Option R:=
 f158.p0_r' L N k z8 z9
def f158.b' {R:Type} (L N:Nat) (k:Bool->Option R) (w0:LT->Int->Option R) (x0:LT):Option R:=
 w0 x0 (0:Int)
def f158.b {R:Type} (L N:Nat) (k:Bool->Option R) (x0:LT):Option R:=
 f158.b' L N k (fun s0 s1=>f158.l0 L N (fun z2=>f158.p0_e0 L N k z2) (fun z8 z9=>f158.p0_r L N k z8 z9) L s0 s1) x0
def f158 (L N:Nat) (x0:LT):Option (Bool):=f158.b L N some x0
def f158.ent (L N:Nat):=entRo [(.sl (.st 1))] (.one .bool) fun d=>f158 L N d.1
noncomputable def E158 (L N:Nat):Env:={P:=Tryz.prog,ty:=tyOf,Φ:=(Φ159 L N),inl:=inlT,live:=lives,liveX:=livesX,L:=L,dp:=none,prom:=promT,heal:=healT,ren:=renT}
noncomputable def f158.c0:Code:=loopAt 0 (codeOf Tryz.f158)
def f158.X0_e0 {R:Type} (κ:KX R):=fun z2=>κ (.exit 0) (f158.T0_e0 z2) (f158.H0_e0 z2)
def f158.X0_r {R:Type} (κ:KX R):=fun z8 z9=>κ .ret (f158.T0_r z8 z9) (f158.H0_r z8 z9)
def f158.R0 {R:Type} (rec:KT R):=fun s0 s1=>rec (f158.T0 s0 s1) (f158.H0 s0 s1)
theorem f158.s0_eq {R:Type} (L N:Nat) (κ:KX R) (rec:KT R) (s0:LT) (s1:Int):
  evRd (E158 L N) (evCallI (E158 L N) 0 1000) 1000 158 29 0 f158.c0 κ rec (f158.T0 s0 s1) (f158.H0 s0 s1)
  =f158.s0 L N (f158.X0_e0 κ) (f158.X0_r κ) (f158.R0 rec) s0 s1:=by kernel_rfl
theorem f158.l0_eq {R:Type} (L N:Nat) (κ:KX R):∀(n:Nat) (s0:LT) (s1:Int),
  evLp (E158 L N) (evCallI (E158 L N) 0 1000) 1000 158 29 0 f158.c0 κ n (f158.T0 s0 s1) (f158.H0 s0 s1)
  =f158.l0 L N (f158.X0_e0 κ) (f158.X0_r κ) n s0 s1:=by
 intro n
 induction n with
 |zero=>intros;rfl
 |succ n ih=>
  intro s0 s1
  rw [evLp_succ,f158.s0_eq]
  delta f158.R0
  simp only [ih]
  rfl
theorem f158.p0_e0_eq {R:Type} (L N:Nat) (κ:AV->Option R) (z2:LT):
  (contAt (E158 L N) (evCallI (E158 L N) 0 1000) 1000 158 29 0 (codeOf Tryz.f158) (finK (E158 L N) 1000 Tryz.f158 (finC (.one .bool) κ))) (.exit 0) (f158.T0_e0 z2) (f158.H0_e0 z2)
  =f158.p0_e0 L N (fun a0=>κ (.tv .bool a0)) z2:=by kernel_rfl
theorem f158.p0_r_eq {R:Type} (L N:Nat) (κ:AV->Option R) (z8:LT) (z9:Bool):
  (contAt (E158 L N) (evCallI (E158 L N) 0 1000) 1000 158 29 0 (codeOf Tryz.f158) (finK (E158 L N) 1000 Tryz.f158 (finC (.one .bool) κ))) .ret (f158.T0_r z8 z9) (f158.H0_r z8 z9)
  =f158.p0_r L N (fun a0=>κ (.tv .bool a0)) z8 z9:=by kernel_rfl
theorem f158.b_eq {R:Type} (L N:Nat) (κ:AV->Option R) (x0:LT):
  evBody (E158 L N) (evCallI (E158 L N) 0 1000) 1000 158 Tryz.f158 [(.tv (.sl (.st 1)) x0)] [] [] (finC (.one .bool) κ)
  =f158.b L N (fun a0=>κ (.tv .bool a0)) x0:=by
 refine Eq.trans (b:=f158.b' L N (fun a0=>κ (.tv .bool a0)) (fun s0 s1=>evLp (E158 L N) (evCallI (E158 L N) 0 1000) 1000 158 29 0 f158.c0 (contAt (E158 L N) (evCallI (E158 L N) 0 1000) 1000 158 29 0 (codeOf Tryz.f158) (finK (E158 L N) 1000 Tryz.f158 (finC (.one .bool) κ))) L (f158.T0 s0 s1) (f158.H0 s0 s1)) x0) (by kernel_rfl) ?_
 unfold f158.b
 simp only [f158.l0_eq]
 delta f158.X0_e0 f158.X0_r
 simp only [f158.p0_e0_eq,f158.p0_r_eq]
theorem f158.ok (L N:Nat) (hΦ:TellsOk Tryz.prog ((Φ159 L N))):EntOk Tryz.prog 158 (f158.ent L N):=entRo_ok (E:=(E158 L N)) (dep:=1000) (f:=Tryz.f158) (sound_of hΦ) okP (callI_sound (sound_of hΦ) okP 0 1000) rfl rfl fun d _ hy=>(f158.b_eq L N (unR (.one .bool)) d.1).trans (Eq.trans (b:=f158.b L N some d.1) (by kernel_rfl) hy)
def Φ158 (L N:Nat):Tells:=(addT (Φ159 L N) 158 (f158.ent L N))
theorem Φ158_ok (L N:Nat):TellsOk Tryz.prog (Φ158 L N):=addT_ok (Φ159_ok L N) (f158.ok L N (Φ159_ok L N))
def f115.b' {R:Type} (L N:Nat) (k:Bool->Option R) (x0:Tree) (x1:LT):Option R:=
 (f158 L N x1).bind fun y0=>
 bif y0 then
  (f159 L N (Tree.mk x0.op x0.n x0.parts) (x1.length:Int)).bind fun y1=>
  k y1
 else k false
def f115.b {R:Type} (L N:Nat) (k:Bool->Option R) (x0:Tree) (x1:LT):Option R:=
 f115.b' L N k x0 x1
def f115 (L N:Nat) (x0:Tree) (x1:LT):Option (Bool):=f115.b L N some x0 x1
def f115.ent (L N:Nat):=entRo [(.st 1),(.sl (.st 1))] (.one .bool) fun d=>f115 L N d.1 d.2.1
noncomputable def E115 (L N:Nat):Env:={P:=Tryz.prog,ty:=tyOf,Φ:=(Φ158 L N),inl:=inlT,live:=lives,liveX:=livesX,L:=L,dp:=none,prom:=promT,heal:=healT,ren:=renT}
theorem f115.b_eq {R:Type} (L N:Nat) (κ:AV->Option R) (x0:Tree) (x1:LT):
  evBody (E115 L N) (evCallI (E115 L N) 0 1000) 1000 115 Tryz.f115 [(.tv (.st 1) x0),(.tv (.sl (.st 1)) x1)] [] [] (finC (.one .bool) κ)
  =f115.b L N (fun a0=>κ (.tv .bool a0)) x0 x1:=by kernel_rfl
theorem f115.ok (L N:Nat) (hΦ:TellsOk Tryz.prog ((Φ158 L N))):EntOk Tryz.prog 115 (f115.ent L N):=entRo_ok (E:=(E115 L N)) (dep:=1000) (f:=Tryz.f115) (sound_of hΦ) okP (callI_sound (sound_of hΦ) okP 0 1000) rfl rfl fun d _ hy=>(f115.b_eq L N (unR (.one .bool)) d.1 d.2.1).trans (Eq.trans (b:=f115.b L N some d.1 d.2.1) (by kernel_rfl) hy)
def Φ115 (L N:Nat):Tells:=(addT (Φ158 L N) 115 (f115.ent L N))
theorem Φ115_ok (L N:Nat):TellsOk Tryz.prog (Φ115 L N):=addT_ok (Φ158_ok L N) (f115.ok L N (Φ158_ok L N))
def f119.b' {R:Type} (L N:Nat) (k:Bool->Option R) (x0:Move) (x1:Move):Option R:=
 bif (decide (x0.act<x1.act)) then
  k true
 else bif (x0.act==x1.act) then
  k (decide (x0.to<x1.to))
 else k false
def f119.b {R:Type} (L N:Nat) (k:Bool->Option R) (x0:Move) (x1:Move):Option R:=
 f119.b' L N k x0 x1
def f119 (L N:Nat) (x0:Move) (x1:Move):Option (Bool):=f119.b L N some x0 x1
def f119.ent (L N:Nat):=entRo [(.st 0),(.st 0)] (.one .bool) fun d=>f119 L N d.1 d.2.1
noncomputable def E119 (L N:Nat):Env:={P:=Tryz.prog,ty:=tyOf,Φ:=(Φ115 L N),inl:=inlT,live:=lives,liveX:=livesX,L:=L,dp:=none,prom:=promT,heal:=healT,ren:=renT}
theorem f119.b_eq {R:Type} (L N:Nat) (κ:AV->Option R) (x0:Move) (x1:Move):
  evBody (E119 L N) (evCallI (E119 L N) 0 1000) 1000 119 Tryz.f119 [(.tv (.st 0) x0),(.tv (.st 0) x1)] [] [] (finC (.one .bool) κ)
  =f119.b L N (fun a0=>κ (.tv .bool a0)) x0 x1:=by kernel_rfl
theorem f119.ok (L N:Nat) (hΦ:TellsOk Tryz.prog ((Φ115 L N))):EntOk Tryz.prog 119 (f119.ent L N):=entRo_ok (E:=(E119 L N)) (dep:=1000) (f:=Tryz.f119) (sound_of hΦ) okP (callI_sound (sound_of hΦ) okP 0 1000) rfl rfl fun d _ hy=>(f119.b_eq L N (unR (.one .bool)) d.1 d.2.1).trans (Eq.trans (b:=f119.b L N some d.1 d.2.1) (by kernel_rfl) hy)
def Φ119 (L N:Nat):Tells:=(addT (Φ115 L N) 119 (f119.ent L N))
theorem Φ119_ok (L N:Nat):TellsOk Tryz.prog (Φ119 L N):=addT_ok (Φ115_ok L N) (f119.ok L N (Φ115_ok L N))
def f78.s1' {R:Type} (L N:Nat) (k1_e2:LM->Int->Int->LM->Option R) (rec1:LM->Int->Int->LM->Option R) (s4:LM) (s5:Int) (s6:Int) (s7:LM):Option R:=
 bif (decide (s6>(0:Int))) then
  bif (decide (0≤s5)&&decide (s5<(s4.length:Int))) then
   bif (decide (0≤(wi (s6-(1:Int))))&&decide ((wi (s6-(1:Int)))<(s7.length:Int))) then
    (f119 L N (listAt s4 (Ty.dflt (.st 0)) s5.toNat) (listAt s7 (Ty.dflt (.st 0)) (wi (s6-(1:Int))).toNat)).bind fun y8=>
    bif y8 then
     rec1 s4 s5 (wi (s6-(1:Int))) s7
    else k1_e2 s4 s5 s6 s7
   else none
  else none
 else k1_e2 s4 s5 s6 s7
def f78.s1 {R:Type} (L N:Nat) (k1_e2:LM->Int->Int->LM->Option R) (rec1:LM->Int->Int->LM->Option R) (s4:LM) (s5:Int) (s6:Int) (s7:LM):Option R:=
 f78.s1' L N k1_e2 rec1 s4 s5 s6 s7
def f78.l1 {R:Type} (L N:Nat) (k1_e2:LM->Int->Int->LM->Option R):Nat->LM->Int->Int->LM->Option R
 |0,_,_,_,_=>none
 |n+1,s4,s5,s6,s7=>f78.s1 L N k1_e2 (f78.l1 L N k1_e2 n) s4 s5 s6 s7
def f78.T1 (s4:LM) (s5:Int) (s6:Int) (s7:LM):T:=mkT 74 [(0,(.tv (.sl (.st 0)) s4)),(3,(.row 1007)),(4,(.tv i64 s5)),(5,(.tv i64 s6))]
def f78.H1 (s4:LM) (s5:Int) (s6:Int) (s7:LM):H:=[(1007,(.row 63 (.st 0) s7))]
def f78.T1_e2 (z14:LM) (z15:Int) (z16:Int) (z17:LM):T:=mkT 74 [(0,(.tv (.sl (.st 0)) z14)),(3,(.row 1007)),(4,(.tv i64 z15)),(5,(.tv i64 z16))]
def f78.H1_e2 (z14:LM) (z15:Int) (z16:Int) (z17:LM):H:=[(1007,(.row 63 (.st 0) z17))]
def f78.s2' {R:Type} (L N:Nat) (k2_e4:LM->Int->Int->LM->Option R) (rec2:LM->Int->Int->Int->LM->Option R) (s31:LM) (s32:Int) (s33:Int) (s34:Int) (s35:LM):Option R:=
 bif (decide (s34>s33)) then
  bif (decide (0≤(wi (s34-(1:Int))))&&decide ((wi (s34-(1:Int)))<(s35.length:Int))) then
   bif (decide (0≤s34)&&decide (s34<(s35.length:Int))) then
    rec2 s31 s32 s33 (wi (s34-(1:Int))) (s35.set s34.toNat (listAt s35 (Ty.dflt (.st 0)) (wi (s34-(1:Int))).toNat))
   else none
  else none
 else k2_e4 s31 s32 s33 s35
def f78.s2 {R:Type} (L N:Nat) (k2_e4:LM->Int->Int->LM->Option R) (rec2:LM->Int->Int->Int->LM->Option R) (s31:LM) (s32:Int) (s33:Int) (s34:Int) (s35:LM):Option R:=
 f78.s2' L N k2_e4 rec2 s31 s32 s33 s34 s35
def f78.l2 {R:Type} (L N:Nat) (k2_e4:LM->Int->Int->LM->Option R):Nat->LM->Int->Int->Int->LM->Option R
 |0,_,_,_,_,_=>none
 |n+1,s31,s32,s33,s34,s35=>f78.s2 L N k2_e4 (f78.l2 L N k2_e4 n) s31 s32 s33 s34 s35
def f78.T2 (s31:LM) (s32:Int) (s33:Int) (s34:Int) (s35:LM):T:=mkT 74 [(0,(.tv (.sl (.st 0)) s31)),(3,(.row 1007)),(4,(.tv i64 s32)),(5,(.tv i64 s33)),(6,(.tv i64 s34))]
def f78.H2 (s31:LM) (s32:Int) (s33:Int) (s34:Int) (s35:LM):H:=[(1007,(.row 63 (.st 0) s35))]
def f78.T2_e4 (z36:LM) (z37:Int) (z38:Int) (z39:LM):T:=mkT 74 [(0,(.tv (.sl (.st 0)) z36)),(3,(.row 1007)),(4,(.tv i64 z37)),(5,(.tv i64 z38))]
def f78.H2_e4 (z36:LM) (z37:Int) (z38:Int) (z39:LM):H:=[(1007,(.row 63 (.st 0) z39))]
def f78.p2_e4' {R:Type} (L N:Nat) (k0_e0:LM->Option R) (rec0:LM->Int->LM->Option R) (z36:LM) (z37:Int) (z38:Int) (z39:LM):Option R:=
 bif (decide (0≤z37)&&decide (z37<(z36.length:Int))) then
  bif (decide (0≤z38)&&decide (z38<(z39.length:Int))) then
   rec0 z36 (wi (z37+(1:Int))) (z39.set z38.toNat (listAt z36 (Ty.dflt (.st 0)) z37.toNat))
  else none
 else none
def f78.p2_e4 {R:Type} (L N:Nat) (k0_e0:LM->Option R) (rec0:LM->Int->LM->Option R) (z36:LM) (z37:Int) (z38:Int) (z39:LM):Option R:=
 f78.p2_e4' L N k0_e0 rec0 z36 z37 z38 z39
def f78.j0' {R:Type} (L N:Nat) (k0_e0:LM->Option R) (rec0:LM->Int->LM->Option R) (w2:LM->Int->Int->Int->LM->Option R) (v27:LM) (v28:Int) (v29:Int) (v30:LM):Option R:=
 bif (decide (v30.length+([(Move.mk (0:Int) (0:Int))]:LM).length≤lim)) then
  w2 v27 v28 v29 (wi (((v30++([(Move.mk (0:Int) (0:Int))]:LM)).length:Int)-(1:Int))) (v30++([(Move.mk (0:Int) (0:Int))]:LM))
 else none
def f78.p1_e2' {R:Type} (L N:Nat) (k0_e0:LM->Option R) (rec0:LM->Int->LM->Option R) (w2:LM->Int->Int->Int->LM->Option R) (z14:LM) (z15:Int) (z16:Int) (z17:LM):Option R:=
 bif (decide (z16>(0:Int))) then
  bif (decide (0≤(wi (z16-(1:Int))))&&decide ((wi (z16-(1:Int)))<(z17.length:Int))) then
   bif (decide (0≤z15)&&decide (z15<(z14.length:Int))) then
    bif (Move.eqb (listAt z17 (Ty.dflt (.st 0)) (wi (z16-(1:Int))).toNat) (listAt z14 (Ty.dflt (.st 0)) z15.toNat)) then
     rec0 z14 (wi (z15+(1:Int))) z17
    else f78.j0' L N k0_e0 rec0 w2 z14 z15 z16 z17
   else none
  else none
 else f78.j0' L N k0_e0 rec0 w2 z14 z15 z16 z17
def f78.p1_e2 {R:Type} (L N:Nat) (k0_e0:LM->Option R) (rec0:LM->Int->LM->Option R) (z14:LM) (z15:Int) (z16:Int) (z17:LM):Option R:=
 f78.p1_e2' L N k0_e0 rec0 (fun s31 s32 s33 s34 s35=>f78.l2 L N (fun z36 z37 z38 z39=>f78.p2_e4 L N k0_e0 rec0 z36 z37 z38 z39) L s31 s32 s33 s34 s35) z14 z15 z16 z17
def f78.s0' {R:Type} (L N:Nat) (k0_e0:LM->Option R) (rec0:LM->Int->LM->Option R) (w1:LM->Int->Int->LM->Option R) (s0:LM) (s1:Int) (s2:LM):Option R:=
 bif (decide (s1<(s0.length:Int))) then
  w1 s0 s1 (s2.length:Int) s2
 else k0_e0 s2
def f78.s0 {R:Type} (L N:Nat) (k0_e0:LM->Option R) (rec0:LM->Int->LM->Option R) (s0:LM) (s1:Int) (s2:LM):Option R:=
 f78.s0' L N k0_e0 rec0 (fun s4 s5 s6 s7=>f78.l1 L N (fun z14 z15 z16 z17=>f78.p1_e2 L N k0_e0 rec0 z14 z15 z16 z17) L s4 s5 s6 s7) s0 s1 s2
def f78.l0 {R:Type} (L N:Nat) (k0_e0:LM->Option R):Nat->LM->Int->LM->Option R
 |0,_,_,_=>none
 |n+1,s0,s1,s2=>f78.s0 L N k0_e0 (f78.l0 L N k0_e0 n) s0 s1 s2
def f78.T0 (s0:LM) (s1:Int) (s2:LM):T:=mkT 74 [(0,(.tv (.sl (.st 0)) s0)),(3,(.row 1007)),(4,(.tv i64 s1))]
def f78.H0 (s0:LM) (s1:Int) (s2:LM):H:=[(1007,(.row 63 (.st 0) s2))]
def f78.T0_e0 (z3:LM):T:=mkT 74 [(3,(.row 1007))]
def f78.H0_e0 (z3:LM):H:=[(1007,(.row 63 (.st 0) z3))]
def f78.p0_e0' {R:Type} (L N:Nat) (k:LM->Option R) (z3:LM):Option R:=
 k z3
def f78.p0_e0 {R:Type} (L N:Nat) (k:LM->Option R) (z3:LM):Option R:=
 f78.p0_e0' L N k z3
def f78.b' {R:Type} (L N:Nat) (k:LM->Option R) (w0:LM->Int->LM->Option R) (x0:LM):Option R:=
 w0 x0 (0:Int) ([]:LM)
def f78.b {R:Type} (L N:Nat) (k:LM->Option R) (x0:LM):Option R:=
 f78.b' L N k (fun s0 s1 s2=>f78.l0 L N (fun z3=>f78.p0_e0 L N k z3) L s0 s1 s2) x0
def f78 (L N:Nat) (x0:LM):Option (LM):=f78.b L N some x0
def f78.ent (L N:Nat) (args:List AV) (vw:View) (site:Nat):Ans:=match roD [(.sl (.st 0))] vw args with
 |some d=>⟨LM,f78 L N d.1,fun y=>(RN.av site .row (),[(site,some (mkO none 63 (.st 0) y))],[])⟩
 |none=>Ans.no
noncomputable def E78 (L N:Nat):Env:={P:=Tryz.prog,ty:=tyOf,Φ:=(Φ119 L N),inl:=inlT,live:=lives,liveX:=livesX,L:=L,dp:=none,prom:=promT,heal:=healT,ren:=renT}
noncomputable def f78.c0:Code:=loopAt 0 (codeOf Tryz.f78)
noncomputable def f78.c1:Code:=loopAt 2 f78.c0
def f78.X1_e2 {R:Type} (κ:KX R):=fun z14 z15 z16 z17=>κ (.exit 2) (f78.T1_e2 z14 z15 z16 z17) (f78.H1_e2 z14 z15 z16 z17)
def f78.R1 {R:Type} (rec:KT R):=fun s4 s5 s6 s7=>rec (f78.T1 s4 s5 s6 s7) (f78.H1 s4 s5 s6 s7)
theorem f78.s1_eq {R:Type} (L N:Nat) (κ:KX R) (rec:KT R) (s4:LM) (s5:Int) (s6:Int) (s7:LM):
  evRd (E78 L N) (evCallI (E78 L N) 0 1000) 1000 78 74 2 f78.c1 κ rec (f78.T1 s4 s5 s6 s7) (f78.H1 s4 s5 s6 s7)
  =f78.s1 L N (f78.X1_e2 κ) (f78.R1 rec) s4 s5 s6 s7:=by kernel_rfl
theorem f78.l1_eq {R:Type} (L N:Nat) (κ:KX R):∀(n:Nat) (s4:LM) (s5:Int) (s6:Int) (s7:LM),
  evLp (E78 L N) (evCallI (E78 L N) 0 1000) 1000 78 74 2 f78.c1 κ n (f78.T1 s4 s5 s6 s7) (f78.H1 s4 s5 s6 s7)
  =f78.l1 L N (f78.X1_e2 κ) n s4 s5 s6 s7:=by
 intro n
 induction n with
 |zero=>intros;rfl
 |succ n ih=>
  intro s4 s5 s6 s7
  rw [evLp_succ,f78.s1_eq]
  delta f78.R1
  simp only [ih]
  rfl
noncomputable def f78.c2:Code:=loopAt 4 f78.c0
def f78.X2_e4 {R:Type} (κ:KX R):=fun z36 z37 z38 z39=>κ (.exit 4) (f78.T2_e4 z36 z37 z38 z39) (f78.H2_e4 z36 z37 z38 z39)
def f78.R2 {R:Type} (rec:KT R):=fun s31 s32 s33 s34 s35=>rec (f78.T2 s31 s32 s33 s34 s35) (f78.H2 s31 s32 s33 s34 s35)
theorem f78.s2_eq {R:Type} (L N:Nat) (κ:KX R) (rec:KT R) (s31:LM) (s32:Int) (s33:Int) (s34:Int) (s35:LM):
  evRd (E78 L N) (evCallI (E78 L N) 0 1000) 1000 78 74 4 f78.c2 κ rec (f78.T2 s31 s32 s33 s34 s35) (f78.H2 s31 s32 s33 s34 s35)
  =f78.s2 L N (f78.X2_e4 κ) (f78.R2 rec) s31 s32 s33 s34 s35:=by kernel_rfl
theorem f78.l2_eq {R:Type} (L N:Nat) (κ:KX R):∀(n:Nat) (s31:LM) (s32:Int) (s33:Int) (s34:Int) (s35:LM),
  evLp (E78 L N) (evCallI (E78 L N) 0 1000) 1000 78 74 4 f78.c2 κ n (f78.T2 s31 s32 s33 s34 s35) (f78.H2 s31 s32 s33 s34 s35)
  =f78.l2 L N (f78.X2_e4 κ) n s31 s32 s33 s34 s35:=by
 intro n
 induction n with
 |zero=>intros;rfl
 |succ n ih=>
  intro s31 s32 s33 s34 s35
  rw [evLp_succ,f78.s2_eq]
  delta f78.R2
  simp only [ih]
  rfl
def f78.X0_e0 {R:Type} (κ:KX R):=fun z3=>κ (.exit 0) (f78.T0_e0 z3) (f78.H0_e0 z3)
def f78.R0 {R:Type} (rec:KT R):=fun s0 s1 s2=>rec (f78.T0 s0 s1 s2) (f78.H0 s0 s1 s2)
theorem f78.p2_e4_eq {R:Type} (L N:Nat) (κ:KX R) (rec:KT R) (z36:LM) (z37:Int) (z38:Int) (z39:LM):
  (contAt (E78 L N) (evCallI (E78 L N) 0 1000) 1000 78 74 4 f78.c0 (rdK (E78 L N) 1000 78 74 0 κ rec)) (.exit 4) (f78.T2_e4 z36 z37 z38 z39) (f78.H2_e4 z36 z37 z38 z39)
  =f78.p2_e4 L N (f78.X0_e0 κ) (f78.R0 rec) z36 z37 z38 z39:=by kernel_rfl
theorem f78.p1_e2_eq {R:Type} (L N:Nat) (κ:KX R) (rec:KT R) (z14:LM) (z15:Int) (z16:Int) (z17:LM):
  (contAt (E78 L N) (evCallI (E78 L N) 0 1000) 1000 78 74 2 f78.c0 (rdK (E78 L N) 1000 78 74 0 κ rec)) (.exit 2) (f78.T1_e2 z14 z15 z16 z17) (f78.H1_e2 z14 z15 z16 z17)
  =f78.p1_e2 L N (f78.X0_e0 κ) (f78.R0 rec) z14 z15 z16 z17:=by
 refine Eq.trans (b:=f78.p1_e2' L N (f78.X0_e0 κ) (f78.R0 rec) (fun s31 s32 s33 s34 s35=>evLp (E78 L N) (evCallI (E78 L N) 0 1000) 1000 78 74 4 f78.c2 (contAt (E78 L N) (evCallI (E78 L N) 0 1000) 1000 78 74 4 f78.c0 (rdK (E78 L N) 1000 78 74 0 κ rec)) L (f78.T2 s31 s32 s33 s34 s35) (f78.H2 s31 s32 s33 s34 s35)) z14 z15 z16 z17) (by kernel_rfl) ?_
 unfold f78.p1_e2
 simp only [f78.l2_eq]
 delta f78.X2_e4
 simp only [f78.p2_e4_eq]
theorem f78.s0_eq {R:Type} (L N:Nat) (κ:KX R) (rec:KT R) (s0:LM) (s1:Int) (s2:LM):
  evRd (E78 L N) (evCallI (E78 L N) 0 1000) 1000 78 74 0 f78.c0 κ rec (f78.T0 s0 s1 s2) (f78.H0 s0 s1 s2)
  =f78.s0 L N (f78.X0_e0 κ) (f78.R0 rec) s0 s1 s2:=by
 refine Eq.trans (b:=f78.s0' L N (f78.X0_e0 κ) (f78.R0 rec) (fun s4 s5 s6 s7=>evLp (E78 L N) (evCallI (E78 L N) 0 1000) 1000 78 74 2 f78.c1 (contAt (E78 L N) (evCallI (E78 L N) 0 1000) 1000 78 74 2 f78.c0 (rdK (E78 L N) 1000 78 74 0 κ rec)) L (f78.T1 s4 s5 s6 s7) (f78.H1 s4 s5 s6 s7)) s0 s1 s2) (by kernel_rfl) ?_
 unfold f78.s0
 simp only [f78.l1_eq]
 delta f78.X1_e2
 simp only [f78.p1_e2_eq]
theorem f78.l0_eq {R:Type} (L N:Nat) (κ:KX R):∀(n:Nat) (s0:LM) (s1:Int) (s2:LM),
  evLp (E78 L N) (evCallI (E78 L N) 0 1000) 1000 78 74 0 f78.c0 κ n (f78.T0 s0 s1 s2) (f78.H0 s0 s1 s2)
  =f78.l0 L N (f78.X0_e0 κ) n s0 s1 s2:=by
 intro n
 induction n with
 |zero=>intros;rfl
 |succ n ih=>
  intro s0 s1 s2
  rw [evLp_succ,f78.s0_eq]
  delta f78.R0
  simp only [ih]
  rfl
theorem f78.p0_e0_eq {R:Type} (L N:Nat) (κ:RN.Den .row->List Move->Option R) (z3:LM):
  (contAt (E78 L N) (evCallI (E78 L N) 0 1000) 1000 78 74 0 (codeOf Tryz.f78) (finK (E78 L N) 1000 Tryz.f78 (finN .row none 63 (.st 0) κ))) (.exit 0) (f78.T0_e0 z3) (f78.H0_e0 z3)
  =f78.p0_e0 L N (fun a0=>κ () a0) z3:=by kernel_rfl
theorem f78.b_eq {R:Type} (L N:Nat) (κ:RN.Den .row->List Move->Option R) (x0:LM):
  evBody (E78 L N) (evCallI (E78 L N) 0 1000) 1000 78 Tryz.f78 [(.tv (.sl (.st 0)) x0)] [] [] (finN .row none 63 (.st 0) κ)
  =f78.b L N (fun a0=>κ () a0) x0:=by
 refine Eq.trans (b:=f78.b' L N (fun a0=>κ () a0) (fun s0 s1 s2=>evLp (E78 L N) (evCallI (E78 L N) 0 1000) 1000 78 74 0 f78.c0 (contAt (E78 L N) (evCallI (E78 L N) 0 1000) 1000 78 74 0 (codeOf Tryz.f78) (finK (E78 L N) 1000 Tryz.f78 (finN .row none 63 (.st 0) κ))) L (f78.T0 s0 s1 s2) (f78.H0 s0 s1 s2)) x0) (by kernel_rfl) ?_
 unfold f78.b
 simp only [f78.l0_eq]
 delta f78.X0_e0
 simp only [f78.p0_e0_eq]
theorem f78.ok (L N:Nat) (hΦ:TellsOk Tryz.prog ((Φ119 L N))):EntOk Tryz.prog 78 (f78.ent L N):=by
 intro args vw site h
 unfold f78.ent
 split
 ·rename_i d ha
  intro y hy hs
  refine call_ron (y:=y) (dep:=1000) (E:=(E78 L N)) (ts:=[(.sl (.st 0))]) (rn:=.row) (q:=none) (el:=63) (ty:=(.st 0)) (d1:=()) (xs:=y) (κ:=(fun d xs=>some xs)) (sound_of hΦ) okP (callI_sound (sound_of hΦ) okP 0 1000) (f:=Tryz.f78) rfl hs ha ?_ (fun _ _ h=>by obtain rfl:=Option.some.inj h;exact ⟨rfl,rfl⟩) rfl site
  exact (f78.b_eq L N (fun d xs=>some xs) d.1).trans (Eq.trans (b:=f78.b L N some d.1) (by kernel_rfl) hy)
 ·intro y hy
  cases hy
def Φ78 (L N:Nat):Tells:=(addT (Φ119 L N) 78 (f78.ent L N))
theorem Φ78_ok (L N:Nat):TellsOk Tryz.prog (Φ78 L N):=addT_ok (Φ119_ok L N) (f78.ok L N (Φ119_ok L N))
def f135.b' {R:Type} (L N:Nat) (k:Int->Option R) (x0:Int):Option R:=
 k (wi ((bif decide ((wi (0-x0))>x0) then (wi (0-x0)) else x0)-(1:Int)))
def f135.b {R:Type} (L N:Nat) (k:Int->Option R) (x0:Int):Option R:=
 f135.b' L N k x0
def f135 (L N:Nat) (x0:Int):Option (Int):=f135.b L N some x0
def f135.ent (L N:Nat):=entRo [i64] (.one i64) fun d=>f135 L N d.1
noncomputable def E135 (L N:Nat):Env:={P:=Tryz.prog,ty:=tyOf,Φ:=(Φ78 L N),inl:=inlT,live:=lives,liveX:=livesX,L:=L,dp:=none,prom:=promT,heal:=healT,ren:=renT}
theorem f135.b_eq {R:Type} (L N:Nat) (κ:AV->Option R) (x0:Int):
  evBody (E135 L N) (evCallI (E135 L N) 0 1000) 1000 135 Tryz.f135 [(.tv i64 x0)] [] [] (finC (.one i64) κ)
  =f135.b L N (fun a0=>κ (.tv i64 a0)) x0:=by kernel_rfl
theorem f135.ok (L N:Nat) (hΦ:TellsOk Tryz.prog ((Φ78 L N))):EntOk Tryz.prog 135 (f135.ent L N):=entRo_ok (E:=(E135 L N)) (dep:=1000) (f:=Tryz.f135) (sound_of hΦ) okP (callI_sound (sound_of hΦ) okP 0 1000) rfl rfl fun d _ hy=>(f135.b_eq L N (unR (.one i64)) d.1).trans (Eq.trans (b:=f135.b L N some d.1) (by kernel_rfl) hy)
def Φ135 (L N:Nat):Tells:=(addT (Φ78 L N) 135 (f135.ent L N))
theorem Φ135_ok (L N:Nat):TellsOk Tryz.prog (Φ135 L N):=addT_ok (Φ78_ok L N) (f135.ok L N (Φ78_ok L N))
def f98.s0' {R:Type} (L N:Nat) (self98:Tree->LT->Option (LS)) (k0_e1:Int->Int->LT->LS->LS->LS->Option R) (rec0:Int->Int->Int->LT->LS->LS->LS->Option R) (s4:Int) (s5:Int) (s6:Int) (s7:LT) (s8:LS) (s9:LS) (s10:LS):Option R:=
 bif (decide (s4<(s9.length:Int))) then
  bif (decide (0≤s4)&&decide (s4<(s9.length:Int))) then
   bif (decide (0≤s4)&&decide (s4<(s9.length:Int))) then
    bif (decide (0≤(1:Int))&&decide ((1:Int)<(s7.length:Int))) then
     bif (decide (s8.length+([(Step.mk ((listAt s9 (Ty.dflt (.st 3)) s4.toNat).act) (Tree.mk (3:Int) (0:Int) ([(Tree.mk ((listAt s9 (Ty.dflt (.st 3)) s4.toNat).thn.op) ((listAt s9 (Ty.dflt (.st 3)) s4.toNat).thn.n) ((listAt s9 (Ty.dflt (.st 3)) s4.toNat).thn.parts)),(listAt s7 (Ty.dflt (.st 1)) (1:Int).toNat)]:LT)))]:LS).length≤lim)) then
      rec0 (wi (s4+(1:Int))) s5 s6 s7 (s8++([(Step.mk ((listAt s9 (Ty.dflt (.st 3)) s4.toNat).act) (Tree.mk (3:Int) (0:Int) ([(Tree.mk ((listAt s9 (Ty.dflt (.st 3)) s4.toNat).thn.op) ((listAt s9 (Ty.dflt (.st 3)) s4.toNat).thn.n) ((listAt s9 (Ty.dflt (.st 3)) s4.toNat).thn.parts)),(listAt s7 (Ty.dflt (.st 1)) (1:Int).toNat)]:LT)))]:LS)) s9 s10
     else none
    else none
   else none
  else none
 else k0_e1 s5 s6 s7 s8 s9 s10
def f98.s0 {R:Type} (L N:Nat) (self98:Tree->LT->Option (LS)) (k0_e1:Int->Int->LT->LS->LS->LS->Option R) (rec0:Int->Int->Int->LT->LS->LS->LS->Option R) (s4:Int) (s5:Int) (s6:Int) (s7:LT) (s8:LS) (s9:LS) (s10:LS):Option R:=
 f98.s0' L N self98 k0_e1 rec0 s4 s5 s6 s7 s8 s9 s10
def f98.l0 {R:Type} (L N:Nat) (self98:Tree->LT->Option (LS)) (k0_e1:Int->Int->LT->LS->LS->LS->Option R):Nat->Int->Int->Int->LT->LS->LS->LS->Option R
 |0,_,_,_,_,_,_,_=>none
 |n+1,s4,s5,s6,s7,s8,s9,s10=>f98.s0 L N self98 k0_e1 (f98.l0 L N self98 k0_e1 n) s4 s5 s6 s7 s8 s9 s10
def f98.T0 (s4:Int) (s5:Int) (s6:Int) (s7:LT) (s8:LS) (s9:LS) (s10:LS):T:=mkT 217 [(2,(.ptr 1002 0)),(5,(.row 1014)),(6,(.row 1051)),(7,(.row 1057)),(8,(.tv i64 s4))]
def f98.H0 (s4:Int) (s5:Int) (s6:Int) (s7:LT) (s8:LS) (s9:LS) (s10:LS):H:=[(1002,(.box [(.tv i64 s5),(.tv i64 s6),(.tv (.sl (.st 1)) s7)])),(1014,(.row 113 (.st 3) s8)),(1051,(.row 113 (.st 3) s9)),(1057,(.row 113 (.st 3) s10))]
def f98.T0_e1 (z11:Int) (z12:Int) (z13:LT) (z14:LS) (z15:LS) (z16:LS):T:=mkT 217 [(2,(.ptr 1002 0)),(5,(.row 1014)),(6,(.row 1051)),(7,(.row 1057))]
def f98.H0_e1 (z11:Int) (z12:Int) (z13:LT) (z14:LS) (z15:LS) (z16:LS):H:=[(1002,(.box [(.tv i64 z11),(.tv i64 z12),(.tv (.sl (.st 1)) z13)])),(1014,(.row 113 (.st 3) z14)),(1051,(.row 113 (.st 3) z15)),(1057,(.row 113 (.st 3) z16))]
def f98.s1' {R:Type} (L N:Nat) (self98:Tree->LT->Option (LS)) (k1_e3:LS->LS->LS->Option R) (rec1:Int->Int->Int->LT->LS->LS->LS->Option R) (s17:Int) (s18:Int) (s19:Int) (s20:LT) (s21:LS) (s22:LS) (s23:LS):Option R:=
 bif (decide (s17<(s23.length:Int))) then
  bif (decide (0≤s17)&&decide (s17<(s23.length:Int))) then
   bif (decide (0≤(0:Int))&&decide ((0:Int)<(s20.length:Int))) then
    bif (decide (0≤s17)&&decide (s17<(s23.length:Int))) then
     bif (decide (s21.length+([(Step.mk ((listAt s23 (Ty.dflt (.st 3)) s17.toNat).act) (Tree.mk (3:Int) (0:Int) ([(listAt s20 (Ty.dflt (.st 1)) (0:Int).toNat),(Tree.mk ((listAt s23 (Ty.dflt (.st 3)) s17.toNat).thn.op) ((listAt s23 (Ty.dflt (.st 3)) s17.toNat).thn.n) ((listAt s23 (Ty.dflt (.st 3)) s17.toNat).thn.parts))]:LT)))]:LS).length≤lim)) then
      rec1 (wi (s17+(1:Int))) s18 s19 s20 (s21++([(Step.mk ((listAt s23 (Ty.dflt (.st 3)) s17.toNat).act) (Tree.mk (3:Int) (0:Int) ([(listAt s20 (Ty.dflt (.st 1)) (0:Int).toNat),(Tree.mk ((listAt s23 (Ty.dflt (.st 3)) s17.toNat).thn.op) ((listAt s23 (Ty.dflt (.st 3)) s17.toNat).thn.n) ((listAt s23 (Ty.dflt (.st 3)) s17.toNat).thn.parts))]:LT)))]:LS)) s22 s23
     else none
    else none
   else none
  else none
 else k1_e3 s21 s22 s23
def f98.s1 {R:Type} (L N:Nat) (self98:Tree->LT->Option (LS)) (k1_e3:LS->LS->LS->Option R) (rec1:Int->Int->Int->LT->LS->LS->LS->Option R) (s17:Int) (s18:Int) (s19:Int) (s20:LT) (s21:LS) (s22:LS) (s23:LS):Option R:=
 f98.s1' L N self98 k1_e3 rec1 s17 s18 s19 s20 s21 s22 s23
def f98.l1 {R:Type} (L N:Nat) (self98:Tree->LT->Option (LS)) (k1_e3:LS->LS->LS->Option R):Nat->Int->Int->Int->LT->LS->LS->LS->Option R
 |0,_,_,_,_,_,_,_=>none
 |n+1,s17,s18,s19,s20,s21,s22,s23=>f98.s1 L N self98 k1_e3 (f98.l1 L N self98 k1_e3 n) s17 s18 s19 s20 s21 s22 s23
def f98.T1 (s17:Int) (s18:Int) (s19:Int) (s20:LT) (s21:LS) (s22:LS) (s23:LS):T:=mkT 217 [(2,(.ptr 1002 0)),(5,(.row 1014)),(6,(.row 1051)),(7,(.row 1057)),(9,(.tv i64 s17))]
def f98.H1 (s17:Int) (s18:Int) (s19:Int) (s20:LT) (s21:LS) (s22:LS) (s23:LS):H:=[(1002,(.box [(.tv i64 s18),(.tv i64 s19),(.tv (.sl (.st 1)) s20)])),(1014,(.row 113 (.st 3) s21)),(1051,(.row 113 (.st 3) s22)),(1057,(.row 113 (.st 3) s23))]
def f98.T1_e3 (z24:LS) (z25:LS) (z26:LS):T:=mkT 217 [(5,(.row 1014)),(6,(.row 1051)),(7,(.row 1057))]
def f98.H1_e3 (z24:LS) (z25:LS) (z26:LS):H:=[(1014,(.row 113 (.st 3) z24)),(1051,(.row 113 (.st 3) z25)),(1057,(.row 113 (.st 3) z26))]
def f98.j0' {R:Type} (L N:Nat) (self98:Tree->LT->Option (LS)) (k3_e7:Int->LS->LS->LS->Option R) (rec3:Int->Int->LS->LS->LS->Option R) (v41:Int) (v42:Int) (v43:Bool) (v44:LS) (v45:LS) (v46:LS):Option R:=
 bif v43 then
  bif (decide (0≤v41)&&decide (v41<(v45.length:Int))) then
   bif (decide (0≤v42)&&decide (v42<(v46.length:Int))) then
    bif (decide (v44.length+([(Step.mk (0:Int) (Tree.mk (3:Int) (0:Int) ([(Tree.mk ((listAt v45 (Ty.dflt (.st 3)) v41.toNat).thn.op) ((listAt v45 (Ty.dflt (.st 3)) v41.toNat).thn.n) ((listAt v45 (Ty.dflt (.st 3)) v41.toNat).thn.parts)),(Tree.mk ((listAt v46 (Ty.dflt (.st 3)) v42.toNat).thn.op) ((listAt v46 (Ty.dflt (.st 3)) v42.toNat).thn.n) ((listAt v46 (Ty.dflt (.st 3)) v42.toNat).thn.parts))]:LT)))]:LS).length≤lim)) then
     rec3 v41 (wi (v42+(1:Int))) (v44++([(Step.mk (0:Int) (Tree.mk (3:Int) (0:Int) ([(Tree.mk ((listAt v45 (Ty.dflt (.st 3)) v41.toNat).thn.op) ((listAt v45 (Ty.dflt (.st 3)) v41.toNat).thn.n) ((listAt v45 (Ty.dflt (.st 3)) v41.toNat).thn.parts)),(Tree.mk ((listAt v46 (Ty.dflt (.st 3)) v42.toNat).thn.op) ((listAt v46 (Ty.dflt (.st 3)) v42.toNat).thn.n) ((listAt v46 (Ty.dflt (.st 3)) v42.toNat).thn.parts))]:LT)))]:LS)) v45 v46
    else none
   else none
  else none
 else rec3 v41 (wi (v42+(1:Int))) v44 v45 v46
def f98.s3' {R:Type} (L N:Nat) (self98:Tree->LT->Option (LS)) (k3_e7:Int->LS->LS->LS->Option R) (rec3:Int->Int->LS->LS->LS->Option R) (s32:Int) (s33:Int) (s34:LS) (s35:LS) (s36:LS):Option R:=
 bif (decide (s33<(s36.length:Int))) then
  bif (decide (0≤s32)&&decide (s32<(s35.length:Int))) then
   bif ((listAt s35 (Ty.dflt (.st 3)) s32.toNat).act !=(0:Int)) then
    bif (decide (0≤s32)&&decide (s32<(s35.length:Int))) then
     bif (decide (0≤s33)&&decide (s33<(s36.length:Int))) then
      f98.j0' L N self98 k3_e7 rec3 s32 s33 ((listAt s35 (Ty.dflt (.st 3)) s32.toNat).act==(wi (0-(listAt s36 (Ty.dflt (.st 3)) s33.toNat).act))) s34 s35 s36
     else none
    else none
   else f98.j0' L N self98 k3_e7 rec3 s32 s33 false s34 s35 s36
  else none
 else k3_e7 s32 s34 s35 s36
def f98.s3 {R:Type} (L N:Nat) (self98:Tree->LT->Option (LS)) (k3_e7:Int->LS->LS->LS->Option R) (rec3:Int->Int->LS->LS->LS->Option R) (s32:Int) (s33:Int) (s34:LS) (s35:LS) (s36:LS):Option R:=
 f98.s3' L N self98 k3_e7 rec3 s32 s33 s34 s35 s36
def f98.l3 {R:Type} (L N:Nat) (self98:Tree->LT->Option (LS)) (k3_e7:Int->LS->LS->LS->Option R):Nat->Int->Int->LS->LS->LS->Option R
 |0,_,_,_,_,_=>none
 |n+1,s32,s33,s34,s35,s36=>f98.s3 L N self98 k3_e7 (f98.l3 L N self98 k3_e7 n) s32 s33 s34 s35 s36
def f98.T3 (s32:Int) (s33:Int) (s34:LS) (s35:LS) (s36:LS):T:=mkT 217 [(5,(.row 1014)),(6,(.row 1051)),(7,(.row 1057)),(10,(.tv i64 s32)),(11,(.tv i64 s33))]
def f98.H3 (s32:Int) (s33:Int) (s34:LS) (s35:LS) (s36:LS):H:=[(1014,(.row 113 (.st 3) s34)),(1051,(.row 113 (.st 3) s35)),(1057,(.row 113 (.st 3) s36))]
def f98.T3_e7 (z37:Int) (z38:LS) (z39:LS) (z40:LS):T:=mkT 217 [(5,(.row 1014)),(6,(.row 1051)),(7,(.row 1057)),(10,(.tv i64 z37))]
def f98.H3_e7 (z37:Int) (z38:LS) (z39:LS) (z40:LS):H:=[(1014,(.row 113 (.st 3) z38)),(1051,(.row 113 (.st 3) z39)),(1057,(.row 113 (.st 3) z40))]
def f98.p3_e7' {R:Type} (L N:Nat) (self98:Tree->LT->Option (LS)) (k2_e5:LS->Option R) (rec2:Int->LS->LS->LS->Option R) (z37:Int) (z38:LS) (z39:LS) (z40:LS):Option R:=
 rec2 (wi (z37+(1:Int))) z38 z39 z40
def f98.p3_e7 {R:Type} (L N:Nat) (self98:Tree->LT->Option (LS)) (k2_e5:LS->Option R) (rec2:Int->LS->LS->LS->Option R) (z37:Int) (z38:LS) (z39:LS) (z40:LS):Option R:=
 f98.p3_e7' L N self98 k2_e5 rec2 z37 z38 z39 z40
def f98.s2' {R:Type} (L N:Nat) (self98:Tree->LT->Option (LS)) (k2_e5:LS->Option R) (rec2:Int->LS->LS->LS->Option R) (w3:Int->Int->LS->LS->LS->Option R) (s27:Int) (s28:LS) (s29:LS) (s30:LS):Option R:=
 bif (decide (s27<(s29.length:Int))) then
  w3 s27 (0:Int) s28 s29 s30
 else k2_e5 s28
def f98.s2 {R:Type} (L N:Nat) (self98:Tree->LT->Option (LS)) (k2_e5:LS->Option R) (rec2:Int->LS->LS->LS->Option R) (s27:Int) (s28:LS) (s29:LS) (s30:LS):Option R:=
 f98.s2' L N self98 k2_e5 rec2 (fun s32 s33 s34 s35 s36=>f98.l3 L N self98 (fun z37 z38 z39 z40=>f98.p3_e7 L N self98 k2_e5 rec2 z37 z38 z39 z40) L s32 s33 s34 s35 s36) s27 s28 s29 s30
def f98.l2 {R:Type} (L N:Nat) (self98:Tree->LT->Option (LS)) (k2_e5:LS->Option R):Nat->Int->LS->LS->LS->Option R
 |0,_,_,_,_=>none
 |n+1,s27,s28,s29,s30=>f98.s2 L N self98 k2_e5 (f98.l2 L N self98 k2_e5 n) s27 s28 s29 s30
def f98.T2 (s27:Int) (s28:LS) (s29:LS) (s30:LS):T:=mkT 217 [(5,(.row 1014)),(6,(.row 1051)),(7,(.row 1057)),(10,(.tv i64 s27))]
def f98.H2 (s27:Int) (s28:LS) (s29:LS) (s30:LS):H:=[(1014,(.row 113 (.st 3) s28)),(1051,(.row 113 (.st 3) s29)),(1057,(.row 113 (.st 3) s30))]
def f98.T2_e5 (z31:LS):T:=mkT 217 [(5,(.row 1014))]
def f98.H2_e5 (z31:LS):H:=[(1014,(.row 113 (.st 3) z31))]
def f98.p2_e5' {R:Type} (L N:Nat) (self98:Tree->LT->Option (LS)) (k:LS->Option R) (z31:LS):Option R:=
 k z31
def f98.p2_e5 {R:Type} (L N:Nat) (self98:Tree->LT->Option (LS)) (k:LS->Option R) (z31:LS):Option R:=
 f98.p2_e5' L N self98 k z31
def f98.p1_e3' {R:Type} (L N:Nat) (self98:Tree->LT->Option (LS)) (k:LS->Option R) (w2:Int->LS->LS->LS->Option R) (z24:LS) (z25:LS) (z26:LS):Option R:=
 w2 (0:Int) z24 z25 z26
def f98.p1_e3 {R:Type} (L N:Nat) (self98:Tree->LT->Option (LS)) (k:LS->Option R) (z24:LS) (z25:LS) (z26:LS):Option R:=
 f98.p1_e3' L N self98 k (fun s27 s28 s29 s30=>f98.l2 L N self98 (fun z31=>f98.p2_e5 L N self98 k z31) L s27 s28 s29 s30) z24 z25 z26
def f98.p0_e1' {R:Type} (L N:Nat) (self98:Tree->LT->Option (LS)) (k:LS->Option R) (w1:Int->Int->Int->LT->LS->LS->LS->Option R) (z11:Int) (z12:Int) (z13:LT) (z14:LS) (z15:LS) (z16:LS):Option R:=
 w1 (0:Int) z11 z12 z13 z14 z15 z16
def f98.p0_e1 {R:Type} (L N:Nat) (self98:Tree->LT->Option (LS)) (k:LS->Option R) (z11:Int) (z12:Int) (z13:LT) (z14:LS) (z15:LS) (z16:LS):Option R:=
 f98.p0_e1' L N self98 k (fun s17 s18 s19 s20 s21 s22 s23=>f98.l1 L N self98 (fun z24 z25 z26=>f98.p1_e3 L N self98 k z24 z25 z26) L s17 s18 s19 s20 s21 s22 s23) z11 z12 z13 z14 z15 z16
def f98.j1' {R:Type} (L N:Nat) (self98:Tree->LT->Option (LS)) (k4_e9:LS->Option R) (rec4:Int->Int->Int->LT->LS->LS->Option R) (v61:Int) (v62:Bool) (v63:Int) (v64:Int) (v65:LT) (v66:LS) (v67:LS):Option R:=
 bif v62 then
  bif (decide (0≤v61)&&decide (v61<(v67.length:Int))) then
   bif (decide (0≤v61)&&decide (v61<(v67.length:Int))) then
    bif (decide (v66.length+([(Step.mk ((listAt v67 (Ty.dflt (.st 3)) v61.toNat).act) (Tree.mk (4:Int) v64 ([(Tree.mk ((listAt v67 (Ty.dflt (.st 3)) v61.toNat).thn.op) ((listAt v67 (Ty.dflt (.st 3)) v61.toNat).thn.n) ((listAt v67 (Ty.dflt (.st 3)) v61.toNat).thn.parts))]:LT)))]:LS).length≤lim)) then
     rec4 (wi (v61+(1:Int))) v63 v64 v65 (v66++([(Step.mk ((listAt v67 (Ty.dflt (.st 3)) v61.toNat).act) (Tree.mk (4:Int) v64 ([(Tree.mk ((listAt v67 (Ty.dflt (.st 3)) v61.toNat).thn.op) ((listAt v67 (Ty.dflt (.st 3)) v61.toNat).thn.n) ((listAt v67 (Ty.dflt (.st 3)) v61.toNat).thn.parts))]:LT)))]:LS)) v67
    else none
   else none
  else none
 else rec4 (wi (v61+(1:Int))) v63 v64 v65 v66 v67
def f98.s4' {R:Type} (L N:Nat) (self98:Tree->LT->Option (LS)) (k4_e9:LS->Option R) (rec4:Int->Int->Int->LT->LS->LS->Option R) (s53:Int) (s54:Int) (s55:Int) (s56:LT) (s57:LS) (s58:LS):Option R:=
 bif (decide (s53<(s58.length:Int))) then
  bif (decide (0≤s53)&&decide (s53<(s58.length:Int))) then
   bif ((listAt s58 (Ty.dflt (.st 3)) s53.toNat).act==(0:Int)) then
    f98.j1' L N self98 k4_e9 rec4 s53 true s54 s55 s56 s57 s58
   else bif (decide (0≤s53)&&decide (s53<(s58.length:Int))) then
    (f135 L N ((listAt s58 (Ty.dflt (.st 3)) s53.toNat).act)).bind fun y60=>
    f98.j1' L N self98 k4_e9 rec4 s53 (y60 !=s55) s54 s55 s56 s57 s58
   else none
  else none
 else k4_e9 s57
def f98.s4 {R:Type} (L N:Nat) (self98:Tree->LT->Option (LS)) (k4_e9:LS->Option R) (rec4:Int->Int->Int->LT->LS->LS->Option R) (s53:Int) (s54:Int) (s55:Int) (s56:LT) (s57:LS) (s58:LS):Option R:=
 f98.s4' L N self98 k4_e9 rec4 s53 s54 s55 s56 s57 s58
def f98.l4 {R:Type} (L N:Nat) (self98:Tree->LT->Option (LS)) (k4_e9:LS->Option R):Nat->Int->Int->Int->LT->LS->LS->Option R
 |0,_,_,_,_,_,_=>none
 |n+1,s53,s54,s55,s56,s57,s58=>f98.s4 L N self98 k4_e9 (f98.l4 L N self98 k4_e9 n) s53 s54 s55 s56 s57 s58
def f98.T4 (s53:Int) (s54:Int) (s55:Int) (s56:LT) (s57:LS) (s58:LS):T:=mkT 217 [(2,(.ptr 1002 0)),(5,(.row 1014)),(12,(.row 1165)),(13,(.tv i64 s53))]
def f98.H4 (s53:Int) (s54:Int) (s55:Int) (s56:LT) (s57:LS) (s58:LS):H:=[(1002,(.box [(.tv i64 s54),(.tv i64 s55),(.tv (.sl (.st 1)) s56)])),(1014,(.row 113 (.st 3) s57)),(1165,(.row 113 (.st 3) s58))]
def f98.T4_e9 (z59:LS):T:=mkT 217 [(5,(.row 1014))]
def f98.H4_e9 (z59:LS):H:=[(1014,(.row 113 (.st 3) z59))]
def f98.p4_e9' {R:Type} (L N:Nat) (self98:Tree->LT->Option (LS)) (k:LS->Option R) (z59:LS):Option R:=
 k z59
def f98.p4_e9 {R:Type} (L N:Nat) (self98:Tree->LT->Option (LS)) (k:LS->Option R) (z59:LS):Option R:=
 f98.p4_e9' L N self98 k z59
def f98.b' {R:Type} (L N:Nat) (self98:Tree->LT->Option (LS)) (k:LS->Option R) (w0:Int->Int->Int->LT->LS->LS->LS->Option R) (w4:Int->Int->Int->LT->LS->LS->Option R) (x0:Tree) (x1:LT):Option R:=
 bif (x0.op==(1:Int)) then
  bif (decide (0≤(0:Int))&&decide ((0:Int)<(x0.parts.length:Int))) then
   bif (decide (([]:LS).length+([(Step.mk x0.n (Tree.mk ((listAt x0.parts (Ty.dflt (.st 1)) (0:Int).toNat).op) ((listAt x0.parts (Ty.dflt (.st 1)) (0:Int).toNat).n) ((listAt x0.parts (Ty.dflt (.st 1)) (0:Int).toNat).parts)))]:LS).length≤lim)) then
    k (([]:LS)++([(Step.mk x0.n (Tree.mk ((listAt x0.parts (Ty.dflt (.st 1)) (0:Int).toNat).op) ((listAt x0.parts (Ty.dflt (.st 1)) (0:Int).toNat).n) ((listAt x0.parts (Ty.dflt (.st 1)) (0:Int).toNat).parts)))]:LS))
   else none
  else none
 else bif (x0.op==(2:Int)) then
  bif (decide (0≤(0:Int))&&decide ((0:Int)<(x0.parts.length:Int))) then
   (self98 (listAt x0.parts (Ty.dflt (.st 1)) (0:Int).toNat) x1).bind fun y0=>
   bif (decide (0≤(1:Int))&&decide ((1:Int)<(x0.parts.length:Int))) then
    (self98 (listAt x0.parts (Ty.dflt (.st 1)) (1:Int).toNat) x1).bind fun y1=>
    bif (decide (y0.length+y1.length≤lim)) then
     k (y0++y1)
    else none
   else none
  else none
 else bif (x0.op==(3:Int)) then
  bif (decide (0≤(0:Int))&&decide ((0:Int)<(x0.parts.length:Int))) then
   (self98 (listAt x0.parts (Ty.dflt (.st 1)) (0:Int).toNat) x1).bind fun y2=>
   bif (decide (0≤(1:Int))&&decide ((1:Int)<(x0.parts.length:Int))) then
    (self98 (listAt x0.parts (Ty.dflt (.st 1)) (1:Int).toNat) x1).bind fun y3=>
    w0 (0:Int) x0.op x0.n x0.parts ([]:LS) y2 y3
   else none
  else none
 else bif (x0.op==(4:Int)) then
  bif (decide (0≤(0:Int))&&decide ((0:Int)<(x0.parts.length:Int))) then
   (self98 (listAt x0.parts (Ty.dflt (.st 1)) (0:Int).toNat) x1).bind fun y52=>
   w4 (0:Int) x0.op x0.n x0.parts ([]:LS) y52
  else none
 else bif (x0.op==(5:Int)) then
  bif (decide (0≤x0.n)&&decide (x0.n<(x1.length:Int))) then
   (self98 (listAt x1 (Ty.dflt (.st 1)) x0.n.toNat) x1).bind fun y74=>
   k y74
  else none
 else k ([]:LS)
def f98.b {R:Type} (L N:Nat) (self98:Tree->LT->Option (LS)) (k:LS->Option R) (x0:Tree) (x1:LT):Option R:=
 f98.b' L N self98 k (fun s4 s5 s6 s7 s8 s9 s10=>f98.l0 L N self98 (fun z11 z12 z13 z14 z15 z16=>f98.p0_e1 L N self98 k z11 z12 z13 z14 z15 z16) L s4 s5 s6 s7 s8 s9 s10) (fun s53 s54 s55 s56 s57 s58=>f98.l4 L N self98 (fun z59=>f98.p4_e9 L N self98 k z59) L s53 s54 s55 s56 s57 s58) x0 x1
def f98 (L N:Nat):Nat->Tree->LT->Option (LS)
 |0,_,_=>none
 |n+1,x0,x1=>f98.b L N (f98 L N n) some x0 x1
def f98.ent (L N m:Nat) (args:List AV) (vw:View) (site:Nat):Ans:=match coeD [(.st 1),(.sl (.st 1))] vw args with
 |some (d,u)=>⟨LS,f98 L N m d.1 d.2.1,fun y=>(.row site,u++[(site,some (.row 113 (.st 3) y))],[])⟩
 |none=>Ans.no
def Φ98s (L N m:Nat):Tells:=(addT (Φ135 L N) 98 (f98.ent L N m))
noncomputable def E98 (L N m:Nat):Env:={P:=Tryz.prog,ty:=tyOf,Φ:=Φ98s L N m,inl:=inlT,live:=lives,liveX:=livesX,L:=L,dp:=none,prom:=promT,heal:=healT,ren:=renT}
noncomputable def f98.c0:Code:=loopAt 1 (codeOf Tryz.f98)
def f98.X0_e1 {R:Type} (κ:KX R):=fun z11 z12 z13 z14 z15 z16=>κ (.exit 1) (f98.T0_e1 z11 z12 z13 z14 z15 z16) (f98.H0_e1 z11 z12 z13 z14 z15 z16)
def f98.R0 {R:Type} (rec:KT R):=fun s4 s5 s6 s7 s8 s9 s10=>rec (f98.T0 s4 s5 s6 s7 s8 s9 s10) (f98.H0 s4 s5 s6 s7 s8 s9 s10)
theorem f98.s0_eq {R:Type} (L N m:Nat) (κ:KX R) (rec:KT R) (s4:Int) (s5:Int) (s6:Int) (s7:LT) (s8:LS) (s9:LS) (s10:LS):
  evRd (E98 L N m) (evCallI (E98 L N m) 0 1000) 1000 98 217 1 f98.c0 κ rec (f98.T0 s4 s5 s6 s7 s8 s9 s10) (f98.H0 s4 s5 s6 s7 s8 s9 s10)
  =f98.s0 L N (f98 L N m) (f98.X0_e1 κ) (f98.R0 rec) s4 s5 s6 s7 s8 s9 s10:=by kernel_rfl
theorem f98.l0_eq {R:Type} (L N m:Nat) (κ:KX R):∀(n:Nat) (s4:Int) (s5:Int) (s6:Int) (s7:LT) (s8:LS) (s9:LS) (s10:LS),
  evLp (E98 L N m) (evCallI (E98 L N m) 0 1000) 1000 98 217 1 f98.c0 κ n (f98.T0 s4 s5 s6 s7 s8 s9 s10) (f98.H0 s4 s5 s6 s7 s8 s9 s10)
  =f98.l0 L N (f98 L N m) (f98.X0_e1 κ) n s4 s5 s6 s7 s8 s9 s10:=by
 intro n
 induction n with
 |zero=>intros;rfl
 |succ n ih=>
  intro s4 s5 s6 s7 s8 s9 s10
  rw [evLp_succ,f98.s0_eq]
  delta f98.R0
  simp only [ih]
  rfl
noncomputable def f98.c1:Code:=loopAt 3 (codeOf Tryz.f98)
def f98.X1_e3 {R:Type} (κ:KX R):=fun z24 z25 z26=>κ (.exit 3) (f98.T1_e3 z24 z25 z26) (f98.H1_e3 z24 z25 z26)
def f98.R1 {R:Type} (rec:KT R):=fun s17 s18 s19 s20 s21 s22 s23=>rec (f98.T1 s17 s18 s19 s20 s21 s22 s23) (f98.H1 s17 s18 s19 s20 s21 s22 s23)
theorem f98.s1_eq {R:Type} (L N m:Nat) (κ:KX R) (rec:KT R) (s17:Int) (s18:Int) (s19:Int) (s20:LT) (s21:LS) (s22:LS) (s23:LS):
  evRd (E98 L N m) (evCallI (E98 L N m) 0 1000) 1000 98 217 3 f98.c1 κ rec (f98.T1 s17 s18 s19 s20 s21 s22 s23) (f98.H1 s17 s18 s19 s20 s21 s22 s23)
  =f98.s1 L N (f98 L N m) (f98.X1_e3 κ) (f98.R1 rec) s17 s18 s19 s20 s21 s22 s23:=by kernel_rfl
theorem f98.l1_eq {R:Type} (L N m:Nat) (κ:KX R):∀(n:Nat) (s17:Int) (s18:Int) (s19:Int) (s20:LT) (s21:LS) (s22:LS) (s23:LS),
  evLp (E98 L N m) (evCallI (E98 L N m) 0 1000) 1000 98 217 3 f98.c1 κ n (f98.T1 s17 s18 s19 s20 s21 s22 s23) (f98.H1 s17 s18 s19 s20 s21 s22 s23)
  =f98.l1 L N (f98 L N m) (f98.X1_e3 κ) n s17 s18 s19 s20 s21 s22 s23:=by
 intro n
 induction n with
 |zero=>intros;rfl
 |succ n ih=>
  intro s17 s18 s19 s20 s21 s22 s23
  rw [evLp_succ,f98.s1_eq]
  delta f98.R1
  simp only [ih]
  rfl
noncomputable def f98.c2:Code:=loopAt 5 (codeOf Tryz.f98)
noncomputable def f98.c3:Code:=loopAt 7 f98.c2
def f98.X3_e7 {R:Type} (κ:KX R):=fun z37 z38 z39 z40=>κ (.exit 7) (f98.T3_e7 z37 z38 z39 z40) (f98.H3_e7 z37 z38 z39 z40)
def f98.R3 {R:Type} (rec:KT R):=fun s32 s33 s34 s35 s36=>rec (f98.T3 s32 s33 s34 s35 s36) (f98.H3 s32 s33 s34 s35 s36)
theorem f98.s3_eq {R:Type} (L N m:Nat) (κ:KX R) (rec:KT R) (s32:Int) (s33:Int) (s34:LS) (s35:LS) (s36:LS):
  evRd (E98 L N m) (evCallI (E98 L N m) 0 1000) 1000 98 217 7 f98.c3 κ rec (f98.T3 s32 s33 s34 s35 s36) (f98.H3 s32 s33 s34 s35 s36)
  =f98.s3 L N (f98 L N m) (f98.X3_e7 κ) (f98.R3 rec) s32 s33 s34 s35 s36:=by kernel_rfl
theorem f98.l3_eq {R:Type} (L N m:Nat) (κ:KX R):∀(n:Nat) (s32:Int) (s33:Int) (s34:LS) (s35:LS) (s36:LS),
  evLp (E98 L N m) (evCallI (E98 L N m) 0 1000) 1000 98 217 7 f98.c3 κ n (f98.T3 s32 s33 s34 s35 s36) (f98.H3 s32 s33 s34 s35 s36)
  =f98.l3 L N (f98 L N m) (f98.X3_e7 κ) n s32 s33 s34 s35 s36:=by
 intro n
 induction n with
 |zero=>intros;rfl
 |succ n ih=>
  intro s32 s33 s34 s35 s36
  rw [evLp_succ,f98.s3_eq]
  delta f98.R3
  simp only [ih]
  rfl
def f98.X2_e5 {R:Type} (κ:KX R):=fun z31=>κ (.exit 5) (f98.T2_e5 z31) (f98.H2_e5 z31)
def f98.R2 {R:Type} (rec:KT R):=fun s27 s28 s29 s30=>rec (f98.T2 s27 s28 s29 s30) (f98.H2 s27 s28 s29 s30)
theorem f98.p3_e7_eq {R:Type} (L N m:Nat) (κ:KX R) (rec:KT R) (z37:Int) (z38:LS) (z39:LS) (z40:LS):
  (contAt (E98 L N m) (evCallI (E98 L N m) 0 1000) 1000 98 217 7 f98.c2 (rdK (E98 L N m) 1000 98 217 5 κ rec)) (.exit 7) (f98.T3_e7 z37 z38 z39 z40) (f98.H3_e7 z37 z38 z39 z40)
  =f98.p3_e7 L N (f98 L N m) (f98.X2_e5 κ) (f98.R2 rec) z37 z38 z39 z40:=by kernel_rfl
theorem f98.s2_eq {R:Type} (L N m:Nat) (κ:KX R) (rec:KT R) (s27:Int) (s28:LS) (s29:LS) (s30:LS):
  evRd (E98 L N m) (evCallI (E98 L N m) 0 1000) 1000 98 217 5 f98.c2 κ rec (f98.T2 s27 s28 s29 s30) (f98.H2 s27 s28 s29 s30)
  =f98.s2 L N (f98 L N m) (f98.X2_e5 κ) (f98.R2 rec) s27 s28 s29 s30:=by
 refine Eq.trans (b:=f98.s2' L N (f98 L N m) (f98.X2_e5 κ) (f98.R2 rec) (fun s32 s33 s34 s35 s36=>evLp (E98 L N m) (evCallI (E98 L N m) 0 1000) 1000 98 217 7 f98.c3 (contAt (E98 L N m) (evCallI (E98 L N m) 0 1000) 1000 98 217 7 f98.c2 (rdK (E98 L N m) 1000 98 217 5 κ rec)) L (f98.T3 s32 s33 s34 s35 s36) (f98.H3 s32 s33 s34 s35 s36)) s27 s28 s29 s30) (by kernel_rfl) ?_
 unfold f98.s2
 simp only [f98.l3_eq]
 delta f98.X3_e7
 simp only [f98.p3_e7_eq]
theorem f98.l2_eq {R:Type} (L N m:Nat) (κ:KX R):∀(n:Nat) (s27:Int) (s28:LS) (s29:LS) (s30:LS),
  evLp (E98 L N m) (evCallI (E98 L N m) 0 1000) 1000 98 217 5 f98.c2 κ n (f98.T2 s27 s28 s29 s30) (f98.H2 s27 s28 s29 s30)
  =f98.l2 L N (f98 L N m) (f98.X2_e5 κ) n s27 s28 s29 s30:=by
 intro n
 induction n with
 |zero=>intros;rfl
 |succ n ih=>
  intro s27 s28 s29 s30
  rw [evLp_succ,f98.s2_eq]
  delta f98.R2
  simp only [ih]
  rfl
theorem f98.p2_e5_eq {R:Type} (L N m:Nat) (κ:List Step->Option R) (z31:LS):
  (contAt (E98 L N m) (evCallI (E98 L N m) 0 1000) 1000 98 217 5 (codeOf Tryz.f98) (finK (E98 L N m) 1000 Tryz.f98 (finRow 113 (.st 3) κ))) (.exit 5) (f98.T2_e5 z31) (f98.H2_e5 z31)
  =f98.p2_e5 L N (f98 L N m) κ z31:=by kernel_rfl
theorem f98.p1_e3_eq {R:Type} (L N m:Nat) (κ:List Step->Option R) (z24:LS) (z25:LS) (z26:LS):
  (contAt (E98 L N m) (evCallI (E98 L N m) 0 1000) 1000 98 217 3 (codeOf Tryz.f98) (finK (E98 L N m) 1000 Tryz.f98 (finRow 113 (.st 3) κ))) (.exit 3) (f98.T1_e3 z24 z25 z26) (f98.H1_e3 z24 z25 z26)
  =f98.p1_e3 L N (f98 L N m) κ z24 z25 z26:=by
 refine Eq.trans (b:=f98.p1_e3' L N (f98 L N m) κ (fun s27 s28 s29 s30=>evLp (E98 L N m) (evCallI (E98 L N m) 0 1000) 1000 98 217 5 f98.c2 (contAt (E98 L N m) (evCallI (E98 L N m) 0 1000) 1000 98 217 5 (codeOf Tryz.f98) (finK (E98 L N m) 1000 Tryz.f98 (finRow 113 (.st 3) κ))) L (f98.T2 s27 s28 s29 s30) (f98.H2 s27 s28 s29 s30)) z24 z25 z26) (by kernel_rfl) ?_
 unfold f98.p1_e3
 simp only [f98.l2_eq]
 delta f98.X2_e5
 simp only [f98.p2_e5_eq]
theorem f98.p0_e1_eq {R:Type} (L N m:Nat) (κ:List Step->Option R) (z11:Int) (z12:Int) (z13:LT) (z14:LS) (z15:LS) (z16:LS):
  (contAt (E98 L N m) (evCallI (E98 L N m) 0 1000) 1000 98 217 1 (codeOf Tryz.f98) (finK (E98 L N m) 1000 Tryz.f98 (finRow 113 (.st 3) κ))) (.exit 1) (f98.T0_e1 z11 z12 z13 z14 z15 z16) (f98.H0_e1 z11 z12 z13 z14 z15 z16)
  =f98.p0_e1 L N (f98 L N m) κ z11 z12 z13 z14 z15 z16:=by
 refine Eq.trans (b:=f98.p0_e1' L N (f98 L N m) κ (fun s17 s18 s19 s20 s21 s22 s23=>evLp (E98 L N m) (evCallI (E98 L N m) 0 1000) 1000 98 217 3 f98.c1 (contAt (E98 L N m) (evCallI (E98 L N m) 0 1000) 1000 98 217 3 (codeOf Tryz.f98) (finK (E98 L N m) 1000 Tryz.f98 (finRow 113 (.st 3) κ))) L (f98.T1 s17 s18 s19 s20 s21 s22 s23) (f98.H1 s17 s18 s19 s20 s21 s22 s23)) z11 z12 z13 z14 z15 z16) (by kernel_rfl) ?_
 unfold f98.p0_e1
 simp only [f98.l1_eq]
 delta f98.X1_e3
 simp only [f98.p1_e3_eq]
noncomputable def f98.c4:Code:=loopAt 9 (codeOf Tryz.f98)
def f98.X4_e9 {R:Type} (κ:KX R):=fun z59=>κ (.exit 9) (f98.T4_e9 z59) (f98.H4_e9 z59)
def f98.R4 {R:Type} (rec:KT R):=fun s53 s54 s55 s56 s57 s58=>rec (f98.T4 s53 s54 s55 s56 s57 s58) (f98.H4 s53 s54 s55 s56 s57 s58)
theorem f98.s4_eq {R:Type} (L N m:Nat) (κ:KX R) (rec:KT R) (s53:Int) (s54:Int) (s55:Int) (s56:LT) (s57:LS) (s58:LS):
  evRd (E98 L N m) (evCallI (E98 L N m) 0 1000) 1000 98 217 9 f98.c4 κ rec (f98.T4 s53 s54 s55 s56 s57 s58) (f98.H4 s53 s54 s55 s56 s57 s58)
  =f98.s4 L N (f98 L N m) (f98.X4_e9 κ) (f98.R4 rec) s53 s54 s55 s56 s57 s58:=by kernel_rfl
theorem f98.l4_eq {R:Type} (L N m:Nat) (κ:KX R):∀(n:Nat) (s53:Int) (s54:Int) (s55:Int) (s56:LT) (s57:LS) (s58:LS),
  evLp (E98 L N m) (evCallI (E98 L N m) 0 1000) 1000 98 217 9 f98.c4 κ n (f98.T4 s53 s54 s55 s56 s57 s58) (f98.H4 s53 s54 s55 s56 s57 s58)
  =f98.l4 L N (f98 L N m) (f98.X4_e9 κ) n s53 s54 s55 s56 s57 s58:=by
 intro n
 induction n with
 |zero=>intros;rfl
 |succ n ih=>
  intro s53 s54 s55 s56 s57 s58
  rw [evLp_succ,f98.s4_eq]
  delta f98.R4
  simp only [ih]
  rfl
theorem f98.p4_e9_eq {R:Type} (L N m:Nat) (κ:List Step->Option R) (z59:LS):
  (contAt (E98 L N m) (evCallI (E98 L N m) 0 1000) 1000 98 217 9 (codeOf Tryz.f98) (finK (E98 L N m) 1000 Tryz.f98 (finRow 113 (.st 3) κ))) (.exit 9) (f98.T4_e9 z59) (f98.H4_e9 z59)
  =f98.p4_e9 L N (f98 L N m) κ z59:=by kernel_rfl
theorem f98.b_eq {R:Type} (L N m:Nat) (κ:List Step->Option R) (x0:Tree) (x1:LT):
  evBody (E98 L N m) (evCallI (E98 L N m) 0 1000) 1000 98 Tryz.f98 [(.tv (.st 1) x0),(.tv (.sl (.st 1)) x1)] [] [] (finRow 113 (.st 3) κ)
  =f98.b L N (f98 L N m) κ x0 x1:=by
 refine Eq.trans (b:=f98.b' L N (f98 L N m) κ (fun s4 s5 s6 s7 s8 s9 s10=>evLp (E98 L N m) (evCallI (E98 L N m) 0 1000) 1000 98 217 1 f98.c0 (contAt (E98 L N m) (evCallI (E98 L N m) 0 1000) 1000 98 217 1 (codeOf Tryz.f98) (finK (E98 L N m) 1000 Tryz.f98 (finRow 113 (.st 3) κ))) L (f98.T0 s4 s5 s6 s7 s8 s9 s10) (f98.H0 s4 s5 s6 s7 s8 s9 s10)) (fun s53 s54 s55 s56 s57 s58=>evLp (E98 L N m) (evCallI (E98 L N m) 0 1000) 1000 98 217 9 f98.c4 (contAt (E98 L N m) (evCallI (E98 L N m) 0 1000) 1000 98 217 9 (codeOf Tryz.f98) (finK (E98 L N m) 1000 Tryz.f98 (finRow 113 (.st 3) κ))) L (f98.T4 s53 s54 s55 s56 s57 s58) (f98.H4 s53 s54 s55 s56 s57 s58)) x0 x1) (by kernel_rfl) ?_
 unfold f98.b
 simp only [f98.l0_eq,f98.l4_eq]
 delta f98.X0_e1 f98.X4_e9
 simp only [f98.p0_e1_eq,f98.p4_e9_eq]
theorem f98.ok (L N m:Nat) (hΦ:TellsOk Tryz.prog (Φ98s L N m)):EntOk Tryz.prog 98 (f98.ent L N (m+1)):=by
 intro args vw site h
 unfold f98.ent
 split
 ·rename_i d u ha
  intro y hy hs
  refine call_row (dep:=1000) (E:=(E98 L N m)) (sound_of hΦ) okP (callI_sound (sound_of hΦ) okP 0 1000) (f:=Tryz.f98) rfl hs ha ?_ site
  exact (f98.b_eq L N m some d.1 d.2.1).trans hy
 ·intro y hy
  cases hy
theorem Φ98s_ok (L N:Nat):∀m,TellsOk Tryz.prog (Φ98s L N m):=by
 intro m
 induction m with
 |zero=>exact (addT_ok (Φ135_ok L N) (fun args vw site h=>by unfold f98.ent;split<;>(intro y hy;cases hy)))
 |succ m ih=>exact (addT_ok (Φ135_ok L N) (f98.ok L N m ih))
def Φ98 (L N:Nat):Tells:=(addT (Φ135 L N) 98 (f98.ent L N N))
theorem Φ98_ok (L N:Nat):TellsOk Tryz.prog (Φ98 L N):=Φ98s_ok L N N
def f136.b' {R:Type} (L N:Nat) (self136:Int->Option (ByteArray)) (k:ByteArray->Option R) (x0:Int):Option R:=
 bif (decide (x0<(-9223372036854775807:Int))) then
  k (ByteArray.mk #[45,57,50,50,51,51,55,50,48,51,54,56,53,52,55,55,53,56,48,56])
 else bif (decide (x0<(0:Int))) then
  (self136 (wi (0-x0))).bind fun y0=>
  bif (decide ((ByteArray.mk #[45]).size+y0.size≤4611686018427387904)) then
   k ((ByteArray.mk #[45])++y0)
  else none
 else bif (decide (x0<(10:Int))) then
  k (strOfNums ([(IntKind.wrap .u8 ((wi ((48:Int)+x0))))]:LI))
 else bif (decide ((10:Int)=0)) then
  none
 else (self136 (wi (Int.tdiv x0 (10:Int)))).bind fun y1=>
 bif (decide ((10:Int)=0)) then
  none
 else bif (decide (y1.size+(strOfNums ([(IntKind.wrap .u8 ((wi ((48:Int)+(Int.tmod x0 (10:Int))))))]:LI)).size≤4611686018427387904)) then
  k (y1++(strOfNums ([(IntKind.wrap .u8 ((wi ((48:Int)+(Int.tmod x0 (10:Int))))))]:LI)))
 else none
def f136.b {R:Type} (L N:Nat) (self136:Int->Option (ByteArray)) (k:ByteArray->Option R) (x0:Int):Option R:=
 f136.b' L N self136 k x0
def f136 (L N:Nat):Nat->Int->Option (ByteArray)
 |0,_=>none
 |n+1,x0=>f136.b L N (f136 L N n) some x0
def f136.ent (L N m:Nat):=entRo [i64] (.one .str) fun d=>f136 L N m d.1
def Φ136s (L N m:Nat):Tells:=(addT (Φ98 L N) 136 (f136.ent L N m))
noncomputable def E136 (L N m:Nat):Env:={P:=Tryz.prog,ty:=tyOf,Φ:=Φ136s L N m,inl:=inlT,live:=lives,liveX:=livesX,L:=L,dp:=none,prom:=promT,heal:=healT,ren:=renT}
theorem f136.b_eq {R:Type} (L N m:Nat) (κ:AV->Option R) (x0:Int):
  evBody (E136 L N m) (evCallI (E136 L N m) 0 1000) 1000 136 Tryz.f136 [(.tv i64 x0)] [] [] (finC (.one .str) κ)
  =f136.b L N (f136 L N m) (fun a0=>κ (.tv .str a0)) x0:=by kernel_rfl
theorem f136.ok (L N m:Nat) (hΦ:TellsOk Tryz.prog (Φ136s L N m)):EntOk Tryz.prog 136 (f136.ent L N (m+1)):=entRo_ok (E:=(E136 L N m)) (dep:=1000) (f:=Tryz.f136) (sound_of hΦ) okP (callI_sound (sound_of hΦ) okP 0 1000) rfl rfl fun d _ hy=>(f136.b_eq L N m (unR (.one .str)) d.1).trans (Eq.trans (b:=f136.b L N (f136 L N m) some d.1) (by kernel_rfl) hy)
theorem Φ136s_ok (L N:Nat):∀m,TellsOk Tryz.prog (Φ136s L N m):=by
 intro m
 induction m with
 |zero=>exact (addT_ok (Φ98_ok L N) (entRo_no fun _=>rfl))
 |succ m ih=>exact (addT_ok (Φ98_ok L N) (f136.ok L N m ih))
def Φ136 (L N:Nat):Tells:=(addT (Φ98 L N) 136 (f136.ent L N N))
theorem Φ136_ok (L N:Nat):TellsOk Tryz.prog (Φ136 L N):=Φ136s_ok L N N
def f137.b' {R:Type} (L N:Nat) (k:LY->Option R):Option R:=
 k ([(ByteArray.mk #[]),(ByteArray.mk #[97,99,116]),(ByteArray.mk #[115,117,109]),(ByteArray.mk #[112,97,114]),(ByteArray.mk #[104,105,100,101])]:LY)
def f137.b {R:Type} (L N:Nat) (k:LY->Option R):Option R:=
 f137.b' L N k
def f137 (L N:Nat):Option (LY):=f137.b L N some
def f137.ent (L N:Nat):=entDa [] (.one (.sl .str)) fun d=>f137 L N
noncomputable def E137 (L N:Nat):Env:={P:=Tryz.prog,ty:=tyOf,Φ:=(Φ136 L N),inl:=inlT,live:=lives,liveX:=livesX,L:=L,dp:=none,prom:=promT,heal:=healT,ren:=renT}
theorem f137.b_eq {R:Type} (L N:Nat) (κ:AV->Option R):
  evBody (E137 L N) (evCallI (E137 L N) 0 1000) 1000 137 Tryz.f137 [] [] [] (finC (.one (.sl .str)) κ)
  =f137.b L N (fun a0=>κ (.tv (.sl .str) a0)):=by kernel_rfl
theorem f137.ok (L N:Nat) (hΦ:TellsOk Tryz.prog ((Φ136 L N))):EntOk Tryz.prog 137 (f137.ent L N):=entDa_ok (E:=(E137 L N)) (dep:=1000) (f:=Tryz.f137) (sound_of hΦ) okP (callI_sound (sound_of hΦ) okP 0 1000) rfl fun _ _ hy=>(f137.b_eq L N (unR (.one (.sl .str)))).trans (Eq.trans (b:=f137.b L N some) (by kernel_rfl) hy)
def Φ137 (L N:Nat):Tells:=(addT (Φ136 L N) 137 (f137.ent L N))
theorem Φ137_ok (L N:Nat):TellsOk Tryz.prog (Φ137 L N):=addT_ok (Φ136_ok L N) (f137.ok L N (Φ136_ok L N))
def f138.b' {R:Type} (L N:Nat) (k:ByteArray->Option R) (x0:Int):Option R:=
 bif (x0==(0:Int)) then
  k (ByteArray.mk #[116,97,117])
 else bif (decide (x0<(0:Int))) then
  (f135 L N x0).bind fun y0=>
  (f135 L N x0).bind fun y1=>
  bif (slB y0 (wi (y1+(1:Int))) (ByteArray.mk #[97,98,99,100]).size) then
   bif (decide ((ByteArray.mk #[33]).size+((ByteArray.mk #[97,98,99,100]).extract y0.toNat (wi (y1+(1:Int))).toNat).size≤4611686018427387904)) then
    k ((ByteArray.mk #[33])++((ByteArray.mk #[97,98,99,100]).extract y0.toNat (wi (y1+(1:Int))).toNat))
   else none
  else none
 else (f135 L N x0).bind fun y2=>
 (f135 L N x0).bind fun y3=>
 bif (slB y2 (wi (y3+(1:Int))) (ByteArray.mk #[97,98,99,100]).size) then
  k ((ByteArray.mk #[97,98,99,100]).extract y2.toNat (wi (y3+(1:Int))).toNat)
 else none
def f138.b {R:Type} (L N:Nat) (k:ByteArray->Option R) (x0:Int):Option R:=
 f138.b' L N k x0
def f138 (L N:Nat) (x0:Int):Option (ByteArray):=f138.b L N some x0
def f138.ent (L N:Nat):=entRo [i64] (.one .str) fun d=>f138 L N d.1
noncomputable def E138 (L N:Nat):Env:={P:=Tryz.prog,ty:=tyOf,Φ:=(Φ137 L N),inl:=inlT,live:=lives,liveX:=livesX,L:=L,dp:=none,prom:=promT,heal:=healT,ren:=renT}
theorem f138.b_eq {R:Type} (L N:Nat) (κ:AV->Option R) (x0:Int):
  evBody (E138 L N) (evCallI (E138 L N) 0 1000) 1000 138 Tryz.f138 [(.tv i64 x0)] [] [] (finC (.one .str) κ)
  =f138.b L N (fun a0=>κ (.tv .str a0)) x0:=by kernel_rfl
theorem f138.ok (L N:Nat) (hΦ:TellsOk Tryz.prog ((Φ137 L N))):EntOk Tryz.prog 138 (f138.ent L N):=entRo_ok (E:=(E138 L N)) (dep:=1000) (f:=Tryz.f138) (sound_of hΦ) okP (callI_sound (sound_of hΦ) okP 0 1000) rfl rfl fun d _ hy=>(f138.b_eq L N (unR (.one .str)) d.1).trans (Eq.trans (b:=f138.b L N some d.1) (by kernel_rfl) hy)
def Φ138 (L N:Nat):Tells:=(addT (Φ137 L N) 138 (f138.ent L N))
theorem Φ138_ok (L N:Nat):TellsOk Tryz.prog (Φ138 L N):=addT_ok (Φ137_ok L N) (f138.ok L N (Φ137_ok L N))
def f99.s0' {R:Type} (L N:Nat) (self99:Tree->Option (ByteArray)) (k0_e1:ByteArray->Option R) (rec0:ByteArray->Int->Int->Int->LT->Option R) (s12:ByteArray) (s13:Int) (s14:Int) (s15:Int) (s16:LT):Option R:=
 bif (decide (s13<(s16.length:Int))) then
  bif (decide (s12.size+(ByteArray.mk #[32]).size≤4611686018427387904)) then
   bif (decide (0≤s13)&&decide (s13<(s16.length:Int))) then
    (self99 (listAt s16 (Ty.dflt (.st 1)) s13.toNat)).bind fun y18=>
    bif (decide ((s12++(ByteArray.mk #[32])).size+y18.size≤4611686018427387904)) then
     rec0 ((s12++(ByteArray.mk #[32]))++y18) (wi (s13+(1:Int))) s14 s15 s16
    else none
   else none
  else none
 else k0_e1 s12
def f99.s0 {R:Type} (L N:Nat) (self99:Tree->Option (ByteArray)) (k0_e1:ByteArray->Option R) (rec0:ByteArray->Int->Int->Int->LT->Option R) (s12:ByteArray) (s13:Int) (s14:Int) (s15:Int) (s16:LT):Option R:=
 f99.s0' L N self99 k0_e1 rec0 s12 s13 s14 s15 s16
def f99.l0 {R:Type} (L N:Nat) (self99:Tree->Option (ByteArray)) (k0_e1:ByteArray->Option R):Nat->ByteArray->Int->Int->Int->LT->Option R
 |0,_,_,_,_,_=>none
 |n+1,s12,s13,s14,s15,s16=>f99.s0 L N self99 k0_e1 (f99.l0 L N self99 k0_e1 n) s12 s13 s14 s15 s16
def f99.T0 (s12:ByteArray) (s13:Int) (s14:Int) (s15:Int) (s16:LT):T:=mkT 58 [(1,(.ptr 1001 0)),(3,(.tv .str s12)),(4,(.tv i64 s13))]
def f99.H0 (s12:ByteArray) (s13:Int) (s14:Int) (s15:Int) (s16:LT):H:=[(1001,(.box [(.tv i64 s14),(.tv i64 s15),(.tv (.sl (.st 1)) s16)]))]
def f99.T0_e1 (z17:ByteArray):T:=mkT 58 [(3,(.tv .str z17))]
def f99.H0_e1 (z17:ByteArray):H:=[]
def f99.p0_e1' {R:Type} (L N:Nat) (self99:Tree->Option (ByteArray)) (k:ByteArray->Option R) (z17:ByteArray):Option R:=
 bif (decide (z17.size+(ByteArray.mk #[41]).size≤4611686018427387904)) then
  k (z17++(ByteArray.mk #[41]))
 else none
def f99.p0_e1 {R:Type} (L N:Nat) (self99:Tree->Option (ByteArray)) (k:ByteArray->Option R) (z17:ByteArray):Option R:=
 f99.p0_e1' L N self99 k z17
def f99.j0' {R:Type} (L N:Nat) (self99:Tree->Option (ByteArray)) (k:ByteArray->Option R) (w0:ByteArray->Int->Int->Int->LT->Option R) (v8:ByteArray) (v9:Int) (v10:Int) (v11:LT):Option R:=
 w0 v8 (0:Int) v9 v10 v11
def f99.j1' {R:Type} (L N:Nat) (self99:Tree->Option (ByteArray)) (k:ByteArray->Option R) (w0:ByteArray->Int->Int->Int->LT->Option R) (v3:ByteArray) (v4:Int) (v5:Int) (v6:LT):Option R:=
 bif (v4==(4:Int)) then
  bif (decide (v3.size+(ByteArray.mk #[32]).size≤4611686018427387904)) then
   (f138 L N (wi (v5+(1:Int)))).bind fun y7=>
   bif (decide ((v3++(ByteArray.mk #[32])).size+y7.size≤4611686018427387904)) then
    f99.j0' L N self99 k w0 ((v3++(ByteArray.mk #[32]))++y7) v4 v5 v6
   else none
  else none
 else f99.j0' L N self99 k w0 v3 v4 v5 v6
def f99.b' {R:Type} (L N:Nat) (self99:Tree->Option (ByteArray)) (k:ByteArray->Option R) (w0:ByteArray->Int->Int->Int->LT->Option R) (x0:Tree):Option R:=
 bif (x0.op==(0:Int)) then
  k (ByteArray.mk #[48])
 else bif (x0.op==(5:Int)) then
  (f136 L N N x0.n).bind fun y0=>
  bif (decide ((ByteArray.mk #[88]).size+y0.size≤4611686018427387904)) then
   k ((ByteArray.mk #[88])++y0)
  else none
 else (f137 L N).bind fun y1=>
 bif (decide (0≤x0.op)&&decide (x0.op<(y1.length:Int))) then
  bif (decide ((ByteArray.mk #[40]).size+(listAt y1 ByteArray.empty x0.op.toNat).size≤4611686018427387904)) then
   bif (x0.op==(1:Int)) then
    bif (decide (((ByteArray.mk #[40])++(listAt y1 ByteArray.empty x0.op.toNat)).size+(ByteArray.mk #[32]).size≤4611686018427387904)) then
     (f138 L N x0.n).bind fun y2=>
     bif (decide ((((ByteArray.mk #[40])++(listAt y1 ByteArray.empty x0.op.toNat))++(ByteArray.mk #[32])).size+y2.size≤4611686018427387904)) then
      f99.j1' L N self99 k w0 ((((ByteArray.mk #[40])++(listAt y1 ByteArray.empty x0.op.toNat))++(ByteArray.mk #[32]))++y2) x0.op x0.n x0.parts
     else none
    else none
   else f99.j1' L N self99 k w0 ((ByteArray.mk #[40])++(listAt y1 ByteArray.empty x0.op.toNat)) x0.op x0.n x0.parts
  else none
 else none
def f99.b {R:Type} (L N:Nat) (self99:Tree->Option (ByteArray)) (k:ByteArray->Option R) (x0:Tree):Option R:=
 f99.b' L N self99 k (fun s12 s13 s14 s15 s16=>f99.l0 L N self99 (fun z17=>f99.p0_e1 L N self99 k z17) L s12 s13 s14 s15 s16) x0
def f99 (L N:Nat):Nat->Tree->Option (ByteArray)
 |0,_=>none
 |n+1,x0=>f99.b L N (f99 L N n) some x0
def f99.ent (L N m:Nat):=entRo [(.st 1)] (.one .str) fun d=>f99 L N m d.1
def Φ99s (L N m:Nat):Tells:=(addT (Φ138 L N) 99 (f99.ent L N m))
noncomputable def E99 (L N m:Nat):Env:={P:=Tryz.prog,ty:=tyOf,Φ:=Φ99s L N m,inl:=inlT,live:=lives,liveX:=livesX,L:=L,dp:=none,prom:=promT,heal:=healT,ren:=renT}
noncomputable def f99.c0:Code:=loopAt 1 (codeOf Tryz.f99)
def f99.X0_e1 {R:Type} (κ:KX R):=fun z17=>κ (.exit 1) (f99.T0_e1 z17) (f99.H0_e1 z17)
def f99.R0 {R:Type} (rec:KT R):=fun s12 s13 s14 s15 s16=>rec (f99.T0 s12 s13 s14 s15 s16) (f99.H0 s12 s13 s14 s15 s16)
theorem f99.s0_eq {R:Type} (L N m:Nat) (κ:KX R) (rec:KT R) (s12:ByteArray) (s13:Int) (s14:Int) (s15:Int) (s16:LT):
  evRd (E99 L N m) (evCallI (E99 L N m) 0 1000) 1000 99 58 1 f99.c0 κ rec (f99.T0 s12 s13 s14 s15 s16) (f99.H0 s12 s13 s14 s15 s16)
  =f99.s0 L N (f99 L N m) (f99.X0_e1 κ) (f99.R0 rec) s12 s13 s14 s15 s16:=by kernel_rfl
theorem f99.l0_eq {R:Type} (L N m:Nat) (κ:KX R):∀(n:Nat) (s12:ByteArray) (s13:Int) (s14:Int) (s15:Int) (s16:LT),
  evLp (E99 L N m) (evCallI (E99 L N m) 0 1000) 1000 99 58 1 f99.c0 κ n (f99.T0 s12 s13 s14 s15 s16) (f99.H0 s12 s13 s14 s15 s16)
  =f99.l0 L N (f99 L N m) (f99.X0_e1 κ) n s12 s13 s14 s15 s16:=by
 intro n
 induction n with
 |zero=>intros;rfl
 |succ n ih=>
  intro s12 s13 s14 s15 s16
  rw [evLp_succ,f99.s0_eq]
  delta f99.R0
  simp only [ih]
  rfl
theorem f99.p0_e1_eq {R:Type} (L N m:Nat) (κ:AV->Option R) (z17:ByteArray):
  (contAt (E99 L N m) (evCallI (E99 L N m) 0 1000) 1000 99 58 1 (codeOf Tryz.f99) (finK (E99 L N m) 1000 Tryz.f99 (finC (.one .str) κ))) (.exit 1) (f99.T0_e1 z17) (f99.H0_e1 z17)
  =f99.p0_e1 L N (f99 L N m) (fun a0=>κ (.tv .str a0)) z17:=by kernel_rfl
theorem f99.b_eq {R:Type} (L N m:Nat) (κ:AV->Option R) (x0:Tree):
  evBody (E99 L N m) (evCallI (E99 L N m) 0 1000) 1000 99 Tryz.f99 [(.tv (.st 1) x0)] [] [] (finC (.one .str) κ)
  =f99.b L N (f99 L N m) (fun a0=>κ (.tv .str a0)) x0:=by
 refine Eq.trans (b:=f99.b' L N (f99 L N m) (fun a0=>κ (.tv .str a0)) (fun s12 s13 s14 s15 s16=>evLp (E99 L N m) (evCallI (E99 L N m) 0 1000) 1000 99 58 1 f99.c0 (contAt (E99 L N m) (evCallI (E99 L N m) 0 1000) 1000 99 58 1 (codeOf Tryz.f99) (finK (E99 L N m) 1000 Tryz.f99 (finC (.one .str) κ))) L (f99.T0 s12 s13 s14 s15 s16) (f99.H0 s12 s13 s14 s15 s16)) x0) (by kernel_rfl) ?_
 unfold f99.b
 simp only [f99.l0_eq]
 delta f99.X0_e1
 simp only [f99.p0_e1_eq]
theorem f99.ok (L N m:Nat) (hΦ:TellsOk Tryz.prog (Φ99s L N m)):EntOk Tryz.prog 99 (f99.ent L N (m+1)):=entRo_ok (E:=(E99 L N m)) (dep:=1000) (f:=Tryz.f99) (sound_of hΦ) okP (callI_sound (sound_of hΦ) okP 0 1000) rfl rfl fun d _ hy=>(f99.b_eq L N m (unR (.one .str)) d.1).trans (Eq.trans (b:=f99.b L N (f99 L N m) some d.1) (by kernel_rfl) hy)
theorem Φ99s_ok (L N:Nat):∀m,TellsOk Tryz.prog (Φ99s L N m):=by
 intro m
 induction m with
 |zero=>exact (addT_ok (Φ138_ok L N) (entRo_no fun _=>rfl))
 |succ m ih=>exact (addT_ok (Φ138_ok L N) (f99.ok L N m ih))
def Φ99 (L N:Nat):Tells:=(addT (Φ138 L N) 99 (f99.ent L N N))
theorem Φ99_ok (L N:Nat):TellsOk Tryz.prog (Φ99 L N):=Φ99s_ok L N N
def f116.s2' {R:Type} (L N:Nat) (k2_e4:LT->Int->Int->ByteArray->Int->LT->LY->LS->LM->LLM->Option R) (rec2:LT->Int->Int->ByteArray->Int->LT->LY->LS->LM->LLM->Option R) (s23:LT) (s24:Int) (s25:Int) (s26:ByteArray) (s27:Int) (s28:LT) (s29:LY) (s30:LS) (s31:LM) (s32:LLM):Option R:=
 bif (decide (s27<(s29.length:Int))) then
  bif (decide (0≤s27)&&decide (s27<(s29.length:Int))) then
   bif (!((listAt s29 ByteArray.empty s27.toNat).toList==s26.toList)) then
    rec2 s23 s24 s25 s26 (wi (s27+(1:Int))) s28 s29 s30 s31 s32
   else k2_e4 s23 s24 s25 s26 s27 s28 s29 s30 s31 s32
  else none
 else k2_e4 s23 s24 s25 s26 s27 s28 s29 s30 s31 s32
def f116.s2 {R:Type} (L N:Nat) (k2_e4:LT->Int->Int->ByteArray->Int->LT->LY->LS->LM->LLM->Option R) (rec2:LT->Int->Int->ByteArray->Int->LT->LY->LS->LM->LLM->Option R) (s23:LT) (s24:Int) (s25:Int) (s26:ByteArray) (s27:Int) (s28:LT) (s29:LY) (s30:LS) (s31:LM) (s32:LLM):Option R:=
 f116.s2' L N k2_e4 rec2 s23 s24 s25 s26 s27 s28 s29 s30 s31 s32
def f116.l2 {R:Type} (L N:Nat) (k2_e4:LT->Int->Int->ByteArray->Int->LT->LY->LS->LM->LLM->Option R):Nat->LT->Int->Int->ByteArray->Int->LT->LY->LS->LM->LLM->Option R
 |0,_,_,_,_,_,_,_,_,_,_=>none
 |n+1,s23,s24,s25,s26,s27,s28,s29,s30,s31,s32=>f116.s2 L N k2_e4 (f116.l2 L N k2_e4 n) s23 s24 s25 s26 s27 s28 s29 s30 s31 s32
def f116.T2 (s23:LT) (s24:Int) (s25:Int) (s26:ByteArray) (s27:Int) (s28:LT) (s29:LY) (s30:LS) (s31:LM) (s32:LLM):T:=mkT 106 [(1,(.tv (.sl (.st 1)) s23)),(4,(.ptr 1004 0)),(6,(.row 1016)),(7,(.row 1019)),(8,(.ptr 1008 0)),(9,(.tv i64 s24)),(10,(.row 1032)),(11,(.row 1033)),(12,(.tv i64 s25)),(13,(.tv .str s26)),(14,(.tv i64 s27))]
def f116.H2 (s23:LT) (s24:Int) (s25:Int) (s26:ByteArray) (s27:Int) (s28:LT) (s29:LY) (s30:LS) (s31:LM) (s32:LLM):H:=[(1004,(.box [.nil])),(1008,(.box [(.row 1900)])),(1016,(.row 25 (.st 1) s28)),(1019,(.row 9 .str s29)),(1032,(.row 113 (.st 3) s30)),(1033,(.row 63 (.st 0) s31)),(1900,(.row 61 (.sl (.st 0)) s32))]
def f116.T2_e4 (z44:LT) (z45:Int) (z46:Int) (z47:ByteArray) (z48:Int) (z49:LT) (z50:LY) (z51:LS) (z52:LM) (z53:LLM):T:=mkT 106 [(1,(.tv (.sl (.st 1)) z44)),(4,(.ptr 1004 0)),(6,(.row 1016)),(7,(.row 1019)),(8,(.ptr 1008 0)),(9,(.tv i64 z45)),(10,(.row 1032)),(11,(.row 1033)),(12,(.tv i64 z46)),(13,(.tv .str z47)),(14,(.tv i64 z48))]
def f116.H2_e4 (z44:LT) (z45:Int) (z46:Int) (z47:ByteArray) (z48:Int) (z49:LT) (z50:LY) (z51:LS) (z52:LM) (z53:LLM):H:=[(1004,(.box [.nil])),(1008,(.box [(.row 1900)])),(1016,(.row 25 (.st 1) z49)),(1019,(.row 9 .str z50)),(1032,(.row 113 (.st 3) z51)),(1033,(.row 63 (.st 0) z52)),(1900,(.row 61 (.sl (.st 0)) z53))]
def f116.j1' {R:Type} (L N:Nat) (k1_e2:LT->Int->LT->LY->LM->LLM->Option R) (k1_r:LT->Bool->Int->LT->LY->LM->LLM->Option R) (rec1:LT->Int->Int->LT->LY->LS->LM->LLM->Option R) (v93:LT) (v94:Int) (v95:Int) (v96:Int) (v97:LT) (v98:LY) (v99:LS) (v100:LM) (v101:LLM):Option R:=
 bif (decide (0≤v95)&&decide (v95<(v99.length:Int))) then
  bif (decide (v100.length+([(Move.mk ((listAt v99 (Ty.dflt (.st 3)) v95.toNat).act) v96)]:LM).length≤lim)) then
   rec1 v93 v94 (wi (v95+(1:Int))) v97 v98 v99 (v100++([(Move.mk ((listAt v99 (Ty.dflt (.st 3)) v95.toNat).act) v96)]:LM)) v101
  else none
 else none
def f116.j0' {R:Type} (L N:Nat) (k1_e2:LT->Int->LT->LY->LM->LLM->Option R) (k1_r:LT->Bool->Int->LT->LY->LM->LLM->Option R) (rec1:LT->Int->Int->LT->LY->LS->LM->LLM->Option R) (v83:LT) (v84:Int) (v85:Int) (v86:ByteArray) (v87:Int) (v88:LT) (v89:LY) (v90:LS) (v91:LM) (v92:LLM):Option R:=
 bif (decide (0≤v85)&&decide (v85<(v90.length:Int))) then
  bif (decide (v88.length+([(Tree.mk ((listAt v90 (Ty.dflt (.st 3)) v85.toNat).thn.op) ((listAt v90 (Ty.dflt (.st 3)) v85.toNat).thn.n) ((listAt v90 (Ty.dflt (.st 3)) v85.toNat).thn.parts))]:LT).length≤lim)) then
   bif (decide (v89.length+([v86]:LY).length≤lim)) then
    f116.j1' L N k1_e2 k1_r rec1 v83 v84 v85 v87 (v88++([(Tree.mk ((listAt v90 (Ty.dflt (.st 3)) v85.toNat).thn.op) ((listAt v90 (Ty.dflt (.st 3)) v85.toNat).thn.n) ((listAt v90 (Ty.dflt (.st 3)) v85.toNat).thn.parts))]:LT)) (v89++([v86]:LY)) v90 v91 v92
   else none
  else none
 else none
def f116.p2_e4' {R:Type} (L N:Nat) (k1_e2:LT->Int->LT->LY->LM->LLM->Option R) (k1_r:LT->Bool->Int->LT->LY->LM->LLM->Option R) (rec1:LT->Int->Int->LT->LY->LS->LM->LLM->Option R) (z44:LT) (z45:Int) (z46:Int) (z47:ByteArray) (z48:Int) (z49:LT) (z50:LY) (z51:LS) (z52:LM) (z53:LLM):Option R:=
 bif (z48==(z50.length:Int)) then
  bif (z48==(60:Int)) then
   k1_r z44 false z45 z49 z50 z52 z53
  else bif (decide (0≤z46)&&decide (z46<(z51.length:Int))) then
   (f85 L N N (Tree.mk ((listAt z51 (Ty.dflt (.st 3)) z46.toNat).thn.op) ((listAt z51 (Ty.dflt (.st 3)) z46.toNat).thn.n) ((listAt z51 (Ty.dflt (.st 3)) z46.toNat).thn.parts))).bind fun y64=>
   bif (decide (y64>(24:Int))) then
    k1_r z44 false z45 z49 z50 z52 z53
   else f116.j0' L N k1_e2 k1_r rec1 z44 z45 z46 z47 z48 z49 z50 z51 z52 z53
  else none
 else f116.j1' L N k1_e2 k1_r rec1 z44 z45 z46 z48 z49 z50 z51 z52 z53
def f116.p2_e4 {R:Type} (L N:Nat) (k1_e2:LT->Int->LT->LY->LM->LLM->Option R) (k1_r:LT->Bool->Int->LT->LY->LM->LLM->Option R) (rec1:LT->Int->Int->LT->LY->LS->LM->LLM->Option R) (z44:LT) (z45:Int) (z46:Int) (z47:ByteArray) (z48:Int) (z49:LT) (z50:LY) (z51:LS) (z52:LM) (z53:LLM):Option R:=
 f116.p2_e4' L N k1_e2 k1_r rec1 z44 z45 z46 z47 z48 z49 z50 z51 z52 z53
def f116.s1' {R:Type} (L N:Nat) (k1_e2:LT->Int->LT->LY->LM->LLM->Option R) (k1_r:LT->Bool->Int->LT->LY->LM->LLM->Option R) (rec1:LT->Int->Int->LT->LY->LS->LM->LLM->Option R) (w2:LT->Int->Int->ByteArray->Int->LT->LY->LS->LM->LLM->Option R) (s8:LT) (s9:Int) (s10:Int) (s11:LT) (s12:LY) (s13:LS) (s14:LM) (s15:LLM):Option R:=
 bif (decide (s10<(s13.length:Int))) then
  bif (decide (0≤s10)&&decide (s10<(s13.length:Int))) then
   (f99 L N N (Tree.mk ((listAt s13 (Ty.dflt (.st 3)) s10.toNat).thn.op) ((listAt s13 (Ty.dflt (.st 3)) s10.toNat).thn.n) ((listAt s13 (Ty.dflt (.st 3)) s10.toNat).thn.parts))).bind fun y22=>
   w2 s8 s9 s10 y22 (0:Int) s11 s12 s13 s14 s15
  else none
 else k1_e2 s8 s9 s11 s12 s14 s15
def f116.s1 {R:Type} (L N:Nat) (k1_e2:LT->Int->LT->LY->LM->LLM->Option R) (k1_r:LT->Bool->Int->LT->LY->LM->LLM->Option R) (rec1:LT->Int->Int->LT->LY->LS->LM->LLM->Option R) (s8:LT) (s9:Int) (s10:Int) (s11:LT) (s12:LY) (s13:LS) (s14:LM) (s15:LLM):Option R:=
 f116.s1' L N k1_e2 k1_r rec1 (fun s23 s24 s25 s26 s27 s28 s29 s30 s31 s32=>f116.l2 L N (fun z44 z45 z46 z47 z48 z49 z50 z51 z52 z53=>f116.p2_e4 L N k1_e2 k1_r rec1 z44 z45 z46 z47 z48 z49 z50 z51 z52 z53) L s23 s24 s25 s26 s27 s28 s29 s30 s31 s32) s8 s9 s10 s11 s12 s13 s14 s15
def f116.l1 {R:Type} (L N:Nat) (k1_e2:LT->Int->LT->LY->LM->LLM->Option R) (k1_r:LT->Bool->Int->LT->LY->LM->LLM->Option R):Nat->LT->Int->Int->LT->LY->LS->LM->LLM->Option R
 |0,_,_,_,_,_,_,_,_=>none
 |n+1,s8,s9,s10,s11,s12,s13,s14,s15=>f116.s1 L N k1_e2 k1_r (f116.l1 L N k1_e2 k1_r n) s8 s9 s10 s11 s12 s13 s14 s15
def f116.T1 (s8:LT) (s9:Int) (s10:Int) (s11:LT) (s12:LY) (s13:LS) (s14:LM) (s15:LLM):T:=mkT 106 [(1,(.tv (.sl (.st 1)) s8)),(4,(.ptr 1004 0)),(6,(.row 1016)),(7,(.row 1019)),(8,(.ptr 1008 0)),(9,(.tv i64 s9)),(10,(.row 1032)),(11,(.row 1033)),(12,(.tv i64 s10))]
def f116.H1 (s8:LT) (s9:Int) (s10:Int) (s11:LT) (s12:LY) (s13:LS) (s14:LM) (s15:LLM):H:=[(1004,(.box [.nil])),(1008,(.box [(.row 1900)])),(1016,(.row 25 (.st 1) s11)),(1019,(.row 9 .str s12)),(1032,(.row 113 (.st 3) s13)),(1033,(.row 63 (.st 0) s14)),(1900,(.row 61 (.sl (.st 0)) s15))]
def f116.T1_e2 (z16:LT) (z17:Int) (z18:LT) (z19:LY) (z20:LM) (z21:LLM):T:=mkT 106 [(1,(.tv (.sl (.st 1)) z16)),(4,(.ptr 1004 0)),(6,(.row 1016)),(7,(.row 1019)),(8,(.ptr 1008 0)),(9,(.tv i64 z17)),(11,(.row 1033))]
def f116.H1_e2 (z16:LT) (z17:Int) (z18:LT) (z19:LY) (z20:LM) (z21:LLM):H:=[(1004,(.box [.nil])),(1008,(.box [(.row 1900)])),(1016,(.row 25 (.st 1) z18)),(1019,(.row 9 .str z19)),(1033,(.row 63 (.st 0) z20)),(1900,(.row 61 (.sl (.st 0)) z21))]
def f116.T1_r (z76:LT) (z77:Bool) (z78:Int) (z79:LT) (z80:LY) (z81:LM) (z82:LLM):T:=mkT 106 [(1,(.tv (.sl (.st 1)) z76)),(4,(.ptr 1004 0)),(5,(.tv .bool z77)),(6,(.row 1016)),(7,(.row 1019)),(8,(.ptr 1008 0)),(9,(.tv i64 z78)),(11,(.row 1033))]
def f116.H1_r (z76:LT) (z77:Bool) (z78:Int) (z79:LT) (z80:LY) (z81:LM) (z82:LLM):H:=[(1004,(.box [.nil])),(1008,(.box [(.row 1900)])),(1016,(.row 25 (.st 1) z79)),(1019,(.row 9 .str z80)),(1033,(.row 63 (.st 0) z81)),(1900,(.row 61 (.sl (.st 0)) z82))]
def f116.p1_e2' {R:Type} (L N:Nat) (k0_e0:LLM->Option R) (k0_r:Bool->LLM->Option R) (rec0:LT->Int->LT->LY->LLM->Option R) (z16:LT) (z17:Int) (z18:LT) (z19:LY) (z20:LM) (z21:LLM):Option R:=
 (f78 L N z20).bind fun y104=>
 bif (decide (z21.length+([y104]:LLM).length≤lim)) then
  rec0 z16 (wi (z17+(1:Int))) z18 z19 (z21++([y104]:LLM))
 else none
def f116.p1_e2 {R:Type} (L N:Nat) (k0_e0:LLM->Option R) (k0_r:Bool->LLM->Option R) (rec0:LT->Int->LT->LY->LLM->Option R) (z16:LT) (z17:Int) (z18:LT) (z19:LY) (z20:LM) (z21:LLM):Option R:=
 f116.p1_e2' L N k0_e0 k0_r rec0 z16 z17 z18 z19 z20 z21
def f116.p1_r' {R:Type} (L N:Nat) (k0_e0:LLM->Option R) (k0_r:Bool->LLM->Option R) (rec0:LT->Int->LT->LY->LLM->Option R) (z76:LT) (z77:Bool) (z78:Int) (z79:LT) (z80:LY) (z81:LM) (z82:LLM):Option R:=
 k0_r z77 z82
def f116.p1_r {R:Type} (L N:Nat) (k0_e0:LLM->Option R) (k0_r:Bool->LLM->Option R) (rec0:LT->Int->LT->LY->LLM->Option R) (z76:LT) (z77:Bool) (z78:Int) (z79:LT) (z80:LY) (z81:LM) (z82:LLM):Option R:=
 f116.p1_r' L N k0_e0 k0_r rec0 z76 z77 z78 z79 z80 z81 z82
def f116.s0' {R:Type} (L N:Nat) (k0_e0:LLM->Option R) (k0_r:Bool->LLM->Option R) (rec0:LT->Int->LT->LY->LLM->Option R) (w1:LT->Int->Int->LT->LY->LS->LM->LLM->Option R) (s1:LT) (s2:Int) (s3:LT) (s4:LY) (s5:LLM):Option R:=
 bif (decide (s2<(s3.length:Int))) then
  bif (decide (0≤s2)&&decide (s2<(s3.length:Int))) then
   (f98 L N N (listAt s3 (Ty.dflt (.st 1)) s2.toNat) s1).bind fun y7=>
   w1 s1 s2 (0:Int) s3 s4 y7 ([]:LM) s5
  else none
 else k0_e0 s5
def f116.s0 {R:Type} (L N:Nat) (k0_e0:LLM->Option R) (k0_r:Bool->LLM->Option R) (rec0:LT->Int->LT->LY->LLM->Option R) (s1:LT) (s2:Int) (s3:LT) (s4:LY) (s5:LLM):Option R:=
 f116.s0' L N k0_e0 k0_r rec0 (fun s8 s9 s10 s11 s12 s13 s14 s15=>f116.l1 L N (fun z16 z17 z18 z19 z20 z21=>f116.p1_e2 L N k0_e0 k0_r rec0 z16 z17 z18 z19 z20 z21) (fun z76 z77 z78 z79 z80 z81 z82=>f116.p1_r L N k0_e0 k0_r rec0 z76 z77 z78 z79 z80 z81 z82) L s8 s9 s10 s11 s12 s13 s14 s15) s1 s2 s3 s4 s5
def f116.l0 {R:Type} (L N:Nat) (k0_e0:LLM->Option R) (k0_r:Bool->LLM->Option R):Nat->LT->Int->LT->LY->LLM->Option R
 |0,_,_,_,_,_=>none
 |n+1,s1,s2,s3,s4,s5=>f116.s0 L N k0_e0 k0_r (f116.l0 L N k0_e0 k0_r n) s1 s2 s3 s4 s5
def f116.T0 (s1:LT) (s2:Int) (s3:LT) (s4:LY) (s5:LLM):T:=mkT 106 [(1,(.tv (.sl (.st 1)) s1)),(4,(.ptr 1004 0)),(6,(.row 1016)),(7,(.row 1019)),(8,(.ptr 1008 0)),(9,(.tv i64 s2))]
def f116.H0 (s1:LT) (s2:Int) (s3:LT) (s4:LY) (s5:LLM):H:=[(1004,(.box [.nil])),(1008,(.box [(.row 1900)])),(1016,(.row 25 (.st 1) s3)),(1019,(.row 9 .str s4)),(1900,(.row 61 (.sl (.st 0)) s5))]
def f116.T0_e0 (z6:LLM):T:=mkT 106 [(4,(.ptr 1004 0)),(8,(.ptr 1008 0))]
def f116.H0_e0 (z6:LLM):H:=[(1004,(.box [.nil])),(1008,(.box [(.row 1900)])),(1900,(.row 61 (.sl (.st 0)) z6))]
def f116.T0_r (z102:Bool) (z103:LLM):T:=mkT 106 [(4,(.ptr 1004 0)),(5,(.tv .bool z102)),(8,(.ptr 1008 0))]
def f116.H0_r (z102:Bool) (z103:LLM):H:=[(1004,(.box [.nil])),(1008,(.box [(.row 1900)])),(1900,(.row 61 (.sl (.st 0)) z103))]
def f116.p0_e0' {R:Type} (L N:Nat) (k:Graph->Bool->Option R) (z6:LLM):Option R:=
 k (Graph.mk z6) true
def f116.p0_e0 {R:Type} (L N:Nat) (k:Graph->Bool->Option R) (z6:LLM):Option R:=
 f116.p0_e0' L N k z6
def f116.p0_r' {R:Type} (L N:Nat) (k:Graph->Bool->Option R) (z102:Bool) (z103:LLM):Option R:=
 k (Graph.mk []) z102
def f116.p0_r {R:Type} (L N:Nat) (k:Graph->Bool->Option R) (z102:Bool) (z103:LLM):Option R:=
 f116.p0_r' L N k z102 z103
def f116.b' {R:Type} (L N:Nat) (k:Graph->Bool->Option R) (w0:LT->Int->LT->LY->LLM->Option R) (x0:Tree) (x1:LT):Option R:=
 (f99 L N N (Tree.mk x0.op x0.n x0.parts)).bind fun y0=>
 w0 x1 (0:Int) ([(Tree.mk x0.op x0.n x0.parts)]:LT) ([y0]:LY) ([]:LLM)
def f116.b {R:Type} (L N:Nat) (k:Graph->Bool->Option R) (x0:Tree) (x1:LT):Option R:=
 f116.b' L N k (fun s1 s2 s3 s4 s5=>f116.l0 L N (fun z6=>f116.p0_e0 L N k z6) (fun z102 z103=>f116.p0_r L N k z102 z103) L s1 s2 s3 s4 s5) x0 x1
def f116 (L N:Nat) (x0:Tree) (x1:LT):Option (Graph×Bool):=f116.b L N (fun a0 a1=>some (a0,a1)) x0 x1
def f116.ent (L N:Nat):=entDa [(.st 1),(.sl (.st 1))] (.many [(.st 2),.bool]) fun d=>f116 L N d.1 d.2.1
noncomputable def E116 (L N:Nat):Env:={P:=Tryz.prog,ty:=tyOf,Φ:=(Φ99 L N),inl:=inlT,live:=lives,liveX:=livesX,L:=L,dp:=none,prom:=promT,heal:=healT,ren:=renT}
noncomputable def f116.c0:Code:=loopAt 0 (codeOf Tryz.f116)
noncomputable def f116.c1:Code:=loopAt 2 f116.c0
noncomputable def f116.c2:Code:=loopAt 4 f116.c1
def f116.X2_e4 {R:Type} (κ:KX R):=fun z44 z45 z46 z47 z48 z49 z50 z51 z52 z53=>κ (.exit 4) (f116.T2_e4 z44 z45 z46 z47 z48 z49 z50 z51 z52 z53) (f116.H2_e4 z44 z45 z46 z47 z48 z49 z50 z51 z52 z53)
def f116.R2 {R:Type} (rec:KT R):=fun s23 s24 s25 s26 s27 s28 s29 s30 s31 s32=>rec (f116.T2 s23 s24 s25 s26 s27 s28 s29 s30 s31 s32) (f116.H2 s23 s24 s25 s26 s27 s28 s29 s30 s31 s32)
theorem f116.s2_eq {R:Type} (L N:Nat) (κ:KX R) (rec:KT R) (s23:LT) (s24:Int) (s25:Int) (s26:ByteArray) (s27:Int) (s28:LT) (s29:LY) (s30:LS) (s31:LM) (s32:LLM):
  evRd (E116 L N) (evCallI (E116 L N) 0 1000) 1000 116 106 4 f116.c2 κ rec (f116.T2 s23 s24 s25 s26 s27 s28 s29 s30 s31 s32) (f116.H2 s23 s24 s25 s26 s27 s28 s29 s30 s31 s32)
  =f116.s2 L N (f116.X2_e4 κ) (f116.R2 rec) s23 s24 s25 s26 s27 s28 s29 s30 s31 s32:=by kernel_rfl
theorem f116.l2_eq {R:Type} (L N:Nat) (κ:KX R):∀(n:Nat) (s23:LT) (s24:Int) (s25:Int) (s26:ByteArray) (s27:Int) (s28:LT) (s29:LY) (s30:LS) (s31:LM) (s32:LLM),
  evLp (E116 L N) (evCallI (E116 L N) 0 1000) 1000 116 106 4 f116.c2 κ n (f116.T2 s23 s24 s25 s26 s27 s28 s29 s30 s31 s32) (f116.H2 s23 s24 s25 s26 s27 s28 s29 s30 s31 s32)
  =f116.l2 L N (f116.X2_e4 κ) n s23 s24 s25 s26 s27 s28 s29 s30 s31 s32:=by
 intro n
 induction n with
 |zero=>intros;rfl
 |succ n ih=>
  intro s23 s24 s25 s26 s27 s28 s29 s30 s31 s32
  rw [evLp_succ,f116.s2_eq]
  delta f116.R2
  simp only [ih]
  rfl
def f116.X1_e2 {R:Type} (κ:KX R):=fun z16 z17 z18 z19 z20 z21=>κ (.exit 2) (f116.T1_e2 z16 z17 z18 z19 z20 z21) (f116.H1_e2 z16 z17 z18 z19 z20 z21)
def f116.X1_r {R:Type} (κ:KX R):=fun z76 z77 z78 z79 z80 z81 z82=>κ .ret (f116.T1_r z76 z77 z78 z79 z80 z81 z82) (f116.H1_r z76 z77 z78 z79 z80 z81 z82)
def f116.R1 {R:Type} (rec:KT R):=fun s8 s9 s10 s11 s12 s13 s14 s15=>rec (f116.T1 s8 s9 s10 s11 s12 s13 s14 s15) (f116.H1 s8 s9 s10 s11 s12 s13 s14 s15)
theorem f116.p2_e4_eq {R:Type} (L N:Nat) (κ:KX R) (rec:KT R) (z44:LT) (z45:Int) (z46:Int) (z47:ByteArray) (z48:Int) (z49:LT) (z50:LY) (z51:LS) (z52:LM) (z53:LLM):
  (contAt (E116 L N) (evCallI (E116 L N) 0 1000) 1000 116 106 4 f116.c1 (rdK (E116 L N) 1000 116 106 2 κ rec)) (.exit 4) (f116.T2_e4 z44 z45 z46 z47 z48 z49 z50 z51 z52 z53) (f116.H2_e4 z44 z45 z46 z47 z48 z49 z50 z51 z52 z53)
  =f116.p2_e4 L N (f116.X1_e2 κ) (f116.X1_r κ) (f116.R1 rec) z44 z45 z46 z47 z48 z49 z50 z51 z52 z53:=by kernel_rfl
theorem f116.s1_eq {R:Type} (L N:Nat) (κ:KX R) (rec:KT R) (s8:LT) (s9:Int) (s10:Int) (s11:LT) (s12:LY) (s13:LS) (s14:LM) (s15:LLM):
  evRd (E116 L N) (evCallI (E116 L N) 0 1000) 1000 116 106 2 f116.c1 κ rec (f116.T1 s8 s9 s10 s11 s12 s13 s14 s15) (f116.H1 s8 s9 s10 s11 s12 s13 s14 s15)
  =f116.s1 L N (f116.X1_e2 κ) (f116.X1_r κ) (f116.R1 rec) s8 s9 s10 s11 s12 s13 s14 s15:=by
 refine Eq.trans (b:=f116.s1' L N (f116.X1_e2 κ) (f116.X1_r κ) (f116.R1 rec) (fun s23 s24 s25 s26 s27 s28 s29 s30 s31 s32=>evLp (E116 L N) (evCallI (E116 L N) 0 1000) 1000 116 106 4 f116.c2 (contAt (E116 L N) (evCallI (E116 L N) 0 1000) 1000 116 106 4 f116.c1 (rdK (E116 L N) 1000 116 106 2 κ rec)) L (f116.T2 s23 s24 s25 s26 s27 s28 s29 s30 s31 s32) (f116.H2 s23 s24 s25 s26 s27 s28 s29 s30 s31 s32)) s8 s9 s10 s11 s12 s13 s14 s15) (by kernel_rfl) ?_
 unfold f116.s1
 simp only [f116.l2_eq]
 delta f116.X2_e4
 simp only [f116.p2_e4_eq]
theorem f116.l1_eq {R:Type} (L N:Nat) (κ:KX R):∀(n:Nat) (s8:LT) (s9:Int) (s10:Int) (s11:LT) (s12:LY) (s13:LS) (s14:LM) (s15:LLM),
  evLp (E116 L N) (evCallI (E116 L N) 0 1000) 1000 116 106 2 f116.c1 κ n (f116.T1 s8 s9 s10 s11 s12 s13 s14 s15) (f116.H1 s8 s9 s10 s11 s12 s13 s14 s15)
  =f116.l1 L N (f116.X1_e2 κ) (f116.X1_r κ) n s8 s9 s10 s11 s12 s13 s14 s15:=by
 intro n
 induction n with
 |zero=>intros;rfl
 |succ n ih=>
  intro s8 s9 s10 s11 s12 s13 s14 s15
  rw [evLp_succ,f116.s1_eq]
  delta f116.R1
  simp only [ih]
  rfl
def f116.X0_e0 {R:Type} (κ:KX R):=fun z6=>κ (.exit 0) (f116.T0_e0 z6) (f116.H0_e0 z6)
def f116.X0_r {R:Type} (κ:KX R):=fun z102 z103=>κ .ret (f116.T0_r z102 z103) (f116.H0_r z102 z103)
def f116.R0 {R:Type} (rec:KT R):=fun s1 s2 s3 s4 s5=>rec (f116.T0 s1 s2 s3 s4 s5) (f116.H0 s1 s2 s3 s4 s5)
theorem f116.p1_e2_eq {R:Type} (L N:Nat) (κ:KX R) (rec:KT R) (z16:LT) (z17:Int) (z18:LT) (z19:LY) (z20:LM) (z21:LLM):
  (contAt (E116 L N) (evCallI (E116 L N) 0 1000) 1000 116 106 2 f116.c0 (rdK (E116 L N) 1000 116 106 0 κ rec)) (.exit 2) (f116.T1_e2 z16 z17 z18 z19 z20 z21) (f116.H1_e2 z16 z17 z18 z19 z20 z21)
  =f116.p1_e2 L N (f116.X0_e0 κ) (f116.X0_r κ) (f116.R0 rec) z16 z17 z18 z19 z20 z21:=by kernel_rfl
theorem f116.p1_r_eq {R:Type} (L N:Nat) (κ:KX R) (rec:KT R) (z76:LT) (z77:Bool) (z78:Int) (z79:LT) (z80:LY) (z81:LM) (z82:LLM):
  (contAt (E116 L N) (evCallI (E116 L N) 0 1000) 1000 116 106 2 f116.c0 (rdK (E116 L N) 1000 116 106 0 κ rec)) .ret (f116.T1_r z76 z77 z78 z79 z80 z81 z82) (f116.H1_r z76 z77 z78 z79 z80 z81 z82)
  =f116.p1_r L N (f116.X0_e0 κ) (f116.X0_r κ) (f116.R0 rec) z76 z77 z78 z79 z80 z81 z82:=by kernel_rfl
theorem f116.s0_eq {R:Type} (L N:Nat) (κ:KX R) (rec:KT R) (s1:LT) (s2:Int) (s3:LT) (s4:LY) (s5:LLM):
  evRd (E116 L N) (evCallI (E116 L N) 0 1000) 1000 116 106 0 f116.c0 κ rec (f116.T0 s1 s2 s3 s4 s5) (f116.H0 s1 s2 s3 s4 s5)
  =f116.s0 L N (f116.X0_e0 κ) (f116.X0_r κ) (f116.R0 rec) s1 s2 s3 s4 s5:=by
 refine Eq.trans (b:=f116.s0' L N (f116.X0_e0 κ) (f116.X0_r κ) (f116.R0 rec) (fun s8 s9 s10 s11 s12 s13 s14 s15=>evLp (E116 L N) (evCallI (E116 L N) 0 1000) 1000 116 106 2 f116.c1 (contAt (E116 L N) (evCallI (E116 L N) 0 1000) 1000 116 106 2 f116.c0 (rdK (E116 L N) 1000 116 106 0 κ rec)) L (f116.T1 s8 s9 s10 s11 s12 s13 s14 s15) (f116.H1 s8 s9 s10 s11 s12 s13 s14 s15)) s1 s2 s3 s4 s5) (by kernel_rfl) ?_
 unfold f116.s0
 simp only [f116.l1_eq]
 delta f116.X1_e2 f116.X1_r
 simp only [f116.p1_e2_eq,f116.p1_r_eq]
theorem f116.l0_eq {R:Type} (L N:Nat) (κ:KX R):∀(n:Nat) (s1:LT) (s2:Int) (s3:LT) (s4:LY) (s5:LLM),
  evLp (E116 L N) (evCallI (E116 L N) 0 1000) 1000 116 106 0 f116.c0 κ n (f116.T0 s1 s2 s3 s4 s5) (f116.H0 s1 s2 s3 s4 s5)
  =f116.l0 L N (f116.X0_e0 κ) (f116.X0_r κ) n s1 s2 s3 s4 s5:=by
 intro n
 induction n with
 |zero=>intros;rfl
 |succ n ih=>
  intro s1 s2 s3 s4 s5
  rw [evLp_succ,f116.s0_eq]
  delta f116.R0
  simp only [ih]
  rfl
theorem f116.p0_e0_eq {R:Type} (L N:Nat) (κ:AV->Option R) (z6:LLM):
  (contAt (E116 L N) (evCallI (E116 L N) 0 1000) 1000 116 106 0 (codeOf Tryz.f116) (finK (E116 L N) 1000 Tryz.f116 (finC (.many [(.st 2),.bool]) κ))) (.exit 0) (f116.T0_e0 z6) (f116.H0_e0 z6)
  =f116.p0_e0 L N (fun a0 a1=>κ (.tup [(.tv (.st 2) a0),(.tv .bool a1)])) z6:=by kernel_rfl
theorem f116.p0_r_eq {R:Type} (L N:Nat) (κ:AV->Option R) (z102:Bool) (z103:LLM):
  (contAt (E116 L N) (evCallI (E116 L N) 0 1000) 1000 116 106 0 (codeOf Tryz.f116) (finK (E116 L N) 1000 Tryz.f116 (finC (.many [(.st 2),.bool]) κ))) .ret (f116.T0_r z102 z103) (f116.H0_r z102 z103)
  =f116.p0_r L N (fun a0 a1=>κ (.tup [(.tv (.st 2) a0),(.tv .bool a1)])) z102 z103:=by kernel_rfl
theorem f116.b_eq {R:Type} (L N:Nat) (κ:AV->Option R) (x0:Tree) (x1:LT):
  evBody (E116 L N) (evCallI (E116 L N) 0 1000) 1000 116 Tryz.f116 [(.tv (.st 1) x0),(.tv (.sl (.st 1)) x1)] [] [] (finC (.many [(.st 2),.bool]) κ)
  =f116.b L N (fun a0 a1=>κ (.tup [(.tv (.st 2) a0),(.tv .bool a1)])) x0 x1:=by
 refine Eq.trans (b:=f116.b' L N (fun a0 a1=>κ (.tup [(.tv (.st 2) a0),(.tv .bool a1)])) (fun s1 s2 s3 s4 s5=>evLp (E116 L N) (evCallI (E116 L N) 0 1000) 1000 116 106 0 f116.c0 (contAt (E116 L N) (evCallI (E116 L N) 0 1000) 1000 116 106 0 (codeOf Tryz.f116) (finK (E116 L N) 1000 Tryz.f116 (finC (.many [(.st 2),.bool]) κ))) L (f116.T0 s1 s2 s3 s4 s5) (f116.H0 s1 s2 s3 s4 s5)) x0 x1) (by kernel_rfl) ?_
 unfold f116.b
 simp only [f116.l0_eq]
 delta f116.X0_e0 f116.X0_r
 simp only [f116.p0_e0_eq,f116.p0_r_eq]
theorem f116.ok (L N:Nat) (hΦ:TellsOk Tryz.prog ((Φ99 L N))):EntOk Tryz.prog 116 (f116.ent L N):=entDa_ok (E:=(E116 L N)) (dep:=1000) (f:=Tryz.f116) (sound_of hΦ) okP (callI_sound (sound_of hΦ) okP 0 1000) rfl fun d _ hy=>(f116.b_eq L N (unR (.many [(.st 2),.bool])) d.1 d.2.1).trans (Eq.trans (b:=f116.b L N (fun a0 a1=>some (a0,a1)) d.1 d.2.1) (by kernel_rfl) hy)
def Φ116 (L N:Nat):Tells:=(addT (Φ99 L N) 116 (f116.ent L N))
theorem Φ116_ok (L N:Nat):TellsOk Tryz.prog (Φ116 L N):=addT_ok (Φ99_ok L N) (f116.ok L N (Φ99_ok L N))
def f73.b' {R:Type} (L N:Nat) (k:Graph->Bool->Option R) (x0:Tree) (x1:LT):Option R:=
 (f115 L N (Tree.mk x0.op x0.n x0.parts) x1).bind fun y0=>
 bif (!y0) then
  k (Graph.mk []) false
 else (f116 L N (Tree.mk x0.op x0.n x0.parts) x1).bind fun y1=>
 k (Graph.mk y1.1.moves) y1.2
def f73.b {R:Type} (L N:Nat) (k:Graph->Bool->Option R) (x0:Tree) (x1:LT):Option R:=
 f73.b' L N k x0 x1
def f73 (L N:Nat) (x0:Tree) (x1:LT):Option (Graph×Bool):=f73.b L N (fun a0 a1=>some (a0,a1)) x0 x1
def f73.ent (L N:Nat):=entDa [(.st 1),(.sl (.st 1))] (.many [(.st 2),.bool]) fun d=>f73 L N d.1 d.2.1
noncomputable def E73 (L N:Nat):Env:={P:=Tryz.prog,ty:=tyOf,Φ:=(Φ116 L N),inl:=inlT,live:=lives,liveX:=livesX,L:=L,dp:=none,prom:=promT,heal:=healT,ren:=renT}
theorem f73.b_eq {R:Type} (L N:Nat) (κ:AV->Option R) (x0:Tree) (x1:LT):
  evBody (E73 L N) (evCallI (E73 L N) 0 1000) 1000 73 Tryz.f73 [(.tv (.st 1) x0),(.tv (.sl (.st 1)) x1)] [] [] (finC (.many [(.st 2),.bool]) κ)
  =f73.b L N (fun a0 a1=>κ (.tup [(.tv (.st 2) a0),(.tv .bool a1)])) x0 x1:=by kernel_rfl
theorem f73.ok (L N:Nat) (hΦ:TellsOk Tryz.prog ((Φ116 L N))):EntOk Tryz.prog 73 (f73.ent L N):=entDa_ok (E:=(E73 L N)) (dep:=1000) (f:=Tryz.f73) (sound_of hΦ) okP (callI_sound (sound_of hΦ) okP 0 1000) rfl fun d _ hy=>(f73.b_eq L N (unR (.many [(.st 2),.bool])) d.1 d.2.1).trans (Eq.trans (b:=f73.b L N (fun a0 a1=>some (a0,a1)) d.1 d.2.1) (by kernel_rfl) hy)
def Φ73 (L N:Nat):Tells:=(addT (Φ116 L N) 73 (f73.ent L N))
theorem Φ73_ok (L N:Nat):TellsOk Tryz.prog (Φ73 L N):=addT_ok (Φ116_ok L N) (f73.ok L N (Φ116_ok L N))
def f75.s1' {R:Type} (L N:Nat) (k1_e2:Int->LLM->Option R) (k1_r:Bool->Int->LLM->Option R) (rec1:Int->Int->LLM->Option R) (s3:Int) (s4:Int) (s5:LLM):Option R:=
 bif (decide (0≤s3)&&decide (s3<(s5.length:Int))) then
  bif (decide (s4<((listAt s5 [] s3.toNat).length:Int))) then
   bif (decide (0≤s3)&&decide (s3<(s5.length:Int))) then
    bif (decide (0≤s4)&&decide (s4<((listAt s5 [] s3.toNat).length:Int))) then
     (f118 L N ((listAt (listAt s5 [] s3.toNat) (Ty.dflt (.st 0)) s4.toNat).act)).bind fun y8=>
     bif (!y8) then
      k1_r false s3 s5
     else (f54 L N ((listAt (listAt s5 [] s3.toNat) (Ty.dflt (.st 0)) s4.toNat).to) (0:Int) (wi ((s5.length:Int)-(1:Int)))).bind fun y9=>
     bif (!y9) then
      k1_r false s3 s5
     else bif (decide (s4>(0:Int))) then
      bif (decide (0≤s3)&&decide (s3<(s5.length:Int))) then
       bif (decide (0≤(wi (s4-(1:Int))))&&decide ((wi (s4-(1:Int)))<((listAt s5 [] s3.toNat).length:Int))) then
        (f119 L N (listAt (listAt s5 [] s3.toNat) (Ty.dflt (.st 0)) (wi (s4-(1:Int))).toNat) (Move.mk ((listAt (listAt s5 [] s3.toNat) (Ty.dflt (.st 0)) s4.toNat).act) ((listAt (listAt s5 [] s3.toNat) (Ty.dflt (.st 0)) s4.toNat).to))).bind fun y10=>
        bif (!y10) then
         k1_r false s3 s5
        else rec1 s3 (wi (s4+(1:Int))) s5
       else none
      else none
     else rec1 s3 (wi (s4+(1:Int))) s5
    else none
   else none
  else k1_e2 s3 s5
 else none
def f75.s1 {R:Type} (L N:Nat) (k1_e2:Int->LLM->Option R) (k1_r:Bool->Int->LLM->Option R) (rec1:Int->Int->LLM->Option R) (s3:Int) (s4:Int) (s5:LLM):Option R:=
 f75.s1' L N k1_e2 k1_r rec1 s3 s4 s5
def f75.l1 {R:Type} (L N:Nat) (k1_e2:Int->LLM->Option R) (k1_r:Bool->Int->LLM->Option R):Nat->Int->Int->LLM->Option R
 |0,_,_,_=>none
 |n+1,s3,s4,s5=>f75.s1 L N k1_e2 k1_r (f75.l1 L N k1_e2 k1_r n) s3 s4 s5
def f75.T1 (s3:Int) (s4:Int) (s5:LLM):T:=mkT 68 [(1,(.ptr 1001 0)),(3,(.tv i64 s3)),(4,(.tv i64 s4))]
def f75.H1 (s3:Int) (s4:Int) (s5:LLM):H:=[(1001,(.box [(.tv (.sl (.sl (.st 0))) s5)]))]
def f75.T1_e2 (z6:Int) (z7:LLM):T:=mkT 68 [(1,(.ptr 1001 0)),(3,(.tv i64 z6))]
def f75.H1_e2 (z6:Int) (z7:LLM):H:=[(1001,(.box [(.tv (.sl (.sl (.st 0))) z7)]))]
def f75.T1_r (z15:Bool) (z16:Int) (z17:LLM):T:=mkT 68 [(1,(.ptr 1001 0)),(2,(.tv .bool z15)),(3,(.tv i64 z16))]
def f75.H1_r (z15:Bool) (z16:Int) (z17:LLM):H:=[(1001,(.box [(.tv (.sl (.sl (.st 0))) z17)]))]
def f75.p1_e2' {R:Type} (L N:Nat) (k0_e0:Option R) (k0_r:Bool->Option R) (rec0:Int->LLM->Option R) (z6:Int) (z7:LLM):Option R:=
 rec0 (wi (z6+(1:Int))) z7
def f75.p1_e2 {R:Type} (L N:Nat) (k0_e0:Option R) (k0_r:Bool->Option R) (rec0:Int->LLM->Option R) (z6:Int) (z7:LLM):Option R:=
 f75.p1_e2' L N k0_e0 k0_r rec0 z6 z7
def f75.p1_r' {R:Type} (L N:Nat) (k0_e0:Option R) (k0_r:Bool->Option R) (rec0:Int->LLM->Option R) (z15:Bool) (z16:Int) (z17:LLM):Option R:=
 k0_r z15
def f75.p1_r {R:Type} (L N:Nat) (k0_e0:Option R) (k0_r:Bool->Option R) (rec0:Int->LLM->Option R) (z15:Bool) (z16:Int) (z17:LLM):Option R:=
 f75.p1_r' L N k0_e0 k0_r rec0 z15 z16 z17
def f75.s0' {R:Type} (L N:Nat) (k0_e0:Option R) (k0_r:Bool->Option R) (rec0:Int->LLM->Option R) (w1:Int->Int->LLM->Option R) (s1:Int) (s2:LLM):Option R:=
 bif (decide (s1<(s2.length:Int))) then
  w1 s1 (0:Int) s2
 else k0_e0
def f75.s0 {R:Type} (L N:Nat) (k0_e0:Option R) (k0_r:Bool->Option R) (rec0:Int->LLM->Option R) (s1:Int) (s2:LLM):Option R:=
 f75.s0' L N k0_e0 k0_r rec0 (fun s3 s4 s5=>f75.l1 L N (fun z6 z7=>f75.p1_e2 L N k0_e0 k0_r rec0 z6 z7) (fun z15 z16 z17=>f75.p1_r L N k0_e0 k0_r rec0 z15 z16 z17) L s3 s4 s5) s1 s2
def f75.l0 {R:Type} (L N:Nat) (k0_e0:Option R) (k0_r:Bool->Option R):Nat->Int->LLM->Option R
 |0,_,_=>none
 |n+1,s1,s2=>f75.s0 L N k0_e0 k0_r (f75.l0 L N k0_e0 k0_r n) s1 s2
def f75.T0 (s1:Int) (s2:LLM):T:=mkT 68 [(1,(.ptr 1001 0)),(3,(.tv i64 s1))]
def f75.H0 (s1:Int) (s2:LLM):H:=[(1001,(.box [(.tv (.sl (.sl (.st 0))) s2)]))]
def f75.T0_e0:T:=mkT 68 []
def f75.H0_e0:H:=[]
def f75.T0_r (z21:Bool):T:=mkT 68 [(2,(.tv .bool z21))]
def f75.H0_r (z21:Bool):H:=[]
def f75.p0_e0' {R:Type} (L N:Nat) (k:Bool->Option R):Option R:=
 k true
def f75.p0_e0 {R:Type} (L N:Nat) (k:Bool->Option R):Option R:=
 f75.p0_e0' L N k
def f75.p0_r' {R:Type} (L N:Nat) (k:Bool->Option R) (z21:Bool):Option R:=
 k z21
def f75.p0_r {R:Type} (L N:Nat) (k:Bool->Option R) (z21:Bool):Option R:=
 f75.p0_r' L N k z21
def f75.b' {R:Type} (L N:Nat) (k:Bool->Option R) (w0:Int->LLM->Option R) (x0:Graph):Option R:=
 (f54 L N (x0.moves.length:Int) (1:Int) (60:Int)).bind fun y0=>
 bif (!y0) then
  k false
 else w0 (0:Int) x0.moves
def f75.b {R:Type} (L N:Nat) (k:Bool->Option R) (x0:Graph):Option R:=
 f75.b' L N k (fun s1 s2=>f75.l0 L N (f75.p0_e0 L N k) (fun z21=>f75.p0_r L N k z21) L s1 s2) x0
def f75 (L N:Nat) (x0:Graph):Option (Bool):=f75.b L N some x0
def f75.ent (L N:Nat):=entRo [(.st 2)] (.one .bool) fun d=>f75 L N d.1
noncomputable def E75 (L N:Nat):Env:={P:=Tryz.prog,ty:=tyOf,Φ:=(Φ73 L N),inl:=inlT,live:=lives,liveX:=livesX,L:=L,dp:=none,prom:=promT,heal:=healT,ren:=renT}
noncomputable def f75.c0:Code:=loopAt 0 (codeOf Tryz.f75)
noncomputable def f75.c1:Code:=loopAt 2 f75.c0
def f75.X1_e2 {R:Type} (κ:KX R):=fun z6 z7=>κ (.exit 2) (f75.T1_e2 z6 z7) (f75.H1_e2 z6 z7)
def f75.X1_r {R:Type} (κ:KX R):=fun z15 z16 z17=>κ .ret (f75.T1_r z15 z16 z17) (f75.H1_r z15 z16 z17)
def f75.R1 {R:Type} (rec:KT R):=fun s3 s4 s5=>rec (f75.T1 s3 s4 s5) (f75.H1 s3 s4 s5)
theorem f75.s1_eq {R:Type} (L N:Nat) (κ:KX R) (rec:KT R) (s3:Int) (s4:Int) (s5:LLM):
  evRd (E75 L N) (evCallI (E75 L N) 0 1000) 1000 75 68 2 f75.c1 κ rec (f75.T1 s3 s4 s5) (f75.H1 s3 s4 s5)
  =f75.s1 L N (f75.X1_e2 κ) (f75.X1_r κ) (f75.R1 rec) s3 s4 s5:=by kernel_rfl
theorem f75.l1_eq {R:Type} (L N:Nat) (κ:KX R):∀(n:Nat) (s3:Int) (s4:Int) (s5:LLM),
  evLp (E75 L N) (evCallI (E75 L N) 0 1000) 1000 75 68 2 f75.c1 κ n (f75.T1 s3 s4 s5) (f75.H1 s3 s4 s5)
  =f75.l1 L N (f75.X1_e2 κ) (f75.X1_r κ) n s3 s4 s5:=by
 intro n
 induction n with
 |zero=>intros;rfl
 |succ n ih=>
  intro s3 s4 s5
  rw [evLp_succ,f75.s1_eq]
  delta f75.R1
  simp only [ih]
  rfl
def f75.X0_e0 {R:Type} (κ:KX R):=κ (.exit 0) f75.T0_e0 f75.H0_e0
def f75.X0_r {R:Type} (κ:KX R):=fun z21=>κ .ret (f75.T0_r z21) (f75.H0_r z21)
def f75.R0 {R:Type} (rec:KT R):=fun s1 s2=>rec (f75.T0 s1 s2) (f75.H0 s1 s2)
theorem f75.p1_e2_eq {R:Type} (L N:Nat) (κ:KX R) (rec:KT R) (z6:Int) (z7:LLM):
  (contAt (E75 L N) (evCallI (E75 L N) 0 1000) 1000 75 68 2 f75.c0 (rdK (E75 L N) 1000 75 68 0 κ rec)) (.exit 2) (f75.T1_e2 z6 z7) (f75.H1_e2 z6 z7)
  =f75.p1_e2 L N (f75.X0_e0 κ) (f75.X0_r κ) (f75.R0 rec) z6 z7:=by kernel_rfl
theorem f75.p1_r_eq {R:Type} (L N:Nat) (κ:KX R) (rec:KT R) (z15:Bool) (z16:Int) (z17:LLM):
  (contAt (E75 L N) (evCallI (E75 L N) 0 1000) 1000 75 68 2 f75.c0 (rdK (E75 L N) 1000 75 68 0 κ rec)) .ret (f75.T1_r z15 z16 z17) (f75.H1_r z15 z16 z17)
  =f75.p1_r L N (f75.X0_e0 κ) (f75.X0_r κ) (f75.R0 rec) z15 z16 z17:=by kernel_rfl
theorem f75.s0_eq {R:Type} (L N:Nat) (κ:KX R) (rec:KT R) (s1:Int) (s2:LLM):
  evRd (E75 L N) (evCallI (E75 L N) 0 1000) 1000 75 68 0 f75.c0 κ rec (f75.T0 s1 s2) (f75.H0 s1 s2)
  =f75.s0 L N (f75.X0_e0 κ) (f75.X0_r κ) (f75.R0 rec) s1 s2:=by
 refine Eq.trans (b:=f75.s0' L N (f75.X0_e0 κ) (f75.X0_r κ) (f75.R0 rec) (fun s3 s4 s5=>evLp (E75 L N) (evCallI (E75 L N) 0 1000) 1000 75 68 2 f75.c1 (contAt (E75 L N) (evCallI (E75 L N) 0 1000) 1000 75 68 2 f75.c0 (rdK (E75 L N) 1000 75 68 0 κ rec)) L (f75.T1 s3 s4 s5) (f75.H1 s3 s4 s5)) s1 s2) (by kernel_rfl) ?_
 unfold f75.s0
 simp only [f75.l1_eq]
 delta f75.X1_e2 f75.X1_r
 simp only [f75.p1_e2_eq,f75.p1_r_eq]
theorem f75.l0_eq {R:Type} (L N:Nat) (κ:KX R):∀(n:Nat) (s1:Int) (s2:LLM),
  evLp (E75 L N) (evCallI (E75 L N) 0 1000) 1000 75 68 0 f75.c0 κ n (f75.T0 s1 s2) (f75.H0 s1 s2)
  =f75.l0 L N (f75.X0_e0 κ) (f75.X0_r κ) n s1 s2:=by
 intro n
 induction n with
 |zero=>intros;rfl
 |succ n ih=>
  intro s1 s2
  rw [evLp_succ,f75.s0_eq]
  delta f75.R0
  simp only [ih]
  rfl
theorem f75.p0_e0_eq {R:Type} (L N:Nat) (κ:AV->Option R):
  (contAt (E75 L N) (evCallI (E75 L N) 0 1000) 1000 75 68 0 (codeOf Tryz.f75) (finK (E75 L N) 1000 Tryz.f75 (finC (.one .bool) κ))) (.exit 0) f75.T0_e0 f75.H0_e0
  =f75.p0_e0 L N (fun a0=>κ (.tv .bool a0)):=by kernel_rfl
theorem f75.p0_r_eq {R:Type} (L N:Nat) (κ:AV->Option R) (z21:Bool):
  (contAt (E75 L N) (evCallI (E75 L N) 0 1000) 1000 75 68 0 (codeOf Tryz.f75) (finK (E75 L N) 1000 Tryz.f75 (finC (.one .bool) κ))) .ret (f75.T0_r z21) (f75.H0_r z21)
  =f75.p0_r L N (fun a0=>κ (.tv .bool a0)) z21:=by kernel_rfl
theorem f75.b_eq {R:Type} (L N:Nat) (κ:AV->Option R) (x0:Graph):
  evBody (E75 L N) (evCallI (E75 L N) 0 1000) 1000 75 Tryz.f75 [(.tv (.st 2) x0)] [] [] (finC (.one .bool) κ)
  =f75.b L N (fun a0=>κ (.tv .bool a0)) x0:=by
 refine Eq.trans (b:=f75.b' L N (fun a0=>κ (.tv .bool a0)) (fun s1 s2=>evLp (E75 L N) (evCallI (E75 L N) 0 1000) 1000 75 68 0 f75.c0 (contAt (E75 L N) (evCallI (E75 L N) 0 1000) 1000 75 68 0 (codeOf Tryz.f75) (finK (E75 L N) 1000 Tryz.f75 (finC (.one .bool) κ))) L (f75.T0 s1 s2) (f75.H0 s1 s2)) x0) (by kernel_rfl) ?_
 unfold f75.b
 simp only [f75.l0_eq]
 delta f75.X0_e0 f75.X0_r
 simp only [f75.p0_e0_eq,f75.p0_r_eq]
theorem f75.ok (L N:Nat) (hΦ:TellsOk Tryz.prog ((Φ73 L N))):EntOk Tryz.prog 75 (f75.ent L N):=entRo_ok (E:=(E75 L N)) (dep:=1000) (f:=Tryz.f75) (sound_of hΦ) okP (callI_sound (sound_of hΦ) okP 0 1000) rfl rfl fun d _ hy=>(f75.b_eq L N (unR (.one .bool)) d.1).trans (Eq.trans (b:=f75.b L N some d.1) (by kernel_rfl) hy)
def Φ75 (L N:Nat):Tells:=(addT (Φ73 L N) 75 (f75.ent L N))
theorem Φ75_ok (L N:Nat):TellsOk Tryz.prog (Φ75 L N):=addT_ok (Φ73_ok L N) (f75.ok L N (Φ73_ok L N))
def f117.s0' {R:Type} (L N:Nat) (k0_e0:LLM->LLM->LLM->Option R) (rec0:Int->LLM->LLM->LLM->Option R) (s0:Int) (s1:LLM) (s2:LLM) (s3:LLM):Option R:=
 bif (decide (s0<(s1.length:Int))) then
  bif (decide (0≤s0)&&decide (s0<(s1.length:Int))) then
   bif (decide (([]:LM).length+(listAt s1 [] s0.toNat).length≤lim)) then
    bif (decide (s3.length+([(([]:LM)++(listAt s1 [] s0.toNat))]:LLM).length≤lim)) then
     rec0 (wi (s0+(1:Int))) s1 s2 (s3++([(([]:LM)++(listAt s1 [] s0.toNat))]:LLM))
    else none
   else none
  else none
 else k0_e0 s1 s2 s3
def f117.s0 {R:Type} (L N:Nat) (k0_e0:LLM->LLM->LLM->Option R) (rec0:Int->LLM->LLM->LLM->Option R) (s0:Int) (s1:LLM) (s2:LLM) (s3:LLM):Option R:=
 f117.s0' L N k0_e0 rec0 s0 s1 s2 s3
def f117.l0 {R:Type} (L N:Nat) (k0_e0:LLM->LLM->LLM->Option R):Nat->Int->LLM->LLM->LLM->Option R
 |0,_,_,_,_=>none
 |n+1,s0,s1,s2,s3=>f117.s0 L N k0_e0 (f117.l0 L N k0_e0 n) s0 s1 s2 s3
def f117.T0 (s0:Int) (s1:LLM) (s2:LLM) (s3:LLM):T:=mkT 83 [(2,(.ptr 1002 0)),(3,(.ptr 1003 0)),(4,(.ptr 1004 0)),(5,(.ptr 1005 0)),(6,(.tv i64 s0))]
def f117.H0 (s0:Int) (s1:LLM) (s2:LLM) (s3:LLM):H:=[(1002,(.box [(.tv (.sl (.sl (.st 0))) s1)])),(1003,(.box [(.tv (.sl (.sl (.st 0))) s2)])),(1004,(.box [.nil])),(1005,(.box [(.row 1900)])),(1900,(.row 61 (.sl (.st 0)) s3))]
def f117.T0_e0 (z4:LLM) (z5:LLM) (z6:LLM):T:=mkT 83 [(2,(.ptr 1002 0)),(3,(.ptr 1003 0)),(4,(.ptr 1004 0)),(5,(.ptr 1005 0))]
def f117.H0_e0 (z4:LLM) (z5:LLM) (z6:LLM):H:=[(1002,(.box [(.tv (.sl (.sl (.st 0))) z4)])),(1003,(.box [(.tv (.sl (.sl (.st 0))) z5)])),(1004,(.box [.nil])),(1005,(.box [(.row 1900)])),(1900,(.row 61 (.sl (.st 0)) z6))]
def f117.s2' {R:Type} (L N:Nat) (k2_e4:Int->Int->LLM->LM->LLM->Option R) (rec2:Int->Int->Int->LLM->LM->LLM->Option R) (s12:Int) (s13:Int) (s14:Int) (s15:LLM) (s16:LM) (s17:LLM):Option R:=
 bif (decide (0≤s13)&&decide (s13<(s15.length:Int))) then
  bif (decide (s14<((listAt s15 [] s13.toNat).length:Int))) then
   bif (decide (0≤s13)&&decide (s13<(s15.length:Int))) then
    bif (decide (0≤s14)&&decide (s14<((listAt s15 [] s13.toNat).length:Int))) then
     bif (decide (0≤s13)&&decide (s13<(s15.length:Int))) then
      bif (decide (0≤s14)&&decide (s14<((listAt s15 [] s13.toNat).length:Int))) then
       bif (decide (s16.length+([(Move.mk ((listAt (listAt s15 [] s13.toNat) (Ty.dflt (.st 0)) s14.toNat).act) (wi ((listAt (listAt s15 [] s13.toNat) (Ty.dflt (.st 0)) s14.toNat).to+s12)))]:LM).length≤lim)) then
        rec2 s12 s13 (wi (s14+(1:Int))) s15 (s16++([(Move.mk ((listAt (listAt s15 [] s13.toNat) (Ty.dflt (.st 0)) s14.toNat).act) (wi ((listAt (listAt s15 [] s13.toNat) (Ty.dflt (.st 0)) s14.toNat).to+s12)))]:LM)) s17
       else none
      else none
     else none
    else none
   else none
  else k2_e4 s12 s13 s15 s16 s17
 else none
def f117.s2 {R:Type} (L N:Nat) (k2_e4:Int->Int->LLM->LM->LLM->Option R) (rec2:Int->Int->Int->LLM->LM->LLM->Option R) (s12:Int) (s13:Int) (s14:Int) (s15:LLM) (s16:LM) (s17:LLM):Option R:=
 f117.s2' L N k2_e4 rec2 s12 s13 s14 s15 s16 s17
def f117.l2 {R:Type} (L N:Nat) (k2_e4:Int->Int->LLM->LM->LLM->Option R):Nat->Int->Int->Int->LLM->LM->LLM->Option R
 |0,_,_,_,_,_,_=>none
 |n+1,s12,s13,s14,s15,s16,s17=>f117.s2 L N k2_e4 (f117.l2 L N k2_e4 n) s12 s13 s14 s15 s16 s17
def f117.T2 (s12:Int) (s13:Int) (s14:Int) (s15:LLM) (s16:LM) (s17:LLM):T:=mkT 83 [(3,(.ptr 1003 0)),(4,(.ptr 1004 0)),(5,(.ptr 1005 0)),(7,(.tv i64 s12)),(8,(.tv i64 s13)),(9,(.row 1041)),(10,(.tv i64 s14))]
def f117.H2 (s12:Int) (s13:Int) (s14:Int) (s15:LLM) (s16:LM) (s17:LLM):H:=[(1003,(.box [(.tv (.sl (.sl (.st 0))) s15)])),(1004,(.box [.nil])),(1005,(.box [(.row 1900)])),(1041,(.row 63 (.st 0) s16)),(1900,(.row 61 (.sl (.st 0)) s17))]
def f117.T2_e4 (z18:Int) (z19:Int) (z20:LLM) (z21:LM) (z22:LLM):T:=mkT 83 [(3,(.ptr 1003 0)),(4,(.ptr 1004 0)),(5,(.ptr 1005 0)),(7,(.tv i64 z18)),(8,(.tv i64 z19)),(9,(.row 1041))]
def f117.H2_e4 (z18:Int) (z19:Int) (z20:LLM) (z21:LM) (z22:LLM):H:=[(1003,(.box [(.tv (.sl (.sl (.st 0))) z20)])),(1004,(.box [.nil])),(1005,(.box [(.row 1900)])),(1041,(.row 63 (.st 0) z21)),(1900,(.row 61 (.sl (.st 0)) z22))]
def f117.p2_e4' {R:Type} (L N:Nat) (k1_e2:LLM->Option R) (rec1:Int->Int->LLM->LLM->Option R) (z18:Int) (z19:Int) (z20:LLM) (z21:LM) (z22:LLM):Option R:=
 bif (decide (z22.length+([z21]:LLM).length≤lim)) then
  rec1 z18 (wi (z19+(1:Int))) z20 (z22++([z21]:LLM))
 else none
def f117.p2_e4 {R:Type} (L N:Nat) (k1_e2:LLM->Option R) (rec1:Int->Int->LLM->LLM->Option R) (z18:Int) (z19:Int) (z20:LLM) (z21:LM) (z22:LLM):Option R:=
 f117.p2_e4' L N k1_e2 rec1 z18 z19 z20 z21 z22
def f117.s1' {R:Type} (L N:Nat) (k1_e2:LLM->Option R) (rec1:Int->Int->LLM->LLM->Option R) (w2:Int->Int->Int->LLM->LM->LLM->Option R) (s7:Int) (s8:Int) (s9:LLM) (s10:LLM):Option R:=
 bif (decide (s8<(s9.length:Int))) then
  w2 s7 s8 (0:Int) s9 ([]:LM) s10
 else k1_e2 s10
def f117.s1 {R:Type} (L N:Nat) (k1_e2:LLM->Option R) (rec1:Int->Int->LLM->LLM->Option R) (s7:Int) (s8:Int) (s9:LLM) (s10:LLM):Option R:=
 f117.s1' L N k1_e2 rec1 (fun s12 s13 s14 s15 s16 s17=>f117.l2 L N (fun z18 z19 z20 z21 z22=>f117.p2_e4 L N k1_e2 rec1 z18 z19 z20 z21 z22) L s12 s13 s14 s15 s16 s17) s7 s8 s9 s10
def f117.l1 {R:Type} (L N:Nat) (k1_e2:LLM->Option R):Nat->Int->Int->LLM->LLM->Option R
 |0,_,_,_,_=>none
 |n+1,s7,s8,s9,s10=>f117.s1 L N k1_e2 (f117.l1 L N k1_e2 n) s7 s8 s9 s10
def f117.T1 (s7:Int) (s8:Int) (s9:LLM) (s10:LLM):T:=mkT 83 [(3,(.ptr 1003 0)),(4,(.ptr 1004 0)),(5,(.ptr 1005 0)),(7,(.tv i64 s7)),(8,(.tv i64 s8))]
def f117.H1 (s7:Int) (s8:Int) (s9:LLM) (s10:LLM):H:=[(1003,(.box [(.tv (.sl (.sl (.st 0))) s9)])),(1004,(.box [.nil])),(1005,(.box [(.row 1900)])),(1900,(.row 61 (.sl (.st 0)) s10))]
def f117.T1_e2 (z11:LLM):T:=mkT 83 [(4,(.ptr 1004 0)),(5,(.ptr 1005 0))]
def f117.H1_e2 (z11:LLM):H:=[(1004,(.box [.nil])),(1005,(.box [(.row 1900)])),(1900,(.row 61 (.sl (.st 0)) z11))]
def f117.p1_e2' {R:Type} (L N:Nat) (k:Graph->Option R) (z11:LLM):Option R:=
 k (Graph.mk z11)
def f117.p1_e2 {R:Type} (L N:Nat) (k:Graph->Option R) (z11:LLM):Option R:=
 f117.p1_e2' L N k z11
def f117.p0_e0' {R:Type} (L N:Nat) (k:Graph->Option R) (w1:Int->Int->LLM->LLM->Option R) (z4:LLM) (z5:LLM) (z6:LLM):Option R:=
 w1 (z4.length:Int) (0:Int) z5 z6
def f117.p0_e0 {R:Type} (L N:Nat) (k:Graph->Option R) (z4:LLM) (z5:LLM) (z6:LLM):Option R:=
 f117.p0_e0' L N k (fun s7 s8 s9 s10=>f117.l1 L N (fun z11=>f117.p1_e2 L N k z11) L s7 s8 s9 s10) z4 z5 z6
def f117.b' {R:Type} (L N:Nat) (k:Graph->Option R) (w0:Int->LLM->LLM->LLM->Option R) (x0:Graph) (x1:Graph):Option R:=
 w0 (0:Int) x0.moves x1.moves ([]:LLM)
def f117.b {R:Type} (L N:Nat) (k:Graph->Option R) (x0:Graph) (x1:Graph):Option R:=
 f117.b' L N k (fun s0 s1 s2 s3=>f117.l0 L N (fun z4 z5 z6=>f117.p0_e0 L N k z4 z5 z6) L s0 s1 s2 s3) x0 x1
def f117 (L N:Nat) (x0:Graph) (x1:Graph):Option (Graph):=f117.b L N some x0 x1
def f117.ent (L N:Nat):=entDa [(.st 2),(.st 2)] (.one (.st 2)) fun d=>f117 L N d.1 d.2.1
noncomputable def E117 (L N:Nat):Env:={P:=Tryz.prog,ty:=tyOf,Φ:=(Φ75 L N),inl:=inlT,live:=lives,liveX:=livesX,L:=L,dp:=none,prom:=promT,heal:=healT,ren:=renT,fresh:=fun s=>Nat.beq s 1027}
noncomputable def f117.c0:Code:=loopAt 0 (codeOf Tryz.f117)
def f117.X0_e0 {R:Type} (κ:KX R):=fun z4 z5 z6=>κ (.exit 0) (f117.T0_e0 z4 z5 z6) (f117.H0_e0 z4 z5 z6)
def f117.R0 {R:Type} (rec:KT R):=fun s0 s1 s2 s3=>rec (f117.T0 s0 s1 s2 s3) (f117.H0 s0 s1 s2 s3)
theorem f117.s0_eq {R:Type} (L N:Nat) (κ:KX R) (rec:KT R) (s0:Int) (s1:LLM) (s2:LLM) (s3:LLM):
  evRd (E117 L N) (evCallI (E117 L N) 0 1000) 1000 117 83 0 f117.c0 κ rec (f117.T0 s0 s1 s2 s3) (f117.H0 s0 s1 s2 s3)
  =f117.s0 L N (f117.X0_e0 κ) (f117.R0 rec) s0 s1 s2 s3:=by kernel_rfl
theorem f117.l0_eq {R:Type} (L N:Nat) (κ:KX R):∀(n:Nat) (s0:Int) (s1:LLM) (s2:LLM) (s3:LLM),
  evLp (E117 L N) (evCallI (E117 L N) 0 1000) 1000 117 83 0 f117.c0 κ n (f117.T0 s0 s1 s2 s3) (f117.H0 s0 s1 s2 s3)
  =f117.l0 L N (f117.X0_e0 κ) n s0 s1 s2 s3:=by
 intro n
 induction n with
 |zero=>intros;rfl
 |succ n ih=>
  intro s0 s1 s2 s3
  rw [evLp_succ,f117.s0_eq]
  delta f117.R0
  simp only [ih]
  rfl
noncomputable def f117.c1:Code:=loopAt 2 (codeOf Tryz.f117)
noncomputable def f117.c2:Code:=loopAt 4 f117.c1
def f117.X2_e4 {R:Type} (κ:KX R):=fun z18 z19 z20 z21 z22=>κ (.exit 4) (f117.T2_e4 z18 z19 z20 z21 z22) (f117.H2_e4 z18 z19 z20 z21 z22)
def f117.R2 {R:Type} (rec:KT R):=fun s12 s13 s14 s15 s16 s17=>rec (f117.T2 s12 s13 s14 s15 s16 s17) (f117.H2 s12 s13 s14 s15 s16 s17)
theorem f117.s2_eq {R:Type} (L N:Nat) (κ:KX R) (rec:KT R) (s12:Int) (s13:Int) (s14:Int) (s15:LLM) (s16:LM) (s17:LLM):
  evRd (E117 L N) (evCallI (E117 L N) 0 1000) 1000 117 83 4 f117.c2 κ rec (f117.T2 s12 s13 s14 s15 s16 s17) (f117.H2 s12 s13 s14 s15 s16 s17)
  =f117.s2 L N (f117.X2_e4 κ) (f117.R2 rec) s12 s13 s14 s15 s16 s17:=by kernel_rfl
theorem f117.l2_eq {R:Type} (L N:Nat) (κ:KX R):∀(n:Nat) (s12:Int) (s13:Int) (s14:Int) (s15:LLM) (s16:LM) (s17:LLM),
  evLp (E117 L N) (evCallI (E117 L N) 0 1000) 1000 117 83 4 f117.c2 κ n (f117.T2 s12 s13 s14 s15 s16 s17) (f117.H2 s12 s13 s14 s15 s16 s17)
  =f117.l2 L N (f117.X2_e4 κ) n s12 s13 s14 s15 s16 s17:=by
 intro n
 induction n with
 |zero=>intros;rfl
 |succ n ih=>
  intro s12 s13 s14 s15 s16 s17
  rw [evLp_succ,f117.s2_eq]
  delta f117.R2
  simp only [ih]
  rfl
def f117.X1_e2 {R:Type} (κ:KX R):=fun z11=>κ (.exit 2) (f117.T1_e2 z11) (f117.H1_e2 z11)
def f117.R1 {R:Type} (rec:KT R):=fun s7 s8 s9 s10=>rec (f117.T1 s7 s8 s9 s10) (f117.H1 s7 s8 s9 s10)
theorem f117.p2_e4_eq {R:Type} (L N:Nat) (κ:KX R) (rec:KT R) (z18:Int) (z19:Int) (z20:LLM) (z21:LM) (z22:LLM):
  (contAt (E117 L N) (evCallI (E117 L N) 0 1000) 1000 117 83 4 f117.c1 (rdK (E117 L N) 1000 117 83 2 κ rec)) (.exit 4) (f117.T2_e4 z18 z19 z20 z21 z22) (f117.H2_e4 z18 z19 z20 z21 z22)
  =f117.p2_e4 L N (f117.X1_e2 κ) (f117.R1 rec) z18 z19 z20 z21 z22:=by kernel_rfl
theorem f117.s1_eq {R:Type} (L N:Nat) (κ:KX R) (rec:KT R) (s7:Int) (s8:Int) (s9:LLM) (s10:LLM):
  evRd (E117 L N) (evCallI (E117 L N) 0 1000) 1000 117 83 2 f117.c1 κ rec (f117.T1 s7 s8 s9 s10) (f117.H1 s7 s8 s9 s10)
  =f117.s1 L N (f117.X1_e2 κ) (f117.R1 rec) s7 s8 s9 s10:=by
 refine Eq.trans (b:=f117.s1' L N (f117.X1_e2 κ) (f117.R1 rec) (fun s12 s13 s14 s15 s16 s17=>evLp (E117 L N) (evCallI (E117 L N) 0 1000) 1000 117 83 4 f117.c2 (contAt (E117 L N) (evCallI (E117 L N) 0 1000) 1000 117 83 4 f117.c1 (rdK (E117 L N) 1000 117 83 2 κ rec)) L (f117.T2 s12 s13 s14 s15 s16 s17) (f117.H2 s12 s13 s14 s15 s16 s17)) s7 s8 s9 s10) (by kernel_rfl) ?_
 unfold f117.s1
 simp only [f117.l2_eq]
 delta f117.X2_e4
 simp only [f117.p2_e4_eq]
theorem f117.l1_eq {R:Type} (L N:Nat) (κ:KX R):∀(n:Nat) (s7:Int) (s8:Int) (s9:LLM) (s10:LLM),
  evLp (E117 L N) (evCallI (E117 L N) 0 1000) 1000 117 83 2 f117.c1 κ n (f117.T1 s7 s8 s9 s10) (f117.H1 s7 s8 s9 s10)
  =f117.l1 L N (f117.X1_e2 κ) n s7 s8 s9 s10:=by
 intro n
 induction n with
 |zero=>intros;rfl
 |succ n ih=>
  intro s7 s8 s9 s10
  rw [evLp_succ,f117.s1_eq]
  delta f117.R1
  simp only [ih]
  rfl
theorem f117.p1_e2_eq {R:Type} (L N:Nat) (κ:AV->Option R) (z11:LLM):
  (contAt (E117 L N) (evCallI (E117 L N) 0 1000) 1000 117 83 2 (codeOf Tryz.f117) (finK (E117 L N) 1000 Tryz.f117 (finC (.one (.st 2)) κ))) (.exit 2) (f117.T1_e2 z11) (f117.H1_e2 z11)
  =f117.p1_e2 L N (fun a0=>κ (.tv (.st 2) a0)) z11:=by kernel_rfl
theorem f117.p0_e0_eq {R:Type} (L N:Nat) (κ:AV->Option R) (z4:LLM) (z5:LLM) (z6:LLM):
  (contAt (E117 L N) (evCallI (E117 L N) 0 1000) 1000 117 83 0 (codeOf Tryz.f117) (finK (E117 L N) 1000 Tryz.f117 (finC (.one (.st 2)) κ))) (.exit 0) (f117.T0_e0 z4 z5 z6) (f117.H0_e0 z4 z5 z6)
  =f117.p0_e0 L N (fun a0=>κ (.tv (.st 2) a0)) z4 z5 z6:=by
 refine Eq.trans (b:=f117.p0_e0' L N (fun a0=>κ (.tv (.st 2) a0)) (fun s7 s8 s9 s10=>evLp (E117 L N) (evCallI (E117 L N) 0 1000) 1000 117 83 2 f117.c1 (contAt (E117 L N) (evCallI (E117 L N) 0 1000) 1000 117 83 2 (codeOf Tryz.f117) (finK (E117 L N) 1000 Tryz.f117 (finC (.one (.st 2)) κ))) L (f117.T1 s7 s8 s9 s10) (f117.H1 s7 s8 s9 s10)) z4 z5 z6) (by kernel_rfl) ?_
 unfold f117.p0_e0
 simp only [f117.l1_eq]
 delta f117.X1_e2
 simp only [f117.p1_e2_eq]
theorem f117.b_eq {R:Type} (L N:Nat) (κ:AV->Option R) (x0:Graph) (x1:Graph):
  evBody (E117 L N) (evCallI (E117 L N) 0 1000) 1000 117 Tryz.f117 [(.tv (.st 2) x0),(.tv (.st 2) x1)] [] [] (finC (.one (.st 2)) κ)
  =f117.b L N (fun a0=>κ (.tv (.st 2) a0)) x0 x1:=by
 refine Eq.trans (b:=f117.b' L N (fun a0=>κ (.tv (.st 2) a0)) (fun s0 s1 s2 s3=>evLp (E117 L N) (evCallI (E117 L N) 0 1000) 1000 117 83 0 f117.c0 (contAt (E117 L N) (evCallI (E117 L N) 0 1000) 1000 117 83 0 (codeOf Tryz.f117) (finK (E117 L N) 1000 Tryz.f117 (finC (.one (.st 2)) κ))) L (f117.T0 s0 s1 s2 s3) (f117.H0 s0 s1 s2 s3)) x0 x1) (by kernel_rfl) ?_
 unfold f117.b
 simp only [f117.l0_eq]
 delta f117.X0_e0
 simp only [f117.p0_e0_eq]
theorem f117.ok (L N:Nat) (hΦ:TellsOk Tryz.prog ((Φ75 L N))):EntOk Tryz.prog 117 (f117.ent L N):=entDa_ok (E:=(E117 L N)) (dep:=1000) (f:=Tryz.f117) (sound_of hΦ) okP (callI_sound (sound_of hΦ) okP 0 1000) rfl fun d _ hy=>(f117.b_eq L N (unR (.one (.st 2))) d.1 d.2.1).trans (Eq.trans (b:=f117.b L N some d.1 d.2.1) (by kernel_rfl) hy)
def Φ117 (L N:Nat):Tells:=(addT (Φ75 L N) 117 (f117.ent L N))
theorem Φ117_ok (L N:Nat):TellsOk Tryz.prog (Φ117 L N):=addT_ok (Φ75_ok L N) (f117.ok L N (Φ75_ok L N))
def f74.b' {R:Type} (L N:Nat) (k:Graph->Bool->Option R) (x0:Graph) (x1:Graph):Option R:=
 (f75 L N (Graph.mk x0.moves)).bind fun y0=>
 bif (!y0) then
  k (Graph.mk []) false
 else (f75 L N (Graph.mk x1.moves)).bind fun y1=>
 bif (!y1) then
  k (Graph.mk []) false
 else bif (decide ((wi ((x0.moves.length:Int)+(x1.moves.length:Int)))>(60:Int))) then
  k (Graph.mk []) false
 else (f117 L N (Graph.mk x0.moves) (Graph.mk x1.moves)).bind fun y9=>
 k (Graph.mk y9.moves) true
def f74.b {R:Type} (L N:Nat) (k:Graph->Bool->Option R) (x0:Graph) (x1:Graph):Option R:=
 f74.b' L N k x0 x1
def f74 (L N:Nat) (x0:Graph) (x1:Graph):Option (Graph×Bool):=f74.b L N (fun a0 a1=>some (a0,a1)) x0 x1
def f74.ent (L N:Nat):=entDa [(.st 2),(.st 2)] (.many [(.st 2),.bool]) fun d=>f74 L N d.1 d.2.1
noncomputable def E74 (L N:Nat):Env:={P:=Tryz.prog,ty:=tyOf,Φ:=(Φ117 L N),inl:=inlT,live:=lives,liveX:=livesX,L:=L,dp:=none,prom:=promT,heal:=healT,ren:=renT}
theorem f74.b_eq {R:Type} (L N:Nat) (κ:AV->Option R) (x0:Graph) (x1:Graph):
  evBody (E74 L N) (evCallI (E74 L N) 0 1000) 1000 74 Tryz.f74 [(.tv (.st 2) x0),(.tv (.st 2) x1)] [] [] (finC (.many [(.st 2),.bool]) κ)
  =f74.b L N (fun a0 a1=>κ (.tup [(.tv (.st 2) a0),(.tv .bool a1)])) x0 x1:=by kernel_rfl
theorem f74.ok (L N:Nat) (hΦ:TellsOk Tryz.prog ((Φ117 L N))):EntOk Tryz.prog 74 (f74.ent L N):=entDa_ok (E:=(E74 L N)) (dep:=1000) (f:=Tryz.f74) (sound_of hΦ) okP (callI_sound (sound_of hΦ) okP 0 1000) rfl fun d _ hy=>(f74.b_eq L N (unR (.many [(.st 2),.bool])) d.1 d.2.1).trans (Eq.trans (b:=f74.b L N (fun a0 a1=>some (a0,a1)) d.1 d.2.1) (by kernel_rfl) hy)
def Φ74 (L N:Nat):Tells:=(addT (Φ117 L N) 74 (f74.ent L N))
theorem Φ74_ok (L N:Nat):TellsOk Tryz.prog (Φ74 L N):=addT_ok (Φ117_ok L N) (f74.ok L N (Φ117_ok L N))
def f43.b' {R:Type} (L N:Nat) (k:Graph->Int->Bool->Option R) (x0:Tree) (x1:Tree) (x2:LT):Option R:=
 (f73 L N (Tree.mk x0.op x0.n x0.parts) x2).bind fun y0=>
 (f73 L N (Tree.mk x1.op x1.n x1.parts) x2).bind fun y1=>
 bif (!y0.2) then
  k (Graph.mk []) (0:Int) false
 else bif (!y1.2) then
  k (Graph.mk []) (0:Int) false
 else (f74 L N (Graph.mk y0.1.moves) (Graph.mk y1.1.moves)).bind fun y9=>
 k (Graph.mk ((Graph.mk y9.1.moves).moves)) (y0.1.moves.length:Int) y9.2
def f43.b {R:Type} (L N:Nat) (k:Graph->Int->Bool->Option R) (x0:Tree) (x1:Tree) (x2:LT):Option R:=
 f43.b' L N k x0 x1 x2
def f43 (L N:Nat) (x0:Tree) (x1:Tree) (x2:LT):Option (Graph×Int×Bool):=f43.b L N (fun a0 a1 a2=>some (a0,a1,a2)) x0 x1 x2
def f43.ent (L N:Nat):=entDa [(.st 1),(.st 1),(.sl (.st 1))] (.many [(.st 2),i64,.bool]) fun d=>f43 L N d.1 d.2.1 d.2.2.1
noncomputable def E43 (L N:Nat):Env:={P:=Tryz.prog,ty:=tyOf,Φ:=(Φ74 L N),inl:=inlT,live:=lives,liveX:=livesX,L:=L,dp:=none,prom:=promT,heal:=healT,ren:=renT}
theorem f43.b_eq {R:Type} (L N:Nat) (κ:AV->Option R) (x0:Tree) (x1:Tree) (x2:LT):
  evBody (E43 L N) (evCallI (E43 L N) 0 1000) 1000 43 Tryz.f43 [(.tv (.st 1) x0),(.tv (.st 1) x1),(.tv (.sl (.st 1)) x2)] [] [] (finC (.many [(.st 2),i64,.bool]) κ)
  =f43.b L N (fun a0 a1 a2=>κ (.tup [(.tv (.st 2) a0),(.tv i64 a1),(.tv .bool a2)])) x0 x1 x2:=by kernel_rfl
theorem f43.ok (L N:Nat) (hΦ:TellsOk Tryz.prog ((Φ74 L N))):EntOk Tryz.prog 43 (f43.ent L N):=entDa_ok (E:=(E43 L N)) (dep:=1000) (f:=Tryz.f43) (sound_of hΦ) okP (callI_sound (sound_of hΦ) okP 0 1000) rfl fun d _ hy=>(f43.b_eq L N (unR (.many [(.st 2),i64,.bool])) d.1 d.2.1 d.2.2.1).trans (Eq.trans (b:=f43.b L N (fun a0 a1 a2=>some (a0,a1,a2)) d.1 d.2.1 d.2.2.1) (by kernel_rfl) hy)
def Φ43 (L N:Nat):Tells:=(addT (Φ74 L N) 43 (f43.ent L N))
theorem Φ43_ok (L N:Nat):TellsOk Tryz.prog (Φ43 L N):=addT_ok (Φ74_ok L N) (f43.ok L N (Φ74_ok L N))
def f77.j0' {R:Type} (L N:Nat) (k2_e4:Int->Int->LLM->LLB->LB->LI->Option R) (rec2:Int->Int->LM->Int->LLM->LLB->LB->LI->Option R) (v28:Int) (v29:Int) (v30:LM) (v31:Int) (v32:Bool) (v33:LLM) (v34:LLB) (v35:LB) (v36:LI):Option R:=
 bif v32 then
  bif (decide (0≤v31)&&decide (v31<(v30.length:Int))) then
   bif (decide (0≤(listAt v30 (Ty.dflt (.st 0)) v31.toNat).to)&&decide ((listAt v30 (Ty.dflt (.st 0)) v31.toNat).to<(v35.length:Int))) then
    bif (decide (0≤v31)&&decide (v31<(v30.length:Int))) then
     bif (decide (v36.length+([(listAt v30 (Ty.dflt (.st 0)) v31.toNat).to]:LI).length≤lim)) then
      rec2 v28 v29 v30 (wi (v31+(1:Int))) v33 v34 (v35.set (((listAt v30 (Ty.dflt (.st 0)) v31.toNat).to).toNat) true) (v36++([(listAt v30 (Ty.dflt (.st 0)) v31.toNat).to]:LI))
     else none
    else none
   else none
  else none
 else rec2 v28 v29 v30 (wi (v31+(1:Int))) v33 v34 v35 v36
def f77.s2' {R:Type} (L N:Nat) (k2_e4:Int->Int->LLM->LLB->LB->LI->Option R) (rec2:Int->Int->LM->Int->LLM->LLB->LB->LI->Option R) (s14:Int) (s15:Int) (s16:LM) (s17:Int) (s18:LLM) (s19:LLB) (s20:LB) (s21:LI):Option R:=
 bif (decide (s17<(s16.length:Int))) then
  bif (decide (0≤s17)&&decide (s17<(s16.length:Int))) then
   bif ((listAt s16 (Ty.dflt (.st 0)) s17.toNat).act==(0:Int)) then
    bif (decide (0≤s17)&&decide (s17<(s16.length:Int))) then
     bif (decide (0≤(listAt s16 (Ty.dflt (.st 0)) s17.toNat).to)&&decide ((listAt s16 (Ty.dflt (.st 0)) s17.toNat).to<(s20.length:Int))) then
      f77.j0' L N k2_e4 rec2 s14 s15 s16 s17 (!(listAt s20 false ((listAt s16 (Ty.dflt (.st 0)) s17.toNat).to).toNat)) s18 s19 s20 s21
     else none
    else none
   else f77.j0' L N k2_e4 rec2 s14 s15 s16 s17 false s18 s19 s20 s21
  else none
 else k2_e4 s14 s15 s18 s19 s20 s21
def f77.s2 {R:Type} (L N:Nat) (k2_e4:Int->Int->LLM->LLB->LB->LI->Option R) (rec2:Int->Int->LM->Int->LLM->LLB->LB->LI->Option R) (s14:Int) (s15:Int) (s16:LM) (s17:Int) (s18:LLM) (s19:LLB) (s20:LB) (s21:LI):Option R:=
 f77.s2' L N k2_e4 rec2 s14 s15 s16 s17 s18 s19 s20 s21
def f77.l2 {R:Type} (L N:Nat) (k2_e4:Int->Int->LLM->LLB->LB->LI->Option R):Nat->Int->Int->LM->Int->LLM->LLB->LB->LI->Option R
 |0,_,_,_,_,_,_,_,_=>none
 |n+1,s14,s15,s16,s17,s18,s19,s20,s21=>f77.s2 L N k2_e4 (f77.l2 L N k2_e4 n) s14 s15 s16 s17 s18 s19 s20 s21
def f77.T2 (s14:Int) (s15:Int) (s16:LM) (s17:Int) (s18:LLM) (s19:LLB) (s20:LB) (s21:LI):T:=mkT 84 [(1,(.ptr 1001 0)),(3,(.row 1010)),(4,(.tv i64 s14)),(5,(.row 1021)),(6,(.row 1026)),(7,(.tv i64 s15)),(8,(.tv (.sl (.st 0)) s16)),(9,(.tv i64 s17))]
def f77.H2 (s14:Int) (s15:Int) (s16:LM) (s17:Int) (s18:LLM) (s19:LLB) (s20:LB) (s21:LI):H:=[(1001,(.box [(.tv (.sl (.sl (.st 0))) s18)])),(1010,(.row 94 (.sl .bool) s19)),(1021,(.row 4 .bool s20)),(1026,(.row 3 i64 s21))]
def f77.T2_e4 (z22:Int) (z23:Int) (z24:LLM) (z25:LLB) (z26:LB) (z27:LI):T:=mkT 84 [(1,(.ptr 1001 0)),(3,(.row 1010)),(4,(.tv i64 z22)),(5,(.row 1021)),(6,(.row 1026)),(7,(.tv i64 z23))]
def f77.H2_e4 (z22:Int) (z23:Int) (z24:LLM) (z25:LLB) (z26:LB) (z27:LI):H:=[(1001,(.box [(.tv (.sl (.sl (.st 0))) z24)])),(1010,(.row 94 (.sl .bool) z25)),(1021,(.row 4 .bool z26)),(1026,(.row 3 i64 z27))]
def f77.p2_e4' {R:Type} (L N:Nat) (k1_e2:Int->LLM->LLB->LB->Option R) (rec1:Int->Int->LLM->LLB->LB->LI->Option R) (z22:Int) (z23:Int) (z24:LLM) (z25:LLB) (z26:LB) (z27:LI):Option R:=
 rec1 z22 (wi (z23+(1:Int))) z24 z25 z26 z27
def f77.p2_e4 {R:Type} (L N:Nat) (k1_e2:Int->LLM->LLB->LB->Option R) (rec1:Int->Int->LLM->LLB->LB->LI->Option R) (z22:Int) (z23:Int) (z24:LLM) (z25:LLB) (z26:LB) (z27:LI):Option R:=
 f77.p2_e4' L N k1_e2 rec1 z22 z23 z24 z25 z26 z27
def f77.s1' {R:Type} (L N:Nat) (k1_e2:Int->LLM->LLB->LB->Option R) (rec1:Int->Int->LLM->LLB->LB->LI->Option R) (w2:Int->Int->LM->Int->LLM->LLB->LB->LI->Option R) (s4:Int) (s5:Int) (s6:LLM) (s7:LLB) (s8:LB) (s9:LI):Option R:=
 bif (decide (s5<(s9.length:Int))) then
  bif (decide (0≤s5)&&decide (s5<(s9.length:Int))) then
   bif (decide (0≤(listAt s9 (0:Int) s5.toNat))&&decide ((listAt s9 (0:Int) s5.toNat)<(s6.length:Int))) then
    w2 s4 s5 (listAt s6 [] (listAt s9 (0:Int) s5.toNat).toNat) (0:Int) s6 s7 s8 s9
   else none
  else none
 else k1_e2 s4 s6 s7 s8
def f77.s1 {R:Type} (L N:Nat) (k1_e2:Int->LLM->LLB->LB->Option R) (rec1:Int->Int->LLM->LLB->LB->LI->Option R) (s4:Int) (s5:Int) (s6:LLM) (s7:LLB) (s8:LB) (s9:LI):Option R:=
 f77.s1' L N k1_e2 rec1 (fun s14 s15 s16 s17 s18 s19 s20 s21=>f77.l2 L N (fun z22 z23 z24 z25 z26 z27=>f77.p2_e4 L N k1_e2 rec1 z22 z23 z24 z25 z26 z27) L s14 s15 s16 s17 s18 s19 s20 s21) s4 s5 s6 s7 s8 s9
def f77.l1 {R:Type} (L N:Nat) (k1_e2:Int->LLM->LLB->LB->Option R):Nat->Int->Int->LLM->LLB->LB->LI->Option R
 |0,_,_,_,_,_,_=>none
 |n+1,s4,s5,s6,s7,s8,s9=>f77.s1 L N k1_e2 (f77.l1 L N k1_e2 n) s4 s5 s6 s7 s8 s9
def f77.T1 (s4:Int) (s5:Int) (s6:LLM) (s7:LLB) (s8:LB) (s9:LI):T:=mkT 84 [(1,(.ptr 1001 0)),(3,(.row 1010)),(4,(.tv i64 s4)),(5,(.row 1021)),(6,(.row 1026)),(7,(.tv i64 s5))]
def f77.H1 (s4:Int) (s5:Int) (s6:LLM) (s7:LLB) (s8:LB) (s9:LI):H:=[(1001,(.box [(.tv (.sl (.sl (.st 0))) s6)])),(1010,(.row 94 (.sl .bool) s7)),(1021,(.row 4 .bool s8)),(1026,(.row 3 i64 s9))]
def f77.T1_e2 (z10:Int) (z11:LLM) (z12:LLB) (z13:LB):T:=mkT 84 [(1,(.ptr 1001 0)),(3,(.row 1010)),(4,(.tv i64 z10)),(5,(.row 1021))]
def f77.H1_e2 (z10:Int) (z11:LLM) (z12:LLB) (z13:LB):H:=[(1001,(.box [(.tv (.sl (.sl (.st 0))) z11)])),(1010,(.row 94 (.sl .bool) z12)),(1021,(.row 4 .bool z13))]
def f77.p1_e2' {R:Type} (L N:Nat) (k0_e0:LLB->Option R) (rec0:Int->LLM->LLB->Option R) (z10:Int) (z11:LLM) (z12:LLB) (z13:LB):Option R:=
 bif (decide (z12.length+([z13]:LLB).length≤lim)) then
  rec0 (wi (z10+(1:Int))) z11 (z12++([z13]:LLB))
 else none
def f77.p1_e2 {R:Type} (L N:Nat) (k0_e0:LLB->Option R) (rec0:Int->LLM->LLB->Option R) (z10:Int) (z11:LLM) (z12:LLB) (z13:LB):Option R:=
 f77.p1_e2' L N k0_e0 rec0 z10 z11 z12 z13
def f77.s0' {R:Type} (L N:Nat) (k0_e0:LLB->Option R) (rec0:Int->LLM->LLB->Option R) (w1:Int->Int->LLM->LLB->LB->LI->Option R) (s0:Int) (s1:LLM) (s2:LLB):Option R:=
 bif (decide (s0<(s1.length:Int))) then
  bif (decide (0≤(s1.length:Int))&&decide ((s1.length:Int)≤(lim:Int))) then
   bif (decide (0≤s0)&&decide (s0<((List.replicate (s1.length:Int).toNat false).length:Int))) then
    w1 s0 (0:Int) s1 s2 ((List.replicate (s1.length:Int).toNat false).set s0.toNat true) ([s0]:LI)
   else none
  else none
 else k0_e0 s2
def f77.s0 {R:Type} (L N:Nat) (k0_e0:LLB->Option R) (rec0:Int->LLM->LLB->Option R) (s0:Int) (s1:LLM) (s2:LLB):Option R:=
 f77.s0' L N k0_e0 rec0 (fun s4 s5 s6 s7 s8 s9=>f77.l1 L N (fun z10 z11 z12 z13=>f77.p1_e2 L N k0_e0 rec0 z10 z11 z12 z13) L s4 s5 s6 s7 s8 s9) s0 s1 s2
def f77.l0 {R:Type} (L N:Nat) (k0_e0:LLB->Option R):Nat->Int->LLM->LLB->Option R
 |0,_,_,_=>none
 |n+1,s0,s1,s2=>f77.s0 L N k0_e0 (f77.l0 L N k0_e0 n) s0 s1 s2
def f77.T0 (s0:Int) (s1:LLM) (s2:LLB):T:=mkT 84 [(1,(.ptr 1001 0)),(3,(.row 1010)),(4,(.tv i64 s0))]
def f77.H0 (s0:Int) (s1:LLM) (s2:LLB):H:=[(1001,(.box [(.tv (.sl (.sl (.st 0))) s1)])),(1010,(.row 94 (.sl .bool) s2))]
def f77.T0_e0 (z3:LLB):T:=mkT 84 [(3,(.row 1010))]
def f77.H0_e0 (z3:LLB):H:=[(1010,(.row 94 (.sl .bool) z3))]
def f77.p0_e0' {R:Type} (L N:Nat) (k:LLB->Option R) (z3:LLB):Option R:=
 k z3
def f77.p0_e0 {R:Type} (L N:Nat) (k:LLB->Option R) (z3:LLB):Option R:=
 f77.p0_e0' L N k z3
def f77.b' {R:Type} (L N:Nat) (k:LLB->Option R) (w0:Int->LLM->LLB->Option R) (x0:Graph):Option R:=
 w0 (0:Int) x0.moves ([]:LLB)
def f77.b {R:Type} (L N:Nat) (k:LLB->Option R) (x0:Graph):Option R:=
 f77.b' L N k (fun s0 s1 s2=>f77.l0 L N (fun z3=>f77.p0_e0 L N k z3) L s0 s1 s2) x0
def f77 (L N:Nat) (x0:Graph):Option (LLB):=f77.b L N some x0
def f77.ent (L N:Nat):=entDa [(.st 2)] (.one (.sl (.sl .bool))) fun d=>f77 L N d.1
noncomputable def E77 (L N:Nat):Env:={P:=Tryz.prog,ty:=tyOf,Φ:=(Φ43 L N),inl:=inlT,live:=lives,liveX:=livesX,L:=L,dp:=none,prom:=promT,heal:=healT,ren:=renT}
noncomputable def f77.c0:Code:=loopAt 0 (codeOf Tryz.f77)
noncomputable def f77.c1:Code:=loopAt 2 f77.c0
noncomputable def f77.c2:Code:=loopAt 4 f77.c1
def f77.X2_e4 {R:Type} (κ:KX R):=fun z22 z23 z24 z25 z26 z27=>κ (.exit 4) (f77.T2_e4 z22 z23 z24 z25 z26 z27) (f77.H2_e4 z22 z23 z24 z25 z26 z27)
def f77.R2 {R:Type} (rec:KT R):=fun s14 s15 s16 s17 s18 s19 s20 s21=>rec (f77.T2 s14 s15 s16 s17 s18 s19 s20 s21) (f77.H2 s14 s15 s16 s17 s18 s19 s20 s21)
theorem f77.s2_eq {R:Type} (L N:Nat) (κ:KX R) (rec:KT R) (s14:Int) (s15:Int) (s16:LM) (s17:Int) (s18:LLM) (s19:LLB) (s20:LB) (s21:LI):
  evRd (E77 L N) (evCallI (E77 L N) 0 1000) 1000 77 84 4 f77.c2 κ rec (f77.T2 s14 s15 s16 s17 s18 s19 s20 s21) (f77.H2 s14 s15 s16 s17 s18 s19 s20 s21)
  =f77.s2 L N (f77.X2_e4 κ) (f77.R2 rec) s14 s15 s16 s17 s18 s19 s20 s21:=by kernel_rfl
theorem f77.l2_eq {R:Type} (L N:Nat) (κ:KX R):∀(n:Nat) (s14:Int) (s15:Int) (s16:LM) (s17:Int) (s18:LLM) (s19:LLB) (s20:LB) (s21:LI),
  evLp (E77 L N) (evCallI (E77 L N) 0 1000) 1000 77 84 4 f77.c2 κ n (f77.T2 s14 s15 s16 s17 s18 s19 s20 s21) (f77.H2 s14 s15 s16 s17 s18 s19 s20 s21)
  =f77.l2 L N (f77.X2_e4 κ) n s14 s15 s16 s17 s18 s19 s20 s21:=by
 intro n
 induction n with
 |zero=>intros;rfl
 |succ n ih=>
  intro s14 s15 s16 s17 s18 s19 s20 s21
  rw [evLp_succ,f77.s2_eq]
  delta f77.R2
  simp only [ih]
  rfl
def f77.X1_e2 {R:Type} (κ:KX R):=fun z10 z11 z12 z13=>κ (.exit 2) (f77.T1_e2 z10 z11 z12 z13) (f77.H1_e2 z10 z11 z12 z13)
def f77.R1 {R:Type} (rec:KT R):=fun s4 s5 s6 s7 s8 s9=>rec (f77.T1 s4 s5 s6 s7 s8 s9) (f77.H1 s4 s5 s6 s7 s8 s9)
theorem f77.p2_e4_eq {R:Type} (L N:Nat) (κ:KX R) (rec:KT R) (z22:Int) (z23:Int) (z24:LLM) (z25:LLB) (z26:LB) (z27:LI):
  (contAt (E77 L N) (evCallI (E77 L N) 0 1000) 1000 77 84 4 f77.c1 (rdK (E77 L N) 1000 77 84 2 κ rec)) (.exit 4) (f77.T2_e4 z22 z23 z24 z25 z26 z27) (f77.H2_e4 z22 z23 z24 z25 z26 z27)
  =f77.p2_e4 L N (f77.X1_e2 κ) (f77.R1 rec) z22 z23 z24 z25 z26 z27:=by kernel_rfl
theorem f77.s1_eq {R:Type} (L N:Nat) (κ:KX R) (rec:KT R) (s4:Int) (s5:Int) (s6:LLM) (s7:LLB) (s8:LB) (s9:LI):
  evRd (E77 L N) (evCallI (E77 L N) 0 1000) 1000 77 84 2 f77.c1 κ rec (f77.T1 s4 s5 s6 s7 s8 s9) (f77.H1 s4 s5 s6 s7 s8 s9)
  =f77.s1 L N (f77.X1_e2 κ) (f77.R1 rec) s4 s5 s6 s7 s8 s9:=by
 refine Eq.trans (b:=f77.s1' L N (f77.X1_e2 κ) (f77.R1 rec) (fun s14 s15 s16 s17 s18 s19 s20 s21=>evLp (E77 L N) (evCallI (E77 L N) 0 1000) 1000 77 84 4 f77.c2 (contAt (E77 L N) (evCallI (E77 L N) 0 1000) 1000 77 84 4 f77.c1 (rdK (E77 L N) 1000 77 84 2 κ rec)) L (f77.T2 s14 s15 s16 s17 s18 s19 s20 s21) (f77.H2 s14 s15 s16 s17 s18 s19 s20 s21)) s4 s5 s6 s7 s8 s9) (by kernel_rfl) ?_
 unfold f77.s1
 simp only [f77.l2_eq]
 delta f77.X2_e4
 simp only [f77.p2_e4_eq]
theorem f77.l1_eq {R:Type} (L N:Nat) (κ:KX R):∀(n:Nat) (s4:Int) (s5:Int) (s6:LLM) (s7:LLB) (s8:LB) (s9:LI),
  evLp (E77 L N) (evCallI (E77 L N) 0 1000) 1000 77 84 2 f77.c1 κ n (f77.T1 s4 s5 s6 s7 s8 s9) (f77.H1 s4 s5 s6 s7 s8 s9)
  =f77.l1 L N (f77.X1_e2 κ) n s4 s5 s6 s7 s8 s9:=by
 intro n
 induction n with
 |zero=>intros;rfl
 |succ n ih=>
  intro s4 s5 s6 s7 s8 s9
  rw [evLp_succ,f77.s1_eq]
  delta f77.R1
  simp only [ih]
  rfl
def f77.X0_e0 {R:Type} (κ:KX R):=fun z3=>κ (.exit 0) (f77.T0_e0 z3) (f77.H0_e0 z3)
def f77.R0 {R:Type} (rec:KT R):=fun s0 s1 s2=>rec (f77.T0 s0 s1 s2) (f77.H0 s0 s1 s2)
theorem f77.p1_e2_eq {R:Type} (L N:Nat) (κ:KX R) (rec:KT R) (z10:Int) (z11:LLM) (z12:LLB) (z13:LB):
  (contAt (E77 L N) (evCallI (E77 L N) 0 1000) 1000 77 84 2 f77.c0 (rdK (E77 L N) 1000 77 84 0 κ rec)) (.exit 2) (f77.T1_e2 z10 z11 z12 z13) (f77.H1_e2 z10 z11 z12 z13)
  =f77.p1_e2 L N (f77.X0_e0 κ) (f77.R0 rec) z10 z11 z12 z13:=by kernel_rfl
theorem f77.s0_eq {R:Type} (L N:Nat) (κ:KX R) (rec:KT R) (s0:Int) (s1:LLM) (s2:LLB):
  evRd (E77 L N) (evCallI (E77 L N) 0 1000) 1000 77 84 0 f77.c0 κ rec (f77.T0 s0 s1 s2) (f77.H0 s0 s1 s2)
  =f77.s0 L N (f77.X0_e0 κ) (f77.R0 rec) s0 s1 s2:=by
 refine Eq.trans (b:=f77.s0' L N (f77.X0_e0 κ) (f77.R0 rec) (fun s4 s5 s6 s7 s8 s9=>evLp (E77 L N) (evCallI (E77 L N) 0 1000) 1000 77 84 2 f77.c1 (contAt (E77 L N) (evCallI (E77 L N) 0 1000) 1000 77 84 2 f77.c0 (rdK (E77 L N) 1000 77 84 0 κ rec)) L (f77.T1 s4 s5 s6 s7 s8 s9) (f77.H1 s4 s5 s6 s7 s8 s9)) s0 s1 s2) (by kernel_rfl) ?_
 unfold f77.s0
 simp only [f77.l1_eq]
 delta f77.X1_e2
 simp only [f77.p1_e2_eq]
theorem f77.l0_eq {R:Type} (L N:Nat) (κ:KX R):∀(n:Nat) (s0:Int) (s1:LLM) (s2:LLB),
  evLp (E77 L N) (evCallI (E77 L N) 0 1000) 1000 77 84 0 f77.c0 κ n (f77.T0 s0 s1 s2) (f77.H0 s0 s1 s2)
  =f77.l0 L N (f77.X0_e0 κ) n s0 s1 s2:=by
 intro n
 induction n with
 |zero=>intros;rfl
 |succ n ih=>
  intro s0 s1 s2
  rw [evLp_succ,f77.s0_eq]
  delta f77.R0
  simp only [ih]
  rfl
theorem f77.p0_e0_eq {R:Type} (L N:Nat) (κ:AV->Option R) (z3:LLB):
  (contAt (E77 L N) (evCallI (E77 L N) 0 1000) 1000 77 84 0 (codeOf Tryz.f77) (finK (E77 L N) 1000 Tryz.f77 (finC (.one (.sl (.sl .bool))) κ))) (.exit 0) (f77.T0_e0 z3) (f77.H0_e0 z3)
  =f77.p0_e0 L N (fun a0=>κ (.tv (.sl (.sl .bool)) a0)) z3:=by kernel_rfl
theorem f77.b_eq {R:Type} (L N:Nat) (κ:AV->Option R) (x0:Graph):
  evBody (E77 L N) (evCallI (E77 L N) 0 1000) 1000 77 Tryz.f77 [(.tv (.st 2) x0)] [] [] (finC (.one (.sl (.sl .bool))) κ)
  =f77.b L N (fun a0=>κ (.tv (.sl (.sl .bool)) a0)) x0:=by
 refine Eq.trans (b:=f77.b' L N (fun a0=>κ (.tv (.sl (.sl .bool)) a0)) (fun s0 s1 s2=>evLp (E77 L N) (evCallI (E77 L N) 0 1000) 1000 77 84 0 f77.c0 (contAt (E77 L N) (evCallI (E77 L N) 0 1000) 1000 77 84 0 (codeOf Tryz.f77) (finK (E77 L N) 1000 Tryz.f77 (finC (.one (.sl (.sl .bool))) κ))) L (f77.T0 s0 s1 s2) (f77.H0 s0 s1 s2)) x0) (by kernel_rfl) ?_
 unfold f77.b
 simp only [f77.l0_eq]
 delta f77.X0_e0
 simp only [f77.p0_e0_eq]
theorem f77.ok (L N:Nat) (hΦ:TellsOk Tryz.prog ((Φ43 L N))):EntOk Tryz.prog 77 (f77.ent L N):=entDa_ok (E:=(E77 L N)) (dep:=1000) (f:=Tryz.f77) (sound_of hΦ) okP (callI_sound (sound_of hΦ) okP 0 1000) rfl fun d _ hy=>(f77.b_eq L N (unR (.one (.sl (.sl .bool)))) d.1).trans (Eq.trans (b:=f77.b L N some d.1) (by kernel_rfl) hy)
def Φ77 (L N:Nat):Tells:=(addT (Φ43 L N) 77 (f77.ent L N))
theorem Φ77_ok (L N:Nat):TellsOk Tryz.prog (Φ77 L N):=addT_ok (Φ43_ok L N) (f77.ok L N (Φ43_ok L N))
def f45.s3' {R:Type} (L N:Nat) (k3_e6:Bool->LLB->Int->Int->Int->LLM->LM->LLM->Option R) (rec3:Bool->LLB->Int->Int->Int->Int->LLM->Int->Int->LM->LLM->Option R) (s42:Bool) (s43:LLB) (s44:Int) (s45:Int) (s46:Int) (s47:Int) (s48:LLM) (s49:Int) (s50:Int) (s51:LM) (s52:LLM):Option R:=
 bif (decide (s47<(s48.length:Int))) then
  bif (decide (0≤s50)&&decide (s50<(s43.length:Int))) then
   bif (decide (0≤s47)&&decide (s47<((listAt s43 [] s50.toNat).length:Int))) then
    bif (listAt (listAt s43 [] s50.toNat) false s47.toNat) then
     bif (decide (s51.length+([(Move.mk s49 s47)]:LM).length≤lim)) then
      rec3 s42 s43 s44 s45 s46 (wi (s47+(1:Int))) s48 s49 s50 (s51++([(Move.mk s49 s47)]:LM)) s52
     else none
    else rec3 s42 s43 s44 s45 s46 (wi (s47+(1:Int))) s48 s49 s50 s51 s52
   else none
  else none
 else k3_e6 s42 s43 s44 s45 s46 s48 s51 s52
def f45.s3 {R:Type} (L N:Nat) (k3_e6:Bool->LLB->Int->Int->Int->LLM->LM->LLM->Option R) (rec3:Bool->LLB->Int->Int->Int->Int->LLM->Int->Int->LM->LLM->Option R) (s42:Bool) (s43:LLB) (s44:Int) (s45:Int) (s46:Int) (s47:Int) (s48:LLM) (s49:Int) (s50:Int) (s51:LM) (s52:LLM):Option R:=
 f45.s3' L N k3_e6 rec3 s42 s43 s44 s45 s46 s47 s48 s49 s50 s51 s52
def f45.l3 {R:Type} (L N:Nat) (k3_e6:Bool->LLB->Int->Int->Int->LLM->LM->LLM->Option R):Nat->Bool->LLB->Int->Int->Int->Int->LLM->Int->Int->LM->LLM->Option R
 |0,_,_,_,_,_,_,_,_,_,_,_=>none
 |n+1,s42,s43,s44,s45,s46,s47,s48,s49,s50,s51,s52=>f45.s3 L N k3_e6 (f45.l3 L N k3_e6 n) s42 s43 s44 s45 s46 s47 s48 s49 s50 s51 s52
def f45.T3 (s42:Bool) (s43:LLB) (s44:Int) (s45:Int) (s46:Int) (s47:Int) (s48:LLM) (s49:Int) (s50:Int) (s51:LM) (s52:LLM):T:=mkT 94 [(1,(.tv .bool s42)),(2,(.ptr 1002 0)),(4,(.ptr 1004 0)),(5,(.tv (.sl (.sl .bool)) s43)),(6,(.ptr 1006 0)),(7,(.tv i64 s44)),(8,(.row 1023)),(9,(.tv i64 s45)),(10,(.tv i64 s46)),(11,(.ptr 1011 0)),(12,(.tv i64 s47))]
def f45.H3 (s42:Bool) (s43:LLB) (s44:Int) (s45:Int) (s46:Int) (s47:Int) (s48:LLM) (s49:Int) (s50:Int) (s51:LM) (s52:LLM):H:=[(1002,(.box [(.tv (.sl (.sl (.st 0))) s48)])),(1004,(.box [.nil])),(1006,(.box [(.row 1900)])),(1011,(.box [(.tv i64 s49),(.tv i64 s50)])),(1023,(.row 63 (.st 0) s51)),(1900,(.row 61 (.sl (.st 0)) s52))]
def f45.T3_e6 (z53:Bool) (z54:LLB) (z55:Int) (z56:Int) (z57:Int) (z58:LLM) (z59:LM) (z60:LLM):T:=mkT 94 [(1,(.tv .bool z53)),(2,(.ptr 1002 0)),(4,(.ptr 1004 0)),(5,(.tv (.sl (.sl .bool)) z54)),(6,(.ptr 1006 0)),(7,(.tv i64 z55)),(8,(.row 1023)),(9,(.tv i64 z56)),(10,(.tv i64 z57))]
def f45.H3_e6 (z53:Bool) (z54:LLB) (z55:Int) (z56:Int) (z57:Int) (z58:LLM) (z59:LM) (z60:LLM):H:=[(1002,(.box [(.tv (.sl (.sl (.st 0))) z58)])),(1004,(.box [.nil])),(1006,(.box [(.row 1900)])),(1023,(.row 63 (.st 0) z59)),(1900,(.row 61 (.sl (.st 0)) z60))]
def f45.p3_e6' {R:Type} (L N:Nat) (k2_e4:Bool->LLB->Int->Int->LLM->LM->LLM->Option R) (rec2:Bool->LLB->Int->Int->Int->LLM->LM->LLM->Option R) (z53:Bool) (z54:LLB) (z55:Int) (z56:Int) (z57:Int) (z58:LLM) (z59:LM) (z60:LLM):Option R:=
 rec2 z53 z54 z55 z56 (wi (z57+(1:Int))) z58 z59 z60
def f45.p3_e6 {R:Type} (L N:Nat) (k2_e4:Bool->LLB->Int->Int->LLM->LM->LLM->Option R) (rec2:Bool->LLB->Int->Int->Int->LLM->LM->LLM->Option R) (z53:Bool) (z54:LLB) (z55:Int) (z56:Int) (z57:Int) (z58:LLM) (z59:LM) (z60:LLM):Option R:=
 f45.p3_e6' L N k2_e4 rec2 z53 z54 z55 z56 z57 z58 z59 z60
end Go.Proofs.YthidlhjjnaldhaaGreatDoor.Ev
