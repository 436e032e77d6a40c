/- Functions that are handed functions: how their arguments look. Condition: what functions tell is sound. -/
import Derived.Test.YtfdcjocallblcaaGreatDoorEvX
namespace Go.Proofs.YtfdcjocallblcaaGreatDoor.Ev
open Go
inductive Sh where
 |dat (t:Ty)|imp (t:Ty) (off:Nat)|fn (f:Nat) (cs:List Sh)|pfn (f:Nat) (cs:List Sh)
mutual
@[reducible] def Sh.den:Sh→Type
 |.dat t=>t.den
 |.imp t _=>t.den
 |.fn _ cs=>Shs.den cs
 |.pfn _ cs=>Shs.den cs
@[reducible] def Shs.den:List Sh→Type
 |[]=>Unit
 |s::r=>Sh.den s×Shs.den r
end
def datOf (t:Ty) (v:AV):Option t.den:=match asPK (.dat t) v with
 |some a=>toTy t a
 |none=>none
mutual
def shOf:(s:Sh)→AV→Option (Sh.den s)
 |.dat t,v=>datOf t v
 |.imp t off,v=>match v with
  |.imp t' x off'=>if h:t'=t then bif Nat.beq off' off then some (h▸x) else none else none
  |_=>none
 |.fn f cs,v=>match v with
  |.fn f' vs=>bif Nat.beq f' f then shsOf cs vs else none
  |_=>none
 |.pfn f cs,v=>match v with
  |.imf f' vs=>bif Nat.beq f' f then shsOf cs vs else none
  |_=>none
def shsOf:(cs:List Sh)→List AV→Option (Shs.den cs)
 |[],vs=>match vs with
  |[]=>some ()
  |_=>none
 |s::r,vs=>match vs with
  |v::vs=>match shOf s v with
   |some x=>match shsOf r vs with
    |some xs=>some (x,xs)
    |none=>none
   |none=>none
  |[]=>none
end
mutual
def shAV:(s:Sh)→Sh.den s→AV
 |.dat t,x=>.tv t x
 |.imp t off,x=>.imp t x off
 |.fn f cs,d=>.fn f (shAVs cs d)
 |.pfn f cs,d=>.imf f (shAVs cs d)
def shAVs:(cs:List Sh)→Shs.den cs→List AV
 |[],_=>[]
 |s::r,d=>shAV s d.1::shAVs r d.2
end
def shD (ss:List Sh) (vw:View) (vs:List AV):Option (Shs.den ss):=match roL vw vs with
 |some l=>shsOf ss l
 |none=>none
theorem datOf_rep {t:Ty} {v:AV} {x:t.den} {σ:Sg} {h:H} {w:World} {c:Value} (e:datOf t v=some x) (hn:AV.ids v=[]) (r:RepA σ h w v c):RepA σ h w (.tv t x) c:=by
 unfold datOf at e
 split at e
 ·rename_i a ha
  have h1:asPKs [.dat t] [v]=some [a]:=by simp [asPKs,ha]
  have h2:=(asPKs_rep h1 (by simp [AV.idsL,hn]) (cs:=[c]) ⟨r,trivial⟩).1.1
  exact toTy_rep e h2
 ·cases e
mutual
theorem shOf_rep {σ:Sg} {h:H} {w:World}:∀(s:Sh) (v:AV) (d:Sh.den s) (c:Value),shOf s v=some d→AV.ids v=[]→RepA σ h w v c→RepA σ h w (shAV s d) c
 |.dat t,v,d,c,e,hn,r=>datOf_rep e hn r
 |.imp t off,v,d,c,e,hn,r=>by
  unfold shOf at e
  split at e
  ·rename_i t' x off'
   split at e
   ·rename_i ht
    subst ht
    replace e:=cond_some e
    obtain ⟨hb,e⟩:=e
    obtain rfl:=nbeq_eq.1 hb
    obtain rfl:=Option.some.inj e
    exact r
   ·cases e
  ·cases e
 |.fn f cs,v,d,c,e,hn,r=>by
  unfold shOf at e
  split at e
  ·rename_i f' vs
   replace e:=cond_some e
   obtain ⟨hb,e⟩:=e
   obtain rfl:=nbeq_eq.1 hb
   obtain ⟨cv,hcv,hr⟩:=r
   exact ⟨cv,hcv,shsOf_rep cs vs d cv.toList e hn hr⟩
  ·cases e
 |.pfn f cs,v,d,c,e,hn,r=>by
  unfold shOf at e
  split at e
  ·rename_i f' vs
   replace e:=cond_some e
   obtain ⟨hb,e⟩:=e
   obtain rfl:=nbeq_eq.1 hb
   obtain ⟨b,o0,cv,hcv,hf,hw,hr⟩:=r
   exact ⟨b,o0,cv,hcv,hf,hw,shsOf_rep cs vs d cv.toList e hn hr⟩
  ·cases e
theorem shsOf_rep {σ:Sg} {h:H} {w:World}:∀(ss:List Sh) (vs:List AV) (d:Shs.den ss) (cs:List Value),shsOf ss vs=some d→AV.idsL vs=[]→RepAs σ h w vs cs→RepAs σ h w (shAVs ss d) cs
 |[],vs,d,cs,e,hn,r=>by
  unfold shsOf at e
  split at e
  ·exact r
  ·cases e
 |s::ss,vs,d,cs,e,hn,r=>by
  unfold shsOf at e
  split at e
  ·rename_i v vs'
   split at e
   ·rename_i x hx
    split at e
    ·rename_i xs hxs
     obtain rfl:=Option.some.inj e
     simp only [AV.idsL,List.append_eq_nil_iff] at hn
     match cs,r with
     |c::cs,r=>exact ⟨shOf_rep s v x c hx hn.1 r.1,shsOf_rep ss vs' xs cs hxs hn.2 r.2⟩
    ·cases e
   ·cases e
  ·cases e
end
section
variable {E : Env} {dep : Nat}
end
mutual
def shC:(s:Sh)→View→AV→Option (Sh.den s×Upd)
 |.dat t,vw,v=>coe t vw v
 |.imp t off,vw,v=>match v with
  |.imp t' x off'=>if h:t'=t then bif Nat.beq off' off then some (h▸x,[]) else none else none
  |.ptr o off'=>bif Nat.beq off' 0&&Nat.beq off 0&&!isSt t then (match vw o with
   |some (.box [c])=>match coeRow t vw c with
    |some (x,u)=>bif u.any (fun p=>Nat.beq p.1 o) then none else some (x,u++[(o,some (.cel t x))])
    |none=>none
   |some (.cel t' x)=>if h:t'=t then some (h▸x,[]) else none
   |_=>none) else none
  |_=>none
 |.fn f cs,vw,v=>match v with
  |.fn f' vs=>bif Nat.beq f' f then shsC cs vw vs else none
  |_=>none
 |.pfn f cs,vw,v=>match v with
  |.imf f' vs=>bif Nat.beq f' f then shsC cs vw vs else none
  |_=>none
def shsC:(cs:List Sh)→View→List AV→Option (Shs.den cs×Upd)
 |[],_,vs=>match vs with
  |[]=>some ((),[])
  |_=>none
 |s::r,vw,vs=>match vs with
  |v::vs=>match shC s vw v with
   |some (x,u)=>match shsC r (vwDel u vw) vs with
    |some (xs,us)=>some ((x,xs),u++us)
    |none=>none
   |none=>none
  |[]=>none
end
theorem imp_lift {σ σ':Sg} {h h':H} {w:World} {t:Ty} {x:t.den} {off:Nat} {v:Value} (hf:∀b,σ.fz b→σ'.fz b) (r:RepA σ h w (.imp t x off) v):RepA σ' h' w (.imp t x off) v:=by
 obtain ⟨b,o0,k1,k2,cs,k3,k4⟩:=r
 exact ⟨b,o0,k1,hf b k2,cs,RepPs.mono hf (fun _ _=>rfl) k3,k4⟩
mutual
theorem shAV_ids:∀(s:Sh) (d:Sh.den s),AV.ids (shAV s d)=[]
 |.dat _,_=>rfl
 |.imp _ _,_=>rfl
 |.fn _ cs,d=>shAVs_ids cs d
 |.pfn _ cs,d=>shAVs_ids cs d
theorem shAVs_ids:∀(ss:List Sh) (d:Shs.den ss),AV.idsL (shAVs ss d)=[]
 |[],_=>rfl
 |s::r,d=>by simp only [shAVs,AV.idsL,shAV_ids s d.1,shAVs_ids r d.2,List.append_nil]
end
mutual
theorem shC_sound:∀(s:Sh) {σ:Sg} {h:H} {w:World} {vw:View} (v:AV) (d:Sh.den s) (u:Upd) (c:Value),shC s vw v=some (d,u)→Shows vw h→Inv σ h w→RepA σ h w v c→
  ∃fz',Coed σ h w u fz'∧RepA ⟨σ.val,fz',σ.bs⟩ [] w (shAV s d) c
 |.dat t,σ,h,w,vw,v,d,u,c,e,hs,inv,r=>by
  obtain ⟨fz',co,hr⟩:=coe_sound (t:=t) e hs inv r
  exact ⟨fz',co,hr⟩
 |.imp t off,σ,h,w,vw,v,d,u,c,e,hs,inv,r=>by
  unfold shC at e
  split at e
  ·rename_i t' x off'
   split at e
   ·rename_i ht
    subst ht
    replace e:=cond_some e
    obtain ⟨hb,e⟩:=e
    obtain rfl:=nbeq_eq.1 hb
    obtain ⟨rfl,rfl⟩:=Prod.mk.inj (Option.some.inj e)
    exact ⟨σ.fz,Coed.refl inv,imp_lift (fun _ h=>h) r⟩
   ·cases e
  ·rename_i o off'
   replace e:=cond_some e
   obtain ⟨hb,e⟩:=e
   simp only [Bool.and_eq_true,Bool.not_eq_true'] at hb
   obtain ⟨⟨hb1,hb2⟩,hst⟩:=hb
   obtain rfl:=nbeq_eq.1 hb1
   obtain rfl:=nbeq_eq.1 hb2
   split at e
   ·rename_i c0 hg
    split at e
    ·rename_i x u0 hc
     replace e:=cond_none e
     obtain ⟨hno,e⟩:=e
     obtain ⟨rfl,rfl⟩:=Prod.mk.inj (Option.some.inj e)
     have hgg:=hs _ _ hg
     obtain ⟨b,vs,ty,q1,q2,q3⟩:=inv.objs _ _ hgg
     match hvs:vs.toList,q3 with
     |[v0],q3=>
      obtain ⟨f1,co1,hr1⟩:=coeRow_sound hc hs inv q3.1
      have hg1:H.get o (H.apply h u0)=some (.box [c0]):=by rw [get_dels co1.dels h o hno];exact hgg
      have hsc:∀i,t≠.st i:=fun i e=>by subst e;cases hst
      have huniq:∀v,RepA ⟨σ.val,f1,σ.bs⟩ (H.apply h u0) w c0 v→True:=fun _ _=>trivial
      obtain ⟨b2,vs2,ty2,p1,p2,p3⟩:=co1.inv.objs o _ hg1
      have hbb:b2=b:=by
       have p1':σ.val o=.pointer (some ⟨b2,0,none⟩):=p1
       rw [q1] at p1'
       simpa using p1'.symm
      subst hbb
      rw [q2] at p2
      obtain ⟨rfl,-⟩:vs=vs2∧ty=ty2:=by simpa using p2
      have hcell:w.cell? ⟨b2,0,none⟩=some v0:=by
       rw [cell_of_row w b2 0 vs ty (0,0) q2,←Array.getElem?_toList,hvs];rfl
      have hmem:b2∈σ.bs o:=co1.inv.mem hg1 rfl (by show blk (σ.val o)=_;rw [q1];rfl)
      have hobj:ObjRep ⟨σ.val,fun b=>f1 b∨b∈σ.bs o,σ.bs⟩ (H.put o (.cel t x) (H.apply h u0)) w o (.cel t x):=
       ⟨b2,v0,q1,.inr hmem,hcell,RepPs.mono (fun _ h=>.inl h) (fun _ _=>rfl) (RepT.cells_scalar hsc hr1)⟩
      obtain ⟨f2,e1,e2,e3,e4,e5⟩:=freezeG (σ:=⟨σ.val,f1,σ.bs⟩) co1.inv hg1 rfl rfl rfl rfl hobj
      have co2:Coed ⟨σ.val,f1,σ.bs⟩ (H.apply h u0) w [(o,some (.cel t x))] f2:=
       ⟨fun p hp=>by simp at hp;subst hp;exact ⟨_,rfl,rfl⟩,e1,e2,e4,fun i hi=>by
        rcases ids_put _ _ _ i hi with hh|rfl|hh
        ·exact hh
        ·exact H.ids_of_mem (H.mem_of_get hg1)
        ·simp [Obj.ids] at hh,e5⟩
      refine ⟨f2,co1.trans co2,?_⟩
      have h1:=cel_imp (off:=0) e3 (v:=c) (r.2 (live_of hgg))
      exact imp_lift (fun _ h=>h) h1
     |[],q3=>exact q3.elim
     |_::_::_,q3=>exact q3.2.elim
    ·cases e
   ·rename_i t' x hg
    split at e
    ·rename_i ht
     subst ht
     obtain ⟨rfl,rfl⟩:=Prod.mk.inj (Option.some.inj e)
     have hgg:=hs _ _ hg
     exact ⟨σ.fz,Coed.refl inv,imp_lift (fun _ h=>h) (cel_imp (off:=0) (inv.objs _ _ hgg) (r.2 (live_of hgg)))⟩
    ·cases e
   ·cases e
  ·cases e
 |.fn f cs,σ,h,w,vw,v,d,u,c,e,hs,inv,r=>by
  unfold shC at e
  split at e
  ·rename_i f' vs
   replace e:=cond_some e
   obtain ⟨hb,e⟩:=e
   obtain rfl:=nbeq_eq.1 hb
   obtain ⟨cv,hcv,hr⟩:=r
   obtain ⟨fz',co,hrs⟩:=shsC_sound cs vs d u cv.toList e hs inv hr
   exact ⟨fz',co,cv,hcv,hrs⟩
  ·cases e
 |.pfn f cs,σ,h,w,vw,v,d,u,c,e,hs,inv,r=>by
  unfold shC at e
  split at e
  ·rename_i f' vs
   replace e:=cond_some e
   obtain ⟨hb,e⟩:=e
   obtain rfl:=nbeq_eq.1 hb
   obtain ⟨b,o0,cv,hcv,hf,hw,hr⟩:=r
   obtain ⟨fz',co,hrs⟩:=shsC_sound cs vs d u cv.toList e hs inv hr
   exact ⟨fz',co,b,o0,cv,hcv,co.fz b hf,hw,hrs⟩
  ·cases e
theorem shsC_sound:∀(ss:List Sh) {σ:Sg} {h:H} {w:World} {vw:View} (vs:List AV) (d:Shs.den ss) (u:Upd) (cs:List Value),shsC ss vw vs=some (d,u)→Shows vw h→Inv σ h w→RepAs σ h w vs cs→
  ∃fz',Coed σ h w u fz'∧RepAs ⟨σ.val,fz',σ.bs⟩ [] w (shAVs ss d) cs
 |[],σ,h,w,vw,vs,d,u,cs,e,hs,inv,r=>by
  unfold shsC at e
  split at e
  ·obtain ⟨-,rfl⟩:=Prod.mk.inj (Option.some.inj e)
   match cs,r with
   |[],_=>exact ⟨σ.fz,Coed.refl inv,trivial⟩
  ·cases e
 |s::ss,σ,h,w,vw,vs,d,u,cs,e,hs,inv,r=>by
  unfold shsC at e
  split at e
  ·rename_i v vs'
   split at e
   ·rename_i x u1 h1
    split at e
    ·rename_i xs u2 h2
     obtain ⟨rfl,rfl⟩:=Prod.mk.inj (Option.some.inj e)
     match cs,r with
     |c::cs,r=>
      obtain ⟨f1,c1,r1⟩:=shC_sound s v x u1 c h1 hs inv r.1
      have r2:RepAs ⟨σ.val,f1,σ.bs⟩ (H.apply h u1) w vs' cs:=RepAs.mk r.2.length fun i p v hp hv=>c1.keep _ _ (r.2.at i p v hp hv)
      obtain ⟨f2,c2,r3⟩:=shsC_sound ss vs' xs u2 cs h2 (hs.dels c1.dels) c1.inv r2
      exact ⟨f2,c1.trans c2,RepA.mono (σ:=⟨σ.val,f1,σ.bs⟩) (σ':=⟨σ.val,f2,σ.bs⟩) (h:=[]) (h':=[]) c2.fz (fun _ _=>rfl) _ _ (fun i hi=>by rw [shAV_ids] at hi;cases hi) r1,r3⟩
    ·cases e
   ·cases e
  ·cases e
end
section
variable {E : Env} {dep : Nat}
theorem call_dof {α:Type} {callI:CallI α} {κ:AV→Option α} {y:α} (hΦ:SoundΦ E) (hP:OkP E.P) (hI:CallISound E.P callI) {k:Nat} {f:Func} (hf:E.P.funcs[k]?=some f) {vw:View} {h:H} (hs:Shows vw h) {ss:List Sh} {args:List AV} {d:Shs.den ss} {u:Upd} (ha:shsC ss vw args=some (d,u))
  {v':AV} {rs:RS} (e:evBody E callI dep k f (shAVs ss d) [] [] (finC rs κ)=some y) (hκ:∀v₂,κ v₂=some y→v₂=v') (site:Nat):Callable E.P k∧CallSim E.P k args site h v' u []:=by
 refine ⟨⟨f,hf,hP.names k f hf,by obtain ⟨c,hc⟩:=body_some e;rw [hc];rfl⟩,?_⟩
 intro _ σ w cargs inv r
 obtain ⟨fz',co,r0⟩:=shsC_sound ss args d u cargs.toList ha hs inv r
 have h2:=(body_sound hΦ hP hI hf e (σ:=⟨σ.val,fz',σ.bs⟩) (nil_inv co.inv.fzlt) r0 (vals:=[]) trivial).2
 refine h2.mono ?_
 rintro e' w' ⟨cv,σ₁,v₁,t₁,h₁,rfl,hk,hext,hinv,hrep,-⟩
 obtain ⟨v₂,hv,hk⟩:=finC_some hk
 obtain rfl:=hκ _ hk
 obtain ⟨F,f1,f2,f3,-,f4⟩:=coeRes_sound hinv hv hrep
 obtain ⟨g1,g2,g3,-⟩:=data_post inv co hext hinv f1 f2 f3
 exact ⟨cv,⟨σ.val,F,σ.bs⟩,rfl,g1,g2,f4 _ _ _,fun a c _ r=>g3 a c r⟩
end
def EntOkO (P:Program) (k:Nat) (e:List AV→View→Nat→Option Ans):Prop:=
 ∀(args:List AV) (vw:View) (site:Nat) (h:H) (a:Ans),e args vw site=some a→∀y:a.α,a.x=some y→Shows vw h→
  Callable P k∧CallSim P k args site h (a.g y).1 (a.g y).2.1 (a.g y).2.2
def addO (Φ:Tells) (k:Nat) (e:List AV→View→Nat→Option Ans):Tells:=fun f args vw s=>bif Nat.beq f k then (match e args vw s with
 |some a=>a
 |none=>Φ f args vw s) else Φ f args vw s
theorem addO_ok {P:Program} {Φ:Tells} {k:Nat} {e:List AV→View→Nat→Option Ans} (h1:TellsOk P Φ) (h2:EntOkO P k e):TellsOk P (addO Φ k e):=by
 intro f args vw site h
 unfold addO
 cases hb:Nat.beq f k
 ·exact h1 f args vw site h
 ·obtain rfl:=nbeq_eq.1 hb
  simp only [cond_true]
  cases he:e args vw site with
  |none=>exact h1 f args vw site h
  |some a=>exact h2 args vw site h a he
end Go.Proofs.YtfdcjocallblcaaGreatDoor.Ev
