/- Shapes of arguments in which boxes of the caller's are handed on, to be written by the callee: how such arguments stand in the callee's own view. Conditions: those that each states. -/
import Derived.Test.YthidlhjjnaldhaaGreatDoorEvYa
namespace Go.Proofs.YthidlhjjnaldhaaGreatDoor.Ev
open Go
inductive ShM where
 |sh (s:Sh)|mut (i:Nat)|mmp (i:Nat)|fn (f:Nat) (cs:List ShM)
mutual
@[reducible] def ShM.den:ShM→Type
 |.sh s=>s.den
 |.mut _=>Unit
 |.mmp _=>Unit
 |.fn _ cs=>ShMs.den cs
@[reducible] def ShMs.den:List ShM→Type
 |[]=>Unit
 |s::r=>ShM.den s×ShMs.den r
end
mutual
def shmAV:(s:ShM)→ShM.den s→AV
 |.sh s,d=>shAV s d
 |.mut i,_=>.ptr i 0
 |.mmp i,_=>.mp i
 |.fn f cs,d=>.fn f (shmAVs cs d)
def shmAVs:(cs:List ShM)→ShMs.den cs→List AV
 |[],_=>[]
 |s::r,d=>shmAV s d.1::shmAVs r d.2
end
mutual
def shmC (os:List Nat):(s:ShM)→View→AV→Option (ShM.den s×Upd)
 |.sh s,vw,v=>match shC s vw v with
  |some (x,u)=>bif u.any (fun p=>os.contains p.1) then none else some (x,u)
  |none=>none
 |.mut i,_,v=>match v with
  |.ptr o off=>bif Nat.beq off 0&&os[i]?==some o then some ((),[]) else none
  |_=>none
 |.mmp i,_,v=>match v with
  |.mp o=>bif os[i]?==some o then some ((),[]) else none
  |_=>none
 |.fn f cs,vw,v=>match v with
  |.fn f' vs=>bif Nat.beq f' f then shmsC os cs vw vs else none
  |_=>none
def shmsC (os:List Nat):(cs:List ShM)→View→List AV→Option (ShMs.den cs×Upd)
 |[],_,vs=>match vs with
  |[]=>some ((),[])
  |_=>none
 |s::r,vw,vs=>match vs with
  |v::vs=>match shmC os s vw v with
   |some (x,u)=>match shmsC os r (vwDel u vw) vs with
    |some (xs,us)=>some ((x,xs),u++us)
    |none=>none
   |none=>none
  |[]=>none
end
def sgOf (os:List Nat) (σ:Sg):Sg:=⟨fun i=>σ.val (os.getD i (os.getD 0 0)),σ.fz,fun i=>σ.bs (os.getD i (os.getD 0 0))⟩
theorem sgOf_one (o:Nat) (σ:Sg):sgOf [o] σ=⟨fun _=>σ.val o,σ.fz,fun _=>σ.bs o⟩:=by
 have h:∀i,[o].getD i ([o].getD 0 0)=o:=fun i=>by cases i<;>rfl
 unfold sgOf
 simp only [h]
mutual
theorem shmC_sound {os:List Nat} {h0:H}:∀(s:ShM) {σ:Sg} {h:H} {w:World} {vw:View} (v:AV) (d:ShM.den s) (u:Upd) (c:Value),shmC os s vw v=some (d,u)→(∀o∈os,∃x,H.get o h=some x)→Shows vw h→Inv σ h w→RepA σ h w v c→
  (∀o∈os,H.get o (H.apply h u)=H.get o h)∧∃fz',Coed σ h w u fz'∧RepA (sgOf os ⟨σ.val,fz',σ.bs⟩) h0 w (shmAV s d) c
 |.sh s,σ,h,w,vw,v,d,u,c,e,ho,hs,inv,r=>by
  unfold shmC at e
  split at e
  ·rename_i x u' h1
   replace e:=cond_none e
   obtain ⟨hno,e⟩:=e
   obtain ⟨rfl,rfl⟩:=Prod.mk.inj (Option.some.inj e)
   obtain ⟨fz',co,hr⟩:=shC_sound s v x u' c h1 hs inv r
   refine ⟨fun o hm=>get_dels co.dels h o ?_,fz',co,repA_noids (σ:=⟨σ.val,fz',σ.bs⟩) (σ':=sgOf os ⟨σ.val,fz',σ.bs⟩) (h:=[]) (h':=h0) (fun _ h=>h) (fun _ _=>rfl) (shAV_ids s x) hr⟩
   rw [List.any_eq_false] at hno⊢
   intro p hp hc
   refine hno p hp ?_
   rw [List.contains_iff_mem,nbeq_eq.1 hc]
   exact hm
  ·cases e
 |.mut i,σ,h,w,vw,v,d,u,c,e,ho,hs,inv,r=>by
  unfold shmC at e
  split at e
  ·rename_i o off
   replace e:=cond_some e
   obtain ⟨hb,e⟩:=e
   rw [Bool.and_eq_true,beq_iff_eq] at hb
   obtain ⟨hb1,hb2⟩:=hb
   obtain rfl:=nbeq_eq.1 hb1
   obtain ⟨-,rfl⟩:=Prod.mk.inj (Option.some.inj e)
   have hmem:o∈os:=List.mem_of_getElem? hb2
   have hget:os.getD i (os.getD 0 0)=o:=by rw [List.getD_eq_getElem?_getD,hb2];rfl
   refine ⟨fun _ _=>rfl,σ.fz,Coed.refl inv,r.1,fun _=>?_⟩
   obtain ⟨cs,hcs⟩:=ho o hmem
   obtain ⟨b,h1,h2⟩:=r.2 (live_of hcs)
   exact ⟨b,by show σ.val (os.getD i (os.getD 0 0))=_;rw [hget];exact h1,h2⟩
  ·cases e
 |.mmp i,σ,h,w,vw,v,d,u,c,e,ho,hs,inv,r=>by
  unfold shmC at e
  split at e
  ·rename_i o
   replace e:=cond_some e
   obtain ⟨hb,e⟩:=e
   rw [beq_iff_eq] at hb
   obtain ⟨-,rfl⟩:=Prod.mk.inj (Option.some.inj e)
   have hmem:o∈os:=List.mem_of_getElem? hb
   have hget:os.getD i (os.getD 0 0)=o:=by rw [List.getD_eq_getElem?_getD,hb];rfl
   refine ⟨fun _ _=>rfl,σ.fz,Coed.refl inv,r.1,fun _=>?_⟩
   obtain ⟨cs,hcs⟩:=ho o hmem
   show c=σ.val (os.getD i (os.getD 0 0))
   rw [hget]
   exact r.2 (live_of hcs)
  ·cases e
 |.fn f cs,σ,h,w,vw,v,d,u,c,e,ho,hs,inv,r=>by
  unfold shmC at e
  split at e
  ·rename_i f' vs
   replace e:=cond_some e
   obtain ⟨hb,e⟩:=e
   obtain rfl:=nbeq_eq.1 hb
   obtain ⟨cv,hcv,hr⟩:=r
   obtain ⟨hk,fz',co,hrs⟩:=shmsC_sound cs vs d u cv.toList e ho hs inv hr
   exact ⟨hk,fz',co,cv,hcv,hrs⟩
  ·cases e
theorem shmsC_sound {os:List Nat} {h0:H}:∀(ss:List ShM) {σ:Sg} {h:H} {w:World} {vw:View} (vs:List AV) (d:ShMs.den ss) (u:Upd) (cs:List Value),shmsC os ss vw vs=some (d,u)→(∀o∈os,∃x,H.get o h=some x)→Shows vw h→Inv σ h w→RepAs σ h w vs cs→
  (∀o∈os,H.get o (H.apply h u)=H.get o h)∧∃fz',Coed σ h w u fz'∧RepAs (sgOf os ⟨σ.val,fz',σ.bs⟩) h0 w (shmAVs ss d) cs
 |[],σ,h,w,vw,vs,d,u,cs,e,ho,hs,inv,r=>by
  unfold shmsC at e
  split at e
  ·obtain ⟨-,rfl⟩:=Prod.mk.inj (Option.some.inj e)
   match cs,r with
   |[],_=>exact ⟨fun _ _=>rfl,σ.fz,Coed.refl inv,trivial⟩
  ·cases e
 |s::ss,σ,h,w,vw,vs,d,u,cs,e,ho,hs,inv,r=>by
  unfold shmsC at e
  split at e
  ·rename_i v vs'
   split at e
   ·rename_i x u1 h1
    split at e
    ·rename_i xs u2 h2
     obtain ⟨rfl,rfl⟩:=Prod.mk.inj (Option.some.inj e)
     match cs,r with
     |c::cs,r=>
      obtain ⟨k1,f1,c1,r1⟩:=shmC_sound (h0:=h0) s v x u1 c h1 ho hs inv r.1
      have r2:RepAs ⟨σ.val,f1,σ.bs⟩ (H.apply h u1) w vs' cs:=RepAs.mk r.2.length fun i p v hp hv=>c1.keep _ _ (r.2.at i p v hp hv)
      have ho2:∀o∈os,∃x,H.get o (H.apply h u1)=some x:=fun o hm=>by rw [k1 o hm];exact ho o hm
      obtain ⟨k2,f2,c2,r3⟩:=shmsC_sound (h0:=h0) ss vs' xs u2 cs h2 ho2 (hs.dels c1.dels) c1.inv r2
      refine ⟨fun o hm=>?_,f2,c1.trans c2,?_,r3⟩
      ·rw [apply_append,k2 o hm,k1 o hm]
      ·exact RepA.mono (σ:=sgOf os ⟨σ.val,f1,σ.bs⟩) (σ':=sgOf os ⟨σ.val,f2,σ.bs⟩) c2.fz (fun _ _=>rfl) _ _ (fun i _=>sameO_eq rfl rfl) r1
    ·cases e
   ·cases e
  ·cases e
end
section
variable {E : Env} {dep : Nat}
theorem call_mut {ts:List Ty} {α:Type} {callI:CallI α} {κ:AV→Dens ts→Option α} {y:α} (hΦ:SoundΦ E) (hP:OkP E.P) (hI:CallISound E.P callI) {k:Nat} {f:Func} (hf:E.P.funcs[k]?=some f) {vw:View} {h:H} (hs:Shows vw h)
  {o:Nat} {args:List AV} {cs:List AV} (ho:vw o=some (.box cs)) {d0:Dens ts} (hd0:densOf ts cs=some d0) {ss:List ShM} {d:ShMs.den ss} {u:Upd} (hr:shmsC [o] ss vw args=some (d,u))
  {v':AV} {d1:Dens ts} {rs:RS} (e:evBody E callI dep k f (shmAVs ss d) [.ptr 0 0] [(0,.box (avs ts d0))] (finM rs ts κ)=some y) (hκ:∀v₂ d₂,κ v₂ d₂=some y→v₂=v'∧d₂=d1) (site:Nat):
  Callable E.P k∧CallSim E.P k args site h v' (u++[(o,some (.box (avs ts d1)))]) []:=by
 refine ⟨⟨f,hf,hP.names k f hf,by obtain ⟨c,hc⟩:=body_some e;rw [hc];rfl⟩,?_⟩
 intro _ σ w cargs inv r
 have hgo:=hs _ _ ho
 obtain ⟨hkeep,fz',co,r0⟩:=shmsC_sound (os:=[o]) (h0:=[(0,.box (avs ts d0))]) ss args d u cargs.toList hr (fun o' hm=>by obtain rfl:=List.mem_singleton.1 hm;exact ⟨_,hgo⟩) hs inv r
 rw [sgOf_one] at r0
 generalize hx0e:Obj.box cs=x0 at hgo
 generalize hx0e':Obj.box (avs ts d0)=x0' at r0 e
 generalize hx1e:Obj.box (avs ts d1)=x1
 have hice:x0.isIce=false:=by rw [←hx0e];rfl
 have hdeep:x0'.isDeep=x0.isDeep:=by rw [←hx0e,←hx0e'];rfl
 have hdeep1:x1.isDeep=x0.isDeep:=by rw [←hx0e,←hx1e];rfl
 have hids1:x1.ids=[]:=by rw [←hx1e];exact avs_ids _ _
 have hgo1:H.get o (H.apply h u)=some x0:=by rw [hkeep o (by simp)];exact hgo
 have own1:Own (H.apply h u) o:=⟨x0,hgo1,hice⟩
 have hx0:∀(σ:Sg) (h':H) (w:World),Inv σ h' w→H.get o h'=some x0→ObjRep ⟨fun _=>σ.val o,σ.fz,fun _=>σ.bs o⟩ [(0,x0')] w 0 x0':=fun σ h' w inv g=>by
  rw [←hx0e] at g
  obtain ⟨b,vs,ty,q1,q2,q3⟩:=inv.objs _ _ g
  rw [←hx0e']
  exact ⟨b,vs,ty,q1,q2,repAs_noids (σ:=σ) (σ':=⟨fun _=>σ.val o,σ.fz,fun _=>σ.bs o⟩) (h:=h') (w:=w) (fun _ h=>h) (fun _ _=>rfl) (avs_ids _ _) (densOf_rep hd0 q3)⟩
 have hrep0:=hx0 ⟨σ.val,fz',σ.bs⟩ _ w co.inv hgo1
 let σ₀:Sg:=⟨fun _=>σ.val o,fz',fun _=>σ.bs o⟩
 have g0:H.get 0 [(0,x0')]=some x0':=rfl
 have own0:∀i,Own [(0,x0')] i→i=0:=fun i l=>by
  obtain ⟨x,gx,-⟩:=l
  by_cases hi:i=0
  ·exact hi
  ·simp [H.get,nbeq_ne.2 (Ne.symm hi)] at gx
 have inv0:Inv σ₀ [(0,x0')] w:=by
  refine ⟨fun i x gx=>?_,fun i l b1 hb1=>co.inv.nofz o own1 b1 hb1,fun i i' l l' hne=>absurd ((own0 i l).trans (own0 i' l').symm) hne,co.inv.fzlt,by simp,fun i x gx d=>?_,fun i l b1 hb1=>co.inv.bslt o own1 b1 hb1⟩
  ·by_cases hi:i=0
   ·subst hi
    rw [g0] at gx
    obtain rfl:=Option.some.inj gx
    exact hrep0
   ·simp [H.get,nbeq_ne.2 (Ne.symm hi)] at gx
  ·by_cases hi:i=0
   ·subst hi
    rw [g0] at gx
    obtain rfl:=Option.some.inj gx
    exact co.inv.bsok o x0 hgo1 (hdeep▸d)
   ·simp [H.get,nbeq_ne.2 (Ne.symm hi)] at gx
 have hptr:∃b,σ.val o=.pointer (some ⟨b,0,none⟩):=by
  rw [←hx0e] at hgo
  obtain ⟨b,vs,ty,q1,-,-⟩:=inv.objs _ _ hgo
  exact ⟨b,q1⟩
 have rep0:RepA σ₀ [(0,x0')] w (.ptr 0 0) (σ.val o):=by
  obtain ⟨b,hb⟩:=hptr
  exact ⟨by rw [hb];rfl,fun _=>⟨b,hb,hb⟩⟩
 have h2:=(body_sound hΦ hP hI hf e (σ:=σ₀) (cargs:=cargs) inv0 r0 (vals:=[σ.val o]) ⟨rep0,trivial⟩).2
 refine h2.mono ?_
 rintro e' w' ⟨cv,σ₁,v₁,t₁,h₁,rfl,hk,hext,hinv,hrv,hrt⟩
 obtain ⟨cs1,d1',v₂,rfl,hg1,hd1',hv,hk⟩:=finM_some hk
 obtain ⟨hk1,hk2⟩:=hκ _ _ hk
 subst hk1
 subst hk2
 have hice1:(Obj.box cs1).isIce=false:=rfl
 have hd1:(Obj.box cs1).isDeep=x0.isDeep:=by rw [←hx0e];rfl
 have hinfo:∀q,x1.info=some q→x0.info=some q:=fun q e=>by rw [←hx1e] at e;cases e
 have hobj1:ObjRep σ₁ h₁ w' 0 x1:=by
  rw [←hx1e]
  obtain ⟨b,vs,ty,q1,q2,q3⟩:=hinv.objs _ _ hg1
  exact ⟨b,vs,ty,q1,q2,repAs_noids (σ:=σ₁) (h:=h₁) (fun _ h=>h) (fun _ _=>rfl) (avs_ids _ _) (densOf_rep hd1' q3)⟩
 have hval1:σ₁.val 0=σ.val o:=by
  obtain ⟨b,hb,hc⟩:=hrt.1.2 (live_of hg1)
  rw [hb,hc]
 have own1':Own h₁ 0:=⟨_,hg1,hice1⟩
 have hless:=del_less hinv.nodup 0
 obtain ⟨F,f1,f2,f3,hn2,f4⟩:=coeRes_sound (hless.inv hinv) hv (hless.rep hrv)
 have ownD:∀i,Own (H.del 0 h₁) i→i≠0:=fun i l hi=>by
  subst hi
  obtain ⟨x,gx,-⟩:=l
  rw [H.get_del_same 0 h₁ hinv.nodup] at gx;cases gx
 have hF0:∀b∈σ₁.bs 0,¬F b:=fun b hb hF=>by
  rcases f2 b hF with hF|⟨i,l,eb⟩
  ·exact hinv.nofz 0 own1' b hb hF
  ·exact hinv.inj i 0 (hless.own l) own1' (ownD i l) b eb hb
 have hbs1:∀b∈σ₁.bs 0,b∈σ.bs o∨w.heap.size≤b:=fun b hb=>by
  rcases hext.live 0 b own1' hb with ⟨i,-,hb'⟩|hb'
  ·exact .inl hb'
  ·exact .inr hb'
 have hFnew:∀b1,F b1→fz' b1∨b1∈σ.bs o∨w.heap.size≤b1:=fun b1 hF=>by
  rcases f2 b1 hF with hF|⟨i,l,eb⟩
  ·rcases hext.fznew b1 hF with h3|⟨i,l,eb⟩|h3
   ·exact .inl h3
   ·exact .inr (.inl eb)
   ·exact .inr (.inr h3)
  ·rcases hext.live i b1 (hless.own l) eb with ⟨i',l',eb'⟩|h3
   ·exact .inr (.inl eb')
   ·exact .inr (.inr h3)
 have hblocks:∀b1,b1<w.heap.size→b1∉σ.bs o→w'.heap[b1]?=w.heap[b1]?:=fun b1 hb1 hne=>hext.blocks b1 hb1 fun i l hb2=>hne hb2
 have hsame:SameO ⟨σ.val,fz',σ.bs⟩ ⟨σ.val,F,fun i=>if i=o then σ₁.bs 0 else σ.bs i⟩ (H.apply h u) (H.put o x1 (H.apply h u)) o:=by
  refine .inr ⟨live_of hgo1,rfl,fun x' q hx hq=>?_⟩
  rw [H.get_put_same] at hx
  obtain rfl:=Option.some.inj hx
  exact ⟨x0,hgo1,hinfo q hq⟩
 have fzh:∀b,fz' b→w'.heap[b]?=w.heap[b]?:=fun b hb=>hblocks b (co.inv.fzlt b hb) fun hb'=>co.inv.nofz o own1 b hb' hb
 obtain ⟨e1,e2,e3⟩:=changeF (σ:=⟨σ.val,fz',σ.bs⟩) (σ':=⟨σ.val,F,fun i=>if i=o then σ₁.bs 0 else σ.bs i⟩) (h':=H.put o x1 (H.apply h u)) (w':=w') co.inv o x1 (fun i hi=>.inl (H.get_put_ne _ hi _)) (H.get_put_same _ _ _) (fun _ _=>rfl) (fun i hi=>if_neg hi)
  (fun b hb=>f1 b (hext.fz b hb))
  (fun b hF=>by
   rcases hFnew b hF with q|q
   ·exact .inl q
   ·exact .inr ⟨q.imp (fun q=>⟨o,own1,q,.inl rfl⟩) id,f3 b hF,fun hb=>hF0 b (by simpa using hb) hF⟩)
  (H.nodup_put _ _ _ co.inv.nodup) hext.os hext.tape hext.output hext.size
  (fun b hb hn=>hblocks b hb (hn o own1 (.inl rfl)))
  (fun b hb=>by
   have hb:b∈σ₁.bs 0:=by simpa using hb
   exact ⟨(hbs1 b hb).imp (fun q=>⟨o,own1,q,.inl rfl⟩) id,hinv.bslt 0 own1' b hb⟩)
  (fun d=>by
   show (if o=o then σ₁.bs 0 else σ.bs o)=_
   rw [if_pos rfl,hinv.bsok 0 _ hg1 (hd1.trans (hdeep1.symm.trans d)),hval1])
  (fun i x g hi hm=>hsame)
  (obj_move (σ:=σ₁) (h:=h₁) (o:=0) hids1 hobj1 hval1.symm (if_pos rfl) f1)
 have happ:H.apply h (u++[(o,some x1)])=H.put o x1 (H.apply h u):=by rw [apply_append];rfl
 rw [←happ] at e1 e2 e3 hsame
 exact ⟨cv,_,rfl,co.ext.trans e1,e2,f4 _ _ _,fun a c _ r=>e3 a c (fun _=>hsame) (co.keep a c r)⟩
end
mutual
def mutO:ShM→AV→Option Nat
 |.sh _,_=>none
 |.mut _,v=>match v with
  |.ptr o _=>some o
  |_=>none
 |.mmp _,v=>match v with
  |.mp o=>some o
  |_=>none
 |.fn _ cs,v=>match v with
  |.fn _ vs=>mutOs cs vs
  |_=>none
def mutOs:List ShM→List AV→Option Nat
 |[],_=>none
 |s::r,vs=>match vs with
  |[]=>none
  |v::vs=>match mutO s v with
   |some o=>some o
   |none=>mutOs r vs
end
def mutD (ts:List Ty) (ss:List ShM) (vw:View) (args:List AV):Option (Nat×Dens ts×ShMs.den ss×Upd):=match mutOs ss args with
 |some o=>match vw o with
  |some (.box cs)=>match densOf ts cs with
   |some d0=>match shmsC [o] ss vw args with
    |some (d,u)=>some (o,d0,d,u)
    |none=>none
   |none=>none
  |_=>none
 |none=>none
theorem mutD_some {ts:List Ty} {ss:List ShM} {vw:View} {args:List AV} {o:Nat} {d0:Dens ts} {d:ShMs.den ss} {u:Upd} (e:mutD ts ss vw args=some (o,d0,d,u)):
  ∃cs,vw o=some (.box cs)∧densOf ts cs=some d0∧shmsC [o] ss vw args=some (d,u):=by
 unfold mutD at e
 split at e
 ·split at e
  ·rename_i cs hg
   split at e
   ·rename_i d0' hd
    split at e
    ·rename_i d' u' hr
     obtain ⟨rfl,rfl,rfl,rfl⟩:_∧_∧_∧_:=by simpa using e
     exact ⟨cs,hg,hd,hr⟩
    ·cases e
   ·cases e
  ·cases e
 ·cases e
end Go.Proofs.YthidlhjjnaldhaaGreatDoor.Ev
