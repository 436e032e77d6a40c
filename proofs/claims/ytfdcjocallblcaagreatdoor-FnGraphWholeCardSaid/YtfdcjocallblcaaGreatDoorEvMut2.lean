/- A function that is handed two boxes of the caller's: the caller knows the first one's data behind the call, the second one is gone. Conditions: those that each states. -/
import Derived.Test.YtfdcjocallblcaaGreatDoorEvMut
namespace Go.Proofs.YtfdcjocallblcaaGreatDoor.Ev
open Go
section
variable {E : Env} {dep : Nat}
theorem call_mut2 {ts:List Ty} {α:Type} {callI:CallI α} {κ:AV→Dens ts→Option α} {y:α} (hΦ:SoundΦ E) (hP:OkP E.P) (hI:CallISound E.P callI) {k:Nat} {f:Func} (hf:E.P.funcs[k]?=some f) {vw:View} {h:H} (hs:Shows vw h)
  {o o2:Nat} (hne:o2≠o) {args:List AV} {cs:List AV} {c2:AV} (ho:vw o=some (.box cs)) (ho2:vw o2=some (.box [c2])) {d0:Dens ts} (hd0:densOf ts cs=some d0) {ss:List ShM} {d:ShMs.den ss} {u:Upd} (hr:shmsC [o,o2] ss vw args=some (d,u))
  {v':AV} {d1:Dens ts} {rs:RS} (e:evBody E callI dep k f (shmAVs ss d) [.ptr 0 0] [(0,.box (avs ts d0)),(1,.box [.any])] (finM rs ts κ)=some y) (hκ:∀v₂ d₂,κ v₂ d₂=some y→v₂=v'∧d₂=d1) (site:Nat):
  Callable E.P k∧CallSim E.P k args site h v' (u++[(o2,none),(o,some (.box (avs ts d1)))]) []:=by
 refine ⟨⟨f,hf,hP.names k f hf,by obtain ⟨c,hc⟩:=body_some e;rw [hc];rfl⟩,?_⟩
 intro _ σ w cargs inv r
 have hgo:=hs _ _ ho
 have hgp:=hs _ _ ho2
 obtain ⟨hkeep,fz',co,r0⟩:=shmsC_sound (os:=[o,o2]) (h0:=[(0,.box (avs ts d0)),(1,.box [.any])]) ss args d u cargs.toList hr (fun o' hm=>by
  rcases List.mem_cons.1 hm with rfl|hm
  ·exact ⟨_,hgo⟩
  ·obtain rfl:=List.mem_singleton.1 hm;exact ⟨_,hgp⟩) hs inv r
 generalize hx0e:Obj.box cs=x0 at hgo
 generalize hx0e':Obj.box (avs ts d0)=x0' at r0 e
 generalize hx1e:Obj.box (avs ts d1)=x1
 generalize hpe:Obj.box [c2]=p0 at hgp
 generalize hpe':Obj.box [AV.any]=p0' at r0 e
 have hice:x0.isIce=false:=by rw [←hx0e];rfl
 have hicep:p0.isIce=false:=by rw [←hpe];rfl
 have hdeep:x0'.isDeep=x0.isDeep:=by rw [←hx0e,←hx0e'];rfl
 have hdeepp:p0'.isDeep=p0.isDeep:=by rw [←hpe,←hpe'];rfl
 have hdeep1:x1.isDeep=x0.isDeep:=by rw [←hx0e,←hx1e];rfl
 have hids1:x1.ids=[]:=by rw [←hx1e];exact avs_ids _ _
 have hgo1:H.get o (H.apply h u)=some x0:=by rw [hkeep o (by simp)];exact hgo
 have hgp1:H.get o2 (H.apply h u)=some p0:=by rw [hkeep o2 (by simp)];exact hgp
 have own1:Own (H.apply h u) o:=⟨x0,hgo1,hice⟩
 have own2:Own (H.apply h u) o2:=⟨p0,hgp1,hicep⟩
 generalize hσ₀:sgOf [o,o2] ⟨σ.val,fz',σ.bs⟩=σ₀ at r0
 have v0:σ₀.val 0=σ.val o:=by rw [←hσ₀];rfl
 have v1:σ₀.val 1=σ.val o2:=by rw [←hσ₀];rfl
 have b0:σ₀.bs 0=σ.bs o:=by rw [←hσ₀];rfl
 have b1:σ₀.bs 1=σ.bs o2:=by rw [←hσ₀];rfl
 have z0:σ₀.fz=fz':=by rw [←hσ₀];rfl
 have g0:H.get 0 [(0,x0'),(1,p0')]=some x0':=rfl
 have g1:H.get 1 [(0,x0'),(1,p0')]=some p0':=rfl
 have gi:∀i x,H.get i [(0,x0'),(1,p0')]=some x→(i=0∧x=x0')∨(i=1∧x=p0'):=fun i x gx=>by
  by_cases h0:i=0
  ·subst h0;exact .inl ⟨rfl,(Option.some.inj (g0.symm.trans gx)).symm⟩
  ·by_cases h1:i=1
   ·subst h1;exact .inr ⟨rfl,(Option.some.inj (g1.symm.trans gx)).symm⟩
   ·simp [H.get,nbeq_ne.2 (Ne.symm h0),nbeq_ne.2 (Ne.symm h1)] at gx
 have own0:∀i,Own [(0,x0'),(1,p0')] i→i=0∨i=1:=fun i l=>by
  obtain ⟨x,gx,-⟩:=l
  exact (gi i x gx).imp And.left And.left
 have inv0:Inv σ₀ [(0,x0'),(1,p0')] w:=by
  refine ⟨fun i x gx=>?_,fun i l b hb=>?_,fun i i' l l' hne' b hb=>?_,?_,by simp,fun i x gx dd=>?_,fun i l b hb=>?_⟩
  ·rcases gi i x gx with ⟨rfl,rfl⟩|⟨rfl,rfl⟩
   ·have g:=hgo1
    rw [←hx0e] at g
    obtain ⟨b,vs,ty,q1,q2,q3⟩:=co.inv.objs _ _ g
    rw [←hx0e']
    exact ⟨b,vs,ty,by rw [v0];exact q1,q2,repAs_noids (σ:=⟨σ.val,fz',σ.bs⟩) (σ':=σ₀) (h:=H.apply h u) (w:=w) (fun _ h=>z0▸h) (fun _ _=>rfl) (avs_ids _ _) (densOf_rep hd0 q3)⟩
   ·have g:=hgp1
    rw [←hpe] at g
    obtain ⟨b,vs,ty,q1,q2,q3⟩:=co.inv.objs _ _ g
    rw [←hpe']
    refine ⟨b,vs,ty,by rw [v1];exact q1,q2,?_⟩
    match hvs:vs.toList,q3 with
    |[c],q3=>exact ⟨trivial,trivial⟩
    |[],q3=>exact q3.elim
    |_::_::_,q3=>exact q3.2.elim
  ·rw [z0]
   rcases own0 i l with rfl|rfl
   ·rw [b0] at hb;exact co.inv.nofz o own1 b hb
   ·rw [b1] at hb;exact co.inv.nofz o2 own2 b hb
  ·rcases own0 i l with rfl|rfl<;>rcases own0 i' l' with rfl|rfl
   ·exact absurd rfl hne'
   ·rw [b0] at hb;rw [b1];exact co.inv.inj o o2 own1 own2 (Ne.symm hne) b hb
   ·rw [b1] at hb;rw [b0];exact co.inv.inj o2 o own2 own1 hne b hb
   ·exact absurd rfl hne'
  ·rw [z0];exact co.inv.fzlt
  ·rcases gi i x gx with ⟨rfl,rfl⟩|⟨rfl,rfl⟩
   ·rw [b0,v0];exact co.inv.bsok o x0 hgo1 (hdeep▸dd)
   ·rw [b1,v1];exact co.inv.bsok o2 p0 hgp1 (hdeepp▸dd)
  ·rcases own0 i l with rfl|rfl
   ·rw [b0] at hb;exact co.inv.bslt o own1 b hb
   ·rw [b1] at hb;exact co.inv.bslt o2 own2 b hb
 have hptr:∃b,σ.val o=.pointer (some ⟨b,0,none⟩):=by
  rw [←hx0e] at hgo
  obtain ⟨b,vs,ty,q1,-,-⟩:=inv.objs _ _ hgo
  exact ⟨b,q1⟩
 have rep0:RepA σ₀ [(0,x0'),(1,p0')] w (.ptr 0 0) (σ.val o):=by
  obtain ⟨b,hb⟩:=hptr
  exact ⟨by rw [hb];rfl,fun _=>⟨b,by rw [v0];exact hb,hb⟩⟩
 have h2:=(body_sound hΦ hP hI hf e (σ:=σ₀) (cargs:=cargs) inv0 r0 (vals:=[σ.val o]) ⟨rep0,trivial⟩).2
 refine h2.mono ?_
 rintro e' w' ⟨cv,σ₁,v₁,t₁,h₁,rfl,hk,hext,hinv,hrv,hrt⟩
 obtain ⟨cs1,d1',v₂,rfl,hg1,hd1',hv,hk⟩:=finM_some hk
 obtain ⟨hk1,hk2⟩:=hκ _ _ hk
 subst hk1
 subst hk2
 have hice1:(Obj.box cs1).isIce=false:=rfl
 have hd1:(Obj.box cs1).isDeep=x0.isDeep:=by rw [←hx0e];rfl
 have hinfo:∀q,x1.info=some q→x0.info=some q:=fun q e=>by rw [←hx1e] at e;cases e
 have hobj1:ObjRep σ₁ h₁ w' 0 x1:=by
  rw [←hx1e]
  obtain ⟨b,vs,ty,q1,q2,q3⟩:=hinv.objs _ _ hg1
  exact ⟨b,vs,ty,q1,q2,repAs_noids (σ:=σ₁) (h:=h₁) (fun _ h=>h) (fun _ _=>rfl) (avs_ids _ _) (densOf_rep hd1' q3)⟩
 have hval1:σ₁.val 0=σ.val o:=by
  obtain ⟨b,hb,hc⟩:=hrt.1.2 (live_of hg1)
  rw [hb,hc]
 have own1':Own h₁ 0:=⟨_,hg1,hice1⟩
 have hless:=del_less hinv.nodup 0
 obtain ⟨F,f1,f2,f3,hn2,f4⟩:=coeRes_sound (hless.inv hinv) hv (hless.rep hrv)
 have ownD:∀i,Own (H.del 0 h₁) i→i≠0:=fun i l hi=>by
  subst hi
  obtain ⟨x,gx,-⟩:=l
  rw [H.get_del_same 0 h₁ hinv.nodup] at gx;cases gx
 have hF0:∀b∈σ₁.bs 0,¬F b:=fun b hb hF=>by
  rcases f2 b hF with hF|⟨i,l,eb⟩
  ·exact hinv.nofz 0 own1' b hb hF
  ·exact hinv.inj i 0 (hless.own l) own1' (ownD i l) b eb hb
 have hold:∀i b,Own [(0,x0'),(1,p0')] i→b∈σ₀.bs i→b∈σ.bs o∨b∈σ.bs o2:=fun i b l hb=>by
  rcases own0 i l with rfl|rfl
  ·exact .inl (b0▸hb)
  ·exact .inr (b1▸hb)
 have hbs1:∀b∈σ₁.bs 0,(b∈σ.bs o∨b∈σ.bs o2)∨w.heap.size≤b:=fun b hb=>by
  rcases hext.live 0 b own1' hb with ⟨i,l,hb'⟩|hb'
  ·exact .inl (hold i b l hb')
  ·exact .inr hb'
 have hFnew:∀b,F b→fz' b∨(b∈σ.bs o∨b∈σ.bs o2)∨w.heap.size≤b:=fun b hF=>by
  rcases f2 b hF with hF|⟨i,l,eb⟩
  ·rcases hext.fznew b hF with h3|⟨i,l,eb⟩|h3
   ·exact .inl (z0▸h3)
   ·exact .inr (.inl (hold i b l eb))
   ·exact .inr (.inr h3)
  ·rcases hext.live i b (hless.own l) eb with ⟨i',l',eb'⟩|h3
   ·exact .inr (.inl (hold i' b l' eb'))
   ·exact .inr (.inr h3)
 have hblocks:∀b,b<w.heap.size→b∉σ.bs o→b∉σ.bs o2→w'.heap[b]?=w.heap[b]?:=fun b hb h1 h2=>hext.blocks b hb fun i l hb2=>(hold i b l hb2).elim h1 h2
 have hgd:H.get o2 (H.put o x1 (H.del o2 (H.apply h u)))=none:=by rw [H.get_put_ne _ hne _];exact H.get_del_same o2 _ co.inv.nodup
 have hsame:SameO ⟨σ.val,fz',σ.bs⟩ ⟨σ.val,F,fun i=>if i=o then σ₁.bs 0 else σ.bs i⟩ (H.apply h u) (H.put o x1 (H.del o2 (H.apply h u))) o:=by
  refine .inr ⟨live_of hgo1,rfl,fun x' q hx hq=>?_⟩
  rw [H.get_put_same] at hx
  obtain rfl:=Option.some.inj hx
  exact ⟨x0,hgo1,hinfo q hq⟩
 have cases2:∀b,(b∈σ.bs o∨b∈σ.bs o2)→∃i,Own (H.apply h u) i∧b∈σ.bs i∧(i=o∨H.get i (H.put o x1 (H.del o2 (H.apply h u)))=none):=fun b hb=>by
  rcases hb with hb|hb
  ·exact ⟨o,own1,hb,.inl rfl⟩
  ·exact ⟨o2,own2,hb,.inr hgd⟩
 obtain ⟨e1,e2,e3⟩:=changeF (σ:=⟨σ.val,fz',σ.bs⟩) (σ':=⟨σ.val,F,fun i=>if i=o then σ₁.bs 0 else σ.bs i⟩) (h':=H.put o x1 (H.del o2 (H.apply h u))) (w':=w') co.inv o x1
  (fun i hi=>by
   rw [H.get_put_ne _ hi _]
   by_cases hi2:i=o2
   ·subst hi2;exact .inr (H.get_del_same i _ co.inv.nodup)
   ·exact .inl (H.get_del_ne hi2 _))
  (H.get_put_same _ _ _) (fun _ _=>rfl) (fun i hi=>if_neg hi)
  (fun b hb=>f1 b (hext.fz b (z0.symm▸hb)))
  (fun b hF=>by
   rcases hFnew b hF with q|q
   ·exact .inl q
   ·exact .inr ⟨q.imp (cases2 b) id,f3 b hF,fun hb=>hF0 b (by simpa using hb) hF⟩)
  (H.nodup_put _ _ _ (H.nodup_del _ _ co.inv.nodup)) hext.os hext.tape hext.output hext.size
  (fun b hb hn=>hblocks b hb (hn o own1 (.inl rfl)) (hn o2 own2 (.inr hgd)))
  (fun b hb=>by
   have hb:b∈σ₁.bs 0:=by simpa using hb
   exact ⟨(hbs1 b hb).imp (cases2 b) id,hinv.bslt 0 own1' b hb⟩)
  (fun d=>by
   show (if o=o then σ₁.bs 0 else σ.bs o)=_
   rw [if_pos rfl,hinv.bsok 0 _ hg1 (hd1.trans (hdeep1.symm.trans d)),hval1])
  (fun i x g hi hm=>hsame)
  (obj_move (σ:=σ₁) (h:=h₁) (o:=0) hids1 hobj1 hval1.symm (if_pos rfl) f1)
 have happ:H.apply h (u++[(o2,none),(o,some x1)])=H.put o x1 (H.del o2 (H.apply h u)):=by rw [apply_append];rfl
 rw [←happ] at e1 e2 e3 hsame
 exact ⟨cv,_,rfl,co.ext.trans e1,e2,f4 _ _ _,fun a c _ r=>e3 a c (fun _=>hsame) (co.keep a c r)⟩
end
mutual
def mutI (i:Nat):ShM→AV→Option Nat
 |.sh _,_=>none
 |.mut j,v=>match v with
  |.ptr o _=>bif Nat.beq j i then some o else none
  |_=>none
 |.mmp _,_=>none
 |.fn _ cs,v=>match v with
  |.fn _ vs=>mutIs i cs vs
  |_=>none
def mutIs (i:Nat):List ShM→List AV→Option Nat
 |[],_=>none
 |s::r,vs=>match vs with
  |[]=>none
  |v::vs=>match mutI i s v with
   |some o=>some o
   |none=>mutIs i r vs
end
def mutD2 (ts:List Ty) (ss:List ShM) (vw:View) (args:List AV):Option (Nat×Nat×Dens ts×ShMs.den ss×Upd):=match mutIs 0 ss args with
 |some o=>match mutIs 1 ss args with
  |some o2=>match vw o with
   |some (.box cs)=>match vw o2 with
    |some (.box [_])=>match densOf ts cs with
     |some d0=>match shmsC [o,o2] ss vw args with
      |some (d,u)=>bif Nat.beq o2 o then none else some (o,o2,d0,d,u)
      |none=>none
     |none=>none
    |_=>none
   |_=>none
  |none=>none
 |none=>none
theorem mutD2_some {ts:List Ty} {ss:List ShM} {vw:View} {args:List AV} {o o2:Nat} {d0:Dens ts} {d:ShMs.den ss} {u:Upd} (e:mutD2 ts ss vw args=some (o,o2,d0,d,u)):
  ∃cs c2,o2≠o∧vw o=some (.box cs)∧vw o2=some (.box [c2])∧densOf ts cs=some d0∧shmsC [o,o2] ss vw args=some (d,u):=by
 unfold mutD2 at e
 split at e
 ·split at e
  ·split at e
   ·rename_i cs hg
    split at e
    ·rename_i c2 hg2
     split at e
     ·rename_i d0' hd
      split at e
      ·rename_i d' u' hr
       replace e:=cond_none e
       obtain ⟨hn,e⟩:=e
       obtain ⟨rfl,rfl,rfl,rfl,rfl⟩:_∧_∧_∧_∧_:=by simpa using e
       exact ⟨cs,c2,nbeq_ne.1 hn,hg,hg2,hd,hr⟩
      ·cases e
     ·cases e
    ·cases e
   ·cases e
  ·cases e
 ·cases e
end Go.Proofs.YtfdcjocallblcaaGreatDoor.Ev
