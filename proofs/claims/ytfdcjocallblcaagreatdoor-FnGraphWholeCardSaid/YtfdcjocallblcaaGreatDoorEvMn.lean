/- Objects are named anew. No conditions. -/
import Derived.Test.YtfdcjocallblcaaGreatDoorEvMm
namespace Go.Proofs.YtfdcjocallblcaaGreatDoor.Ev
open Go
theorem Obj.ren_info (a b:Nat) (x:Obj):(x.ren a b).info=x.info:=by cases x<;>rfl
theorem Obj.ren_ice (a b:Nat) (x:Obj):(x.ren a b).isIce=x.isIce:=by cases x<;>rfl
theorem Obj.ren_deep (a b:Nat) (x:Obj):(x.ren a b).isDeep=x.isDeep:=by cases x<;>rfl
theorem H.get_ren_ne {a b o:Nat} (ha:o≠a) (hb:o≠b):∀h:H,H.get o (H.ren a b h)=(H.get o h).map (Obj.ren a b)
 |[]=>rfl
 |(i,x)::r=>by
  simp only [H.ren,H.get]
  cases e:Nat.beq i b
  ·simp only [cond_false]
   cases e2:Nat.beq i o
   ·exact H.get_ren_ne ha hb r
   ·rfl
  ·obtain rfl:=nbeq_eq.1 e
   simp only [cond_true,nbeq_ne.2 (Ne.symm ha),nbeq_ne.2 (Ne.symm hb),cond_false]
   exact H.get_ren_ne ha hb r
theorem H.get_ren_a {a b:Nat}:∀h:H,a∉h.map (·.1)→H.get a (H.ren a b h)=(H.get b h).map (Obj.ren a b)
 |[],_=>rfl
 |(i,x)::r,hn=>by
  simp only [List.map_cons,List.mem_cons,not_or] at hn
  simp only [H.ren,H.get]
  cases e:Nat.beq i b
  ·simp only [cond_false,nbeq_ne.2 (Ne.symm hn.1)]
   exact H.get_ren_a r hn.2
  ·simp only [cond_true,Nat.beq_refl];rfl
theorem H.ren_keys (a b:Nat):∀h:H,(H.ren a b h).map (·.1)=(h.map (·.1)).map fun i=>bif Nat.beq i b then a else i
 |[]=>rfl
 |(i,x)::r=>by simp [H.ren,H.ren_keys a b r]
theorem H.get_ren_b {a b:Nat} (hab:a≠b):∀h:H,H.get b (H.ren a b h)=none:=fun h=>by
 refine H.get_none_of_not_mem b _ ?_
 rw [H.ren_keys]
 intro hm
 obtain ⟨i,-,e⟩:=List.mem_map.1 hm
 cases hi:Nat.beq i b
 ·rw [hi,cond_false] at e
  exact nbeq_ne.1 hi e
 ·rw [hi,cond_true] at e
  exact hab e
theorem H.ren_nodup {a b:Nat} {h:H} (hn:(h.map (·.1)).Nodup) (ha:a∉h.map (·.1)):((H.ren a b h).map (·.1)).Nodup:=by
 rw [H.ren_keys]
 unfold List.Nodup at hn⊢
 rw [List.pairwise_map]
 refine hn.imp_of_mem fun {x y} hx hy hne e=>?_
 cases h1:Nat.beq x b<;>cases h2:Nat.beq y b<;>simp only [h1,h2,cond_true,cond_false] at e
 ·exact hne e
 ·exact ha (e▸hx)
 ·exact ha (e▸hy)
 ·exact hne ((nbeq_eq.1 h1).trans (nbeq_eq.1 h2).symm)
section
variable {σ : Sg} {h : H} {w : World} {a b : Nat}
structure Renamed (σ:Sg) (h:H) (a b:Nat) (σ':Sg) (h':H):Prop where
 val:σ'.val a=σ.val b
 vals:∀o,o≠a→σ'.val o=σ.val o
 fz:σ'.fz=σ.fz
 get:H.get a h'=(H.get b h).map (Obj.ren a b)
 gets:∀o,o≠a→o≠b→H.get o h'=(H.get o h).map (Obj.ren a b)
theorem map_some {α β:Type} {f:α→β} {x:Option α} {y:β} (e:x.map f=some y):∃z,x=some z∧f z=y:=by
 cases x with
 |none=>cases e
 |some z=>exact ⟨z,rfl,Option.some.inj e⟩
theorem live_ren {σ':Sg} {h':H} (r:Renamed σ h a b σ' h') (l:Live h' a):Live h b:=by
 unfold Live at l⊢
 rw [r.get] at l
 exact fun e=>l (by rw [e];rfl)
mutual
theorem RepA.ren {σ':Sg} {h':H} (r:Renamed σ h a b σ' h'):∀(v:AV) (c:Value),a∉v.ids→RepA σ h w v c→RepA σ' h' w (v.ren a b) c
 |.any,_,_,_=>trivial
 |.und,_,_,q=>q
 |.nil,_,_,q=>q
 |.tv t x,_,_,q=>by
  show RepT σ'.fz w t x _
  rw [r.fz];exact q
 |.imp t x off,_,_,q=>by
  obtain ⟨b0,o0,hv,hf,cs,hc,hcell⟩:=q
  exact ⟨b0,o0,hv,by rw [r.fz];exact hf,cs,by rw [r.fz];exact hc,hcell⟩
 |.ptr o off,c,hn,q=>by
  refine ⟨q.1,fun l=>?_⟩
  cases e:Nat.beq o b
  ·rw [e,cond_false] at l;rw [cond_false]
   have hoa:o≠a:=fun e'=>hn (by simp [AV.ids,e'])
   rw [r.vals o hoa]
   refine q.2 ?_
   unfold Live at l⊢
   rw [r.gets o hoa (nbeq_ne.1 e)] at l
   exact fun e=>l (by rw [e];rfl)
  ·rw [e,cond_true] at l
   rw [cond_true,r.val]
   obtain rfl:=nbeq_eq.1 e
   exact q.2 (live_ren r l)
 |.pel o i off,c,hn,q=>by
  refine ⟨q.1,fun x t l g hx=>?_⟩
  cases e:Nat.beq o b
  ·rw [e,cond_false] at g;rw [cond_false]
   have hoa:o≠a:=fun e'=>hn (by simp [AV.ids,e'])
   rw [r.gets o hoa (nbeq_ne.1 e)] at g
   obtain ⟨x0,g0,rfl⟩:=map_some g
   rw [r.vals o hoa]
   rw [Obj.ren_info] at hx
   exact q.2 x0 t l g0 hx
  ·rw [e,cond_true] at g
   rw [cond_true,r.val]
   obtain rfl:=nbeq_eq.1 e
   rw [r.get] at g
   obtain ⟨x0,g0,rfl⟩:=map_some g
   rw [Obj.ren_info] at hx
   exact q.2 x0 t l g0 hx
 |.row o,c,hn,q=>by
  refine ⟨q.1,fun l=>?_⟩
  cases e:Nat.beq o b
  ·rw [e,cond_false] at l;rw [cond_false]
   have hoa:o≠a:=fun e'=>hn (by simp [AV.ids,e'])
   rw [r.vals o hoa]
   refine q.2 ?_
   unfold Live at l⊢
   rw [r.gets o hoa (nbeq_ne.1 e)] at l
   exact fun e=>l (by rw [e];rfl)
  ·rw [e,cond_true] at l
   rw [cond_true,r.val]
   obtain rfl:=nbeq_eq.1 e
   exact q.2 (live_ren r l)
 |.sub _ _ _,_,_,q=>q.elim
 |.mp o,c,hn,q=>by
  refine ⟨q.1,fun l=>?_⟩
  cases e:Nat.beq o b
  ·rw [e,cond_false] at l;rw [cond_false]
   have hoa:o≠a:=fun e'=>hn (by simp [AV.ids,e'])
   rw [r.vals o hoa]
   refine q.2 ?_
   unfold Live at l⊢
   rw [r.gets o hoa (nbeq_ne.1 e)] at l
   exact fun e=>l (by rw [e];rfl)
  ·rw [e,cond_true] at l
   rw [cond_true,r.val]
   obtain rfl:=nbeq_eq.1 e
   exact q.2 (live_ren r l)
 |.fn f cs,_,hn,q=>by obtain ⟨cv,hv,hc⟩:=q;exact ⟨cv,hv,RepAs.ren r cs _ hn hc⟩
 |.imf f cs,_,hn,q=>by obtain ⟨b0,o0,cv,hv,hf,hw,hc⟩:=q;exact ⟨b0,o0,cv,hv,by rw [r.fz];exact hf,hw,RepAs.ren r cs _ hn hc⟩
 |.agg cs,_,hn,q=>by obtain ⟨cv,hv,hc⟩:=q;exact ⟨cv,hv,RepAs.ren r cs _ hn hc⟩
 |.tup cs,_,hn,q=>by obtain ⟨cv,hv,hc⟩:=q;exact ⟨cv,hv,RepAs.ren r cs _ hn hc⟩
theorem RepAs.ren {σ':Sg} {h':H} (r:Renamed σ h a b σ' h'):∀(l:List AV) (c:List Value),a∉AV.idsL l→RepAs σ h w l c→RepAs σ' h' w (AV.renL a b l) c
 |[],[],_,_=>trivial
 |v::l,c::cs,hn,q=>by
  simp only [AV.idsL,List.mem_append,not_or] at hn
  exact ⟨RepA.ren r v c hn.1 q.1,RepAs.ren r l cs hn.2 q.2⟩
 |[],_::_,_,q=>q.elim
 |_::_,[],_,q=>q.elim
end
theorem noHole_get {o:Nat} {x:Obj}:∀{h:H},H.noHole h=true→H.get o h=some x→x.holed=false
 |(i,y)::r,hn,g=>by
  simp only [H.noHole,Bool.and_eq_true,Bool.not_eq_true'] at hn
  simp only [H.get] at g
  cases e:Nat.beq i o
  ·rw [e,cond_false] at g;exact noHole_get hn.2 g
  ·rw [e,cond_true] at g
   obtain rfl:=Option.some.inj g
   exact hn.1
theorem memN_iff {i:Nat} {l:List Nat}:memN i l=true↔i∈l:=by
 unfold memN
 rw [List.any_eq_true]
 exact ⟨fun ⟨x,hx,e⟩=>(nbeq_eq.1 e)▸hx,fun hi=>⟨i,hi,Nat.beq_refl i⟩⟩
theorem del_ids_keys {o:Nat} {h:H} (hn:(h.map (·.1)).Nodup):o∉(H.del o h).map (·.1):=fun hm=>by
 have h1:=H.get_del_same o h hn
 induction h with
 |nil=>cases hm
 |cons p r ih=>
  obtain ⟨i,y⟩:=p
  simp only [List.map_cons,List.nodup_cons] at hn
  simp only [H.del] at hm h1
  cases e:Nat.beq i o
  ·rw [e,cond_false] at hm h1
   simp only [List.map_cons,List.mem_cons] at hm
   rcases hm with rfl|hm
   ·exact absurd rfl (nbeq_ne.1 e)
   ·simp only [H.get,e,cond_false] at h1
    exact ih hn.2 hm h1
  ·rw [e,cond_true] at hm
   obtain rfl:=nbeq_eq.1 e
   exact hn.1 hm
theorem ren_next {t:T} {cs:List Value} (inv:Inv σ h w) (ok:renOk a b t h=true) (r:RepAs σ h w t cs):
  ∃σ',Ext σ h w σ' (H.ren a b (H.del a h)) w∧Inv σ' (H.ren a b (H.del a h)) w∧RepAs σ' (H.ren a b (H.del a h)) w (AV.renL a b t) cs:=by
 unfold renOk at ok
 simp only [Bool.and_eq_true,Bool.not_eq_true'] at ok
 obtain ⟨⟨⟨⟨hb,ha⟩,hai⟩,hnh⟩,hab⟩:=ok
 have hab:a≠b:=nbeq_ne.1 hab
 have ha:a∉AV.idsL t:=fun hm=>by rw [memN_iff.2 hm] at ha;cases ha
 have hai:a∉H.ids (H.del a h):=fun hm=>by rw [memN_iff.2 hm] at hai;cases hai
 have hka:a∉(H.del a h).map (·.1):=del_ids_keys inv.nodup
 have hget:∀o,o≠a→H.get o (H.del a h)=H.get o h:=fun o ho=>H.get_del_ne ho h
 have hR:Renamed σ h a b (σ.setB a (σ.val b) (σ.bs b)) (H.ren a b (H.del a h)):=
  ⟨Sg.setB_same _ _ _ _,fun o ho=>Sg.setB_ne _ _ _ ho,rfl,by rw [H.get_ren_a _ hka,hget b (Ne.symm hab)],fun o h1 h2=>by rw [H.get_ren_ne h1 h2,hget o h1]⟩
 have hnb:=H.get_ren_b hab (H.del a h)
 have src:∀o x,H.get o (H.ren a b (H.del a h))=some x→∃o0 x0,o0≠a∧H.get o0 h=some x0∧x=x0.ren a b∧(σ.setB a (σ.val b) (σ.bs b)).val o=σ.val o0∧(σ.setB a (σ.val b) (σ.bs b)).bs o=σ.bs o0∧((o=a∧o0=b)∨(o≠a∧o0=o)):=by
  intro o x g
  by_cases e1:o=a
  ·subst e1
   rw [hR.get] at g
   obtain ⟨x0,g0,rfl⟩:=map_some g
   exact ⟨b,x0,Ne.symm hab,g0,rfl,Sg.setB_same _ _ _ _,Sg.bsB_same _ _ _ _,.inl ⟨rfl,rfl⟩⟩
  ·by_cases e2:o=b
   ·subst e2;rw [hnb] at g;cases g
   ·rw [hR.gets o e1 e2] at g
    obtain ⟨x0,g0,rfl⟩:=map_some g
    exact ⟨o,x0,e1,g0,rfl,Sg.setB_ne _ _ _ e1,Sg.bsB_ne _ _ _ e1,.inr ⟨e1,rfl⟩⟩
 have own:∀o,Own (H.ren a b (H.del a h)) o→∃o0,o0≠a∧Own h o0∧(σ.setB a (σ.val b) (σ.bs b)).bs o=σ.bs o0∧((o=a∧o0=b)∨(o≠a∧o0=o)):=by
  rintro o ⟨x,g,hx⟩
  obtain ⟨o0,x0,h1,h2,rfl,-,h4,h5⟩:=src o x g
  exact ⟨o0,h1,⟨x0,h2,by rw [←Obj.ren_ice a b];exact hx⟩,h4,h5⟩
 have mention:∀o x,o≠a→H.get o h=some x→a∉x.ids:=fun o x ho g hm=>hai (H.ids_of_get (by rw [hget o ho];exact g) hm)
 refine ⟨σ.setB a (σ.val b) (σ.bs b),⟨rfl,rfl,rfl,Nat.le_refl _,fun _ h=>h,fun _ _ _=>rfl,fun _ h=>.inl h,fun o b' l hb'=>?_⟩,⟨fun o x g=>?_,fun o l b' hb'=>?_,fun o o' l l' hne b' hb'=>?_,inv.fzlt,H.ren_nodup (H.nodup_del a h inv.nodup) hka,fun o x g d=>?_,fun o l b' hb'=>?_⟩,RepAs.ren hR t cs ha r⟩
 ·obtain ⟨o0,-,l0,e,-⟩:=own o l
  rw [e] at hb'
  exact .inl ⟨o0,l0,hb'⟩
 ·obtain ⟨o0,x0,h1,h2,rfl,h3,h4,-⟩:=src o x g
  have hr:=inv.objs o0 x0 h2
  have hm:=mention o0 x0 h1 h2
  cases x0 with
  |box cs=>
   obtain ⟨bb,vs,ty,q1,q2,q3⟩:=hr
   exact ⟨bb,vs,ty,by rw [h3];exact q1,q2,RepAs.ren hR cs _ hm q3⟩
  |row el k xs=>
   obtain ⟨cs,q1,q2⟩:=hr
   exact ⟨cs,by rw [h3];exact q1,q2⟩
  |map=>exact map_mono hr h3 (fun _ h=>h) (fun _ _=>rfl) fun _ _=>rfl
  |cel=>exact cel_mono hr h3 (fun _ h=>h) (fun _ _=>rfl)
  |ice k xs=>
   show RepP _ w _ (Sg.val _ o)
   rw [h3];exact hr
  |deep m k xs q=>
   have hq:q=none:=by
    have:=noHole_get hnh h2
    cases q with
    |none=>rfl
    |some _=>cases this
   subst hq
   obtain ⟨cs,bss,q1,q2,q3,q4,q5,q6⟩:=hr
   refine ⟨cs,bss,by rw [h3];exact q1,q2,fun p pv c bs e1 e2 e3=>?_,by rw [h4,h3];exact q4,by rw [h4];exact q5,fun i off v e=>by cases e⟩
   have:=q3 p pv c bs e1 e2 e3
   exact this
 ·obtain ⟨o0,-,l0,e,-⟩:=own o l
  rw [e] at hb'
  exact inv.nofz o0 l0 b' hb'
 ·obtain ⟨o0,h1,l0,e,c0⟩:=own o l
  obtain ⟨o1,h1',l1,e',c1⟩:=own o' l'
  rw [e] at hb'
  rw [e']
  refine inv.inj o0 o1 l0 l1 (fun e0=>?_) b' hb'
  rcases c0 with ⟨p1,p2⟩|⟨p1,p2⟩<;>rcases c1 with ⟨p3,p4⟩|⟨p3,p4⟩
  ·exact hne (p1.trans p3.symm)
  ·obtain ⟨x,g,-⟩:=l'
   rw [←p4,←e0,p2,hnb] at g
   cases g
  ·obtain ⟨x,g,-⟩:=l
   rw [←p2,e0,p4,hnb] at g
   cases g
  ·exact hne (p2▸p4▸e0)
 ·obtain ⟨o0,x0,h1,h2,rfl,h3,h4,-⟩:=src o x g
  rw [h3,h4]
  exact inv.bsok o0 x0 h2 (by rw [←Obj.ren_deep a b];exact d)
 ·obtain ⟨o0,-,l0,e,-⟩:=own o l
  rw [e] at hb'
  exact inv.bslt o0 l0 b' hb'
theorem renAll_next (dep:Nat):∀(l:List (Nat×Nat)) {σ:Sg} {t:T} {h:H} {cs:List Value},Inv σ h w→RepAs σ h w t cs→
  ∃σ',Ext σ h w σ' (renAll dep l (t,h)).2 w∧Inv σ' (renAll dep l (t,h)).2 w∧RepAs σ' (renAll dep l (t,h)).2 w (renAll dep l (t,h)).1 cs
 |[],σ,t,h,cs,inv,r=>⟨σ,Ext.refl _ _ _,inv,r⟩
 |p::l,σ,t,h,cs,inv,r=>by
  cases ok:renOk (dep+p.1) (dep+p.2) t h
  ·have e:renAll dep (p::l) (t,h)=renAll dep l (t,h):=by
    show renAll dep l (ren1 dep p (t,h))=_
    unfold ren1
    simp only [ok,cond_false]
   rw [e]
   exact renAll_next dep l inv r
  ·obtain ⟨σ1,q1,q2,q3⟩:=ren_next inv ok r
   have e:renAll dep (p::l) (t,h)=renAll dep l (AV.renL (dep+p.1) (dep+p.2) t,H.ren (dep+p.1) (dep+p.2) (H.del (dep+p.1) h)):=by
    show renAll dep l (ren1 dep p (t,h))=_
    unfold ren1
    simp only [ok,cond_true]
   rw [e]
   obtain ⟨σ2,k1,k2,k3⟩:=renAll_next dep l q2 q3
   exact ⟨σ2,q1.trans k1,k2,k3⟩
end
end Go.Proofs.YtfdcjocallblcaaGreatDoor.Ev
