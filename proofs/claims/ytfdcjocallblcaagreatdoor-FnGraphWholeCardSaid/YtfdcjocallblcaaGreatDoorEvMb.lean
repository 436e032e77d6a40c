/- Rows that are owned whole: loads, stores, literals, make, append. No conditions. -/
import Derived.Test.YtfdcjocallblcaaGreatDoorEvMa
namespace Go.Proofs.YtfdcjocallblcaaGreatDoor.Ev
open Go
theorem pos_div {z i off:Nat} (h:off<z):(i*z+off)/z=i∧(i*z+off)%z=off:=by
 have hz:0<z:=by omega
 constructor
 ·rw [Nat.add_comm,Nat.add_mul_div_right _ _ hz,Nat.div_eq_of_lt h,Nat.zero_add]
 ·rw [Nat.add_comm,Nat.add_mul_mod_self_right,Nat.mod_eq_of_lt h]
theorem pos_lt {z i off n:Nat} (h:off<z) (hi:i<n):i*z+off<n*z:=by
 calc i*z+off<i*z+z:=by omega
  _=(i+1)*z:=by rw [Nat.add_mul,Nat.one_mul]
  _≤n*z:=Nat.mul_le_mul_right _ hi
theorem listAt_eq {α:Type} {xs:List α} {d:α} {i:Nat} (hi:i<xs.length):listAt xs d i=xs[i]:=by
 unfold listAt
 rw [List.getD_eq_getElem?_getD,List.getElem?_eq_getElem hi];rfl
theorem enc_at {k:Ty} {xs:List k.den} {i off:Nat} (hpos:1≤nCells k) (hi:i<xs.length) (ho:off<nCells k):(xs.flatMap (enc k))[i*nCells k+off]?=(enc k (listAt xs k.dflt i))[off]?:=by
 rw [flatMap_get (enc k) (nCells k) hpos xs (fun x _=>enc_length k x),(pos_div ho).1,(pos_div ho).2,List.getElem?_eq_getElem hi,listAt_eq hi];rfl
section
variable {σ : Sg} {h : H} {w : World}
theorem deep_cell {ob m:Nat} {k:Ty} {xs:List k.den} {cs:List Value} {bss:List (List Nat)} (hown:w.ownsRow 0 (tidOf m k) (nCells k) (σ.val ob) xs.length cs) (hb:bss.length=cs.length) {i off:Nat} (hi:i<xs.length) (ho:off<nCells k):
  ∃c bs pv,cs[i*nCells k+off]?=some c∧bss[i*nCells k+off]?=some bs∧(enc k (listAt xs k.dflt i))[off]?=some pv∧(xs.flatMap (enc k))[i*nCells k+off]?=some pv:=by
 have hlt:i*nCells k+off<cs.length:=by rw [hown.1];exact pos_lt ho hi
 have hpv:off<(enc k (listAt xs k.dflt i)).length:=by rw [enc_length];exact ho
 exact ⟨_,_,_,List.getElem?_eq_getElem hlt,List.getElem?_eq_getElem (by rw [hb];exact hlt),List.getElem?_eq_getElem hpv,by rw [enc_at (by omega) hi ho];exact List.getElem?_eq_getElem hpv⟩
theorem cellsAV_get {k:Ty} {x:k.den} {off:Nat} {t':Ty} {y:t'.den} (e:(cellsAV k x)[off]?=some (.tv t' y)):t'=cellTy k off∧off<nCells k∧∃p,enc t' y=[p]∧(enc k x)[off]?=some p:=by
 have scal:isSt k=false→cellsAV k x=[.tv k x]→t'=cellTy k off∧off<nCells k∧∃p,enc t' y=[p]∧(enc k x)[off]?=some p:=by
  intro hst hc
  rw [hc] at e
  match off,e with
  |0,e=>
   have e:=Option.some.inj e
   have h1:nCells k=1:=by cases k<;>first|rfl|cases hst
   have hct:cellTy k 0=k:=by cases k<;>first|rfl|cases hst
   injection e with e1 e2
   subst e1
   obtain rfl:=eq_of_heq e2
   refine ⟨hct.symm,by omega,?_⟩
   have hlen:=enc_length k x
   rw [h1] at hlen
   match hq:enc k x,hlen with
   |[p],_=>exact ⟨p,rfl,rfl⟩
  |n+1,e=>cases e
 cases k with
 |st i=>
  obtain ⟨z,p,k1,-,k2,k3⟩:=cellsAV_at e
  obtain ⟨h1,h2⟩:=toTy_tv k1
  refine ⟨h1,by rw [←enc_length (.st i) x];exact (List.getElem?_eq_some_iff.1 k3).1,p,?_,k3⟩
  rw [←k2,h2]
  clear k1 k2 k3 h2 e
  generalize cellTy (.st i) off=q at*
  subst h1
  rfl
 |_=>exact scal rfl rfl
theorem RepO.flat {m:Nat} {t t':Ty} {p:PV} {c:Value} {bs:List Nat} {y:t'.den} (r:RepO m w t p c bs) (hf:flatT t'=true) (he:enc t' y=[p]):RepA σ h w (.tv t' y) c:=by
 cases t' with
 |bool=>obtain rfl:PV.bool y=p:=by simpa [enc] using he
        cases r;exact mk_bool _
 |int k=>obtain rfl:PV.int k y=p:=by simpa [enc] using he
         cases r;exact mk_int _ _
 |str=>obtain rfl:PV.str y=p:=by simpa [enc] using he
       cases r;exact mk_str _
 |_=>cases hf
theorem split_change (inv:Inv σ h w) {ob site:Nat} (hs:site∉H.ids h) (g:Own h ob) (obj' objs:Obj) (nv:Value) (bs1 bs2:List Nat) (h1:∀b∈bs1,b∈σ.bs ob) (h2:∀b∈bs2,b∈σ.bs ob) (h12:∀b∈bs1,b∉bs2)
  (hd1:obj'.isDeep=true) (hd2:objs.isDeep=false→bs2=(blk nv).toList) (hsame:SameO σ ((σ.setB ob (σ.val ob) bs1).setB site nv bs2) h (H.put ob obj' (H.put site objs h)) ob)
  (ho1:ObjRep ((σ.setB ob (σ.val ob) bs1).setB site nv bs2) (H.put ob obj' (H.put site objs h)) w ob obj') (ho2:ObjRep ((σ.setB ob (σ.val ob) bs1).setB site nv bs2) (H.put ob obj' (H.put site objs h)) w site objs):
  Ext σ h w ((σ.setB ob (σ.val ob) bs1).setB site nv bs2) (H.put ob obj' (H.put site objs h)) w∧Inv ((σ.setB ob (σ.val ob) bs1).setB site nv bs2) (H.put ob obj' (H.put site objs h)) w∧
   (∀a c,site∉AV.ids a→RepA σ h w a c→RepA ((σ.setB ob (σ.val ob) bs1).setB site nv bs2) (H.put ob obj' (H.put site objs h)) w a c):=by
 have hne:site≠ob:=fun e=>by
  obtain ⟨x,gx,-⟩:=g
  exact hs (H.ids_of_mem (by rw [e];exact H.mem_of_get gx))
 have gob:H.get ob (H.put ob obj' (H.put site objs h))=some obj':=H.get_put_same _ _ _
 have gsi:H.get site (H.put ob obj' (H.put site objs h))=some objs:=by rw [H.get_put_ne _ hne];exact H.get_put_same _ _ _
 have hget:∀o,o≠ob→o≠site→H.get o (H.put ob obj' (H.put site objs h))=H.get o h:=fun o q1 q2=>by rw [H.get_put_ne _ q1,H.get_put_ne _ q2]
 have hval:∀o,o≠site→((σ.setB ob (σ.val ob) bs1).setB site nv bs2).val o=σ.val o:=fun o q=>by
  rw [Sg.setB_ne _ _ _ q]
  by_cases e:o=ob
  ·subst e;exact Sg.setB_same _ _ _ _
  ·exact Sg.setB_ne _ _ _ e
 have hbob:((σ.setB ob (σ.val ob) bs1).setB site nv bs2).bs ob=bs1:=by rw [Sg.bsB_ne _ _ _ (Ne.symm hne)];exact Sg.bsB_same _ _ _ _
 have hbsi:((σ.setB ob (σ.val ob) bs1).setB site nv bs2).bs site=bs2:=Sg.bsB_same _ _ _ _
 have hbs:∀o,o≠ob→o≠site→((σ.setB ob (σ.val ob) bs1).setB site nv bs2).bs o=σ.bs o:=fun o q1 q2=>by rw [Sg.bsB_ne _ _ _ q2,Sg.bsB_ne _ _ _ q1]
 have same:∀i,i≠site→SameO σ ((σ.setB ob (σ.val ob) bs1).setB site nv bs2) h (H.put ob obj' (H.put site objs h)) i:=fun i hi=>by
  by_cases e:i=ob
  ·subst e;exact hsame
  ·exact sameO_eq (hget i e hi) (hval i hi)
 have own:∀o,o≠site→Own (H.put ob obj' (H.put site objs h)) o→Own h o:=fun o q l=>by
  by_cases e:o=ob
  ·subst e;exact g
  ·exact (own_eq (hget o e q)).1 l
 have keep:∀a c,site∉AV.ids a→RepA σ h w a c→RepA ((σ.setB ob (σ.val ob) bs1).setB site nv bs2) (H.put ob obj' (H.put site objs h)) w a c:=fun a c hn r=>
  RepA.mono (σ:=σ) (σ':=(σ.setB ob (σ.val ob) bs1).setB site nv bs2) (fun _ h=>h) (fun _ _=>rfl) a c (fun o ho=>same o fun e=>hn (e▸ho)) r
 have keeps:∀a c,site∉AV.idsL a→RepAs σ h w a c→RepAs ((σ.setB ob (σ.val ob) bs1).setB site nv bs2) (H.put ob obj' (H.put site objs h)) w a c:=fun a c hn r=>
  RepAs.mono (σ:=σ) (σ':=(σ.setB ob (σ.val ob) bs1).setB site nv bs2) (fun _ h=>h) (fun _ _=>rfl) a c (fun o ho=>same o fun e=>hn (e▸ho)) r
 have from_:∀o,Own (H.put ob obj' (H.put site objs h)) o→∀b,b∈((σ.setB ob (σ.val ob) bs1).setB site nv bs2).bs o→∃o',Own h o'∧b∈σ.bs o'∧(o'=o∨(o=site∧o'=ob)):=fun o l b hb=>by
  by_cases e:o=site
  ·subst e;rw [hbsi] at hb;exact ⟨ob,g,h2 b hb,.inr ⟨rfl,rfl⟩⟩
  ·by_cases e2:o=ob
   ·subst e2;rw [hbob] at hb;exact ⟨o,g,h1 b hb,.inl rfl⟩
   ·rw [hbs o e2 e] at hb;exact ⟨o,own o e l,hb,.inl rfl⟩
 refine ⟨⟨rfl,rfl,rfl,Nat.le_refl _,fun _ h=>h,fun _ _ _=>rfl,fun _ h=>.inl h,fun o b l hb=>?_⟩,⟨fun o x gx=>?_,fun o l b hb=>?_,fun o o' l l' hn b hb hb'=>?_,inv.fzlt,H.nodup_put _ _ _ (H.nodup_put _ _ _ inv.nodup),fun o x gx d=>?_,fun o l b hb=>?_⟩,keep⟩
 ·obtain ⟨o',l',hb',-⟩:=from_ o l b hb
  exact .inl ⟨o',l',hb'⟩
 ·by_cases e:o=ob
  ·subst e
   rw [gob] at gx
   obtain rfl:=Option.some.inj gx
   exact ho1
  ·by_cases e2:o=site
   ·subst e2
    rw [gsi] at gx
    obtain rfl:=Option.some.inj gx
    exact ho2
   ·rw [hget o e e2] at gx
    have hr:=inv.objs o x gx
    have hni:∀i∈x.ids,i≠site:=fun i hi e=>hs (e▸H.ids_of_get gx hi)
    cases x with
    |box cs=>
     obtain ⟨b,vs,ty,hv,hb,hc⟩:=hr
     exact ⟨b,vs,ty,by rw [hval o e2,hv],hb,keeps _ _ (fun hi=>hni site hi rfl) hc⟩
    |row el t xs=>
     obtain ⟨cs,q1,q2⟩:=hr
     exact ⟨cs,by rw [hval o e2];exact q1,q2⟩
    |map=>exact map_mono hr (hval o e2) (fun _ h=>h) (fun _ _=>rfl) fun _ _=>rfl
    |cel=>exact cel_mono hr (hval o e2) (fun _ h=>h) (fun _ _=>rfl)
    |ice t xs=>
     show RepP _ w _ (Sg.val _ o)
     rw [hval o e2];exact hr
    |deep m t xs q=>exact deep_mono hr (hval o e2) (hbs o e e2) (fun _ _=>rfl) fun i off v c hq r=>keep v c (fun hi=>by subst hq;exact hni site hi rfl) r
 ·obtain ⟨o',l',hb',-⟩:=from_ o l b hb
  exact inv.nofz o' l' b hb'
 ·obtain ⟨p,lp,hp,hpo⟩:=from_ o l b hb
  obtain ⟨p',lp',hp',hpo'⟩:=from_ o' l' b hb'
  have hpp:p=p':=by
   by_cases e:p=p'
   ·exact e
   ·exact absurd hp' (inv.inj p p' lp lp' e b hp)
  subst hpp
  rcases hpo with rfl|⟨rfl,rfl⟩
  ·rcases hpo' with rfl|⟨rfl,rfl⟩
   ·exact hn rfl
   ·rw [hbob] at hb;rw [hbsi] at hb';exact h12 b hb hb'
  ·rcases hpo' with rfl|⟨rfl,-⟩
   ·rw [hbob] at hb';rw [hbsi] at hb;exact h12 b hb' hb
   ·exact hn rfl
 ·by_cases e:o=ob
  ·subst e
   rw [gob] at gx
   obtain rfl:=Option.some.inj gx
   rw [hd1] at d;cases d
  ·by_cases e2:o=site
   ·subst e2
    rw [gsi] at gx
    obtain rfl:=Option.some.inj gx
    rw [hbsi,Sg.setB_same];exact hd2 d
   ·rw [hget o e e2] at gx
    rw [hbs o e e2,hval o e2]
    exact inv.bsok o x gx d
 ·obtain ⟨o',l',hb',-⟩:=from_ o l b hb
  exact inv.bslt o' l' b hb'
theorem patch_flat (L N:List (List Nat)) (p:Nat) (hn:L.flatten.Nodup):(∀b,b∈(L.take p++N++L.drop (p+N.length)).flatten→(b∈L.flatten∧∀q M,q<N.length→L[p+q]?=some M→b∉M)∨b∈N.flatten)∧
  (N.flatten.Nodup→(∀b∈N.flatten,b∉L.flatten)→(L.take p++N++L.drop (p+N.length)).flatten.Nodup):=by
 have hL:L.flatten=(L.take p).flatten++((L.drop p).take N.length).flatten++(L.drop (p+N.length)).flatten:=by
  rw [←List.flatten_append,←List.flatten_append,←List.drop_drop,List.append_assoc,List.take_append_drop,List.take_append_drop]
 rw [hL] at hn
 have hn1:=List.nodup_append.1 hn
 have hn2:=List.nodup_append.1 hn1.1
 have hmid:∀q M,q<N.length→L[p+q]?=some M→∀b∈M,b∈((L.drop p).take N.length).flatten:=fun q M hq hM b hb=>by
  refine List.mem_flatten.2 ⟨M,List.mem_of_getElem? (i:=q) ?_,hb⟩
  rw [List.getElem?_take,if_pos hq,List.getElem?_drop];exact hM
 constructor
 ·intro b hb
  rw [List.flatten_append,List.flatten_append,List.mem_append,List.mem_append] at hb
  rcases hb with (hb|hb)|hb
  ·refine .inl ⟨by rw [hL];simp only [List.mem_append];exact .inl (.inl hb),fun q M hq hM hbM=>?_⟩
   exact hn2.2.2 b hb b (hmid q M hq hM b hbM) rfl
  ·exact .inr hb
  ·refine .inl ⟨by rw [hL];simp only [List.mem_append];exact .inr hb,fun q M hq hM hbM=>?_⟩
   exact hn1.2.2 b (List.mem_append_right _ (hmid q M hq hM b hbM)) b hb rfl
 ·intro hN hd
  rw [List.flatten_append,List.flatten_append]
  refine List.nodup_append.2 ⟨List.nodup_append.2 ⟨hn2.1,hN,fun a ha b hb e=>?_⟩,hn1.2.1,fun a ha b hb e=>?_⟩
  ·subst e;exact hd a hb (by rw [hL];simp only [List.mem_append];exact .inl (.inl ha))
  ·subst e
   rcases List.mem_append.1 ha with ha|ha
   ·exact hn1.2.2 a (List.mem_append_left _ ha) a hb rfl
   ·exact hd a ha (by rw [hL];simp only [List.mem_append];exact .inr hb)
theorem RepO.notsl {m:Nat} {t:Ty} {p:PV} {c:Value} {bs:List Nat} (r:RepO m w t p c bs) (h:∀es,p≠.sl es):bs=[]:=by
 cases r with
 |sl t es=>exact absurd rfl (h es)
 |_=>rfl
theorem holeAt_ne {t:Ty} {i off:Nat} {v:AV} {p:Nat} (h:p≠i*nCells t+off):holeAt t (some (i,off,v)) p=none:=if_neg h
theorem holeAt_eq {t:Ty} {i off:Nat} {v:AV}:holeAt t (some (i,off,v)) (i*nCells t+off)=some v:=if_pos rfl
theorem row_off {e z n:Nat} {v:Value} {cs:List Value} {b m c:Nat} (ho:w.ownsRow 0 e z v n cs) (hv:v=.slice (some ⟨b,0,none⟩) m c):∀j u,cs[j]?=some u→w.cell? ⟨b,j,none⟩=some u:=by
 subst hv
 exact rowCells ho
theorem kid_obj {σ':Sg} {h':H} {m:Nat} {e:Ty} {ys:List e.den} {c:Value} {bs:List Nat} {site:Nat} (r:RepO m w (.sl e) (.sl (ys.map (enc e))) c bs) (hv:σ'.val site=c) (hb:σ'.bs site=bs) (hn:bs.Nodup):
  ObjRep σ' h' w site (kidObj m e ys)∧((kidObj m e ys).isDeep=false→bs=(blk c).toList):=by
 generalize hp:PV.sl (ys.map (enc e))=pv at r
 generalize ht:Ty.sl e=ty at r
 cases r with
 |bool _ _=>cases hp
 |int _ _ _=>cases hp
 |str _ _=>cases hp
 |sl t es v cs bss hown hz hbl hr=>
  injection hp with hp
  injection ht with ht
  subst ht
  subst hp
  rw [List.length_map] at hown
  rw [←List.flatMap_def] at hr
  unfold kidObj
  cases hm:memT e with
  |true=>
   rw [cond_true]
   exact ⟨⟨cs,bss,by rw [hv];exact hown,hbl,hr,by rw [hb,hv],by rw [hb];exact hn,fun _ _ _ e=>by cases e⟩,fun d=>by cases d⟩
  |false=>
   rw [cond_false]
   have flat:∀(p:Nat) (pv:PV),(ys.flatMap (enc e))[p]?=some pv→∀es,pv≠PV.sl es:=fun p pv hp es=>by
    obtain ⟨y,-,hy⟩:=List.mem_flatMap.1 (List.mem_of_getElem? hp)
    exact enc_flat hm y pv hy es
   have hlen:(ys.flatMap (enc e)).length=cs.length:=by rw [flatMap_length (enc e) (nCells e) ys (fun x _=>enc_length e x),hown.1]
   have cell:∀(p:Nat) (pv:PV) (c:Value),(ys.flatMap (enc e))[p]?=some pv→cs[p]?=some c→∃bs,bss[p]?=some bs∧RepO m w (cellTy e (p%nCells e)) pv c bs∧bs=[]:=fun p pv c hp hc=>by
    have hlt:p<bss.length:=by rw [hbl];exact (List.getElem?_eq_some_iff.1 hc).1
    have h1:=hr p pv c _ hp hc (List.getElem?_eq_getElem hlt)
    exact ⟨_,List.getElem?_eq_getElem hlt,h1,h1.notsl (flat p pv hp)⟩
   refine ⟨⟨cs,by rw [hv];exact hown,RepPs.mk hlen fun p pv c hp hc=>?_⟩,fun _=>?_⟩
   ·obtain ⟨bs,-,h2,h3⟩:=cell p pv c hp hc
    subst h3
    exact RepO.frozen h2 (fun b hb=>by cases hb)
   ·have:bss.flatten=[]:=by
     rw [List.flatten_eq_nil_iff]
     intro l hl
     obtain ⟨p,hp,hpl⟩:=List.getElem_of_mem hl
     have hc:p<cs.length:=by rw [←hbl];exact hp
     obtain ⟨bs,k1,-,k3⟩:=cell p _ _ (List.getElem?_eq_getElem (by rw [hlen];exact hc)) (List.getElem?_eq_getElem hc)
     rw [List.getElem?_eq_getElem hp] at k1
     rw [←hpl,Option.some.inj k1,k3]
    rw [this,List.append_nil]
end
section
variable {E : Env} {o : Oper} {site : Nat} {vs : List AV} {h : H} {vw : View} {v : AV} {u : Upd} {ks : List Nat}
theorem sim_loadD {t:TypeId} {x:Operand} {ob i off m:Nat} {k:Ty} {xs:List k.den} (hs:Shows vw h) (ho:o.op=.load t x) (hg:vw ob=some (.deep m k xs none)) (e:evLoadD E t site ob i off m k xs pk=some (v,u,ks)):
  Sim E.P o site [.pel ob i off] h v u ks:=by
 have hgg:=hs _ _ hg
 unfold evLoadD at e
 split at e
 ·rename_i hag
  have read:∀(σ:Sg) (w:World) (a:Act),Inv σ h w→RepAs σ h w [.pel ob i off] (o.op.operands.toList.map a.eval)→∀t' y,(cellsAV k (listAt xs k.dflt i))[off]?=some (.tv t' y)→
    ∃(cs:List Value) (bss:List (List Nat)) (c:Value) (bs:List Nat) (pv:PV),w.ownsRow 0 (tidOf m k) (nCells k) (σ.val ob) xs.length cs∧bss.length=cs.length∧(∀(p:Nat) (pv:PV) (c:Value) (bs:List Nat),(xs.flatMap (enc k))[p]?=some pv→cs[p]?=some c→bss[p]?=some bs→RepO m w (cellTy k (p%nCells k)) pv c bs)∧
     σ.bs ob=(blk (σ.val ob)).toList++bss.flatten∧(σ.bs ob).Nodup∧off<nCells k∧i<xs.length∧cs[i*nCells k+off]?=some c∧bss[i*nCells k+off]?=some bs∧enc t' y=[pv]∧RepO m w t' pv c bs∧(execOp a.eval o).run E.P w=.ok (.value c) w:=by
   intro σ w a inv r t' y hy
   simp only [ho,Op.operands,List.map_cons,List.map_nil] at r
   obtain ⟨hi,b,n,c0,hb,hv⟩:=r.1.2 _ _ _ hgg rfl
   obtain ⟨cs,bss,h1,h2,h3,h4,h5,-⟩:=inv.objs _ _ hgg
   obtain ⟨q1,q2,p,q3,q4⟩:=cellsAV_get hy
   obtain ⟨c,bs,pv,d1,d2,d3,d4⟩:=deep_cell h1 h2 hi q2
   rw [q4] at d3
   obtain rfl:=Option.some.inj d3
   have h6:RepO m w (cellTy k ((i*nCells k+off)%nCells k)) p c bs:=h3 _ p c bs d4 d1 d2
   rw [(pos_div q2).2,←q1] at h6
   refine ⟨cs,bss,c,bs,p,h1,h2,fun p pv c bs hp hc hb=>h3 p pv c bs hp hc hb,h4,h5,q2,hi,d1,d2,q3,h6,?_⟩
   have hcell:=row_off h1 hb _ _ d1
   simp only [execOp,ho,hv,Instr.loadAt,Instr.sureAddr]
   have hrun:(loadVar t ⟨b,i*nCells k+off,none⟩).run E.P w=.ok c w:=by
    simp only [loadVar,Sem.run_bind,run_isAgg hag,Result.andThen_ok]
    simp [hcell]
   simp [hrun]
  split at e
  ·rename_i e' ys hc
   cases e
   intro hsite σ w a inv r next Q hn
   have hsite:=hsite ⟨_,List.mem_cons_self ..⟩
   obtain ⟨cs,bss,c,bs,pv,h1,h2,h3,h4,h5,q2,hi,d1,d2,he,h6,hrun⟩:=read σ w a inv r _ _ hc
   have hpv:pv=.sl (List.map (enc e') ys):=by simpa [enc] using he.symm
   subst hpv
   have hne:site≠ob:=fun e=>hsite.1 (by rw [e];exact H.ids_of_mem (H.mem_of_get hgg))
   have hplt:i*nCells k+off<bss.length:=(List.getElem?_eq_some_iff.1 d2).1
   have hset:bss.set (i*nCells k+off) []=bss.take (i*nCells k+off)++[[]]++bss.drop (i*nCells k+off+([[]]:List (List Nat)).length):=by
    rw [List.set_eq_take_append_cons_drop,if_pos hplt];simp
   have hnd:bss.flatten.Nodup:=by rw [h4] at h5;exact (List.nodup_append.1 h5).2.1
   have hdj:∀b∈(blk (σ.val ob)).toList,∀b'∈bss.flatten,b≠b':=by rw [h4] at h5;exact (List.nodup_append.1 h5).2.2
   obtain ⟨p1,p2⟩:=patch_flat bss [[]] (i*nCells k+off) hnd
   have hsub:∀b∈(bss.set (i*nCells k+off) []).flatten,b∈bss.flatten∧b∉bs:=fun b hb=>by
    rw [hset] at hb
    rcases p1 b hb with ⟨k1,k2⟩|hb
    ·exact ⟨k1,k2 0 bs (by simp) d2⟩
    ·simp at hb
   have hbsin:∀b∈bs,b∈bss.flatten:=fun b hb=>List.mem_flatten.2 ⟨bs,List.mem_of_getElem? d2,hb⟩
   have hval:((σ.setB ob (σ.val ob) ((blk (σ.val ob)).toList++(bss.set (i*nCells k+off) []).flatten)).setB site c bs).val ob=σ.val ob:=by rw [Sg.setB_ne _ _ _ (Ne.symm hne),Sg.setB_same]
   have hnb:bs.Nodup:=by
    have:=List.sublist_flatten_of_mem (List.mem_of_getElem? d2)
    exact this.nodup hnd
   obtain ⟨ko1,ko2⟩:=kid_obj (σ':=(σ.setB ob (σ.val ob) ((blk (σ.val ob)).toList++(bss.set (i*nCells k+off) []).flatten)).setB site c bs) (h':=H.put ob (.deep m k xs (some (i,off,.row site))) (H.put site (kidObj m e' ys) h)) (site:=site) h6 (Sg.setB_same _ _ _ _) (Sg.bsB_same _ _ _ _) hnb
   have hlive:Live (H.put ob (.deep m k xs (some (i,off,.row site))) (H.put site (kidObj m e' ys) h)) site:=by
    unfold Live;rw [H.get_put_ne _ hne,H.get_put_same];simp
   obtain ⟨e1,e2,e3⟩:=split_change inv hsite.1 (own_deep hgg) (.deep m k xs (some (i,off,.row site))) (kidObj m e' ys) c ((blk (σ.val ob)).toList++(bss.set (i*nCells k+off) []).flatten) bs
    (fun b hb=>by
     rw [h4]
     rcases List.mem_append.1 hb with hb|hb
     ·exact List.mem_append_left _ hb
     ·exact List.mem_append_right _ (hsub b hb).1)
    (fun b hb=>by rw [h4];exact List.mem_append_right _ (hbsin b hb))
    (fun b hb hb'=>by
     rcases List.mem_append.1 hb with hb|hb
     ·exact hdj b hb b (hbsin b hb') rfl
     ·exact (hsub b hb).2 hb')
    rfl ko2 (.inr ⟨live_of hgg,hval,fun x' q hx hq=>⟨_,hgg,by rw [H.get_put_same] at hx;obtain rfl:=Option.some.inj hx;exact hq⟩⟩)
    ⟨cs,bss.set (i*nCells k+off) [],by rw [hval];exact h1,by rw [List.length_set];exact h2,fun p pv c' bs' hp hc' hb'=>by
      by_cases hpe:p=i*nCells k+off
      ·subst hpe
       rw [holeAt_eq]
       rw [d1] at hc'
       obtain rfl:=Option.some.inj hc'
       rw [List.getElem?_set_self hplt] at hb'
       exact ⟨(Option.some.inj hb').symm,h6.oneCell,h6.oneCell,fun _=>(Sg.setB_same _ _ _ _).symm⟩
      ·rw [holeAt_ne hpe]
       rw [List.getElem?_set_ne (Ne.symm hpe)] at hb'
       exact h3 p pv c' bs' hp hc' hb',
     by rw [Sg.bsB_ne _ _ _ (Ne.symm hne),Sg.bsB_same,hval],by
      rw [Sg.bsB_ne _ _ _ (Ne.symm hne),Sg.bsB_same]
      refine List.nodup_append.2 ⟨by cases blk (σ.val ob)<;>simp,by rw [hset];exact p2 (by simp) (by simp),fun a ha b hb e=>?_⟩
      exact hdj a ha b (hsub b hb).1 e,fun i' off' v' e=>by simp at e;rw [←e.1];exact hi⟩
    ko1
   refine wp_value hrun (hn _ w c ⟨e1,e2,⟨h6.oneCell,fun _=>(Sg.setB_same _ _ _ _).symm⟩,fun a' c' ha' r'=>e3 a' c' (fun hi=>(ha' site hi).2 rfl _ (List.mem_cons_self ..)) r'⟩)
  ·rename_i t' y hnsl hc
   replace e:=cond_some e
   obtain ⟨hf,e⟩:=e
   cases e
   refine sim_pure fun σ w a inv r=>?_
   obtain ⟨cs,bss,c,bs,pv,h1,h2,h3,h4,h5,q2,hi,d1,d2,he,h6,hrun⟩:=read σ w a inv r _ _ hc
   exact ⟨c,hrun,RepO.flat h6 hf he⟩
  ·cases e
 ·cases e
end
end Go.Proofs.YtfdcjocallblcaaGreatDoor.Ev
