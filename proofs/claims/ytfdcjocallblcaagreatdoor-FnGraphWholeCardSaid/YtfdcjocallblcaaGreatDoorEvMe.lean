/- Rows that are owned whole: append; what is lent is given back; nil that becomes an empty row. No conditions. -/
import Derived.Test.YtfdcjocallblcaaGreatDoorEvMd
namespace Go.Proofs.YtfdcjocallblcaaGreatDoor.Ev
open Go
section
variable {E : Env} {site : Nat} {vs : List AV} {h : H} {vw : View} {v : AV} {u : Upd} {ks : List Nat}
theorem ownDeep_some {t:TypeId} {k:Ty} {p:AV} {o m:Nat} {xs:List k.den} (e:ownDeep E t k vw p=some (o,m,xs)):p=.row o∧vw o=some (.deep m k xs none)∧tidOf m k=elD E t:=by
 unfold ownDeep at e
 split at e
 ·split at e
  ·rename_i hg
   split at e
   ·rename_i hk
    subst hk
    obtain ⟨hb,e⟩:=cond_some e
    obtain ⟨rfl,rfl,rfl⟩:_∧_∧_:=by simpa using Option.some.inj e
    exact ⟨rfl,hg,nbeq_eq.1 hb⟩
   ·cases e
  ·cases e
 ·cases e
theorem deepElems_some {m:Nat} {k:Ty} {x:AV} {o:Nat} {ys:List k.den} (e:deepElems m k vw x=some (o,ys)):x=.row o∧vw o=some (.deep m k ys none):=by
 unfold deepElems at e
 split at e
 ·split at e
  ·rename_i hg
   split at e
   ·rename_i hk
    subst hk
    obtain ⟨hb,e2⟩:=cond_some e
    clear e
    obtain ⟨h1,h2⟩:=Prod.mk.inj (Option.some.inj e2)
    subst h1
    have h2:_=ys:=h2
    subst h2
    obtain rfl:=nbeq_eq.1 hb
    exact ⟨rfl,hg⟩
   ·cases e
  ·cases e
 ·cases e
theorem sim_appendD {oper:Oper} {c:Call} {t:TypeId} {x y:Operand} {p q:AV} {k:Ty} {ob m:Nat} {xs:List k.den} (hs:Shows vw h) (ho:oper.op=.call c) (hc:c.callee=.builtin .append) (ha:c.args=#[x,y]) (ht2:c.argTypes=#[t,t])
  (hf:elFits E t k=true) (hod:ownDeep E t k vw p=some (ob,m,xs)) (e:evAppendD ob m k vw xs q pk=some (v,u,ks)):Sim E.P oper site [p,q] h v u ks:=by
 have hops:oper.op.operands.toList=[x,y]:=by simp [ho,Op.operands,Call.operands,hc,ha]
 obtain ⟨el,inf,z,ht,hinf,hsz,hpos,hag,hby,-,hz,hzs,hzo⟩:=elFits_some hf
 have hex:∀(a:Act),execOp a.eval oper=(do let v ←Builtin.append_ #[t,t] oper.type #[a.eval x,a.eval y];pure (.value v)):=by
  intro a
  simp [execOp,ho,resolve,hc,ha,ht2,invoke,builtin]
 obtain ⟨rfl,hg,htid⟩:=ownDeep_some hod
 have htid:tidOf m k=el:=htid.trans (elD_of ht)
 unfold evAppendD at e
 split at e
 ·rename_i o2 ys hel
  replace e:=cond_some e
  obtain ⟨hl,e⟩:=e
  have hl:=of_decide_eq_true hl
  cases e
  obtain ⟨rfl,hg2⟩:=deepElems_some hel
  have hne:o2≠ob:=fun e=>by
   subst e
   have:=(vwDel_some hg2).2
   simp at this
  have hgg:=hs _ _ hg
  have hgg2:=hs _ _ (vwDel_some hg2).1
  intro _ σ w a inv r next Q hn
  rw [hops] at r
  have hv:=r.1.2 (live_of hgg)
  have hv2:=r.2.1.2 (live_of hgg2)
  obtain ⟨cs,bss,h1,h2,h3,h4,h5,-⟩:=inv.objs _ _ hgg
  obtain ⟨cs2,bss2,g1,g2,g3,g4,g5,-⟩:=inv.objs _ _ hgg2
  have own1:=own_deep hgg
  have own2:=own_deep hgg2
  rw [htid] at h1 g1
  have one2:∀c∈cs2,c.oneCell'=true:=fun c hc=>by
   obtain ⟨j,hj,rfl⟩:=List.getElem_of_mem hc
   have hpv:j<(ys.flatMap (enc k)).length:=by rw [flatMap_length (enc k) (nCells k) ys (fun x _=>enc_length k x),←g1.1];exact hj
   exact RepO.oneCell (g3 j _ _ _ (List.getElem?_eq_getElem hpv) (List.getElem?_eq_getElem hj) (List.getElem?_eq_getElem (by rw [g2];exact hj)))
  have hrun:∃v' w',(Builtin.append_ #[t,t] oper.type #[σ.val ob,σ.val o2]).run E.P w=.ok v' w'∧w'.ownsRow 0 el (nCells k) v' (xs++ys).length (cs++cs2)∧w.grownBy w' (σ.val ob).ownBlock∧(v'.ownBlock=(σ.val ob).ownBlock∨v'.ownBlock=some w.heap.size):=by
   rcases g1.2 with ⟨q1,q2⟩|⟨b2,cap2,cur2,q1,-⟩
   ·have hy:ys=[]:=List.eq_nil_of_length_eq_zero q2
    subst hy
    have hcs2:cs2=[]:=List.eq_nil_of_length_eq_zero (by rw [g1.1];simp)
    subst hcs2
    refine ⟨σ.val ob,w,?_,by simpa using h1,⟨rfl,rfl,rfl,Nat.le_refl _,fun _ _ _=>rfl⟩,.inl rfl⟩
    rw [q1]
    rcases h1.2 with ⟨h6,hn⟩|⟨g,cap,cur,h6,-,-,hle,-⟩
    ·rw [h6];exact run_append_zero ht hinf none none 0 0 0 (Nat.le_refl _) w
    ·rw [h6];exact run_append_zero ht hinf _ none _ cap 0 hle w
   ·have hbytes:(xs.length+ys.length)*inf.bytes≤140737488355328:=by
     calc (xs.length+ys.length)*inf.bytes≤lim*128:=Nat.mul_le_mul hl hby
      _=140737488355328:=by decide
    obtain ⟨v',w',hrun,hown',hg,-,hat⟩:=run_append_own_at (P:=E.P) (w:=w) 0 t oper.type el inf z (nCells k) inf.bytes ht hinf hz hsz rfl hzs hpos (σ.val ob) xs.length cs h1 ⟨b2,0,none⟩ ys.length cap2 cs2 g1.1
     (fun j u hj=>by rw [Addr.add_lit,Nat.zero_add];exact row_off g1 q1 j u hj) one2 (by unfold maxLen;unfold lim at hl;omega) hbytes (Nat.zero_le _)
    exact ⟨v',w',by rw [q1];exact hrun,by rw [List.length_append];exact hown',hg,hat⟩
  obtain ⟨v',w',hrun,hown',hgr,hat⟩:=hrun
  have hex':(execOp a.eval oper).run E.P w=.ok (.value v') w':=by rw [hex,hv,hv2];simp [hrun]
  obtain ⟨av0,cc0,hv0⟩:=own_slice h1
  obtain ⟨av,cc,hv1⟩:=own_slice hown'
  have invk:=inv_kill ob inv
  have ownk1:Own (H.kill ob h) ob:=(own_kill ob ob).2 own1
  have ownk2:Own (H.kill ob h) o2:=(own_kill ob o2).2 own2
  have hin1:∀b∈bss.flatten,b∈σ.bs ob:=fun b hb=>by rw [h4];exact List.mem_append_right _ hb
  have hin2:∀b∈bss2.flatten,b∈σ.bs o2:=fun b hb=>by rw [g4];exact List.mem_append_right _ hb
  have hrow:∀b,(σ.val ob).ownBlock=some b→b∈σ.bs ob∧b∉bss.flatten:=fun b hb=>by
   rw [h4] at h5⊢
   have hb':b∈(blk (σ.val ob)).toList:=mem_blk.2 (by rw [blk_own hv0];exact hb)
   exact ⟨List.mem_append_left _ hb',fun hb''=>(List.nodup_append.1 h5).2.2 b hb' b hb'' rfl⟩
  have hkeep:∀b,b<w.heap.size→(σ.val ob).ownBlock≠some b→w'.heap[b]?=w.heap[b]?:=fun b hb hne=>hgr.block b hb fun e=>hne e.symm
  have keep1:∀b∈bss.flatten,w'.heap[b]?=w.heap[b]?:=fun b hb=>hkeep b (inv.bslt ob own1 b (hin1 b hb)) fun e=>(hrow b e).2 hb
  have keep2:∀b∈bss2.flatten,w'.heap[b]?=w.heap[b]?:=fun b hb=>hkeep b (inv.bslt o2 own2 b (hin2 b hb)) fun e=>inv.inj o2 ob own2 own1 hne b (hin2 b hb) (hrow b e).1
  have hlt:∀b,blk v'=some b→b<w'.heap.size:=fun b hb'=>by rw [blk_own hv1] at hb';exact (hown'.lt b hb').2
  have hlen1:(xs.flatMap (enc k)).length=cs.length:=by rw [flatMap_length (enc k) (nCells k) xs (fun x _=>enc_length k x),h1.1]
  obtain ⟨e1,e2,e3⟩:=absorb_change invk ob (.deep m k (xs++ys) none) [o2] v' ((blk v').toList++(bss++bss2).flatten) (by simp;exact Ne.symm hne) (σ.val ob).ownBlock hgr
   (fun b hb=>⟨ownk1,(hrow b hb).1⟩)
   (fun b hb=>by
    rcases List.mem_append.1 hb with hb|hb
    ·have hb:=mem_blk.1 hb
     rcases hat with hat|hat
     ·exact .inl ⟨ownk1,(hrow b (by rw [←hat,←blk_own hv1];exact hb)).1⟩
     ·have hb':=hb
      rw [blk_own hv1,hat] at hb'
      obtain rfl:=Option.some.inj hb'
      exact .inr (.inr ⟨Nat.le_refl _,hlt _ hb⟩)
    ·rw [List.flatten_append] at hb
     rcases List.mem_append.1 hb with hb|hb
     ·exact .inl ⟨ownk1,hin1 b hb⟩
     ·exact .inr (.inl ⟨o2,by simp,ownk2,hin2 b hb⟩))
   (fun d=>by cases d)
   (fun i y g hi hm=>by
    rw [H.get_kill] at g
    cases g0:H.get i h with
    |none=>rw [g0] at g;cases g
    |some y0=>
     rw [g0] at g
     obtain rfl:=Option.some.inj g
     exact absurd rfl (Obj.ids_kill ob y0 ob hm).2)
   ⟨cs++cs2,bss++bss2,by rw [Sg.setB_same,htid];exact hown',by rw [List.length_append,List.length_append,h2,g2],fun p pv c bs hp hc hb=>by
     show RepO m w' _ pv c bs
     rw [List.flatMap_append] at hp
     by_cases hlt:p<cs.length
     ·rw [List.getElem?_append_left (by rw [hlen1];exact hlt)] at hp
      rw [List.getElem?_append_left hlt] at hc
      rw [List.getElem?_append_left (by rw [h2];exact hlt)] at hb
      exact RepO.mono (h3 p pv c bs hp hc hb) fun b hb'=>keep1 b (List.mem_flatten.2 ⟨bs,List.mem_of_getElem? hb,hb'⟩)
     ·rw [List.getElem?_append_right (by rw [hlen1];omega),hlen1] at hp
      rw [List.getElem?_append_right (by omega)] at hc
      rw [List.getElem?_append_right (by rw [h2];omega),h2] at hb
      have h7:=RepO.mono (g3 _ pv c bs hp hc hb) fun b hb'=>keep2 b (List.mem_flatten.2 ⟨bs,List.mem_of_getElem? hb,hb'⟩)
      have hmod:(p-cs.length)%nCells k=p%nCells k:=by
       have hp':p=p-cs.length+xs.length*nCells k:=by rw [←h1.1];omega
       rw [hp',Nat.add_mul_mod_self_right,←hp']
      rwa [hmod] at h7,
    by rw [Sg.bsB_same,Sg.setB_same],by
     rw [Sg.bsB_same]
     have hnd1:bss.flatten.Nodup:=by rw [h4] at h5;exact (List.nodup_append.1 h5).2.1
     have hnd2:bss2.flatten.Nodup:=by rw [g4] at g5;exact (List.nodup_append.1 g5).2.1
     refine List.nodup_append.2 ⟨by cases blk v'<;>simp,?_,fun b1 hb1 b2 hb2 e=>?_⟩
     ·rw [List.flatten_append]
      exact List.nodup_append.2 ⟨hnd1,hnd2,fun b1 hb1 b2 hb2 e=>by
       subst e
       exact inv.inj ob o2 own1 own2 (Ne.symm hne) b1 (hin1 b1 hb1) (hin2 b1 hb2)⟩
     ·subst e
      have hb1:=mem_blk.1 hb1
      rw [blk_own hv1] at hb1
      rw [List.flatten_append] at hb2
      rcases hat with hat|hat
      ·rw [hat] at hb1
       rcases List.mem_append.1 hb2 with hb2|hb2
       ·exact (hrow b1 hb1).2 hb2
       ·exact inv.inj o2 ob own2 own1 hne b1 (hin2 b1 hb2) (hrow b1 hb1).1
      ·rw [hat] at hb1
       obtain rfl:=Option.some.inj hb1
       rcases List.mem_append.1 hb2 with hb2|hb2
       ·exact absurd (inv.bslt ob own1 _ (hin1 _ hb2)) (Nat.lt_irrefl _)
       ·exact absurd (inv.bslt o2 own2 _ (hin2 _ hb2)) (Nat.lt_irrefl _),fun _ _ _ e=>by cases e⟩
  have hg0:H.get ob (H.put ob (Obj.deep m k (xs++ys) none) (delL [o2] (H.kill ob h)))=some (.deep m k (xs++ys) none):=H.get_put_same _ _ _
  exact wp_value hex' (hn _ w' v' ⟨(ext_kill ob).trans e1,e2,⟨by rw [hv1];rfl,fun _=>(Sg.setB_same _ _ _ _).symm⟩,
   fun b c hb r=>e3 b c (fun hi=>absurd (List.mem_singleton.2 rfl) (hb ob hi).1) (keep_kill ob r)⟩)
 ·cases e
end
section
variable {σ : Sg} {h : H} {w : World}
structure Next (σ:Sg) (h:H) (w:World) (σ':Sg) (h':H):Prop where
 ext:Ext σ h w σ' h' w
 inv:Inv σ' h' w
 keep:∀a c,RepA σ h w a c→RepA σ' h' w a c
theorem Next.refl (inv:Inv σ h w):Next σ h w σ h:=⟨Ext.refl _ _ _,inv,fun _ _ r=>r⟩
theorem Next.trans {σ' σ'':Sg} {h' h'':H} (a:Next σ h w σ' h') (b:Next σ' h' w σ'' h''):Next σ h w σ'' h'':=⟨a.ext.trans b.ext,b.inv,fun x c r=>b.keep x c (a.keep x c r)⟩
theorem Next.reps {σ':Sg} {h':H} (n:Next σ h w σ' h'):∀{a:List AV} {c:List Value},RepAs σ h w a c→RepAs σ' h' w a c
 |[],[],_=>trivial
 |_::_,_::_,r=>⟨n.keep _ _ r.1,n.reps r.2⟩
 |[],_::_,r=>r.elim
 |_::_,[],r=>r.elim
theorem heal1_next (inv:Inv σ h w) (o:Nat):∃σ',Next σ h w σ' (heal1 h o):=by
 unfold heal1
 split
 ·rename_i m t xs i off v hg
  split
  ·rename_i a l ha
   split
   ·rename_i y hy
    cases hb:Nat.ble (off+1) (nCells t) with
    |false=>exact ⟨σ,by rw [cond_false];exact Next.refl inv⟩
    |true=>
     rw [cond_true]
     have hb:=Nat.le_of_ble_eq_true hb
     have hpos:1≤nCells t:=by omega
     obtain ⟨cs,bss,h1,h2,h3,h4,h5,h6⟩:=inv.objs _ _ hg
     have hi:=h6 i off v rfl
     have own0:=own_deep hg
     have hs:Shows (vwDel [(o,none)] (fun i=>H.get i h)) h:=fun q y e=>(vwDel_some e).1
     obtain ⟨c,bs,pv,d1,d2,d3,d4⟩:=deep_cell h1 h2 hi (off:=off) (by omega)
     have h7:=h3 _ pv c bs d4 d1 d2
     rw [holeAt_eq] at h7
     obtain ⟨rfl,-,hr⟩:=h7
     obtain ⟨a1,a2,a3⟩:=absorb1_rep ha hs inv hr
     have hls:∀s∈l,Own h s∧s≠o:=fun s hs'=>by
      obtain ⟨⟨x',hx'⟩,l⟩:=a3 s hs'
      refine ⟨l,fun e=>?_⟩
      subst e
      have:=(vwDel_some hx').2
      simp at this
     obtain ⟨k1,k2⟩:=putCells_enc hy (by simpa using hb)
     obtain ⟨z,p,q1,q2,q3⟩:∃(z:(cellTy t off).den) (p:PV),toTy (cellTy t off) a=some z∧enc (cellTy t off) z=[p]∧(enc t y)[off]?=some p:=k1 0 _ rfl
     have hkid:=a1 _ z p q1 q2
     have hnd:bss.flatten.Nodup:=by rw [h4] at h5;exact (List.nodup_append.1 h5).2.1
     obtain ⟨p1,p2⟩:=patch_flat bss [l.flatMap σ.bs] (i*nCells t+off) hnd
     have hplt:i*nCells t+off<bss.length:=(List.getElem?_eq_some_iff.1 d2).1
     have hN:∀b∈l.flatMap σ.bs,∃s∈l,Own h s∧s≠o∧b∈σ.bs s:=fun b hb'=>by
      obtain ⟨s,hs',hb''⟩:=List.mem_flatMap.1 hb'
      exact ⟨s,hs',(hls s hs').1,(hls s hs').2,hb''⟩
     have hNne:∀b∈l.flatMap σ.bs,b∉σ.bs o:=fun b hb' hb''=>by
      obtain ⟨s,-,l,hne,hbs⟩:=hN b hb'
      exact inv.inj s o l own0 hne b hbs hb''
     have hin:∀b∈bss.flatten,b∈σ.bs o:=fun b hb=>by rw [h4];exact List.mem_append_right _ hb
     have hsame:SameO σ (σ.setB o (σ.val o) ((blk (σ.val o)).toList++(bss.take (i*nCells t+off)++[l.flatMap σ.bs]++bss.drop (i*nCells t+off+[l.flatMap σ.bs].length)).flatten)) h (H.put o (.deep m t (xs.set i y) none) (delL l h)) o:=by
      refine .inr ⟨live_of hg,Sg.setB_same _ _ _ _,fun x' q hx hq=>?_⟩
      rw [H.get_put_same] at hx
      obtain rfl:=Option.some.inj hx
      exact ⟨_,hg,by rw [←hq];simp [Obj.info]⟩
     obtain ⟨e1,e2,e3⟩:=absorb_change (w':=w) inv o (.deep m t (xs.set i y) none) l (σ.val o) ((blk (σ.val o)).toList++(bss.take (i*nCells t+off)++[l.flatMap σ.bs]++bss.drop (i*nCells t+off+[l.flatMap σ.bs].length)).flatten) (fun hm=>(hls o hm).2 rfl) none ⟨rfl,rfl,rfl,Nat.le_refl _,fun _ _ _=>rfl⟩
      (fun b hb=>by cases hb)
      (fun b' hb'=>by
       rcases List.mem_append.1 hb' with hb'|hb'
       ·exact .inl ⟨own0,by rw [h4];exact List.mem_append_left _ hb'⟩
       ·rcases p1 b' hb' with ⟨q1,-⟩|q1
        ·exact .inl ⟨own0,hin b' q1⟩
        ·obtain ⟨s,hs',l,hne,hbs⟩:=hN b' (by simpa using q1)
         exact .inr (.inl ⟨s,hs',l,hbs⟩))
      (fun d=>by cases d) (fun o x g hne hm=>hsame)
      ⟨cs,bss.take (i*nCells t+off)++[l.flatMap σ.bs]++bss.drop (i*nCells t+off+[l.flatMap σ.bs].length),by rw [Sg.setB_same,List.length_set];exact h1,by
        simp only [List.length_append,List.length_take,List.length_drop,List.length_singleton]
        omega,fun p' pv' c' bs' hp hc' hb'=>by
        show RepO m w _ pv' c' bs'
        rw [set_flat (off:=off) (n:=1) hpos hi (by omega) (fun j hj=>k2 j hj)] at hp
        rw [patch_get _ _ _ (by simp;omega)] at hb'
        simp only [List.length_singleton] at hb'
        by_cases hin:i*nCells t+off≤p'∧p'<i*nCells t+off+1
        ·rw [if_pos hin] at hp hb'
         obtain rfl:p'=i*nCells t+off:=by omega
         rw [Nat.add_sub_cancel_left,q3] at hp
         rw [Nat.sub_self] at hb'
         obtain rfl:=Option.some.inj hp
         obtain rfl:=Option.some.inj hb'
         rw [d1] at hc'
         obtain rfl:=Option.some.inj hc'
         rw [(pos_div (by omega)).2]
         exact hkid
        ·rw [if_neg hin] at hp hb'
         have h8:=h3 p' pv' c' bs' hp hc' hb'
         rw [holeAt_ne (by omega)] at h8
         exact h8,
       by rw [Sg.bsB_same,Sg.setB_same],by
        rw [Sg.bsB_same]
        refine List.nodup_append.2 ⟨by cases blk (σ.val o)<;>simp,p2 (by simpa using bs_nodup inv a2 fun s hs'=>(hls s hs').1) (fun b' hb' hb''=>hNne b' (by simpa using hb') (hin b' hb'')),fun b1 hb1 b2 hb2 e=>?_⟩
        subst e
        rcases p1 b1 hb2 with ⟨q1,-⟩|q1
        ·rw [h4] at h5;exact (List.nodup_append.1 h5).2.2 b1 hb1 b1 q1 rfl
        ·exact hNne b1 (by simpa using q1) (by rw [h4];exact List.mem_append_left _ hb1),fun _ _ _ e=>by cases e⟩
     exact ⟨_,e1,e2,fun a' c' r'=>e3 a' c' (fun _=>hsame) r'⟩
   ·exact ⟨σ,Next.refl inv⟩
  ·exact ⟨σ,Next.refl inv⟩
 ·exact ⟨σ,Next.refl inv⟩
theorem healL_next (dep:Nat):∀(l:List Nat) {σ:Sg} {h:H},Inv σ h w→∃σ',Next σ h w σ' (healL dep h l)
 |[],σ,h,inv=>⟨σ,Next.refl inv⟩
 |o::r,σ,h,inv=>by
  obtain ⟨σ1,n1⟩:=heal1_next inv o
  obtain ⟨σ2,n2⟩:=healL_next dep r n1.inv
  exact ⟨σ2,n1.trans n2⟩
theorem mkO_rep {σ':Sg} {h':H} {w:World} {o:Nat} (q:Option Nat) (el:Nat) (k:Ty) (hv:σ'.val o=.slice none 0 0) (hb:σ'.bs o=[]):ObjRep σ' h' w o (mkO q el k []):=by
 cases q with
 |none=>exact ⟨[],by rw [hv];exact World.ownsRow_nil w 0 el (nCells k),trivial⟩
 |some m=>exact ⟨[],[],by rw [hv];exact World.ownsRow_nil w 0 (tidOf m k) (nCells k),rfl,fun p pv c bs hp=>by simp at hp,by rw [hb,hv];rfl,by rw [hb];simp,fun _ _ _ e=>by cases e⟩
theorem prom1_next (inv:Inv σ h w) (dep:Nat) (t:T) (q:Nat×Nat×Nat×Option Nat×Nat×Ty):∃σ',Ext σ h w σ' (prom1 dep t h q) w∧Inv σ' (prom1 dep t h q) w∧∀{c:List Value},RepAs σ h w t c→RepAs σ' (prom1 dep t h q) w t c:=by
 obtain ⟨bx,j,s,dp,el,k⟩:=q
 unfold prom1
 dsimp only
 split
 ·rename_i cs hg
  split
  ·rename_i hj
   cases hm:memN (dep+s) (AV.idsL t++H.ids h) with
   |true=>exact ⟨σ,by rw [cond_true];exact ⟨Ext.refl _ _ _,inv,fun r=>r⟩⟩
   |false=>
    rw [cond_false]
    have hno:dep+s∉AV.idsL t++H.ids h:=fun hi=>by
     have:memN (dep+s) (AV.idsL t++H.ids h)=true:=List.any_eq_true.2 ⟨_,hi,Nat.beq_refl _⟩
     rw [hm] at this;cases this
    rw [List.mem_append,not_or] at hno
    have hne:dep+bx≠dep+s:=fun e=>hno.2 (by rw [←e];exact H.ids_of_mem (H.mem_of_get hg))
    obtain ⟨e1,e2,e3⟩:=new_objB (w':=w) inv hno.2 (mkO dp el k []) (.slice none 0 0) [] ⟨rfl,rfl,rfl,Nat.le_refl _,fun _ _ _=>rfl⟩ (by simp) (fun _=>rfl) (mkO_rep dp el k (Sg.setB_same _ _ _ _) (Sg.bsB_same _ _ _ _))
    have hg1:H.get (dep+bx) (H.put (dep+s) (mkO dp el k []) h)=some (.box cs):=by rw [H.get_put_ne _ hne];exact hg
    have hlive:Live (H.put (dep+bx) (.box (cs.set j (.row (dep+s)))) (H.put (dep+s) (mkO dp el k []) h)) (dep+s):=by
     unfold Live;rw [H.get_put_ne _ (Ne.symm hne),H.get_put_same];simp
    have hsame:SameO (σ.setB (dep+s) (.slice none 0 0) []) (σ.setB (dep+s) (.slice none 0 0) []) (H.put (dep+s) (mkO dp el k []) h) (H.put (dep+bx) (.box (cs.set j (.row (dep+s)))) (H.put (dep+s) (mkO dp el k []) h)) (dep+bx):=by
     refine .inr ⟨live_of hg1,rfl,fun x' q hx hq=>?_⟩
     rw [H.get_put_same] at hx;obtain rfl:=Option.some.inj hx;cases hq
    have same:∀i,SameO (σ.setB (dep+s) (.slice none 0 0) []) (σ.setB (dep+s) (.slice none 0 0) []) (H.put (dep+s) (mkO dp el k []) h) (H.put (dep+bx) (.box (cs.set j (.row (dep+s)))) (H.put (dep+s) (mkO dp el k []) h)) i:=fun i=>by
     by_cases e:i=dep+bx
     ·subst e;exact hsame
     ·exact sameO_eq (H.get_put_ne _ e _) rfl
    obtain ⟨b,vs,ty,hv,hh,hr⟩:=e2.objs _ _ hg1
    have hnil:∃c,vs.toList[j]?=some c∧RepA (σ.setB (dep+s) (.slice none 0 0) []) (H.put (dep+s) (mkO dp el k []) h) w .nil c:=hr.get hj
    obtain ⟨c0,hc0,hcn⟩:=hnil
    have hcn:c0=.slice none 0 0:=hcn
    have hset:vs.toList.set j c0=vs.toList:=by
     obtain ⟨hlt,he⟩:=List.getElem?_eq_some_iff.1 hc0
     rw [←he];exact List.set_getElem_self hlt
    have hcells:RepAs (σ.setB (dep+s) (.slice none 0 0) []) (H.put (dep+bx) (.box (cs.set j (.row (dep+s)))) (H.put (dep+s) (mkO dp el k []) h)) w (cs.set j (.row (dep+s))) vs.toList:=by
     have h1:=(RepAs.mono (fun _ h=>h) (fun _ _=>rfl) _ _ (fun i _=>same i) hr).set j (a:=.row (dep+s)) (v:=c0) ⟨by rw [hcn];rfl,fun _=>by rw [hcn,Sg.setB_same]⟩
     rwa [hset] at h1
    obtain ⟨f1,f2,f3⟩:=change (σ':=σ.setB (dep+s) (.slice none 0 0) []) (w':=w) (h':=H.put (dep+bx) (.box (cs.set j (.row (dep+s)))) (H.put (dep+s) (mkO dp el k []) h)) e2 (dep+bx) (.box (cs.set j (.row (dep+s)))) none (fun i hi=>H.get_put_ne _ hi _) (H.get_put_same _ _ _) (fun _ _=>rfl) (fun _ _=>rfl) rfl
     (H.nodup_put _ _ _ e2.nodup) ⟨rfl,rfl,rfl,Nat.le_refl _,fun _ _ _=>rfl⟩ (fun b hb=>by cases hb)
     (fun b' hb'=>⟨.inl ⟨own_box hg1,hb'⟩,e2.bslt _ (own_box hg1) b' hb'⟩) (fun _=>e2.bsok _ _ hg1 rfl) (fun _ _ _ _ _=>hsame) ⟨b,vs,ty,hv,hh,hcells⟩
    have hcomm:∀i,H.get i (H.put (dep+s) (mkO dp el k []) (H.put (dep+bx) (.box (cs.set j (.row (dep+s)))) h))=H.get i (H.put (dep+bx) (.box (cs.set j (.row (dep+s)))) (H.put (dep+s) (mkO dp el k []) h)):=fun i=>by
     by_cases e:i=dep+s
     ·subst e;rw [H.get_put_same,H.get_put_ne _ (Ne.symm hne),H.get_put_same]
     ·by_cases e2:i=dep+bx
      ·subst e2;rw [H.get_put_ne _ e,H.get_put_same,H.get_put_same]
      ·rw [H.get_put_ne _ e,H.get_put_ne _ e2,H.get_put_ne _ e2,H.get_put_ne _ e]
    have hsm:∀i,SameO (σ.setB (dep+s) (.slice none 0 0) []) (σ.setB (dep+s) (.slice none 0 0) []) (H.put (dep+bx) (.box (cs.set j (.row (dep+s)))) (H.put (dep+s) (mkO dp el k []) h)) (H.put (dep+s) (mkO dp el k []) (H.put (dep+bx) (.box (cs.set j (.row (dep+s)))) h)) i:=fun i=>sameO_eq (hcomm i) rfl
    have hkeepT:∀a c,(dep+s)∉AV.ids a→RepA σ h w a c→RepA (σ.setB (dep+s) (.slice none 0 0) []) (H.put (dep+s) (mkO dp el k []) (H.put (dep+bx) (.box (cs.set j (.row (dep+s)))) h)) w a c:=fun a c hn r=>
     RepA.mono (fun _ h=>h) (fun _ _=>rfl) a c (fun i _=>hsm i) (f3 a c (fun _=>hsame) (e3 a c hn r))
    refine ⟨σ.setB (dep+s) (.slice none 0 0) [],?_,?_,fun {c} r=>?_⟩
    ·have hx:=e1.trans f1
     exact {hx with live:=fun o b l=>hx.live o b ((own_eq (hcomm o)).1 l)}
    ·refine ⟨fun o x g=>?_,fun o l=>f2.nofz o ((own_eq (hcomm o)).1 l),fun o o' l l'=>f2.inj o o' ((own_eq (hcomm o)).1 l) ((own_eq (hcomm o')).1 l'),f2.fzlt,H.nodup_put _ _ _ (H.nodup_put _ _ _ inv.nodup),fun o x g=>f2.bsok o x (by rw [←hcomm];exact g),fun o l=>f2.bslt o ((own_eq (hcomm o)).1 l)⟩
     have h1:=f2.objs o x (by rw [←hcomm];exact g)
     cases x with
     |box cs=>
      obtain ⟨b,vs,ty,h2,h3,h4⟩:=h1
      exact ⟨b,vs,ty,h2,h3,RepAs.mono (fun _ h=>h) (fun _ _=>rfl) _ _ (fun i _=>hsm i) h4⟩
     |row el t xs=>exact h1
     |map _ _ _=>exact h1
     |cel _ _=>exact h1
     |ice t xs=>exact h1
     |deep m t xs q=>exact deep_mono h1 rfl rfl (fun _ _=>rfl) fun i off v c _ r=>RepA.mono (fun _ h=>h) (fun _ _=>rfl) v c (fun i _=>hsm i) r
    ·have hall:∀(l:List AV) (c:List Value),dep+s∉AV.idsL l→RepAs σ h w l c→RepAs (σ.setB (dep+s) (.slice none 0 0) []) (H.put (dep+s) (mkO dp el k []) (H.put (dep+bx) (.box (cs.set j (.row (dep+s)))) h)) w l c:=by
      intro l
      induction l with
      |nil=>intro c _ r;cases c with
       |nil=>trivial
       |cons _ _=>exact r.elim
      |cons a l ih=>intro c hn r;cases c with
       |nil=>exact r.elim
       |cons v c=>
        simp only [AV.idsL,List.mem_append,not_or] at hn
        exact ⟨hkeepT a v hn.1 r.1,ih c hn.2 r.2⟩
     exact hall t c hno.1 r
  ·exact ⟨σ,Ext.refl _ _ _,inv,fun r=>r⟩
 ·exact ⟨σ,Ext.refl _ _ _,inv,fun r=>r⟩
theorem promL_next (dep:Nat) (t:T):∀(l:List (Nat×Nat×Nat×Option Nat×Nat×Ty)) {σ:Sg} {h:H},Inv σ h w→∃σ',Ext σ h w σ' (promL dep t h l) w∧Inv σ' (promL dep t h l) w∧∀{c:List Value},RepAs σ h w t c→RepAs σ' (promL dep t h l) w t c
 |[],σ,h,inv=>⟨σ,Ext.refl _ _ _,inv,fun r=>r⟩
 |q::r,σ,h,inv=>by
  obtain ⟨σ1,a1,a2,a3⟩:=prom1_next inv dep t q
  obtain ⟨σ2,b1,b2,b3⟩:=promL_next dep t r a2
  exact ⟨σ2,a1.trans b1,b2,fun r=>b3 (a3 r)⟩
end
end Go.Proofs.YtfdcjocallblcaaGreatDoor.Ev
