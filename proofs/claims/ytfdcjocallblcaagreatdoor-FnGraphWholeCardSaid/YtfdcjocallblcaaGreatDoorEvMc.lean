/- Rows that are owned whole: stores. No conditions. -/
import Derived.Test.YtfdcjocallblcaaGreatDoorEvMb
namespace Go.Proofs.YtfdcjocallblcaaGreatDoor.Ev
open Go
section
variable {σ : Sg} {h : H} {w : World}
theorem store_cells {P:Program} {t:TypeId} {inf:TypeInfo} (hinf:P.info? t=some inf) {e z n:Nat} {v:Value} {cs:List Value} {b n0 c0:Nat} (hown:w.ownsRow 0 e z v n cs) (hv:v=.slice (some ⟨b,0,none⟩) n0 c0) (pos:Nat) (cv:Value)
  (hsz:cv.cells.toList.length=inf.size) (hle:pos+inf.size≤n*z) (h1:∀c∈cv.cells.toList,c.oneCell'=true):
  ∃w' cs',(Instr.storeAt t (.pointer (some ⟨b,pos,none⟩)) cv).run P w=.ok () w'∧w.grownBy w' (some b)∧w'.ownsRow 0 e z v n cs'∧(∀q,cs'[q]?=if pos≤q∧q<pos+inf.size then cv.cells.toList[q-pos]? else cs[q]?):=by
 rcases hown.2 with ⟨hv0,-⟩|⟨b0,cap,cur,hv0,-,hh,hle2,hcm,hcs,htk⟩
 ·rw [hv] at hv0;cases hv0
 ·have hvv:=hv0
  rw [hv] at hvv
  obtain ⟨hbb,-,-⟩:b=b0∧n0=n∧c0=cap:=by simpa using hvv
  subst hbb
  have hcap:n*z≤cur.size:=by rw [hcs];exact Nat.mul_le_mul_right _ hle2
  have hrun:=run_storeAt (P:=P) hinf b pos e cur cv w hh hsz (by omega) h1
  have hpl:pos+cv.cells.toList.length≤cur.toList.length:=by rw [hsz,Array.length_toList];omega
  have hlen2:(cur.toList.take pos++cv.cells.toList++cur.toList.drop (pos+cv.cells.toList.length)).length=cur.size:=by
   simp only [List.length_append,List.length_take,List.length_drop,Array.length_toList] at hpl⊢
   omega
  have hcl:cs.length=n*z:=hown.1
  refine ⟨_,(cur.toList.take pos++cv.cells.toList++cur.toList.drop (pos+cv.cells.toList.length)).take (n*z),hrun,grownBy_setRow w b _,?_,fun q=>?_⟩
  ·exact ⟨by rw [List.length_take,hlen2];omega,.inr ⟨b,cap,_,hv0,Nat.zero_le _,setRow_heap w b cur _ e (0,0) hh,hle2,hcm,by rw [List.size_toArray,hlen2,hcs],by simp⟩⟩
  ·rw [List.getElem?_take]
   by_cases hq:q<n*z
   ·rw [if_pos hq,patch_get _ _ _ hpl,hsz]
    by_cases hin:pos≤q∧q<pos+inf.size
    ·rw [if_pos hin,if_pos hin]
    ·rw [if_neg hin,if_neg hin,←htk,List.getElem?_take,if_pos hq]
   ·rw [if_neg hq,if_neg (by omega),List.getElem?_eq_none (by rw [hcl];omega)]
theorem set_flat {k:Ty} {xs:List k.den} {y:k.den} {i off n:Nat} (hpos:1≤nCells k) (hi:i<xs.length) (hle:off+n≤nCells k) (hy:∀j,j<off∨off+n≤j→(enc k y)[j]?=(enc k (listAt xs k.dflt i))[j]?) (q:Nat):
  ((xs.set i y).flatMap (enc k))[q]?=if i*nCells k+off≤q∧q<i*nCells k+off+n then (enc k y)[q-i*nCells k]? else (xs.flatMap (enc k))[q]?:=by
 rw [flatMap_get (enc k) (nCells k) hpos _ (fun x _=>enc_length k x),flatMap_get (enc k) (nCells k) hpos xs (fun x _=>enc_length k x)]
 by_cases hin:i*nCells k≤q∧q<i*nCells k+nCells k
 ·have hq:q/nCells k=i:=Nat.div_eq_of_lt_le hin.1 (by rw [Nat.add_mul,Nat.one_mul];exact hin.2)
  have hm:q%nCells k=q-i*nCells k:=by
   have:=Nat.div_add_mod q (nCells k)
   rw [hq,Nat.mul_comm] at this
   omega
  rw [hq,List.getElem?_set_self hi,hm,List.getElem?_eq_getElem hi]
  simp only [Option.bind_some]
  by_cases h2:i*nCells k+off≤q∧q<i*nCells k+off+n
  ·rw [if_pos h2]
  ·rw [if_neg h2,hy _ (by omega),listAt_eq hi]
 ·have hq:q/nCells k≠i:=fun e=>hin (by
   have h1:=Nat.div_mul_le_self q (nCells k)
   have h2:=Nat.lt_div_mul_add (a:=q) hpos
   rw [e] at h1 h2
   exact ⟨h1,h2⟩)
  rw [List.getElem?_set_ne (Ne.symm hq),if_neg (by omega)]
end
section
variable {E : Env} {o : Oper} {site : Nat} {vs : List AV} {h : H} {vw : View} {v : AV} {u : Upd} {ks : List Nat}
theorem info_of {t:TypeId} (hpos:1≤szOf E.P t):∃i,E.P.info? t=some i∧i.size=szOf E.P t:=by
 unfold szOf at hpos⊢
 split at hpos
 ·rename_i i hi;exact ⟨i,hi,rfl⟩
 ·omega
theorem sim_storeP {t:TypeId} {x y:Operand} {ob i off el:Nat} {q:AV} {k:Ty} {xs:List k.den} (hs:Shows vw h) (ho:o.op=.store t x y) (hg:vw ob=some (.row el k xs)) (e:evStoreP E t ob i off el k xs q pk=some (v,u,ks)):
  Sim E.P o site [.pel ob i off,q] h v u ks:=by
 unfold evStoreP at e
 split at e
 ·rename_i t' d
  replace e:=cond_some e
  obtain ⟨hb,e⟩:=e
  simp only [Bool.and_eq_true,Bool.not_eq_true'] at hb
  obtain ⟨⟨⟨hfl,hsz⟩,hm⟩,hle⟩:=hb
  have hsz:=nbeq_eq.1 hsz
  have hle:=Nat.le_of_ble_eq_true hle
  split at e
  ·rename_i y' hy
   cases e
   intro _ σ w a inv r next Q hn
   simp only [ho,Op.operands,List.map_cons,List.map_nil] at r
   have hgg:=hs _ _ hg
   obtain ⟨hi,b,n,c,hb,hv⟩:=r.1.2 _ _ _ hgg rfl
   obtain ⟨cs,hown,hrep⟩:=inv.objs _ _ hgg
   obtain ⟨inf,hinf,hisz⟩:=info_of (E:=E) (t:=t) (by omega)
   have hpos:1≤nCells k:=by omega
   obtain ⟨k1,k2⟩:=putCells_enc hy (by simpa using hle)
   obtain ⟨z,p,q1,q2,q3⟩:∃(z:(cellTy k off).den) (p:PV),toTy (cellTy k off) (.tv t' d)=some z∧enc (cellTy k off) z=[p]∧(enc k y')[off]?=some p:=k1 0 _ rfl
   obtain ⟨hex,hone⟩:=explode_rep (v:=.tv t' d) (cs:=cellsAV t' d) rfl r.2.1
   have hc1:(a.eval y).cells.toList=[a.eval y]:=by
    have:(a.eval y).oneCell'=true:=by
     have r1:=r.2.1
     cases t' with
     |bool=>rw [repT_bool r1];rfl
     |int k=>rw [repT_int r1];rfl
     |str=>rw [repT_str r1];rfl
     |_=>cases hfl
    rw [cells_one this]
   obtain ⟨w',cs',hrun,hgr,hown',hcs'⟩:=store_cells (P:=E.P) hinf hown hb (i*nCells k+off) (a.eval y) (by rw [hc1,hisz,hsz];rfl) (by rw [hisz,hsz];have:=pos_lt (off:=off) (z:=nCells k) (by omega) hi;omega) hone
   have hval:RepP σ.fz w p (a.eval y):=by
    obtain ⟨hh,hz⟩:=toTy_tv q1
    have r1:=r.2.1
    subst hz
    have q4:enc t' d=[p]:=by
     rw [←q2]
     clear q2 q1 q3 k1 k2
     generalize cellTy k off=qq at*
     subst hh;rfl
    cases t' with
    |bool=>obtain ⟨r1,-⟩:=r1;simp [enc] at q4;subst q4;exact r1
    |int k=>obtain ⟨r1,-⟩:=r1;simp [enc] at q4;subst q4;exact r1
    |str=>obtain ⟨r1,-⟩:=r1;simp [enc] at q4;subst q4;exact r1
    |_=>cases hfl
   have hex':(execOp a.eval o).run E.P w=.ok .skip w':=by
    simp only [execOp,ho,hv]
    simp [hrun]
   refine wp_skip' hex' (hn σ w' undef ?_)
   have hbb:blk (σ.val ob)=some b:=by rw [hb];rfl
   have fzh:∀b',σ.fz b'→w'.heap[b']?=w.heap[b']?:=fun b' hbf=>hgr.block b' (inv.fzlt b' hbf) fun e=>by
    obtain rfl:=Option.some.inj e
    exact inv.nofz ob (own_row hgg) b' (inv.mem hgg rfl hbb) hbf
   have same:∀i',SameO σ σ h (H.put ob (.row el k (xs.set i y')) h) i':=fun i'=>by
    by_cases e:i'=ob
    ·subst e
     refine .inr ⟨live_of hgg,rfl,fun x' q hx hq=>?_⟩
     rw [H.get_put_same] at hx
     obtain rfl:=Option.some.inj hx
     exact ⟨_,hgg,by rw [←hq];simp [Obj.info]⟩
    ·exact sameO_eq (H.get_put_ne _ e _) rfl
   obtain ⟨e1,e2,e3⟩:=change (σ':=σ) (h':=H.put ob (.row el k (xs.set i y')) h) inv ob (.row el k (xs.set i y')) (some b) (fun i hi=>H.get_put_ne _ hi _) (H.get_put_same ob _ _) (fun _ _=>rfl) (fun _ _=>rfl) rfl
    (H.nodup_put ob _ _ inv.nodup) hgr (fun b' hb''=>by obtain rfl:=Option.some.inj hb'';exact ⟨own_row hgg,inv.mem hgg rfl hbb⟩)
    (fun b' hb''=>⟨.inl ⟨own_row hgg,hb''⟩,Nat.lt_of_lt_of_le (inv.bslt ob (own_row hgg) b' hb'') hgr.size⟩) (fun _=>inv.bsok ob _ hgg rfl)
    (fun i x g hi hm=>same ob) ⟨cs',by rw [List.length_set];exact hown',RepPs.mono (fun _ h=>h) fzh (RepPs.mk (by
      rw [flatMap_length (enc k) (nCells k) _ (fun x _=>enc_length k x),List.length_set];exact hown'.1.symm) fun j pv c hp hc=>by
      rw [set_flat (off:=off) (n:=1) hpos hi (by omega) (fun j hj=>k2 j hj)] at hp
      rw [hcs',hisz,hsz] at hc
      by_cases hin:i*nCells k+off≤j∧j<i*nCells k+off+1
      ·rw [if_pos hin] at hp hc
       obtain rfl:j=i*nCells k+off:=by omega
       rw [Nat.add_sub_cancel_left,q3] at hp
       rw [hc1,Nat.sub_self] at hc
       obtain rfl:=Option.some.inj hp
       obtain rfl:=Option.some.inj hc
       exact hval
      ·rw [if_neg hin] at hp hc
       exact hrep.at j pv c hp hc)⟩
   exact ⟨e1,e2,rfl,fun a' c' _ r'=>e3 a' c' (fun _=>same ob) r'⟩
  ·cases e
 ·cases e
theorem sim_storeD {t:TypeId} {x y:Operand} {ob i off m:Nat} {q:AV} {k:Ty} {xs:List k.den} {hole:Option (Nat×Nat×AV)} (hs:Shows vw h) (ho:o.op=.store t x y) (hg:vw ob=some (.deep m k xs hole)) (e:evStoreD E t vw ob i off m k xs hole q pk=some (v,u,ks)):
  Sim E.P o site [.pel ob i off,q] h v u ks:=by
 unfold evStoreD at e
 split at e
 ·rename_i new hnew
  split at e
  ·rename_i al ls hal
   replace e:=cond_some e
   obtain ⟨hb,e⟩:=e
   simp only [Bool.and_eq_true] at hb
   obtain ⟨⟨⟨hb1,hb2⟩,hb3⟩,hhole⟩:=hb
   have hb1:=nbeq_eq.1 hb1
   have hb2:=Nat.le_of_ble_eq_true hb2
   have hb3:=Nat.le_of_ble_eq_true hb3
   split at e
   ·rename_i y' hy
    cases e
    intro _ σ w a inv r next Q hn
    simp only [ho,Op.operands,List.map_cons,List.map_nil] at r
    have hgg:=hs _ _ hg
    obtain ⟨hi,b,n,c,hb,hv⟩:=r.1.2 _ _ _ hgg rfl
    obtain ⟨cs,bss,h1,h2,h3,h4,h5,-⟩:=inv.objs _ _ hgg
    obtain ⟨hexp,hone⟩:=explode_rep hnew r.2.1
    obtain ⟨bssN,n1,n2,n3,n4,n5,n6⟩:=absorbL_rep inv hal (hs.less _) hexp
    have hcl:(a.eval y).cells.toList.length=szOf E.P t:=by rw [←hb1];exact hexp.length.symm
    obtain ⟨inf,hinf,hisz⟩:=info_of (E:=E) (t:=t) hb2
    have hall:al.length=szOf E.P t:=by rw [n2,hcl]
    have hpos:1≤nCells k:=by omega
    have hend:i*nCells k+off+szOf E.P t≤xs.length*nCells k:=by
     calc i*nCells k+off+szOf E.P t≤i*nCells k+nCells k:=by omega
      _=(i+1)*nCells k:=by rw [Nat.add_mul,Nat.one_mul]
      _≤xs.length*nCells k:=Nat.mul_le_mul_right _ hi
    obtain ⟨k1,k2⟩:=putCells_enc hy (by omega)
    obtain ⟨w',cs',hrun,hgr,hown',hcs'⟩:=store_cells (P:=E.P) hinf h1 hb (i*nCells k+off) (a.eval y) (by omega) (by omega) hone
    have hex':(execOp a.eval o).run E.P w=.ok .skip w':=by
     simp only [execOp,ho,hv]
     simp [hrun]
    have hbb:blk (σ.val ob)=some b:=by rw [hb];rfl
    have own0:=own_deep hgg
    have hbin:b∈σ.bs ob:=by rw [h4,hbb];simp
    have hls:∀s∈ls,Own h s∧s≠ob:=fun s hs'=>by
     obtain ⟨⟨x',hx'⟩,l⟩:=n6 s hs'
     refine ⟨l,fun e=>?_⟩
     subst e
     have:=(vwDel_some hx').2
     simp at this
    have hnl:bssN.length=szOf E.P t:=by rw [n1,hcl]
    have hnd:bss.flatten.Nodup:=by rw [h4] at h5;exact (List.nodup_append.1 h5).2.1
    have hdj:∀b'∈bss.flatten,b'≠b:=fun b' hb' e=>by
     rw [h4,hbb] at h5
     exact (List.nodup_append.1 h5).2.2 b (by simp) b' hb' e.symm
    obtain ⟨p1,p2⟩:=patch_flat bss bssN (i*nCells k+off) hnd
    have hN:∀b'∈bssN.flatten,∃s∈ls,Own h s∧s≠ob∧b'∈σ.bs s:=fun b' hb'=>by
     rw [n4] at hb'
     obtain ⟨s,hs',hb''⟩:=List.mem_flatMap.1 hb'
     exact ⟨s,hs',(hls s hs').1,(hls s hs').2,hb''⟩
    have hNne:∀b'∈bssN.flatten,b'∉σ.bs ob:=fun b' hb' hb''=>by
     obtain ⟨s,-,l,hne,hbs⟩:=hN b' hb'
     exact inv.inj s ob l own0 hne b' hbs hb''
    have hNnd:bssN.flatten.Nodup:=by rw [n4];exact bs_nodup inv n5 fun s hs'=>(hls s hs').1
    have keepB:∀b',b'≠b→b'<w.heap.size→w'.heap[b']?=w.heap[b']?:=fun b' hne hlt=>hgr.block b' hlt fun e=>hne (Option.some.inj e)
    have bold:∀b'∈bss.flatten,w'.heap[b']?=w.heap[b']?:=fun b' hb'=>keepB b' (hdj b' hb') (inv.bslt ob own0 b' (by rw [h4];exact List.mem_append_right _ hb'))
    have bnew:∀b'∈bssN.flatten,w'.heap[b']?=w.heap[b']?:=fun b' hb'=>by
     obtain ⟨s,-,l,hne,hbs⟩:=hN b' hb'
     exact keepB b' (fun e=>hNne b' hb' (e▸hbin)) (inv.bslt s l b' hbs)
    have hPlen:i*nCells k+off+bssN.length≤bss.length:=by rw [h2,h1.1,hnl];exact hend
    have hsame:SameO σ (σ.setB ob (σ.val ob) ((blk (σ.val ob)).toList++(bss.take (i*nCells k+off)++bssN++bss.drop (i*nCells k+off+bssN.length)).flatten)) h (H.put ob (.deep m k (xs.set i y') none) (delL ls h)) ob:=by
     refine .inr ⟨live_of hgg,Sg.setB_same _ _ _ _,fun x' q hx hq=>?_⟩
     rw [H.get_put_same] at hx
     obtain rfl:=Option.some.inj hx
     exact ⟨_,hgg,by rw [←hq];simp [Obj.info]⟩
    obtain ⟨e1,e2,e3⟩:=absorb_change inv ob (.deep m k (xs.set i y') none) ls (σ.val ob) ((blk (σ.val ob)).toList++(bss.take (i*nCells k+off)++bssN++bss.drop (i*nCells k+off+bssN.length)).flatten) (fun hm=>(hls ob hm).2 rfl) (some b) hgr
     (fun b' hb''=>by obtain rfl:=Option.some.inj hb'';exact ⟨own0,hbin⟩)
     (fun b' hb'=>by
      rcases List.mem_append.1 hb' with hb'|hb'
      ·exact .inl ⟨own0,by rw [h4];exact List.mem_append_left _ hb'⟩
      ·rcases p1 b' hb' with ⟨q1,-⟩|q1
       ·exact .inl ⟨own0,by rw [h4];exact List.mem_append_right _ q1⟩
       ·obtain ⟨s,hs',l,hne,hbs⟩:=hN b' q1
        exact .inr (.inl ⟨s,hs',l,hbs⟩))
     (fun d=>by cases d) (fun o x g hne hm=>hsame)
     ⟨cs',bss.take (i*nCells k+off)++bssN++bss.drop (i*nCells k+off+bssN.length),by rw [Sg.setB_same,List.length_set];exact hown',by
       rw [hown'.1]
       simp only [List.length_append,List.length_take,List.length_drop]
       rw [h2,h1.1] at hPlen⊢
       omega,fun p pv c' bs' hp hc' hb'=>by
       show RepO m w' _ pv c' bs'
       rw [set_flat hpos hi hb3 (fun j hj=>k2 j (by rw [hall];exact hj))] at hp
       rw [hcs',hisz] at hc'
       rw [patch_get _ _ _ hPlen,hnl] at hb'
       by_cases hin:i*nCells k+off≤p∧p<i*nCells k+off+szOf E.P t
       ·rw [if_pos hin] at hp hc' hb'
        obtain ⟨j,rfl⟩:∃j,p=i*nCells k+off+j:=⟨p-(i*nCells k+off),by omega⟩
        rw [Nat.add_sub_cancel_left] at hc' hb'
        have hj:j<al.length:=by omega
        obtain ⟨z,pv',z1,z2,z3⟩:=k1 j _ (List.getElem?_eq_getElem hj)
        rw [show i*nCells k+off+j-i*nCells k=off+j by omega,z3] at hp
        obtain rfl:=Option.some.inj hp
        have hmod:(i*nCells k+off+j)%nCells k=off+j:=by rw [Nat.add_assoc];exact (pos_div (by omega)).2
        rw [hmod]
        have hk:=n3 j _ c' bs' (List.getElem?_eq_getElem hj) hc' hb' _ z pv' z1 z2
        exact hk.mono fun b' hb''=>bnew b' (List.mem_flatten.2 ⟨bs',List.mem_of_getElem? hb',hb''⟩)
       ·rw [if_neg hin] at hp hc' hb'
        have h6:=h3 p pv c' bs' hp hc' hb'
        have hno:holeAt k hole p=none:=by
         unfold holeAt
         split
         ·rename_i hi' hoff v'
          simp only [holeOk,Bool.and_eq_true] at hhole
          have q1:=nbeq_eq.1 hhole.1.1
          have q2:=Nat.le_of_ble_eq_true hhole.1.2
          have q3:hoff+1≤off+new.length:=Nat.le_of_ble_eq_true hhole.2
          rw [if_neg]
          subst q1
          omega
         ·rfl
        rw [hno] at h6
        exact RepO.mono h6 fun b' hb''=>bold b' (List.mem_flatten.2 ⟨bs',List.mem_of_getElem? hb',hb''⟩),
      by rw [Sg.bsB_same,Sg.setB_same],by
       rw [Sg.bsB_same]
       refine List.nodup_append.2 ⟨by cases blk (σ.val ob)<;>simp,p2 hNnd (fun b' hb' hb''=>hNne b' hb' (by rw [h4];exact List.mem_append_right _ hb'')),fun a' ha' b' hb' e=>?_⟩
       rw [hbb] at ha'
       have ha':a'=b:=by simpa using ha'
       subst ha'
       rcases p1 b' hb' with ⟨q1,-⟩|q1
       ·exact hdj b' q1 e.symm
       ·exact hNne b' q1 (e▸hbin),fun _ _ _ e=>by cases e⟩
    have happ:H.apply h (delU ls++[(ob,some (.deep m k (xs.set i y') none))])=H.put ob (.deep m k (xs.set i y') none) (delL ls h):=by rw [apply_append,apply_delU];rfl
    rw [←happ] at e1 e2 e3 hsame
    exact wp_skip' hex' (hn _ w' undef ⟨e1,e2,rfl,fun a' c' _ r'=>e3 a' c' (fun _=>hsame) r'⟩)
   ·cases e
  ·cases e
 ·cases e
end
end Go.Proofs.YtfdcjocallblcaaGreatDoor.Ev
