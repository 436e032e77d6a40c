/- Rows that are owned whole: make, literals, append; what is lent is given back; nil that becomes an empty row. No conditions. -/
import Derived.Test.YtfdcjocallblcaaGreatDoorEvMc
namespace Go.Proofs.YtfdcjocallblcaaGreatDoor.Ev
open Go
section
variable {σ : Sg} {h : H} {w : World}
theorem repO_nil (m:Nat) (w:World) (k:Ty):RepO m w (.sl k) (.sl []) (.slice none 0 0) []:=
 RepO.sl (m:=m) (w:=w) k [] (.slice none 0 0) [] [] (World.ownsRow_nil w 0 (tidOf m k) (nCells k)) (by simp) rfl (fun p pv c bs hp=>by simp at hp)
theorem zero1_own {t:Ty} {a:AV} {v:Value} (m:Nat) (w':World) (e:zero1 t a=true) (r:RepA σ h w a v):∃p,enc t t.dflt=[p]∧RepO m w' t p v []:=by
 unfold zero1 at e
 split at e
 ·simp only [Bool.and_eq_true] at e
  obtain rfl:=of_decide_eq_true e.1
  rename_i n
  have hn:n=(0:Int):=eq_of_beq e.2
  rw [repT_int r]
  exact ⟨.int _ 0,rfl,by rw [hn];exact .int _ _ _⟩
 ·rename_i b
  have hb:b=false:=by simpa using e
  rw [repT_bool r]
  exact ⟨.bool false,rfl,by rw [hb];exact .bool _ _⟩
 ·rename_i s
  have hs:=nbeq_eq.1 e
  rw [repT_str r]
  have he:s=ByteArray.empty:=by
   apply ByteArray.ext
   apply Array.eq_empty_of_size_eq_zero
   exact hs
  exact ⟨.str ByteArray.empty,rfl,by rw [he];exact .str _ _⟩
 ·rename_i k
  have r:v=.slice none 0 0:=r
  subst r
  exact ⟨.sl [],rfl,repO_nil m w' k⟩
 ·cases e
theorem zeros_own (m:Nat) (w':World):∀{ts:List Ty} {al:List AV} {vs:List Value},zeros ts al=true→RepAs σ h w al vs→∀(j:Nat) (pv:PV) (c:Value),(ts.flatMap fun t=>enc t t.dflt)[j]?=some pv→vs[j]?=some c→RepO m w' (ts.getD j .bool) pv c []
 |[],[],[],_,_=>fun j pv c hp=>by simp at hp
 |t::ts,a::as',v::vs,e,r=>fun j pv c hp hc=>by
  simp only [zeros,Bool.and_eq_true] at e
  obtain ⟨p,hp1,hr⟩:=zero1_own m w' e.1 r.1
  rw [List.flatMap_cons,hp1] at hp
  match j,hp,hc with
  |0,hp,hc=>
   obtain rfl:=Option.some.inj hp
   obtain rfl:=Option.some.inj hc
   exact hr
  |j+1,hp,hc=>exact zeros_own m w' e.2 r.2 j pv c hp hc
 |[],_::_,_,e,_=>by simp [zeros] at e
 |_::_,[],_,e,_=>by simp [zeros] at e
 |[],[],_::_,_,r=>r.elim
 |_::_,_::_,[],_,r=>r.elim
theorem zero_own (m:Nat) (w':World) {k:Ty} {al:List AV} {vs:List Value} (e:zeroOk k al=true) (r:RepAs σ h w al vs):∀(j:Nat) (pv:PV) (c:Value),(enc k k.dflt)[j]?=some pv→vs[j]?=some c→RepO m w' (cellTy k j) pv c []:=by
 cases k with
 |st i=>
  have:=zeros_own m w' (ts:=fieldTys i) e r
  rcases i with _|_|_|_|_|_|i<;>exact this
 |_=>
  have:=zeros_own m w' e r
  exact fun j pv c hp hc=>this j pv c (by simpa using hp) hc
end
section
variable {E : Env} {o : Oper} {site : Nat} {vs : List AV} {h : H} {vw : View} {v : AV} {u : Upd} {ks : List Nat}
theorem deepM_some {t:TypeId} {k:Ty} {m:Nat} (e:deepM E t k=some m):memT k=true∧tidOf m k=elD E t:=by
 unfold deepM at e
 split at e
 ·split at e
  ·obtain ⟨hb,e⟩:=cond_some e
   obtain rfl:=Option.some.inj e
   simp only [Bool.and_eq_true] at hb
   exact ⟨hb.1,nbeq_eq.1 hb.2⟩
  ·cases e
 ·cases e
theorem sim_newDeep {m:Nat} {k:Ty} {xs:List k.den} {ls:List Nat}
  (H0:∀(σ:Sg) (w:World) (a:Act),Inv σ h w→RepAs σ h w vs (o.op.operands.toList.map a.eval)→∃(w':World) (cv:Value) (cs:List Value) (bss:List (List Nat)),(execOp a.eval o).run E.P w=.ok (.value cv) w'∧w.grownBy w' none∧
   (∀b,blk cv=some b→w.heap.size≤b)∧w'.ownsRow 0 (tidOf m k) (nCells k) cv xs.length cs∧bss.length=cs.length∧(∀(p:Nat) (pv:PV) (c:Value) (bs:List Nat),(xs.flatMap (enc k))[p]?=some pv→cs[p]?=some c→bss[p]?=some bs→RepO m w (cellTy k (p%nCells k)) pv c bs)∧
   bss.flatten=ls.flatMap σ.bs∧ls.Nodup∧(∀s∈ls,Own h s)):
  Sim E.P o site vs h (.row site) (delU ls++[(site,some (.deep m k xs none))]) []:=by
 intro hs σ w a inv r next Q hn
 have hs:=hs ⟨_,List.mem_append_right _ (List.mem_singleton.2 rfl)⟩
 obtain ⟨w',cv,cs,bss,hrun,hg,hb,hown,hbl,hk,hfl,hnd,hls⟩:=H0 σ w a inv r
 have hno:site∉ls:=fun hm=>by
  obtain ⟨x,gx,-⟩:=hls site hm
  exact hs.1 (H.ids_of_mem (H.mem_of_get gx))
 obtain ⟨av,cc,hcv⟩:=own_slice hown
 have hlt:∀b,blk cv=some b→b<w'.heap.size:=fun b hb'=>by rw [blk_own hcv] at hb';exact (hown.lt b hb').2
 have hN:∀b∈bss.flatten,∃s∈ls,Own h s∧b∈σ.bs s:=fun b hb'=>by
  rw [hfl] at hb'
  obtain ⟨s,hs',hb''⟩:=List.mem_flatMap.1 hb'
  exact ⟨s,hs',hls s hs',hb''⟩
 have hold:∀b∈bss.flatten,b<w.heap.size:=fun b hb'=>by
  obtain ⟨s,-,l,hb''⟩:=hN b hb'
  exact inv.bslt s l b hb''
 have happ:H.apply h (delU ls++[(site,some (.deep m k xs none))])=H.put site (.deep m k xs none) (delL ls h):=by rw [apply_append,apply_delU];rfl
 obtain ⟨e1,e2,e3⟩:=absorb_change inv site (.deep m k xs none) ls cv ((blk cv).toList++bss.flatten) hno none hg (fun b hb=>by cases hb)
  (fun b hb'=>by
   rcases List.mem_append.1 hb' with hb'|hb'
   ·exact .inr (.inr ⟨hb b (mem_blk.1 hb'),hlt b (mem_blk.1 hb')⟩)
   ·exact .inr (.inl (hN b hb')))
  (fun d=>by cases d) (fun o x g _ hi=>absurd (H.ids_of_get g hi) hs.1)
  ⟨cs,bss,by rw [Sg.setB_same];exact hown,hbl,fun p pv c bs hp hc hb'=>(hk p pv c bs hp hc hb').mono fun b hb''=>hg.block b (hold b (List.mem_flatten.2 ⟨bs,List.mem_of_getElem? hb',hb''⟩)) (by simp),by rw [Sg.bsB_same,Sg.setB_same],by
   rw [Sg.bsB_same]
   refine List.nodup_append.2 ⟨by cases blk cv<;>simp,by rw [hfl];exact bs_nodup inv hnd hls,fun a ha b hb' e=>?_⟩
   have h1:=hb a (mem_blk.1 ha)
   have h2:=hold b hb'
   omega,fun _ _ _ e=>by cases e⟩
 rw [←happ] at e1 e2 e3
 have hg0:H.get site (H.apply h (delU ls++[(site,some (.deep m k xs none))]))=some (.deep m k xs none):=by rw [happ];exact H.get_put_same _ _ _
 exact wp_value hrun (hn _ w' cv ⟨e1,e2,⟨by rw [hcv];rfl,fun _=>(Sg.setB_same _ _ _ _).symm⟩,fun a' c' ha' r'=>e3 a' c' (fun hi=>absurd (List.mem_append_right _ (List.mem_singleton.2 rfl)) ((ha' site hi).2 rfl _)) r'⟩)
theorem sim_makeD {t:TypeId} {l:Operand} {m n:Nat} {k:Ty} {q:AV} (ho:o.op=.makeSlice t l l) (hm:deepM E t k=some m) (hf:elFits E t k=true) (hn:n≤lim):
  Sim E.P o site [.tv i64 (n:Int),q] h (.row site) [(site,some (.deep m k (List.replicate n k.dflt) none))] []:=by
 obtain ⟨el,inf,z,ht,hinf,hsz,hpos,hag,hby,-,hz,hzs,hzo⟩:=elFits_some hf
 obtain ⟨hmem,htid⟩:=deepM_some hm
 refine sim_newDeep (ls:=[]) fun σ w a inv r=>?_
 simp only [ho,Op.operands,List.map_cons,List.map_nil] at r
 have hi:=repT_int r.1
 have hbytes:(inf.bytes:Int)*(n:Int)≤281474976710656:=by
  have:inf.bytes*n≤128*lim:=Nat.mul_le_mul hby hn
  have h2:(128*lim:Nat)≤281474976710656:=by decide
  have h3:((inf.bytes*n:Nat):Int)≤281474976710656:=by omega
  rwa [Int.natCast_mul] at h3
 have hrun:=run_make (P:=E.P) w t el inf z ht hinf hz .i64 .i64 n n (by omega) (Int.le_refl _) hbytes (by unfold lim at hn;omega)
 rw [Int.toNat_natCast,hsz] at hrun
 have htid:tidOf m k=el:=htid.trans (elD_of ht)
 refine ⟨w.alloc (.cells (madeCells z.cells (n*nCells k)) el),.slice (some ⟨w.heap.size,0,none⟩) n n,(madeCells z.cells (n*nCells k)).toList,List.replicate (n*nCells k) [],?_,World.grownBy_alloc w _ none,fun b hb=>by simp [blk] at hb;omega,?_,?_,?_,?_,by simp,by simp⟩
 ·simp only [execOp,ho,hi]
  simp [hrun]
 ·rw [List.length_replicate,htid]
  refine ⟨by rw [Array.length_toList,size_madeCells],.inr ⟨w.heap.size,n,_,rfl,Nat.zero_le _,heap_alloc_new w _,Nat.le_refl _,by unfold maxLen;unfold lim at hn;omega,size_madeCells _ _,?_⟩⟩
  rw [List.take_of_length_le (by rw [Array.length_toList,size_madeCells];exact Nat.le_refl _)]
 ·rw [List.length_replicate,Array.length_toList,size_madeCells]
 ·intro p pv c bs hp hc hb
  have hb':bs=[]:=by
   rw [List.getElem?_replicate] at hb
   split at hb
   ·exact (Option.some.inj hb).symm
   ·cases hb
  subst hb'
  have hlt:p<n*nCells k:=by
   have:=(List.getElem?_eq_some_iff.1 hc).1
   rwa [Array.length_toList,size_madeCells] at this
  rw [flatRep_get (enc k) (nCells k) _ (enc_length k _) hpos n p hlt] at hp
  have hmod:p%nCells k<z.cells.size:=by rw [hzs];exact Nat.mod_lt _ hpos
  refine zero_own m w hzo (valAVs_rep (σ:=σ) (h:=h) (w:=w) _) (p%nCells k) pv c hp ?_
  rw [Array.getElem?_toList] at hc⊢
  unfold madeCells at hc
  rw [Array.getElem?_map,Array.getElem?_range,if_pos hlt] at hc
  simp only [Option.map_some,Option.some.injEq] at hc
  rw [←hc,hzs,getElem!_pos z.cells (p%nCells k) hmod,Array.getElem?_eq_getElem hmod]
 ·simp
theorem absorbs_rep {σ:Sg} {w:World} (inv:Inv σ h w) {m:Nat} {k:Ty} (hpos:1≤nCells k):∀{vs:List AV} {vw:View} {xs:List k.den} {l:List Nat} {cvs:List Value},absorbs m k vw vs=some (xs,l)→Shows vw h→RepAs σ h w vs cvs→
  ∃bss:List (List Nat),bss.length=(cvs.flatMap fun v=>v.cells.toList).length∧(∀(p:Nat) (pv:PV) (c:Value) (bs:List Nat),(xs.flatMap (enc k))[p]?=some pv→(cvs.flatMap fun v=>v.cells.toList)[p]?=some c→bss[p]?=some bs→RepO m w (cellTy k (p%nCells k)) pv c bs)∧
   bss.flatten=l.flatMap σ.bs∧l.Nodup∧(∀s∈l,(∃x,vw s=some x)∧Own h s)∧(∀v∈cvs,v.cells.size=nCells k)∧xs.length=cvs.length
 |[],vw,_,_,[],e,hs,r=>by
  simp only [absorbs] at e
  obtain ⟨rfl,rfl⟩:=Prod.mk.inj (Option.some.inj e)
  exact ⟨[],rfl,fun p pv c bs hp=>by simp at hp,rfl,by simp,fun s hs=>by simp at hs,by simp,rfl⟩
 |v::r,vw,_,_,c::cvs,e,hs,rr=>by
  simp only [absorbs] at e
  split at e
  ·rename_i cs hcs
   split at e
   ·rename_i al l1 hal
    replace e:=cond_some e
    obtain ⟨hlen,e⟩:=e
    have hlen:=nbeq_eq.1 hlen
    split at e
    ·rename_i x hx
     split at e
     ·rename_i xs l2 h2
      obtain ⟨rfl,rfl⟩:=Prod.mk.inj (Option.some.inj e)
      obtain ⟨hexp,hone⟩:=explode_rep hcs rr.1
      obtain ⟨b1,n1,n2,n3,n4,n5,n6⟩:=absorbL_rep inv hal hs hexp
      obtain ⟨b2,m1,m2,m3,m4,m5,m6,m7⟩:=absorbs_rep inv hpos h2 (hs.less _) rr.2
      have hcl:c.cells.toList.length=nCells k:=by rw [←hlen];exact hexp.length.symm
      have hb1:b1.length=nCells k:=by rw [n1,hcl]
      obtain ⟨k1,-⟩:=putCells_enc hx (by rw [n2,hcl];omega)
      refine ⟨b1++b2,by rw [List.length_append,List.flatMap_cons,List.length_append,n1,m1],fun p pv c' bs hp hc hb=>?_,by simp [n4,m3],?_,fun s hs'=>?_,fun u hu=>?_,by simp [m7]⟩
      ·rw [List.flatMap_cons] at hp hc
       by_cases hlt:p<nCells k
       ·rw [List.getElem?_append_left (by rw [enc_length];exact hlt)] at hp
        rw [List.getElem?_append_left (by rw [hcl];exact hlt)] at hc
        rw [List.getElem?_append_left (by rw [hb1];exact hlt)] at hb
        have hj:p<al.length:=by rw [n2,hcl];exact hlt
        obtain ⟨z,pv',z1,z2,z3⟩:=k1 p _ (List.getElem?_eq_getElem hj)
        have z3':(enc k x)[p]?=some pv':=by rw [←z3,Nat.zero_add]
        rw [z3'] at hp
        obtain rfl:=Option.some.inj hp
        rw [Nat.mod_eq_of_lt hlt]
        have z1':=n3 p _ c' bs (List.getElem?_eq_getElem hj) hc hb _ z pv' z1 z2
        rwa [Nat.zero_add] at z1'
       ·rw [List.getElem?_append_right (by rw [enc_length];omega),enc_length] at hp
        rw [List.getElem?_append_right (by rw [hcl];omega),hcl] at hc
        rw [List.getElem?_append_right (by rw [hb1];omega),hb1] at hb
        have:=m2 _ pv c' bs hp hc hb
        rwa [←Nat.mod_eq_sub_mod (by omega)] at this
      ·rw [List.nodup_append]
       refine ⟨n5,m4,fun x hx y hy e=>?_⟩
       subst e
       obtain ⟨⟨z,hz⟩,-⟩:=m5 x hy
       exact delU_any (vwDel_some hz).2 hx
      ·rcases List.mem_append.1 hs' with hs'|hs'
       ·exact n6 s hs'
       ·obtain ⟨⟨z,hz⟩,ho⟩:=m5 s hs'
        exact ⟨⟨z,(vwDel_some hz).1⟩,ho⟩
      ·rcases List.mem_cons.1 hu with rfl|hu
       ·rw [←hcl,Array.length_toList]
       ·exact m6 u hu
     ·cases e
    ·cases e
   ·cases e
  ·cases e
 |[],_,_,_,_::_,_,_,r=>r.elim
 |_::_,_,_,_,[],_,_,r=>r.elim
theorem sim_buildSliceD {t:TypeId} {n m:Nat} {k:Ty} {ps:Array (Nat×Operand)} (hs:Shows vw h) (ho:o.op=.buildSlice t n ps) (hm:deepM E t k=some m) (hf:elFits E t k=true) (hn:n=vs.length) (hn1:n≤1000) (hr:ps.toList.map (·.1)=List.range n)
  (e:evBuildSliceD m k site vw vs pk=some (v,u,ks)):Sim E.P o site vs h v u ks:=by
 obtain ⟨el,inf,z,ht,hinf,hsz,hpos,hag,hby,-,hz,hzs,-⟩:=elFits_some hf
 obtain ⟨hmem,htid⟩:=deepM_some hm
 have htid:tidOf m k=el:=htid.trans (elD_of ht)
 unfold evBuildSliceD at e
 split at e
 ·rename_i xs l hx
  cases e
  refine sim_newDeep fun σ w a inv r=>?_
  have hops:o.op.operands.toList.map a.eval=ps.toList.map fun p=>a.eval p.2:=by simp [ho,Op.operands]
  rw [hops] at r
  obtain ⟨bss,b1,b2,b3,b4,b5,hsizes,hlen⟩:=absorbs_rep inv hpos hx hs r
  have hvl:vs.length=(ps.toList.map fun p=>a.eval p.2).length:=r.length
  have hxl:xs.length=n:=by rw [hlen,hn,hvl]
  have hparts:(ps.map fun p=>(p.1,a.eval p.2)).toList=((ps.toList.map fun p=>a.eval p.2).zipIdx 0).map fun x=>(x.2,x.1):=by
   rw [Array.toList_map];exact range_zip ps.toList n a.eval hr
  by_cases h0:n=0
  ·have hnil:ps.toList=[]:=by
    have:ps.toList.length=0:=by rw [←List.length_map (f:=fun p=>a.eval p.2),←hvl,←hn,h0]
    exact List.eq_nil_of_length_eq_zero this
   have hpe:ps=#[]:=by simpa using hnil
   have hxn:xs=[]:=List.eq_nil_of_length_eq_zero (by rw [hxl,h0])
   subst hxn
   have hb0:bss=[]:=List.eq_nil_of_length_eq_zero (by rw [b1,hnil];rfl)
   subst hb0
   refine ⟨w.alloc (.cells #[] el),.slice (some ⟨w.heap.size,0,none⟩) 0 0,[],[],?_,World.grownBy_alloc w _ none,fun b hb=>by simp [blk] at hb;omega,?_,rfl,fun p pv c bs hp=>by simp at hp,b3,b4,fun s hs'=>(b5 s hs').2⟩
   ·simp only [execOp,ho]
    simp [Instr.buildSlice,run_underlying ht,sizeOf,typeInfo,hinf,h0,hpe,Instr.fill,newRow,Array.range_zero']
   ·rw [htid]
    exact ⟨by simp,.inr ⟨w.heap.size,0,#[],rfl,Nat.zero_le _,heap_alloc_new w _,Nat.le_refl _,Nat.zero_le _,by simp,by simp⟩⟩
  ·have hsize:n*nCells k=(ps.toList.map fun p=>a.eval p.2).length*nCells k:=by rw [hn,hvl]
   obtain ⟨cells,hfill,hcs,hk⟩:=Great.fill_dense (s:=nCells k) hpos (ps.toList.map fun p=>a.eval p.2) 0 ((Array.range (n*nCells k)).map (z.cells[·%z.cells.size]!)) hsizes (by simp only [Nat.zero_add,Array.size_map,Array.size_range,hsize];exact Nat.le_refl _)
   have hsmall:n*nCells k≤2^24:=by
    have:nCells k≤1000:=by
     cases k with
     |st i=>rcases i with _|_|_|_|_|_|i<;>simp [nCells,fieldTys]
     |_=>simp [nCells]
    calc n*nCells k≤1000*1000:=Nat.mul_le_mul hn1 this
     _≤2^24:=by decide
   have hne:n*nCells k≠0:=Nat.mul_ne_zero h0 (by omega)
   have hrun:=run_buildSlice (P:=E.P) w t el n (ps.map fun p=>(p.1,a.eval p.2)) cells inf z ht hinf hz (by rw [hsz];omega) (by rw [hsz];exact hne) (by rw [hsz,hparts];exact hfill)
   have hflat:cells.toList=(ps.toList.map fun p=>a.eval p.2).flatMap fun v=>v.cells.toList:=by
    apply List.ext_getElem?
    intro i
    rw [Great.flat_get hpos _ hsizes i,Array.getElem?_toList,hk i]
    simp only [Nat.zero_mul,Nat.zero_le,true_and,Nat.zero_add,Nat.sub_zero]
    split
    ·rfl
    ·rename_i hlt
     rw [Array.getElem?_eq_none (by simp only [Array.size_map,Array.size_range,hsize];omega)]
     have:(ps.toList.map fun p=>a.eval p.2)[i/nCells k]?=none:=by
      apply List.getElem?_eq_none
      exact (Nat.le_div_iff_mul_le (by omega)).2 (by omega)
     rw [this];rfl
   refine ⟨w.alloc (.cells cells el),.slice (some ⟨w.heap.size,0,none⟩) n n,cells.toList,bss,?_,World.grownBy_alloc w _ none,fun b hb=>by simp [blk] at hb;omega,?_,by rw [b1,hflat],fun p pv c bs hp hc hb=>by rw [hflat] at hc;exact b2 p pv c bs hp hc hb,b3,b4,fun s hs'=>(b5 s hs').2⟩
   ·simp only [execOp,ho]
    simp [hrun]
   ·rw [htid]
    have hcsz:cells.size=n*nCells k:=by rw [hcs];simp
    refine ⟨by rw [Array.length_toList,hcsz,hxl],.inr ⟨w.heap.size,n,cells,by rw [hxl],Nat.zero_le _,heap_alloc_new w _,by rw [hxl];exact Nat.le_refl _,by unfold maxLen;omega,hcsz,?_⟩⟩
    rw [hxl,List.take_of_length_le (by rw [Array.length_toList,hcsz];exact Nat.le_refl _)]
 ·cases e
end
end Go.Proofs.YtfdcjocallblcaaGreatDoor.Ev
