/- One operation of the evaluator stands for the machine's: stores into rows, literals of structs. No conditions. -/
import Derived.Test.YtfdcjocallblcaaGreatDoorEvL
namespace Go.Proofs.YtfdcjocallblcaaGreatDoor.Ev
open Go
theorem patch_get {α:Type} (l m:List α) (off:Nat) (h:off+m.length≤l.length) (q:Nat):(l.take off++m++l.drop (off+m.length))[q]?=if off≤q∧q<off+m.length then m[q-off]? else l[q]?:=by
 have ht:(l.take off).length=off:=by rw [List.length_take];omega
 by_cases h1:q<off
 ·rw [if_neg (by omega),List.append_assoc,List.getElem?_append_left (by omega),List.getElem?_take,if_pos h1]
 ·by_cases h2:q<off+m.length
  ·rw [if_pos ⟨by omega,h2⟩,List.getElem?_append_left (by rw [List.length_append,ht];exact h2),List.getElem?_append_right (by omega),ht]
  ·rw [if_neg (by omega),List.getElem?_append_right (by rw [List.length_append,ht];omega),List.getElem?_drop,List.length_append,ht]
   congr 1;omega
section
variable {E : Env} {o : Oper} {site : Nat} {vs : List AV} {h : H} {vw : View} {v : AV} {u : Upd} {ks : List Nat}
theorem sim_storeEl {t:TypeId} {x y:Operand} {ob i el:Nat} {q:AV} {k:Ty} {xs:List k.den} {d:k.den} {u:Upd} (hs:Shows vw h) (ho:o.op=.store t x y) (hg:vw ob=some (.row el k xs))
  (hf:fits E t k=true) (hc:coe k vw q=some (d,u)) (hno:u.any (fun p=>Nat.beq p.1 ob)=false):Sim E.P o site [.pel ob i 0,q] h .und (u++[(ob,some (.row el k (xs.set i d)))]) []:=by
 intro _ σ w a inv r next Q hn
 simp only [ho,Op.operands,List.map_cons,List.map_nil] at r
 have hgg:=hs _ _ hg
 obtain ⟨hi,b,n,c,hb,hv⟩:=r.1.2 _ _ _ hgg rfl
 rw [Nat.add_zero] at hv
 obtain ⟨fz',hco,hrt⟩:=coe_sound hc hs inv r.2.1
 have hg1:H.get ob (H.apply h u)=some (.row el k xs):=by rw [get_dels hco.dels h ob hno];exact hgg
 obtain ⟨cs,hown,hrep⟩:=hco.inv.objs _ _ hg1
 have hb':(⟨σ.val,fz',σ.bs⟩:Sg).val ob=.slice (some ⟨b,0,none⟩) n c:=hb
 rw [hb'] at hown
 obtain ⟨inf,hinf,hsz,hpos,-⟩:=fits_some hf
 have hcells:=hrt.cells
 have hcl:(a.eval y).cells.toList.length=nCells k:=by rw [←hcells.length,enc_length]
 rcases hown.2 with ⟨hv0,-⟩|⟨b0,cap,cur,hv0,-,hh,hle,hcm,hcs,htk⟩
 ·cases hv0
 ·obtain ⟨hbb,hn',-⟩:b=b0∧n=xs.length∧c=cap:=by simpa using hv0
  subst hbb
  have hend:i*nCells k+nCells k≤xs.length*nCells k:=by
   calc i*nCells k+nCells k=(i+1)*nCells k:=by rw [Nat.add_mul,Nat.one_mul]
    _≤xs.length*nCells k:=Nat.mul_le_mul_right _ hi
  have hcap:xs.length*nCells k≤cur.size:=by rw [hcs];exact Nat.mul_le_mul_right _ hle
  have hrun:=run_storeAt (P:=E.P) hinf b (i*nCells k) el cur (a.eval y) w hh (by rw [hcl,hsz]) (by rw [hsz];omega) hcells.oneCell
  have hex:(execOp a.eval o).run E.P w=.ok .skip (w.setRow b (cur.toList.take (i*nCells k)++(a.eval y).cells.toList++cur.toList.drop (i*nCells k+(a.eval y).cells.toList.length)).toArray):=by
   simp only [execOp,ho,hv]
   simp [hrun]
  refine wp_skip' hex (hn ⟨σ.val,fz',σ.bs⟩ _ undef ?_)
  have hgr:=grownBy_setRow w b (cur.toList.take (i*nCells k)++(a.eval y).cells.toList++cur.toList.drop (i*nCells k+(a.eval y).cells.toList.length)).toArray
  have hblk:blk ((⟨σ.val,fz',σ.bs⟩:Sg).val ob)=some b:=by rw [hb'];rfl
  have fzh:∀b',fz' b'→(w.setRow b (cur.toList.take (i*nCells k)++(a.eval y).cells.toList++cur.toList.drop (i*nCells k+(a.eval y).cells.toList.length)).toArray).heap[b']?=w.heap[b']?:=fun b' hbf=>
   hgr.block b' (hco.inv.fzlt b' hbf) fun e=>by
    obtain rfl:=Option.some.inj e
    exact hco.inv.nofz ob (own_row hg1) b' (hco.inv.mem hg1 rfl hblk) hbf
  have hpl:i*nCells k+(a.eval y).cells.toList.length≤cur.toList.length:=by rw [hcl,Array.length_toList];omega
  have hcslen:cs.length=xs.length*nCells k:=hown.1
  have hset:xs.set i d≠[]→True:=fun _=>trivial
  have hobj:ObjRep ⟨σ.val,fz',σ.bs⟩ (H.put ob (.row el k (xs.set i d)) (H.apply h u)) (w.setRow b (cur.toList.take (i*nCells k)++(a.eval y).cells.toList++cur.toList.drop (i*nCells k+(a.eval y).cells.toList.length)).toArray) ob (.row el k (xs.set i d)):=by
   refine ⟨(cur.toList.take (i*nCells k)++(a.eval y).cells.toList++cur.toList.drop (i*nCells k+(a.eval y).cells.toList.length)).take (xs.length*nCells k),?_,?_⟩
   ·rw [hb',List.length_set]
    have hlen2:(cur.toList.take (i*nCells k)++(a.eval y).cells.toList++cur.toList.drop (i*nCells k+(a.eval y).cells.toList.length)).length=cur.size:=by
     simp only [List.length_append,List.length_take,List.length_drop,Array.length_toList] at hpl⊢
     omega
    refine ⟨by rw [List.length_take,hlen2];omega,.inr ⟨b,cap,_,hv0,Nat.zero_le _,setRow_heap w b cur _ el (0,0) hh,hle,hcm,by rw [List.size_toArray,hlen2,hcs],by simp⟩⟩
   ·refine RepPs.mono (fun _ h=>h) fzh (RepPs.mk ?_ fun j p u' hp hu'=>?_)
    ·rw [flatMap_length (enc k) (nCells k) _ (fun x _=>enc_length k x),List.length_set,List.length_take]
     simp only [List.length_append,List.length_take,List.length_drop,Array.length_toList] at hpl⊢
     omega
    ·rw [List.getElem?_take] at hu'
     split at hu'
     ·rename_i hj
      rw [patch_get _ _ _ hpl,hcl] at hu'
      rw [flatMap_get (enc k) (nCells k) hpos _ (fun x _=>enc_length k x)] at hp
      by_cases hin:i*nCells k≤j∧j<i*nCells k+nCells k
      ·rw [if_pos hin] at hu'
       have hq:j/nCells k=i:=Nat.div_eq_of_lt_le hin.1 (by rw [Nat.add_mul,Nat.one_mul];exact hin.2)
       have hm:j%nCells k=j-i*nCells k:=by
        have:=Nat.div_add_mod j (nCells k)
        rw [hq,Nat.mul_comm] at this
        omega
       rw [hq,List.getElem?_set_self hi] at hp
       simp only [Option.bind_some] at hp
       rw [hm] at hp
       exact hcells.at _ p u' hp hu'
      ·rw [if_neg hin] at hu'
       have hq:j/nCells k≠i:=fun e=>hin (by
        have h1:=Nat.div_mul_le_self j (nCells k)
        have h2:=Nat.lt_div_mul_add (a:=j) hpos
        rw [e] at h1 h2
        exact ⟨h1,h2⟩)
       rw [List.getElem?_set_ne (Ne.symm hq)] at hp
       have hcs':cs[j]?=some u':=by
        rw [←htk,List.getElem?_take,if_pos hj];exact hu'
       refine hrep.at j p u' ?_ hcs'
       rw [flatMap_get (enc k) (nCells k) hpos _ (fun x _=>enc_length k x)]
       exact hp
     ·cases hu'
  have same:∀i',SameO ⟨σ.val,fz',σ.bs⟩ ⟨σ.val,fz',σ.bs⟩ (H.apply h u) (H.put ob (.row el k (xs.set i d)) (H.apply h u)) i':=fun i'=>by
   by_cases e:i'=ob
   ·subst e
    refine .inr ⟨live_of hg1,rfl,fun x' q hx hq=>?_⟩
    rw [H.get_put_same] at hx
    obtain rfl:=Option.some.inj hx
    exact ⟨_,hg1,by rw [←hq];simp [Obj.info]⟩
   ·exact sameO_eq (H.get_put_ne _ e _) rfl
  obtain ⟨e1,e2,e3⟩:=change (σ:=⟨σ.val,fz',σ.bs⟩) (σ':=⟨σ.val,fz',σ.bs⟩) (h':=H.put ob (.row el k (xs.set i d)) (H.apply h u)) hco.inv ob (.row el k (xs.set i d)) (some b) (fun i hi=>H.get_put_ne _ hi _) (H.get_put_same ob _ _) (fun _ _=>rfl) (fun _ _=>rfl) rfl
   (H.nodup_put ob _ _ hco.inv.nodup) hgr (fun b' hb''=>by obtain rfl:=Option.some.inj hb'';exact ⟨own_row hg1,hco.inv.mem hg1 rfl hblk⟩)
   (fun b' hb''=>⟨.inl ⟨own_row hg1,hb''⟩,Nat.lt_of_lt_of_le (hco.inv.bslt ob (own_row hg1) b' hb'') hgr.size⟩) (fun _=>hco.inv.bsok ob _ hg1 rfl)
   (fun i x g hi hm=>same ob) hobj
  have happ:H.apply h (u++[(ob,some (.row el k (xs.set i d)))])=H.put ob (.row el k (xs.set i d)) (H.apply h u):=by rw [apply_append];rfl
  refine ⟨?_,?_,rfl,fun b c _ r=>?_⟩
  ·show Ext σ h w _ (H.apply h (u++_)) _
   rw [happ];exact hco.ext.trans e1
  ·show Inv _ (H.apply h (u++_)) _
   rw [happ];exact e2
  ·show RepA _ (H.apply h (u++_)) _ _ _
   rw [happ];exact e3 b c (fun _=>same ob) (hco.keep b c r)
theorem foldl_patch (off:Nat) (m:List Value) (cs:Array Value) (h:off+m.length≤cs.size):((m.zipIdx 0).foldl (fun cs (x:Value×Nat)=>cs.setIfInBounds (off+x.2) x.1) cs).toList=cs.toList.take off++m++cs.toList.drop (off+m.length):=by
 obtain ⟨h1,h2⟩:=Great.foldl_set off m 0 cs
 apply List.ext_getElem?
 intro q
 rw [patch_get _ _ _ (by rw [Array.length_toList];exact h),Array.getElem?_toList,h2 q]
 simp only [Nat.add_zero,Array.getElem?_toList]
 by_cases hq:off≤q∧q<off+m.length
 ·rw [if_pos ⟨hq.1,hq.2,by omega⟩,if_pos hq]
 ·rw [if_neg (by omega),if_neg hq]
theorem fill_rep {σ:Sg} {w:World} {fs:Array Field}:∀{is:List Nat} {vs cells cs:List AV} {vals:List Value} {zs:Array Value},fillAV E fs cells is vs=some cs→RepAs σ h w cells zs.toList→RepAs σ h w vs vals→
  ∃out,Instr.fill ((fs.toList.map fun f=>(f.offset,szOf E.P f.type)).toArray[·]?) zs (is.zip vals)=some out∧RepAs σ h w cs out.toList∧out.size=zs.size
 |[],[],cells,cs,[],zs,e,r,_=>by
  simp only [fillAV] at e
  obtain rfl:=Option.some.inj e
  exact ⟨zs,rfl,r,rfl⟩
 |i::is,v::vs,cells,cs,c::vals,zs,e,r,rv=>by
  simp only [fillAV] at e
  split at e
  ·rename_i f hf
   split at e
   ·rename_i new hnew
    replace e:=cond_some e
    obtain ⟨hb,e⟩:=e
    simp only [Bool.and_eq_true] at hb
    have h1:=nbeq_eq.1 hb.1.1
    have h2:=Nat.le_of_ble_eq_true hb.2
    obtain ⟨hr,-⟩:=explode_rep hnew rv.1
    have hl:=hr.length
    have hcl:c.cells.size=szOf E.P f.type:=by rw [←h1,hl,Array.length_toList]
    have hzs:cells.length=zs.size:=by rw [r.length,Array.length_toList]
    have hfit:f.offset+c.cells.size≤zs.size:=by rw [hcl,←hzs];exact h2
    have hpatch:=foldl_patch f.offset c.cells.toList zs (by rw [Array.length_toList];exact hfit)
    have r':RepAs σ h w (setCells cells f.offset new) ((c.cells.toList.zipIdx 0).foldl (fun cs (x:Value×Nat)=>cs.setIfInBounds (f.offset+x.2) x.1) zs).toList:=by
     rw [hpatch]
     unfold setCells
     rw [hl]
     exact ((r.take _).append hr).append (r.drop _)
    obtain ⟨out,ho,hro,hos⟩:=fill_rep e r' rv.2
    refine ⟨out,?_,hro,by rw [hos,(Great.foldl_set _ _ _ _).1]⟩
    have hplace:(fs.toList.map fun f=>(f.offset,szOf E.P f.type)).toArray[i]?=some (f.offset,szOf E.P f.type):=by
     rw [List.getElem?_toArray,List.getElem?_map,Array.getElem?_toList,hf];rfl
    simp only [List.zip_cons_cons,Instr.fill,hplace]
    rw [if_neg (by simp only [hcl,Bool.or_eq_true,decide_eq_true_eq,not_or];rw [hcl] at hfit;exact ⟨fun hne=>hne rfl,by omega⟩),←ho]
    congr 1
    rw [←Array.foldl_toList,Array.toList_zipIdx]
   ·cases e
  ·cases e
 |[],_::_,_,_,_,_,e,_,_=>by simp [fillAV] at e
 |_::_,[],_,_,_,_,e,_,_=>by simp [fillAV] at e
 |[],[],_,_,_::_,_,_,_,r=>r.elim
 |_::_,_::_,_,_,[],_,_,_,r=>r.elim
theorem sim_build {t:TypeId} {ps:Array (Nat×Operand)} (ho:o.op=.build t ps) (e:evBuild E t (ps.toList.map (·.1)) vs pk=some (v,u,ks)):Sim E.P o site vs h v u ks:=by
 unfold evBuild at e
 replace e:=cond_some e
 obtain ⟨hp,e⟩:=e
 split at e
 ·rename_i zc hz
  split at e
  ·rename_i cs hcs
   have hpart:u=[]∧ks=[]∧(v=.agg cs∨Ev.part E t cs 0=some v):=by
    split at e
    ·rename_i k _
     cases hb:(emptyB (ps.toList.map (·.1))&&memT k)
     ·rw [hb] at e
      obtain ⟨hpart,rfl,rfl⟩:=pure1_some e
      exact ⟨rfl,rfl,.inr hpart⟩
     ·rw [hb] at e
      cases e;exact ⟨rfl,rfl,.inl rfl⟩
    ·cases e;exact ⟨rfl,rfl,.inl rfl⟩
   obtain ⟨rfl,rfl,hpart⟩:=hpart
   obtain ⟨it,z,hit,hzz,hzs,rfl⟩:=zeroAVs_some hz
   unfold placed at hp
   simp only [Bool.and_eq_true] at hp
   have hst:∃fs,E.P.underlying t=some (.struct fs)∧fieldsOf E.P t=fs:=by
    unfold isStruct at hp
    unfold fieldsOf
    split at hp
    ·rename_i fs hu;exact ⟨fs,hu,rfl⟩
    ·exact absurd hp.1 (by simp)
   obtain ⟨fs,hu,hfs⟩:=hst
   rw [hfs] at hcs
   have hall:=hp.2
   rw [hfs] at hall
   refine sim_pure fun σ w a inv r=>?_
   have hops:o.op.operands.toList.map a.eval=ps.toList.map fun p=>a.eval p.2:=by simp [ho,Op.operands]
   rw [hops] at r
   obtain ⟨out,hout,hrep,hosz⟩:=fill_rep hcs (valAVs_rep z.cells.toList) r
   have hplaces:∀(l:List Field),l.all (fun f=>(E.P.info? f.type).isSome)=true→l.mapM (fun f=>(E.P.info? f.type).map fun i=>(f.offset,i.size))=some (l.map fun f=>(f.offset,szOf E.P f.type)):=by
    intro l
    induction l with
    |nil=>intro _;rfl
    |cons f l ih=>
     intro hl
     simp only [List.all_cons,Bool.and_eq_true] at hl
     obtain ⟨i,hi⟩:=Option.isSome_iff_exists.1 hl.1
     simp [List.mapM_cons,hi,ih hl.2,szOf_of hi]
   have hzip:(ps.map fun (x:Nat×Operand)=>(x.1,a.eval x.2)).toList=(ps.toList.map (·.1)).zip (ps.toList.map fun p=>a.eval p.2):=by
    rw [Array.toList_map,List.zip_map']
   have hbuilt:E.P.built t (ps.map fun (x:Nat×Operand)=>(x.1,a.eval x.2)).toList=some out:=by
    unfold Program.built
    simp only [hit,hu,hzz,hplaces _ hall]
    rw [hzip];exact hout
   have hrun:=run_build (P:=E.P) w t _ out hbuilt
   have hpart0:∃cv,cv=Value.agg out∧RepA σ h w v cv:=by
    refine ⟨_,rfl,?_⟩
    rcases hpart with rfl|hpart
    ·exact ⟨out,rfl,hrep⟩
    unfold Ev.part at hpart
    split at hpart
    ·split at hpart
     ·rename_i i hty
      replace hpart:=cond_some hpart
      obtain ⟨hb,hpart⟩:=hpart
      simp only [Bool.and_eq_true] at hb
      obtain ⟨inf,hinf,hsz,hpos,-⟩:=fits_some hb.1
      have hle:=Nat.le_of_ble_eq_true hb.2
      have hsame:inf=it:=by rw [hit] at hinf;exact (Option.some.inj hinf).symm
      have hcl:cs.length=out.size:=by rw [hrep.length,Array.length_toList]
      have htake:(cs.drop 0).take (szOf E.P t)=cs:=by
       rw [List.drop_zero,List.take_of_length_le]
       rw [hcl,hosz,hzs,szOf_of hit];exact Nat.le_refl _
      rw [htake] at hpart
      split at hpart
      ·rename_i x hx
       obtain rfl:=Option.some.inj hpart
       exact ⟨out,rfl,mkSt_rep (mkStN_some hx) hrep⟩
      ·obtain rfl:=Option.some.inj hpart
       exact ⟨out,rfl,hrep⟩
     ·cases hpart
    ·rename_i hag
     unfold aggOf at hag
     rw [hu] at hag
     cases hag
    ·cases hpart
   obtain ⟨cv,rfl,hr⟩:=hpart0
   refine ⟨.agg out,?_,hr⟩
   simp only [execOp,ho]
   simp [hrun]
  ·cases e
 ·cases e
end
end Go.Proofs.YtfdcjocallblcaaGreatDoor.Ev
