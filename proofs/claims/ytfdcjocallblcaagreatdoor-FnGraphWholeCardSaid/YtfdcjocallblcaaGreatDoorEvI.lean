/- One operation of the evaluator stands for the machine's: variables, stores, literals of slices, make, append. No conditions. -/
import Derived.Test.YtfdcjocallblcaaGreatDoorEvH
import Derived.Great.BuildSlice
namespace Go.Proofs.YtfdcjocallblcaaGreatDoor.Ev
open Go
theorem cells_one {v:Value} (h:v.oneCell'=true):v.cells=#[v]:=by
 cases v<;>first|rfl|cases h
def Sg.setB (σ:Sg) (o:Nat) (v:Value) (bs:List Nat):Sg:=⟨fun i=>if i=o then v else σ.val i,σ.fz,fun i=>if i=o then bs else σ.bs i⟩
theorem Sg.setB_same (σ:Sg) (o:Nat) (v:Value) (bs:List Nat):(σ.setB o v bs).val o=v:=if_pos rfl
theorem Sg.setB_ne (σ:Sg) {o i:Nat} (v:Value) (bs:List Nat) (h:i≠o):(σ.setB o v bs).val i=σ.val i:=if_neg h
theorem Sg.bsB_same (σ:Sg) (o:Nat) (v:Value) (bs:List Nat):(σ.setB o v bs).bs o=bs:=if_pos rfl
theorem Sg.bsB_ne (σ:Sg) {o i:Nat} (v:Value) (bs:List Nat) (h:i≠o):(σ.setB o v bs).bs i=σ.bs i:=if_neg h
def Sg.set (σ:Sg) (o:Nat) (v:Value):Sg:=σ.setB o v (blk v).toList
theorem Sg.bs_same (σ:Sg) (o:Nat) (v:Value):(σ.set o v).bs o=(blk v).toList:=if_pos rfl
theorem Sg.bs_ne (σ:Sg) {o i:Nat} (v:Value) (h:i≠o):(σ.set o v).bs i=σ.bs i:=if_neg h
theorem mem_blk {v:Value} {b:Nat}:b∈(blk v).toList↔blk v=some b:=by cases blk v<;>simp [eq_comm]
theorem Sg.set_same (σ:Sg) (o:Nat) (v:Value):(σ.set o v).val o=v:=if_pos rfl
theorem Sg.set_ne (σ:Sg) {o i:Nat} (v:Value) (h:i≠o):(σ.set o v).val i=σ.val i:=if_neg h
section
variable {σ σ' : Sg} {h h' : H} {w w' : World}
theorem cellsAV_ids:∀(t:Ty) (x:t.den),AV.idsL (cellsAV t x)=[]
 |.bool,_=>rfl|.int _,_=>rfl|.str,_=>rfl|.sl _,_=>rfl
 |.st 0,_=>rfl|.st 1,_=>rfl|.st 2,_=>rfl|.st 3,_=>rfl|.st 4,_=>rfl|.st 5,_=>rfl|.st (_+6),_=>rfl
theorem explode_ids {v:AV} {cs:List AV} (e:explode v=some cs):∀i∈AV.idsL cs,i∈AV.ids v:=by
 unfold explode at e
 split at e
 ·obtain rfl:=Option.some.inj e;rw [cellsAV_ids];simp
 ·obtain ⟨-,e⟩:=cond_some e;obtain rfl:=Option.some.inj e;exact fun i hi=>hi
 ·obtain ⟨-,e⟩:=cond_some e;obtain rfl:=Option.some.inj e;simp [AV.idsL]
theorem cell_one {a:AV} {v:Value} (e:isCell a=true) (r:RepA σ h w a v):v.oneCell'=true:=by
 cases a with
 |nil=>have r:v=.slice none 0 0:=r;subst r;rfl
 |ptr _ _=>exact r.1
 |pel _ _ _=>exact r.1
 |imp _ _ _=>obtain ⟨b,o0,hv,-⟩:=r;subst hv;rfl
 |row _=>exact r.1
 |mp _=>exact r.1
 |fn _ _=>obtain ⟨cv,hv,-⟩:=r;subst hv;rfl
 |tv t x=>
  cases t with
  |st i=>cases e
  |_=>exact r.1.oneCell
 |_=>cases e
theorem explode_rep {v:AV} {cs:List AV} {cv:Value} (e:explode v=some cs) (r:RepA σ h w v cv):RepAs σ h w cs cv.cells.toList∧∀c∈cv.cells.toList,c.oneCell'=true:=by
 unfold explode at e
 split at e
 ·rename_i t x
  obtain rfl:=Option.some.inj e
  cases t with
  |st i=>
   obtain ⟨cs,hv,hr⟩:=r
   subst hv
   exact ⟨cellsAV_rep hr,hr.oneCell⟩
  |_=>
   have h1:cv.oneCell'=true:=r.1.oneCell
   rw [cells_one h1]
   exact ⟨cellsAV_rep r,by simpa using h1⟩
 ·rename_i cs0
  obtain ⟨hall,e⟩:=cond_some e
  obtain rfl:=Option.some.inj e
  obtain ⟨cs,hv,hr⟩:=r
  subst hv
  refine ⟨hr,fun c hc=>?_⟩
  obtain ⟨j,hj,hjc⟩:=List.getElem_of_mem hc
  have hl:=hr.length
  have hj':j<cs0.length:=by rw [hl];exact hj
  exact cell_one (List.all_eq_true.1 hall _ (List.getElem_mem hj')) (hr.at j _ c (List.getElem?_eq_getElem hj') (List.getElem?_eq_some_iff.2 ⟨hj,hjc⟩))
 ·obtain ⟨hc,e⟩:=cond_some e
  obtain rfl:=Option.some.inj e
  have h1:=cell_one hc r
  rw [cells_one h1]
  exact ⟨⟨r,trivial⟩,by simpa using h1⟩
theorem valAV_rep (v:Value):RepA σ h w (valAV v) v:=by
 unfold valAV
 split
 ·exact mk_int _ _
 ·exact mk_bool _
 ·exact mk_str _
 ·split
  ·rfl
  ·trivial
 ·split
  ·rename_i first caps _ f
   split
   ·rename_i h1 h2
    have h1:first=#[]:=by simpa using h1
    have h2:caps=#[]:=by simpa using h2
    subst h1;subst h2
    exact ⟨#[],rfl,trivial⟩
   ·trivial
  ·trivial
 ·trivial
theorem valAV_ids (v:Value):AV.ids (valAV v)=[]:=by
 unfold valAV
 (repeat' split)<;>rfl
theorem valAVs_rep:∀(l:List Value),RepAs σ h w (l.map valAV) l
 |[]=>trivial
 |v::r=>⟨valAV_rep v,valAVs_rep r⟩
theorem valAVs_ids:∀(l:List Value),AV.idsL (l.map valAV)=[]
 |[]=>rfl
 |v::r=>by simp [AV.idsL,valAV_ids,valAVs_ids r]
theorem zeroAVs_some {P:Program} {t:TypeId} {cs:List AV} (e:zeroAVs P t=some cs):∃i z,P.info? t=some i∧i.zero=some z∧z.cells.size=i.size∧cs=z.cells.toList.map valAV:=by
 unfold zeroAVs at e
 split at e
 ·rename_i i hi
  split at e
  ·rename_i z hz
   obtain ⟨hb,e⟩:=cond_some e
   obtain rfl:=Option.some.inj e
   exact ⟨i,z,hi,hz,nbeq_eq.1 hb,rfl⟩
  ·cases e
 ·cases e
theorem not_key {o:Nat} (hs:o∉H.ids h):H.get o h=none:=H.get_none_of_not_mem o h fun hm=>hs (H.ids_of_mem hm)
theorem new_objB (inv:Inv σ h w) {site:Nat} (hs:site∉H.ids h) (obj:Obj) (nv:Value) (bs:List Nat) (hg:w.grownBy w' none)
  (hblk:∀b∈bs,w.heap.size≤b∧b<w'.heap.size) (hbs:obj.isDeep=false→bs=(blk nv).toList) (hobj:ObjRep (σ.setB site nv bs) (H.put site obj h) w' site obj):
  Ext σ h w (σ.setB site nv bs) (H.put site obj h) w'∧Inv (σ.setB site nv bs) (H.put site obj h) w'∧(∀a c,site∉AV.ids a→RepA σ h w a c→RepA (σ.setB site nv bs) (H.put site obj h) w' a c):=by
 have hn:=not_key hs
 obtain ⟨e1,e2,e3⟩:=change (σ':=σ.setB site nv bs) (h':=H.put site obj h) inv site obj none (fun o ho=>H.get_put_ne obj ho h) (H.get_put_same site obj h) (fun o ho=>Sg.setB_ne σ nv bs ho) (fun o ho=>Sg.bsB_ne σ nv bs ho) rfl
  (H.nodup_put site obj h inv.nodup) hg (fun b hb=>by cases hb) (fun b hb=>by rw [Sg.bsB_same] at hb;exact ⟨.inr (hblk b hb).1,(hblk b hb).2⟩)
  (fun d=>by rw [Sg.bsB_same,Sg.setB_same];exact hbs d) (fun o x g ho hi=>absurd (H.ids_of_get g hi) hs) hobj
 exact ⟨e1,e2,fun a c hna r=>e3 a c (fun hi=>absurd hi hna) r⟩
theorem new_obj (inv:Inv σ h w) {site:Nat} (hs:site∉H.ids h) (obj:Obj) (nv:Value) (hg:w.grownBy w' none)
  (hblk:∀b,blk nv=some b→w.heap.size≤b∧b<w'.heap.size) (hobj:ObjRep (σ.set site nv) (H.put site obj h) w' site obj):
  Ext σ h w (σ.set site nv) (H.put site obj h) w'∧Inv (σ.set site nv) (H.put site obj h) w'∧(∀a c,site∉AV.ids a→RepA σ h w a c→RepA (σ.set site nv) (H.put site obj h) w' a c):=
 new_objB inv hs obj nv _ hg (fun b hb=>hblk b (mem_blk.1 hb)) (fun _=>rfl) hobj
theorem cells_new (inv:Inv σ h w) {site:Nat} {obj:Obj} {nv:Value} (hg:w.grownBy w' none) {cs:List AV} {vs:List Value} (hn:site∉AV.idsL cs) (r:RepAs σ h w cs vs):
  RepAs (σ.set site nv) (H.put site obj h) w' cs vs:=
 RepAs.mono (σ:=σ) (σ':=σ.set site nv) (fun _ hb=>hb) (fun b hb=>hg.block b (inv.fzlt b hb) (by simp)) cs vs (fun o ho=>by
  have hne:o≠site:=fun e=>hn (by rw [←e];exact ho)
  exact sameO_eq (H.get_put_ne obj hne h) (Sg.set_ne σ nv hne)) r
end
section
variable {E : Env} {o : Oper} {site : Nat} {vs : List AV} {h : H} {vw : View} {v : AV} {u : Upd} {ks : List Nat}
theorem sim_newBox {cs:List AV} (H0:∀(σ:Sg) (w:World) (a:Act),Inv σ h w→RepAs σ h w vs (o.op.operands.toList.map a.eval)→∃(cv:Array Value) (ty:TypeId),(execOp a.eval o).run E.P w=.ok (.value (.pointer (some ⟨w.heap.size,0,none⟩))) (w.alloc (.cells cv ty))∧RepAs σ h w cs cv.toList)
  (hids:∀i∈AV.idsL cs,i∈AV.idsL vs):Sim E.P o site vs h (.ptr site 0) [(site,some (.box cs))] []:=by
 intro hs σ w a inv r next Q hn
 have hs:=hs ⟨_,List.mem_singleton.2 rfl⟩
 obtain ⟨cv,ty,hrun,hrep⟩:=H0 σ w a inv r
 refine wp_value hrun (hn (σ.set site (.pointer (some ⟨w.heap.size,0,none⟩))) _ _ ?_)
 have hg:=World.grownBy_alloc w (.cells cv ty) none
 have hnc:site∉AV.idsL cs:=fun hi=>hs.2 (hids site hi)
 obtain ⟨e1,e2,e3⟩:=new_obj (obj:=.box cs) inv hs.1 (nv:=.pointer (some ⟨w.heap.size,0,none⟩)) (hg:=hg) (hblk:=fun b hb=>by simp [blk] at hb;subst hb;simp)
  (hobj:=⟨w.heap.size,cv,ty,Sg.set_same _ _ _,heap_alloc_new w _,cells_new inv hg hnc hrep⟩)
 exact ⟨e1,e2,⟨rfl,fun _=>⟨w.heap.size,Sg.set_same _ _ _,rfl⟩⟩,fun a c ha r=>e3 a c (fun hi=>(ha site hi).2 rfl _ (List.mem_singleton.2 rfl)) r⟩
theorem sim_box {t:TypeId} {x:Operand} {p:AV} (ho:o.op=.box t x) (e:evBox site p pk=some (v,u,ks)):Sim E.P o site [p] h v u ks:=by
 unfold evBox at e
 split at e
 ·rename_i cs hcs
  cases e
  refine sim_newBox (fun σ w a inv r=>?_) (fun i hi=>by simp [AV.idsL,explode_ids hcs i hi])
  simp only [ho,Op.operands,List.map_cons,List.map_nil] at r
  exact ⟨(a.eval x).cells,t,by simp [execOp,ho,Instr.box,newVar,newRow],(explode_rep hcs r.1).1⟩
 ·cases e
theorem sim_alloc {t:TypeId} {cs:List AV} (ho:o.op=.alloc t) (hz:zeroAVs E.P t=some cs):Sim E.P o site [] h (.ptr site 0) [(site,some (.box cs))] []:=by
 obtain ⟨i,z,hi,hzz,-,rfl⟩:=zeroAVs_some hz
 refine sim_newBox (fun σ w a inv r=>?_) (fun i hi=>by rw [valAVs_ids] at hi;simp at hi)
 exact ⟨z.cells,t,by simp [execOp,ho,Instr.alloc,zeroValue,typeInfo,hi,hzz,newVar,newRow],valAVs_rep _⟩
theorem grownBy_setRow (w:World) (g:Nat) (cs:Array Value):w.grownBy (w.setRow g cs) (some g):=
 ⟨rfl,rfl,rfl,by simp,fun k _ hk=>setRow_other w g k _ (fun e=>hk (by rw [e]))⟩
theorem run_storeAt {P:Program} {t:TypeId} {i:TypeInfo} (hi:P.info? t=some i) (b off:Nat) (ty:TypeId) (cur:Array Value) (cv:Value) (w:World) (hh:w.heap[b]?=some (.cells cur ty (0,0)))
  (hsz:cv.cells.toList.length=i.size) (hle:off+i.size≤cur.size) (h1:∀c∈cv.cells.toList,c.oneCell'=true):
  (Instr.storeAt t (.pointer (some ⟨b,off,none⟩)) cv).run P w=.ok () (w.setRow b (cur.toList.take off++cv.cells.toList++cur.toList.drop (off+cv.cells.toList.length)).toArray):=by
 have hst:=run_storeCells_at P b off ty cv.cells.toList 0 cur w hh (by rw [hsz];simpa using hle) h1
 simp only [Nat.add_zero] at hst
 have hs':cv.cells.size=i.size:=by simpa using hsz
 simp only [Instr.storeAt,Instr.sureAddr,storeVar]
 simp [sizeOf,typeInfo,hi,hs',hst]
theorem sim_storeBox {t:TypeId} {x y:Operand} {ob off:Nat} {q:AV} {cs new:List AV} (ho:o.op=.store t x y) (hg:H.get ob h=some (.box cs)) (hq:explode q=some new)
  (hlen:new.length=szOf E.P t) (hpos:1≤szOf E.P t) (hle:off+szOf E.P t≤cs.length):Sim E.P o site [.ptr ob off,q] h .und [(ob,some (.box (setCells cs off new)))] []:=by
 intro _ σ w a inv r next Q hn
 simp only [ho,Op.operands,List.map_cons,List.map_nil] at r
 obtain ⟨b,hb,hv⟩:=r.1.2 (live_of hg)
 obtain ⟨b',cur,ty,hb',hh,hr⟩:=inv.objs _ _ hg
 rw [hb] at hb'
 obtain rfl:b=b':=by simpa using hb'
 obtain ⟨hnew,hone⟩:=explode_rep hq r.2.1
 have hinf:∃i,E.P.info? t=some i∧i.size=szOf E.P t:=by
  unfold szOf at hpos⊢
  split at hpos
  ·rename_i i hi;exact ⟨i,hi,rfl⟩
  ·omega
 obtain ⟨i,hi,hsz⟩:=hinf
 have hcl:=hr.length
 have hnl:=hnew.length
 have hrun:=run_storeAt (P:=E.P) hi b off ty cur (a.eval y) w hh (by omega) (by rw [hsz];have:=hcl;simp at this;omega) hone
 have hex:(execOp a.eval o).run E.P w=.ok .skip (w.setRow b (cur.toList.take off++(a.eval y).cells.toList++cur.toList.drop (off+(a.eval y).cells.toList.length)).toArray):=by
  simp only [execOp,ho,hv]
  simp [hrun]
 refine wp_skip' hex (hn σ _ undef ?_)
 have hgr:=grownBy_setRow w b (cur.toList.take off++(a.eval y).cells.toList++cur.toList.drop (off+(a.eval y).cells.toList.length)).toArray
 have same:∀i,SameO σ σ h (H.put ob (.box (setCells cs off new)) h) i:=fun i=>by
  by_cases e:i=ob
  ·subst e
   refine .inr ⟨live_of hg,rfl,fun x' q hx hq=>?_⟩
   rw [H.get_put_same] at hx;obtain rfl:=Option.some.inj hx;cases hq
  ·exact sameO_eq (H.get_put_ne _ e h) rfl
 have fzh:∀b',σ.fz b'→(w.setRow b (cur.toList.take off++(a.eval y).cells.toList++cur.toList.drop (off+(a.eval y).cells.toList.length)).toArray).heap[b']?=w.heap[b']?:=fun b' hb'f=>
  hgr.block b' (inv.fzlt b' hb'f) fun e=>by
   obtain rfl:=Option.some.inj e
   exact inv.nofz ob (own_box hg) b' (inv.mem hg rfl (by rw [hb];rfl)) hb'f
 have hcells:RepAs σ (H.put ob (.box (setCells cs off new)) h) (w.setRow b (cur.toList.take off++(a.eval y).cells.toList++cur.toList.drop (off+(a.eval y).cells.toList.length)).toArray) (setCells cs off new) (cur.toList.take off++(a.eval y).cells.toList++cur.toList.drop (off+(a.eval y).cells.toList.length)):=by
  refine RepAs.mono (fun _ hb=>hb) fzh _ _ (fun i _=>same i) ?_
  unfold setCells
  rw [hnl]
  exact ((hr.take off).append hnew).append (hr.drop _)
 obtain ⟨e1,e2,e3⟩:=change (σ':=σ) (h':=H.put ob (.box (setCells cs off new)) h) inv ob (.box (setCells cs off new)) (some b) (fun i hi=>H.get_put_ne _ hi h) (H.get_put_same ob _ h) (fun _ _=>rfl) (fun _ _=>rfl) rfl
  (H.nodup_put ob _ h inv.nodup) hgr (fun b' hb''=>by obtain rfl:=Option.some.inj hb'';exact ⟨own_box hg,inv.mem hg rfl (by rw [hb];rfl)⟩)
  (fun b' hb''=>⟨.inl ⟨own_box hg,hb''⟩,Nat.lt_of_lt_of_le (inv.bslt ob (own_box hg) b' hb'') hgr.size⟩) (fun _=>inv.bsok ob _ hg rfl)
  (fun i x g hi hm=>same ob) ⟨b,_,ty,hb,setRow_heap w b cur _ ty (0,0) hh,by simpa using hcells⟩
 exact ⟨e1,e2,rfl,fun a c _ r=>e3 a c (fun _=>same ob) r⟩
end
end Go.Proofs.YtfdcjocallblcaaGreatDoor.Ev
