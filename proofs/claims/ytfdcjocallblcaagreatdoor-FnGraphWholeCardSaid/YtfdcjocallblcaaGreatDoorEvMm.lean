/- One operation of the evaluator stands for the machine's: maps. No conditions. -/
import Derived.Test.YtfdcjocallblcaaGreatDoorEvMe
import Derived.WideMake
import Derived.MapKept
namespace Go.Proofs.YtfdcjocallblcaaGreatDoor.Ev
open Go
section
variable {E : Env} {o : Oper} {site : Nat} {vs : List AV} {h : H} {vw : View} {v : AV} {u : Upd} {ks : List Nat}
def KeyD (d:TypeDesc) (k:Ty):Prop:=(∃q,d=.int q∧k=.int q)∨(d=.string∧k=.str)
theorem keyOk_some {P:Program} {t:TypeId} {k:Ty} (e:keyOk P t k=true):∃d,P.underlying t=some d∧KeyD d k:=by
 unfold keyOk at e
 split at e
 ·rename_i q hq
  exact ⟨_,hq,.inl ⟨q,rfl,of_decide_eq_true e⟩⟩
 ·rename_i hq
  exact ⟨_,hq,.inr ⟨rfl,of_decide_eq_true e⟩⟩
 ·cases e
theorem keyD_rep {d:TypeDesc} {k:Ty} (hd:KeyD d k) {fz:Nat→Prop} {w:World} {x:k.den} {c:Value} (r:RepT fz w k x c):c=keyV k x∧MapKept.IsKey d c:=by
 rcases hd with ⟨q,rfl,rfl⟩|⟨rfl,rfl⟩
 ·obtain rfl:=repT_int r
  exact ⟨rfl,by simp [MapKept.IsKey]⟩
 ·obtain rfl:=repT_str r
  exact ⟨rfl,by simp [MapKept.IsKey]⟩
theorem sameNow_key {d:TypeDesc} {k:Ty} (hd:KeyD d k) (x y:k.den):Instr.sameNow d (keyV k x) (keyV k y)=some (keyEq k x y):=by
 rcases hd with ⟨q,rfl,rfl⟩|⟨rfl,rfl⟩
 ·simp [Instr.sameNow,keyV,keyEq]
 ·simp [Instr.sameNow,keyV,keyEq]
theorem keyEq_eq {d:TypeDesc} {k:Ty} (hd:KeyD d k) {x y:k.den} (e:keyEq k x y=true):x=y:=by
 rcases hd with ⟨q,rfl,rfl⟩|⟨rfl,rfl⟩
 ·simpa [keyEq] using e
 ·exact (MapKept.bytes_beq _ _).1 e
theorem sameBits_key {d:TypeDesc} {k:Ty} (hd:KeyD d k) (x:k.den):Instr.sameBits 10000 (keyV k x) (keyV k x)=true:=by
 rcases hd with ⟨q,rfl,rfl⟩|⟨rfl,rfl⟩
 ·simp [Instr.sameBits,keyV]
 ·simp only [Instr.sameBits,keyV];exact (MapKept.bytes_beq _ _).2 rfl
theorem find_rep {fz:Nat→Prop} {w:World} {d:TypeDesc} {k v:Ty} (hd:KeyD d k) (x:k.den):∀(es:List (k.den×v.den)) (ms:List MapEntry) (i:Nat),MapRep fz w k v es ms→
  (mapFind k v x es=none∧Instr.findNow d (keyV k x) ms i=some none∧∀y,mapPut k v x y es=es++[(x,y)])∨
  (∃(y:v.den) (j:Nat) (m:MapEntry),mapFind k v x es=some y∧Instr.findNow d (keyV k x) ms i=some (some (i+j,m.val))∧RepT fz w v y m.val∧ms[j]?=some m∧m.key=keyV k x∧
   ∀(y':v.den) (m':MapEntry),m'.key=keyV k x→RepT fz w v y' m'.val→MapRep fz w k v (mapPut k v x y' es) (ms.set j m'))
 |[],[],i,_=>.inl ⟨rfl,rfl,fun _=>rfl⟩
 |e::es,m::ms,i,⟨r1,r2,r3⟩=>by
  have hs:Instr.sameNow d (keyV k x) m.key=some (keyEq k x e.1):=by rw [r1];exact sameNow_key hd x e.1
  cases hk:keyEq k x e.1
  ·rw [hk] at hs
   have hf:Instr.findNow d (keyV k x) (m::ms) i=Instr.findNow d (keyV k x) ms (i+1):=by
    show (match Instr.sameNow d (keyV k x) m.key with|some true=>_|some false=>_|none=>_)=_
    rw [hs]
   rcases find_rep hd x es ms (i+1) r3 with ⟨q1,q2,q3⟩|⟨y,j,m0,q1,q2,q3,q4,q5,q6⟩
   ·refine .inl ⟨by simp [mapFind,hk,q1],by rw [hf,q2],fun y=>by simp [mapPut,hk,q3 y]⟩
   ·refine .inr ⟨y,j+1,m0,by simp [mapFind,hk,q1],by rw [hf,q2];congr 3;omega,q3,by simpa using q4,q5,fun y' m' h1 h2=>?_⟩
    simp only [mapPut,hk,cond_false,List.set_cons_succ]
    exact ⟨r1,r2,q6 y' m' h1 h2⟩
  ·rw [hk] at hs
   have hx:=keyEq_eq hd hk
   have hf:Instr.findNow d (keyV k x) (m::ms) i=some (some (i,m.val)):=by
    show (match Instr.sameNow d (keyV k x) m.key with|some true=>_|some false=>_|none=>_)=_
    rw [hs]
   refine .inr ⟨e.2,0,m,by simp [mapFind,hk],by rw [hf];rfl,r2,rfl,by rw [r1,hx],fun y' m' h1 h2=>?_⟩
   simp only [mapPut,hk,cond_true,List.set_cons_zero]
   exact ⟨h1,h2,r3⟩
theorem mapRep_push {fz:Nat→Prop} {w:World} {k v:Ty} {x:k.den} {y:v.den} {m:MapEntry} (h1:m.key=keyV k x) (h2:RepT fz w v y m.val):∀{es:List (k.den×v.den)} {ms:List MapEntry},MapRep fz w k v es ms→MapRep fz w k v (es++[(x,y)]) (ms++[m])
 |[],[],_=>⟨h1,h2,trivial⟩
 |_::_,_::_,r=>⟨r.1,r.2.1,mapRep_push h1 h2 r.2.2⟩
 |[],_::_,r=>r.elim
 |_::_,[],r=>r.elim
theorem mapOk_some {t:TypeId} {k v:Ty} (e:mapOk E t k v=true):∃kt et d i z,E.P.underlying t=some (.map kt et)∧E.P.underlying kt=some d∧KeyD d k∧E.P.info? et=some i∧i.zero=some z∧
  ∀(fz:Nat→Prop) (w:World),RepT fz w v v.dflt z:=by
 unfold mapOk at e
 split at e
 ·rename_i kt et ht
  simp only [Bool.and_eq_true] at e
  obtain ⟨hk,hv⟩:=e
  obtain ⟨d,hd,hkd⟩:=keyOk_some hk
  unfold valOk at hv
  simp only [Bool.and_eq_true] at hv
  obtain ⟨⟨-,h2⟩,hz⟩:=hv
  split at hz
  ·rename_i l hl
   simp only [Bool.and_eq_true] at hz
   obtain ⟨i,z,hi,hzz,hsz,rfl⟩:=zeroAVs_some hl
   refine ⟨kt,et,d,i,z,ht,hd,hkd,hi,hzz,fun fz w=>?_⟩
   have hr:=zeroOk_rep (σ:=⟨fun _=>undef,fz,fun _=>[]⟩) (h:=[]) (w:=w) hz.2 (valAVs_rep z.cells.toList)
   have hag:zAgg E.P et=aggV z:=by
    unfold zAgg;rw [hi];simp only [hzz]
   cases v with
   |st i=>
    have h2:zAgg E.P et=true:=h2
    rw [h2] at hag
    cases z<;>first|exact ⟨_,rfl,hr⟩|cases hag
   |_=>
    have h2:zAgg E.P et=false:=by simpa using h2
    rw [h2] at hag
    have hc:z.cells=#[z]:=by cases z<;>first|rfl|cases hag
    rw [hc] at hr;exact hr
  ·cases hz
 ·cases e
theorem hint_one {p:AV} (e:hintOk [p]=true):∃k n,p=.tv (.int k) n:=by
 cases p with
 |tv t x=>cases t<;>first|exact ⟨_,_,rfl⟩|cases e
 |_=>cases e
theorem sim_makeMap {t:TypeId} {c:Option Operand} (ho:o.op=.makeMap t c) (e:evMakeMap E t site vs pk=some (v,u,ks)):Sim E.P o site vs h v u ks:=by
 unfold evMakeMap at e
 split at e
 ·rename_i k v' hkv
  obtain ⟨hok,e⟩:=cond_some e
  cases e
  rw [Bool.and_eq_true] at hok
  obtain ⟨hm,hh⟩:=hok
  obtain ⟨kt,et,d,i,z,ht,-⟩:=mapOk_some hm
  intro hs σ w a inv r next Q hn
  have hs:=hs ⟨_,List.mem_singleton.2 rfl⟩
  have hrun:(execOp a.eval o).run E.P w=.ok (.value (.map (some w.heap.size))) (w.alloc (.map #[] 0)):=by
   cases c with
   |none=>simp [execOp,ho,Instr.makeMap]
   |some c=>
    simp only [ho,Op.operands] at r
    match vs,hh,r with
    |[p],hh,r=>
     obtain ⟨k,n,rfl⟩:=hint_one hh
     have hc:a.eval c=.int k n:=repT_int r.1
     simp [execOp,ho,Instr.makeMap,hc,run_underlying ht,asInt,asIntOf]
  refine wp_value hrun (hn (σ.set site (.map (some w.heap.size))) _ _ ?_)
  have hg:=World.grownBy_alloc w (.map #[] 0) none
  obtain ⟨e1,e2,e3⟩:=new_obj (obj:=.map k v' []) inv hs.1 (nv:=.map (some w.heap.size)) (hg:=hg) (hblk:=fun b hb=>by
    have:some w.heap.size=some b:=hb
    obtain rfl:=Option.some.inj this
    simp)
   (hobj:=⟨w.heap.size,#[],0,Sg.set_same _ _ _,heap_alloc_new w _,trivial⟩)
  exact ⟨e1,e2,⟨rfl,fun _=>(Sg.set_same _ _ _).symm⟩,fun a c ha r=>e3 a c (fun hi=>(ha site hi).2 rfl _ (List.mem_singleton.2 rfl)) r⟩
 ·cases e
theorem run_find {fz:Nat→Prop} {w:World} {d:TypeDesc} {kt:TypeId} {k v:Ty} (hd:E.P.underlying kt=some d) (hk:KeyD d k) {x:k.den} {es:List (k.den×v.den)} {ms:List MapEntry} (r:MapRep fz w k v es ms):
  (mapFind k v x es=none∧(Instr.findKey kt (keyV k x) ms).run E.P w=.ok none w∧∀y,mapPut k v x y es=es++[(x,y)])∨
  (∃(y:v.den) (j:Nat) (m:MapEntry),mapFind k v x es=some y∧(Instr.findKey kt (keyV k x) ms).run E.P w=.ok (some (j,m.val)) w∧RepT fz w v y m.val∧ms[j]?=some m∧m.key=keyV k x∧
   ∀(y':v.den) (m':MapEntry),m'.key=keyV k x→RepT fz w v y' m'.val→MapRep fz w k v (mapPut k v x y' es) (ms.set j m')):=by
 rcases find_rep hk x es ms 0 r with ⟨q1,q2,q3⟩|⟨y,j,m,q1,q2,q3⟩
 ·exact .inl ⟨q1,MapKept.run_findKey hd q2,q3⟩
 ·rw [Nat.zero_add] at q2
  exact .inr ⟨y,j,m,q1,MapKept.run_findKey hd q2,q3⟩
theorem sim_lookup {t:TypeId} {x y:Operand} {ok:Bool} {p q:AV} (hs:Shows vw h) (ho:o.op=.lookup t x y ok) (e:evLookup E t ok vw p q pk=some (v,u,ks)):Sim E.P o site [p,q] h v u ks:=by
 unfold evLookup at e
 split at e
 ·rename_i ob
  split at e
  ·rename_i k v' es hg
   obtain ⟨hm,e⟩:=cond_some e
   split at e
   ·rename_i d hd0
    obtain ⟨kt,et,dk,i,z,ht,hkt,hkd,hi,hz,hzr⟩:=mapOk_some hm
    have hgg:=hs _ _ hg
    have key:∀(σ:Sg) (w:World) (a:Act),Inv σ h w→RepAs σ h w [.mp ob,q] (o.op.operands.toList.map a.eval)→
      ∃c,(execOp a.eval o).run E.P w=.ok (.value (if ok then .tuple #[c,.bool (mapFind k v' d es).isSome] else c)) w∧RepT σ.fz w v' ((mapFind k v' d es).getD v'.dflt) c:=by
     intro σ w a inv r
     simp only [ho,Op.operands,List.map_cons,List.map_nil] at r
     obtain ⟨b,arr,clock,hb,hh,hr⟩:=inv.objs _ _ hgg
     have hv:a.eval x=.map (some b):=(r.1.2 (live_of hgg)).trans hb
     obtain ⟨hc,hik⟩:=keyD_rep hkd (toTy_rep hd0 r.2.1)
     have hck:=MapKept.run_checkKey (w:=w) hkt hik arr.isEmpty 9999
     rw [hc] at hck
     have hgo:=MapKept.run_getObj_map (P:=E.P) hh
     rcases run_find hkt hkd (x:=d) hr with ⟨q1,q2,-⟩|⟨y',j,m,q1,q2,q3,-⟩
     ·refine ⟨z,?_,by rw [q1];exact hzr _ _⟩
      rw [q1]
      simp only [execOp,ho,hv,hc]
      have hzv:(zeroValue et).run E.P w=.ok z w:=by simp [zeroValue,typeInfo,hi,hz]
      cases ok<;>simp [Instr.lookup,run_underlying ht,hgo,hck,q2,hzv,Result.andThen]
     ·refine ⟨m.val,?_,by rw [q1];exact q3⟩
      rw [q1]
      simp only [execOp,ho,hv,hc]
      cases ok<;>simp [Instr.lookup,run_underlying ht,hgo,hck,q2,Result.andThen]
    split at e
    ·cases e
     refine sim_pure fun σ w a inv r=>?_
     obtain ⟨c,h1,h2⟩:=key σ w a inv r
     exact ⟨_,h1,#[c,.bool (mapFind k v' d es).isSome],rfl,h2,mk_bool _,trivial⟩
    ·cases e
     refine sim_pure fun σ w a inv r=>?_
     obtain ⟨c,h1,h2⟩:=key σ w a inv r
     exact ⟨_,h1,h2⟩
   ·cases e
  ·cases e
 ·cases e
theorem grownBy_setMap (w:World) (b:Nat) (ob:Go.Obj):w.grownBy {w with heap:=w.heap.setIfInBounds b ob} (some b):=
 ⟨rfl,rfl,rfl,by simp,fun k _ hk=>by simp [Ne.symm (fun e=>hk (by rw [e]):k≠b)]⟩
theorem sim_mapPut {t:TypeId} {x y z:Operand} {p q s:AV} (hs:Shows vw h) (ho:o.op=.mapUpdate t x y z∨o.op=.insert t x y z) (e:evMapPut E t vw p q s pk=some (v,u,ks)):Sim E.P o site [p,q,s] h v u ks:=by
 unfold evMapPut at e
 split at e
 ·rename_i ob
  split at e
  ·rename_i k v' es hg
   obtain ⟨hm,e⟩:=cond_some e
   split at e
   ·rename_i d hd0
    split at e
    ·rename_i d' u' hco0
     obtain ⟨hno,e⟩:=cond_none e
     cases e
     obtain ⟨kt,et,dk,i,zz,ht,hkt,hkd,hi,hz,hzr⟩:=mapOk_some hm
     have hgg:=hs _ _ hg
     intro _ σ w a inv r next Q hn
     have r:RepAs σ h w [.mp ob,q,s] [a.eval x,a.eval y,a.eval z]:=by
      rcases ho with ho|ho<;>simpa only [ho,Op.operands,List.map_cons,List.map_nil] using r
     obtain ⟨fz',hco,hrt⟩:=coe_sound hco0 hs inv r.2.2.1
     have hg1:H.get ob (H.apply h u')=some (.map k v' es):=by rw [get_dels hco.dels h ob hno];exact hgg
     obtain ⟨b,arr,clock,hb,hh,hr⟩:=hco.inv.objs _ _ hg1
     have hv:a.eval x=.map (some b):=(r.1.2 (live_of hgg)).trans hb
     obtain ⟨hc,hik⟩:=keyD_rep hkd (toTy_rep hd0 r.2.1)
     have hck:=MapKept.run_checkKey (w:=w) hkt hik false 9999
     rw [hc] at hck
     have hgo:=MapKept.run_getObj_map (P:=E.P) hh
     have hex:∃arr' clock',(execOp a.eval o).run E.P w=.ok .skip {w with heap:=w.heap.setIfInBounds b (.map arr' clock')}∧MapRep fz' w k v' (mapPut k v' d d' es) arr'.toList:=by
      rcases run_find hkt hkd (x:=d) hr with ⟨q1,q2,q3⟩|⟨y',j,m,q1,q2,q3,q4,q5,q6⟩
      ·refine ⟨arr.push {key:=keyV k d,val:=a.eval z,born:=clock},clock+1,?_,?_⟩
       ·rcases ho with ho|ho<;>
         simp [execOp,ho,hv,hc,Instr.mapUpdate,run_underlying ht,hgo,hck,q2,MapKept.run_setObj_map _ hh,Result.andThen]
       ·rw [q3,Array.toList_push]
        exact mapRep_push (by rfl) hrt hr
      ·have hj:arr[j]?=some m:=by rw [←Array.getElem?_toList];exact q4
       refine ⟨arr.modify j fun e=>{e with key:=keyV k d,val:=a.eval z},clock,?_,?_⟩
       ·rcases ho with ho|ho<;>
         simp [execOp,ho,hv,hc,Instr.mapUpdate,run_underlying ht,hgo,hck,q2,hj,q5,Instr.keyThatStays,sameBits_key hkd,MapKept.run_setObj_map _ hh,Result.andThen]
       ·have hl:(arr.modify j fun e=>{e with key:=keyV k d,val:=a.eval z}).toList=arr.toList.set j {m with key:=keyV k d,val:=a.eval z}:=by
         apply List.ext_getElem?
         intro n
         rw [Array.getElem?_toList,Array.getElem?_modify]
         by_cases hn:j=n
         ·subst hn
          have hlt:j<arr.toList.length:=(List.getElem?_eq_some_iff.1 q4).1
          rw [if_pos rfl,hj,List.getElem?_set_self hlt];rfl
         ·rw [if_neg hn,List.getElem?_set_ne hn,Array.getElem?_toList]
        rw [hl]
        exact q6 d' _ rfl hrt
     obtain ⟨arr',clock',hrun,hmr⟩:=hex
     refine wp_skip' hrun (hn ⟨σ.val,fz',σ.bs⟩ _ undef ?_)
     have hgr:=grownBy_setMap w b (.map arr' clock')
     have hblk:blk ((⟨σ.val,fz',σ.bs⟩:Sg).val ob)=some b:=by rw [hb];rfl
     have hown:Own (H.apply h u') ob:=⟨_,hg1,rfl⟩
     have hmem:b∈(⟨σ.val,fz',σ.bs⟩:Sg).bs ob:=hco.inv.mem hg1 rfl hblk
     have fzh:∀b',fz' b'→({w with heap:=w.heap.setIfInBounds b (.map arr' clock')}:World).heap[b']?=w.heap[b']?:=fun b' hbf=>
      hgr.block b' (hco.inv.fzlt b' hbf) fun e=>by
       obtain rfl:=Option.some.inj e
       exact hco.inv.nofz ob hown b' hmem hbf
     have hobj:ObjRep ⟨σ.val,fz',σ.bs⟩ (H.put ob (.map k v' (mapPut k v' d d' es)) (H.apply h u')) {w with heap:=w.heap.setIfInBounds b (.map arr' clock')} ob (.map k v' (mapPut k v' d d' es)):=
      ⟨b,arr',clock',hb,(MapKept.heap_set hh).1,MapRep.mono (fun _ h=>h) fzh hmr⟩
     have same:∀i',SameO ⟨σ.val,fz',σ.bs⟩ ⟨σ.val,fz',σ.bs⟩ (H.apply h u') (H.put ob (.map k v' (mapPut k v' d d' es)) (H.apply h u')) i':=fun i'=>by
      by_cases e:i'=ob
      ·subst e
       refine .inr ⟨live_of hg1,rfl,fun x' q hx hq=>?_⟩
       rw [H.get_put_same] at hx
       obtain rfl:=Option.some.inj hx
       cases hq
      ·exact sameO_eq (H.get_put_ne _ e _) rfl
     obtain ⟨e1,e2,e3⟩:=change (σ:=⟨σ.val,fz',σ.bs⟩) (σ':=⟨σ.val,fz',σ.bs⟩) (h':=H.put ob (.map k v' (mapPut k v' d d' es)) (H.apply h u')) hco.inv ob (.map k v' (mapPut k v' d d' es)) (some b) (fun i hi=>H.get_put_ne _ hi _) (H.get_put_same ob _ _) (fun _ _=>rfl) (fun _ _=>rfl) rfl
      (H.nodup_put ob _ _ hco.inv.nodup) hgr (fun b' hb''=>by obtain rfl:=Option.some.inj hb'';exact ⟨hown,hmem⟩)
      (fun b' hb''=>⟨.inl ⟨hown,hb''⟩,Nat.lt_of_lt_of_le (hco.inv.bslt ob hown b' hb'') hgr.size⟩) (fun _=>hco.inv.bsok ob _ hg1 rfl)
      (fun i x g hi hm=>same ob) hobj
     have happ:H.apply h (u'++[(ob,some (.map k v' (mapPut k v' d d' es)))])=H.put ob (.map k v' (mapPut k v' d d' es)) (H.apply h u'):=by rw [apply_append];rfl
     refine ⟨?_,?_,rfl,fun b c _ r=>?_⟩
     ·show Ext σ h w _ (H.apply h (u'++_)) _
      rw [happ];exact hco.ext.trans e1
     ·show Inv _ (H.apply h (u'++_)) _
      rw [happ];exact e2
     ·show RepA _ (H.apply h (u'++_)) _ _ _
      rw [happ];exact e3 b c (fun _=>same ob) (hco.keep b c r)
    ·cases e
   ·cases e
  ·cases e
 ·cases e
end
end Go.Proofs.YtfdcjocallblcaaGreatDoor.Ev
