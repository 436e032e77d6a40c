/- One operation of the evaluator stands for the machine's: loads, indexes, fields of values, lengths. No conditions. -/
import Derived.Test.YtfdcjocallblcaaGreatDoorEvE
namespace Go.Proofs.YtfdcjocallblcaaGreatDoor.Ev
open Go
section
variable {E : Env} {o : Oper} {site : Nat} {vs : List AV} {h : H} {vw : View} {v : AV} {u : Upd} {ks : List Nat}
theorem run_isAgg {P:Program} {t:TypeId} {b:Bool} (e:aggOf P t=some b) (w:World):(isAgg t).run P w=.ok b w:=by
 unfold aggOf at e
 split at e
 ·rename_i hu;obtain rfl:=Option.some.inj e;simp [isAgg,run_underlying hu]
 ·rename_i hu;obtain rfl:=Option.some.inj e;simp [isAgg,run_underlying hu]
 ·rename_i d h1 h2 hu
  obtain rfl:=Option.some.inj e
  simp only [isAgg,Sem.run_bind,run_underlying hu,Result.andThen_ok]
  rfl
 ·cases e
theorem fits_some {E:Env} {t:TypeId} {k:Ty} (e:fits E t k=true):∃i,E.P.info? t=some i∧i.size=nCells k∧1≤nCells k∧aggOf E.P t=some (isSt k):=by
 unfold fits at e
 simp only [Bool.and_eq_true] at e
 obtain ⟨⟨h1,h2⟩,h3⟩:=e
 have h1:=nbeq_eq.1 h1
 have h2:=Nat.le_of_ble_eq_true h2
 unfold szOf at h1 h2
 split at h1
 ·rename_i i hi
  refine ⟨i,hi,h1,by rw [hi] at h2;simp at h2;omega,?_⟩
  split at h3
  ·rename_i b hb
   rw [hb]
   cases k<;>simp_all [isSt]
  ·cases h3
 ·rename_i hi;rw [hi] at h2;simp at h2
theorem szOf_of {P:Program} {t:TypeId} {i:TypeInfo} (e:P.info? t=some i):szOf P t=i.size:=by unfold szOf;rw [e]
theorem load_part {E:Env} {σ:Sg} {h:H} {w:World} {t:TypeId} {cs:List AV} {off:Nat} {v:AV} {vs:List Value} {b o0:Nat}
  (e:part E t cs off=some v) (r:RepAs σ h w cs vs) (hc:∀j c,vs[j]?=some c→w.cell? ⟨b,o0+j,none⟩=some c):
  ∃cv,(loadVar t ⟨b,o0+off,none⟩).run E.P w=.ok cv w∧RepA σ h w v cv:=by
 unfold part at e
 split at e
 ·rename_i hag
  split at e
  ·rename_i i hty
   obtain ⟨hb,e⟩:=cond_some e
   simp only [Bool.and_eq_true] at hb
   obtain ⟨inf,hinf,hsz,hpos,-⟩:=fits_some hb.1
   have hle:=Nat.le_of_ble_eq_true hb.2
   rw [szOf_of hinf,hsz] at e hle
   have hlen:((vs.drop off).take (nCells (.st i))).length=nCells (.st i):=by
    have:=r.length
    rw [List.length_take,List.length_drop];omega
   have hrun:(loadCells ⟨b,o0+off,none⟩ (nCells (.st i))).run E.P w=.ok ((vs.drop off).take (nCells (.st i))).toArray w:=by
    have:=run_loadCells_list (P:=E.P) (w:=w) ⟨b,o0+off,none⟩ ((vs.drop off).take (nCells (.st i))) (fun j c hj=>by
     rw [Addr.add_lit,Nat.add_assoc]
     apply hc
     rw [List.getElem?_take] at hj
     split at hj
     ·rw [List.getElem?_drop] at hj;exact hj
     ·cases hj)
    rw [hlen] at this;exact this
   have hrep:=(r.drop off).take (nCells (.st i))
   refine ⟨.agg ((vs.drop off).take (nCells (.st i))).toArray,?_,?_⟩
   ·simp only [loadVar,Sem.run_bind,run_isAgg hag,Result.andThen_ok]
    simp [sizeOf,typeInfo,hinf,hsz,hrun]
   ·split at e
    ·rename_i x hx
     obtain rfl:=Option.some.inj e
     exact ⟨_,rfl,by simpa using mkSt_rep (mkStN_some hx) hrep⟩
    ·obtain rfl:=Option.some.inj e
     exact ⟨_,rfl,by simpa using hrep⟩
  ·cases e
 ·rename_i hag
  obtain ⟨c,hcv,hr⟩:=r.get e
  refine ⟨c,?_,hr⟩
  simp only [loadVar,Sem.run_bind,run_isAgg hag,Result.andThen_ok]
  simp [hc off c hcv]
 ·cases e
theorem load_partOf {E:Env} {σ:Sg} {h:H} {w:World} {t:TypeId} {k:Ty} {x:k.den} {off:Nat} {v:AV} {vs:List Value} {b o0:Nat}
  (e:partOf E t k x off=some v) (r:RepPs σ.fz w (enc k x) vs) (hc:∀j c,vs[j]?=some c→w.cell? ⟨b,o0+j,none⟩=some c):
  ∃cv,(loadVar t ⟨b,o0+off,none⟩).run E.P w=.ok cv w∧RepA σ h w v cv:=by
 unfold partOf at e
 split at e
 ·rename_i k' hty
  cases hcnd:(Nat.beq off 0&&decide (k'=k)&&fits E t k) with
  |false=>rw [hcnd] at e;exact load_part e (cellsAV_rep r) hc
  |true=>
   rw [hcnd] at e
   obtain rfl:=Option.some.inj e
   simp only [Bool.and_eq_true] at hcnd
   obtain rfl:=nbeq_eq.1 hcnd.1.1
   obtain ⟨inf,hinf,hsz,hpos,hag⟩:=fits_some hcnd.2
   have hlen:vs.length=nCells k:=by rw [←r.length,enc_length]
   cases hk:isSt k with
   |true=>
    rw [hk] at hag
    have hrun:(loadCells ⟨b,o0,none⟩ (nCells k)).run E.P w=.ok vs.toArray w:=by
     have:=run_loadCells_list (P:=E.P) (w:=w) ⟨b,o0,none⟩ vs (fun j c hj=>by rw [Addr.add_lit];exact hc j c hj)
     rw [hlen] at this;exact this
    refine ⟨.agg vs.toArray,?_,?_⟩
    ·simp only [loadVar,Sem.run_bind,run_isAgg hag,Result.andThen_ok,Nat.add_zero]
     simp [sizeOf,typeInfo,hinf,hsz,hrun]
    ·cases k with
     |st i=>exact ⟨_,rfl,by simpa using r⟩
     |_=>cases hk
   |false=>
    rw [hk] at hag
    have h1:nCells k=1:=by cases k<;>first|rfl|cases hk
    match vs,hlen.trans h1,r,hc with
    |[c],_,r,hc=>
     refine ⟨c,?_,?_⟩
     ·have hc0:=hc 0 c rfl
      rw [Nat.add_zero] at hc0
      simp only [loadVar,Sem.run_bind,run_isAgg hag,Result.andThen_ok,Nat.add_zero]
      simp [hc0]
     ·cases k with
      |st i=>cases hk
      |_=>exact r
 ·exact load_part e (cellsAV_rep r) hc
theorem rowCells {w:World} {e z n:Nat} {cs:List Value} {b cap:Nat} {m:Nat} (hown:w.ownsRow 0 e z (.slice (some ⟨b,0,none⟩) m cap) n cs):∀j c,cs[j]?=some c→w.cell? ⟨b,j,none⟩=some c:=by
 intro j c hj
 have:=hown.cells (g:=b) rfl j c hj
 rw [Addr.add_lit,Nat.zero_add] at this
 exact this
theorem flatMap_drop {α β:Type} (f:α→List β) (z:Nat):∀(xs:List α),(∀x∈xs,(f x).length=z)→∀i x,xs[i]?=some x→((xs.flatMap f).drop (i*z)).take z=f x
 |[],_,_,_,hx=>by simp at hx
 |y::ys,hz,0,x,hx=>by
  simp at hx;subst hx
  have:(f y).length=z:=hz y (by simp)
  simp only [Nat.zero_mul,List.drop_zero,List.flatMap_cons]
  rw [←this,List.take_left]
 |y::ys,hz,i+1,x,hx=>by
  have hy:(f y).length=z:=hz y (by simp)
  have:=flatMap_drop f z ys (fun x hx=>hz x (by simp [hx])) i x (by simpa using hx)
  rw [List.flatMap_cons,Nat.add_mul,Nat.one_mul,Nat.add_comm (i*z) z,←List.drop_drop,←hy,List.drop_left,hy]
  exact this
theorem flatMap_length {α β:Type} (f:α→List β) (z:Nat):∀(xs:List α),(∀x∈xs,(f x).length=z)→(xs.flatMap f).length=xs.length*z
 |[],_=>by simp
 |y::ys,hz=>by
  rw [List.flatMap_cons,List.length_append,hz y (by simp),flatMap_length f z ys (fun x hx=>hz x (by simp [hx])),List.length_cons,Nat.add_mul,Nat.one_mul,Nat.add_comm]
theorem RepPs.take {fz:Nat→Prop} {w:World} {l:List PV} {vs:List Value} (r:RepPs fz w l vs) (n:Nat):RepPs fz w (l.take n) (vs.take n):=by
 induction l generalizing vs n with
 |nil=>cases vs with
  |nil=>simp [RepPs]
  |cons _ _=>exact r.elim
 |cons p l ih=>cases vs with
  |nil=>exact r.elim
  |cons v vs=>cases n with
   |zero=>simp [RepPs]
   |succ n=>exact ⟨r.1,ih r.2 n⟩
theorem RepPs.drop {fz:Nat→Prop} {w:World} {l:List PV} {vs:List Value} (r:RepPs fz w l vs) (n:Nat):RepPs fz w (l.drop n) (vs.drop n):=by
 induction l generalizing vs n with
 |nil=>cases vs with
  |nil=>simp [RepPs]
  |cons _ _=>exact r.elim
 |cons p l ih=>cases vs with
  |nil=>exact r.elim
  |cons v vs=>cases n with
   |zero=>exact r
   |succ n=>exact ih r.2 n
theorem row_elem {σ:Sg} {h:H} {w:World} {ob:Nat} {el:Nat} {k:Ty} {xs:List k.den} (inv:Inv σ h w) (g:H.get ob h=some (.row el k xs)) {i:Nat} (hi:i<xs.length) {b n c:Nat} (hb:σ.val ob=.slice (some ⟨b,0,none⟩) n c):
  ∃vs,RepPs σ.fz w (enc k (listAt xs k.dflt i)) vs∧∀j c,vs[j]?=some c→w.cell? ⟨b,i*nCells k+j,none⟩=some c:=by
 obtain ⟨cs,hown,hrep⟩:=inv.objs _ _ g
 rw [hb] at hown
 have hx:xs[i]?=some (listAt xs k.dflt i):=by
  unfold listAt
  rw [List.getD_eq_getElem?_getD,List.getElem?_eq_getElem hi];rfl
 refine ⟨(cs.drop (i*nCells k)).take (nCells k),?_,fun j c hj=>?_⟩
 ·have:=(hrep.drop (i*nCells k)).take (nCells k)
  rw [flatMap_drop (enc k) (nCells k) xs (fun x _=>enc_length k x) i _ hx] at this
  exact this
 ·rw [List.getElem?_take] at hj
  split at hj
  ·rw [List.getElem?_drop] at hj
   exact rowCells hown _ _ hj
  ·cases hj
theorem boolOf_some {v:AV} {b:Bool} (e:boolOf v=some b):v=.tv .bool b:=by
 unfold boolOf at e
 split at e
 ·rw [Option.some.inj e]
 ·cases e
theorem boolsOf_some:∀{cs:List AV} {xs:List Bool},boolsOf cs=some xs→cs=xs.map (fun b=>AV.tv .bool b)
 |[],xs,e=>by unfold boolsOf at e;obtain rfl:=Option.some.inj e;rfl
 |v::r,xs,e=>by
  unfold boolsOf at e
  split at e
  ·rename_i b hb
   split at e
   ·rename_i l hl
    obtain rfl:=Option.some.inj e
    rw [List.map_cons,←boolsOf_some hl,←boolOf_some hb]
   ·cases e
  ·cases e
theorem arrB_some {cs:List AV} {xs:List Bool} (e:arrB cs=some xs):cs=xs.map (fun b=>AV.tv .bool b):=by
 unfold arrB at e
 split at e
 ·exact boolsOf_some e
 ·cases e
theorem boolT_some {P:Program} {t:TypeId} (e:boolT P t=true):∃i,P.info? t=some i∧i.size=1∧aggOf P t=some false:=by
 unfold boolT at e
 split at e
 ·rename_i b hb
  rw [Bool.and_eq_true] at e
  obtain ⟨e1,e2⟩:=e
  have e2:=nbeq_eq.1 e2
  have hb':b=false:=by cases b<;>simp_all
  unfold szOf at e2
  split at e2
  ·rename_i i hi
   exact ⟨i,hi,e2,by rw [hb,hb']⟩
  ·cases e2
 ·cases e
theorem arrOf_some {P:Program} {t:TypeId} {n:Nat} {e:TypeId} (h:arrOf P t=some (n,e)):P.underlying t=some (.array n e):=by
 unfold arrOf at h
 split at h
 ·rename_i hu;obtain ⟨rfl,rfl⟩:=Prod.mk.inj (Option.some.inj h);exact hu
 ·cases h
theorem arrOf_agg {P:Program} {t:TypeId} {p:Nat×TypeId} (h:arrOf P t=some p):aggOf P t=some true:=by
 unfold aggOf
 rw [arrOf_some (n:=p.1) (e:=p.2) h]
theorem atB_get {xs:List Bool} {off:Nat} (h:off<xs.length):(xs.map (fun b=>AV.tv .bool b))[off]?=some (.tv .bool (atB off xs)):=by
 unfold atB
 rw [List.getElem?_map,List.getD_eq_getElem?_getD,List.getElem?_eq_getElem h]
 rfl
theorem evLoadB_some {E:Env} {t:TypeId} {cs:List AV} {off:Nat} {v:AV} {u:Upd} {ks:List Nat} (e:evLoadB E t cs off pk=some (v,u,ks)):
  u=[]∧ks=[]∧(part E t cs off=some v∨aggOf E.P t=some true∧1≤szOf E.P t∧off+szOf E.P t≤cs.length∧v=.agg ((cs.drop off).take (szOf E.P t))):=by
 unfold evLoadB at e
 split at e
 ·rename_i xs hxs
  split at e
  ·rename_i p hp
   obtain ⟨hb,e⟩:=cond_some e
   rw [Bool.and_eq_true] at hb
   cases e
   exact ⟨rfl,rfl,.inr ⟨arrOf_agg hp,Nat.le_of_ble_eq_true hb.1,Nat.le_of_ble_eq_true hb.2,rfl⟩⟩
  ·obtain ⟨hb,e⟩:=cond_some e
   obtain ⟨hl,e⟩:=cond_some e
   cases e
   obtain ⟨i,-,-,hag⟩:=boolT_some hb
   have hcs:=arrB_some hxs
   have hl:off<cs.length:=Nat.le_of_ble_eq_true hl
   refine ⟨rfl,rfl,.inl ?_⟩
   unfold part
   rw [hag]
   dsimp only
   rw [hcs] at hl⊢
   exact atB_get (by simpa using hl)
 ·obtain ⟨hp,rfl,rfl⟩:=pure1_some e
  exact ⟨rfl,rfl,.inl hp⟩
theorem load_arr {E:Env} {σ:Sg} {h:H} {w:World} {t:TypeId} {cs:List AV} {off:Nat} {vs:List Value} {b o0:Nat}
  (hag:aggOf E.P t=some true) (hpos:1≤szOf E.P t) (hle:off+szOf E.P t≤cs.length) (r:RepAs σ h w cs vs) (hc:∀j c,vs[j]?=some c→w.cell? ⟨b,o0+j,none⟩=some c):
  ∃cv,(loadVar t ⟨b,o0+off,none⟩).run E.P w=.ok cv w∧RepA σ h w (.agg ((cs.drop off).take (szOf E.P t))) cv:=by
 have hinf:∃i,E.P.info? t=some i∧i.size=szOf E.P t:=by
  unfold szOf at hpos⊢
  split at hpos
  ·rename_i i hi;exact ⟨i,hi,rfl⟩
  ·omega
 obtain ⟨inf,hinf,hsz⟩:=hinf
 have hlen:((vs.drop off).take (szOf E.P t)).length=szOf E.P t:=by
  have:=r.length
  rw [List.length_take,List.length_drop];omega
 have hrun:(loadCells ⟨b,o0+off,none⟩ (szOf E.P t)).run E.P w=.ok ((vs.drop off).take (szOf E.P t)).toArray w:=by
  have:=run_loadCells_list (P:=E.P) (w:=w) ⟨b,o0+off,none⟩ ((vs.drop off).take (szOf E.P t)) (fun j c hj=>by
   rw [Addr.add_lit,Nat.add_assoc]
   apply hc
   rw [List.getElem?_take] at hj
   split at hj
   ·rw [List.getElem?_drop] at hj;exact hj
   ·cases hj)
  rw [hlen] at this;exact this
 have hrep:=(r.drop off).take (szOf E.P t)
 refine ⟨.agg ((vs.drop off).take (szOf E.P t)).toArray,?_,⟨_,rfl,by simpa using hrep⟩⟩
 simp only [loadVar,Sem.run_bind,run_isAgg hag,Result.andThen_ok]
 simp [sizeOf,typeInfo,hinf,hsz,hrun]
theorem sim_load {t:TypeId} {x:Operand} {p:AV} (hvw:∀q y,vw q=some y→H.get q h=some y) (ho:o.op=.load t x)
  (hD:∀ob i off m k xs,p=.pel ob i off→vw ob=some (.deep m k xs none)→evLoadD E t site ob i off m k xs pk=some (v,u,ks)→Sim E.P o site [.pel ob i off] h v u ks) (e:evLoad E t site vw p pk=some (v,u,ks)):Sim E.P o site [p] h v u ks:=by
 unfold evLoad at e
 split at e
 ·rename_i ob off
  split at e
  ·rename_i cs hg
   obtain ⟨rfl,rfl,hp⟩:=evLoadB_some e
   refine sim_pure fun σ w a inv r=>?_
   simp only [ho,Op.operands,List.map_cons,List.map_nil] at r
   have hgg:=hvw _ _ hg
   obtain ⟨b,hb,hv⟩:=r.1.2 (live_of hgg)
   obtain ⟨b',cvs,ty,hb',hh,hr⟩:=inv.objs _ _ hgg
   rw [hb] at hb'
   obtain rfl:b=b':=by simpa using hb'
   have hcell:∀j c,cvs.toList[j]?=some c→w.cell? ⟨b,0+j,none⟩=some c:=by
    intro j c hj
    rw [Nat.zero_add,cell_of_row w b j cvs ty (0,0) hh]
    simpa using hj
   have hload:∃cv,(loadVar t ⟨b,0+off,none⟩).run E.P w=.ok cv w∧RepA σ h w v cv:=by
    rcases hp with hp|⟨hag,hpos,hle,rfl⟩
    ·exact load_part hp hr hcell
    ·exact load_arr hag hpos hle hr hcell
   obtain ⟨cv,hrun,hrep⟩:=hload
   rw [Nat.zero_add] at hrun
   refine ⟨cv,?_,hrep⟩
   simp only [execOp,ho,hv,Instr.loadAt,Instr.sureAddr]
   simp [hrun]
  ·rename_i k x hg
   obtain ⟨hp,rfl,rfl⟩:=pure1_some e
   refine sim_pure fun σ w a inv r=>?_
   simp only [ho,Op.operands,List.map_cons,List.map_nil] at r
   have hgg:=hvw _ _ hg
   obtain ⟨b,o0,hv,hf,cs,hc,hcell⟩:=cel_imp (inv.objs _ _ hgg) (r.1.2 (live_of hgg))
   obtain ⟨cv,hrun,hrep⟩:=load_partOf (h:=h) hp hc hcell
   refine ⟨cv,?_,hrep⟩
   simp only [execOp,ho,hv,Instr.loadAt,Instr.sureAddr]
   simp [hrun]
  ·cases e
 ·rename_i ob i off
  split at e
  ·rename_i el0 k xs hg
   obtain ⟨hp,rfl,rfl⟩:=pure1_some e
   refine sim_pure fun σ w a inv r=>?_
   simp only [ho,Op.operands,List.map_cons,List.map_nil] at r
   have hgg:=hvw _ _ hg
   obtain ⟨hi,b,n,c,hb,hv⟩:=r.1.2 _ _ _ hgg rfl
   obtain ⟨cvs,hr,hcell⟩:=row_elem inv hgg hi hb
   obtain ⟨cv,hrun,hrep⟩:=load_partOf (h:=h) hp hr hcell
   refine ⟨cv,?_,hrep⟩
   simp only [execOp,ho,hv,Instr.loadAt,Instr.sureAddr]
   simp [hrun]
  ·rename_i m k xs hg
   exact hD _ _ _ _ _ _ rfl hg e
  ·cases e
 ·rename_i k x off
  obtain ⟨hp,rfl,rfl⟩:=pure1_some e
  refine sim_pure fun σ w a inv r=>?_
  simp only [ho,Op.operands,List.map_cons,List.map_nil] at r
  obtain ⟨b,o0,hv,hf,cs,hc,hcell⟩:=r.1
  obtain ⟨cv,hrun,hrep⟩:=load_partOf (h:=h) hp hc hcell
  refine ⟨cv,?_,hrep⟩
  simp only [execOp,ho,hv,Instr.loadAt,Instr.sureAddr]
  simp [hrun]
 ·rename_i f cs
  obtain ⟨hp,rfl,rfl⟩:=pure1_some e
  refine sim_pure fun σ w a inv r=>?_
  simp only [ho,Op.operands,List.map_cons,List.map_nil] at r
  obtain ⟨b,o0,cv0,hv,hf,hw,hc⟩:=r.1
  obtain ⟨cv,hrun,hrep⟩:=load_part (vs:=[.func (.func f) #[] cv0]) (b:=b) (o0:=o0) hp ⟨⟨cv0,rfl,hc⟩,trivial⟩ (fun j c hj=>by
   match j,hj with
   |0,hj=>obtain rfl:=Option.some.inj hj;exact hw)
  rw [Nat.add_zero] at hrun
  refine ⟨cv,?_,hrep⟩
  simp only [execOp,ho,hv,Instr.loadAt,Instr.sureAddr]
  simp [hrun]
 ·cases e
end
end Go.Proofs.YtfdcjocallblcaaGreatDoor.Ev
