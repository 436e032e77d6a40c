/- One operation of the evaluator stands for the machine's: indexes, fields of values, lengths, literals of structs. No conditions. -/
import Derived.Test.YtfdcjocallblcaaGreatDoorEvF
namespace Go.Proofs.YtfdcjocallblcaaGreatDoor.Ev
open Go
section
variable {E : Env} {o : Oper} {site : Nat} {vs : List AV} {h : H} {vw : View} {v : AV} {u : Upd} {ks : List Nat}
theorem elemOf_some {P:Program} {t e:TypeId} (h:elemOf P t=some e):P.underlying t=some (.slice e):=by
 unfold elemOf at h
 split at h
 ·cases h;assumption
 ·cases h
theorem elFits_some {E:Env} {t:TypeId} {k:Ty} (e:elFits E t k=true):∃el i z,E.P.underlying t=some (.slice el)∧E.P.info? el=some i∧i.size=nCells k∧1≤nCells k∧aggOf E.P el=some (isSt k)∧i.bytes≤128∧1≤i.bytes∧i.zero=some z∧z.cells.size=nCells k∧zeroOk k (z.cells.toList.map valAV)=true:=by
 unfold elFits at e
 split at e
 ·rename_i el hel
  simp only [Bool.and_eq_true] at e
  obtain ⟨⟨⟨h1,h2⟩,h3⟩,h4⟩:=e
  obtain ⟨i,hi,hsz,hpos,hag⟩:=fits_some h1
  have h2:=of_decide_eq_true h2
  have h3:=Nat.le_of_ble_eq_true h3
  unfold Ev.bytesOf at h2 h3
  rw [hi] at h2 h3
  cases hz:zeroAVs E.P el with
  |none=>rw [hz] at h4;cases h4
  |some l=>
   rw [hz] at h4
   simp only [Bool.and_eq_true] at h4
   have h5:=h4.2
   have h4:=nbeq_eq.1 h4.1
   unfold zeroAVs at hz
   rw [hi] at hz
   dsimp only at hz
   split at hz
   ·rename_i z hzz
    obtain ⟨hb,hz⟩:=cond_some hz
    obtain rfl:=Option.some.inj hz
    clear hb
    exact ⟨el,i,z,elemOf_some hel,hi,hsz,hpos,hag,h2,h3,hzz,by simpa using h4,h5⟩
   ·cases hz
 ·cases e
theorem repP_sl {fz:Nat→Prop} {w:World} {es:List (List PV)} {v:Value} (r:RepP fz w (.sl es) v) (hne:0<es.length):∃(b o z cap:Nat) (c:Nat→Nat→Value),v=.slice (some ⟨b,o,none⟩) es.length cap∧es.length≤cap∧fz b∧(∀e∈es,e.length=z)∧(∀i j,i<es.length→j<z→w.cell? ⟨b,o+i*z+j,none⟩=some (c i j))∧(∀i (hi:i<es.length) j (hj:j<(es[i]).length),RepP fz w ((es[i])[j]) (c i j)):=by
 cases r with
 |sl0=>simp at hne
 |sl es b o z cap c hcap hfz hz hc hr=>exact ⟨b,o,z,cap,c,rfl,hcap,hfz,hz,hc,hr⟩
theorem repP_slv {fz:Nat→Prop} {w:World} {es:List (List PV)} {v:Value} (r:RepP fz w (.sl es) v):∃a c,v=.slice a es.length c:=by
 cases r with
 |sl0 a c=>exact ⟨a,c,rfl⟩
 |sl es b o z cap c hcap hfz hz hc hr=>exact ⟨_,_,rfl⟩
theorem sl_elem {fz:Nat→Prop} {w:World} {k:Ty} {xs:List k.den} {v:Value} (r:RepP fz w (.sl (xs.map (enc k))) v) {i:Nat} (hi:i<xs.length):
  ∃b o cap,v=.slice (some ⟨b,o,none⟩) xs.length cap∧fz b∧∃cs,RepPs fz w (enc k (listAt xs k.dflt i)) cs∧∀j c,cs[j]?=some c→w.cell? ⟨b,o+i*nCells k+j,none⟩=some c:=by
 obtain ⟨b,o,z,cap,c,hv,hcap,hfz,hz,hc,hr⟩:=repP_sl r (by rw [List.length_map];omega)
 rw [List.length_map] at hv hc
 have hx:listAt xs k.dflt i=xs[i]:=by
  unfold listAt
  rw [List.getD_eq_getElem?_getD,List.getElem?_eq_getElem hi];rfl
 have hzz:nCells k=z:=by
  rw [←enc_length k xs[i]]
  exact hz _ (List.mem_map.2 ⟨_,List.getElem_mem hi,rfl⟩)
 subst hzz
 refine ⟨b,o,cap,hv,hfz,(List.range (nCells k)).map (c i),RepPs.mk (by rw [enc_length];simp) (fun j p q hp hq=>?_),fun j q hq=>?_⟩
 ·rw [hx] at hp
  obtain ⟨hj,hpe⟩:=List.getElem?_eq_some_iff.1 hp
  have:=hr i (by rw [List.length_map];exact hi) j (by simpa using hj)
  simp only [List.getElem_map] at this
  rw [List.getElem?_map,List.getElem?_range (by rw [enc_length] at hj;exact hj)] at hq
  simp only [Option.map_some,Option.some.injEq] at hq
  subst hq
  rw [hpe] at this
  exact this
 ·rw [List.getElem?_map] at hq
  cases hj:(List.range (nCells k))[j]? with
  |none=>rw [hj] at hq;cases hq
  |some m=>
   rw [hj] at hq
   obtain ⟨hl,he⟩:=List.getElem?_eq_some_iff.1 hj
   simp only [List.getElem_range] at he
   subst he
   simp only [Option.map_some,Option.some.injEq] at hq
   subst hq
   exact hc i j hi (by simpa using hl)
theorem tn_lt (n:Int) (l:Nat) (h0:0≤n) (h1:n<l):n.toNat<l:=by omega
theorem no_row (n:Int) (l:Nat) (h0:0≤n) (h1:n<l) (hl:l=0):False:=by omega
theorem run_indexAt {P:Program} {t el:TypeId} {i:TypeInfo} (ht:P.underlying t=some (.slice el)) (hi:P.info? el=some i) (a:Addr) (len cap:Nat) (k:IntKind) (n:Int) (h0:0≤n) (h1:n<len) (w:World):
  (Instr.indexAt t (.slice (some a) len cap) (.int k n)).run P w=.ok (.pointer (some (a.add (n.toNat*i.size)))) w:=by
 simp [Instr.indexAt,run_underlying ht,asIntOf,sizeOf,typeInfo,hi,h0,h1]
theorem sim_indexArr {t:TypeId} {x y:Operand} {p q:AV} (hvw:∀q y,vw q=some y→H.get q h=some y) (ho:o.op=.indexAddr t x y) (e:evIndexArr E t vw p q pk=some (v,u,ks)):Sim E.P o site [p,q] h v u ks:=by
 unfold evIndexArr at e
 split at e
 ·rename_i n el ht
  replace e:=cond_some e
  obtain ⟨hb,e⟩:=e
  have ht:=arrOf_some ht
  obtain ⟨inf,hinf,hsz,-⟩:=boolT_some hb
  split at e
  ·rename_i ik i
   split at e
   ·rename_i ob off
    split at e
    ·rename_i cs hg
     obtain ⟨hb,e⟩:=cond_some e
     simp only [Bool.and_eq_true] at hb
     have h0:=of_decide_eq_true hb.1
     have h1:=of_decide_eq_true hb.2
     cases e
     refine sim_pure fun σ w a inv r=>?_
     simp only [ho,Op.operands,List.map_cons,List.map_nil] at r
     have hn:=repT_int r.2.1
     obtain ⟨b,hb',hv⟩:=r.1.2 (live_of (hvw _ _ hg))
     refine ⟨.pointer (some ⟨b,off+Int.toNat i,none⟩),?_,rfl,fun _=>⟨b,hb',rfl⟩⟩
     simp only [execOp,ho,hv,hn]
     simp [Instr.indexAt,Instr.sureAddr,run_underlying ht,asIntOf,sizeOf,typeInfo,hinf,hsz,h0,h1,Addr.add_lit]
    ·cases e
   ·cases e
  ·cases e
 ·cases e
theorem sim_indexAddr {t:TypeId} {x y:Operand} {p q:AV} (hvw:∀q y,vw q=some y→H.get q h=some y) (ho:o.op=.indexAddr t x y) (e:evIndexAddr E t vw p q pk=some (v,u,ks)):Sim E.P o site [p,q] h v u ks:=by
 unfold evIndexAddr at e
 split at e
 ·rename_i k hk
  replace e:=cond_some e
  obtain ⟨hf,e⟩:=e
  obtain ⟨el,inf,z,ht,hinf,hsz,hpos,hag,hby,-,hz,hzs,-⟩:=elFits_some hf
  split at e
  ·rename_i ik n
   split at e
   ·rename_i k' xs
    split at e
    ·rename_i hkk
     subst hkk
     replace e:=cond_some e
     obtain ⟨hb,e⟩:=e
     simp only [Bool.and_eq_true] at hb
     have h0:=of_decide_eq_true hb.1
     have h1:=of_decide_eq_true hb.2
     cases e
     refine sim_pure fun σ w a inv r=>?_
     simp only [ho,Op.operands,List.map_cons,List.map_nil] at r
     have hn:=repT_int r.2.1
     obtain ⟨b,of,cap,hv,hfz,cs,hr,hcell⟩:=sl_elem r.1.1 (i:=Int.toNat n) (tn_lt n xs.length h0 h1)
     refine ⟨.pointer (some ⟨b,of+Int.toNat n*nCells k'+0,none⟩),?_,b,_,rfl,hfz,cs,hr,hcell⟩
     simp only [execOp,ho,hv,hn]
     simp [run_indexAt ht hinf ⟨b,of,none⟩ xs.length cap ik n h0 h1,Addr.add_lit,hsz]
    ·cases e
   ·rename_i ob
    split at e
    ·rename_i el0 k' xs hg
     replace e:=cond_some e
     obtain ⟨hkk,e⟩:=e
     obtain rfl:=of_decide_eq_true hkk
     replace e:=cond_some e
     obtain ⟨hb,e⟩:=e
     simp only [Bool.and_eq_true] at hb
     have h0:=of_decide_eq_true hb.1
     have h1:=of_decide_eq_true hb.2
     cases e
     refine sim_pure fun σ w a inv r=>?_
     simp only [ho,Op.operands,List.map_cons,List.map_nil] at r
     have hn:=repT_int r.2.1
     have hgg:=hvw _ _ hg
     have hv:a.eval x=σ.val ob:=r.1.2 (live_of hgg)
     obtain ⟨cs,hown,hrep⟩:=inv.objs _ _ hgg
     rcases hown.2 with ⟨-,hl⟩|⟨b,cap,cur,hvb,-,hh,hle,-⟩
     ·exact (no_row n xs.length h0 h1 hl).elim
     ·refine ⟨.pointer (some ⟨b,Int.toNat n*nCells k'+0,none⟩),?_,rfl,fun x' t' l' hg' hx=>?_⟩
      ·simp only [execOp,ho,hv,hvb,hn]
       simp [run_indexAt ht hinf ⟨b,0,none⟩ xs.length cap ik n h0 h1,Addr.add_lit,hsz]
      ·rw [hgg] at hg'
       obtain rfl:=Option.some.inj hg'
       obtain ⟨rfl,rfl⟩:=Prod.mk.inj (Option.some.inj hx)
       exact ⟨tn_lt n xs.length h0 h1,b,xs.length,cap,hvb,rfl⟩
    ·rename_i k' xs hg
     split at e
     ·rename_i hkk
      subst hkk
      replace e:=cond_some e
      obtain ⟨hb,e⟩:=e
      simp only [Bool.and_eq_true] at hb
      have h0:=of_decide_eq_true hb.1
      have h1:=of_decide_eq_true hb.2
      cases e
      refine sim_pure fun σ w a inv r=>?_
      simp only [ho,Op.operands,List.map_cons,List.map_nil] at r
      have hn:=repT_int r.2.1
      have hgg:=hvw _ _ hg
      have hv0:a.eval x=σ.val ob:=r.1.2 (live_of hgg)
      have hrp:RepP σ.fz w (.sl (xs.map (enc k'))) (a.eval x):=by rw [hv0];exact inv.objs _ _ hgg
      obtain ⟨b,of,cap,hv,hfz,cs,hr,hcell⟩:=sl_elem hrp (i:=Int.toNat n) (tn_lt n xs.length h0 h1)
      refine ⟨.pointer (some ⟨b,of+Int.toNat n*nCells k'+0,none⟩),?_,b,_,rfl,hfz,cs,hr,hcell⟩
      simp only [execOp,ho,hv,hn]
      simp [run_indexAt ht hinf ⟨b,of,none⟩ xs.length cap ik n h0 h1,Addr.add_lit,hsz]
     ·cases e
    ·rename_i m k' xs q0 hg
     replace e:=cond_some e
     obtain ⟨hkk,e⟩:=e
     obtain rfl:=of_decide_eq_true hkk
     replace e:=cond_some e
     obtain ⟨hb,e⟩:=e
     simp only [Bool.and_eq_true] at hb
     have h0:=of_decide_eq_true hb.1
     have h1:=of_decide_eq_true hb.2
     cases e
     refine sim_pure fun σ w a inv r=>?_
     simp only [ho,Op.operands,List.map_cons,List.map_nil] at r
     have hn:=repT_int r.2.1
     have hgg:=hvw _ _ hg
     have hv:a.eval x=σ.val ob:=r.1.2 (live_of hgg)
     obtain ⟨cs,bss,hown,-⟩:=inv.objs _ _ hgg
     rcases hown.2 with ⟨-,hl⟩|⟨b,cap,cur,hvb,-,hh,hle,-⟩
     ·exact (no_row n xs.length h0 h1 hl).elim
     ·refine ⟨.pointer (some ⟨b,Int.toNat n*nCells k'+0,none⟩),?_,rfl,fun x' t' l' hg' hx=>?_⟩
      ·simp only [execOp,ho,hv,hvb,hn]
       simp [run_indexAt ht hinf ⟨b,0,none⟩ xs.length cap ik n h0 h1,Addr.add_lit,hsz]
      ·rw [hgg] at hg'
       obtain rfl:=Option.some.inj hg'
       obtain ⟨rfl,rfl⟩:=Prod.mk.inj (Option.some.inj hx)
       exact ⟨tn_lt n xs.length h0 h1,b,xs.length,cap,hvb,rfl⟩
    ·cases e
   ·cases e
  ·cases e
 ·exact sim_indexArr hvw ho e
theorem value_part {E:Env} {σ:Sg} {h:H} {w:World} {t:TypeId} {cs:List AV} {off:Nat} {v:AV} {vs:Array Value}
  (e:part E t cs off=some v) (r:RepAs σ h w cs vs.toList):
  ∃cv,(Go.part t vs off).run E.P w=.ok cv w∧RepA σ h w v cv:=by
 unfold Ev.part at e
 split at e
 ·rename_i hag
  split at e
  ·rename_i i hty
   replace e:=cond_some e
   obtain ⟨hb,e⟩:=e
   simp only [Bool.and_eq_true] at hb
   obtain ⟨inf,hinf,hsz,hpos,-⟩:=fits_some hb.1
   rw [szOf_of hinf,hsz] at e
   have hrep:=(r.drop off).take (nCells (.st i))
   have hex:(vs.extract off (off+nCells (.st i))).toList=(vs.toList.drop off).take (nCells (.st i)):=by
    rw [Array.toList_extract,List.extract_eq_take_drop]
    congr 1;omega
   refine ⟨.agg (vs.extract off (off+nCells (.st i))),?_,?_⟩
   ·simp only [Go.part,Sem.run_bind,run_isAgg hag,Result.andThen_ok]
    simp [sizeOf,typeInfo,hinf,hsz]
   ·split at e
    ·rename_i x hx
     obtain rfl:=Option.some.inj e
     exact ⟨_,rfl,by rw [hex];exact mkSt_rep (mkStN_some hx) hrep⟩
    ·obtain rfl:=Option.some.inj e
     exact ⟨_,rfl,by rw [hex];exact hrep⟩
  ·cases e
 ·rename_i hag
  obtain ⟨c,hcv,hr⟩:=r.get e
  refine ⟨c,?_,hr⟩
  simp only [Go.part,Sem.run_bind,run_isAgg hag,Result.andThen_ok]
  have:vs[off]?=some c:=by simpa using hcv
  simp [this]
 ·cases e
theorem sim_index {t:TypeId} {x y:Operand} {p q:AV} (ho:o.op=.index t x y) (e:evIndex E t p q pk=some (v,u,ks)):Sim E.P o site [p,q] h v u ks:=by
 unfold evIndex at e
 split at e
 ·rename_i n el ht
  replace e:=cond_some e
  obtain ⟨hb,e⟩:=e
  have ht:=arrOf_some ht
  obtain ⟨inf,hinf,hsz,hag⟩:=boolT_some hb
  split at e
  ·rename_i ik i
   split at e
   ·rename_i cs
    split at e
    ·rename_i xs hxs
     obtain ⟨hl,e⟩:=cond_some e
     obtain ⟨hb,e⟩:=cond_some e
     simp only [Bool.and_eq_true] at hb
     have h0:=of_decide_eq_true hb.1
     have h1:=of_decide_eq_true hb.2
     cases e
     refine sim_pure fun σ w a inv r=>?_
     simp only [ho,Op.operands,List.map_cons,List.map_nil] at r
     have hn:=repT_int r.2.1
     obtain ⟨cv,hv,hr⟩:=r.1
     have hcs:=arrB_some hxs
     have hl:=nbeq_eq.1 hl
     have hpart:Ev.part E el cs i.toNat=some (.tv .bool (atB i.toNat xs)):=by
      unfold Ev.part
      rw [hag]
      dsimp only
      rw [hcs] at hl⊢
      rw [List.length_map] at hl
      exact atB_get (by rw [hl];exact tn_lt i n h0 h1)
     obtain ⟨c,hrun,hrep⟩:=value_part hpart hr
     refine ⟨c,?_,hrep⟩
     simp only [execOp,ho,hv,hn]
     simp [Instr.index,run_underlying ht,asIntOf,sizeOf,typeInfo,hinf,hsz,h0,h1,hrun]
    ·cases e
   ·cases e
  ·cases e
 ·cases e
theorem sim_field {s:TypeId} {x:Operand} {f:Nat} {p:AV} (ho:o.op=.field s x f) (e:evField E s f p pk=some (v,u,ks)):Sim E.P o site [p] h v u ks:=by
 unfold evField at e
 split at e
 ·rename_i d hd
  obtain ⟨fs,fl,i,hs,hfs,hfl,hdo,hi,hz⟩:=offOf_some hd
  rw [hfs,hfl] at e
  dsimp only at e
  subst hdo
  have key:∀(cs:List AV),Ev.part E fl.type cs fl.offset=some v→∀(σ:Sg) (w:World) (a:Act),(∃cv:Array Value,a.eval x=.agg cv∧RepAs σ h w cs cv.toList)→∃cv,(execOp a.eval o).run E.P w=.ok (.value cv) w∧RepA σ h w v cv:=by
   intro cs hp σ w a ⟨cv,hv,hr⟩
   obtain ⟨c,hrun,hrep⟩:=value_part hp hr
   refine ⟨c,?_,hrep⟩
   simp only [execOp,ho,hv,Instr.field]
   simp [run_underlying hs,hfl,asAgg,hrun]
  split at e
  ·rename_i i x'
   obtain ⟨hp,rfl,rfl⟩:=pure1_some e
   refine sim_pure fun σ w a inv r=>?_
   simp only [ho,Op.operands,List.map_cons,List.map_nil] at r
   obtain ⟨cv,hv,hr⟩:=r.1
   exact key _ hp σ w a ⟨cv,hv,cellsAV_rep hr⟩
  ·rename_i cs
   obtain ⟨hp,rfl,rfl⟩:=pure1_some e
   refine sim_pure fun σ w a inv r=>?_
   simp only [ho,Op.operands,List.map_cons,List.map_nil] at r
   exact key _ hp σ w a r.1
  ·cases e
 ·cases e
theorem sim_extract {x:Operand} {i:Nat} {p:AV} (ho:o.op=.extract x i) (e:evExtract i p pk=some (v,u,ks)):Sim E.P o site [p] h v u ks:=by
 unfold evExtract at e
 split at e
 ·obtain ⟨hp,rfl,rfl⟩:=pure1_some e
  refine sim_pure fun σ w a inv r=>?_
  simp only [ho,Op.operands,List.map_cons,List.map_nil] at r
  obtain ⟨cv,hv,hr⟩:=r.1
  obtain ⟨c,hc,hrep⟩:=hr.get hp
  have hc:cv[i]?=some c:=by simpa using hc
  refine ⟨c,?_,hrep⟩
  simp only [execOp,ho,hv,Instr.extract]
  simp [hc]
 ·cases e
theorem sim_makeFunc {f:FuncId} {caps:Array Operand} (ho:o.op=.makeFunc (.func f) #[] caps):Sim E.P o site vs h (.fn f vs) [] []:=
 sim_pure fun σ w a inv r=>by
  simp only [ho,Op.operands,Array.empty_append,←Array.toList_map] at r
  exact ⟨.func (.func f) #[] (caps.map a.eval),by simp [execOp,ho,Instr.makeFunc],_,rfl,r⟩
theorem row_val {σ:Sg} {w:World} {ob:Nat} {el:Nat} {k:Ty} {xs:List k.den} (inv:Inv σ h w) (g:H.get ob h=some (.row el k xs)):∃a c,σ.val ob=.slice a xs.length c:=by
 obtain ⟨cs,hown,hrep⟩:=inv.objs _ _ g
 rcases hown.2 with ⟨hv,hl⟩|⟨b,cap,cur,hv,-⟩
 ·exact ⟨none,0,by rw [hv,hl]⟩
 ·exact ⟨_,_,hv⟩
theorem elems_len {σ:Sg} {w:World} {p:AV} {k:Ty} {xs:List k.den} {cv:Value} (hvw:∀q y,vw q=some y→H.get q h=some y) (inv:Inv σ h w) (e:elems vw p=some ⟨k,xs⟩) (r:RepA σ h w p cv):∃a c,cv=.slice a xs.length c:=by
 unfold elems at e
 split at e
 ·obtain ⟨rfl,hx⟩:=Sigma.mk.inj (Option.some.inj e)
  obtain rfl:=eq_of_heq hx
  obtain ⟨a,c,hv⟩:=repP_slv r.1
  exact ⟨a,c,by rw [hv,List.length_map]⟩
 ·split at e
  ·rename_i hg
   obtain ⟨rfl,hx⟩:=Sigma.mk.inj (Option.some.inj e)
   obtain rfl:=eq_of_heq hx
   have hgg:=hvw _ _ hg
   rw [r.2 (live_of hgg)]
   exact row_val inv hgg
  ·rename_i hg
   obtain ⟨rfl,hx⟩:=Sigma.mk.inj (Option.some.inj e)
   obtain rfl:=eq_of_heq hx
   have hgg:=hvw _ _ hg
   rw [r.2 (live_of hgg)]
   obtain ⟨a,c,hv⟩:=repP_slv (inv.objs _ _ hgg)
   exact ⟨a,c,by rw [hv,List.length_map]⟩
  ·cases e
 ·cases e
theorem sim_len {c:Call} {t:TypeId} {x:Operand} {p:AV} (hvw:∀q y,vw q=some y→H.get q h=some y) (ho:o.op=.call c) (hc:c.callee=.builtin .len) (ha:c.args=#[x]) (ht:c.argTypes=#[t])
  (e:evLen E t vw p pk=some (v,u,ks)):Sim E.P o site [p] h v u ks:=by
 have hops:o.op.operands.toList=[x]:=by simp [ho,Op.operands,Call.operands,hc,ha]
 have hex:∀(a:Act),execOp a.eval o=(do let v ←Builtin.len_ #[t] o.type #[a.eval x];pure (.value v)):=by
  intro a
  simp [execOp,ho,resolve,hc,ha,ht,invoke,builtin]
 unfold evLen at e
 split at e
 ·split at e
  ·rename_i hu
   cases e
   refine sim_pure fun σ w a inv r=>?_
   rw [hops] at r
   have hv:=repT_str r.1
   exact ⟨_,by rw [hex];simp [hv,Builtin.len_,run_underlying hu,goInt],mk_int _ _⟩
  ·cases e
 ·split at e
  ·rename_i hu
   cases e
   refine sim_pure fun σ w a inv r=>?_
   rw [hops] at r
   have hv:a.eval x=.slice none 0 0:=r.1
   exact ⟨_,by rw [hex];simp [hv,Builtin.len_,run_underlying (elemOf_some hu),goInt],mk_int _ _⟩
  ·cases e
 ·split at e
  ·rename_i hu
   split at e
   ·rename_i hel
    cases e
    refine sim_pure fun σ w a inv r=>?_
    rw [hops] at r
    obtain ⟨ad,cc,hv⟩:=elems_len hvw inv hel r.1
    exact ⟨_,by rw [hex];simp [hv,Builtin.len_,run_underlying (elemOf_some hu),goInt],mk_int _ _⟩
   ·unfold evLenD at e
    split at e
    ·split at e
     ·rename_i hg
      cases e
      refine sim_pure fun σ w a inv r=>?_
      rw [hops] at r
      have hgg:=hvw _ _ hg
      obtain ⟨cs,bss,hown,-⟩:=inv.objs _ _ hgg
      have hv:=r.1.2 (live_of hgg)
      rcases hown.2 with ⟨h1,hl⟩|⟨b,cap,cur,h1,-⟩
      ·exact ⟨_,by rw [hex];simp [hv,h1,hl,Builtin.len_,run_underlying (elemOf_some hu),goInt],mk_int _ _⟩
      ·exact ⟨_,by rw [hex];simp [hv,h1,Builtin.len_,run_underlying (elemOf_some hu),goInt],mk_int _ _⟩
     ·cases e
    ·cases e
  ·cases e
theorem sim_min {c:Call} {x y:Operand} {p q:AV} (ho:o.op=.call c) (hc:c.callee=.builtin .min) (ha:c.args=#[x,y])
  (e:evMin p q pk=some (v,u,ks)):Sim E.P o site [p,q] h v u ks:=by
 have hops:o.op.operands.toList=[x,y]:=by simp [ho,Op.operands,Call.operands,hc,ha]
 have hex:∀(a:Act),execOp a.eval o=(do let v ←Builtin.min_ c.argTypes o.type #[a.eval x,a.eval y];pure (.value v)):=by
  intro a
  simp [execOp,ho,resolve,hc,ha,invoke,builtin]
 unfold evMin at e
 split at e
 ·split at e
  ·replace e:=cond_some e
   obtain ⟨hk,e⟩:=e
   obtain rfl:=of_decide_eq_true hk
   cases e
   refine sim_pure fun σ w a inv r=>?_
   rw [hops] at r
   have h1:=repT_int r.1
   have h2:=repT_int r.2.1
   refine ⟨_,?_,mk_int _ _⟩
   rw [hex,h1,h2]
   simp [Builtin.min_,Builtin.min2,Bool.cond_eq_ite]
  ·cases e
 ·cases e
theorem sim_max {c:Call} {x y:Operand} {p q:AV} (ho:o.op=.call c) (hc:c.callee=.builtin .max) (ha:c.args=#[x,y])
  (e:evMax p q pk=some (v,u,ks)):Sim E.P o site [p,q] h v u ks:=by
 have hops:o.op.operands.toList=[x,y]:=by simp [ho,Op.operands,Call.operands,hc,ha]
 have hex:∀(a:Act),execOp a.eval o=(do let v ←Builtin.max_ c.argTypes o.type #[a.eval x,a.eval y];pure (.value v)):=by
  intro a
  simp [execOp,ho,resolve,hc,ha,invoke,builtin]
 unfold evMax at e
 split at e
 ·split at e
  ·replace e:=cond_some e
   obtain ⟨hk,e⟩:=e
   obtain rfl:=of_decide_eq_true hk
   cases e
   refine sim_pure fun σ w a inv r=>?_
   rw [hops] at r
   have h1:=repT_int r.1
   have h2:=repT_int r.2.1
   refine ⟨_,?_,mk_int _ _⟩
   rw [hex,h1,h2]
   simp [Builtin.max_,Builtin.max2,Bool.cond_eq_ite]
  ·cases e
 ·cases e
end
end Go.Proofs.YtfdcjocallblcaaGreatDoor.Ev
