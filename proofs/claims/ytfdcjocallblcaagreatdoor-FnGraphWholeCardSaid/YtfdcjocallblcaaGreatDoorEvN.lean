/- One operation of the evaluator stands for the machine's: calls, and all together. Condition: what functions tell (Φ) is sound. -/
import Derived.Test.YtfdcjocallblcaaGreatDoorEvMn
namespace Go.Proofs.YtfdcjocallblcaaGreatDoor.Ev
open Go
def Callable (P : Program) (f : Nat) : Prop := ∃ fn, P.funcs[f]? = some fn ∧ (fn.name == "runtime.NumGoroutine") = false ∧ fn.body.isNone = false
theorem run_callFunc {P:Program} {f:Nat} (hc:Callable P f) (args:Array Value) (w:World):(callFunc f args).run P w=.ok (.enter f args) w:=by
 obtain ⟨fn,hf,hn,hb⟩:=hc
 have hn : fn.name ≠ "runtime.NumGoroutine" := by simpa using hn
 have hb:fn.body≠none:=fun h=>by rw [h] at hb;cases hb
 simp [callFunc,hf,hn,hb]
def CallSim (P:Program) (f:Nat) (args:List AV) (site:Nat) (h:H) (v:AV) (u:Upd) (ks:List Nat):Prop:=
 ((∃x,(site,x)∈u)→site∉H.ids h∧site∉AV.idsL args)→
 ∀(σ:Sg) (w:World) (cargs:Array Value),Inv σ h w→RepAs σ h w args cargs.toList→
 Calls P f cargs w fun e w'=>∃cv σ',e=.returned cv∧Post σ h w site v u ks σ' w' cv
def SoundΦ (E:Env):Prop:=
 ∀(f:Nat) (args:List AV) (vw:View) (site:Nat) (h:H) (y:(E.Φ f args vw site).α),(E.Φ f args vw site).x=some y→Shows vw h→
  Callable E.P f∧CallSim E.P f args site h ((E.Φ f args vw site).g y).1 ((E.Φ f args vw site).g y).2.1 ((E.Φ f args vw site).g y).2.2
theorem RepAs.app {σ:Sg} {h:H} {w:World}:∀{l l':List AV} {vs vs':List Value},RepAs σ h w l vs→RepAs σ h w l' vs'→RepAs σ h w (l++l') (vs++vs')
 |[],_,[],_,_,r=>r
 |_::_,_,_::_,_,r,r'=>⟨r.1,RepAs.app r.2 r'⟩
 |[],_,_::_,_,r,_=>r.elim
 |_::_,_,[],_,r,_=>r.elim
theorem RepAs.len {σ:Sg} {h:H} {w:World}:∀{l:List AV} {vs:List Value},RepAs σ h w l vs→l.length=vs.length
 |[],[],_=>rfl
 |_::_,_::_,r=>by rw [List.length_cons,List.length_cons,RepAs.len r.2]
 |[],_::_,r=>r.elim
 |_::_,[],r=>r.elim
theorem idsL_append:∀l l':List AV,AV.idsL (l++l')=AV.idsL l++AV.idsL l'
 |[],_=>rfl
 |v::r,l'=>by simp [AV.idsL,idsL_append r l']
section
variable {E : Env} {o : Oper} {site : Nat} {vs : List AV} {h : H} {vw : View} {v : AV} {u : Upd} {ks : List Nat}
theorem sim_call {c:Call} {x:Operand} {p:AV} {args:List AV} (hΦ:SoundΦ E) (hs:Shows vw h) (ho:o.op=.call c) (hc:c.callee=.value x)
  (e:evCall E site vw p args pk=some (v,u,ks)):Sim E.P o site (p::args) h v u ks:=by
 unfold evCall at e
 split at e
 ·rename_i f cs
  have hx:∃y,(E.Φ f (args++cs) vw site).x=some y∧v=((E.Φ f (args++cs) vw site).g y).1∧u=((E.Φ f (args++cs) vw site).g y).2.1∧ks=((E.Φ f (args++cs) vw site).g y).2.2:=by
   cases hy:(E.Φ f (args++cs) vw site).x with
   |none=>simp [hy] at e
   |some y=>
    simp [hy,pk] at e
    exact ⟨y,rfl,e.1.symm,e.2.1.symm,e.2.2.symm⟩
  obtain ⟨y,hy,rfl,rfl,rfl⟩:=hx
  obtain ⟨hcall,hsim⟩:=hΦ f (args++cs) vw site h y hy hs
  intro hsite σ w a inv r next Q hn
  simp only [ho,Op.operands,Call.operands,hc] at r
  rw [show (#[x]++c.args).toList=x::c.args.toList by simp] at r
  rw [List.map_cons] at r
  obtain ⟨⟨cv,hcv,hcaps⟩,hargs⟩:=r
  have hrun:(execOp a.eval o).run E.P w=.ok (.enter f (c.args.map a.eval++cv)) w:=by
   have hr:=run_callFunc hcall (c.args.map a.eval++cv) w
   simp [execOp,ho,resolve,hc,hcv,Deferred.ofValue,invoke,hr]
  unfold Oper.wp
  rw [hrun,Oper.upon_enter]
  have hall:RepAs σ h w (args++cs) (c.args.map a.eval++cv).toList:=by
   rw [Array.toList_append,Array.toList_map];exact hargs.app hcaps
  refine Calls.mono (hsim (fun hex=>?_) σ w _ inv hall) ?_
  ·obtain ⟨h1,h2⟩:=hsite hex
   refine ⟨h1,fun hm=>h2 ?_⟩
   rw [idsL_append,List.mem_append] at hm
   simp only [AV.idsL,AV.ids,List.mem_append]
   exact hm.symm
  ·rintro e' w' ⟨cv',σ',rfl,hp⟩
   exact hn σ' w' cv' hp
 ·cases e
theorem args_one {a:Act} {c:Call} {b:Builtin} {σ:Sg} {w:World} {p:AV} (ho:o.op=.call c) (hc:c.callee=.builtin b) (r:RepAs σ h w [p] (o.op.operands.toList.map a.eval)):∃x,c.args=#[x]:=by
 have hl:=r.len
 simp only [ho,Op.operands,Call.operands,hc,List.length_map,Array.length_toList,List.length_cons,List.length_nil] at hl
 have hl:c.args.size=1:=by simpa using hl.symm
 refine ⟨c.args[0],?_⟩
 apply Array.ext
 ·simp [hl]
 ·intro i h1 h2
  have h3:i<1:=by rw [hl] at h1;exact h1
  match i,h3 with
  |0,_=>rfl
theorem args_two {a:Act} {c:Call} {b:Builtin} {σ:Sg} {w:World} {p q:AV} (ho:o.op=.call c) (hc:c.callee=.builtin b) (r:RepAs σ h w [p,q] (o.op.operands.toList.map a.eval)):∃x y,c.args=#[x,y]:=by
 have hl:=r.len
 simp only [ho,Op.operands,Call.operands,hc,List.length_map,Array.length_toList,List.length_cons,List.length_nil] at hl
 have hl:c.args.size=2:=by simpa using hl.symm
 refine ⟨c.args[0],c.args[1],?_⟩
 apply Array.ext
 ·simp [hl]
 ·intro i h1 h2
  have h3:i<2:=by rw [hl] at h1;exact h1
  match i,h3 with
  |0,_=>rfl
  |1,_=>rfl
theorem sim_builtin {c:Call} {b:Builtin} (hs:Shows vw h) (ho:o.op=.call c) (hc:c.callee=.builtin b)
  (e:evBuiltin E b c.argTypes.toList site vw vs pk=some (v,u,ks)):Sim E.P o site vs h v u ks:=by
 unfold evBuiltin at e
 split at e
 ·split at e
  ·rename_i t ht
   obtain ⟨x,rfl,e⟩:=on1_some e
   intro h1 σ w a inv r
   obtain ⟨y,hy⟩:=args_one ho hc r
   exact sim_len (fun q y=>hs q y) ho hc hy (by rw [←Array.toArray_toList (xs:=c.argTypes),ht]) e h1 σ w a inv r
  ·cases e
 ·obtain ⟨x,y,rfl,e⟩:=on2_some e
  intro h1 σ w a inv r
  obtain ⟨_,_,hy⟩:=args_two ho hc r
  exact sim_min ho hc hy e h1 σ w a inv r
 ·obtain ⟨x,y,rfl,e⟩:=on2_some e
  intro h1 σ w a inv r
  obtain ⟨_,_,hy⟩:=args_two ho hc r
  exact sim_max ho hc hy e h1 σ w a inv r
 ·split at e
  ·rename_i t t' ht
   obtain ⟨x,y,rfl,e⟩:=on2_some e
   intro h1 σ w a inv r
   obtain ⟨_,_,hy⟩:=args_two ho hc r
   exact sim_append hs ho hc hy (by rw [←Array.toArray_toList (xs:=c.argTypes),ht]) (fun k o m xs _ hf htt hod e'=>by subst htt;exact sim_appendD hs ho hc hy (by rw [←Array.toArray_toList (xs:=c.argTypes),ht]) hf hod e') e h1 σ w a inv r
  ·cases e
 ·cases e
theorem cond_or {α:Type} {c:Bool} {a b:Option α} {x:α} (e:(bif c then a else b)=some x):(c=true∧a=some x)∨b=some x:=by
 cases c
 ·exact .inr e
 ·exact .inl ⟨rfl,e⟩
theorem putB_eq:∀(xs:List Bool) (off j:Nat) (v:Bool),putB off v j xs=(xs.zipIdx j).map (fun p=>AV.tv .bool (bif Nat.beq off p.2 then v else p.1))
 |[],_,_,_=>rfl
 |x::r,off,j,v=>by simp only [putB,List.zipIdx_cons,List.map_cons,putB_eq r off (j+1) v]
theorem storeB_some {E:Env} {t:TypeId} {cs q:List AV} {off:Nat} {v:AV} (e:storeB E t cs off v=some q) (hl:off<cs.length):
  ∃b,v=.tv .bool b∧szOf E.P t=1∧q=setCells cs off [.tv .bool b]:=by
 unfold storeB at e
 split at e
 ·rename_i xs hxs
  split at e
  ·rename_i b hb
   obtain ⟨ht,e⟩:=cond_some e
   obtain rfl:=Option.some.inj e
   obtain ⟨i,hi,hsz,-⟩:=boolT_some ht
   refine ⟨b,boolOf_some hb,by rw [szOf_of hi,hsz],?_⟩
   have hcs:=arrB_some hxs
   rw [hcs] at hl⊢
   rw [List.length_map] at hl
   refine List.ext_getElem? fun k=>?_
   unfold setCells
   rw [putB_eq,List.getElem?_map,List.getElem?_zipIdx]
   by_cases hk:k<xs.length
   ·rw [List.getElem?_eq_getElem hk]
    simp only [Option.map_some,Nat.zero_add,List.length_singleton]
    rcases Nat.lt_trichotomy k off with hlt|rfl|hgt
    ·rw [nbeq_ne.2 (by omega),List.append_assoc,List.getElem?_append_left (by rw [List.length_take,List.length_map];omega),List.getElem?_take,if_pos hlt,List.getElem?_map,List.getElem?_eq_getElem hk]
     rfl
    ·rw [nbeq_eq.2 rfl,List.append_assoc,List.getElem?_append_right (by rw [List.length_take,List.length_map];omega)]
     simp only [List.length_take,List.length_map,Nat.min_eq_left (Nat.le_of_lt hl),Nat.sub_self]
     rfl
    ·rw [nbeq_ne.2 (by omega),List.getElem?_append_right (by rw [List.length_append,List.length_take,List.length_map];simp;omega),List.getElem?_drop,List.getElem?_map]
     have:off+1+(k-(List.take off (List.map (fun b=>AV.tv .bool b) xs)++[AV.tv .bool b]).length)=k:=by
      rw [List.length_append,List.length_take,List.length_map];simp;omega
     rw [this,List.getElem?_eq_getElem hk]
     rfl
   ·rw [List.getElem?_eq_none (by omega),List.getElem?_eq_none]
    ·rfl
    ·simp only [List.length_append,List.length_take,List.length_drop,List.length_map,List.length_singleton];omega
  ·cases e
 ·cases e
theorem sim_store {t:TypeId} {x y:Operand} {p q:AV} (hs:Shows vw h) (ho:o.op=.store t x y) (e:evStore E t vw p q pk=some (v,u,ks)):Sim E.P o site [p,q] h v u ks:=by
 unfold evStore at e
 split at e
 ·split at e
  ·rename_i hg
   split at e
   ·rename_i q' hq'
    obtain ⟨hl,e⟩:=cond_some e
    cases e
    obtain ⟨b,rfl,hsz,rfl⟩:=storeB_some hq' (Nat.le_of_ble_eq_true hl)
    exact sim_storeBox ho (hs _ _ hg) (new:=[.tv .bool b]) rfl hsz.symm (by omega) (by rw [hsz];exact Nat.le_of_ble_eq_true hl)
   split at e
   ·rename_i new hq
    obtain ⟨hb,e⟩:=cond_some e
    simp only [Bool.and_eq_true] at hb
    cases e
    exact sim_storeBox ho (hs _ _ hg) hq (nbeq_eq.1 hb.1.1) (Nat.le_of_ble_eq_true hb.1.2) (Nat.le_of_ble_eq_true hb.2)
   ·cases e
  ·cases e
 ·split at e
  ·rename_i el k xs hg
   split at e
   ·rename_i k' hk'
    rcases cond_or e with ⟨hb,e2⟩|e2
    ·clear e
     simp only [Bool.and_eq_true] at hb
     obtain rfl:=nbeq_eq.1 hb.1.1
     split at e2
     ·rename_i d u' hd
      replace e2:=cond_none e2
      obtain ⟨hno,e2⟩:=e2
      cases e2
      exact sim_storeEl hs ho hg hb.2 hd hno
     ·cases e2
    ·exact sim_storeP hs ho hg e2
   ·cases e
  ·rename_i m k xs hole hg
   exact sim_storeD hs ho hg e
  ·cases e
 ·cases e
theorem sim_convB {src dst:TypeId} {x:Operand} {p:AV} (hs:Shows vw h) (ho:o.op=.convert src dst x) (hd:isStrT E.P dst=true) (e:evConvB E src vw p pk=some (v,u,ks)):Sim E.P o site [p] h v u ks:=by
 unfold evConvB at e
 obtain ⟨hb,e⟩:=cond_some e
 have hsrc:∃el,E.P.underlying src=some (.slice el)∧E.P.underlying el=some (.int .u8):=by
  unfold u8Slice at hb
  split at hb
  ·rename_i el hel
   split at hb
   ·rename_i hu;exact ⟨el,hel,hu⟩
   ·cases hb
  ·cases hb
 have hdst:E.P.underlying dst=some .string:=by
  unfold isStrT at hd
  split at hd
  ·assumption
  ·cases hd
 obtain ⟨el,h1,h2⟩:=hsrc
 split at e
 ·rename_i ys hy
  cases e
  refine sim_pure fun σ w a inv r=>?_
  simp only [ho,Op.operands,List.map_cons,List.map_nil] at r
  have key:(convert src dst (a.eval x)).run E.P w=.ok (.string (strOfNums ys)) w:=by
   rcases src_cells (k:=.int .u8) (by decide) hs inv hy r.1 with ⟨rfl,ad,c,hv⟩|⟨ad,c,news,hv,hl,hr,hc⟩
   ·rw [hv,run_convert_bytes_string w src dst el _ _ _ h1 h2 hdst]
    cases ad with
    |none=>simp [Conv.bytesToString,strOfNums];rfl
    |some ad=>rw [run_bytesToString w ad 0 c [] (by simp [loadCells];rfl)];rfl
   ·rw [hv,run_convert_bytes_string w src dst el _ _ _ h1 h2 hdst]
    have hn:∀(l:List Int) (vs:List Value),RepPs σ.fz w (l.flatMap (enc (.int .u8))) vs→vs=l.map (Value.int .u8):=by
     intro l
     induction l with
     |nil=>intro vs r;cases vs with
      |nil=>rfl
      |cons _ _=>exact r.elim
     |cons n l ih=>intro vs r;cases vs with
      |nil=>exact r.elim
      |cons c vs=>
       obtain ⟨r1,r2⟩:=r
       cases r1
       rw [ih vs r2];rfl
    have hnews:=hn ys news hr
    have hlen:news.length=List.length ys:=by rw [hnews,List.length_map]
    have hload:(loadCells ad (List.length ys)).run E.P w=.ok (List.map (Value.int .u8) ys).toArray w:=by
     have:=run_loadCells_list (P:=E.P) (w:=w) ad news (fun j u hj=>hc j u hj)
     rw [hlen] at this
     rw [this,hnews]
    rw [run_bytesToString w ad _ c ys hload,foldl_push_bytes]
    simp [strOfNums,ByteArray.empty,ByteArray.emptyWithCapacity]
    rfl
  exact ⟨_,by simp [execOp,ho,key],mk_str _⟩
 ·cases e
theorem sliced_rep {fz:Nat→Prop} {w:World} {k:Ty} {xs:List k.den} {v:Value} (hpos:1≤nCells k) (r:RepP fz w (.sl (xs.map (enc k))) v) {l h:Nat} (hl:l≤h) (hh:h≤xs.length):
  ∃a cap,v=.slice a xs.length cap∧xs.length≤cap∧RepP fz w (.sl (((xs.drop l).take (h-l)).map (enc k))) (sliced a l h cap (nCells k)):=by
 by_cases hne:l<h
 ·obtain ⟨b,o,z,cap,c,hv,hcap,hfz,hz,hc,hr⟩:=repP_sl r (by rw [List.length_map];omega)
  rw [List.length_map] at hv hcap hc
  have hx0:0<xs.length:=by omega
  have hzz:nCells k=z:=by
   rw [←enc_length k (xs[0])]
   exact hz _ (List.mem_map.2 ⟨_,List.getElem_mem hx0,rfl⟩)
  subst hzz
  refine ⟨some ⟨b,o,none⟩,cap,hv,hcap,?_⟩
  have hlen:(((xs.drop l).take (h-l)).map (enc k)).length=h-l:=by simp;omega
  have hval:sliced (some ⟨b,o,none⟩) l h cap (nCells k)=.slice (some ⟨b,o+l*nCells k,none⟩) (((xs.drop l).take (h-l)).map (enc k)).length (cap-l):=by
   unfold sliced
   rw [if_neg (by omega),hlen]
   simp [Addr.add_lit]
  rw [hval]
  refine .sl _ b (o+l*nCells k) (nCells k) (cap-l) (fun i j=>c (l+i) j) (by rw [hlen];omega) hfz (fun e he=>?_) (fun i j hi hj=>?_) (fun i hi j hj=>?_)
  ·obtain ⟨x,-,rfl⟩:=List.mem_map.1 he
   exact enc_length k x
  ·rw [hlen] at hi
   have:=hc (l+i) j (by omega) hj
   rw [←this]
   congr 2
   rw [Nat.add_mul];omega
  ·have hi':=hi
   rw [hlen] at hi'
   have hget:(((xs.drop l).take (h-l)).map (enc k))[i]=(xs.map (enc k))[l+i]'(by rw [List.length_map];omega):=by simp
   have hj':j<((xs.map (enc k))[l+i]'(by rw [List.length_map];omega)).length:=by rw [←hget];exact hj
   have:=hr (l+i) (by rw [List.length_map];omega) j hj'
   simp only [hget]
   exact this
 ·obtain ⟨a,c,hv⟩:=repP_slv r
  have h0:h-l=0:=by omega
  have hcap:∃cap,v=.slice a xs.length cap∧xs.length≤cap:=by
   rw [List.length_map] at hv
   by_cases hx:0<xs.length
   ·obtain ⟨b,o,z,cap,c',hv',hcap,-⟩:=repP_sl r (by rw [List.length_map];omega)
    rw [List.length_map] at hv' hcap
    rw [hv] at hv'
    injection hv' with h1 h2 h3
    subst h3
    exact ⟨c,hv,hcap⟩
   ·exact ⟨c,hv,by omega⟩
  obtain ⟨cap,hv',hle⟩:=hcap
  refine ⟨a,cap,hv',hle,?_⟩
  unfold sliced
  rw [h0,List.take_zero]
  exact .sl0 _ _
def IntV:Option Int→Option Value→Prop
 |none,v=>v=none
 |some n,v=>∃k,v=some (.int k n)
theorem run_bnds {P:Program} {t el:TypeId} {i:TypeInfo} (ht:P.underlying t=some (.slice el)) (hi:P.info? el=some i) (a:Option Addr) (len cap:Nat) (hle:len≤cap) {lo hi':Option Int} {vlo vhi:Option Value} (w:World)
  (hlo:IntV lo vlo) (hhi:IntV hi' vhi)
  (h1:0≤lo.getD 0) (h2:lo.getD 0≤hi'.getD (len:Int)) (h3:hi'.getD (len:Int)≤(len:Int)):
  (Instr.sliceAt t (.slice a len cap) vlo vhi none).run P w=.ok (sliced a (lo.getD 0).toNat (hi'.getD (len:Int)).toNat cap i.size) w:=by
 have ht':P.underlying t=some (.slice (P.elem t)):=by rw [Program.elem,ht]
 have hel:P.elem t=el:=by rw [Program.elem,ht]
 rw [run_sliceAt_slice w t _ _ _ _ ht']
 have hsz:(sizeOf (P.elem t)).run P w=.ok i.size w:=by rw [hel];rw [run_sizeOf w hi,Program.cellsOf,hi];rfl
 cases lo with
 |none=>
  obtain rfl:=hlo
  cases hi' with
  |none=>
   obtain rfl:=hhi
   rw [run_slice_all w t a len cap ht',hsz];simp [Result.andThen]
  |some h=>
   obtain ⟨kh,rfl⟩:=hhi
   simp only [Option.getD_some,Option.getD_none] at h1 h2 h3⊢
   rw [run_slice_h w t a len cap ht' kh h h2 (by omega),hsz];simp [Result.andThen]
 |some l=>
  obtain ⟨kl,rfl⟩:=hlo
  cases hi' with
  |none=>
   obtain rfl:=hhi
   simp only [Option.getD_some,Option.getD_none] at h1 h2 h3⊢
   rw [run_slice_l w t a len cap ht' kl l h1 h2,hsz];simp [Result.andThen]
  |some h=>
   obtain ⟨kh,rfl⟩:=hhi
   simp only [Option.getD_some] at h1 h2 h3⊢
   rw [run_slice_lh w t a len cap ht' kl kh l h h1 h2 (by omega),hsz];simp [Result.andThen]
theorem sim_sliceB {t:TypeId} {x p:AV} {lo hi:Option Int} (hs:Shows vw h) (e:evSliceB E t vw p lo hi pk=some (v,u,ks)) {σ:Sg} {w:World} (inv:Inv σ h w) {cv:Value} (r:RepA σ h w p cv) {vlo vhi:Option Value}
  (hlo:IntV lo vlo) (hhi:IntV hi vhi):
  ∃rv fz',(Instr.sliceAt t cv vlo vhi none).run E.P w=.ok rv w∧Coed σ h w u fz'∧RepA ⟨σ.val,fz',σ.bs⟩ (H.apply h u) w v rv∧ks=[]:=by
 unfold evSliceB at e
 split at e
 ·rename_i s
  obtain ⟨hb,e⟩:=cond_some e
  simp only [slB,Bool.and_eq_true,decide_eq_true_eq] at hb
  obtain ⟨hd,⟨h1,h2⟩,h3⟩:=hb
  cases e
  obtain rfl:=repT_str r
  have ht:E.P.underlying t=some .string:=by
   unfold isStrT at hd
   split at hd
   ·assumption
   ·cases hd
  refine ⟨.string (s.extract (lo.getD 0).toNat (hi.getD (s.size:Int)).toNat),σ.fz,?_,Coed.refl inv,mk_str _,rfl⟩
  rw [run_sliceAt_string w t _ _ _ _ ht]
  cases lo with
  |none=>
   obtain rfl:=hlo
   cases hi with
   |none=>
    obtain rfl:=hhi
    rw [run_slice_string_all w t s ht];simp
   |some h=>
    obtain ⟨kh,rfl⟩:=hhi
    simp only [Option.getD_some,Option.getD_none] at h1 h2 h3⊢
    rw [run_slice_string_h w t s ht kh h h2 h3];simp
  |some l=>
   obtain ⟨kl,rfl⟩:=hlo
   cases hi with
   |none=>
    obtain rfl:=hhi
    simp only [Option.getD_some,Option.getD_none] at h1 h2 h3⊢
    rw [run_slice_string_l w t s ht kl l h1 h2];simp
   |some h=>
    obtain ⟨kh,rfl⟩:=hhi
    simp only [Option.getD_some] at h1 h2 h3⊢
    simp [Instr.slice,run_underlying ht,Instr.sliceBounds,run_sliceBound,sliced,h1,h2,h3,(by omega:0≤h),Int.toNat_of_nonneg (by omega:0≤h)]
 ·split at e
  ·rename_i k hk
   obtain ⟨hf,e⟩:=cond_some e
   obtain ⟨el,i,z,ht,hi',hsz,hpos,-⟩:=elFits_some hf
   split at e
   ·rename_i xs u' hc
    obtain ⟨hb,e⟩:=cond_some e
    simp only [slB,Bool.and_eq_true,decide_eq_true_eq] at hb
    obtain ⟨⟨h1,h2⟩,h3⟩:=hb
    cases e
    obtain ⟨fz',co,rt⟩:=coeRow_sound hc hs inv r
    have rp:RepP fz' w (.sl (List.map (enc k) xs)) cv:=rt.1
    have hh2:(hi.getD (List.length xs:Int)).toNat≤List.length xs:=by omega
    obtain ⟨a,cap,rfl,hle,hrep⟩:=sliced_rep hpos rp (l:=(lo.getD 0).toNat) (h:=(hi.getD (List.length xs:Int)).toNat) (by omega) hh2
    refine ⟨_,fz',run_bnds ht hi' a _ cap hle w hlo hhi h1 h2 h3,co,?_,rfl⟩
    rw [hsz]
    exact ⟨hrep,trivial⟩
   ·cases e
  ·cases e
theorem intO_some {a:AV} {n:Int} {cv:Value} {σ:Sg} {w:World} (e:intO a=some n) (r:RepA σ h w a cv):∃k,cv=.int k n:=by
 unfold intO at e
 split at e
 ·rename_i k n'
  obtain rfl:=Option.some.inj e
  exact ⟨k,repT_int r⟩
 ·cases e
theorem post_coed {σ:Sg} {w:World} {u:Upd} {fz':Nat→Prop} {cv:Value} (co:Coed σ h w u fz') (r:RepA ⟨σ.val,fz',σ.bs⟩ (H.apply h u) w v cv):Post σ h w site v u [] ⟨σ.val,fz',σ.bs⟩ w cv:=
 ⟨co.ext,co.inv,r,fun a c _ r=>co.keep a c r⟩
theorem build_inv {R:Type} {t:TypeId} {is:List Nat} {κ:Kv R} {r:R} (e:evBuild E t is vs κ=some r):∃v0,evBuild E t is vs pk=some (v0,[],[])∧κ v0 [] []=some r:=by
 unfold evBuild at e⊢
 obtain ⟨hp,e⟩:=cond_some e
 rw [hp]
 simp only [cond_true]
 split at e
 ·rename_i z hz
  try rw [hz]
  try dsimp only
  split at e
  ·rename_i cs hcs
   try rw [hcs]
   try dsimp only
   split at e
   ·rename_i k hk
    try rw [hk]
    try dsimp only
    cases hb:(emptyB is&&memT k)
    ·rw [hb] at e
     simp only [cond_false] at e⊢
     unfold pure1 at e⊢
     split at e
     ·rename_i v hv;exact ⟨_,rfl,e⟩
     ·cases e
    ·rw [hb] at e
     exact ⟨_,rfl,e⟩
   ·rename_i hk
    try rw [hk]
    exact ⟨_,rfl,e⟩
  ·cases e
 ·cases e
theorem sim_buildA {t:TypeId} {ps:Array (Nat×Operand)} {p:Nat×TypeId} (ho:o.op=.build t ps) (hp:arrOf E.P t=some p) (e:evBuildA E t p.2 (ps.toList.map (·.1)) vs pk=some (v,u,ks)):Sim E.P o site vs h v u ks:=by
 unfold evBuildA at e
 replace e:=cond_some e
 obtain ⟨hb,e⟩:=e
 rw [Bool.and_eq_true] at hb
 obtain ⟨inf,hinf,hsz,-⟩:=boolT_some hb.2
 have hu:=arrOf_some (n:=p.1) (e:=p.2) hp
 have hps:ps=#[]:=by
  have h1:=hb.1
  unfold emptyB at h1
  split at h1
  ·rename_i h2
   have h3:ps.toList=[]:=by simpa using h2
   rw [←Array.toArray_toList (xs:=ps),h3]
  ·cases h1
 subst hps
 obtain ⟨rfl,e1⟩:=on0_some e
 clear e
 split at e1
 ·rename_i z hz
  cases e1
  obtain ⟨i,z,hi,hzz,-,rfl⟩:=zeroAVs_some hz
  refine sim_pure fun σ w a inv r=>?_
  refine ⟨.agg z.cells,?_,z.cells,rfl,valAVs_rep _⟩
  simp only [execOp,ho]
  simp [Instr.build,zeroValue,typeInfo,hi,hzz,run_underlying hu,sizeOf,hinf,Instr.fill]
 ·cases e1
theorem sim_buildZ {t:TypeId} {ps:Array (Nat×Operand)} (hs:Shows vw h) (ho:o.op=.build t ps) (e:evBuild E t (ps.toList.map (·.1)) vs (coeK E t vw pk)=some (v,u,ks)):Sim E.P o site vs h v u ks:=by
 obtain ⟨v0,e0,e1⟩:=build_inv e
 have s0:=sim_build (site:=site) (h:=h) ho e0
 unfold coeK at e1
 cases hz:E.zd
 ·rw [hz] at e1
  simp only [cond_false] at e1
  cases e1
  exact s0
 ·rw [hz] at e1
  simp only [cond_true] at e1
  split at e1
  ·split at e1
   ·rename_i k hk d hc
    cases e1
    intro hsite σ w a inv reps next Q hn
    refine s0 (fun ⟨x,hx⟩=>by cases hx) σ w a inv reps next Q fun σ' w' cv p=>?_
    have hk0:(killH [] h).apply []=h:=rfl
    obtain ⟨p1,p2,p3,p4⟩:=p
    rw [hk0] at p1 p2 p3 p4
    obtain ⟨fz',co,rr⟩:=coe_sound (x:=d.1) (u:=d.2) hc hs p2 p3
    refine hn ⟨σ'.val,fz',σ'.bs⟩ w' cv ⟨p1.trans co.ext,co.inv,rr,fun a c _ r=>co.keep a c (p4 a c (fun o _=>⟨fun h=>(by cases h),fun _ x h=>(by cases h)⟩) r)⟩
   ·cases e1;exact s0
  ·cases e1;exact s0
theorem sim_slice {t:TypeId} {x:Operand} {lo hi:Option Operand} (hs:Shows vw h) (ho:o.op=.slice t x lo hi none) (e:evSlice E t lo.isSome hi.isSome vw vs pk=some (v,u,ks)):Sim E.P o site vs h v u ks:=by
 intro hsite σ w a inv r next Q hn
 simp only [ho] at r
 have fin:∀{p:AV} {lo' hi':Option Int},evSliceB E t vw p lo' hi' pk=some (v,u,ks)→RepA σ h w p (a.eval x)→IntV lo' (lo.map a.eval)→IntV hi' (hi.map a.eval)→o.wp E.P a w next Q:=by
  intro p lo' hi' e r0 hlo hhi
  obtain ⟨rv,fz',hrun,co,rr,rfl⟩:=sim_sliceB (x:=p) hs e inv r0 hlo hhi
  refine wp_value (v:=rv) (w':=w) ?_ (hn _ _ _ (post_coed co rr))
  simp [execOp,ho,hrun]
 unfold evSlice at e
 cases lo with
 |none=>
  cases hi with
  |none=>
   simp only [Option.isSome] at e
   obtain ⟨p,hvs,e1⟩:=on1_some e;subst hvs;clear e
   simp only [Op.operands] at r
   exact fin e1 r.1 rfl rfl
  |some hh=>
   simp only [Option.isSome] at e
   obtain ⟨p,q,hvs,e1⟩:=on2_some e;subst hvs;clear e
   split at e1
   ·rename_i n hn'
    simp only [Op.operands] at r
    obtain ⟨k,hk⟩:=intO_some hn' r.2.1
    exact fin e1 r.1 rfl ⟨k,congrArg some hk⟩
   ·cases e1
 |some l=>
  cases hi with
  |none=>
   simp only [Option.isSome] at e
   obtain ⟨p,q,hvs,e1⟩:=on2_some e;subst hvs;clear e
   split at e1
   ·rename_i n hn'
    simp only [Op.operands] at r
    obtain ⟨k,hk⟩:=intO_some hn' r.2.1
    exact fin e1 r.1 ⟨k,congrArg some hk⟩ rfl
   ·cases e1
  |some hh=>
   simp only [Option.isSome] at e
   obtain ⟨p,q,q',hvs,e1⟩:=on3_some e;subst hvs;clear e
   split at e1
   ·rename_i n hn'
    split at e1
    ·rename_i m hm'
     simp only [Op.operands] at r
     obtain ⟨k,hk⟩:=intO_some hn' r.2.1
     obtain ⟨k',hk'⟩:=intO_some hm' r.2.2.1
     exact fin e1 r.1 ⟨k,congrArg some hk⟩ ⟨k',congrArg some hk'⟩
    ·cases e1
   ·cases e1
theorem lastU_none {s:Nat}:∀{u:Upd} {h:H},lastU s u=none→H.get s (H.apply h u)=H.get s h
 |[],_,_=>rfl
 |(o,x)::r,h,e=>by
  unfold lastU at e
  split at e
  ·cases e
  ·rename_i hr
   have hne:s≠o:=fun e'=>by subst e';rw [Nat.beq_refl] at e;cases e
   cases x with
   |none=>exact (lastU_none hr).trans (H.get_del_ne hne h)
   |some x=>exact (lastU_none hr).trans (H.get_put_ne _ hne h)
theorem lastU_some {s:Nat} {x:Obj}:∀{u:Upd} {h:H},lastU s u=some (some x)→H.get s (H.apply h u)=some x
 |[],_,e=>by cases e
 |(o,y)::r,h,e=>by
  unfold lastU at e
  split at e
  ·rename_i z hr
   obtain rfl:=Option.some.inj e
   cases y with
   |none=>exact lastU_some (h:=H.del o h) hr
   |some y=>exact lastU_some (h:=H.put o y h) hr
  ·rename_i hr
   cases ho:Nat.beq o s
   ·rw [ho] at e;cases e
   ·rw [ho] at e
    obtain rfl:=nbeq_eq.1 ho
    have e:=Option.some.inj e
    dsimp only at e
    subst e
    exact (lastU_none (h:=H.put o x h) hr).trans (H.get_put_same o _ h)
theorem sim_cold {v0:AV} {u0:Upd} {ks0:List Nat} (s0:Sim E.P o site vs h v0 u0 ks0) (e:coldK E site pk v0 u0 ks0=some (v,u,ks)):Sim E.P o site vs h v u ks:=by
 unfold coldK at e
 cases hc:E.cold site
 ·rw [hc,cond_false] at e;cases e;exact s0
 ·rw [hc,cond_true] at e
  split at e
  ·split at e
   ·rename_i o'
    cases ho:Nat.beq o' site
    ·rw [ho,cond_false] at e;cases e
    ·rw [ho,cond_true] at e
     obtain rfl:=nbeq_eq.1 ho
     split at e
     ·rename_i el k xs hl
      cases e
      intro hsite σ w a inv reps next Q hn
      refine s0 (fun ⟨x,hx⟩=>hsite ⟨x,List.mem_append_left _ hx⟩) σ w a inv reps next Q fun σ' w' cv p=>?_
      obtain ⟨p1,p2,p3,p4⟩:=p
      have hk0:∀u,(killH [] h).apply u=H.apply h u:=fun _=>rfl
      rw [hk0] at p1 p2 p3 p4
      have hg:=lastU_some (h:=h) hl
      have hco:coe (.sl k) (fun i=>H.get i (H.apply h u0)) (.row o')=some (xs,[(o',some (.ice k xs))]):=by
       simp only [coe,coeRow,hg]
       rfl
      obtain ⟨fz',co,rr⟩:=coe_sound (t:=.sl k) (x:=(xs:Ty.den (.sl k))) (u:=[(o',some (.ice k xs))]) hco (fun _ _ e=>e) p2 p3
      have happ:H.apply h (u0++[(o',some (.ice k xs))])=H.apply (H.apply h u0) [(o',some (.ice k xs))]:=apply_append _ _ _
      refine hn ⟨σ'.val,fz',σ'.bs⟩ w' cv ⟨?_,?_,?_,fun a c ha r=>?_⟩
      ·rw [hk0,happ];exact p1.trans co.ext
      ·rw [hk0,happ];exact co.inv
      ·rw [hk0,happ];exact rr
      ·rw [hk0,happ]
       exact co.keep a c (p4 a c (fun i hi=>⟨fun h=>(by cases h),fun e x hx=>(ha i hi).2 e x (List.mem_append_left _ hx)⟩) r)
     ·cases e
   ·cases e
  ·cases e
theorem bind_pk {z:Option (AV×Upd×List Nat)} {κ:Kv (AV×Upd×List Nat)} {x:Option (AV×Upd×List Nat)} {r:AV×Upd×List Nat} (h:x=z.bind (un κ)) (e:x=some r):∃p,z=some p∧κ p.1 p.2.1 p.2.2=some r:=by
 rw [h] at e
 cases z with
 |none=>cases e
 |some p=>exact ⟨p,rfl,e⟩
theorem evVal_sim (hΦ:SoundΦ E) (hs:Shows vw h) (e:evVal E o site vs vw pk=some (v,u,ks)):Sim E.P o site vs h v u ks:=by
 unfold evVal at e
 split at e
 ·rename_i ho
  obtain ⟨x,rfl,e⟩:=on1_some e
  cases e
  exact sim_move (.inl ho)
 ·rename_i ho
  obtain ⟨x,rfl,e⟩:=on1_some e
  cases e
  exact sim_move (.inr ho)
 ·rename_i ho
  obtain ⟨x,y,z,rfl,e⟩:=on3_some e
  exact sim_pick ho e
 ·rename_i ho
  obtain ⟨x,rfl,e⟩:=on1_some e
  exact sim_nilCheck ho hs e
 ·rename_i ho
  obtain ⟨x,rfl,e⟩:=on1_some e
  exact sim_box ho e
 ·rename_i ho
  obtain ⟨rfl,e⟩:=on0_some e
  split at e
  ·rename_i hz
   cases e
   exact sim_alloc ho hz
  ·cases e
 ·rename_i ho
  obtain ⟨x,y,rfl,e⟩:=on2_some e
  exact sim_bin ho e
 ·rename_i ho
  obtain ⟨x,rfl,e⟩:=on1_some e
  exact sim_un ho e
 ·rename_i ho
  obtain ⟨x,rfl,e⟩:=on1_some e
  rename_i src dst _ _
  cases hd:isStrT E.P dst
  ·rw [hd] at e
   exact sim_conv ho e
  ·rw [hd] at e
   exact sim_convB hs ho hd e
 ·rename_i ho
  obtain ⟨x,rfl,e⟩:=on1_some e
  exact sim_fieldAddr hs ho e
 ·rename_i ho
  obtain ⟨x,rfl,e⟩:=on1_some e
  exact sim_field ho e
 ·rename_i ho
  obtain ⟨x,rfl,e⟩:=on1_some e
  exact sim_load hs ho (fun ob i off m k xs _ hg e=>sim_loadD hs ho hg e) e
 ·rename_i ho
  obtain ⟨x,y,rfl,e⟩:=on2_some e
  exact sim_indexAddr hs ho e
 ·rename_i ho
  obtain ⟨x,y,rfl,e⟩:=on2_some e
  exact sim_index ho e
 ·rename_i ho
  obtain ⟨x,y,rfl,e⟩:=on2_some e
  exact sim_store hs ho e
 ·rename_i ho
  split at e
  ·rename_i p hp
   exact sim_buildA ho hp e
  ·exact sim_buildZ hs ho e
 ·rename_i ho
  obtain ⟨⟨v0,u0,ks0⟩,e0,e1⟩:=bind_pk (evBuildSlice_bind E (coldK E site pk) _ _ _ _ _ _) e
  exact sim_cold (sim_buildSlice hs ho (fun m k _ hm hf hn hn1 hr e=>sim_buildSliceD hs ho hm hf hn hn1 hr e) e0) e1
 ·rename_i ho
  obtain ⟨x,y,rfl,e⟩:=on2_some e
  exact sim_make ho (fun m k n hm hf hlc hn hp=>by subst hlc;subst hp;exact sim_makeD ho hm hf hn) e
 ·rename_i ho
  obtain ⟨x,rfl,e⟩:=on1_some e
  exact sim_extract ho e
 ·rename_i fn first caps ho
  split at e
  ·rename_i f
   split at e
   ·rename_i hf
    obtain rfl:first=#[]:=by rw [←Array.toArray_toList (xs:=first),hf]
    cases e
    exact sim_makeFunc ho
   ·cases e
  ·cases e
 ·rename_i ho
  split at e
  ·exact sim_slice hs ho e
  ·cases e
 ·rename_i ho
  exact sim_makeMap ho e
 ·rename_i ho
  obtain ⟨x,y,rfl,e⟩:=on2_some e
  exact sim_lookup hs ho e
 ·rename_i ho
  obtain ⟨x,y,z,rfl,e⟩:=on3_some e
  exact sim_mapPut hs (.inl ho) e
 ·rename_i ho
  obtain ⟨x,y,z,rfl,e⟩:=on3_some e
  exact sim_mapPut hs (.inr ho) e
 ·rename_i c ho
  split at e
  ·rename_i hc
   obtain ⟨⟨v0,u0,ks0⟩,e0,e1⟩:=bind_pk (evBuiltin_bind E (coldK E site pk) _ _ _ _ _) e
   exact sim_cold (sim_builtin hs ho hc e0) e1
  ·rename_i hc
   split at e
   ·exact sim_call hΦ hs ho hc e
   ·cases e
  ·cases e
 ·cases e
end
end Go.Proofs.YtfdcjocallblcaaGreatDoor.Ev
