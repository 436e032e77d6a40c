/- Code and functions stand for the machine's. Conditions: what functions tell (Φ) is sound; the program's regions that draw are carried out in any order; no function bears a reserved name. -/
import Derived.Test.YthidlhjjnaldhaaGreatDoorEvR
import Derived.LoopN
namespace Go.Proofs.YthidlhjjnaldhaaGreatDoor.Ev
open Go
def Less (h' h:H):Prop:=NoD h'∧∀o,H.get o h'=none∨H.get o h'=H.get o h
section
variable {σ : Sg} {h h' : H} {w : World}
theorem Less.live (l:Less h' h) {o:Nat} (v:Live h' o):Live h o:=by
 unfold Live at*
 rcases l.2 o with e|e
 ·exact absurd e v
 ·rw [←e];exact v
theorem Less.own (l:Less h' h) {o:Nat} (v:Own h' o):Own h o:=by
 rcases l.2 o with e|e
 ·obtain ⟨x,g,-⟩:=v
  rw [e] at g;cases g
 ·exact (own_eq e).1 v
theorem Less.same (l:Less h' h) (o:Nat):SameO σ σ h h' o:=by
 rcases l.2 o with e|e
 ·exact .inl e
 ·exact sameO_eq e rfl
theorem Less.rep (l:Less h' h) {a:AV} {c:Value} (r:RepA σ h w a c):RepA σ h' w a c:=
 RepA.mono (fun _ h=>h) (fun _ _=>rfl) a c (fun o _=>l.same o) r
theorem Less.reps (l:Less h' h) {a:List AV} {c:List Value} (r:RepAs σ h w a c):RepAs σ h' w a c:=
 RepAs.mono (fun _ h=>h) (fun _ _=>rfl) a c (fun o _=>l.same o) r
theorem Less.inv (l:Less h' h) (inv:Inv σ h w):Inv σ h' w where
 objs o x g:=by
  have e:H.get o h'=H.get o h:=(l.2 o).resolve_left (by rw [g];simp)
  have h1:=inv.objs o x (by rw [←e];exact g)
  cases x with
  |box cs=>
   obtain ⟨b,vs,ty,h2,h3,h4⟩:=h1
   exact ⟨b,vs,ty,h2,h3,l.reps h4⟩
  |row el t xs=>exact h1
  |map _ _ _=>exact h1
  |cel _ _=>exact h1
  |ice t xs=>exact h1
  |deep m t xs q=>exact deep_mono h1 rfl rfl (fun _ _=>rfl) fun i off v c _ r=>l.rep r
 nofz o v:=inv.nofz o (l.own v)
 inj o o' v v':=inv.inj o o' (l.own v) (l.own v')
 fzlt:=inv.fzlt
 nodup:=l.1
 bsok o x g:=inv.bsok o x (by rw [←(l.2 o).resolve_left (by rw [g];simp)];exact g)
 bslt o v:=inv.bslt o (l.own v)
theorem Less.ext (l:Less h' h):Ext σ h w σ h' w:=
 ⟨rfl,rfl,rfl,Nat.le_refl _,fun _ h=>h,fun _ _ _=>rfl,fun _ h=>.inl h,fun o b v e=>.inl ⟨o,l.own v,e⟩⟩
end
theorem below_keys (dep:Nat):∀(h:H),∀i∈(below dep h).map (·.1),i∈h.map (·.1)∧i<dep
 |[],i,hi=>by simp [below] at hi
 |(j,x)::r,i,hi=>by
  simp only [below] at hi
  cases e:Nat.blt j dep
  ·rw [e,cond_false] at hi
   have:=below_keys dep r i hi
   exact ⟨by simp only [List.map_cons,List.mem_cons];exact .inr this.1,this.2⟩
  ·rw [e,cond_true] at hi
   simp only [List.map_cons,List.mem_cons] at hi⊢
   rcases hi with rfl|hi
   ·exact ⟨.inl rfl,Nat.le_of_ble_eq_true e⟩
   ·have:=below_keys dep r i hi
    exact ⟨.inr this.1,this.2⟩
theorem below_nod (dep:Nat):∀{h:H},NoD h→NoD (below dep h)
 |[],n=>n
 |(j,x)::r,n=>by
  simp only [NoD,List.map_cons,List.nodup_cons] at n
  simp only [below]
  cases e:Nat.blt j dep
  ·exact below_nod dep n.2
  ·simp only [NoD,cond_true,List.map_cons,List.nodup_cons]
   exact ⟨fun hm=>n.1 (below_keys dep r j hm).1,below_nod dep n.2⟩
theorem below_get (dep o:Nat):∀h:H,H.get o (below dep h)=if o<dep then H.get o h else none
 |[]=>by simp [below,H.get]
 |(j,x)::r=>by
  simp only [below]
  cases e:Nat.blt j dep
  ·have hj:¬j<dep:=fun hlt=>by
    have:Nat.blt j dep=true:=Nat.ble_eq_true_of_le hlt
    rw [this] at e;cases e
   simp only [cond_false,H.get,below_get dep o r]
   by_cases ho:o<dep
   ·rw [if_pos ho,if_pos ho,nbeq_ne.2 (by omega)];rfl
   ·rw [if_neg ho,if_neg ho]
  ·have hj:j<dep:=Nat.le_of_ble_eq_true e
   simp only [cond_true,H.get,below_get dep o r]
   cases e2:Nat.beq j o
   ·rfl
   ·obtain rfl:=nbeq_eq.1 e2
    simp [hj]
theorem keepO_get (dep:Nat) (h:H) (o:Nat):∀l:List Nat,H.get o (keepO dep h l)=none∨(dep≤o∧H.get o (keepO dep h l)=H.get o h)
 |[]=>.inl rfl
 |i::r=>by
  simp only [keepO]
  split
  ·rename_i x hx
   simp only [H.get]
   cases e:Nat.beq (dep+i) o
   ·exact keepO_get dep h o r
   ·obtain rfl:=nbeq_eq.1 e
    exact .inr ⟨by omega,hx.symm⟩
  ·exact keepO_get dep h o r
theorem keepO_keys (dep:Nat) (h:H):∀(l:List Nat),∀i∈(keepO dep h l).map (·.1),∃o∈l,i=dep+o
 |[],i,hi=>by simp [keepO] at hi
 |o::r,i,hi=>by
  simp only [keepO] at hi
  split at hi
  ·simp only [List.map_cons,List.mem_cons] at hi
   rcases hi with rfl|hi
   ·exact ⟨o,by simp,rfl⟩
   ·obtain ⟨o',h1,h2⟩:=keepO_keys dep h r i hi
    exact ⟨o',by simp [h1],h2⟩
  ·obtain ⟨o',h1,h2⟩:=keepO_keys dep h r i hi
   exact ⟨o',by simp [h1],h2⟩
theorem keepO_nod (dep:Nat) (h:H):∀{l:List Nat},nodupN l=true→NoD (keepO dep h l)
 |[],_=>List.nodup_nil
 |o::r,n=>by
  simp only [nodupN,Bool.and_eq_true,Bool.not_eq_true',memN_false] at n
  simp only [keepO]
  split
  ·simp only [NoD,List.map_cons,List.nodup_cons]
   refine ⟨fun hm=>?_,keepO_nod dep h n.2⟩
   obtain ⟨o',h1,h2⟩:=keepO_keys dep h r _ hm
   have:o=o':=by omega
   exact n.1 (this▸h1)
  ·exact keepO_nod dep h n.2
theorem get_append (o:Nat):∀(a b:H),H.get o (a++b)=(H.get o a).or (H.get o b)
 |[],b=>by simp [H.get]
 |(i,x)::a,b=>by
  simp only [List.cons_append,H.get]
  cases Nat.beq i o
  ·exact get_append o a b
  ·rfl
theorem below_less (dep:Nat) {h:H} (n:NoD h):Less (below dep h) h:=
 ⟨below_nod dep n,fun o=>by rw [below_get];by_cases ho:o<dep<;>simp [ho]⟩
theorem keepH_less (dep:Nat) (l:List Nat) {h:H} (n:NoD h):Less (keepH dep l h) h:=by
 unfold keepH
 cases hl:nodupN l
 ·exact below_less dep n
 ·rw [cond_true]
  constructor
  ·unfold NoD
   rw [List.map_append,List.nodup_append]
   refine ⟨below_nod dep n,keepO_nod dep h hl,fun a ha b hb=>?_⟩
   have h1:=(below_keys dep h a ha).2
   obtain ⟨o,-,h2⟩:=keepO_keys dep h l b hb
   omega
  ·intro o
   rw [get_append,below_get]
   rcases keepO_get dep h o l with e|⟨h1,e⟩
   ·rw [e];by_cases ho:o<dep<;>simp [ho]
   ·rw [e,if_neg (by omega)]
    exact .inr rfl
theorem retH_less (dep:Nat) (v:AV) {h:H} (n:NoD h):Less (retH dep v h) h:=by
 unfold retH
 cases v.ids.any (fun o=>Nat.ble dep o)
 ·exact below_less dep n
 ·exact ⟨n,fun o=>.inr rfl⟩
theorem keepT_rep {σ:Sg} {h:H} {w:World} {nt:Nat} {t:T} {vs:List Value} (l:List Nat) (hl:nt≤t.length) (r:RepAs σ h w t vs):RepAs σ h w (keepT nt l t) vs:=by
 have hlen:(keepT nt l t).length=t.length:=by simp [keepT];omega
 refine RepAs.mk (hlen.trans r.len) fun i p v hp hv=>?_
 unfold keepT at hp
 by_cases hi:i<nt
 ·rw [List.getElem?_append_left (by simp [hi])] at hp
  simp only [List.getElem?_map,List.getElem?_range hi,Option.map_some] at hp
  obtain rfl:=Option.some.inj hp
  cases l.any (Nat.beq i)
  ·trivial
  ·rw [cond_true]
   have hit:i<t.length:=by omega
   refine r.at i _ v ?_ hv
   unfold T.at
   rw [List.getD_eq_getElem?_getD,List.getElem?_eq_getElem hit];rfl
 ·rw [List.getElem?_append_right (by simp;omega)] at hp
  simp only [List.length_map,List.length_range,List.getElem?_drop] at hp
  have:nt+(i-nt)=i:=by omega
  rw [this] at hp
  exact r.at i p v hp hv
structure OkP (P:Program):Prop where
 mix:P.follows .mixedOrders=true
 names : ∀ (f : Nat) (fn : Func), P.funcs[f]? = some fn → (fn.name == "runtime.NumGoroutine") = false
def namesB (P : Program) : Bool := P.funcs.toList.all fun fn => !(fn.name == "runtime.NumGoroutine")
theorem OkP.mk' {P:Program} (h1:P.follows .mixedOrders=true) (h2:namesB P=true):OkP P:=by
 refine ⟨h1,fun f fn hf=>?_⟩
 have:=List.all_eq_true.1 h2 fn (Array.mem_toList_iff.2 (Array.mem_of_getElem? hf))
 simpa using this
def exitOf:Ex→Exit
 |.normal=>.normal
 |.exit i=>.exit i
 |.ret=>.ret
section
variable {R : Type} {E : Env} {callI : CallI R} {dep nt f : Nat} {out : List Value}
def CodeOk (P:Program) (c:Code) (nt:Nat) (out:List Value) (body:Body R):Prop:=
 ∀(t:T) (h:H) (κ:Ex→T→H→Option R) (r:R) (σ:Sg) (w:World) (a:Act),body t h κ=some r→Inv σ h w→Rel σ h w nt t out a→
  ∀Q:Exit→Act→World→Prop,(∀e σ' t' h' w' a',κ e t' h'=some r→Ext σ h w σ' h' w'→Inv σ' h' w'→Rel σ' h' w' nt t' out a'→Q (exitOf e) a' w')→c.wp P Q a w
theorem loop_sound {P:Program} {c:Code} {body:Body R} (hb:CodeOk P c nt out body) {bk:T→H→T×H}
  (hbk:∀σ h w t a,Inv σ h w→Rel σ h w nt t out a→∃σ',Ext σ h w σ' (bk t h).2 w∧Inv σ' (bk t h).2 w∧Rel σ' (bk t h).2 w nt (bk t h).1 out a) {κ:Ex→T→H→Option R} {r:R}:
  ∀(n:Nat) (t:T) (h:H) (σ:Sg) (w:World) (a:Act),evLoop body bk κ n t h=some r→Inv σ h w→Rel σ h w nt t out a→
  ∀Q:Exit→Act→World→Prop,(∀e σ' t' h' w' a',e≠.normal→κ e t' h'=some r→Ext σ h w σ' h' w'→Inv σ' h' w'→Rel σ' h' w' nt t' out a'→Q (exitOf e) a' w')→Code.rounds P c Q n a w:=by
 intro n
 induction n with
 |zero=>intro t h σ w a e;cases e
 |succ n ih=>
  intro t h σ w a e inv rel Q hQ
  rw [rounds_succ]
  refine hb t h _ r σ w a e inv rel _ ?_
  intro e' σ' t' h' w' a' hk hext hinv hrel
  cases e' with
  |normal=>
   obtain ⟨σ1,n1,n2,n3⟩:=hbk σ' h' w' t' a' hinv hrel
   refine ih _ _ σ1 w' a' hk n2 n3 Q ?_
   intro e'' σ'' t'' h'' w'' a'' hne hk' hext' hinv' hrel'
   exact hQ e'' σ'' t'' h'' w'' a'' hne hk' (hext.trans (n1.trans hext')) hinv' hrel'
  |exit i=>exact hQ (.exit i) σ' t' h' w' a' (by simp) hk hext hinv hrel
  |ret=>exact hQ .ret σ' t' h' w' a' (by simp) hk hext hinv hrel
theorem block_post {P:Program} {id:Nat} {c:Code} {κ:Ex→T→H→Option R} {r:R} {Q:Exit→Act→World→Prop} {p:Prop} {e:Ex} {t:T} {h:H}
  (hk:blockK id κ e t h=some r) {a:Act} {w:World} (hn:κ .normal t h=some r→Q .normal a w) (hq:∀e',e'=e→κ e' t h=some r→Q (exitOf e') a w):Exit.inBlock id Q (exitOf e) a w:=by
 cases e with
 |normal=>exact hq .normal rfl hk
 |ret=>exact hq .ret rfl hk
 |exit i=>
  simp only [exitOf,Exit.inBlock]
  change (bif Nat.beq i id then κ .normal t h else κ (.exit i) t h)=some r at hk
  by_cases hi:i=id
  ·subst hi
   rw [Nat.beq_refl,cond_true] at hk
   rw [if_pos rfl];exact hn hk
  ·rw [nbeq_ne.2 hi,cond_false] at hk
   rw [if_neg hi];exact hq (.exit i) rfl hk
theorem out_post {dep:Nat} {lt lh:List Nat} {κ:Ex→T→H→Option R} {r:R} {e:Ex} {t:T} {h:H} {σ:Sg} {w:World} {a:Act} (hk:outK (keepT nt lt) (keepH dep lh) κ e t h=some r) (inv:Inv σ h w) (rel:Rel σ h w nt t out a):
  ∃t' h',κ e t' h'=some r∧Ext σ h w σ h' w∧Inv σ h' w∧Rel σ h' w nt t' out a:=by
 have hless:=keepH_less dep lh inv.nodup
 exact ⟨_,_,hk,hless.ext,hless.inv inv,keepT_rep _ (rel_len rel) (hless.reps rel.slots),rel.size,rel.defers⟩
theorem back_sound {dep:Nat} (lt lo hl:List Nat) (rl:List (Nat×Nat)) {t:T} {h:H} {σ:Sg} {w:World} {a:Act} (inv:Inv σ h w) (rel:Rel σ h w nt t out a):
  ∃σ',Ext σ h w σ' (backK dep nt lt lo hl rl t h).2 w∧Inv σ' (backK dep nt lt lo hl rl t h).2 w∧Rel σ' (backK dep nt lt lo hl rl t h).2 w nt (backK dep nt lt lo hl rl t h).1 out a:=by
 obtain ⟨σ1,hnx⟩:=healL_next dep hl inv
 have rel1:RepAs σ1 (healL dep h hl) w (keepT nt lt t) _:=keepT_rep lt (rel_len rel) (hnx.reps rel.slots)
 have hlen:(keepT nt lt t).length=t.length:=by have:=rel_len rel;simp [keepT];omega
 cases rl with
 |nil=>
  have hk:=keepH_less dep lo hnx.inv.nodup
  exact ⟨σ1,hnx.ext.trans hk.ext,hk.inv hnx.inv,hk.reps rel1,rel.size,rel.defers⟩
 |cons p r=>
  have hk:=keepH_less dep (lo++(p::r).map (·.2)) hnx.inv.nodup
  obtain ⟨σ2,q1,q2,q3⟩:=renAll_next dep (p::r) (hk.inv hnx.inv) (hk.reps rel1)
  have hk2:=keepH_less dep lo q2.nodup
  exact ⟨σ2,(hnx.ext.trans hk.ext).trans (q1.trans hk2.ext),hk2.inv q2,hk2.reps q3,rel.size,rel.defers⟩
theorem code_sound (hΦ:SoundΦ E) (hP:OkP E.P) (hI:CallISound E.P callI):∀c:Code,codeOk nt c=true→CodeOk E.P c nt out (fun t h κ=>evC E callI dep f nt c t h κ)
 |.skip,_=>fun t h κ r σ w a e inv rel Q hQ=>wp_skip (hQ .normal σ t h w a e (Ext.refl _ _ _) inv rel)
 |.ret,_=>fun t h κ r σ w a e inv rel Q hQ=>wp_ret (hQ .ret σ t h w a e (Ext.refl _ _ _) inv rel)
 |.exit id,_=>fun t h κ r σ w a e inv rel Q hQ=>wp_exit (hQ (.exit id) σ t h w a e (Ext.refl _ _ _) inv rel)
 |.seq x y,hok=>fun t h κ r σ w a e inv rel Q hQ=>by
  simp only [codeOk,Bool.and_eq_true] at hok
  refine wp_seq (code_sound hΦ hP hI x hok.1 t h _ r σ w a e inv rel _ ?_)
  intro e' σ' t' h' w' a' hk hext hinv hrel
  cases e' with
  |normal=>
   refine code_sound hΦ hP hI y hok.2 t' h' _ r σ' w' a' hk hinv hrel _ ?_
   intro e'' σ'' t'' h'' w'' a'' hk' hext' hinv' hrel'
   exact hQ e'' σ'' t'' h'' w'' a'' hk' (hext.trans hext') hinv' hrel'
  |exit i=>exact hQ (.exit i) σ' t' h' w' a' hk hext hinv hrel
  |ret=>exact hQ .ret σ' t' h' w' a' hk hext hinv hrel
 |.cond c x y,hok=>fun t h κ r σ w a e inv rel Q hQ=>by
  simp only [codeOk,Bool.and_eq_true] at hok
  simp only [evC] at e
  have hc:=opd_rep rel hok.1.1
  split at e
  ·rename_i b hb
   rw [hb] at hc
   have hc:=repT_bool hc
   refine wp_cond hc ?_
   cases b
   ·exact code_sound hΦ hP hI y hok.2 t h κ r σ w a e inv rel Q hQ
   ·exact code_sound hΦ hP hI x hok.1.2 t h κ r σ w a e inv rel Q hQ
  ·cases e
 |.block id c,hok=>fun t h κ r σ w a e inv rel Q hQ=>by
  have plain:codeOk nt c=true→evC E callI dep f nt c t h (blockK id κ)=some r→(Code.block id c).wp E.P Q a w:=by
   intro hok e
   refine wp_block (code_sound hΦ hP hI c hok t h _ r σ w a e inv rel _ ?_)
   intro e' σ' t' h' w' a' hk hext hinv hrel
   exact block_post (P:=E.P) (c:=c) (p:=True) hk (fun hk=>hQ .normal σ' t' h' w' a' hk hext hinv hrel) (fun e'' _ hk=>hQ e'' σ' t' h' w' a' hk hext hinv hrel)
  cases c with
  |loop b=>
   simp only [codeOk] at hok
   simp only [evC] at e
   obtain ⟨σ0,p1,p2,p3⟩:=promL_next dep t (E.prom f id) inv
   have hless:=keepH_less dep (E.live f id).2 p2.nodup
   have hkeep:∀σ h w t a,Rel σ h w nt t out a→Rel σ h w nt (keepT nt (E.live f id).1 t) out a:=fun σ h w t a r=>⟨keepT_rep _ (rel_len r) r.slots,r.size,r.defers⟩
   refine wp_block (wp_loop_rounds E.L (loop_sound (code_sound hΦ hP hI b hok) (fun σ h w t a inv rel=>back_sound (E.live f id).1 (E.live f id).2 (E.heal f id) (E.ren f id) inv rel) E.L _ _ σ0 w a e (hless.inv p2) (hkeep _ _ _ _ _ ⟨hless.reps (p3 rel.slots),rel.size,rel.defers⟩) _ ?_))
   intro e' σ' t' h' w' a' _ hk hext hinv hrel
   obtain ⟨t'',h'',hk,hext',hinv',hrel'⟩:=out_post hk hinv hrel
   have hext:=p1.trans (hless.ext.trans (hext.trans hext'))
   replace hinv:=hinv'
   replace hrel:=hrel'
   exact block_post (P:=E.P) (c:=b) (p:=True) hk (fun hk=>hQ .normal σ' t'' h'' w' a' hk hext hinv hrel) (fun e'' _ hk=>hQ e'' σ' t'' h'' w' a' hk hext hinv hrel)
  |_=>exact plain hok e
 |.region id ops draw,hok=>fun t h κ r σ w a e inv rel Q hQ=>by
  simp only [codeOk] at hok
  simp only [evC] at e
  cases draw
  ·rw [cond_false] at e
   refine wp_region ?_
   have hl:ops.toList.length=ops.size:=Array.length_toList
   rw [List.range_eq_range',←hl]
   exact ops_sound hΦ hI hok Q ops.toList 0 t h σ w a rfl e inv rel fun σ' t' h' w' a' hk hext hinv hrel=>hQ .normal σ' t' h' w' a' hk hext hinv hrel
  ·rw [cond_true] at e
   exact any_sound hΦ hP.mix hok e inv rel Q fun σ' t' h' w' a' hk hext hinv hrel=>hQ .normal σ' t' h' w' a' hk hext hinv hrel
 |.loop _,_=>fun t h κ r σ w a e=>by simp [evC] at e
 |.scope _,_=>fun t h κ r σ w a e=>by simp [evC] at e
 |.rangeFunc _ _ _ _,_=>fun t h κ r σ w a e=>by simp [evC] at e
 |.label _,_=>fun t h κ r σ w a e=>by simp [evC] at e
 |.goto _,_=>fun t h κ r σ w a e=>by simp [evC] at e
 |.refuse _,_=>fun t h κ r σ w a e=>by simp [evC] at e
end
end Go.Proofs.YthidlhjjnaldhaaGreatDoor.Ev
