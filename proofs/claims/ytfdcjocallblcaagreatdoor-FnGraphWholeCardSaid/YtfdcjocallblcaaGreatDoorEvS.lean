/- Code and functions stand for the machine's. Conditions: what functions tell (Φ) is sound; the program's regions that draw are carried out in any order; no function bears a reserved name. -/
import Derived.Test.YtfdcjocallblcaaGreatDoorEvR
import Derived.LoopN
namespace Go.Proofs.YtfdcjocallblcaaGreatDoor.Ev
open Go
def Less (h' h:H):Prop:=NoD h'∧∀o,H.get o h'=none∨H.get o h'=H.get o h
section
variable {σ : Sg} {h h' : H} {w : World}
theorem Less.live (l:Less h' h) {o:Nat} (v:Live h' o):Live h o:=by
 unfold Live at*
 rcases l.2 o with e|e
 ·exact absurd e v
 ·rw [←e];exact v
theorem Less.own (l:Less h' h) {o:Nat} (v:Own h' o):Own h o:=by
 rcases l.2 o with e|e
 ·obtain ⟨x,g,-⟩:=v
  rw [e] at g;cases g
 ·exact (own_eq e).1 v
theorem Less.same (l:Less h' h) (o:Nat):SameO σ σ h h' o:=by
 rcases l.2 o with e|e
 ·exact .inl e
 ·exact sameO_eq e rfl
theorem Less.rep (l:Less h' h) {a:AV} {c:Value} (r:RepA σ h w a c):RepA σ h' w a c:=
 RepA.mono (fun _ h=>h) (fun _ _=>rfl) a c (fun o _=>l.same o) r
theorem Less.reps (l:Less h' h) {a:List AV} {c:List Value} (r:RepAs σ h w a c):RepAs σ h' w a c:=
 RepAs.mono (fun _ h=>h) (fun _ _=>rfl) a c (fun o _=>l.same o) r
theorem Less.inv (l:Less h' h) (inv:Inv σ h w):Inv σ h' w where
 objs o x g:=by
  have e:H.get o h'=H.get o h:=(l.2 o).resolve_left (by rw [g];simp)
  have h1:=inv.objs o x (by rw [←e];exact g)
  cases x with
  |box cs=>
   obtain ⟨b,vs,ty,h2,h3,h4⟩:=h1
   exact ⟨b,vs,ty,h2,h3,l.reps h4⟩
  |row el t xs=>exact h1
  |map _ _ _=>exact h1
  |cel _ _=>exact h1
  |ice t xs=>exact h1
  |deep m t xs q=>exact deep_mono h1 rfl rfl (fun _ _=>rfl) fun i off v c _ r=>l.rep r
 nofz o v:=inv.nofz o (l.own v)
 inj o o' v v':=inv.inj o o' (l.own v) (l.own v')
 fzlt:=inv.fzlt
 nodup:=l.1
 bsok o x g:=inv.bsok o x (by rw [←(l.2 o).resolve_left (by rw [g];simp)];exact g)
 bslt o v:=inv.bslt o (l.own v)
theorem Less.ext (l:Less h' h):Ext σ h w σ h' w:=
 ⟨rfl,rfl,rfl,Nat.le_refl _,fun _ h=>h,fun _ _ _=>rfl,fun _ h=>.inl h,fun o b v e=>.inl ⟨o,l.own v,e⟩⟩
end
theorem below_keys (dep:Nat):∀(h:H),∀i∈(below dep h).map (·.1),i∈h.map (·.1)∧i<dep
 |[],i,hi=>by simp [below] at hi
 |(j,x)::r,i,hi=>by
  simp only [below] at hi
  cases e:Nat.blt j dep
  ·rw [e,cond_false] at hi
   have:=below_keys dep r i hi
   exact ⟨by simp only [List.map_cons,List.mem_cons];exact .inr this.1,this.2⟩
  ·rw [e,cond_true] at hi
   simp only [List.map_cons,List.mem_cons] at hi⊢
   rcases hi with rfl|hi
   ·exact ⟨.inl rfl,Nat.le_of_ble_eq_true e⟩
   ·have:=below_keys dep r i hi
    exact ⟨.inr this.1,this.2⟩
theorem below_nod (dep:Nat):∀{h:H},NoD h→NoD (below dep h)
 |[],n=>n
 |(j,x)::r,n=>by
  simp only [NoD,List.map_cons,List.nodup_cons] at n
  simp only [below]
  cases e:Nat.blt j dep
  ·exact below_nod dep n.2
  ·simp only [NoD,cond_true,List.map_cons,List.nodup_cons]
   exact ⟨fun hm=>n.1 (below_keys dep r j hm).1,below_nod dep n.2⟩
theorem below_get (dep o:Nat):∀h:H,H.get o (below dep h)=if o<dep then H.get o h else none
 |[]=>by simp [below,H.get]
 |(j,x)::r=>by
  simp only [below]
  cases e:Nat.blt j dep
  ·have hj:¬j<dep:=fun hlt=>by
    have:Nat.blt j dep=true:=Nat.ble_eq_true_of_le hlt
    rw [this] at e;cases e
   simp only [cond_false,H.get,below_get dep o r]
   by_cases ho:o<dep
   ·rw [if_pos ho,if_pos ho,nbeq_ne.2 (by omega)];rfl
   ·rw [if_neg ho,if_neg ho]
  ·have hj:j<dep:=Nat.le_of_ble_eq_true e
   simp only [cond_true,H.get,below_get dep o r]
   cases e2:Nat.beq j o
   ·rfl
   ·obtain rfl:=nbeq_eq.1 e2
    simp [hj]
theorem keepO_get (dep:Nat) (h:H) (o:Nat):∀l:List Nat,H.get o (keepO dep h l)=none∨(dep≤o∧H.get o (keepO dep h l)=H.get o h)
 |[]=>.inl rfl
 |i::r=>by
  simp only [keepO]
  split
  ·rename_i x hx
   simp only [H.get]
   cases e:Nat.beq (dep+i) o
   ·exact keepO_get dep h o r
   ·obtain rfl:=nbeq_eq.1 e
    exact .inr ⟨by omega,hx.symm⟩
  ·exact keepO_get dep h o r
theorem keepO_keys (dep:Nat) (h:H):∀(l:List Nat),∀i∈(keepO dep h l).map (·.1),∃o∈l,i=dep+o
 |[],i,hi=>by simp [keepO] at hi
 |o::r,i,hi=>by
  simp only [keepO] at hi
  split at hi
  ·simp only [List.map_cons,List.mem_cons] at hi
   rcases hi with rfl|hi
   ·exact ⟨o,by simp,rfl⟩
   ·obtain ⟨o',h1,h2⟩:=keepO_keys dep h r i hi
    exact ⟨o',by simp [h1],h2⟩
  ·obtain ⟨o',h1,h2⟩:=keepO_keys dep h r i hi
   exact ⟨o',by simp [h1],h2⟩
theorem keepO_nod (dep:Nat) (h:H):∀{l:List Nat},nodupN l=true→NoD (keepO dep h l)
 |[],_=>List.nodup_nil
 |o::r,n=>by
  simp only [nodupN,Bool.and_eq_true,Bool.not_eq_true',memN_false] at n
  simp only [keepO]
  split
  ·simp only [NoD,List.map_cons,List.nodup_cons]
   refine ⟨fun hm=>?_,keepO_nod dep h n.2⟩
   obtain ⟨o',h1,h2⟩:=keepO_keys dep h r _ hm
   have:o=o':=by omega
   exact n.1 (this▸h1)
  ·exact keepO_nod dep h n.2
theorem get_append (o:Nat):∀(a b:H),H.get o (a++b)=(H.get o a).or (H.get o b)
 |[],b=>by simp [H.get]
 |(i,x)::a,b=>by
  simp only [List.cons_append,H.get]
  cases Nat.beq i o
  ·exact get_append o a b
  ·rfl
theorem below_less (dep:Nat) {h:H} (n:NoD h):Less (below dep h) h:=
 ⟨below_nod dep n,fun o=>by rw [below_get];by_cases ho:o<dep<;>simp [ho]⟩
theorem keepH_less (dep:Nat) (l:List Nat) {h:H} (n:NoD h):Less (keepH dep l h) h:=by
 unfold keepH
 cases hl:nodupN l
 ·exact below_less dep n
 ·rw [cond_true]
  constructor
  ·unfold NoD
   rw [List.map_append,List.nodup_append]
   refine ⟨below_nod dep n,keepO_nod dep h hl,fun a ha b hb=>?_⟩
   have h1:=(below_keys dep h a ha).2
   obtain ⟨o,-,h2⟩:=keepO_keys dep h l b hb
   omega
  ·intro o
   rw [get_append,below_get]
   rcases keepO_get dep h o l with e|⟨h1,e⟩
   ·rw [e];by_cases ho:o<dep<;>simp [ho]
   ·rw [e,if_neg (by omega)]
    exact .inr rfl
theorem retH_less (dep:Nat) (v:AV) {h:H} (n:NoD h):Less (retH dep v h) h:=by
 unfold retH
 cases v.ids.any (fun o=>Nat.ble dep o)
 ·exact below_less dep n
 ·exact ⟨n,fun o=>.inr rfl⟩
theorem keepT_rep {σ:Sg} {h:H} {w:World} {nt:Nat} {t:T} {vs:List Value} (l:List Nat) (hl:nt≤t.length) (r:RepAs σ h w t vs):RepAs σ h w (keepT nt l t) vs:=by
 have hlen:(keepT nt l t).length=t.length:=by simp [keepT];omega
 refine RepAs.mk (hlen.trans r.len) fun i p v hp hv=>?_
 unfold keepT at hp
 by_cases hi:i<nt
 ·rw [List.getElem?_append_left (by simp [hi])] at hp
  simp only [List.getElem?_map,List.getElem?_range hi,Option.map_some] at hp
  obtain rfl:=Option.some.inj hp
  cases l.any (Nat.beq i)
  ·trivial
  ·rw [cond_true]
   have hit:i<t.length:=by omega
   refine r.at i _ v ?_ hv
   unfold T.at
   rw [List.getD_eq_getElem?_getD,List.getElem?_eq_getElem hit];rfl
 ·rw [List.getElem?_append_right (by simp;omega)] at hp
  simp only [List.length_map,List.length_range,List.getElem?_drop] at hp
  have:nt+(i-nt)=i:=by omega
  rw [this] at hp
  exact r.at i p v hp hv
structure OkP (P:Program):Prop where
 mix:P.follows .mixedOrders=true
 names : ∀ (f : Nat) (fn : Func), P.funcs[f]? = some fn → (fn.name == "runtime.NumGoroutine") = false
def namesB (P : Program) : Bool := P.funcs.toList.all fun fn => !(fn.name == "runtime.NumGoroutine")
theorem OkP.mk' {P:Program} (h1:P.follows .mixedOrders=true) (h2:namesB P=true):OkP P:=by
 refine ⟨h1,fun f fn hf=>?_⟩
 have:=List.all_eq_true.1 h2 fn (Array.mem_toList_iff.2 (Array.mem_of_getElem? hf))
 simpa using this
def exitOf:Ex→Exit
 |.normal=>.normal
 |.exit i=>.exit i
 |.ret=>.ret
section
variable {R : Type} {E : Env} {callI : CallI R} {dep nt f : Nat} {out : List Value}
def CodeOk (P:Program) (c:Code) (nt:Nat) (out:List Value) (body:Body R):Prop:=
 ∀(t:T) (h:H) (κ:Ex→T→H→Option R) (r:R) (σ:Sg) (w:World) (a:Act),body t h κ=some r→Inv σ h w→Rel σ h w nt t out a→
  ∀Q:Exit→Act→World→Prop,(∀e σ' t' h' w' a',κ e t' h'=some r→Ext σ h w σ' h' w'→Inv σ' h' w'→Rel σ' h' w' nt t' out a'→Q (exitOf e) a' w')→c.wp P Q a w
theorem loop_sound {P:Program} {c:Code} {body:Body R} (hb:CodeOk P c nt out body) {bk:T→H→T×H}
  (hbk:∀σ h w t a,Inv σ h w→Rel σ h w nt t out a→∃σ',Ext σ h w σ' (bk t h).2 w∧Inv σ' (bk t h).2 w∧Rel σ' (bk t h).2 w nt (bk t h).1 out a) {κ:Ex→T→H→Option R} {r:R}:
  ∀(n:Nat) (t:T) (h:H) (σ:Sg) (w:World) (a:Act),evLoop body bk κ n t h=some r→Inv σ h w→Rel σ h w nt t out a→
  ∀Q:Exit→Act→World→Prop,(∀e σ' t' h' w' a',e≠.normal→κ e t' h'=some r→Ext σ h w σ' h' w'→Inv σ' h' w'→Rel σ' h' w' nt t' out a'→Q (exitOf e) a' w')→Code.rounds P c Q n a w:=by
 intro n
 induction n with
 |zero=>intro t h σ w a e;cases e
 |succ n ih=>
  intro t h σ w a e inv rel Q hQ
  rw [rounds_succ]
  refine hb t h _ r σ w a e inv rel _ ?_
  intro e' σ' t' h' w' a' hk hext hinv hrel
  cases e' with
  |normal=>
   obtain ⟨σ1,n1,n2,n3⟩:=hbk σ' h' w' t' a' hinv hrel
   refine ih _ _ σ1 w' a' hk n2 n3 Q ?_
   intro e'' σ'' t'' h'' w'' a'' hne hk' hext' hinv' hrel'
   exact hQ e'' σ'' t'' h'' w'' a'' hne hk' (hext.trans (n1.trans hext')) hinv' hrel'
  |exit i=>exact hQ (.exit i) σ' t' h' w' a' (by simp) hk hext hinv hrel
  |ret=>exact hQ .ret σ' t' h' w' a' (by simp) hk hext hinv hrel
theorem block_post {P:Program} {id:Nat} {c:Code} {κ:Ex→T→H→Option R} {r:R} {Q:Exit→Act→World→Prop} {p:Prop} {e:Ex} {t:T} {h:H}
  (hk:blockK id κ e t h=some r) {a:Act} {w:World} (hn:κ .normal t h=some r→Q .normal a w) (hq:∀e',e'=e→κ e' t h=some r→Q (exitOf e') a w):Exit.inBlock id Q (exitOf e) a w:=by
 cases e with
 |normal=>exact hq .normal rfl hk
 |ret=>exact hq .ret rfl hk
 |exit i=>
  simp only [exitOf,Exit.inBlock]
  change (bif Nat.beq i id then κ .normal t h else κ (.exit i) t h)=some r at hk
  by_cases hi:i=id
  ·subst hi
   rw [Nat.beq_refl,cond_true] at hk
   rw [if_pos rfl];exact hn hk
  ·rw [nbeq_ne.2 hi,cond_false] at hk
   rw [if_neg hi];exact hq (.exit i) rfl hk
theorem out_post {dep:Nat} {lt lh:List Nat} {κ:Ex→T→H→Option R} {r:R} {e:Ex} {t:T} {h:H} {σ:Sg} {w:World} {a:Act} (hk:outK (keepT nt lt) (keepH dep lh) κ e t h=some r) (inv:Inv σ h w) (rel:Rel σ h w nt t out a):
  ∃t' h',κ e t' h'=some r∧Ext σ h w σ h' w∧Inv σ h' w∧Rel σ h' w nt t' out a:=by
 have hless:=keepH_less dep lh inv.nodup
 exact ⟨_,_,hk,hless.ext,hless.inv inv,keepT_rep _ (rel_len rel) (hless.reps rel.slots),rel.size,rel.defers⟩
theorem back_sound {dep:Nat} (lt lo hl:List Nat) (rl:List (Nat×Nat)) {t:T} {h:H} {σ:Sg} {w:World} {a:Act} (inv:Inv σ h w) (rel:Rel σ h w nt t out a):
  ∃σ',Ext σ h w σ' (backK dep nt lt lo hl rl t h).2 w∧Inv σ' (backK dep nt lt lo hl rl t h).2 w∧Rel σ' (backK dep nt lt lo hl rl t h).2 w nt (backK dep nt lt lo hl rl t h).1 out a:=by
 obtain ⟨σ1,hnx⟩:=healL_next dep hl inv
 have rel1:RepAs σ1 (healL dep h hl) w (keepT nt lt t) _:=keepT_rep lt (rel_len rel) (hnx.reps rel.slots)
 have hlen:(keepT nt lt t).length=t.length:=by have:=rel_len rel;simp [keepT];omega
 cases rl with
 |nil=>
  have hk:=keepH_less dep lo hnx.inv.nodup
  exact ⟨σ1,hnx.ext.trans hk.ext,hk.inv hnx.inv,hk.reps rel1,rel.size,rel.defers⟩
 |cons p r=>
  have hk:=keepH_less dep (lo++(p::r).map (·.2)) hnx.inv.nodup
  obtain ⟨σ2,q1,q2,q3⟩:=renAll_next dep (p::r) (hk.inv hnx.inv) (hk.reps rel1)
  have hk2:=keepH_less dep lo q2.nodup
  exact ⟨σ2,(hnx.ext.trans hk.ext).trans (q1.trans hk2.ext),hk2.inv q2,hk2.reps q3,rel.size,rel.defers⟩
def PT.path:PT→T
 |.leaf t=>t
 |.node x a b=>bif x then a.path else b.path
def AgreeT (w:List Nat) (t0 t:T):Prop:=t.length=t0.length∧∀i,i∉w→t[i]?=t0[i]?
def PT.Ok (w:List Nat) (t0:T):PT→Prop
 |.leaf t=>AgreeT w t0 t
 |.node _ a b=>a.Ok w t0∧b.Ok w t0
theorem AgreeT.put {w:List Nat} {t0 t:T} (ag:AgreeT w t0 t) {d:Option Nat} {v:AV} (hd:∀i,d=some i→i∈w):AgreeT w t0 (t.put d v):=by
 cases d with
 |none=>exact ag
 |some i=>
  refine ⟨by show (t.set i v).length=_;rw [List.length_set];exact ag.1,fun j hj=>?_⟩
  show (t.set i v)[j]?=_
  rw [List.getElem?_set_ne (fun (e:i=j)=>hj (by rw [←e];exact hd i rfl))]
  exact ag.2 j hj
theorem mergeAV_rep {σ:Sg} {h:H} {w:World} (x:Bool) (a b:AV) (v:Value) (ha:x=true→RepA σ h w a v) (hb:x=false→RepA σ h w b v):RepA σ h w (mergeAV x a b) v:=by
 unfold mergeAV
 split
 ·split
  ·cases x
   ·exact hb rfl
   ·exact ha rfl
  ·trivial
 ·rename_i k p
  split
  ·rename_i k' q
   by_cases hk:k=k'
   ·subst hk
    rw [decide_eq_true rfl,cond_true]
    cases x
    ·exact hb rfl
    ·exact ha rfl
   ·rw [decide_eq_false hk];trivial
  ·trivial
 ·trivial
theorem mergeT_get (w:List Nat) (x:Bool):∀(i:Nat) (t0 ta tb:T) (j:Nat),ta.length=t0.length→tb.length=t0.length→(mergeT w x i t0 ta tb)[j]?=(t0[j]?).map fun v=>bif w.any (Nat.beq (i+j)) then mergeAV x (ta.getD j .any) (tb.getD j .any) else v
 |i,[],ta,tb,j,_,_=>by simp [mergeT]
 |i,v::r,[],tb,j,h,_=>by simp at h
 |i,v::r,a::ta,[],j,_,h=>by simp at h
 |i,v::r,a::ta,b::tb,0,_,_=>by simp [mergeT]
 |i,v::r,a::ta,b::tb,j+1,h1,h2=>by
  have:=mergeT_get w x (i+1) r ta tb j (by simpa using h1) (by simpa using h2)
  simp only [mergeT,List.tail_cons,List.getElem?_cons_succ,this,List.getD_cons_succ]
  rw [show i+1+j=i+(j+1) by omega]
theorem mergeT_len (w:List Nat) (x:Bool):∀(i:Nat) (t0 ta tb:T),(mergeT w x i t0 ta tb).length=t0.length
 |_,[],_,_=>rfl
 |i,v::r,ta,tb=>by simp [mergeT,mergeT_len w x (i+1) r]
theorem any_notmem {w:List Nat} {i:Nat} (h:i∉w):w.any (Nat.beq i)=false:=by
 rw [List.any_eq_false]
 intro x hx hc
 exact h (nbeq_eq.1 hc▸hx)
theorem mergeP_agree {w:List Nat} {t0:T}:∀{p:PT},p.Ok w t0→AgreeT w t0 (mergeP w t0 p)
 |.leaf t,h=>h
 |.node x a b,h=>by
  have h1:=mergeP_agree h.1
  have h2:=mergeP_agree h.2
  refine ⟨mergeT_len _ _ _ _ _ _,fun i hi=>?_⟩
  show (mergeT w x 0 t0 _ _)[i]?=_
  rw [mergeT_get _ _ _ _ _ _ _ h1.1 h2.1,Nat.zero_add,any_notmem hi]
  cases t0[i]?<;>rfl
theorem mergeP_rep {σ:Sg} {h:H} {w:World} {ws:List Nat} {t0:T}:∀{p:PT} {vs:List Value},p.Ok ws t0→RepAs σ h w p.path vs→RepAs σ h w (mergeP ws t0 p) vs
 |.leaf t,vs,_,r=>r
 |.node x a b,vs,ok,r=>by
  have h1:=mergeP_agree ok.1
  have h2:=mergeP_agree ok.2
  have ra:x=true→RepAs σ h w (mergeP ws t0 a) vs:=fun e=>mergeP_rep ok.1 (by rw [PT.path,e] at r;exact r)
  have rb:x=false→RepAs σ h w (mergeP ws t0 b) vs:=fun e=>mergeP_rep ok.2 (by rw [PT.path,e] at r;exact r)
  have hlen:t0.length=vs.length:=by
   cases x
   ·rw [←h2.1];exact (rb rfl).length
   ·rw [←h1.1];exact (ra rfl).length
  refine RepAs.mk ((mergeT_len _ _ _ _ _ _).trans hlen) fun i q v hq hv=>?_
  change (mergeT ws x 0 t0 _ _)[i]?=some q at hq
  rw [mergeT_get _ _ _ _ _ _ _ h1.1 h2.1,Nat.zero_add] at hq
  cases hi:t0[i]? with
  |none=>rw [hi] at hq;cases hq
  |some u=>
   rw [hi] at hq
   obtain rfl:=Option.some.inj hq
   have hlt:i<t0.length:=(List.getElem?_eq_some_iff.1 hi).1
   have ga:(mergeP ws t0 a)[i]?=some ((mergeP ws t0 a).getD i .any):=by
    rw [List.getD_eq_getElem?_getD,List.getElem?_eq_getElem (by rw [h1.1];exact hlt)];rfl
   have gb:(mergeP ws t0 b)[i]?=some ((mergeP ws t0 b).getD i .any):=by
    rw [List.getD_eq_getElem?_getD,List.getElem?_eq_getElem (by rw [h2.1];exact hlt)];rfl
   show RepA σ h w (bif ws.any (Nat.beq i) then mergeAV x ((mergeP ws t0 a).getD i .any) ((mergeP ws t0 b).getD i .any) else u) v
   cases hw:ws.any (Nat.beq i)
   ·have hnm:i∉ws:=fun hm=>by
     rw [List.any_eq_false] at hw
     exact hw i hm (Nat.beq_refl i)
    rw [cond_false]
    cases x
    ·exact (rb rfl).at i u v (by rw [h2.2 i hnm,hi]) hv
    ·exact (ra rfl).at i u v (by rw [h1.2 i hnm,hi]) hv
   ·rw [cond_true]
    exact mergeAV_rep x _ _ v (fun e=>(ra e).at i _ v ga hv) (fun e=>(rb e).at i _ v gb hv)
theorem pureOp_inl {o:Op} {vs:List AV} (h:pureOp o=true):inlOf E o vs=none:=by
 cases o<;>first|rfl|(simp [pureOp] at h)
theorem pure1_path {o:Oper} {t t':T} {h:H} (e:evPure1 E dep o t h=some t') (κ:T→H→Option R):evOp E callI dep o t h κ=κ t' h:=by
 unfold evPure1 at e
 unfold evOp
 dsimp only
 cases hp:pureOp o.op
 ·rw [hp,cond_false] at e
  split at e
  ·rename_i c x y ho
   split at e
   ·rename_i p q s hvs
    split at e
    ·rename_i b
     obtain rfl:=Option.some.inj e
     rw [hvs,show inlOf E o.op [AV.tv .bool b,q,s]=none by rw [ho];rfl]
     dsimp only
     unfold evVal
     simp only [ho]
     cases b<;>rfl
    ·cases e
   ·cases e
  ·cases e
 ·rw [hp,cond_true] at e
  split at e
  ·rename_i p hpv
   obtain ⟨v,u,ks⟩:=p
   split at e
   ·rename_i hu
    split at e
    ·rename_i hks
     obtain rfl:=Option.some.inj e
     dsimp only at hu hks
     subst hu
     subst hks
     rw [pureOp_inl hp]
     dsimp only
     rw [evVal_bind]
     rw [show evVal E o (dep+o.dst.getD 999) (o.op.operands.toList.map (opd t)) (viewOf (o.op.operands.toList.map (opd t)) h) pk=some (v,[],[]) from hpv]
     rfl
    ·cases e
   ·cases e
  ·cases e
theorem pure1_agree {w:List Nat} {t0:T} {o:Oper} {t t':T} {h:H} (e:evPure1 E dep o t h=some t') (hd:∀i,o.dst=some i→i∈w) (ag:AgreeT w t0 t):AgreeT w t0 t':=by
 unfold evPure1 at e
 cases hp:pureOp o.op
 ·rw [hp,cond_false] at e
  split at e
  ·split at e
   ·split at e
    ·obtain rfl:=Option.some.inj e;exact ag.put hd
    ·cases e
   ·cases e
  ·cases e
 ·rw [hp,cond_true] at e
  split at e
  ·split at e
   ·split at e
    ·obtain rfl:=Option.some.inj e;exact ag.put hd
    ·cases e
   ·cases e
  ·cases e
theorem thenP_some {x:Option T} {f:T→Option PT} {p:PT} (e:thenP x f=some p):∃t,x=some t∧f t=some p:=by
 cases x with
 |none=>cases e
 |some t=>exact ⟨t,rfl,e⟩
theorem ptBoth_some {x:Bool} {a b:Option PT} {p:PT} (e:ptBoth x a b=some p):∃q s,a=some q∧b=some s∧p=.node x q s:=by
 unfold ptBoth at e
 split at e
 ·split at e
  ·exact ⟨_,_,rfl,rfl,(Option.some.inj e).symm⟩
  ·cases e
 ·cases e
theorem pureO_path {ops:Array Oper} {w:List Nat} {t0:T} {h:H} (hw:∀(j:Nat) (d:Nat),(ops[j]?).bind (·.dst)=some d→d∈w):
  ∀(l:List Oper) (t:T) (kn:List (Nat×Bool)) (p:PT),(∀o∈l,∀i,o.dst=some i→i∈w)→AgreeT w t0 t→evPureO E dep ops h l t kn=some p→
   p.Ok w t0∧∀κ:T→H→Option R,evOps E callI dep ops l t h κ=κ p.path h:=by
 intro l
 induction l with
 |nil=>intro t kn p _ ag e;obtain rfl:=Option.some.inj e;exact ⟨ag,fun κ=>rfl⟩
 |cons o r ih=>
  intro t kn p hl ag e
  have hr:∀o∈r,∀i,o.dst=some i→i∈w:=fun x hx=>hl x (.tail _ hx)
  have ho:=hl o (.head _)
  have run:∀{t t1:T} {kn p},AgreeT w t0 t→evPure1 E dep o t h=some t1→evPureO E dep ops h r t1 kn=some p→p.Ok w t0∧∀κ:T→H→Option R,(evOp E callI dep o t h fun t h=>evOps E callI dep ops r t h κ)=κ p.path h:=fun ag e1 e2=>by
   obtain ⟨q1,q2⟩:=ih _ _ _ hr (pure1_agree e1 ho ag) e2
   exact ⟨q1,fun κ=>by rw [pure1_path e1];exact q2 κ⟩
  unfold evPureO at e
  unfold evOps
  split at e
  ·rename_i hg
   (try rw [hg])
   obtain ⟨t1,e1,e2⟩:=thenP_some e
   exact run ag e1 e2
  ·rename_i j b hg
   (try rw [hg])
   (try dsimp only)
   split at e
   ·cases e
   ·rename_i d hd
    (try rw [hd])
    (try dsimp only)
    have hdw:∀i,some d=some i→i∈w:=fun i hi=>by obtain rfl:=Option.some.inj hi;exact hw j d hd
    have go:∀{v:AV} {kn p},(bif b then thenP (evPure1 E dep o (t.put (some d) v) h) fun t=>evPureO E dep ops h r t kn else evPureO E dep ops h r ((t.put (some d) v).put o.dst .und) kn)=some p→
      p.Ok w t0∧∀κ:T→H→Option R,(bif b then evOp E callI dep o (t.put (some d) v) h fun t h=>evOps E callI dep ops r t h κ else evOps E callI dep ops r ((t.put (some d) v).put o.dst .und) h κ)=κ p.path h:=fun e=>by
     cases b
     ·exact ih _ _ _ hr ((ag.put hdw).put ho) e
     ·obtain ⟨t1,e1,e2⟩:=thenP_some e
      exact run (ag.put hdw) e1 e2
    have go':∀{v:AV} {kn p},(bif b then evPureO E dep ops h r ((t.put (some d) v).put o.dst .und) kn else thenP (evPure1 E dep o (t.put (some d) v) h) fun t=>evPureO E dep ops h r t kn)=some p→
      p.Ok w t0∧∀κ:T→H→Option R,(bif b then evOps E callI dep ops r ((t.put (some d) v).put o.dst .und) h κ else evOp E callI dep o (t.put (some d) v) h fun t h=>evOps E callI dep ops r t h κ)=κ p.path h:=fun e=>by
     cases b
     ·obtain ⟨t1,e1,e2⟩:=thenP_some e
      exact run (ag.put hdw) e1 e2
     ·exact ih _ _ _ hr ((ag.put hdw).put ho) e
    split at e
    ·rename_i x hx
     (try rw [hx])
     (try dsimp only)
     split at e
     ·cases x
      ·cases e
      ·exact go e
     ·cases x
      ·exact go' e
      ·cases e
     ·obtain ⟨q,s,e1,e2,rfl⟩:=ptBoth_some e
      obtain ⟨g1,g2⟩:=go e1
      obtain ⟨f1,f2⟩:=go' e2
      refine ⟨⟨g1,f1⟩,fun κ=>?_⟩
      cases x
      ·exact f2 κ
      ·exact g2 κ
    ·rename_i hx
     (try rw [hx])
     exact ih _ _ _ hr (ag.put ho) e
    ·cases e
open Classical in
theorem pure_sound (hΦ:SoundΦ E) (hI:CallISound E.P callI) {ws:List Nat} {t0:T} (r0:R):∀c:Code,codeOk nt c=true→pureC c=true→(∀i∈dstsC c,i∈ws)→
  ∀(t:T) (h:H) (p:PT),AgreeT ws t0 t→evPureC E dep c t h=some p→p.Ok ws t0∧∀(σ:Sg) (w:World) (a:Act),Inv σ h w→Rel σ h w nt t out a→∀Q:Exit→Act→World→Prop,
   (∀σ' w' a',Ext σ h w σ' h w'→Inv σ' h w'→Rel σ' h w' nt p.path out a'→Q .normal a' w')→c.wp E.P Q a w
 |.skip,_,_,_=>fun t h p ag e=>by
  obtain rfl:=Option.some.inj e
  exact ⟨ag,fun σ w a inv rel Q hQ=>wp_skip (hQ σ w a (Ext.refl _ _ _) inv rel)⟩
 |.cond c x y,hok,hp,hw=>fun t h p ag e=>by
  simp only [codeOk,Bool.and_eq_true] at hok
  simp only [pureC,Bool.and_eq_true] at hp
  simp only [evPureC] at e
  split at e
  ·rename_i b hb
   obtain ⟨q,s,e1,e2,rfl⟩:=ptBoth_some e
   obtain ⟨g1,g2⟩:=pure_sound hΦ hI r0 x hok.1.2 hp.1 (fun i hi=>hw i (List.mem_append_left _ hi)) t h q ag e1
   obtain ⟨f1,f2⟩:=pure_sound hΦ hI r0 y hok.2 hp.2 (fun i hi=>hw i (List.mem_append_right _ hi)) t h s ag e2
   refine ⟨⟨g1,f1⟩,fun σ w a inv rel Q hQ=>?_⟩
   have hc:=opd_rep rel hok.1.1
   rw [hb] at hc
   have hc:=repT_bool hc
   refine wp_cond hc ?_
   cases b
   ·exact f2 σ w a inv rel Q hQ
   ·exact g2 σ w a inv rel Q hQ
  ·cases e
 |.region id ops draw,hok,hp,hw=>fun t h p ag e=>by
  simp only [codeOk] at hok
  simp only [pureC,Bool.and_eq_true] at hp
  simp only [evPureC] at e
  have hw':∀(j d:Nat),(ops[j]?).bind (·.dst)=some d→d∈ws:=fun j d hd=>by
   cases ho:ops[j]? with
   |none=>rw [ho] at hd;cases hd
   |some o=>
    rw [ho] at hd
    refine hw d (List.mem_flatMap.2 ⟨o,?_,?_⟩)
    ·exact List.mem_of_getElem? (by rw [Array.getElem?_toList];exact ho)
    ·unfold dstL
     rw [show o.dst=some d from hd]
     exact List.mem_singleton.2 rfl
  obtain ⟨g1,g2⟩:=pureO_path (callI:=callI) hw' ops.toList t [] p (fun o ho i hi=>hw i (List.mem_flatMap.2 ⟨o,ho,by unfold dstL;rw [hi];exact List.mem_singleton.2 rfl⟩)) ag e
  refine ⟨g1,fun σ w a inv rel Q hQ=>?_⟩
  have hd:draw=false:=by cases draw<;>simp_all
  subst hd
  refine wp_region ?_
  have hl:ops.toList.length=ops.size:=Array.length_toList
  rw [List.range_eq_range',←hl]
  refine ops_sound hΦ hI hok Q ops.toList 0 t h σ w a rfl (κ:=fun t' h'=>if t'=p.path∧h'=h then some r0 else none) (r:=r0) ((g2 _).trans (if_pos ⟨rfl,rfl⟩)) inv rel fun σ' t' h' w' a' hk hext hinv hrel=>?_
  by_cases hc:t'=p.path∧h'=h
  ·obtain ⟨rfl,rfl⟩:=hc
   exact hQ σ' w' a' hext hinv hrel
  ·rw [if_neg hc] at hk;cases hk
theorem if_sound (hΦ:SoundΦ E) (hI:CallISound E.P callI) {c:Code} (hok:codeOk nt c=true) {t t':T} {h:H} (hi:evIf E dep f c t h=some t') {κ:Ex→T→H→Option R} {r:R} (e:κ .normal t' h=some r) {σ:Sg} {w:World} {a:Act} (inv:Inv σ h w) (rel:Rel σ h w nt t out a)
  {Q:Exit→Act→World→Prop} (hQ:∀e σ' t' h' w' a',κ e t' h'=some r→Ext σ h w σ' h' w'→Inv σ' h' w'→Rel σ' h' w' nt t' out a'→Q (exitOf e) a' w'):c.wp E.P Q a w:=by
 unfold evIf at hi
 obtain ⟨hb,hi⟩:=cond_some hi
 rw [Bool.and_eq_true] at hb
 split at hi
 ·rename_i p hp
  obtain rfl:=Option.some.inj hi
  obtain ⟨g1,g2⟩:=pure_sound (ws:=dstsC c) (t0:=t) hΦ hI r c hok hb.2 (fun i hi=>hi) t h p ⟨rfl,fun _ _=>rfl⟩ hp
  exact g2 σ w a inv rel Q fun σ' w' a' hext hinv hrel=>hQ .normal σ' _ h w' a' e hext hinv ⟨mergeP_rep g1 hrel.slots,hrel.size,hrel.defers⟩
 ·cases hi
theorem code_sound (hΦ:SoundΦ E) (hP:OkP E.P) (hI:CallISound E.P callI):∀c:Code,codeOk nt c=true→CodeOk E.P c nt out (fun t h κ=>evC E callI dep f nt c t h κ)
 |.skip,_=>fun t h κ r σ w a e inv rel Q hQ=>wp_skip (hQ .normal σ t h w a e (Ext.refl _ _ _) inv rel)
 |.ret,_=>fun t h κ r σ w a e inv rel Q hQ=>wp_ret (hQ .ret σ t h w a e (Ext.refl _ _ _) inv rel)
 |.exit id,_=>fun t h κ r σ w a e inv rel Q hQ=>wp_exit (hQ (.exit id) σ t h w a e (Ext.refl _ _ _) inv rel)
 |.seq x y,hok=>fun t h κ r σ w a e inv rel Q hQ=>by
  simp only [codeOk,Bool.and_eq_true] at hok
  refine wp_seq (code_sound hΦ hP hI x hok.1 t h _ r σ w a e inv rel _ ?_)
  intro e' σ' t' h' w' a' hk hext hinv hrel
  cases e' with
  |normal=>
   refine code_sound hΦ hP hI y hok.2 t' h' _ r σ' w' a' hk hinv hrel _ ?_
   intro e'' σ'' t'' h'' w'' a'' hk' hext' hinv' hrel'
   exact hQ e'' σ'' t'' h'' w'' a'' hk' (hext.trans hext') hinv' hrel'
  |exit i=>exact hQ (.exit i) σ' t' h' w' a' hk hext hinv hrel
  |ret=>exact hQ .ret σ' t' h' w' a' hk hext hinv hrel
 |.cond c x y,hok=>fun t h κ r σ w a e inv rel Q hQ=>by
  have hok0:=hok
  simp only [codeOk,Bool.and_eq_true] at hok
  simp only [evC] at e
  have hc:=opd_rep rel hok.1.1
  split at e
  ·rename_i t' hi
   exact if_sound hΦ hI hok0 hi e inv rel hQ
  split at e
  ·rename_i b hb
   rw [hb] at hc
   have hc:=repT_bool hc
   refine wp_cond hc ?_
   cases b
   ·exact code_sound hΦ hP hI y hok.2 t h κ r σ w a e inv rel Q hQ
   ·exact code_sound hΦ hP hI x hok.1.2 t h κ r σ w a e inv rel Q hQ
  ·cases e
 |.block id c,hok=>fun t h κ r σ w a e inv rel Q hQ=>by
  have plain:codeOk nt c=true→evC E callI dep f nt c t h (blockK id κ)=some r→(Code.block id c).wp E.P Q a w:=by
   intro hok e
   refine wp_block (code_sound hΦ hP hI c hok t h _ r σ w a e inv rel _ ?_)
   intro e' σ' t' h' w' a' hk hext hinv hrel
   exact block_post (P:=E.P) (c:=c) (p:=True) hk (fun hk=>hQ .normal σ' t' h' w' a' hk hext hinv hrel) (fun e'' _ hk=>hQ e'' σ' t' h' w' a' hk hext hinv hrel)
  cases c with
  |loop b=>
   simp only [codeOk] at hok
   simp only [evC] at e
   obtain ⟨σ0,p1,p2,p3⟩:=promL_next dep t (E.prom f id) inv
   have hless:=keepH_less dep (E.live f id).2 p2.nodup
   have hkeep:∀σ h w t a,Rel σ h w nt t out a→Rel σ h w nt (keepT nt (E.live f id).1 t) out a:=fun σ h w t a r=>⟨keepT_rep _ (rel_len r) r.slots,r.size,r.defers⟩
   refine wp_block (wp_loop_rounds E.L (loop_sound (code_sound hΦ hP hI b hok) (fun σ h w t a inv rel=>back_sound (E.live f id).1 (E.live f id).2 (E.heal f id) (E.ren f id) inv rel) E.L _ _ σ0 w a e (hless.inv p2) (hkeep _ _ _ _ _ ⟨hless.reps (p3 rel.slots),rel.size,rel.defers⟩) _ ?_))
   intro e' σ' t' h' w' a' _ hk hext hinv hrel
   obtain ⟨t'',h'',hk,hext',hinv',hrel'⟩:=out_post hk hinv hrel
   have hext:=p1.trans (hless.ext.trans (hext.trans hext'))
   replace hinv:=hinv'
   replace hrel:=hrel'
   exact block_post (P:=E.P) (c:=b) (p:=True) hk (fun hk=>hQ .normal σ' t'' h'' w' a' hk hext hinv hrel) (fun e'' _ hk=>hQ e'' σ' t'' h'' w' a' hk hext hinv hrel)
  |_=>exact plain hok e
 |.region id ops draw,hok=>fun t h κ r σ w a e inv rel Q hQ=>by
  have hok0:=hok
  simp only [codeOk] at hok
  simp only [evC] at e
  split at e
  ·rename_i t' hi
   exact if_sound hΦ hI hok0 hi e inv rel hQ
  cases draw
  ·rw [cond_false] at e
   refine wp_region ?_
   have hl:ops.toList.length=ops.size:=Array.length_toList
   rw [List.range_eq_range',←hl]
   exact ops_sound hΦ hI hok Q ops.toList 0 t h σ w a rfl e inv rel fun σ' t' h' w' a' hk hext hinv hrel=>hQ .normal σ' t' h' w' a' hk hext hinv hrel
  ·rw [cond_true] at e
   exact any_sound hΦ hP.mix hok e inv rel Q fun σ' t' h' w' a' hk hext hinv hrel=>hQ .normal σ' t' h' w' a' hk hext hinv hrel
 |.loop _,_=>fun t h κ r σ w a e=>by simp [evC] at e
 |.scope _,_=>fun t h κ r σ w a e=>by simp [evC] at e
 |.rangeFunc _ _ _ _,_=>fun t h κ r σ w a e=>by simp [evC] at e
 |.label _,_=>fun t h κ r σ w a e=>by simp [evC] at e
 |.goto _,_=>fun t h κ r σ w a e=>by simp [evC] at e
 |.refuse _,_=>fun t h κ r σ w a e=>by simp [evC] at e
end
end Go.Proofs.YtfdcjocallblcaaGreatDoor.Ev
