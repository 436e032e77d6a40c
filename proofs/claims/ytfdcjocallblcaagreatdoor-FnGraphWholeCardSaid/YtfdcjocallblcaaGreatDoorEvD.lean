/- One operation of the evaluator stands for the machine's: the tools. No conditions. -/
import Derived.Test.YtfdcjocallblcaaGreatDoorEvC
namespace Go.Proofs.YtfdcjocallblcaaGreatDoor.Ev
open Go
section
variable {σ : Sg} {h : H} {w : World} {fz : Nat → Prop}
theorem repT_int {k:IntKind} {n:Int} {v:Value} (r:RepT fz w (.int k) n v):v=.int k n:=by
 obtain ⟨r,-⟩:=r;cases r;rfl
theorem repT_bool {b:Bool} {v:Value} (r:RepT fz w .bool b v):v=.bool b:=by
 obtain ⟨r,-⟩:=r;cases r;rfl
theorem repT_str {b:ByteArray} {v:Value} (r:RepT fz w .str b v):v=.string b:=by
 obtain ⟨r,-⟩:=r;cases r;rfl
theorem mk_int (k:IntKind) (n:Int):RepT fz w (.int k) n (.int k n):=⟨.int k n,trivial⟩
theorem mk_bool (b:Bool):RepT fz w .bool b (.bool b):=⟨.bool b,trivial⟩
theorem mk_str (b:ByteArray):RepT fz w .str b (.string b):=⟨.str b,trivial⟩
theorem RepPs.length:∀{l:List PV} {vs:List Value},RepPs fz w l vs→l.length=vs.length
 |[],[],_=>rfl
 |_::_,_::_,r=>by simp [RepPs.length r.2]
 |[],_::_,r=>r.elim
 |_::_,[],r=>r.elim
theorem RepPs.at:∀{l:List PV} {vs:List Value},RepPs fz w l vs→∀(i:Nat) (p:PV) (v:Value),l[i]?=some p→vs[i]?=some v→RepP fz w p v
 |_::_,_::_,r,0,p,v,hp,hv=>by simp at hp hv;subst hp;subst hv;exact r.1
 |_::_,_::_,r,i+1,p,v,hp,hv=>RepPs.at r.2 i p v (by simpa using hp) (by simpa using hv)
 |[],_::_,r,_,_,_,_,_=>r.elim
 |_::_,[],r,_,_,_,_,_=>r.elim
theorem RepPs.mk:∀{l:List PV} {vs:List Value},l.length=vs.length→(∀(i:Nat) (p:PV) (v:Value),l[i]?=some p→vs[i]?=some v→RepP fz w p v)→RepPs fz w l vs
 |[],[],_,_=>trivial
 |_::_,_::_,e,f=>⟨f 0 _ _ rfl rfl,RepPs.mk (by simpa using e) fun i p v hp hv=>f (i+1) p v (by simpa using hp) (by simpa using hv)⟩
 |[],_::_,e,_=>by simp at e
 |_::_,[],e,_=>by simp at e
theorem RepPs.append {l l':List PV} {vs vs':List Value} (r:RepPs fz w l vs) (r':RepPs fz w l' vs'):RepPs fz w (l++l') (vs++vs'):=by
 induction l generalizing vs with
 |nil=>cases vs with
  |nil=>exact r'
  |cons _ _=>exact r.elim
 |cons p l ih=>cases vs with
  |nil=>exact r.elim
  |cons v vs=>exact ⟨r.1,ih r.2⟩
theorem RepPs.oneCell {l:List PV} {vs:List Value} (r:RepPs fz w l vs):∀v∈vs,v.oneCell'=true:=by
 induction l generalizing vs with
 |nil=>cases vs with
  |nil=>simp
  |cons _ _=>exact r.elim
 |cons p l ih=>cases vs with
  |nil=>exact r.elim
  |cons v vs=>
   intro u hu
   rcases List.mem_cons.1 hu with rfl|hu
   ·exact r.1.oneCell
   ·exact ih r.2 u hu
theorem RepPs.split {l l':List PV} {vs:List Value} (r:RepPs fz w (l++l') vs):RepPs fz w l (vs.take l.length)∧RepPs fz w l' (vs.drop l.length):=by
 induction l generalizing vs with
 |nil=>exact ⟨by simp [RepPs],by simpa using r⟩
 |cons p l ih=>cases vs with
  |nil=>exact r.elim
  |cons v vs=>
   have:=ih (vs:=vs) r.2
   exact ⟨⟨r.1,by simpa using this.1⟩,by simpa using this.2⟩
theorem RepAs.length:∀{l:List AV} {vs:List Value},RepAs σ h w l vs→l.length=vs.length
 |[],[],_=>rfl
 |_::_,_::_,r=>by simp [RepAs.length r.2]
 |[],_::_,r=>r.elim
 |_::_,[],r=>r.elim
theorem RepAs.at:∀{l:List AV} {vs:List Value},RepAs σ h w l vs→∀(i:Nat) (p:AV) (v:Value),l[i]?=some p→vs[i]?=some v→RepA σ h w p v
 |_::_,_::_,r,0,p,v,hp,hv=>by simp at hp hv;subst hp;subst hv;exact r.1
 |_::_,_::_,r,i+1,p,v,hp,hv=>RepAs.at r.2 i p v (by simpa using hp) (by simpa using hv)
 |[],_::_,r,_,_,_,_,_=>r.elim
 |_::_,[],r,_,_,_,_,_=>r.elim
theorem RepAs.mk:∀{l:List AV} {vs:List Value},l.length=vs.length→(∀(i:Nat) (p:AV) (v:Value),l[i]?=some p→vs[i]?=some v→RepA σ h w p v)→RepAs σ h w l vs
 |[],[],_,_=>trivial
 |_::_,_::_,e,f=>⟨f 0 _ _ rfl rfl,RepAs.mk (by simpa using e) fun i p v hp hv=>f (i+1) p v (by simpa using hp) (by simpa using hv)⟩
 |[],_::_,e,_=>by simp at e
 |_::_,[],e,_=>by simp at e
theorem RepAs.get {l:List AV} {vs:List Value} (r:RepAs σ h w l vs) {i:Nat} {p:AV} (hp:l[i]?=some p):∃v,vs[i]?=some v∧RepA σ h w p v:=by
 have hl:=r.length
 have hi:i<vs.length:=by rw [←hl];exact (List.getElem?_eq_some_iff.1 hp).1
 exact ⟨vs[i],List.getElem?_eq_getElem hi,r.at i p _ hp (List.getElem?_eq_getElem hi)⟩
theorem RepAs.take {l:List AV} {vs:List Value} (r:RepAs σ h w l vs) (n:Nat):RepAs σ h w (l.take n) (vs.take n):=by
 induction l generalizing vs n with
 |nil=>cases vs with
  |nil=>simp [RepAs]
  |cons _ _=>exact r.elim
 |cons p l ih=>cases vs with
  |nil=>exact r.elim
  |cons v vs=>cases n with
   |zero=>simp [RepAs]
   |succ n=>exact ⟨r.1,ih r.2 n⟩
theorem RepAs.drop {l:List AV} {vs:List Value} (r:RepAs σ h w l vs) (n:Nat):RepAs σ h w (l.drop n) (vs.drop n):=by
 induction l generalizing vs n with
 |nil=>cases vs with
  |nil=>simp [RepAs]
  |cons _ _=>exact r.elim
 |cons p l ih=>cases vs with
  |nil=>exact r.elim
  |cons v vs=>cases n with
   |zero=>exact r
   |succ n=>exact ih r.2 n
theorem RepAs.append {l l':List AV} {vs vs':List Value} (r:RepAs σ h w l vs) (r':RepAs σ h w l' vs'):RepAs σ h w (l++l') (vs++vs'):=by
 induction l generalizing vs with
 |nil=>cases vs with
  |nil=>exact r'
  |cons _ _=>exact r.elim
 |cons p l ih=>cases vs with
  |nil=>exact r.elim
  |cons v vs=>exact ⟨r.1,ih r.2⟩
theorem RepAs.set {l:List AV} {vs:List Value} (r:RepAs σ h w l vs) (i:Nat) {a:AV} {v:Value} (ha:RepA σ h w a v):RepAs σ h w (l.set i a) (vs.set i v):=by
 induction l generalizing vs i with
 |nil=>cases vs with
  |nil=>simp [RepAs]
  |cons _ _=>exact r.elim
 |cons p l ih=>cases vs with
  |nil=>exact r.elim
  |cons u vs=>cases i with
   |zero=>exact ⟨ha,r.2⟩
   |succ i=>exact ⟨r.1,ih r.2 i⟩
theorem RepT.cells_scalar {t:Ty} (ht:∀i,t≠.st i) {x:t.den} {v:Value} (r:RepT fz w t x v):RepPs fz w (enc t x) [v]:=by
 cases t with
 |st i=>exact absurd rfl (ht i)
 |_=>exact r
theorem toTy_rep {t:Ty} {a:AV} {x:t.den} {v:Value} (e:toTy t a=some x) (r:RepA σ h w a v):RepT σ.fz w t x v:=by
 unfold toTy at e
 split at e
 ·split at e
  ·rename_i hh;subst hh;obtain rfl:=Option.some.inj e;exact r
  ·cases e
 ·split at e
  ·obtain rfl:=Option.some.inj e
   have r:v=.slice none 0 0:=r
   subst r
   exact ⟨.sl0 none 0,trivial⟩
  ·cases e
 ·cases e
theorem int_cell {a:AV} {n:Int} {v:Value} (e:toTy i64 a=some n) (r:RepA σ h w a v):RepP σ.fz w (.int .i64 n) v:=by
 rw [repT_int (toTy_rep e r)];exact .int _ _
theorem sl_cell {t:Ty} {a:AV} {l:List t.den} {v:Value} (e:toTy (.sl t) a=some l) (r:RepA σ h w a v):RepP σ.fz w (.sl (l.map (enc t))) v:=(toTy_rep e r).1
theorem mkSt_rep {i:Nat} {cs:List AV} {x:stDen i} {vs:List Value} (e:mkSt i cs=some x) (r:RepAs σ h w cs vs):RepPs σ.fz w (enc (.st i) x) vs:=by
 unfold mkSt at e
 split at e
 all_goals (try (cases e;done))
 all_goals (repeat' (split at e))
 all_goals (first|(cases e;done)|skip)
 all_goals obtain rfl:=Option.some.inj e
 ·match vs,r with
  |[u,v],r=>exact ⟨int_cell ‹_› r.1,int_cell ‹_› r.2.1,trivial⟩
 ·match vs,r with
  |[u,v,z],r=>
   refine ⟨int_cell ‹_› r.1,int_cell ‹_› r.2.1,?_,trivial⟩
   have:=sl_cell ‹_› r.2.2.1
   rw [encTrees_eq];exact this
 ·match vs,r with
  |[u],r=>exact ⟨sl_cell (t:=.sl (.st 0)) ‹_› r.1,trivial⟩
 ·match vs,r with
  |[u,v,z,y],r=>
   refine ⟨int_cell ‹_› r.1,int_cell ‹_› r.2.1,int_cell ‹_› r.2.2.1,?_,trivial⟩
   have:=sl_cell ‹_› r.2.2.2.1
   rw [encTrees_eq];exact this
 ·match vs,r with
  |[u,v,z],r=>exact ⟨sl_cell (t:=i64) ‹_› r.1,sl_cell (t:=i64) ‹_› r.2.1,sl_cell (t:=i64) ‹_› r.2.2.1,trivial⟩
 ·match vs,r with
  |[u,v,z],r=>exact ⟨sl_cell (t:=i64) ‹_› r.1,sl_cell (t:=.bool) ‹_› r.2.1,sl_cell (t:=.bool) ‹_› r.2.2.1,trivial⟩
theorem P_int {n:Int} {v:Value} (r:RepP σ.fz w (.int .i64 n) v):RepA σ h w (.tv i64 n) v:=⟨r,trivial⟩
theorem P_sl {t:Ty} {l:List t.den} {v:Value} (r:RepP σ.fz w (.sl (l.map (enc t))) v):RepA σ h w (.tv (.sl t) l) v:=⟨r,trivial⟩
theorem cellsAV_rep:∀{t:Ty} {x:t.den} {vs:List Value},RepPs σ.fz w (enc t x) vs→RepAs σ h w (cellsAV t x) vs
 |.bool,x,[v],r=>⟨r,trivial⟩
 |.int k,x,[v],r=>⟨r,trivial⟩
 |.str,x,[v],r=>⟨r,trivial⟩
 |.sl t,x,[v],r=>⟨r,trivial⟩
 |.st 0,x,[u,v],r=>⟨P_int r.1,P_int r.2.1,trivial⟩
 |.st 1,.mk o n ps,[u,v,z],r=>⟨P_int r.1,P_int r.2.1,P_sl (t:=.st 1) (by have:=r.2.2.1;rw [encTrees_eq] at this;exact this),trivial⟩
 |.st 2,x,[u],r=>⟨P_sl (t:=.sl (.st 0)) r.1,trivial⟩
 |.st 3,⟨a,.mk o n ps⟩,[u,v,z,y],r=>⟨P_int r.1,P_int r.2.1,P_int r.2.2.1,P_sl (t:=.st 1) (by have:=r.2.2.2.1;rw [encTrees_eq] at this;exact this),trivial⟩
 |.st 4,x,[u,v,z],r=>⟨P_sl (t:=i64) r.1,P_sl (t:=i64) r.2.1,P_sl (t:=i64) r.2.2.1,trivial⟩
 |.st 5,x,[u,v,z],r=>⟨P_sl (t:=i64) r.1,P_sl (t:=.bool) r.2.1,P_sl (t:=.bool) r.2.2.1,trivial⟩
 |.st (_+6),x,[],r=>trivial
 |.st (_+6),x,_::_,r=>r.elim
 |.bool,x,[],r=>r.elim
 |.bool,x,_::_::_,r=>r.2.elim
 |.int k,x,[],r=>r.elim
 |.int k,x,_::_::_,r=>r.2.elim
 |.str,x,[],r=>r.elim
 |.str,x,_::_::_,r=>r.2.elim
 |.sl t,x,[],r=>r.elim
 |.sl t,x,_::_::_,r=>r.2.elim
 |.st 0,x,[],r=>r.elim
 |.st 0,x,[_],r=>r.2.elim
 |.st 0,x,_::_::_::_,r=>r.2.2.elim
 |.st 1,.mk o n ps,[],r=>r.elim
 |.st 1,.mk o n ps,[_],r=>r.2.elim
 |.st 1,.mk o n ps,[_,_],r=>r.2.2.elim
 |.st 1,.mk o n ps,_::_::_::_::_,r=>r.2.2.2.elim
 |.st 2,x,[],r=>r.elim
 |.st 2,x,_::_::_,r=>r.2.elim
 |.st 3,⟨a,.mk o n ps⟩,[],r=>r.elim
 |.st 3,⟨a,.mk o n ps⟩,[_],r=>r.2.elim
 |.st 3,⟨a,.mk o n ps⟩,[_,_],r=>r.2.2.elim
 |.st 3,⟨a,.mk o n ps⟩,[_,_,_],r=>r.2.2.2.elim
 |.st 3,⟨a,.mk o n ps⟩,_::_::_::_::_::_,r=>r.2.2.2.2.elim
 |.st 4,x,[],r=>r.elim
 |.st 4,x,[_],r=>r.2.elim
 |.st 4,x,[_,_],r=>r.2.2.elim
 |.st 4,x,_::_::_::_::_,r=>r.2.2.2.elim
 |.st 5,x,[],r=>r.elim
 |.st 5,x,[_],r=>r.2.elim
 |.st 5,x,[_,_],r=>r.2.2.elim
 |.st 5,x,_::_::_::_::_,r=>r.2.2.2.elim
end
end Go.Proofs.YtfdcjocallblcaaGreatDoor.Ev
