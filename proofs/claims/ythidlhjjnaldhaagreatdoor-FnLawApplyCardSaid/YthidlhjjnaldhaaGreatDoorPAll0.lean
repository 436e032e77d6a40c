/- Plain laws, in one text. -/
import Derived.Test.YthidlhjjnaldhaaGreatDoorLW5c
import Derived.Test.YthidlhjjnaldhaaGreatDoorEvZ
import Derived.KernelRfl
import Derived.Test.YthidlhjjnaldhaaGreatDoorEvSort
namespace Go.Proofs.YthidlhjjnaldhaaGreatDoor.Ev
open Go
set_option linter.unusedVariables false
set_option linter.unusedSimpArgs false
theorem act1_ok (L N:Nat) (n:Int):f121 L N n=some (decide (-4≤n∧n≤4)):=by
 show f121.b L N some n=_
 unfold f121.b f121.b'
 by_cases h:n≥-4
 ·rw [dt h,cond_true];congr 1;by_cases h2:n≤4
  ·rw [dt h2,dt (by omega)]
  ·rw [df h2,df (by omega)]
 ·rw [df h,cond_false,df (by omega)]
theorem in_ok (L N:Nat) (n a b:Int):f54 L N n a b=some (decide (a≤n∧n≤b)):=by
 show f54.b L N some n a b=_
 unfold f54.b f54.b'
 by_cases h:n≥a
 ·rw [dt h,cond_true];congr 1;by_cases h2:n≤b
  ·rw [dt h2,dt (by omega)]
  ·rw [df h2,df (by omega)]
 ·rw [df h,cond_false,df (by omega)]
theorem act2_ok (L N:Nat) (n:Int):f118 L N n=some (decide (-4≤n∧n≤4)):=by
 show f118.b L N some n=_
 unfold f118.b f118.b'
 rw [in_ok];rfl
def gsize (ms:List (List Move)):Nat:=(ms.map List.length).sum
theorem gsize_row {ms:List (List Move)}:∀r∈ms,r.length≤gsize ms:=by
 intro r hr
 unfold gsize
 induction ms with
 |nil=>cases hr
 |cons a ms ih=>
  rw [List.map_cons,List.sum_cons]
  rcases List.mem_cons.1 hr with rfl|hr
  ·omega
  ·have:=ih hr;omega
theorem allN_true (k i:Nat):allN (fun _=>true) k i=true:=by
 induction k generalizing i with
 |zero=>rfl
 |succ k ih=>exact ih (i+1)
def lessM (a b:Move):Bool:=decide (a.act<b.act∨(a.act=b.act∧a.to<b.to))
def mvOk (n:Nat) (m:Move):Bool:=decide (-4≤m.act∧m.act≤4)&&decide (0≤m.to∧m.to<(n:Int))
def atOk (n:Nat) (r:List Move) (k:Nat):Bool:=mvOk n (r.getD k ⟨0,0⟩)&&(decide (k=0)||lessM (r.getD (k-1) ⟨0,0⟩) (r.getD k ⟨0,0⟩))
def rowOk (n:Nat) (r:List Move):Bool:=allN (atOk n r) r.length 0
def graphOk (g:Graph):Bool:=decide (1≤g.moves.length∧g.moves.length≤60)&&allN (fun i=>rowOk g.moves.length (g.moves.getD i [])) g.moves.length 0
theorem atD {α:Type} (x:List α) (d:α) (i:Nat):listAt x d i=x.getD i d:=rfl
theorem cmp_ok (L N:Nat) (a b:Int):f143 L N a b=some (if a<b then -1 else if a>b then 1 else 0):=by
 show f143.b L N some a b=_
 unfold f143.b f143.b'
 have h0:∀a,f184 L N a=some false:=fun a=>by
  show f184.b L N some a=_
  unfold f184.b f184.b'
  simp
 simp only [h0,Option.bind_some,cond_false]
 by_cases h:a<b
 ·rw [dt h,cond_true,if_pos h]
 ·rw [df h,cond_false,if_neg h]
  by_cases h2:a>b
  ·rw [dt h2,cond_true,if_pos h2]
  ·rw [df h2,cond_false,if_neg h2]
theorem byMove_ok (L N:Nat) (a b:Move):∃r:Int,f109 L N a b=some r∧decide (r≥0)=!lessM a b:=by
 show ∃r,f109.b L N some a b=some r∧_
 unfold f109.b f109.b' lessM
 simp only [cmp_ok,Option.bind_some]
 by_cases h:a.act<b.act
 ·rw [if_pos h]
  exact ⟨-1,rfl,by rw [dt (show a.act<b.act∨_ from .inl h)];rfl⟩
 ·rw [if_neg h]
  by_cases h2:a.act>b.act
  ·rw [if_pos h2]
   exact ⟨1,rfl,by rw [df (show ¬(a.act<b.act∨a.act=b.act∧a.to<b.to) by omega)];rfl⟩
  ·rw [if_neg h2]
   refine ⟨_,rfl,?_⟩
   by_cases h3:a.to<b.to
   ·rw [if_pos h3,dt (show a.act<b.act∨a.act=b.act∧a.to<b.to by omega)];rfl
   ·rw [if_neg h3,df (show ¬(a.act<b.act∨a.act=b.act∧a.to<b.to) by omega)]
    by_cases h4:a.to>b.to
    ·rw [if_pos h4];rfl
    ·rw [if_neg h4];rfl
end Go.Proofs.YthidlhjjnaldhaaGreatDoor.Ev
namespace Go.Proofs.YthidlhjjnaldhaaGreatDoor.Ev
open Go
set_option linter.unusedVariables false
def BOk (c:List Int):Prop:=c.length≤2000∧∀b∈c,0≤b∧b≤255
theorem BOk.at {c:List Int} (h:BOk c) (i:Nat):0≤listAt c (0:Int) i∧listAt c (0:Int) i≤255:=by
 by_cases hi:i<c.length
 ·rw [at_lt hi];exact h.2 _ (List.getElem_mem hi)
 ·have:listAt c (0:Int) i=0:=by
   unfold listAt
   rw [List.getD_eq_getElem?_getD,List.getElem?_eq_none (by omega)];rfl
  omega
theorem xor_nonneg {a b:Int} (a0:0≤a) (a1:a<9223372036854775808) (b0:0≤b) (b1:b<9223372036854775808):
  0≤IntKind.wrap .i64 ((BitVec.ofInt (IntKind.bits .i64) a^^^BitVec.ofInt (IntKind.bits .i64) b).toNat):=by
 have key:((BitVec.ofInt (IntKind.bits .i64) a^^^BitVec.ofInt (IntKind.bits .i64) b).toNat)<9223372036854775808:=by
  rw [BitVec.toNat_xor]
  have h1:(BitVec.ofInt (IntKind.bits .i64) a).toNat<2^63:=by
   rw [BitVec.toNat_ofInt]
   have:((2^IntKind.bits .i64:Nat):Int)=18446744073709551616:=by decide
   rw [this];omega
  have h2:(BitVec.ofInt (IntKind.bits .i64) b).toNat<2^63:=by
   rw [BitVec.toNat_ofInt]
   have:((2^IntKind.bits .i64:Nat):Int)=18446744073709551616:=by decide
   rw [this];omega
  have:=Nat.xor_lt_two_pow h1 h2
  omega
 have:=wi_id (n:=((BitVec.ofInt (IntKind.bits .i64) a^^^BitVec.ofInt (IntKind.bits .i64) b).toNat:Int)) (by omega) (by omega)
 unfold wi at this
 rw [this];omega
theorem tmod_range {x n:Int} (h0:0≤x) (h1:1≤n):0≤Int.tmod x n∧Int.tmod x n<n:=
 ⟨Int.tmod_nonneg n h0,Int.tmod_lt_of_pos x (by omega)⟩
theorem pick_ok (L N:Nat) {c:List Int} (hb:BOk c) {p n:Int} (p0:0≤p) (p1:p≤1099511627776) (n1:1≤n):∃r,f49 L N c p n=some (r,c,p+1)∧0≤r∧r<n:=by
 show ∃r,f49.b L N (fun a0 a1 a2=>some (a0,a1,a2)) c p n=_∧_
 unfold f49.b f49.b' f49.j0'
 have hw:wi (p+1)=p+1:=wi_id (by omega) (by omega)
 have hw1:wi (p+1-1)=p:=by
  have h1:p+1-1=p:=by omega
  rw [h1];exact wi_id (by omega) (by omega)
 rw [df (show ¬n<1 by omega),cond_false,hw,hw1]
 have hl:=hb.1
 by_cases he:c.length=0
 ·have:((c.length:Int)==0)=true:=by rw [beq_iff_eq];omega
  rw [this,cond_true]
  exact ⟨0,rfl,by omega,by omega⟩
 ·have:((c.length:Int)==0)=false:=by simp;intro h;simp [h] at he
  rw [this,cond_false]
  by_cases hlt:p<(c.length:Int)
  ·rw [dt hlt,cond_true,dt p0,Bool.true_and,cond_true,df (show ¬n=0 by omega),cond_false]
   have:=hb.at p.toNat
   rw [wi_id (by omega) (by omega)]
   have:=tmod_range this.1 n1
   exact ⟨_,rfl,this.1,this.2⟩
  ·rw [df hlt,cond_false]
   have hq:=tmod_range (n:=(c.length:Int)) p0 (by omega)
   have h7:wi (wi (p*7)+3)=p*7+3:=by rw [wi_id (n:=p*7) (by omega) (by omega),wi_id (by omega) (by omega)]
   have hr:=tmod_range (x:=p*7+3) (n:=(c.length:Int)) (by omega) (by omega)
   rw [df (show ¬(c.length:Int)=0 by omega),cond_false,dt hq.1,dt hq.2,Bool.true_and,cond_true,h7,dt hr.1,dt hr.2,Bool.true_and,cond_true,df (show ¬n=0 by omega)]
   simp only [cond_false,show decide ((64:Int)=0)=false from rfl]
   have b1:=hb.at (Int.tmod p (c.length:Int)).toNat
   have b2:=hb.at (Int.tmod (p*7+3) (c.length:Int)).toNat
   generalize listAt c (0:Int) (Int.tmod p (c.length:Int)).toNat=x1 at b1⊢
   generalize listAt c (0:Int) (Int.tmod (p*7+3) (c.length:Int)).toNat=x2 at b2⊢
   have hd0:0≤Int.tdiv p (c.length:Int):=Int.tdiv_nonneg p0 (by omega)
   have hd1:Int.tdiv p (c.length:Int)≤p:=Int.tdiv_le_self _ p0
   generalize Int.tdiv p (c.length:Int)=q at hd0 hd1⊢
   rw [wi_id (n:=x1) (by omega) (by omega),wi_id (n:=x2) (by omega) (by omega),wi_id (n:=x1*131) (by omega) (by omega),wi_id (n:=x2*1117) (by omega) (by omega),wi_id (n:=x1*131+x2*1117) (by omega) (by omega),
    wi_id (n:=p*29) (by omega) (by omega),wi_id (n:=x1*131+x2*1117+p*29) (by omega) (by omega),wi_id (n:=q) (by omega) (by omega),wi_id (n:=q*53) (by omega) (by omega),wi_id (n:=x1*131+x2*1117+p*29+q*53) (by omega) (by omega)]
   have ha0:0≤x1*131+x2*1117+p*29+q*53:=by omega
   have ha1:x1*131+x2*1117+p*29+q*53<1000000000000000:=by omega
   generalize x1*131+x2*1117+p*29+q*53=a at ha0 ha1⊢
   have hs0:0≤Int.tdiv a 64:=Int.tdiv_nonneg ha0 (by omega)
   have hs1:Int.tdiv a 64≤a:=Int.tdiv_le_self _ ha0
   generalize Int.tdiv a 64=s at hs0 hs1⊢
   rw [wi_id (n:=s) (by omega) (by omega)]
   have:=tmod_range (xor_nonneg ha0 (by omega) hs0 (by omega)) n1
   exact ⟨_,rfl,this.1,this.2⟩
theorem open_ok (L N:Nat) {x:List Int} (hx:DatOk (.sl (.int .u8)) x):∃c,f33 L N x=some (c,0)∧BOk c:=by
 have hb:∀b∈x,0≤b∧b≤255:=by
  intro b hb
  have h1:=hx (.sl (x.map fun n=>[.int .u8 n])) (by simp only [enc,List.mem_cons,List.not_mem_nil,or_false])
  cases h1 with|sl _ h1 h2=>
  have h3:=h2 [.int .u8 b] (List.mem_map.2 ⟨b,hb,rfl⟩) (.int .u8 b) (.head _)
  cases h3 with|int _ _ h3=>
  simp only [Lit.wf,Bool.and_eq_true,decide_eq_true_eq] at h3
  exact h3
 show ∃c,f33.b L N (fun a0 a1=>some (a0,a1)) x=_∧_
 unfold f33.b f33.b'
 by_cases h:(x.length:Int)>2000
 ·rw [dt h,cond_true]
  have hs:slB (0:Int) (2000:Int) x.length=true:=by
   unfold slB
   rw [dt (show (0:Int)≤0 by omega),dt (show (0:Int)≤2000 by omega),dt (show (2000:Int)≤(x.length:Int) by omega)];rfl
  rw [hs,cond_true]
  refine ⟨_,rfl,?_,fun b hb'=>?_⟩
  ·unfold slX
   rw [List.length_take]
   have:(2000:Int).toNat-(0:Int).toNat=2000:=rfl
   rw [this];omega
  ·unfold slX at hb'
   exact hb b (List.mem_of_mem_drop (List.mem_of_mem_take hb'))
 ·rw [df h,cond_false]
  exact ⟨x,rfl,by omega,hb⟩
theorem do_ok (L N:Nat) {c:List Int} (hb:BOk c) {p:Int} (p0:0≤p) (p1:p≤1099511600000):∃r,f64 L N c p=some (r,c,p+2)∧-4≤r∧r≤4:=by
 show ∃r,f64.b L N (fun a0 a1 a2=>some (a0,a1,a2)) c p=_∧_
 unfold f64.b f64.b'
 obtain ⟨r,hr,r0,r1⟩:=pick_ok L N hb p0 (by omega) (show (1:Int)≤3 by omega)
 rw [hr]
 simp only [Option.bind_some]
 by_cases h:r>0
 ·rw [dt h,cond_true]
  obtain ⟨s,hs,s0,s1⟩:=pick_ok L N hb (p:=p+1) (by omega) (by omega) (show (1:Int)≤5 by omega)
  rw [hs]
  simp only [Option.bind_some]
  rw [wi_id (by omega) (by omega)]
  exact ⟨_,by rw [show p+1+1=p+2 by omega],by omega,by omega⟩
 ·rw [df h,cond_false]
  obtain ⟨s,hs,s0,s1⟩:=pick_ok L N hb (p:=p+1) (by omega) (by omega) (show (1:Int)≤9 by omega)
  rw [hs]
  simp only [Option.bind_some]
  rw [wi_id (by omega) (by omega)]
  exact ⟨_,by rw [show p+1+1=p+2 by omega],by omega,by omega⟩
end Go.Proofs.YthidlhjjnaldhaaGreatDoor.Ev
namespace Go.Proofs.YthidlhjjnaldhaaGreatDoor.Ev
open Go
set_option linter.unusedVariables false
mutual
def nodes:Tree→Nat
 |.mk _ _ ps=>1+nodess ps
def nodess:List Tree→Nat
 |[]=>0
 |p::r=>nodes p+nodess r
end
theorem nodes_pos (t:Tree):1≤nodes t:=by cases t;simp [nodes]
theorem nodess_len:∀ps:List Tree,ps.length≤nodess ps
 |[]=>by simp
 |p::r=>by have:=nodess_len r;have:=nodes_pos p;simp [nodess];omega
theorem nodess_drop {ps:List Tree} {i:Nat} (h:i<ps.length):nodess (ps.drop i)=nodes ps[i]+nodess (ps.drop (i+1)):=by
 rw [List.drop_eq_getElem_cons h];rfl
theorem nodess_drop_le:∀(ps:List Tree) (i:Nat),nodess (ps.drop i)≤nodess ps
 |[],i=>by simp
 |p::r,0=>by simp
 |p::r,i+1=>by have:=nodess_drop_le r i;simp [nodess];omega
theorem nodes_get {ps:List Tree} {i:Nat} (h:i<ps.length):nodes ps[i]≤nodess ps:=by
 have h1:=nodess_drop h
 have h2:=nodess_drop_le ps i
 omega
end Go.Proofs.YthidlhjjnaldhaaGreatDoor.Ev
namespace Go.Proofs.YthidlhjjnaldhaaGreatDoor.Ev
open Go
set_option linter.unusedVariables false
set_option linter.unusedSimpArgs false
theorem tree_eta (t:Tree):Tree.mk t.op t.n t.parts=t:=by cases t;rfl
theorem nodes_mk (o n:Int) (t:Tree):nodes (Tree.mk o n t.parts)=nodes t:=by cases t;simp [nodes,Tree.parts]
theorem pow3_pos (d:Nat):1≤3^d:=Nat.one_le_pow _ _ (by omega)
theorem pow2_pos (d:Nat):1≤2^d:=Nat.one_le_pow _ _ (by omega)
theorem good_draw (L N:Nat) {c:List Int} (hb:BOk c):∀(m d:Nat) (p n:Int) (b:Bool),d<m→d≤6→0≤p→p+20*((3^d:Nat):Int)≤1099511000000→0≤n→
  ∃t p',f80 L N m c p (d:Int) n b=some (t,c,p')∧p≤p'∧p'≤p+20*((3^d:Nat):Int)∧nodes t+1≤3*2^d:=by
 intro m
 induction m with
 |zero=>intro d p n b h;omega
 |succ m ih=>
  intro d p n b hdm hd p0 pb n0
  have h3:=pow3_pos d
  have h2:=pow2_pos d
  show ∃t p',f80.b L N (f80 L N m) (fun a0 a1 a2=>some (a0,a1,a2)) c p (d:Int) n b=_∧_
  unfold f80.b f80.b'
  have tail:∀(v q:Int) (call:Bool),0≤v→(d=0→v<2)→p≤q→q≤p+2→(call=true→0<n)→(v=0∨1≤v)→
    ∃t p',f80.j0' L N (f80 L N m) (fun a0 a1 a2=>some (a0,a1,a2)) (d:Int) n b v call c q (0:Int) (0:Int)=some (t,c,p')∧p≤p'∧p'≤p+20*((3^d:Nat):Int)∧nodes t+1≤3*2^d:=by
   intro v q call v0 vd hq0 hq1 hcall _
   unfold f80.j0'
   cases call with
   |true=>
    rw [cond_true]
    obtain ⟨r,hr,r0,r1⟩:=pick_ok L N hb (p:=q) (n:=n) (by omega) (by omega) (by have:=hcall rfl;omega)
    rw [hr]
    simp only [Option.bind_some]
    exact ⟨_,_,rfl,by omega,by omega,by simp only [nodes,nodess];omega⟩
   |false=>
    rw [cond_false]
    by_cases hv0:v=0
    ·rw [show (v==0)=true by simpa using hv0,cond_true]
     exact ⟨_,_,rfl,by omega,by omega,by simp only [nodes,nodess];omega⟩
    ·rw [show (v==0)=false by simpa using hv0,cond_false]
     by_cases hv5:v<5
     ·rw [dt hv5,cond_true]
      obtain ⟨r,hr,r0,r1⟩:=do_ok L N hb (p:=q) (by omega) (by omega)
      rw [hr]
      simp only [Option.bind_some]
      by_cases hdz:d=0
      ·subst hdz
       rw [show (((0:Nat):Int)==0)=true from rfl,cond_true]
       exact ⟨_,_,rfl,by omega,by omega,by simp [nodes,nodess]⟩
      ·obtain ⟨d',rfl⟩:∃d',d=d'+1:=⟨d-1,by omega⟩
       have hpw:((3^(d'+1):Nat):Int)=3*((3^d':Nat):Int):=by rw [Nat.pow_succ];omega
       have hpw2:2^(d'+1)=2*2^d':=by rw [Nat.pow_succ];omega
       have hw:wi (((d'+1:Nat):Int)-1)=(d':Int):=by rw [wi_id (by omega) (by omega)];omega
       have h3':=pow3_pos d'
       rw [show ((((d'+1:Nat):Int))==0)=false by simp;omega,cond_false,hw]
       have hmax:(bif decide ((d':Int)>0) then (d':Int) else 0)=(d':Int):=by
        by_cases h:(d':Int)>0
        ·rw [dt h,cond_true]
        ·rw [df h,cond_false];omega
       rw [hmax]
       obtain ⟨t,p',e,e1,e2,e3⟩:=ih d' (q+2) n true (by omega) (by omega) (by omega) (by omega) n0
       rw [e]
       simp only [Option.bind_some]
       exact ⟨_,_,rfl,by omega,by omega,by simp only [nodes,nodess];omega⟩
     ·rw [df hv5,cond_false]
      have hdz:d≠0:=fun h=>by have:=vd h;omega
      obtain ⟨d',rfl⟩:∃d',d=d'+1:=⟨d-1,by omega⟩
      have hpw:((3^(d'+1):Nat):Int)=3*((3^d':Nat):Int):=by rw [Nat.pow_succ];omega
      have hpw2:2^(d'+1)=2*2^d':=by rw [Nat.pow_succ];omega
      have hw:wi (((d'+1:Nat):Int)-1)=(d':Int):=by rw [wi_id (by omega) (by omega)];omega
      have h3':=pow3_pos d'
      by_cases hv5':v=5
      ·rw [show (v==5)=true by simpa using hv5',cond_true]
       obtain ⟨r,hr,r0,r1⟩:=pick_ok L N hb (p:=q) (n:=4) (by omega) (by omega) (by omega)
       rw [hr]
       simp only [Option.bind_some,hw]
       obtain ⟨t,p',e,e1,e2,e3⟩:=ih d' (q+1) n b (by omega) (by omega) (by omega) (by omega) n0
       rw [e]
       simp only [Option.bind_some]
       exact ⟨_,_,rfl,by omega,by omega,by simp only [nodes,nodess];omega⟩
      ·rw [show (v==5)=false by simpa using hv5',cond_false,hw]
       obtain ⟨t,p',e,e1,e2,e3⟩:=ih d' q n b (by omega) (by omega) (by omega) (by omega) n0
       obtain ⟨t2,p2,f,f1,f2,f3⟩:=ih d' p' n b (by omega) (by omega) (by omega) (by omega) n0
       rw [e]
       simp only [Option.bind_some,f,tree_eta]
       cases hv8:(v==8) with
       |true=>
        rw [cond_true]
        exact ⟨_,_,rfl,by omega,by omega,by simp only [nodes,nodess];omega⟩
       |false=>
        rw [cond_false]
        exact ⟨_,_,rfl,by omega,by omega,by simp only [nodes,nodess];omega⟩
  have mid:∀(v q:Int),0≤v→(d=0→v<2)→p≤q→q≤p+2→
    ∃t p',f80.j1' L N (f80 L N m) (fun a0 a1 a2=>some (a0,a1,a2)) (d:Int) n b v c q (0:Int) (0:Int)=some (t,c,p')∧p≤p'∧p'≤p+20*((3^d:Nat):Int)∧nodes t+1≤3*2^d:=by
   intro v q v0 vd hq0 hq1
   unfold f80.j1'
   by_cases h2':v<2
   ·rw [dt h2',cond_true]
    by_cases hn:n>0
    ·rw [dt hn,cond_true]
     exact tail v q b v0 vd hq0 hq1 (fun _=>by omega) (by omega)
    ·rw [df hn,cond_false]
     exact tail v q false v0 vd hq0 hq1 (fun h=>by cases h) (by omega)
   ·rw [df h2',cond_false]
    exact tail v q false v0 vd hq0 hq1 (fun h=>by cases h) (by omega)
  obtain ⟨r,hr,r0,r1⟩:=pick_ok L N hb (p:=p) (n:=9) p0 (by omega) (by omega)
  rw [hr]
  simp only [Option.bind_some]
  by_cases hdz:d=0
  ·subst hdz
   obtain ⟨s,hs,s0,s1⟩:=pick_ok L N hb (p:=p+1) (n:=2) (by omega) (by omega) (by omega)
   rw [show (((0:Nat):Int)==0)=true from rfl,cond_true,hs]
   simp only [Option.bind_some]
   exact mid s (p+1+1) s0 (fun _=>s1) (by omega) (by omega)
  ·rw [show ((d:Int)==0)=false by simp;omega,cond_false]
   exact mid r (p+1) r0 (fun h=>absurd h hdz) (by omega) (by omega)
theorem term_draw (L N:Nat) (hN:8≤N) {c:List Int} (hb:BOk c) {p n:Int} (p0:0≤p) (pb:p≤1000000000) (n0:0≤n):
  ∃t p',f47 L N c p n=some (t,c,p')∧p≤p'∧p'≤p+10000∧nodes t≤50:=by
 show ∃t p',f47.b' L N (fun a0 a1 a2=>some (a0,a1,a2)) c p n=_∧_
 unfold f47.b'
 obtain ⟨r,hr,r0,r1⟩:=pick_ok L N hb (p:=p) (n:=4) p0 (by omega) (by omega)
 obtain ⟨k,rfl⟩:=Int.eq_ofNat_of_zero_le r0
 have hw:wi (1+(k:Int))=((k+1:Nat):Int):=by rw [wi_id (by omega) (by omega)];omega
 have h3:((3^(k+1):Nat):Int)≤81:=by have:=Nat.pow_le_pow_right (n:=3) (by omega) (show k+1≤4 by omega);omega
 have h2:2^(k+1)≤16:=by have:=Nat.pow_le_pow_right (n:=2) (by omega) (show k+1≤4 by omega);omega
 obtain ⟨t,p',e,e1,e2,e3⟩:=good_draw L N hb N (k+1) (p+1) n false (by omega) (by omega) (by omega) (by omega) n0
 obtain ⟨s,hs,s0,s1⟩:=pick_ok L N hb (p:=p') (n:=24) (by omega) (by omega) (by omega)
 rw [hr]
 simp only [Option.bind_some,hw,e,hs,tree_eta]
 by_cases q0:s=0
 ·rw [show (s==0)=true by simpa using q0,cond_true]
  exact ⟨_,_,rfl,by omega,by omega,by rw [nodes_mk];omega⟩
 ·rw [show (s==0)=false by simpa using q0,cond_false]
  by_cases q1:s=1
  ·obtain ⟨u,hu,u0,u1⟩:=pick_ok L N hb (p:=p'+1) (n:=8) (by omega) (by omega) (by omega)
   rw [show (s==1)=true by simpa using q1,cond_true,hu]
   simp only [Option.bind_some]
   exact ⟨_,_,rfl,by omega,by omega,by rw [nodes_mk];omega⟩
  ·rw [show (s==1)=false by simpa using q1,cond_false]
   by_cases q2:s=2
   ·rw [show (s==2)=true by simpa using q2,cond_true]
    have hlen:=nodess_len t.parts
    have hnt:nodes t=1+nodess t.parts:=by cases t;rfl
    have hlim:=lim_eq
    have hle:decide (([(Tree.mk (0:Int) (0:Int) [])]:(List Tree)).length+t.parts.length≤lim)=true:=dt (by simp only [List.length_cons,List.length_nil];omega)
    rw [hle,cond_true]
    refine ⟨_,_,rfl,by omega,by omega,?_⟩
    show 1+(nodes (Tree.mk 0 0 [])+nodess t.parts)≤50
    simp only [nodes,nodess]
    omega
   ·rw [show (s==2)=false by simpa using q2,cond_false]
    exact ⟨_,_,rfl,by omega,by omega,by omega⟩
end Go.Proofs.YthidlhjjnaldhaaGreatDoor.Ev
namespace Go.Proofs.YthidlhjjnaldhaaGreatDoor.Ev
open Go
set_option linter.unusedVariables false
set_option linter.unusedSimpArgs false
inductive WT:Tree→Nat→Prop
 |nil:WT (.mk 0 0 []) 1
 |act (n:Int) (t:Tree) (k:Nat) (hn:-4≤n∧n≤4) (h:WT t k):WT (.mk 1 n [t]) (k+1)
 |sum (a b:Tree) (i j:Nat) (ha:WT a i) (hb:WT b j):WT (.mk 2 0 [a,b]) (i+j+1)
 |par (a b:Tree) (i j:Nat) (ha:WT a i) (hb:WT b j):WT (.mk 3 0 [a,b]) (i+j+1)
 |hide (n:Int) (t:Tree) (k:Nat) (hn:0≤n∧n≤3) (h:WT t k):WT (.mk 4 n [t]) (k+1)
 |call (n:Int) (hn:0≤n∧n≤2):WT (.mk 5 n []) 1
theorem WT.pos {t:Tree} {k:Nat} (h:WT t k):1≤k:=by cases h<;>omega
theorem WT.nodes_eq {t:Tree} {k:Nat} (h:WT t k):nodes t=k:=by
 induction h with
 |nil=>simp [nodes,nodess]
 |act n t k hn h ih=>simp only [nodes,nodess];omega
 |sum a b i j ha hb iha ihb=>simp only [nodes,nodess];omega
 |par a b i j ha hb iha ihb=>simp only [nodes,nodess];omega
 |hide n t k hn h ih=>simp only [nodes,nodess];omega
 |call n hn=>simp [nodes,nodess]
inductive CL (n:Int):Bool→Tree→Prop
 |call (b:Bool) (x:Int) (ps:List Tree) (h:x<n):CL n b (.mk 5 x ps)
 |stop (x:Int) (ps:List Tree):CL n true (.mk 1 x ps)
 |node (b:Bool) (o x:Int) (ps:List Tree) (ho:o≠5) (h:∀p∈ps,CL n b p):CL n b (.mk o x ps)
theorem CL.sub {n:Int} {o x:Int} {ps:List Tree} (h:CL n false (.mk o x ps)) (ho:o≠5):∀p∈ps,CL n false p:=by
 cases h with
 |call b x ps h=>exact absurd rfl ho
 |node b o x ps ho h=>exact h
theorem CL.sub2 {n:Int} {o x:Int} {ps:List Tree} (h:CL n true (.mk o x ps)) (ho:o≠5) (h1:o≠1):∀p∈ps,CL n true p:=by
 cases h with
 |call b x ps h=>exact absurd rfl ho
 |stop x ps=>exact absurd rfl h1
 |node b o x ps ho h=>exact h
theorem CL.lt {n:Int} {b:Bool} {x:Int} {ps:List Tree} (h:CL n b (.mk 5 x ps)):x<n:=by
 cases h with
 |call b x ps h=>exact h
 |node b o x ps ho h=>exact absurd rfl ho
theorem l2Nodes_ok (L N:Nat):∀(m:Nat) (t:Tree),nodes t≤m→nodes t<L→∃r:Int,f85 L N m t=some r∧0≤r∧r≤1000∧(1≤r→r<1000→WT t r.toNat):=by
 intro m
 induction m with
 |zero=>intro t h;have:=nodes_pos t;omega
 |succ m ih=>
  intro t ht hL
  obtain ⟨o,x,ps⟩:=t
  simp only [nodes] at ht hL
  have hpl:=nodess_len ps
  show ∃r,f85.b L N (f85 L N m) some (.mk o x ps)=some r∧_
  unfold f85.b f85.b'
  simp only [Tree.op,Tree.n,Tree.parts]
  have sub:∀p∈ps,∃r:Int,f85 L N m p=some r∧0≤r∧r≤1000∧(1≤r→r<1000→WT p r.toNat):=fun p hp=>by
   obtain ⟨i,hi,rfl⟩:=List.mem_iff_getElem.1 hp
   have:=nodes_get hi
   exact ih _ (by omega) (by omega)
  obtain ⟨L',rfl⟩:∃L',L=L'+1:=⟨L-1,by omega⟩
  have fin:∀(c:Nat) (ok:Bool) (P:Prop),c≤2→(ok=true→P)→
    (P→(c=0→ps=[]→WT (.mk o x ps) 1)∧(∀a k,c=1→ps=[a]→WT a k→WT (.mk o x ps) (k+1))∧(∀a b i j,c=2→ps=[a,b]→WT a i→WT b j→WT (.mk o x ps) (i+j+1)))→
    ∃r:Int,f85.j2' (L'+1) N (f85 (L'+1) N m) some (fun s24 s25 s26 s27 s28 s29=>f85.l0 (L'+1) N (f85 (L'+1) N m) (fun z30=>f85.p0_e1 (L'+1) N (f85 (L'+1) N m) some z30) (fun z32 z33=>f85.p0_r (L'+1) N (f85 (L'+1) N m) some z32 z33) (L'+1) s24 s25 s26 s27 s28 s29) (c:Int) ok o x ps=some r∧0≤r∧r≤1000∧(1≤r→r<1000→WT (.mk o x ps) r.toNat):=by
   intro c ok P hc2 hok hP
   unfold f85.j2'
   cases ok with
   |false=>rw [Bool.not_false,cond_true];exact ⟨0,rfl,by omega,by omega,fun h=>by omega⟩
   |true=>
    obtain ⟨w0,w1,w2⟩:=hP (hok rfl)
    rw [Bool.not_true,cond_false]
    by_cases hlen:ps.length=c
    ·rw [show ((ps.length:Int) !=(c:Int))=false by simp [hlen],cond_false]
     unfold f85.j1'
     match ps,hlen,sub,hpl with
     |[],hlen,sub,hpl=>
      have hc:c=0:=by simpa using hlen.symm
      subst hc
      show ∃r,f85.s0 _ N _ _ _ _ _ _ _ _ _ []=some r∧_
      unfold f85.s0 f85.s0'
      rw [show decide ((0:Int)<((0:Nat):Int))=false from rfl,cond_false]
      exact ⟨1,rfl,by omega,by omega,fun _ _=>w0 rfl rfl⟩
     |[a],hlen,sub,hpl=>
      have hc:c=1:=by simpa using hlen.symm
      subst hc
      obtain ⟨r1,a1,a2,a3,a4⟩:=sub a (.head _)
      obtain ⟨L2,rfl⟩:∃L2,L'=L2+1:=⟨L'-1,by simp only [List.length_cons,List.length_nil] at hpl;omega⟩
      show ∃r,f85.s0 _ N _ _ _ _ _ _ _ _ _ [a]=some r∧_
      unfold f85.s0 f85.s0'
      rw [show decide ((0:Int)<((1:Nat):Int))=true from rfl,cond_true]
      simp only [show (decide ((0:Int)≤0)&&decide ((0:Int)<(([a]:List Tree).length:Int)))=true from rfl,cond_true,show listAt [a] (Ty.dflt (.st 1)) (0:Int).toNat=a from rfl,a1,Option.bind_some]
      by_cases hr:r1=0
      ·rw [show (r1==0)=true by simpa using hr,cond_true]
       exact ⟨0,rfl,by omega,by omega,fun h=>by omega⟩
      ·rw [show (r1==0)=false by simpa using hr,cond_false]
       have hw:wi (1+r1)=1+r1:=wi_id (by omega) (by omega)
       show ∃r,f85.s0 _ N _ _ _ _ _ _ _ _ _ [a]=some r∧_
       unfold f85.s0 f85.s0'
       rw [show decide (wi ((0:Int)+1)<((1:Nat):Int))=false from rfl,cond_false,hw]
       refine ⟨_,rfl,?_⟩
       by_cases hb:1+r1<1000
       ·rw [dt hb,cond_true]
        refine ⟨by omega,by omega,fun _ _=>?_⟩
        have:=w1 a r1.toNat rfl rfl (a4 (by omega) (by omega))
        rw [show (1+r1).toNat=r1.toNat+1 by omega];exact this
       ·rw [df hb,cond_false];exact ⟨by omega,by omega,fun _ h=>by omega⟩
     |[a,b],hlen,sub,hpl=>
      have hc:c=2:=by simpa using hlen.symm
      subst hc
      obtain ⟨r1,a1,a2,a3,a4⟩:=sub a (.head _)
      obtain ⟨r2,b1,b2,b3,b4⟩:=sub b (.tail _ (.head _))
      obtain ⟨L2,rfl⟩:∃L2,L'=L2+2:=⟨L'-2,by simp only [List.length_cons,List.length_nil] at hpl;omega⟩
      show ∃r,f85.s0 _ N _ _ _ _ _ _ _ _ _ [a,b]=some r∧_
      unfold f85.s0 f85.s0'
      rw [show decide ((0:Int)<((2:Nat):Int))=true from rfl,cond_true]
      simp only [show (decide ((0:Int)≤0)&&decide ((0:Int)<(([a,b]:List Tree).length:Int)))=true from rfl,cond_true,show listAt [a,b] (Ty.dflt (.st 1)) (0:Int).toNat=a from rfl,a1,Option.bind_some]
      by_cases hr:r1=0
      ·rw [show (r1==0)=true by simpa using hr,cond_true]
       exact ⟨0,rfl,by omega,by omega,fun h=>by omega⟩
      ·rw [show (r1==0)=false by simpa using hr,cond_false]
       have hw:wi (1+r1)=1+r1:=wi_id (by omega) (by omega)
       show ∃r,f85.s0 _ N _ _ _ _ _ _ _ _ _ [a,b]=some r∧_
       unfold f85.s0 f85.s0'
       rw [show decide (wi ((0:Int)+1)<((2:Nat):Int))=true from rfl,cond_true,hw]
       simp only [show (decide ((0:Int)≤wi ((0:Int)+1))&&decide (wi ((0:Int)+1)<(([a,b]:List Tree).length:Int)))=true from rfl,cond_true,show listAt [a,b] (Ty.dflt (.st 1)) (wi ((0:Int)+1)).toNat=b from rfl,b1,Option.bind_some]
       by_cases hr2:r2=0
       ·rw [show (r2==0)=true by simpa using hr2,cond_true]
        exact ⟨0,rfl,by omega,by omega,fun h=>by omega⟩
       ·rw [show (r2==0)=false by simpa using hr2,cond_false]
        show ∃r,f85.s0 _ N _ _ _ _ _ _ _ _ _ [a,b]=some r∧_
        unfold f85.s0 f85.s0'
        rw [show decide (wi (wi ((0:Int)+1)+1)<((2:Nat):Int))=false from rfl,cond_false]
        refine ⟨_,rfl,?_⟩
        by_cases hb:1+r1<1000
        ·rw [dt hb,cond_true,show wi (1+r1+r2)=1+r1+r2 from wi_id (by omega) (by omega)]
         by_cases hb2:1+r1+r2<1000
         ·rw [dt hb2,cond_true]
          refine ⟨by omega,by omega,fun _ _=>?_⟩
          have:=w2 a b r1.toNat r2.toNat rfl rfl (a4 (by omega) (by omega)) (b4 (by omega) (by omega))
          rw [show (1+r1+r2).toNat=r1.toNat+r2.toNat+1 by omega];exact this
         ·rw [df hb2,cond_false];exact ⟨by omega,by omega,fun _ h=>by omega⟩
        ·rw [df hb,cond_false,show wi (1000+r2)=1000+r2 from wi_id (by omega) (by omega),df (by omega),cond_false]
         exact ⟨by omega,by omega,fun _ h=>by omega⟩
     |_::_::_::_,hlen,sub,hpl=>simp at hlen;omega
    ·rw [show ((ps.length:Int) !=(c:Int))=true by simp;omega,cond_true]
     exact ⟨0,rfl,by omega,by omega,fun h=>by omega⟩
  by_cases h0:o=0
  ·subst h0
   rw [show ((0:Int)==0)=true from rfl,cond_true]
   exact fin 0 (x==0) (x=0) (by omega) (by simp) fun hx=>⟨fun _ hp=>by rw [hx,hp];exact .nil,fun _ _ h=>by omega,fun _ _ _ _ h=>by omega⟩
  ·rw [show (o==0)=false by simpa using h0,cond_false]
   by_cases h1:o=1
   ·subst h1
    rw [show ((1:Int)==1)=true from rfl,cond_true,act2_ok,Option.bind_some]
    exact fin 1 _ (-4≤x∧x≤4) (by omega) (fun h=>of_decide_eq_true h) fun hx=>⟨fun h=>by omega,fun a k _ hp hw=>by rw [hp];exact .act x a k hx hw,fun _ _ _ _ h=>by omega⟩
   ·rw [show (o==1)=false by simpa using h1,cond_false]
    by_cases h2:o=2
    ·subst h2
     rw [show ((2:Int)==2)=true from rfl,cond_true]
     unfold f85.j0'
     rw [cond_true]
     exact fin 2 (x==0) (x=0) (by omega) (by simp) fun hx=>⟨fun h=>by omega,fun _ _ h=>by omega,fun a b i j _ hp hi hj=>by rw [hx,hp];exact .sum a b i j hi hj⟩
    ·rw [show (o==2)=false by simpa using h2,cond_false]
     unfold f85.j0'
     by_cases h3:o=3
     ·subst h3
      rw [show ((3:Int)==3)=true from rfl,cond_true]
      exact fin 2 (x==0) (x=0) (by omega) (by simp) fun hx=>⟨fun h=>by omega,fun _ _ h=>by omega,fun a b i j _ hp hi hj=>by rw [hx,hp];exact .par a b i j hi hj⟩
     ·rw [show (o==3)=false by simpa using h3,cond_false]
      by_cases h4:o=4
      ·subst h4
       rw [show ((4:Int)==4)=true from rfl,cond_true,in_ok,Option.bind_some]
       exact fin 1 _ (0≤x∧x≤3) (by omega) (fun h=>of_decide_eq_true h) fun hx=>⟨fun h=>by omega,fun a k _ hp hw=>by rw [hp];exact .hide x a k hx hw,fun _ _ _ _ h=>by omega⟩
      ·rw [show (o==4)=false by simpa using h4,cond_false]
       by_cases h5:o=5
       ·subst h5
        rw [show ((5:Int)==5)=true from rfl,cond_true,in_ok,Option.bind_some]
        exact fin 0 _ (0≤x∧x≤2) (by omega) (fun h=>of_decide_eq_true h) fun hx=>⟨fun _ hp=>by rw [hp];exact .call x hx,fun _ _ h=>by omega,fun _ _ _ _ h=>by omega⟩
       ·rw [show (o==5)=false by simpa using h5,cond_false]
        exact fin 0 false False (by omega) (fun h=>by cases h) fun h=>h.elim
end Go.Proofs.YthidlhjjnaldhaaGreatDoor.Ev
namespace Go.Proofs.YthidlhjjnaldhaaGreatDoor.Ev
open Go
set_option linter.unusedVariables false
set_option linter.unusedSimpArgs false
theorem bif_y {c:Bool} {α:Type} {a b:α} (h:c=true):(bif c then a else b)=a:=by rw [h];rfl
def DefsW (ds:List Tree):Prop:=ds.length≤3∧∀d∈ds,∃k,k≤24∧WT d k∧CL (ds.length:Int) false d∧CL 0 true d
end Go.Proofs.YthidlhjjnaldhaaGreatDoor.Ev
namespace Go.Proofs.YthidlhjjnaldhaaGreatDoor.Ev
open Go
set_option linter.unusedVariables false
set_option linter.unusedSimpArgs false
theorem getD_lt {α:Type} {x:List α} {d:α} {i:Nat} (h:i<x.length):x.getD i d=x[i]:=by
 rw [List.getD_eq_getElem?_getD,List.getElem?_eq_getElem h];rfl
theorem pred_cast {k:Nat} (h:0<k) (h2:k<9223372036854775807):wi ((k:Int)-1)=((k-1:Nat):Int):=by
 rw [wi_id (by omega) (by omega)];omega
theorem mv_eta (m:Move):Move.mk m.act m.to=m:=by cases m;rfl
theorem gok1_ok (L N:Nat) (g:Graph) (hL:1048576<L) (hs:g.moves.length+gsize g.moves≤1048576):f106 L N g=some (graphOk g):=by
 show f106.b L N some g=_
 unfold f106.b f106.b' graphOk
 generalize hms:g.moves=ms
 rw [hms] at hs
 by_cases h1:(ms.length:Int)<1
 ·rw [dt h1,cond_true,df (show ¬(1≤ms.length∧ms.length≤60) by omega)];rfl
 ·rw [df h1,cond_false]
  by_cases h2:(ms.length:Int)>60
  ·rw [dt h2,cond_true,df (show ¬(1≤ms.length∧ms.length≤60) by omega)];rfl
  ·rw [df h2,cond_false,dt (show 1≤ms.length∧ms.length≤60 by omega)]
   simp only [Bool.true_and]
   unfold f106.j0'
   refine (all_loop (l:=fun n i=>f106.l0 L N (f106.p0_e0 L N some) (fun z=>f106.p0_r L N some z) n ms (ms.length:Int) i ms) (len:=ms.length) (q:=fun i=>rowOk ms.length (ms.getD i [])) (rt:=some true) (rf:=some false) (fun n i hi=>?_) (fun n=>?_) L 0 (by omega) (by omega)).trans ?_
   ·show f106.s0 L N _ _ (f106.l0 L N _ _ n) ms (ms.length:Int) i ms=_
    unfold f106.s0 f106.s0'
    simp only [lt_cast hi,le0,Bool.and_true,cond_true,Int.toNat_natCast,at_lt hi,getD_lt hi]
    have hrow:=gsize_row _ (List.getElem_mem hi)
    refine (all_loop (l:=fun n k=>f106.l1 L N (fun z15 z16 z17 z18=>f106.p1_e2 L N (f106.p0_e0 L N some) (fun z=>f106.p0_r L N some z) (f106.l0 L N (f106.p0_e0 L N some) (fun z=>f106.p0_r L N some z) _) z15 z16 z17 z18) (fun z30 z31 z32 z33 z34=>f106.p1_r L N (f106.p0_e0 L N some) (fun z=>f106.p0_r L N some z) (f106.l0 L N (f106.p0_e0 L N some) (fun z=>f106.p0_r L N some z) _) z30 z31 z32 z33 z34) n ms[i] ms (ms.length:Int) i ms[i] ((ms[i]).length:Int) k ms) (len:=(ms[i]).length) (q:=atOk ms.length ms[i]) (rt:=f106.l0 L N (f106.p0_e0 L N some) (fun z=>f106.p0_r L N some z) n ms (ms.length:Int) ((i+1:Nat):Int) ms) (rf:=some false) (fun n' k hk=>?_) (fun n'=>?_) L 0 (by omega) (by omega)).trans (by rw [Nat.sub_zero];rfl)
    ·show f106.s1 L N _ _ (f106.l1 L N _ _ n') ms[i] ms (ms.length:Int) i ms[i] ((ms[i]).length:Int) k ms=_
     unfold f106.s1 f106.s1'
     simp only [le0,cond_true,Bool.and_true,Bool.true_and,Int.toNat_natCast,lt_cast hk,at_lt hk,act1_ok,Option.bind_some,mv_eta,wi_nat (show k<9223372036854775807 by omega)]
     unfold atOk mvOk
     rw [getD_lt hk]
     by_cases hA:-4≤(ms[i])[k].act∧(ms[i])[k].act≤4
     ·rw [dt hA]
      simp only [Bool.not_true,cond_false,Bool.true_and]
      by_cases hB0:(ms[i])[k].to<0
      ·rw [dt hB0,df (show ¬(0≤(ms[i])[k].to∧(ms[i])[k].to<(ms.length:Int)) by omega)];rfl
      ·rw [df hB0,cond_false]
       by_cases hB1:(ms[i])[k].to≥(ms.length:Int)
       ·rw [dt hB1,df (show ¬(0≤(ms[i])[k].to∧(ms[i])[k].to<(ms.length:Int)) by omega)];rfl
       ·rw [df hB1,cond_false,dt (show 0≤(ms[i])[k].to∧(ms[i])[k].to<(ms.length:Int) by omega)]
        by_cases hk0:k=0
        ·subst hk0
         rfl
        ·have hp:k-1<(ms[i]).length:=by omega
         rw [dt (show (k:Int)>0 by omega),cond_true,pred_cast (by omega) (by omega)]
         obtain ⟨r,hr,hd⟩:=byMove_ok L N (ms[i])[k-1] (ms[i])[k]
         simp only [le0,lt_cast hp,Bool.and_true,cond_true,Int.toNat_natCast,at_lt hp,hr,Option.bind_some,hd,df hk0,Bool.false_or,Bool.true_and,getD_lt hp]
         cases lessM (ms[i])[k-1] (ms[i])[k]<;>rfl
     ·rw [df hA]
      rfl
    ·show f106.s1 L N _ _ (f106.l1 L N _ _ n') ms[i] ms (ms.length:Int) i ms[i] ((ms[i]).length:Int) (ms[i]).length ms=_
     unfold f106.s1 f106.s1'
     simp only [ge_cast (Nat.lt_irrefl _),cond_false]
     show f106.l0 L N _ _ n ms (ms.length:Int) (wi ((i:Int)+1)) ms=_
     rw [wi_nat (by omega)]
   ·show f106.s0 L N _ _ (f106.l0 L N _ _ n) ms (ms.length:Int) ms.length ms=_
    unfold f106.s0 f106.s0'
    simp only [ge_cast (Nat.lt_irrefl _),cond_false]
    rfl
   ·rw [Nat.sub_zero]
    cases allN (fun i=>rowOk ms.length (ms.getD i [])) ms.length 0<;>rfl
theorem graphOk_mv {g:Graph} (h:graphOk g=true):1≤g.moves.length∧g.moves.length≤60∧∀(i:Nat) (hi:i<g.moves.length) (k:Nat) (hk:k<(g.moves[i]).length),-4≤(g.moves[i])[k].act∧(g.moves[i])[k].act≤4∧0≤(g.moves[i])[k].to∧(g.moves[i])[k].to<(g.moves.length:Int):=by
 unfold graphOk at h
 simp only [Bool.and_eq_true,decide_eq_true_eq] at h
 refine ⟨h.1.1,h.1.2,fun i hi k hk=>?_⟩
 have h1:=allN_get _ 0 h.2 i (by omega) (by omega)
 simp only [getD_lt hi] at h1
 have h2:=allN_get _ 0 h1 k (by omega) (by omega)
 unfold atOk mvOk at h2
 rw [getD_lt hk] at h2
 simp only [Bool.and_eq_true,decide_eq_true_eq] at h2
 exact ⟨h2.1.1.1,h2.1.1.2,h2.1.2.1,h2.1.2.2⟩
end Go.Proofs.YthidlhjjnaldhaaGreatDoor.Ev
namespace Go.Proofs.YthidlhjjnaldhaaGreatDoor.Ev
open Go
set_option linter.unusedVariables false
set_option linter.unusedSimpArgs false
theorem bif_n {c:Bool} {α:Type} {a b:α} (h:c=false):(bif c then a else b)=b:=by rw [h];rfl
def visS (l:List Step):Nat:=(l.filter fun s=>s.act !=0).length
def tauS (l:List Step):Nat:=(l.filter fun s=>s.act==0).length
theorem len_vt:∀l:List Step,l.length=visS l+tauS l
 |[]=>rfl
 |s::l=>by
  have ih:=len_vt l
  unfold visS tauS at*
  by_cases h:s.act=0
  ·simp [h];omega
  ·simp [h];omega
theorem visS_app (a b:List Step):visS (a++b)=visS a+visS b:=by unfold visS;rw [List.filter_append,List.length_append]
theorem tauS_app (a b:List Step):tauS (a++b)=tauS a+tauS b:=by unfold tauS;rw [List.filter_append,List.length_append]
theorem visS_map {f:Step→Step} (h:∀s,(f s).act=s.act):∀l:List Step,visS (l.map f)=visS l
 |[]=>rfl
 |s::l=>by
  have ih:=visS_map h l
  unfold visS at*
  rw [List.map_cons,List.filter_cons,List.filter_cons,h s]
  split<;>simp [ih]
theorem tauS_map {f:Step→Step} (h:∀s,(f s).act=s.act):∀l:List Step,tauS (l.map f)=tauS l
 |[]=>rfl
 |s::l=>by
  have ih:=tauS_map h l
  unfold tauS at*
  rw [List.map_cons,List.filter_cons,List.filter_cons,h s]
  split<;>simp [ih]
theorem visS_sub {p:Step→Bool} (l:List Step):visS (l.filter p)≤visS l:=by
 unfold visS
 rw [List.filter_filter]
 have h:=List.length_filter_le p (l.filter fun s=>s.act !=0)
 rw [List.filter_filter] at h
 refine Nat.le_trans (Nat.le_of_eq ?_) h
 congr 1
 apply List.filter_congr
 intro x _
 exact Bool.and_comm _ _
theorem tauS_sub {p:Step→Bool} (l:List Step):tauS (l.filter p)≤tauS l:=by
 unfold tauS
 rw [List.filter_filter]
 have h:=List.length_filter_le p (l.filter fun s=>s.act==0)
 rw [List.filter_filter] at h
 refine Nat.le_trans (Nat.le_of_eq ?_) h
 congr 1
 apply List.filter_congr
 intro x _
 exact Bool.and_comm _ _
def leftS (b:Tree) (s:Step):Step:=⟨s.act,.mk 3 0 [s.thn,b]⟩
def rightS (a:Tree) (s:Step):Step:=⟨s.act,.mk 3 0 [a,s.thn]⟩
def tauRow (x:Step) (right:List Step):List Step:=if x.act≠0 then (right.filter fun y=>x.act==wi (0-y.act)).map fun y=>⟨0,.mk 3 0 [x.thn,y.thn]⟩ else []
theorem tauRow_vis (x:Step) (right:List Step):visS (tauRow x right)=0:=by
 unfold tauRow visS
 split
 ·rw [List.length_eq_zero_iff,List.filter_eq_nil_iff]
  intro s hs
  obtain ⟨y,-,rfl⟩:=List.mem_map.1 hs
  simp
 ·rfl
theorem tauRow_len (x:Step) (right:List Step):(tauRow x right).length≤if x.act≠0 then visS right else 0:=by
 unfold tauRow
 by_cases h:x.act≠0
 ·rw [if_pos h,if_pos h,List.length_map]
  unfold visS
  have e:(right.filter fun y=>x.act==wi (0-y.act))=((right.filter fun y=>y.act !=0).filter fun y=>x.act==wi (0-y.act)):=by
   rw [List.filter_filter]
   apply List.filter_congr
   intro y _
   by_cases hy:y.act=0
   ·have:(x.act==wi (0-y.act))=false:=by
     rw [hy]
     have:wi (0-0)=0:=by rw [wi_id (by omega) (by omega)];omega
     rw [this];simpa using h
    rw [this];rfl
   ·have:(y.act !=0)=true:=by simpa using hy
    rw [this,Bool.and_true]
  rw [e]
  exact List.length_filter_le _ _
 ·rw [if_neg h,if_neg h];simp
theorem taus_len (right:List Step):∀left:List Step,(left.flatMap fun x=>tauRow x right).length≤visS left*visS right
 |[]=>by simp
 |x::l=>by
  have ih:=taus_len right l
  have h:=tauRow_len x right
  rw [List.flatMap_cons,List.length_append]
  have hv:visS (x::l)=(if x.act≠0 then 1 else 0)+visS l:=by
   unfold visS
   rw [List.filter_cons]
   by_cases hx:x.act=0
   ·simp [hx]
   ·have:(x.act !=0)=true:=by simpa using hx
    simp [hx];omega
  rw [hv,Nat.add_mul]
  by_cases hx:x.act≠0
  ·rw [if_pos hx] at h;rw [if_pos hx,Nat.one_mul];omega
  ·rw [if_neg hx] at h;rw [if_neg hx,Nat.zero_mul];omega
theorem taus_vis (right:List Step):∀left:List Step,visS (left.flatMap fun x=>tauRow x right)=0
 |[]=>rfl
 |x::l=>by rw [List.flatMap_cons,visS_app,tauRow_vis,taus_vis right l]
theorem nloop1 (L' N:Nat) (self:Tree→Option Int) (a:Tree) (r1:Int) (e:self a=some r1) (h1:1≤r1) (h2:r1≤998) (o x:Int):
  f85.l0 (L'+3) N self (fun z30=>f85.p0_e1 (L'+3) N self some z30) (fun z32 z33=>f85.p0_r (L'+3) N self some z32 z33) (L'+3) (1:Int) (1:Int) (0:Int) o x [a]=some (1+r1):=by
 have hw:wi (1+r1)=1+r1:=wi_id (by omega) (by omega)
 show f85.s0 _ N _ _ _ _ (1:Int) (1:Int) (0:Int) o x [a]=_
 unfold f85.s0 f85.s0'
 rw [bif_y (by rfl),bif_y (by rfl)]
 show ((self a).bind _)=_
 rw [e,Option.bind_some,show (r1==0)=false by simp;omega,cond_false]
 show f85.s0 _ N _ _ _ _ (1:Int) _ (wi ((0:Int)+1)) o x [a]=_
 unfold f85.s0 f85.s0'
 rw [bif_n (by rfl),hw,dt (show 1+r1<1000 by omega),cond_true]
 rfl
theorem nloop2 (L' N:Nat) (self:Tree→Option Int) (a b:Tree) (r1 r2:Int) (e:self a=some r1) (f:self b=some r2) (h1:1≤r1) (h2:1≤r2) (h3:r1+r2≤998) (o x:Int):
  f85.l0 (L'+3) N self (fun z30=>f85.p0_e1 (L'+3) N self some z30) (fun z32 z33=>f85.p0_r (L'+3) N self some z32 z33) (L'+3) (2:Int) (1:Int) (0:Int) o x [a,b]=some (1+r1+r2):=by
 have hw:wi (1+r1)=1+r1:=wi_id (by omega) (by omega)
 have hw2:wi (1+r1+r2)=1+r1+r2:=wi_id (by omega) (by omega)
 show f85.s0 _ N _ _ _ _ (2:Int) (1:Int) (0:Int) o x [a,b]=_
 unfold f85.s0 f85.s0'
 rw [bif_y (by rfl),bif_y (by rfl)]
 show ((self a).bind _)=_
 rw [e,Option.bind_some,show (r1==0)=false by simp;omega,cond_false]
 show f85.s0 _ N _ _ _ _ (2:Int) _ (wi ((0:Int)+1)) o x [a,b]=_
 unfold f85.s0 f85.s0'
 rw [bif_y (by rfl),bif_y (by rfl)]
 show ((self b).bind _)=_
 rw [f,Option.bind_some,show (r2==0)=false by simp;omega,cond_false]
 show f85.s0 _ N _ _ _ _ (2:Int) _ (wi (wi ((0:Int)+1)+1)) o x [a,b]=_
 unfold f85.s0 f85.s0'
 rw [bif_n (by rfl),hw,dt (show 1+r1<1000 by omega),cond_true,hw2,dt (show 1+r1+r2<1000 by omega),cond_true]
 rfl
theorem l2Nodes_wt (L N:Nat) (hL:3≤L):∀(t:Tree) (k:Nat),WT t k→k≤999→∀m,k≤m→f85 L N m t=some (k:Int):=by
 obtain ⟨L',rfl⟩:∃L',L=L'+3:=⟨L-3,by omega⟩
 intro t k h
 induction h with
 |nil=>
  intro _ m hm
  obtain ⟨m,rfl⟩:∃m',m=m'+1:=⟨m-1,by omega⟩
  rfl
 |call x hx=>
  intro _ m hm
  obtain ⟨m,rfl⟩:∃m',m=m'+1:=⟨m-1,by omega⟩
  have hc:x=0∨x=1∨x=2:=by omega
  rcases hc with rfl|rfl|rfl<;>rfl
 |act n a k hn ha ih=>
  intro hk m hm
  obtain ⟨m,rfl⟩:∃m',m=m'+1:=⟨m-1,by omega⟩
  have hp:=ha.pos
  have e:=ih (by omega) m (by omega)
  show f85.b (L'+3) N (f85 (L'+3) N m) some (.mk 1 n [a])=_
  unfold f85.b f85.b'
  rw [bif_n (by rfl),bif_y (by rfl)]
  show ((f118 (L'+3) N n).bind _)=_
  rw [act2_ok,Option.bind_some,dt hn]
  unfold f85.j2'
  rw [bif_n (by rfl),bif_n (by rfl)]
  unfold f85.j1'
  refine (nloop1 L' N _ a (k:Int) e (by omega) (by omega) 1 n).trans ?_
  rw [show ((k+1:Nat):Int)=1+(k:Int) by omega]
 |hide n a k hn ha ih=>
  intro hk m hm
  obtain ⟨m,rfl⟩:∃m',m=m'+1:=⟨m-1,by omega⟩
  have hp:=ha.pos
  have e:=ih (by omega) m (by omega)
  show f85.b (L'+3) N (f85 (L'+3) N m) some (.mk 4 n [a])=_
  unfold f85.b f85.b'
  rw [bif_n (by rfl),bif_n (by rfl),bif_n (by rfl)]
  unfold f85.j0'
  rw [bif_n (by rfl),bif_y (by rfl)]
  show ((f54 (L'+3) N n 0 3).bind _)=_
  rw [in_ok,Option.bind_some,dt hn]
  unfold f85.j2'
  rw [bif_n (by rfl),bif_n (by rfl)]
  unfold f85.j1'
  refine (nloop1 L' N _ a (k:Int) e (by omega) (by omega) 4 n).trans ?_
  rw [show ((k+1:Nat):Int)=1+(k:Int) by omega]
 |sum a b i j ha hb iha ihb=>
  intro hk m hm
  obtain ⟨m,rfl⟩:∃m',m=m'+1:=⟨m-1,by omega⟩
  have hpa:=ha.pos
  have hpb:=hb.pos
  have e:=iha (by omega) m (by omega)
  have f:=ihb (by omega) m (by omega)
  show f85.b (L'+3) N (f85 (L'+3) N m) some (.mk 2 0 [a,b])=_
  unfold f85.b f85.b'
  rw [bif_n (by rfl),bif_n (by rfl),bif_y (by rfl)]
  unfold f85.j0'
  rw [bif_y (by rfl)]
  unfold f85.j2'
  rw [bif_n (by rfl),bif_n (by rfl)]
  unfold f85.j1'
  refine (nloop2 L' N _ a b (i:Int) (j:Int) e f (by omega) (by omega) (by omega) 2 0).trans ?_
  rw [show ((i+j+1:Nat):Int)=1+(i:Int)+(j:Int) by omega]
 |par a b i j ha hb iha ihb=>
  intro hk m hm
  obtain ⟨m,rfl⟩:∃m',m=m'+1:=⟨m-1,by omega⟩
  have hpa:=ha.pos
  have hpb:=hb.pos
  have e:=iha (by omega) m (by omega)
  have f:=ihb (by omega) m (by omega)
  show f85.b (L'+3) N (f85 (L'+3) N m) some (.mk 3 0 [a,b])=_
  unfold f85.b f85.b'
  rw [bif_n (by rfl),bif_n (by rfl),bif_n (by rfl)]
  unfold f85.j0'
  rw [bif_y (by rfl)]
  unfold f85.j2'
  rw [bif_n (by rfl),bif_n (by rfl)]
  unfold f85.j1'
  refine (nloop2 L' N _ a b (i:Int) (j:Int) e f (by omega) (by omega) (by omega) 3 0).trans ?_
  rw [show ((i+j+1:Nat):Int)=1+(i:Int)+(j:Int) by omega]
def nmS (x:Int):Int:=wi ((bif decide ((wi (0-x))>x) then (wi (0-x)) else x)-1)
def keepH' (x:Int) (s:Step):Bool:=s.act==0||nmS s.act !=x
def SOk (n:Int) (u:Nat) (s:Step):Prop:=(-4≤s.act∧s.act≤4)∧∃k',WT s.thn k'∧k'≤u∧CL n false s.thn
def Bnd (n:Int) (u:Nat) (l:List Step):Prop:=(∀s∈l,SOk n u s)∧visS l≤u∧tauS l≤u*u
theorem Bnd.len {n:Int} {u:Nat} {l:List Step} (h:Bnd n u l) (hu:u≤576):l.length≤332352:=by
 have h3:=len_vt l
 have h4:u*u≤576*576:=Nat.mul_le_mul hu hu
 have h1:=h.2.1
 have h2:=h.2.2
 omega
def parS (a b:Tree) (sa sb:List Step):List Step:=(sa.map (leftS b)++sb.map (rightS a))++sa.flatMap fun x=>tauRow x sb
def hideS (x:Int) (sa:List Step):List Step:=(sa.filter (keepH' x)).map fun s=>⟨s.act,.mk 4 x [s.thn]⟩
def stpK (r:Int→List Step) (o n:Int) (ps:List Tree) (ss:List (List Step)):List Step:=
 if o=1 then [⟨n,ps.getD 0 (.mk 0 0 [])⟩] else if o=2 then ss.getD 0 []++ss.getD 1 [] else if o=3 then parS (ps.getD 0 (.mk 0 0 [])) (ps.getD 1 (.mk 0 0 [])) (ss.getD 0 []) (ss.getD 1 []) else if o=4 then hideS n (ss.getD 0 []) else if o=5 then r n else []
mutual
def stp (r:Int→List Step):Tree→List Step
 |.mk o n ps=>stpK r o n ps (stps r ps)
def stps (r:Int→List Step):List Tree→List (List Step)
 |[]=>[]
 |p::ps=>stp r p::stps r ps
end
theorem stp_nil (r:Int→List Step):stp r (.mk 0 0 [])=[]:=by rw [stp];rfl
theorem stp_act (r:Int→List Step) (n:Int) (a:Tree):stp r (.mk 1 n [a])=[⟨n,a⟩]:=by rw [stp];rfl
theorem stp_sum (r:Int→List Step) (a b:Tree):stp r (.mk 2 0 [a,b])=stp r a++stp r b:=by rw [stp,stps,stps,stps];rfl
theorem stp_par (r:Int→List Step) (a b:Tree):stp r (.mk 3 0 [a,b])=parS a b (stp r a) (stp r b):=by rw [stp,stps,stps,stps];rfl
theorem stp_hide (r:Int→List Step) (n:Int) (a:Tree):stp r (.mk 4 n [a])=hideS n (stp r a):=by rw [stp,stps,stps];rfl
theorem stp_call (r:Int→List Step) (n:Int):stp r (.mk 5 n [])=r n:=by rw [stp,stps];rfl
def steps (ds:List Tree) (t:Tree):List Step:=stp (fun n=>stp (fun _=>[]) (ds.getD n.toNat (.mk 0 0 []))) t
theorem stp_bnd (n:Int) (r:Int→List Step) (c:Nat) (hc:1≤c∧c≤24) (Q:Tree→Prop)
  (hQ2:∀a b,Q (.mk 2 0 [a,b])→Q a∧Q b) (hQ3:∀a b,Q (.mk 3 0 [a,b])→Q a∧Q b) (hQ4:∀x a,Q (.mk 4 x [a])→Q a)
  (hcall:∀x,0≤x→x<n→Q (.mk 5 x [])→Bnd n c (r x)):
  ∀(t:Tree) (k:Nat),WT t k→k≤24→CL n false t→Q t→Bnd n (c*k) (stp r t):=by
 intro t k h
 induction h with
 |nil=>
  intro _ _ _
  rw [stp_nil]
  exact ⟨fun s hs=>(by cases hs),Nat.zero_le _,Nat.zero_le _⟩
 |call x hx=>
  intro _ hcl hq
  rw [Nat.mul_one,stp_call]
  exact hcall x hx.1 hcl.lt hq
 |act n a k hn ha ih=>
  intro hk hcl hq
  rw [stp_act]
  refine ⟨fun s hs=>?_,?_,?_⟩
  ·rw [List.mem_singleton.1 hs]
   have h1:1*k≤c*(k+1):=Nat.mul_le_mul hc.1 (by omega)
   exact ⟨hn,k,ha,by omega,hcl.sub (by decide) a (.head _)⟩
  ·have h1:1*1≤c*(k+1):=Nat.mul_le_mul hc.1 (by omega)
   have h2:=List.length_filter_le (fun s:Step=>s.act !=0) [⟨n,a⟩]
   unfold visS
   simp only [List.length_cons,List.length_nil] at h2⊢
   omega
  ·have h1:1*1≤c*(k+1):=Nat.mul_le_mul hc.1 (by omega)
   have h3:1*1≤(c*(k+1))*(c*(k+1)):=Nat.mul_le_mul (by omega) (by omega)
   have h2:=List.length_filter_le (fun s:Step=>s.act==0) [⟨n,a⟩]
   unfold tauS
   simp only [List.length_cons,List.length_nil] at h2⊢
   omega
 |sum a b i j ha hb iha ihb=>
  intro hk hcl hq
  obtain ⟨qa,qb⟩:=hQ2 a b hq
  have hs:=hcl.sub (by decide)
  obtain ⟨pa,va,ta⟩:=iha (by omega) (hs a (.head _)) qa
  obtain ⟨pb,vb,tb⟩:=ihb (by omega) (hs b (.tail _ (.head _))) qb
  have hu:c*(i+j+1)=c*i+c*j+c:=by rw [Nat.mul_add,Nat.mul_add,Nat.mul_one]
  rw [stp_sum]
  refine ⟨fun s hs'=>?_,?_,?_⟩
  ·rcases List.mem_append.1 hs' with h|h
   ·obtain ⟨h1,k',h2,h3,h4⟩:=pa s h;exact ⟨h1,k',h2,by omega,h4⟩
   ·obtain ⟨h1,k',h2,h3,h4⟩:=pb s h;exact ⟨h1,k',h2,by omega,h4⟩
  ·rw [visS_app];omega
  ·rw [tauS_app]
   generalize c*i=u at*
   generalize c*j=v at*
   generalize c*(i+j+1)=w at*
   have h1:(u+v)*(u+v)≤w*w:=Nat.mul_le_mul (by omega) (by omega)
   have h2:(u+v)*(u+v)=u*u+v*v+2*(u*v):=by rw [Nat.add_mul,Nat.mul_add,Nat.mul_add,Nat.mul_comm v u];omega
   omega
 |par a b i j ha hb iha ihb=>
  intro hk hcl hq
  obtain ⟨qa,qb⟩:=hQ3 a b hq
  have hs:=hcl.sub (by decide)
  have cla:=hs a (.head _)
  have clb:=hs b (.tail _ (.head _))
  obtain ⟨pa,va,ta⟩:=iha (by omega) cla qa
  obtain ⟨pb,vb,tb⟩:=ihb (by omega) clb qb
  have hu:c*(i+j+1)=c*i+c*j+c:=by rw [Nat.mul_add,Nat.mul_add,Nat.mul_one]
  have hui:i≤c*i:=by have:=Nat.mul_le_mul_right i hc.1;omega
  have huj:j≤c*j:=by have:=Nat.mul_le_mul_right j hc.1;omega
  rw [stp_par]
  generalize stp r a=sa at*
  generalize stp r b=sb at*
  have hti:=taus_len sb sa
  have htv:=taus_vis sb sa
  have mkp:∀(p q:Tree) (i' j':Nat),WT p i'→WT q j'→CL n false p→CL n false q→i'≤c*i→j'≤c*j→∃k',WT (.mk 3 0 [p,q]) k'∧k'≤c*(i+j+1)∧CL n false (.mk 3 0 [p,q]):=fun p q i' j' h1 h2 h3 h4 h5 h6=>
   ⟨i'+j'+1,.par p q i' j' h1 h2,by omega,.node false 3 0 [p,q] (by decide) fun x hx=>by
    rcases List.mem_cons.1 hx with rfl|hx
    ·exact h3
    ·rw [List.mem_singleton.1 hx];exact h4⟩
  refine ⟨fun s hs'=>?_,?_,?_⟩
  ·rcases List.mem_append.1 hs' with h|h
   ·rcases List.mem_append.1 h with h|h
    ·obtain ⟨y,hy,rfl⟩:=List.mem_map.1 h
     obtain ⟨h1,k',h2,h3,h4⟩:=pa y hy
     exact ⟨h1,mkp y.thn b k' j h2 hb h4 clb h3 huj⟩
    ·obtain ⟨y,hy,rfl⟩:=List.mem_map.1 h
     obtain ⟨h1,k',h2,h3,h4⟩:=pb y hy
     exact ⟨h1,mkp a y.thn i k' ha h2 cla h4 hui h3⟩
   ·obtain ⟨x,hx,h⟩:=List.mem_flatMap.1 h
    unfold tauRow at h
    split at h
    ·obtain ⟨y,hy,rfl⟩:=List.mem_map.1 h
     obtain ⟨-,k1,h2,h3,h4⟩:=pa x hx
     obtain ⟨-,k2,g2,g3,g4⟩:=pb y (List.mem_filter.1 hy).1
     exact ⟨(show -4≤(0:Int)∧(0:Int)≤4 by omega),mkp x.thn y.thn k1 k2 h2 g2 h4 g4 h3 g3⟩
    ·cases h
  ·unfold parS
   rw [visS_app,visS_app,htv,visS_map (f:=leftS b) (fun _=>rfl),visS_map (f:=rightS a) (fun _=>rfl)];omega
  ·have ht3:tauS (sa.flatMap fun x=>tauRow x sb)≤visS sa*visS sb:=by
    have:=len_vt (sa.flatMap fun x=>tauRow x sb);omega
   have hvv:visS sa*visS sb≤(c*i)*(c*j):=Nat.mul_le_mul va vb
   unfold parS
   rw [tauS_app,tauS_app,tauS_map (f:=leftS b) (fun _=>rfl),tauS_map (f:=rightS a) (fun _=>rfl)]
   generalize c*i=u at*
   generalize c*j=v at*
   generalize c*(i+j+1)=w at*
   have h1:(u+v)*(u+v)≤w*w:=Nat.mul_le_mul (by omega) (by omega)
   have h2:(u+v)*(u+v)=u*u+v*v+2*(u*v):=by rw [Nat.add_mul,Nat.mul_add,Nat.mul_add,Nat.mul_comm v u];omega
   omega
 |hide x a k hx ha ih=>
  intro hk hcl hq
  have hs:=hcl.sub (by decide)
  obtain ⟨pa,va,ta⟩:=ih (by omega) (hs a (.head _)) (hQ4 x a hq)
  have hu:c*(k+1)=c*k+c:=by rw [Nat.mul_add,Nat.mul_one]
  rw [stp_hide]
  unfold hideS
  refine ⟨fun s hs'=>?_,?_,?_⟩
  ·obtain ⟨y,hy,rfl⟩:=List.mem_map.1 hs'
   obtain ⟨h1,k',h2,h3,h4⟩:=pa y (List.mem_filter.1 hy).1
   exact ⟨h1,k'+1,.hide x y.thn k' hx h2,by omega,.node false 4 x [y.thn] (by decide) fun p hp=>by rw [List.mem_singleton.1 hp];exact h4⟩
  ·rw [visS_map (f:=fun s=>⟨s.act,.mk 4 x [s.thn]⟩) (fun _=>rfl)]
   have:=visS_sub (p:=keepH' x) (stp r a)
   omega
  ·rw [tauS_map (f:=fun s=>⟨s.act,.mk 4 x [s.thn]⟩) (fun _=>rfl)]
   have:=tauS_sub (p:=keepH' x) (stp r a)
   have h3:(c*k)*(c*k)≤(c*(k+1))*(c*(k+1)):=Nat.mul_le_mul (by omega) (by omega)
   omega
theorem bnd_guard {n:Int} {r:Int→List Step} {t:Tree} {k:Nat} (h:WT t k) (hk:k≤24) (hcl:CL n false t) (hg:CL 0 true t):Bnd n k (stp r t):=by
 have:=stp_bnd n r 1 ⟨by omega,by omega⟩ (fun t=>CL 0 true t)
   (fun a b h=>⟨h.sub2 (by decide) (by decide) a (.head _),h.sub2 (by decide) (by decide) b (.tail _ (.head _))⟩)
   (fun a b h=>⟨h.sub2 (by decide) (by decide) a (.head _),h.sub2 (by decide) (by decide) b (.tail _ (.head _))⟩)
   (fun x a h=>h.sub2 (by decide) (by decide) a (.head _))
   (fun x h0 h1 hq=>by have:=hq.lt;omega) t k h hk hcl hg
 rw [Nat.one_mul] at this;exact this
theorem steps_bnd (ds:List Tree) (hd:DefsW ds) (t:Tree) (k:Nat) (h:WT t k) (hk:k≤24) (hcl:CL (ds.length:Int) false t):Bnd (ds.length:Int) 576 (steps ds t):=by
 obtain ⟨b1,b2,b3⟩:=stp_bnd (ds.length:Int) (fun n=>stp (fun _=>[]) (ds.getD n.toNat (.mk 0 0 []))) 24 ⟨by omega,by omega⟩ (fun _=>True) (fun _ _ _=>⟨trivial,trivial⟩) (fun _ _ _=>⟨trivial,trivial⟩) (fun _ _ _=>trivial) (fun x h0 h1 _=>by
  obtain ⟨i,rfl⟩:=Int.eq_ofNat_of_zero_le h0
  have hi:i<ds.length:=by omega
  obtain ⟨kd,k1,k2,k3,k4⟩:=hd.2 ds[i] (List.getElem_mem hi)
  show Bnd _ 24 (stp _ (ds.getD _ _))
  rw [Int.toNat_natCast,getD_lt hi]
  obtain ⟨b1,b2,b3⟩:=bnd_guard (r:=fun _=>[]) k2 k1 k3 k4
  have:kd*kd≤24*24:=Nat.mul_le_mul k1 k1
  exact ⟨fun s hs=>by obtain ⟨g1,k',g2,g3,g4⟩:=b1 s hs;exact ⟨g1,k',g2,by omega,g4⟩,by omega,by omega⟩) t k h hk hcl trivial
 have hb:24*k≤576:=by omega
 have:(24*k)*(24*k)≤576*576:=Nat.mul_le_mul hb hb
 exact ⟨fun s hs=>by obtain ⟨g1,k',g2,g3,g4⟩:=b1 s hs;exact ⟨g1,k',g2,by omega,g4⟩,by unfold steps;omega,by unfold steps;omega⟩
section
variable {R : Type} (L N : Nat) (self : Tree → List Tree → Option (List Step))
theorem par0 (K:Int→Int→List Tree→List Step→List Step→List Step→Option R) (o x:Int) (a b:Tree) (left right:List Step) (hl:left.length≤1000000):
  ∀(n i:Nat) (out:List Step),i≤left.length→left.length-i<n→out.length+(left.length-i)≤lim→
   f98.l0 L N self K n (i:Int) o x [a,b] out left right=K o x [a,b] (out++(left.drop i).map (leftS b)) left right:=by
 intro n
 induction n with
 |zero=>intro i out _ h;omega
 |succ n ih=>
  intro i out hi hn ho
  show f98.s0 L N self _ (f98.l0 L N self _ n) (i:Int) o x [a,b] out left right=_
  unfold f98.s0 f98.s0'
  by_cases hlt:i<left.length
  ·have g1:(decide ((0:Int)≤1)&&decide ((1:Int)<(([a,b]:List Tree).length:Int)))=true:=rfl
   have g2:listAt [a,b] (Ty.dflt (.st 1)) (1:Int).toNat=b:=rfl
   have hle:decide (out.length+([Step.mk (left[i]).act (Tree.mk 3 0 [(left[i]).thn,b])]:List Step).length≤lim)=true:=dt (by simp only [List.length_cons,List.length_nil];omega)
   simp only [lt_cast hlt,le0,Bool.and_true,cond_true,Int.toNat_natCast,at_lt hlt,g1,g2,tree_eta,hle]
   rw [wi_nat (by omega),ih (i+1) _ (by omega) (by omega) (by simp only [List.length_append,List.length_cons,List.length_nil];omega),List.drop_eq_getElem_cons hlt,List.map_cons,List.append_assoc]
   rfl
  ·simp only [ge_cast hlt,cond_false]
   rw [List.drop_eq_nil_of_le (by omega),List.map_nil,List.append_nil]
theorem par1 (K:List Step→List Step→List Step→Option R) (o x:Int) (a b:Tree) (left right:List Step) (hl:right.length≤1000000):
  ∀(n i:Nat) (out:List Step),i≤right.length→right.length-i<n→out.length+(right.length-i)≤lim→
   f98.l1 L N self K n (i:Int) o x [a,b] out left right=K (out++(right.drop i).map (rightS a)) left right:=by
 intro n
 induction n with
 |zero=>intro i out _ h;omega
 |succ n ih=>
  intro i out hi hn ho
  show f98.s1 L N self _ (f98.l1 L N self _ n) (i:Int) o x [a,b] out left right=_
  unfold f98.s1 f98.s1'
  by_cases hlt:i<right.length
  ·have g1:(decide ((0:Int)≤0)&&decide ((0:Int)<(([a,b]:List Tree).length:Int)))=true:=rfl
   have g2:listAt [a,b] (Ty.dflt (.st 1)) (0:Int).toNat=a:=rfl
   have hle:decide (out.length+([Step.mk (right[i]).act (Tree.mk 3 0 [a,(right[i]).thn])]:List Step).length≤lim)=true:=dt (by simp only [List.length_cons,List.length_nil];omega)
   rw [g1,g2]
   simp only [lt_cast hlt,le0,Bool.and_true,cond_true,Int.toNat_natCast,at_lt hlt,tree_eta,hle]
   rw [wi_nat (by omega),ih (i+1) _ (by omega) (by omega) (by simp only [List.length_append,List.length_cons,List.length_nil];omega),List.drop_eq_getElem_cons hlt,List.map_cons,List.append_assoc]
   rfl
  ·simp only [ge_cast hlt,cond_false]
   rw [List.drop_eq_nil_of_le (by omega),List.map_nil,List.append_nil]
theorem par3 (K:Int→List Step→List Step→List Step→Option R) (left right:List Step) (hl:right.length≤1000000) (i:Nat) (hi:i<left.length):
  ∀(n j:Nat) (out:List Step),j≤right.length→right.length-j<n→out.length+(right.length-j)≤lim→
   f98.l3 L N self K n (i:Int) (j:Int) out left right=K (i:Int) (out++tauRow left[i] (right.drop j)) left right:=by
 intro n
 induction n with
 |zero=>intro j out _ h;omega
 |succ n ih=>
  intro j out hj hn ho
  show f98.s3 L N self _ (f98.l3 L N self _ n) (i:Int) (j:Int) out left right=_
  unfold f98.s3 f98.s3'
  by_cases hlt:j<right.length
  ·rw [List.drop_eq_getElem_cons hlt]
   have hle:decide (out.length+([Step.mk 0 (Tree.mk 3 0 [(left[i]).thn,(right[j]).thn])]:List Step).length≤lim)=true:=dt (by simp only [List.length_cons,List.length_nil];omega)
   simp only [lt_cast hlt,lt_cast hi,le0,Bool.and_true,cond_true,Int.toNat_natCast,at_lt hlt,at_lt hi]
   by_cases h0:(left[i]).act=0
   ·rw [show ((left[i]).act !=0)=false by simpa using h0,cond_false]
    unfold f98.j0'
    rw [cond_false,wi_nat (by omega),ih (j+1) _ (by omega) (by omega) (by omega)]
    unfold tauRow
    rw [if_neg (fun h=>h h0),if_neg (fun h=>h h0)]
   ·rw [show ((left[i]).act !=0)=true by simpa using h0,cond_true]
    unfold f98.j0'
    cases hc:((left[i]).act==wi (0-(right[j]).act)) with
    |false=>
     rw [cond_false,wi_nat (by omega),ih (j+1) _ (by omega) (by omega) (by omega)]
     unfold tauRow
     rw [if_pos h0,if_pos h0,List.filter_cons,hc]
     rfl
    |true=>
     simp only [lt_cast hlt,lt_cast hi,le0,Bool.and_true,cond_true,Int.toNat_natCast,at_lt hlt,at_lt hi,tree_eta,hle]
     rw [wi_nat (by omega),ih (j+1) _ (by omega) (by omega) (by simp only [List.length_append,List.length_cons,List.length_nil];omega)]
     unfold tauRow
     rw [if_pos h0,if_pos h0,List.filter_cons,hc,if_pos rfl,List.map_cons,List.append_assoc]
     rfl
  ·simp only [ge_cast hlt,cond_false]
   rw [List.drop_eq_nil_of_le (by omega)]
   have:tauRow left[i] []=[]:=by unfold tauRow;split<;>rfl
   rw [this,List.append_nil]
theorem par2 (hL:1000001<L) (k:List Step→Option R) (left right:List Step) (hl:left.length≤1000000) (hr:right.length≤1000000):
  ∀(n i:Nat) (out:List Step),i≤left.length→left.length-i<n→out.length+(left.length-i)*right.length≤lim→
   f98.l2 L N self (fun z31=>f98.p2_e5 L N self k z31) n (i:Int) out left right=k (out++(left.drop i).flatMap fun x=>tauRow x right):=by
 intro n
 induction n with
 |zero=>intro i out _ h;omega
 |succ n ih=>
  intro i out hi hn ho
  show f98.s2 L N self _ (f98.l2 L N self _ n) (i:Int) out left right=_
  unfold f98.s2 f98.s2'
  by_cases hlt:i<left.length
  ·have hstep:(left.length-i)*right.length=(left.length-(i+1))*right.length+right.length:=by
    rw [show left.length-i=(left.length-(i+1))+1 by omega,Nat.add_mul,Nat.one_mul]
   rw [lt_cast hlt,cond_true]
   refine (par3 L N self _ left right hr i hlt L 0 out (by omega) (by omega) (by omega)).trans ?_
   show f98.l2 L N self _ n (wi ((i:Int)+1)) (out++tauRow left[i] (right.drop 0)) left right=_
   have htl:(tauRow left[i] right).length≤right.length:=by
    have h1:=tauRow_len left[i] right
    have h2:=len_vt right
    split at h1<;>omega
   rw [List.drop_zero,wi_nat (by omega),ih (i+1) _ (by omega) (by omega) (by rw [List.length_append];omega),List.drop_eq_getElem_cons hlt,List.flatMap_cons,List.append_assoc]
  ·rw [ge_cast hlt,cond_false,List.drop_eq_nil_of_le (by omega),List.flatMap_nil,List.append_nil]
   rfl
theorem hide4 (k:List Step→Option R) (o x:Int) (ps:List Tree) (st:List Step) (hl:st.length≤1000000):
  ∀(n i:Nat) (out:List Step),i≤st.length→st.length-i<n→out.length+(st.length-i)≤lim→
   f98.l4 L N self (fun z59=>f98.p4_e9 L N self k z59) n (i:Int) o x ps out st=k (out++((st.drop i).filter (keepH' x)).map fun s=>⟨s.act,.mk 4 x [s.thn]⟩):=by
 intro n
 induction n with
 |zero=>intro i out _ h;omega
 |succ n ih=>
  intro i out hi hn ho
  show f98.s4 L N self _ (f98.l4 L N self _ n) (i:Int) o x ps out st=_
  unfold f98.s4 f98.s4'
  by_cases hlt:i<st.length
  ·rw [List.drop_eq_getElem_cons hlt,List.filter_cons]
   have hnm:f135 L N (st[i]).act=some (nmS (st[i]).act):=rfl
   have hle:decide (out.length+([Step.mk (st[i]).act (Tree.mk 4 x [(st[i]).thn])]:List Step).length≤lim)=true:=dt (by simp only [List.length_cons,List.length_nil];omega)
   simp only [lt_cast hlt,le0,Bool.and_true,cond_true,Int.toNat_natCast,at_lt hlt,hnm,Option.bind_some]
   have go:∀c:Bool,c=keepH' x st[i]→f98.j1' L N self (fun z59=>f98.p4_e9 L N self k z59) (f98.l4 L N self (fun z59=>f98.p4_e9 L N self k z59) n) (i:Int) c o x ps out st
     =k (out++(if keepH' x st[i]=true then st[i]::(st.drop (i+1)).filter (keepH' x) else (st.drop (i+1)).filter (keepH' x)).map fun s=>⟨s.act,.mk 4 x [s.thn]⟩):=by
    intro c hc
    subst hc
    unfold f98.j1'
    cases hk:keepH' x st[i] with
    |true=>
     simp only [lt_cast hlt,le0,Bool.and_true,cond_true,Int.toNat_natCast,at_lt hlt,tree_eta,hle]
     rw [wi_nat (by omega),ih (i+1) _ (by omega) (by omega) (by simp only [List.length_append,List.length_cons,List.length_nil];omega),if_pos trivial,List.map_cons,List.append_assoc]
     rfl
    |false=>
     rw [cond_false,wi_nat (by omega),ih (i+1) _ (by omega) (by omega) (by omega),if_neg (by simp)]
   cases h0:((st[i]).act==0) with
   |true=>rw [cond_true];exact go true (by unfold keepH';rw [h0];rfl)
   |false=>rw [cond_false];exact go _ (by unfold keepH';rw [h0];rfl)
  ·rw [ge_cast hlt,cond_false,List.drop_eq_nil_of_le (by omega),List.filter_nil,List.map_nil,List.append_nil]
   rfl
end
section
variable (L N : Nat)
theorem stepsGS (hL:1000001<L) (ds:List Tree) (n:Int) (r:Int→List Step) (c e:Nat) (hc:1≤c∧c≤24) (Q:Tree→Prop)
  (hQ2:∀a b,Q (.mk 2 0 [a,b])→Q a∧Q b) (hQ3:∀a b,Q (.mk 3 0 [a,b])→Q a∧Q b) (hQ4:∀x a,Q (.mk 4 x [a])→Q a)
  (hB:∀x,0≤x→x<n→Q (.mk 5 x [])→Bnd n c (r x)) (hcall:∀m x,0≤x→x<n→Q (.mk 5 x [])→e≤m→f98 L N (m+1) (.mk 5 x []) ds=some (r x)):
  ∀(t:Tree) (k:Nat),WT t k→k≤24→CL n false t→Q t→∀m,k+e≤m→f98 L N m t ds=some (stp r t):=by
 have hlim:=lim_eq
 have hck:∀k,k≤24→c*k≤576:=fun k hk=>Nat.le_trans (Nat.mul_le_mul hc.2 hk) (by omega)
 have hbl:∀(t:Tree) (k:Nat),WT t k→k≤24→CL n false t→Q t→(stp r t).length≤332352:=fun t k h1 h2 h3 h4=>(stp_bnd n r c hc Q hQ2 hQ3 hQ4 hB t k h1 h2 h3 h4).len (hck k h2)
 intro t k h
 induction h with
 |nil=>
  intro _ _ _ m hm
  obtain ⟨m,rfl⟩:∃m',m=m'+1:=⟨m-1,by omega⟩
  rw [stp_nil];rfl
 |call x hx=>
  intro _ hcl hq m hm
  obtain ⟨m,rfl⟩:∃m',m=m'+1:=⟨m-1,by omega⟩
  rw [stp_call]
  exact hcall m x hx.1 hcl.lt hq (by omega)
 |act x a k hn ha ih=>
  intro hk hcl hq m hm
  obtain ⟨m,rfl⟩:∃m',m=m'+1:=⟨m-1,by omega⟩
  rw [stp_act]
  show f98.b L N (f98 L N m) some (.mk 1 x [a]) ds=_
  unfold f98.b f98.b'
  rw [bif_y (by rfl),bif_y (by rfl),bif_y (by rfl)]
  show some ([]++[Step.mk x (Tree.mk a.op a.n a.parts)])=_
  rw [tree_eta]
  rfl
 |sum a b i j ha hb iha ihb=>
  intro hk hcl hq m hm
  obtain ⟨m,rfl⟩:∃m',m=m'+1:=⟨m-1,by omega⟩
  obtain ⟨qa,qb⟩:=hQ2 a b hq
  have hs:=hcl.sub (by decide)
  have ea:=iha (by omega) (hs a (.head _)) qa m (by omega)
  have eb:=ihb (by omega) (hs b (.tail _ (.head _))) qb m (by omega)
  have hla:=hbl a i ha (by omega) (hs a (.head _)) qa
  have hlb:=hbl b j hb (by omega) (hs b (.tail _ (.head _))) qb
  rw [stp_sum]
  show f98.b L N (f98 L N m) some (.mk 2 0 [a,b]) ds=_
  unfold f98.b f98.b'
  rw [bif_n (by rfl),bif_y (by rfl),bif_y (by rfl)]
  show ((f98 L N m a ds).bind _)=_
  rw [ea,Option.bind_some,bif_y (by rfl)]
  show ((f98 L N m b ds).bind _)=_
  rw [eb,Option.bind_some,dt (show (stp r a).length+(stp r b).length≤lim by omega),cond_true]
 |par a b i j ha hb iha ihb=>
  intro hk hcl hq m hm
  obtain ⟨m,rfl⟩:∃m',m=m'+1:=⟨m-1,by omega⟩
  obtain ⟨qa,qb⟩:=hQ3 a b hq
  have hs:=hcl.sub (by decide)
  have ea:=iha (by omega) (hs a (.head _)) qa m (by omega)
  have eb:=ihb (by omega) (hs b (.tail _ (.head _))) qb m (by omega)
  have hla:=hbl a i ha (by omega) (hs a (.head _)) qa
  have hlb:=hbl b j hb (by omega) (hs b (.tail _ (.head _))) qb
  rw [stp_par]
  generalize stp r a=sa at*
  generalize stp r b=sb at*
  have hmul:sa.length*sb.length≤332352*332352:=Nat.mul_le_mul hla hlb
  show f98.b L N (f98 L N m) some (.mk 3 0 [a,b]) ds=_
  unfold f98.b f98.b'
  rw [bif_n (by rfl),bif_n (by rfl),bif_y (by rfl),bif_y (by rfl)]
  show ((f98 L N m a ds).bind _)=_
  rw [ea,Option.bind_some,bif_y (by rfl)]
  show ((f98 L N m b ds).bind _)=_
  rw [eb,Option.bind_some]
  refine (par0 L N (f98 L N m) _ 3 0 a b sa sb (by omega) L 0 [] (by omega) (by omega) (by simp only [List.length_nil];omega)).trans ?_
  refine (par1 L N (f98 L N m) _ 3 0 a b sa sb (by omega) L 0 _ (by omega) (by omega) (by simp only [List.length_append,List.length_map,List.length_nil,List.length_drop];omega)).trans ?_
  refine (par2 L N (f98 L N m) hL some sa sb (by omega) (by omega) L 0 _ (by omega) (by omega) (by simp only [List.length_append,List.length_map,List.length_nil,List.length_drop,Nat.sub_zero];omega)).trans ?_
  simp only [List.drop_zero,List.nil_append]
  rfl
 |hide x a k hx ha ih=>
  intro hk hcl hq m hm
  obtain ⟨m,rfl⟩:∃m',m=m'+1:=⟨m-1,by omega⟩
  have hs:=hcl.sub (by decide)
  have ea:=ih (by omega) (hs a (.head _)) (hQ4 x a hq) m (by omega)
  have hla:=hbl a k ha (by omega) (hs a (.head _)) (hQ4 x a hq)
  rw [stp_hide]
  show f98.b L N (f98 L N m) some (.mk 4 x [a]) ds=_
  unfold f98.b f98.b'
  rw [bif_n (by rfl),bif_n (by rfl),bif_n (by rfl),bif_y (by rfl),bif_y (by rfl)]
  show ((f98 L N m a ds).bind _)=_
  rw [ea,Option.bind_some]
  refine (hide4 L N (f98 L N m) some 4 x [a] (stp r a) (by omega) L 0 [] (by omega) (by omega) (by simp only [List.length_nil];omega)).trans ?_
  simp only [List.drop_zero,List.nil_append]
  rfl
theorem stepsS (hL:1000001<L) (ds:List Tree) (hd:DefsW ds) (t:Tree) (k:Nat) (h:WT t k) (hk:k≤24) (hcl:CL (ds.length:Int) false t) (m:Nat) (hm:60≤m):f98 L N m t ds=some (steps ds t):=by
 have hdef:∀x:Int,0≤x→x<(ds.length:Int)→∃(i:Nat) (hi:i<ds.length),x=(i:Int)∧ds.getD x.toNat (.mk 0 0 [])=ds[i]∧∃kd,kd≤24∧WT ds[i] kd∧CL (ds.length:Int) false ds[i]∧CL 0 true ds[i]:=fun x h0 h1=>by
  obtain ⟨i,rfl⟩:=Int.eq_ofNat_of_zero_le h0
  have hi:i<ds.length:=by omega
  exact ⟨i,hi,rfl,by rw [Int.toNat_natCast,getD_lt hi],hd.2 ds[i] (List.getElem_mem hi)⟩
 refine stepsGS L N hL ds (ds.length:Int) (fun n=>stp (fun _=>[]) (ds.getD n.toNat (.mk 0 0 []))) 24 25 ⟨by omega,by omega⟩ (fun _=>True) (fun _ _ _=>⟨trivial,trivial⟩) (fun _ _ _=>⟨trivial,trivial⟩) (fun _ _ _=>trivial) (fun x h0 h1 _=>?_) (fun m x h0 h1 _ hm=>?_) t k h hk hcl trivial m (by omega)
 ·obtain ⟨i,hi,rfl,e,kd,k1,k2,k3,k4⟩:=hdef x h0 h1
  show Bnd _ 24 (stp _ (ds.getD _ _))
  rw [e]
  obtain ⟨b1,b2,b3⟩:=bnd_guard (r:=fun _=>[]) k2 k1 k3 k4
  have:kd*kd≤24*24:=Nat.mul_le_mul k1 k1
  exact ⟨fun s hs=>by obtain ⟨g1,k',g2,g3,g4⟩:=b1 s hs;exact ⟨g1,k',g2,by omega,g4⟩,by omega,by omega⟩
 ·obtain ⟨i,hi,rfl,e,kd,k1,k2,k3,k4⟩:=hdef x h0 h1
  have:=stepsGS L N hL ds (ds.length:Int) (fun _=>[]) 1 0 ⟨by omega,by omega⟩ (fun t=>CL 0 true t)
   (fun a b h=>⟨h.sub2 (by decide) (by decide) a (.head _),h.sub2 (by decide) (by decide) b (.tail _ (.head _))⟩)
   (fun a b h=>⟨h.sub2 (by decide) (by decide) a (.head _),h.sub2 (by decide) (by decide) b (.tail _ (.head _))⟩)
   (fun x a h=>h.sub2 (by decide) (by decide) a (.head _))
   (fun x h0 h1 hq=>by have:=hq.lt;omega) (fun m x h0 h1 hq _=>by have:=hq.lt;omega) ds[i] kd k2 k1 k3 k4 m (by omega)
  show f98.b L N (f98 L N m) some (.mk 5 (i:Int) []) ds=some (stp (fun _=>[]) (ds.getD (i:Int).toNat (.mk 0 0 [])))
  rw [e]
  unfold f98.b f98.b'
  rw [bif_n (by rfl),bif_n (by rfl),bif_n (by rfl),bif_n (by rfl),bif_y (by rfl)]
  show (bif decide ((0:Int)≤(i:Int))&&decide ((i:Int)<(ds.length:Int)) then ((f98 L N m (listAt ds (Ty.dflt (.st 1)) (i:Int).toNat) ds).bind _) else none)=_
  simp only [le0,lt_cast hi,Bool.and_true,cond_true,Int.toNat_natCast,at_lt hi,this,Option.bind_some]
end
end Go.Proofs.YthidlhjjnaldhaaGreatDoor.Ev
namespace Go.Proofs.YthidlhjjnaldhaaGreatDoor.Ev
open Go
set_option linter.unusedVariables false
set_option linter.unusedSimpArgs false
theorem seek_loop {α R:Type} (xs:List α) (d:α) (p:α→Option Bool) (q:α→Bool) (hp:∀x∈xs,p x=some (q x)) (Ke:Option R) (Kr:Int→Option R) (l:Nat→Int→Option R)
  (hl:∀(n i:Nat),l (n+1) (i:Int)=bif decide ((i:Int)<(xs.length:Int)) then (bif decide ((0:Int)≤(i:Int))&&decide ((i:Int)<(xs.length:Int)) then (p (listAt xs d (i:Int).toNat)).bind fun y=>bif y then Kr (i:Int) else l n (wi ((i:Int)+1)) else none) else Ke) (hlen:xs.length≤1099511627776):
  ∀(n i:Nat),i≤xs.length→xs.length-i<n→((xs.drop i).any q=true∧∃j:Nat,l n (i:Int)=Kr (j:Int))∨((xs.drop i).any q=false∧l n (i:Int)=Ke):=by
 intro n
 induction n with
 |zero=>intro i _ h;omega
 |succ n ih=>
  intro i hi hn
  rw [hl]
  by_cases hlt:i<xs.length
  ·simp only [lt_cast hlt,le0,cond_true,Bool.and_true,Int.toNat_natCast,at_lt hlt,hp _ (List.getElem_mem hlt),Option.bind_some]
   rw [List.drop_eq_getElem_cons hlt,List.any_cons]
   cases q xs[i] with
   |true=>exact .inl ⟨rfl,i,rfl⟩
   |false=>rw [cond_false,Bool.false_or,wi_nat (by omega)];exact ih (i+1) (by omega) (by omega)
  ·rw [ge_cast hlt,cond_false,List.drop_eq_nil_of_le (by omega)]
   exact .inr ⟨rfl,rfl⟩
theorem seek_idx {α:Type} {xs:List α} {q:α→Bool} {r:Option Int} (h:((xs.drop 0).any q=true∧∃j:Nat,r=some (j:Int))∨((xs.drop 0).any q=false∧r=some (-1))):∃v:Int,r=some v∧decide (v≥0)=xs.any q:=by
 rw [List.drop_zero] at h
 rcases h with ⟨h,j,e⟩|⟨h,e⟩
 ·exact ⟨j,e,by rw [h];exact dt (by omega)⟩
 ·exact ⟨-1,e,by rw [h];rfl⟩
noncomputable def isB (p:Prop):Bool:=@decide p (Classical.propDecidable p)
theorem isB_iff {p:Prop}:isB p=true↔p:=by unfold isB;exact @decide_eq_true_iff p (Classical.propDecidable p)
theorem isB_true {p:Prop} (h:p):isB p=true:=isB_iff.2 h
theorem isB_false {p:Prop} (h:¬p):isB p=false:=by cases e:isB p with|false=>rfl|true=>exact absurd (isB_iff.1 e) h
theorem isB_eq {p:Prop} {b:Bool} (h:b=true↔p):b=isB p:=Bool.eq_iff_iff.2 (h.trans isB_iff.symm)
theorem isB_congr {p q:Prop} (h:p↔q):isB p=isB q:=isB_eq (isB_iff.trans h)
theorem any_not {α:Type} {xs:List α} {p:α→Prop}:(xs.any fun x=>!isB (p x))=!isB (∀x∈xs,p x):=by
 apply Bool.eq_iff_iff.2
 rw [Bool.not_eq_true',List.any_eq_true]
 constructor
 ·rintro ⟨x,hx,h⟩
  refine isB_false fun h2=>?_
  rw [isB_true (h2 x hx)] at h;cases h
 ·intro h
  apply Classical.byContradiction
  intro h2
  rw [isB_true] at h
  ·cases h
  ·intro x hx
   apply Classical.byContradiction
   intro h3
   exact h2 ⟨x,hx,by rw [isB_false h3];rfl⟩
def HeadW (o n:Int) (c:Nat):Prop:=(o=0∧n=0∧c=0)∨(o=1∧(-4≤n∧n≤4)∧c=1)∨(o=2∧n=0∧c=2)∨(o=3∧n=0∧c=2)∨(o=4∧(0≤n∧n≤3)∧c=1)∨(o=5∧(0≤n∧n≤2)∧c=0)
theorem wt_mk {o n:Int} {ps:List Tree}:WT (.mk o n ps) (nodes (.mk o n ps))↔HeadW o n ps.length∧∀p∈ps,WT p (nodes p):=by
 unfold HeadW
 constructor
 ·intro h
  have hh:=h
  generalize nodes (.mk o n ps)=k at h
  cases h with
  |nil=>exact ⟨.inl ⟨rfl,rfl,rfl⟩,fun p hp=>by cases hp⟩
  |act n t k hn h=>exact ⟨.inr (.inl ⟨rfl,hn,rfl⟩),fun p hp=>by rw [List.mem_singleton.1 hp,h.nodes_eq];exact h⟩
  |sum a b i j ha hb=>exact ⟨.inr (.inr (.inl ⟨rfl,rfl,rfl⟩)),fun p hp=>by
    rcases List.mem_cons.1 hp with rfl|hp
    ·rw [ha.nodes_eq];exact ha
    ·rw [List.mem_singleton.1 hp,hb.nodes_eq];exact hb⟩
  |par a b i j ha hb=>exact ⟨.inr (.inr (.inr (.inl ⟨rfl,rfl,rfl⟩))),fun p hp=>by
    rcases List.mem_cons.1 hp with rfl|hp
    ·rw [ha.nodes_eq];exact ha
    ·rw [List.mem_singleton.1 hp,hb.nodes_eq];exact hb⟩
  |hide n t k hn h=>exact ⟨.inr (.inr (.inr (.inr (.inl ⟨rfl,hn,rfl⟩)))),fun p hp=>by rw [List.mem_singleton.1 hp,h.nodes_eq];exact h⟩
  |call n hn=>exact ⟨.inr (.inr (.inr (.inr (.inr ⟨rfl,hn,rfl⟩)))),fun p hp=>by cases hp⟩
 ·rintro ⟨h,hp⟩
  have one:∀{a:Tree},nodes (.mk o n [a])=nodes a+1:=fun {a}=>by simp only [nodes,nodess];omega
  have two:∀{a b:Tree},nodes (.mk o n [a,b])=nodes a+nodes b+1:=fun {a b}=>by simp only [nodes,nodess];omega
  rcases h with ⟨rfl,rfl,hc⟩|⟨rfl,hn,hc⟩|⟨rfl,rfl,hc⟩|⟨rfl,rfl,hc⟩|⟨rfl,hn,hc⟩|⟨rfl,hn,hc⟩
  ·match ps,hc with
   |[],_=>simp only [nodes,nodess];exact .nil
  ·match ps,hc,hp with
   |[a],_,hp=>rw [one];exact .act n a _ hn (hp a (.head _))
  ·match ps,hc,hp with
   |[a,b],_,hp=>rw [two];exact .sum a b _ _ (hp a (.head _)) (hp b (.tail _ (.head _)))
  ·match ps,hc,hp with
   |[a,b],_,hp=>rw [two];exact .par a b _ _ (hp a (.head _)) (hp b (.tail _ (.head _)))
  ·match ps,hc,hp with
   |[a],_,hp=>rw [one];exact .hide n a _ hn (hp a (.head _))
  ·match ps,hc with
   |[],_=>simp only [nodes,nodess];exact .call n hn
theorem tn_ok (L N:Nat):∀(m:Nat) (t:Tree) (most:Int),nodes t≤m→nodes t<L→nodes t≤1048577→0≤most→most≤1048577→
  ∃r:Int,f81 L N m t most=some r∧1≤r∧r≤(nodes t:Int)∧(r≤most→r=(nodes t:Int)):=by
 intro m
 induction m with
 |zero=>intro t _ h;have:=nodes_pos t;omega
 |succ m ih=>
  intro t most ht hL hsz h0 h1
  obtain ⟨o,x,ps⟩:=t
  simp only [nodes] at ht hL hsz
  have hpl:=nodess_len ps
  show ∃r,f81.b L N (f81 L N m) some (.mk o x ps) most=some r∧_
  unfold f81.b f81.b'
  simp only [Tree.parts]
  have key:∀(n i:Nat) (acc:Int),i≤ps.length→ps.length-i<n→1≤acc→acc+(nodess (ps.drop i):Int)≤1+(nodess ps:Int)→(acc≤most→acc+(nodess (ps.drop i):Int)=1+(nodess ps:Int))→
    ∃r:Int,f81.l0 L N (f81 L N m) (fun z5=>f81.p0_e0 L N (f81 L N m) some z5) (fun z6 z7=>f81.p0_r L N (f81 L N m) some z6 z7) n most acc ps (ps.length:Int) (i:Int)=some r∧1≤r∧r≤1+(nodess ps:Int)∧(r≤most→r=1+(nodess ps:Int)):=by
   intro n
   induction n with
   |zero=>intro i acc _ h;omega
   |succ n ihn=>
    intro i acc hi hn ha hb hc
    show ∃r,f81.s0 L N _ _ _ (f81.l0 L N _ _ _ n) most acc ps (ps.length:Int) (i:Int)=some r∧_
    unfold f81.s0 f81.s0'
    by_cases hlt:i<ps.length
    ·have hg:=nodes_get hlt
     have hd:=nodess_drop hlt
     simp only [lt_cast hlt,le0,Bool.and_true,cond_true,Int.toNat_natCast,at_lt hlt,tree_eta]
     by_cases hgt:acc>most
     ·rw [dt hgt,cond_true]
      exact ⟨acc,rfl,ha,by omega,fun h=>by omega⟩
     ·obtain ⟨r1,e,a1,a2,a3⟩:=ih ps[i] (most-acc) (by omega) (by omega) (by omega) (by omega) (by omega)
      rw [df hgt,cond_false,show wi (most-acc)=most-acc from wi_id (by omega) (by omega),e,Option.bind_some,show wi (acc+r1)=acc+r1 from wi_id (by omega) (by omega),wi_nat (by omega)]
      have hc':=hc (by omega)
      exact ihn (i+1) (acc+r1) (by omega) (by omega) (by omega) (by omega) (fun h=>by have:=a3 (by omega);omega)
    ·rw [ge_cast hlt,cond_false]
     have:nodess (ps.drop i)=0:=by rw [List.drop_eq_nil_of_le (by omega)];rfl
     exact ⟨acc,rfl,ha,by omega,fun h=>by have:=hc h;omega⟩
  obtain ⟨r,e,e1,e2,e3⟩:=key L 0 1 (by omega) (by omega) (by omega) (by rw [List.drop_zero];omega) (fun _=>by rw [List.drop_zero])
  simp only [nodes]
  exact ⟨r,e,e1,by omega,fun h=>by have:=e3 h;omega⟩
theorem tn_great (L N:Nat) (t:Tree) (most:Nat) (hN:nodes t≤N) (hL:nodes t<L) (hsz:nodes t≤1048577) (h1:most≤1048577):∃r:Int,f81 L N N t (most:Int)=some r∧(r>(most:Int)↔nodes t>most):=by
 obtain ⟨r,e,a1,a2,a3⟩:=tn_ok L N N t (most:Int) hN hL hsz (by omega) (by omega)
 refine ⟨r,e,fun h=>by omega,fun h=>?_⟩
 apply Classical.byContradiction
 intro h2
 have:=a3 (by omega)
 omega
theorem shape_ok (L N:Nat):∀(k:Nat) (t:Tree),nodes t≤k→nodes t<L→nodes t≤1048577→∀m,4*k≤m→f82 L N m t=some (isB (WT t (nodes t))):=by
 intro k
 induction k with
 |zero=>intro t h;have:=nodes_pos t;omega
 |succ k ih=>
  intro t ht hL hsz m hm
  obtain ⟨m,rfl⟩:∃m',m=m'+4:=⟨m-4,by omega⟩
  obtain ⟨o,x,ps⟩:=t
  have hnd:nodes (.mk o x ps)=1+nodess ps:=by simp only [nodes]
  rw [hnd] at ht hL hsz
  have hpl:=nodess_len ps
  have sub:∀p∈ps,f123 L N (m+1) p=some (!isB (WT p (nodes p))):=fun p hp=>by
   obtain ⟨i,hi,rfl⟩:=List.mem_iff_getElem.1 hp
   have:=nodes_get hi
   show f123.b' L N (f82 L N m) (f123 L N m) (f90_2 L N m) (f129_2 L N m) some ps[i]=_
   unfold f123.b'
   rw [tree_eta,ih ps[i] (by omega) (by omega) (by omega) m (by omega)];rfl
  obtain ⟨v,e1,e2⟩:=seek_idx (seek_loop ps (Ty.dflt (.st 1)) (f123 L N (m+1)) (fun p=>!isB (WT p (nodes p))) sub (some (-1)) (fun z=>some z)
   (fun n i=>f129_2.l0 L N (f82 L N (m+1)) (f123 L N (m+1)) (f90_2 L N (m+1)) (f129_2 L N (m+1)) (some (-1)) (fun z=>some z) n ps (ps.length:Int) i) (fun n i=>rfl) (by omega) L 0 (by omega) (by omega))
  have hidx:f129_2 L N (m+2) ps=some v:=e1
  have hcon:f90_2 L N (m+3) ps=some (!isB (∀p∈ps,WT p (nodes p))):=by
   show f90_2.b' L N (f82 L N (m+2)) (f123 L N (m+2)) (f90_2 L N (m+2)) (f129_2 L N (m+2)) some ps=_
   unfold f90_2.b'
   rw [hidx,Option.bind_some,e2,any_not]
  have fin:∀(c:Nat),HeadW o x c→(∀d,HeadW o x d→d=c)→f82.j1' L N (f82 L N (m+3)) (f123 L N (m+3)) (f90_2 L N (m+3)) (f129_2 L N (m+3)) some (c:Int) o x ps=some (isB (WT (.mk o x ps) (nodes (.mk o x ps)))):=by
   intro c hc hu
   unfold f82.j1'
   by_cases hlen:ps.length=c
   ·rw [show ((ps.length:Int)==(c:Int))=true by simp [hlen],cond_true,hcon,Option.bind_some,Bool.not_not]
    exact congrArg some (isB_congr ⟨fun h=>wt_mk.2 ⟨by rw [hlen];exact hc,h⟩,fun h=>(wt_mk.1 h).2⟩)
   ·rw [show ((ps.length:Int)==(c:Int))=false by simp;omega,cond_false]
    exact congrArg some (isB_false fun h=>hlen (hu _ (wt_mk.1 h).1)).symm
  have no:(∀d,¬HeadW o x d)→(some false:Option Bool)=some (isB (WT (.mk o x ps) (nodes (.mk o x ps)))):=fun h=>congrArg some (isB_false fun h2=>h _ (wt_mk.1 h2).1).symm
  show f82.b' L N (f82 L N (m+3)) (f123 L N (m+3)) (f90_2 L N (m+3)) (f129_2 L N (m+3)) some (.mk o x ps)=_
  unfold f82.b'
  simp only [Tree.op,Tree.n,Tree.parts]
  by_cases h0:o=0
  ·subst h0
   rw [show ((0:Int)==0)=true from rfl,cond_true]
   by_cases hx:x=0
   ·rw [show (x !=0)=false by simpa using hx,cond_false]
    exact fin 0 (.inl ⟨rfl,hx,rfl⟩) fun d hd=>by unfold HeadW at hd;omega
   ·rw [show (x !=0)=true by simpa using hx,cond_true]
    exact no fun d hd=>by unfold HeadW at hd;omega
  ·rw [show (o==0)=false by simpa using h0,cond_false]
   by_cases h1:o=1
   ·subst h1
    rw [show ((1:Int)==1)=true from rfl,cond_true,act1_ok,Option.bind_some]
    by_cases hx:-4≤x∧x≤4
    ·rw [dt hx,Bool.not_true,cond_false]
     exact fin 1 (.inr (.inl ⟨rfl,hx,rfl⟩)) fun d hd=>by unfold HeadW at hd;omega
    ·rw [df hx,Bool.not_false,cond_true]
     exact no fun d hd=>by unfold HeadW at hd;omega
   ·rw [show (o==1)=false by simpa using h1,cond_false]
    have two:o=2∨o=3→(bif (x !=0) then (some false:Option Bool) else f82.j1' L N (f82 L N (m+3)) (f123 L N (m+3)) (f90_2 L N (m+3)) (f129_2 L N (m+3)) some (2:Int) o x ps)=some (isB (WT (.mk o x ps) (nodes (.mk o x ps)))):=fun ho=>by
     by_cases hx:x=0
     ·rw [show (x !=0)=false by simpa using hx,cond_false]
      exact fin 2 (by unfold HeadW;omega) fun d hd=>by unfold HeadW at hd;omega
     ·rw [show (x !=0)=true by simpa using hx,cond_true]
      exact no fun d hd=>by unfold HeadW at hd;omega
    by_cases h2:o=2
    ·subst h2
     rw [show ((2:Int)==2)=true from rfl,cond_true]
     unfold f82.j0'
     rw [cond_true]
     exact two (.inl rfl)
    ·rw [show (o==2)=false by simpa using h2,cond_false]
     unfold f82.j0'
     by_cases h3:o=3
     ·subst h3
      rw [show ((3:Int)==3)=true from rfl,cond_true]
      exact two (.inr rfl)
     ·rw [show (o==3)=false by simpa using h3,cond_false]
      by_cases h4:o=4
      ·subst h4
       have hn:f122 L N x=some (decide (0≤x∧x≤3)):=by
        show f122.b' L N some x=_
        unfold f122.b'
        by_cases h:x≥0
        ·rw [dt h,cond_true]
         congr 1
         by_cases h2:x<4
         ·rw [dt h2,dt (by omega)]
         ·rw [df h2,df (by omega)]
        ·rw [df h,cond_false,df (by omega)]
       rw [show ((4:Int)==4)=true from rfl,cond_true,hn,Option.bind_some]
       by_cases hx:0≤x∧x≤3
       ·rw [dt hx,Bool.not_true,cond_false]
        exact fin 1 (by unfold HeadW;omega) fun d hd=>by unfold HeadW at hd;omega
       ·rw [df hx,Bool.not_false,cond_true]
        exact no fun d hd=>by unfold HeadW at hd;omega
      ·rw [show (o==4)=false by simpa using h4,cond_false]
       by_cases h5:o=5
       ·subst h5
        rw [show ((5:Int)==5)=true from rfl,cond_true]
        by_cases hx:x<0
        ·rw [dt hx,cond_true]
         exact no fun d hd=>by unfold HeadW at hd;omega
        ·rw [df hx,cond_false]
         by_cases hx2:x≥3
         ·rw [dt hx2,cond_true]
          exact no fun d hd=>by unfold HeadW at hd;omega
         ·rw [df hx2,cond_false]
          exact fin 0 (by unfold HeadW;omega) fun d hd=>by unfold HeadW at hd;omega
       ·rw [show (o==5)=false by simpa using h5,cond_false]
        exact no fun d hd=>by unfold HeadW at hd;omega
theorem cl_parts {n:Int} {o x:Int} {ps:List Tree} (ho:o≠5):CL n false (.mk o x ps)↔∀p∈ps,CL n false p:=⟨fun h=>h.sub ho,fun h=>.node false o x ps ho h⟩
theorem below_ok (L N:Nat) (n:Int):∀(k:Nat) (t:Tree),WT t (nodes t)→nodes t≤k→nodes t<L→nodes t≤1048577→∀m,4*k≤m→f141 L N m t n=some (isB (CL n false t)):=by
 intro k
 induction k with
 |zero=>intro t _ h;have:=nodes_pos t;omega
 |succ k ih=>
  intro t hw ht hL hsz m hm
  obtain ⟨m,rfl⟩:∃m',m=m'+4:=⟨m-4,by omega⟩
  obtain ⟨o,x,ps⟩:=t
  obtain ⟨hh,hps⟩:=wt_mk.1 hw
  have hnd:nodes (.mk o x ps)=1+nodess ps:=by simp only [nodes]
  rw [hnd] at ht hL hsz
  have hpl:=nodess_len ps
  have sub:∀p∈ps,f175_1 L N (m+1) p n=some (!isB (CL n false p)):=fun p hp=>by
   obtain ⟨i,hi,rfl⟩:=List.mem_iff_getElem.1 hp
   have:=nodes_get hi
   show f175_1.b' L N (f141 L N m) (f90_3 L N m) (f129_3 L N m) (f175_1 L N m) some ps[i] n=_
   unfold f175_1.b'
   rw [tree_eta,ih ps[i] (hps _ (List.getElem_mem hi)) (by omega) (by omega) (by omega) m (by omega)];rfl
  obtain ⟨v,e1,e2⟩:=seek_idx (seek_loop ps (Ty.dflt (.st 1)) (fun p=>f175_1 L N (m+1) p n) (fun p=>!isB (CL n false p)) sub (some (-1)) (fun z=>some z)
   (fun q i=>f129_3.l0 L N (f141 L N (m+1)) (f90_3 L N (m+1)) (f129_3 L N (m+1)) (f175_1 L N (m+1)) (some (-1)) (fun z=>some z) q ps n (ps.length:Int) i) (fun n i=>rfl) (by omega) L 0 (by omega) (by omega))
  have hidx:f129_3 L N (m+2) ps n=some v:=e1
  have hcon:f90_3 L N (m+3) ps n=some (!isB (∀p∈ps,CL n false p)):=by
   show f90_3.b' L N (f141 L N (m+2)) (f90_3 L N (m+2)) (f129_3 L N (m+2)) (f175_1 L N (m+2)) some ps n=_
   unfold f90_3.b'
   rw [hidx,Option.bind_some,e2,any_not]
  show f141.b' L N (f141 L N (m+3)) (f90_3 L N (m+3)) (f129_3 L N (m+3)) (f175_1 L N (m+3)) some (.mk o x ps) n=_
  unfold f141.b'
  simp only [Tree.op,Tree.n,Tree.parts,hcon,Option.bind_some,Bool.not_not]
  by_cases h5:o=5
  ·subst h5
   rw [show ((5:Int) !=5)=false from rfl,cond_false]
   have hnil:ps=[]:=by
    unfold HeadW at hh
    exact List.length_eq_zero_iff.1 (by omega)
   subst hnil
   by_cases hx:x<n
   ·refine (bif_y (decide_eq_true hx)).trans ?_
    rw [isB_true (p:=∀p∈[],CL n false p) (fun p hp=>by cases hp),isB_true (CL.call false x [] hx)]
   ·refine (bif_n (decide_eq_false hx)).trans ?_
    rw [isB_false fun h=>hx h.lt]
  ·rw [show (o !=5)=true by simpa using h5,cond_true]
   exact congrArg some (isB_congr (cl_parts h5).symm)
def FitW (t:Tree) (n:Int):Prop:=∃k,k≤24∧WT t k∧(0≤n∧n≤3)∧CL n false t
def OkW (t:Tree):Prop:=∃k,k≤24∧WT t k
theorem okW_iff {t:Tree}:OkW t↔nodes t≤24∧WT t (nodes t):=⟨fun ⟨k,h1,h2⟩=>by rw [h2.nodes_eq];exact ⟨h1,h2⟩,fun ⟨h1,h2⟩=>⟨_,h1,h2⟩⟩
theorem fitW_iff {t:Tree} {n:Int}:FitW t n↔OkW t∧(0≤n∧n≤3)∧CL n false t:=⟨fun ⟨k,h1,h2,h3,h4⟩=>⟨⟨k,h1,h2⟩,h3,h4⟩,fun ⟨⟨k,h1,h2⟩,h3,h4⟩=>⟨k,h1,h2,h3,h4⟩⟩
theorem termOkI (L N:Nat) (t:Tree) (hs:nodes t≤1048577) (hN:4194308≤N) (hL:1048577<L):f50 L N t=some (isB (OkW t)):=by
 obtain ⟨r,e,a1,a2,a3⟩:=tn_ok L N N t 24 (by omega) (by omega) hs (by omega) (by omega)
 show f50.b' L N some t=_
 unfold f50.b'
 rw [tree_eta,e,Option.bind_some,shape_ok L N (nodes t) t (Nat.le_refl _) (by omega) hs N (by omega)]
 by_cases h:r≤24
 ·have:=a3 h
  rw [dt h,cond_true,Option.bind_some]
  exact congrArg some (isB_congr ⟨fun h=>okW_iff.2 ⟨by omega,h⟩,fun h=>(okW_iff.1 h).2⟩)
 ·rw [df h,cond_false]
  exact congrArg some (isB_false fun h2=>h (by have:=(okW_iff.1 h2).1;omega)).symm
theorem termOkS (L N:Nat) (t:Tree) (hN:nodes t≤N) (hN2:24≤N) (hL:nodes t<L) (hL3:3≤L):f53 L N t=some (isB (OkW t)):=by
 obtain ⟨r,e,r0,r1,hw⟩:=l2Nodes_ok L N N t hN hL
 show f53.b' L N some t=_
 unfold f53.b'
 rw [tree_eta,e,Option.bind_some,in_ok,Option.bind_some]
 refine congrArg some (isB_eq ?_)
 rw [decide_eq_true_iff]
 constructor
 ·intro h;exact ⟨r.toNat,by omega,hw (by omega) (by omega)⟩
 ·rintro ⟨k,h1,h2⟩
  have:=l2Nodes_wt L N hL3 t k h2 (by omega) N (by omega)
  rw [e] at this
  have:=Option.some.inj this
  have:=h2.pos
  omega
theorem l2Calls_iff (L N:Nat) (t:Tree) (b:Bool) (h:nodes t≤N) (hL:nodes t<L) (hs:nodes t≤1048577) (hw:WT t (nodes t)):∃c:Int,f97 L N N t b=some c∧∀n:Int,0≤n→(c<n↔CL n b t):=by
 have key:∀(m:Nat) (t:Tree) (b:Bool),nodes t≤m→nodes t<L→nodes t≤1048577→WT t (nodes t)→∃c:Int,f97 L N m t b=some c∧-1≤c∧∀n:Int,0≤n→(c<n↔CL n b t):=by
  intro m
  induction m with
  |zero=>intro t b h;have:=nodes_pos t;omega
  |succ m ih=>
   intro t b ht hL hsz hw
   obtain ⟨o,x,ps⟩:=t
   obtain ⟨hh,hps⟩:=wt_mk.1 hw
   have hnd:nodes (.mk o x ps)=1+nodess ps:=by simp only [nodes]
   rw [hnd] at ht hL hsz
   have hpl:=nodess_len ps
   show ∃c,f97.b L N (f97 L N m) some (.mk o x ps) b=some c∧_
   unfold f97.b f97.b'
   simp only [Tree.op,Tree.n,Tree.parts]
   by_cases h5:o=5
   ·subst h5
    rw [show ((5:Int)==5)=true from rfl,cond_true]
    exact ⟨x,rfl,by unfold HeadW at hh;omega,fun n _=>⟨fun h=>.call b x ps h,fun h=>h.lt⟩⟩
   ·rw [show (o==5)=false by simpa using h5,cond_false]
    by_cases hb:b=true∧o=1
    ·obtain ⟨rfl,rfl⟩:=hb
     refine ⟨-1,?_,by omega,fun n hn=>⟨fun _=>.stop x ps,fun _=>by omega⟩⟩
     obtain ⟨L',rfl⟩:∃L',L=L'+1:=⟨L-1,by omega⟩
     show f97.s0 _ N _ _ _ _ _ _ _ _ ps=_
     unfold f97.s0 f97.s0'
     by_cases h0:(0:Int)<(ps.length:Int)
     ·rw [dt h0];rfl
     ·rw [df h0];rfl
    ·have hnode:∀n,CL n b (.mk o x ps)↔∀p∈ps,CL n b p:=fun n=>⟨fun h=>by
      cases b with
      |false=>exact h.sub h5
      |true=>exact h.sub2 h5 fun h1=>hb ⟨rfl,h1⟩,fun h=>.node b o x ps h5 h⟩
     have key:∀(n i:Nat) (c:Int),i≤ps.length→ps.length-i<n→-1≤c→(∀q:Int,0≤q→(c<q↔∀(j:Nat) (hj:j<ps.length),j<i→CL q b ps[j]))→
       ∃c':Int,f97.l0 L N (f97 L N m) (fun z13=>f97.p0_e0 L N (f97 L N m) some z13) n b c (i:Int) o x ps=some c'∧-1≤c'∧∀q:Int,0≤q→(c'<q↔∀p∈ps,CL q b p):=by
      intro n
      induction n with
      |zero=>intro i c _ h;omega
      |succ n ihn=>
       intro i c hi hn hc1 hc
       show ∃c',f97.s0 L N _ _ (f97.l0 L N _ _ n) b c (i:Int) o x ps=some c'∧_
       unfold f97.s0 f97.s0'
       by_cases hlt:i<ps.length
       ·have hg:=nodes_get hlt
        obtain ⟨c2,e,hc20,hc2⟩:=ih ps[i] b (by omega) (by omega) (by omega) (hps _ (List.getElem_mem hlt))
        have go:∃c',f97.j0' L N (f97 L N m) (fun z13=>f97.p0_e0 L N (f97 L N m) some z13) (f97.l0 L N (f97 L N m) (fun z13=>f97.p0_e0 L N (f97 L N m) some z13) n) b c (i:Int) o x ps=some c'∧-1≤c'∧∀q:Int,0≤q→(c'<q↔∀p∈ps,CL q b p):=by
         unfold f97.j0'
         simp only [le0,lt_cast hlt,Bool.and_true,cond_true,Int.toNat_natCast,at_lt hlt,e,Option.bind_some]
         rw [wi_nat (by omega)]
         refine ihn (i+1) _ (by omega) (by omega) (by cases h:decide (c2>c)<;>simp only [cond_true,cond_false]<;>omega) fun q hq=>?_
         have hmax:∀q,(bif decide (c2>c) then c2 else c)<q↔c<q∧c2<q:=fun q=>by
          by_cases hgt:c2>c
          ·rw [dt hgt,cond_true];omega
          ·rw [df hgt,cond_false];omega
         rw [hmax,hc q hq,hc2 q hq]
         constructor
         ·rintro ⟨h1,h2⟩ j hj hji
          by_cases e:j=i
          ·subst e;exact h2
          ·exact h1 j hj (by omega)
         ·intro h
          exact ⟨fun j hj hji=>h j hj (by omega),h i hlt (by omega)⟩
        rw [lt_cast hlt,cond_true]
        cases b with
        |true=>
         have h1:o≠1:=fun h=>hb ⟨rfl,h⟩
         rw [cond_true,show (o==1)=false by simpa using h1,Bool.not_false,cond_true]
         exact go
        |false=>exact go
       ·rw [ge_cast hlt,cond_false]
        exact ⟨c,rfl,hc1,fun q hq=>(hc q hq).trans ⟨fun h p hp=>by
         obtain ⟨j,hj,rfl⟩:=List.mem_iff_getElem.1 hp
         exact h j hj (by omega),fun h j hj _=>h _ (List.getElem_mem hj)⟩⟩
     obtain ⟨c,e,c0,hc⟩:=key L 0 (-1) (by omega) (by omega) (by omega) (fun q hq=>⟨fun _ j hj h=>by omega,fun _=>by omega⟩)
     exact ⟨c,e,c0,fun n hn=>(hc n hn).trans (hnode n).symm⟩
 obtain ⟨c,e,-,h⟩:=key N t b h hL hs hw
 exact ⟨c,e,h⟩
theorem fitsI (L N:Nat) (t:Tree) (n:Int) (hs:nodes t≤1048577) (hN:4194308≤N) (hL:1048577<L):f103 L N t n=some (isB (FitW t n)):=by
 show f103.b' L N some t n=_
 unfold f103.b'
 have no:¬FitW t n→(some false:Option Bool)=some (isB (FitW t n)):=fun h=>congrArg some (isB_false h).symm
 by_cases h0:n≥0
 ·rw [dt h0,cond_true]
  by_cases h1:n≤3
  ·rw [dt h1,cond_true,tree_eta,termOkI L N t hs hN hL,Option.bind_some]
   by_cases hw:OkW t
   ·have:=okW_iff.1 hw
    rw [isB_true hw,cond_true,below_ok L N n (nodes t) t this.2 (Nat.le_refl _) (by omega) hs N (by omega),Option.bind_some]
    exact congrArg some (isB_congr ⟨fun h=>fitW_iff.2 ⟨hw,⟨h0,h1⟩,h⟩,fun h=>(fitW_iff.1 h).2.2⟩)
   ·rw [isB_false hw,cond_false]
    exact no fun h=>hw (fitW_iff.1 h).1
  ·rw [df h1,cond_false]
   exact no fun h=>h1 (fitW_iff.1 h).2.1.2
 ·rw [df h0,cond_false]
  exact no fun h=>h0 (fitW_iff.1 h).2.1.1
end Go.Proofs.YthidlhjjnaldhaaGreatDoor.Ev
namespace Go.Proofs.YthidlhjjnaldhaaGreatDoor.Ev
open Go
set_option linter.unusedVariables false
set_option linter.unusedSimpArgs false
section
variable {R : Type} (L N : Nat) (self : Tree → List Tree → Option (List Step))
theorem parI (a b:Tree):f133 L N a b=some (.mk 3 0 [a,b]):=by
 show f133.b' L N some a b=_
 unfold f133.b'
 rw [tree_eta,tree_eta]
theorem hideI (x:Int) (a:Tree):f126 L N x a=some (.mk 4 x [a]):=by
 show f126.b' L N some x a=_
 unfold f126.b'
 rw [tree_eta]
theorem par0I (K:Int→Int→List Tree→List Step→List Step→List Step→Option R) (o x:Int) (a b:Tree) (left right:List Step) (hl:left.length≤1000000):
  ∀(n i:Nat) (out:List Step),i≤left.length→left.length-i<n→out.length+(left.length-i)≤lim→
   f93.l0 L N self K n (left.length:Int) (i:Int) o x [a,b] left right out=K o x [a,b] left right (out++(left.drop i).map (leftS b)):=by
 intro n
 induction n with
 |zero=>intro i out _ h;omega
 |succ n ih=>
  intro i out hi hn ho
  show f93.s0 L N self _ (f93.l0 L N self _ n) (left.length:Int) (i:Int) o x [a,b] left right out=_
  unfold f93.s0 f93.s0'
  by_cases hlt:i<left.length
  ·have g1:(decide ((0:Int)≤1)&&decide ((1:Int)<(([a,b]:List Tree).length:Int)))=true:=rfl
   have g2:listAt [a,b] (Ty.dflt (.st 1)) (1:Int).toNat=b:=rfl
   have hle:decide (out.length+([Step.mk (left[i]).act (Tree.mk 3 0 [(left[i]).thn,b])]:List Step).length≤lim)=true:=dt (by simp only [List.length_cons,List.length_nil];omega)
   simp only [lt_cast hlt,le0,Bool.and_true,cond_true,Int.toNat_natCast,at_lt hlt,g1,g2,tree_eta,parI,Option.bind_some,hle]
   rw [wi_nat (by omega),ih (i+1) _ (by omega) (by omega) (by simp only [List.length_append,List.length_cons,List.length_nil];omega),List.drop_eq_getElem_cons hlt,List.map_cons,List.append_assoc]
   rfl
  ·simp only [ge_cast hlt,cond_false]
   rw [List.drop_eq_nil_of_le (by omega),List.map_nil,List.append_nil]
theorem par1I (K:List Step→List Step→List Step→Option R) (o x:Int) (a b:Tree) (left right:List Step) (hl:right.length≤1000000):
  ∀(n i:Nat) (out:List Step),i≤right.length→right.length-i<n→out.length+(right.length-i)≤lim→
   f93.l1 L N self K n (right.length:Int) (i:Int) o x [a,b] left right out=K left right (out++(right.drop i).map (rightS a)):=by
 intro n
 induction n with
 |zero=>intro i out _ h;omega
 |succ n ih=>
  intro i out hi hn ho
  show f93.s1 L N self _ (f93.l1 L N self _ n) (right.length:Int) (i:Int) o x [a,b] left right out=_
  unfold f93.s1 f93.s1'
  by_cases hlt:i<right.length
  ·have g1:(decide ((0:Int)≤0)&&decide ((0:Int)<(([a,b]:List Tree).length:Int)))=true:=rfl
   have g2:listAt [a,b] (Ty.dflt (.st 1)) (0:Int).toNat=a:=rfl
   have hle:decide (out.length+([Step.mk (right[i]).act (Tree.mk 3 0 [a,(right[i]).thn])]:List Step).length≤lim)=true:=dt (by simp only [List.length_cons,List.length_nil];omega)
   rw [g1,g2]
   simp only [lt_cast hlt,le0,Bool.and_true,cond_true,Int.toNat_natCast,at_lt hlt,tree_eta,parI,Option.bind_some,hle]
   rw [wi_nat (by omega),ih (i+1) _ (by omega) (by omega) (by simp only [List.length_append,List.length_cons,List.length_nil];omega),List.drop_eq_getElem_cons hlt,List.map_cons,List.append_assoc]
   rfl
  ·simp only [ge_cast hlt,cond_false]
   rw [List.drop_eq_nil_of_le (by omega),List.map_nil,List.append_nil]
theorem par3I (K:Int→Int→List Step→List Step→List Step→Option R) (q:Int) (left right:List Step) (hl:right.length≤1000000) (i:Nat) (x:Step):
  ∀(n j:Nat) (out:List Step),j≤right.length→right.length-j<n→out.length+(right.length-j)≤lim→
   f93.l3 L N self K n q (i:Int) (right.length:Int) (j:Int) x.act x.thn.op x.thn.n x.thn.parts left right out=K q (i:Int) left right (out++tauRow x (right.drop j)):=by
 intro n
 induction n with
 |zero=>intro j out _ h;omega
 |succ n ih=>
  intro j out hj hn ho
  show f93.s3 L N self _ (f93.l3 L N self _ n) q (i:Int) (right.length:Int) (j:Int) x.act x.thn.op x.thn.n x.thn.parts left right out=_
  unfold f93.s3 f93.s3'
  by_cases hlt:j<right.length
  ·rw [List.drop_eq_getElem_cons hlt]
   have hle:decide (out.length+([Step.mk 0 (Tree.mk 3 0 [x.thn,(right[j]).thn])]:List Step).length≤lim)=true:=dt (by simp only [List.length_cons,List.length_nil];omega)
   simp only [lt_cast hlt,le0,Bool.and_true,cond_true,Int.toNat_natCast,at_lt hlt]
   by_cases h0:x.act=0
   ·rw [show (x.act !=0)=false by simpa using h0,cond_false]
    unfold f93.j0'
    rw [cond_false,wi_nat (by omega),ih (j+1) _ (by omega) (by omega) (by omega)]
    unfold tauRow
    rw [if_neg (fun h=>h h0),if_neg (fun h=>h h0)]
   ·rw [show (x.act !=0)=true by simpa using h0,cond_true]
    unfold f93.j0'
    cases hc:(x.act==wi (0-(right[j]).act)) with
    |false=>
     rw [cond_false,wi_nat (by omega),ih (j+1) _ (by omega) (by omega) (by omega)]
     unfold tauRow
     rw [if_pos h0,if_pos h0,List.filter_cons,hc]
     rfl
    |true=>
     simp only [cond_true,tree_eta,parI,Option.bind_some,hle]
     rw [wi_nat (by omega),ih (j+1) _ (by omega) (by omega) (by simp only [List.length_append,List.length_cons,List.length_nil];omega)]
     unfold tauRow
     rw [if_pos h0,if_pos h0,List.filter_cons,hc,if_pos rfl,List.map_cons,List.append_assoc]
     rfl
  ·simp only [ge_cast hlt,cond_false]
   rw [List.drop_eq_nil_of_le (by omega)]
   have:tauRow x []=[]:=by unfold tauRow;split<;>rfl
   rw [this,List.append_nil]
theorem par2I (hL:1000001<L) (k:List Step→Option R) (left right:List Step) (hl:left.length≤1000000) (hr:right.length≤1000000):
  ∀(n i:Nat) (out:List Step),i≤left.length→left.length-i<n→out.length+(left.length-i)*right.length≤lim→
   f93.l2 L N self (fun z36=>f93.p2_e5 L N self k z36) n (left.length:Int) (i:Int) left right out=k (out++(left.drop i).flatMap fun x=>tauRow x right):=by
 intro n
 induction n with
 |zero=>intro i out _ h;omega
 |succ n ih=>
  intro i out hi hn ho
  show f93.s2 L N self _ (f93.l2 L N self _ n) (left.length:Int) (i:Int) left right out=_
  unfold f93.s2 f93.s2'
  by_cases hlt:i<left.length
  ·have hstep:(left.length-i)*right.length=(left.length-(i+1))*right.length+right.length:=by
    rw [show left.length-i=(left.length-(i+1))+1 by omega,Nat.add_mul,Nat.one_mul]
   simp only [lt_cast hlt,le0,Bool.and_true,cond_true,Int.toNat_natCast,at_lt hlt]
   refine (par3I L N self _ (left.length:Int) left right hr i left[i] L 0 out (by omega) (by omega) (by omega)).trans ?_
   show f93.l2 L N self _ n (left.length:Int) (wi ((i:Int)+1)) left right (out++tauRow left[i] (right.drop 0))=_
   have htl:(tauRow left[i] right).length≤right.length:=by
    have h1:=tauRow_len left[i] right
    have h2:=len_vt right
    split at h1<;>omega
   rw [List.drop_zero,wi_nat (by omega),ih (i+1) _ (by omega) (by omega) (by rw [List.length_append];omega),List.drop_eq_getElem_cons hlt,List.flatMap_cons,List.append_assoc]
  ·rw [ge_cast hlt,cond_false,List.drop_eq_nil_of_le (by omega),List.flatMap_nil,List.append_nil]
   rfl
theorem hide4I (k:List Step→Option R) (o x:Int) (ps:List Tree) (st:List Step) (hl:st.length≤1000000):
  ∀(n i:Nat) (out:List Step),i≤st.length→st.length-i<n→out.length+(st.length-i)≤lim→
   f93.l4 L N self (fun z89=>f93.p4_e9 L N self k z89) n (st.length:Int) (i:Int) o x ps out st=k (out++((st.drop i).filter (keepH' x)).map fun s=>⟨s.act,.mk 4 x [s.thn]⟩):=by
 intro n
 induction n with
 |zero=>intro i out _ h;omega
 |succ n ih=>
  intro i out hi hn ho
  show f93.s4 L N self _ (f93.l4 L N self _ n) (st.length:Int) (i:Int) o x ps out st=_
  unfold f93.s4 f93.s4'
  by_cases hlt:i<st.length
  ·rw [List.drop_eq_getElem_cons hlt,List.filter_cons]
   have hnm:f89 L N (st[i]).act=some (nmS (st[i]).act):=rfl
   have hle:decide (out.length+([Step.mk (st[i]).act (Tree.mk 4 x [(st[i]).thn])]:List Step).length≤lim)=true:=dt (by simp only [List.length_cons,List.length_nil];omega)
   simp only [lt_cast hlt,le0,Bool.and_true,cond_true,Int.toNat_natCast,at_lt hlt,hnm,Option.bind_some]
   have go:∀c:Bool,c=keepH' x st[i]→f93.j1' L N self (fun z89=>f93.p4_e9 L N self k z89) (f93.l4 L N self (fun z89=>f93.p4_e9 L N self k z89) n) (st.length:Int) (i:Int) c o x ps (st[i]).act (st[i]).thn.op (st[i]).thn.n (st[i]).thn.parts out st
     =k (out++(if keepH' x st[i]=true then st[i]::(st.drop (i+1)).filter (keepH' x) else (st.drop (i+1)).filter (keepH' x)).map fun s=>⟨s.act,.mk 4 x [s.thn]⟩):=by
    intro c hc
    subst hc
    unfold f93.j1'
    cases hk:keepH' x st[i] with
    |true=>
     simp only [cond_true,tree_eta,hideI,Option.bind_some,hle]
     rw [wi_nat (by omega),ih (i+1) _ (by omega) (by omega) (by simp only [List.length_append,List.length_cons,List.length_nil];omega),if_pos trivial,List.map_cons,List.append_assoc]
     rfl
    |false=>
     rw [cond_false,wi_nat (by omega),ih (i+1) _ (by omega) (by omega) (by omega),if_neg (by simp)]
   cases h0:((st[i]).act==0) with
   |true=>rw [cond_true];exact go true (by unfold keepH';rw [h0];rfl)
   |false=>rw [cond_false];exact go _ (by unfold keepH';rw [h0];rfl)
  ·rw [ge_cast hlt,cond_false,List.drop_eq_nil_of_le (by omega),List.filter_nil,List.map_nil,List.append_nil]
   rfl
end
section
variable (L N : Nat)
theorem stepsGI (hL:1000001<L) (ds:List Tree) (n:Int) (r:Int→List Step) (c e:Nat) (hc:1≤c∧c≤24) (Q:Tree→Prop)
  (hQ2:∀a b,Q (.mk 2 0 [a,b])→Q a∧Q b) (hQ3:∀a b,Q (.mk 3 0 [a,b])→Q a∧Q b) (hQ4:∀x a,Q (.mk 4 x [a])→Q a)
  (hB:∀x,0≤x→x<n→Q (.mk 5 x [])→Bnd n c (r x)) (hcall:∀m x,0≤x→x<n→Q (.mk 5 x [])→e≤m→f93 L N (m+1) (.mk 5 x []) ds=some (r x)):
  ∀(t:Tree) (k:Nat),WT t k→k≤24→CL n false t→Q t→∀m,k+e≤m→f93 L N m t ds=some (stp r t):=by
 have hlim:=lim_eq
 have hck:∀k,k≤24→c*k≤576:=fun k hk=>Nat.le_trans (Nat.mul_le_mul hc.2 hk) (by omega)
 have hbl:∀(t:Tree) (k:Nat),WT t k→k≤24→CL n false t→Q t→(stp r t).length≤332352:=fun t k h1 h2 h3 h4=>(stp_bnd n r c hc Q hQ2 hQ3 hQ4 hB t k h1 h2 h3 h4).len (hck k h2)
 intro t k h
 induction h with
 |nil=>
  intro _ _ _ m hm
  obtain ⟨m,rfl⟩:∃m',m=m'+1:=⟨m-1,by omega⟩
  rw [stp_nil];rfl
 |call x hx=>
  intro _ hcl hq m hm
  obtain ⟨m,rfl⟩:∃m',m=m'+1:=⟨m-1,by omega⟩
  rw [stp_call]
  exact hcall m x hx.1 hcl.lt hq (by omega)
 |act x a k hn ha ih=>
  intro hk hcl hq m hm
  obtain ⟨m,rfl⟩:∃m',m=m'+1:=⟨m-1,by omega⟩
  rw [stp_act]
  show f93.b L N (f93 L N m) some (.mk 1 x [a]) ds=_
  unfold f93.b f93.b'
  rw [bif_y (by rfl),bif_y (by rfl)]
  show some [Step.mk x (Tree.mk a.op a.n a.parts)]=_
  rw [tree_eta]
 |sum a b i j ha hb iha ihb=>
  intro hk hcl hq m hm
  obtain ⟨m,rfl⟩:∃m',m=m'+1:=⟨m-1,by omega⟩
  obtain ⟨qa,qb⟩:=hQ2 a b hq
  have hs:=hcl.sub (by decide)
  have ea:=iha (by omega) (hs a (.head _)) qa m (by omega)
  have eb:=ihb (by omega) (hs b (.tail _ (.head _))) qb m (by omega)
  have hla:=hbl a i ha (by omega) (hs a (.head _)) qa
  have hlb:=hbl b j hb (by omega) (hs b (.tail _ (.head _))) qb
  rw [stp_sum]
  show f93.b L N (f93 L N m) some (.mk 2 0 [a,b]) ds=_
  unfold f93.b f93.b'
  rw [bif_n (by rfl),bif_y (by rfl),bif_y (by rfl)]
  show ((f93 L N m a ds).bind _)=_
  rw [ea,Option.bind_some,bif_y (by rfl)]
  show ((f93 L N m b ds).bind _)=_
  rw [eb,Option.bind_some,dt (show (stp r a).length+(stp r b).length≤lim by omega),cond_true]
 |par a b i j ha hb iha ihb=>
  intro hk hcl hq m hm
  obtain ⟨m,rfl⟩:∃m',m=m'+1:=⟨m-1,by omega⟩
  obtain ⟨qa,qb⟩:=hQ3 a b hq
  have hs:=hcl.sub (by decide)
  have ea:=iha (by omega) (hs a (.head _)) qa m (by omega)
  have eb:=ihb (by omega) (hs b (.tail _ (.head _))) qb m (by omega)
  have hla:=hbl a i ha (by omega) (hs a (.head _)) qa
  have hlb:=hbl b j hb (by omega) (hs b (.tail _ (.head _))) qb
  rw [stp_par]
  generalize stp r a=sa at*
  generalize stp r b=sb at*
  have hmul:sa.length*sb.length≤332352*332352:=Nat.mul_le_mul hla hlb
  show f93.b L N (f93 L N m) some (.mk 3 0 [a,b]) ds=_
  unfold f93.b f93.b'
  rw [bif_n (by rfl),bif_n (by rfl),bif_y (by rfl),bif_y (by rfl)]
  show ((f93 L N m a ds).bind _)=_
  rw [ea,Option.bind_some,bif_y (by rfl)]
  show ((f93 L N m b ds).bind _)=_
  rw [eb,Option.bind_some]
  refine (par0I L N (f93 L N m) _ 3 0 a b sa sb (by omega) L 0 [] (by omega) (by omega) (by simp only [List.length_nil];omega)).trans ?_
  refine (par1I L N (f93 L N m) _ 3 0 a b sa sb (by omega) L 0 _ (by omega) (by omega) (by simp only [List.length_append,List.length_map,List.length_nil,List.length_drop];omega)).trans ?_
  refine (par2I L N (f93 L N m) hL some sa sb (by omega) (by omega) L 0 _ (by omega) (by omega) (by simp only [List.length_append,List.length_map,List.length_nil,List.length_drop,Nat.sub_zero];omega)).trans ?_
  simp only [List.drop_zero,List.nil_append]
  rfl
 |hide x a k hx ha ih=>
  intro hk hcl hq m hm
  obtain ⟨m,rfl⟩:∃m',m=m'+1:=⟨m-1,by omega⟩
  have hs:=hcl.sub (by decide)
  have ea:=ih (by omega) (hs a (.head _)) (hQ4 x a hq) m (by omega)
  have hla:=hbl a k ha (by omega) (hs a (.head _)) (hQ4 x a hq)
  rw [stp_hide]
  show f93.b L N (f93 L N m) some (.mk 4 x [a]) ds=_
  unfold f93.b f93.b'
  rw [bif_n (by rfl),bif_n (by rfl),bif_n (by rfl),bif_y (by rfl),bif_y (by rfl)]
  show ((f93 L N m a ds).bind _)=_
  rw [ea,Option.bind_some]
  refine (hide4I L N (f93 L N m) some 4 x [a] (stp r a) (by omega) L 0 [] (by omega) (by omega) (by simp only [List.length_nil];omega)).trans ?_
  simp only [List.drop_zero,List.nil_append]
  rfl
theorem stepsI (hL:1000001<L) (ds:List Tree) (hd:DefsW ds) (t:Tree) (k:Nat) (h:WT t k) (hk:k≤24) (hcl:CL (ds.length:Int) false t) (m:Nat) (hm:60≤m):f93 L N m t ds=some (steps ds t):=by
 have hdef:∀x:Int,0≤x→x<(ds.length:Int)→∃(i:Nat) (hi:i<ds.length),x=(i:Int)∧ds.getD x.toNat (.mk 0 0 [])=ds[i]∧∃kd,kd≤24∧WT ds[i] kd∧CL (ds.length:Int) false ds[i]∧CL 0 true ds[i]:=fun x h0 h1=>by
  obtain ⟨i,rfl⟩:=Int.eq_ofNat_of_zero_le h0
  have hi:i<ds.length:=by omega
  exact ⟨i,hi,rfl,by rw [Int.toNat_natCast,getD_lt hi],hd.2 ds[i] (List.getElem_mem hi)⟩
 refine stepsGI L N hL ds (ds.length:Int) (fun n=>stp (fun _=>[]) (ds.getD n.toNat (.mk 0 0 []))) 24 25 ⟨by omega,by omega⟩ (fun _=>True) (fun _ _ _=>⟨trivial,trivial⟩) (fun _ _ _=>⟨trivial,trivial⟩) (fun _ _ _=>trivial) (fun x h0 h1 _=>?_) (fun m x h0 h1 _ hm=>?_) t k h hk hcl trivial m (by omega)
 ·obtain ⟨i,hi,rfl,e,kd,k1,k2,k3,k4⟩:=hdef x h0 h1
  show Bnd _ 24 (stp _ (ds.getD _ _))
  rw [e]
  obtain ⟨b1,b2,b3⟩:=bnd_guard (r:=fun _=>[]) k2 k1 k3 k4
  have:kd*kd≤24*24:=Nat.mul_le_mul k1 k1
  exact ⟨fun s hs=>by obtain ⟨g1,k',g2,g3,g4⟩:=b1 s hs;exact ⟨g1,k',g2,by omega,g4⟩,by omega,by omega⟩
 ·obtain ⟨i,hi,rfl,e,kd,k1,k2,k3,k4⟩:=hdef x h0 h1
  have:=stepsGI L N hL ds (ds.length:Int) (fun _=>[]) 1 0 ⟨by omega,by omega⟩ (fun t=>CL 0 true t)
   (fun a b h=>⟨h.sub2 (by decide) (by decide) a (.head _),h.sub2 (by decide) (by decide) b (.tail _ (.head _))⟩)
   (fun a b h=>⟨h.sub2 (by decide) (by decide) a (.head _),h.sub2 (by decide) (by decide) b (.tail _ (.head _))⟩)
   (fun x a h=>h.sub2 (by decide) (by decide) a (.head _))
   (fun x h0 h1 hq=>by have:=hq.lt;omega) (fun m x h0 h1 hq _=>by have:=hq.lt;omega) ds[i] kd k2 k1 k3 k4 m (by omega)
  show f93.b L N (f93 L N m) some (.mk 5 (i:Int) []) ds=some (stp (fun _=>[]) (ds.getD (i:Int).toNat (.mk 0 0 [])))
  rw [e]
  unfold f93.b f93.b'
  rw [bif_n (by rfl),bif_n (by rfl),bif_n (by rfl),bif_n (by rfl),bif_y (by rfl)]
  show (bif decide ((0:Int)≤(i:Int))&&decide ((i:Int)<(ds.length:Int)) then ((f93 L N m (listAt ds (Ty.dflt (.st 1)) (i:Int).toNat) ds).bind _) else none)=_
  simp only [le0,lt_cast hi,Bool.and_true,cond_true,Int.toNat_natCast,at_lt hi,this,Option.bind_some]
end
end Go.Proofs.YthidlhjjnaldhaaGreatDoor.Ev
namespace Go.Proofs.YthidlhjjnaldhaaGreatDoor.Ev
open Go
set_option linter.unusedVariables false
set_option linter.unusedSimpArgs false
def actL (n:Int):List UInt8:=if n=0 then [116,97,117] else if n>0 then [UInt8.ofNat (96+n.toNat)] else [33,UInt8.ofNat (96+(-n).toNat)]
def wordL (o:Int):List UInt8:=if o=1 then [97,99,116] else if o=2 then [115,117,109] else if o=3 then [112,97,114] else [104,105,100,101]
mutual
def ttx:Tree→List UInt8
 |.mk o n ps=>if o=0 then [48] else if o=5 then [88,UInt8.ofNat (48+n.toNat)] else
   40::(wordL o++((if o=1 then 32::actL n else if o=4 then 32::actL (n+1) else [])++(ttxs ps++[41])))
def ttxs:List Tree→List UInt8
 |[]=>[]
 |p::r=>32::(ttx p++ttxs r)
end
theorem ttx_nil:ttx (.mk 0 0 [])=[48]:=by rw [ttx];rfl
theorem ttx_call (n:Int):ttx (.mk 5 n [])=[88,UInt8.ofNat (48+n.toNat)]:=by rw [ttx];rfl
theorem ttx_act (n:Int) (a:Tree):ttx (.mk 1 n [a])=[40,97,99,116,32]++(actL n++(32::(ttx a++[41]))):=by rw [ttx,ttxs,ttxs];simp [wordL]
theorem ttx_hide (n:Int) (a:Tree):ttx (.mk 4 n [a])=[40,104,105,100,101,32]++(actL (n+1)++(32::(ttx a++[41]))):=by rw [ttx,ttxs,ttxs];simp [wordL]
theorem ttx_sum (n:Int) (a b:Tree):ttx (.mk 2 n [a,b])=[40,115,117,109,32]++(ttx a++(32::(ttx b++[41]))):=by rw [ttx,ttxs,ttxs,ttxs];simp [wordL]
theorem ttx_par (n:Int) (a b:Tree):ttx (.mk 3 n [a,b])=[40,112,97,114,32]++(ttx a++(32::(ttx b++[41]))):=by rw [ttx,ttxs,ttxs,ttxs];simp [wordL]
theorem actL_inj {n m:Int} (hn:-4≤n∧n≤4) (hm:-4≤m∧m≤4) {r r':List UInt8} (h:actL n++(32::r)=actL m++(32::r')):n=m∧r=r':=by
 have c:∀{n:Int},-4≤n∧n≤4→n=-4∨n=-3∨n=-2∨n=-1∨n=0∨n=1∨n=2∨n=3∨n=4:=fun h=>by omega
 rcases c hn with rfl|rfl|rfl|rfl|rfl|rfl|rfl|rfl|rfl<;>rcases c hm with rfl|rfl|rfl|rfl|rfl|rfl|rfl|rfl|rfl<;>simp_all [actL]
theorem ttx_inj {t:Tree} {k:Nat} (h:WT t k):∀{t':Tree} {k':Nat},WT t' k'→∀r r',ttx t++r=ttx t'++r'→t=t'∧r=r':=by
 induction h with
 |nil=>
  intro t' k' h' r r' e
  cases h' with
  |nil=>rw [ttx_nil] at e;simp at e;exact ⟨rfl,e⟩
  |act n t k hn h=>rw [ttx_nil,ttx_act] at e;simp at e
  |sum a b i j ha hb=>rw [ttx_nil,ttx_sum] at e;simp at e
  |par a b i j ha hb=>rw [ttx_nil,ttx_par] at e;simp at e
  |hide n t k hn h=>rw [ttx_nil,ttx_hide] at e;simp at e
  |call n hn=>rw [ttx_nil,ttx_call] at e;simp at e
 |call n hn=>
  intro t' k' h' r r' e
  cases h' with
  |nil=>rw [ttx_nil,ttx_call] at e;simp at e
  |act n t k hn h=>rw [ttx_call,ttx_act] at e;simp at e
  |sum a b i j ha hb=>rw [ttx_call,ttx_sum] at e;simp at e
  |par a b i j ha hb=>rw [ttx_call,ttx_par] at e;simp at e
  |hide n t k hn h=>rw [ttx_call,ttx_hide] at e;simp at e
  |call m hm=>
   rw [ttx_call,ttx_call] at e
   rcases (show n=0∨n=1∨n=2 by omega) with rfl|rfl|rfl<;>rcases (show m=0∨m=1∨m=2 by omega) with rfl|rfl|rfl<;>simp_all
 |act n t k hn h ih=>
  intro t' k' h' r r' e
  cases h' with
  |nil=>rw [ttx_nil,ttx_act] at e;simp at e
  |call m hm=>rw [ttx_call,ttx_act] at e;simp at e
  |sum a b i j ha hb=>rw [ttx_sum,ttx_act] at e;simp at e
  |par a b i j ha hb=>rw [ttx_par,ttx_act] at e;simp at e
  |hide m t k hm h=>rw [ttx_hide,ttx_act] at e;simp at e
  |act m t2 k2 hm h2=>
   rw [ttx_act,ttx_act] at e
   simp only [List.append_assoc,List.cons_append,List.nil_append,List.cons.injEq,true_and] at e
   obtain ⟨e1,e⟩:=actL_inj hn hm e
   obtain ⟨e2,e⟩:=ih h2 _ _ e
   subst e1;subst e2
   simp at e
   exact ⟨rfl,e⟩
 |hide n t k hn h ih=>
  intro t' k' h' r r' e
  cases h' with
  |nil=>rw [ttx_nil,ttx_hide] at e;simp at e
  |call m hm=>rw [ttx_call,ttx_hide] at e;simp at e
  |sum a b i j ha hb=>rw [ttx_sum,ttx_hide] at e;simp at e
  |par a b i j ha hb=>rw [ttx_par,ttx_hide] at e;simp at e
  |act m t k hm h=>rw [ttx_hide,ttx_act] at e;simp at e
  |hide m t2 k2 hm h2=>
   rw [ttx_hide,ttx_hide] at e
   simp only [List.append_assoc,List.cons_append,List.nil_append,List.cons.injEq,true_and] at e
   obtain ⟨e1,f1⟩:=actL_inj (by omega) (by omega) e
   obtain ⟨e2,f3⟩:=ih h2 _ _ f1
   have f4:=(List.cons.inj f3).2
   obtain rfl:n=m:=by omega
   subst e2
   exact ⟨rfl,f4⟩
 |sum a b i j ha hb iha ihb=>
  intro t' k' h' r r' e
  cases h' with
  |nil=>rw [ttx_nil,ttx_sum] at e;simp at e
  |call m hm=>rw [ttx_call,ttx_sum] at e;simp at e
  |hide n t k hn h=>rw [ttx_sum,ttx_hide] at e;simp at e
  |par a b i j ha hb=>rw [ttx_par,ttx_sum] at e;simp at e
  |act m t k hm h=>rw [ttx_sum,ttx_act] at e;simp at e
  |sum a2 b2 i2 j2 ha2 hb2=>
   rw [ttx_sum,ttx_sum] at e
   simp only [List.append_assoc,List.cons_append,List.nil_append,List.cons.injEq,true_and] at e
   obtain ⟨e1,f1⟩:=iha ha2 _ _ e
   have f2:=(List.cons.inj f1).2
   obtain ⟨e2,f3⟩:=ihb hb2 _ _ f2
   have f4:=(List.cons.inj f3).2
   subst e1;subst e2
   exact ⟨rfl,f4⟩
 |par a b i j ha hb iha ihb=>
  intro t' k' h' r r' e
  cases h' with
  |nil=>rw [ttx_nil,ttx_par] at e;simp at e
  |call m hm=>rw [ttx_call,ttx_par] at e;simp at e
  |hide n t k hn h=>rw [ttx_par,ttx_hide] at e;simp at e
  |sum a b i j ha hb=>rw [ttx_par,ttx_sum] at e;simp at e
  |act m t k hm h=>rw [ttx_par,ttx_act] at e;simp at e
  |par a2 b2 i2 j2 ha2 hb2=>
   rw [ttx_par,ttx_par] at e
   simp only [List.append_assoc,List.cons_append,List.nil_append,List.cons.injEq,true_and] at e
   obtain ⟨e1,f1⟩:=iha ha2 _ _ e
   have f2:=(List.cons.inj f1).2
   obtain ⟨e2,f3⟩:=ihb hb2 _ _ f2
   have f4:=(List.cons.inj f3).2
   subst e1;subst e2
   exact ⟨rfl,f4⟩
theorem ttx_one {t t':Tree} {k k':Nat} (h:WT t k) (h':WT t' k') (e:ttx t=ttx t'):t=t':=(ttx_inj h h' [] [] (by rw [e])).1
end Go.Proofs.YthidlhjjnaldhaaGreatDoor.Ev
namespace Go.Proofs.YthidlhjjnaldhaaGreatDoor.Ev
open Go
set_option linter.unusedVariables false
set_option linter.unusedSimpArgs false
theorem baA (a b:List UInt8):(⟨a.toArray⟩:ByteArray)++⟨b.toArray⟩=⟨(a++b).toArray⟩:=by
 apply ByteArray.ext
 show (ByteArray.append _ _).data=_
 simp [ByteArray.append,ByteArray.data_append]
theorem baS (a:List UInt8):(⟨a.toArray⟩:ByteArray).size=a.length:=by
 show a.toArray.size=_
 simp
def txB (t:Tree):ByteArray:=⟨(ttx t).toArray⟩
theorem txB_one {t t':Tree} {k k':Nat} (h:WT t k) (h':WT t' k') (e:txB t=txB t'):t=t':=by
 have h1:(ttx t).toArray=(ttx t').toArray:=congrArg ByteArray.data e
 exact ttx_one h h' (by simpa using h1)
theorem actL_len (n:Int):(actL n).length≤3:=by
 unfold actL
 split
 ·simp
 ·split<;>simp
theorem ttx_len {t:Tree} {k:Nat} (h:WT t k):(ttx t).length≤20*k:=by
 induction h with
 |nil=>rw [ttx_nil];simp
 |call n hn=>rw [ttx_call];simp
 |act n a k hn ha ih=>have:=actL_len n;rw [ttx_act];simp;omega
 |hide n a k hn ha ih=>have:=actL_len (n+1);rw [ttx_hide];simp;omega
 |sum a b i j ha hb iha ihb=>rw [ttx_sum];simp;omega
 |par a b i j ha hb iha ihb=>rw [ttx_par];simp;omega
theorem actTextI (L N:Nat) {n:Int} (h:-4≤n∧n≤4):f130 L N n=some ⟨(actL n).toArray⟩:=by
 have hc:n=-4∨n=-3∨n=-2∨n=-1∨n=0∨n=1∨n=2∨n=3∨n=4:=by omega
 rcases hc with rfl|rfl|rfl|rfl|rfl|rfl|rfl|rfl|rfl<;>rfl
theorem nameTextI (L N:Nat) {n:Int} (h:0≤n∧n≤3):f131 L N n=some ⟨(actL (n+1)).toArray⟩:=by
 have hc:n=0∨n=1∨n=2∨n=3:=by omega
 rcases hc with rfl|rfl|rfl|rfl<;>rfl
theorem l1TextS (L N:Nat) {n:Int} (h:-4≤n∧n≤4):f138 L N n=some ⟨(actL n).toArray⟩:=by
 have hc:n=-4∨n=-3∨n=-2∨n=-1∨n=0∨n=1∨n=2∨n=3∨n=4:=by omega
 rcases hc with rfl|rfl|rfl|rfl|rfl|rfl|rfl|rfl|rfl<;>rfl
theorem l6DecS (L N m:Nat) {n:Int} (h:0≤n∧n≤2):f136 L N (m+1) n=some ⟨[UInt8.ofNat (48+n.toNat)].toArray⟩:=by
 have hc:n=0∨n=1∨n=2:=by omega
 rcases hc with rfl|rfl|rfl<;>rfl
theorem itoaI {n:Int} (h:0≤n∧n≤2):fitoa n=some ⟨[UInt8.ofNat (48+n.toNat)].toArray⟩:=by
 unfold fitoa itoaB
 rw [dt h.1,dt (show n<100 by omega),Bool.and_true,cond_true,Lib.decDigits_one (show n.toNat<10 by omega)]
theorem textI (L N:Nat):∀(t:Tree) (k:Nat),WT t k→k≤100000→∀m,k≤m→f92 L N m t=some (txB t):=by
 intro t k h
 induction h with
 |nil=>
  intro _ m hm
  obtain ⟨m,rfl⟩:∃m',m=m'+1:=⟨m-1,by omega⟩
  unfold txB
  rw [ttx_nil];rfl
 |call n hn=>
  intro _ m hm
  obtain ⟨m,rfl⟩:∃m',m=m'+1:=⟨m-1,by omega⟩
  show f92.b' L N (f92 L N m) some (.mk 5 n [])=_
  unfold f92.b' txB
  rw [bif_n (by rfl),bif_n (by rfl),bif_n (by rfl),bif_n (by rfl),bif_y (by rfl)]
  show ((fitoa n).bind _)=_
  rw [itoaI hn,Option.bind_some,baA,baS,baS,ttx_call,dt (by simp),cond_true];rfl
 |act n a k hn ha ih=>
  intro hk m hm
  obtain ⟨m,rfl⟩:∃m',m=m'+1:=⟨m-1,by omega⟩
  have e:=ih (by omega) m (by omega)
  have hl:=ttx_len ha
  have hl2:=actL_len n
  show f92.b' L N (f92 L N m) some (.mk 1 n [a])=_
  unfold f92.b'
  rw [bif_y (by rfl)]
  show ((f130 L N n).bind _)=_
  rw [actTextI L N hn,Option.bind_some]
  have e':f92 L N m (listAt (Tree.mk 1 n [a]).parts (Ty.dflt (.st 1)) (0:Int).toNat)=some ⟨(ttx a).toArray⟩:=e
  have g:(decide ((0:Int)≤0)&&decide ((0:Int)<(((Tree.mk 1 n [a]).parts.length:Nat):Int)))=true:=rfl
  simp only [g,e',Option.bind_some,cond_true,baA,baS,List.length_append,List.length_cons,List.length_nil]
  rw [bif_y (dt (by omega)),bif_y (dt (by omega)),bif_y (dt (by omega)),bif_y (dt (by omega))]
  unfold txB
  rw [ttx_act];simp
 |hide n a k hn ha ih=>
  intro hk m hm
  obtain ⟨m,rfl⟩:∃m',m=m'+1:=⟨m-1,by omega⟩
  have e:=ih (by omega) m (by omega)
  have hl:=ttx_len ha
  have hl2:=actL_len (n+1)
  show f92.b' L N (f92 L N m) some (.mk 4 n [a])=_
  unfold f92.b'
  rw [bif_n (by rfl),bif_n (by rfl),bif_n (by rfl),bif_y (by rfl)]
  show ((f131 L N n).bind _)=_
  rw [nameTextI L N hn,Option.bind_some]
  have e':f92 L N m (listAt (Tree.mk 4 n [a]).parts (Ty.dflt (.st 1)) (0:Int).toNat)=some ⟨(ttx a).toArray⟩:=e
  have g:(decide ((0:Int)≤0)&&decide ((0:Int)<(((Tree.mk 4 n [a]).parts.length:Nat):Int)))=true:=rfl
  simp only [g,e',Option.bind_some,cond_true,baA,baS,List.length_append,List.length_cons,List.length_nil]
  rw [bif_y (dt (by omega)),bif_y (dt (by omega)),bif_y (dt (by omega)),bif_y (dt (by omega))]
  unfold txB
  rw [ttx_hide];simp
 |sum a b i j ha hb iha ihb=>
  intro hk m hm
  obtain ⟨m,rfl⟩:∃m',m=m'+1:=⟨m-1,by omega⟩
  have e:=iha (by omega) m (by omega)
  have f:=ihb (by omega) m (by omega)
  have hl:=ttx_len ha
  have hl2:=ttx_len hb
  show f92.b' L N (f92 L N m) some (.mk 2 0 [a,b])=_
  unfold f92.b'
  rw [bif_n (by rfl),bif_y (by rfl)]
  have e':f92 L N m (listAt (Tree.mk 2 0 [a,b]).parts (Ty.dflt (.st 1)) (0:Int).toNat)=some ⟨(ttx a).toArray⟩:=e
  have f':f92 L N m (listAt (Tree.mk 2 0 [a,b]).parts (Ty.dflt (.st 1)) (1:Int).toNat)=some ⟨(ttx b).toArray⟩:=f
  have g:(decide ((0:Int)≤0)&&decide ((0:Int)<(((Tree.mk 2 0 [a,b]).parts.length:Nat):Int)))=true:=rfl
  have g':(decide ((0:Int)≤1)&&decide ((1:Int)<(((Tree.mk 2 0 [a,b]).parts.length:Nat):Int)))=true:=rfl
  simp only [g,g',e',f',Option.bind_some,cond_true,baA,baS,List.length_append,List.length_cons,List.length_nil]
  rw [bif_y (dt (by omega)),bif_y (dt (by omega)),bif_y (dt (by omega)),bif_y (dt (by omega))]
  unfold txB
  rw [ttx_sum];simp
 |par a b i j ha hb iha ihb=>
  intro hk m hm
  obtain ⟨m,rfl⟩:∃m',m=m'+1:=⟨m-1,by omega⟩
  have e:=iha (by omega) m (by omega)
  have f:=ihb (by omega) m (by omega)
  have hl:=ttx_len ha
  have hl2:=ttx_len hb
  show f92.b' L N (f92 L N m) some (.mk 3 0 [a,b])=_
  unfold f92.b'
  rw [bif_n (by rfl),bif_n (by rfl),bif_y (by rfl)]
  have e':f92 L N m (listAt (Tree.mk 3 0 [a,b]).parts (Ty.dflt (.st 1)) (0:Int).toNat)=some ⟨(ttx a).toArray⟩:=e
  have f':f92 L N m (listAt (Tree.mk 3 0 [a,b]).parts (Ty.dflt (.st 1)) (1:Int).toNat)=some ⟨(ttx b).toArray⟩:=f
  have g:(decide ((0:Int)≤0)&&decide ((0:Int)<(((Tree.mk 3 0 [a,b]).parts.length:Nat):Int)))=true:=rfl
  have g':(decide ((0:Int)≤1)&&decide ((1:Int)<(((Tree.mk 3 0 [a,b]).parts.length:Nat):Int)))=true:=rfl
  simp only [g,g',e',f',Option.bind_some,cond_true,baA,baS,List.length_append,List.length_cons,List.length_nil]
  rw [bif_y (dt (by omega)),bif_y (dt (by omega)),bif_y (dt (by omega)),bif_y (dt (by omega))]
  unfold txB
  rw [ttx_par];simp
theorem words2 (L N:Nat):f137 L N=some [(ByteArray.mk #[]),(ByteArray.mk #[97,99,116]),(ByteArray.mk #[115,117,109]),(ByteArray.mk #[112,97,114]),(ByteArray.mk #[104,105,100,101])]:=rfl
theorem textP (L N:Nat) (self:Tree→Option ByteArray) (o n:Int) (ps:List Tree) (B:Nat) (hB:B≤4000000) (hpl:ps.length≤2) (hp:∀p∈ps,self p=some (txB p)):∀(q i:Nat) (b:List UInt8),i≤ps.length→ps.length-i<q→b.length+(ttxs (ps.drop i)).length≤B→
  f99.l0 L N self (fun z17=>f99.p0_e1 L N self some z17) q ⟨b.toArray⟩ (i:Int) o n ps=some ⟨(b++(ttxs (ps.drop i)++[41])).toArray⟩:=by
 intro q
 induction q with
 |zero=>intro i b _ h;omega
 |succ q ih=>
  intro i b hi hq hb
  show f99.s0 L N self _ (f99.l0 L N self _ q) ⟨b.toArray⟩ (i:Int) o n ps=_
  unfold f99.s0 f99.s0'
  by_cases hlt:i<ps.length
  ·have e:self ps[i]=some ⟨(ttx ps[i]).toArray⟩:=hp _ (List.getElem_mem hlt)
   rw [List.drop_eq_getElem_cons hlt,ttxs] at hb
   simp only [List.length_append,List.length_cons] at hb
   simp only [lt_cast hlt,le0,Bool.and_true,cond_true,Int.toNat_natCast,at_lt hlt,e,Option.bind_some,baA,baS,List.length_append,List.length_cons,List.length_nil]
   rw [bif_y (dt (by omega)),bif_y (dt (by omega)),wi_nat (by omega),ih (i+1) _ (by omega) (by omega) (by simp;omega),List.drop_eq_getElem_cons hlt,ttxs]
   simp
  ·rw [List.drop_eq_nil_of_le (by omega)] at hb⊢
   rw [ge_cast hlt,cond_false]
   unfold f99.p0_e1 f99.p0_e1'
   simp only [baA,baS]
   rw [bif_y (dt (by simp;omega))]
   simp [ttxs]
theorem textS (L N:Nat) (hN:1≤N) (hL:3≤L):∀(t:Tree) (k:Nat),WT t k→k≤100000→∀m,k≤m→f99 L N m t=some (txB t):=by
 obtain ⟨N',rfl⟩:∃N',N=N'+1:=⟨N-1,by omega⟩
 intro t k h
 induction h with
 |nil=>
  intro _ m hm
  obtain ⟨m,rfl⟩:∃m',m=m'+1:=⟨m-1,by omega⟩
  unfold txB
  rw [ttx_nil];rfl
 |call n hn=>
  intro _ m hm
  obtain ⟨m,rfl⟩:∃m',m=m'+1:=⟨m-1,by omega⟩
  show f99.b L (N'+1) (f99 L (N'+1) m) some (.mk 5 n [])=_
  unfold f99.b f99.b' txB
  rw [bif_n (by rfl),bif_y (by rfl)]
  show ((f136 L (N'+1) (N'+1) n).bind _)=_
  rw [l6DecS L (N'+1) N' hn,Option.bind_some,baA,baS,baS,ttx_call,dt (by simp),cond_true];rfl
 |act n a k hn ha ih=>
  intro hk m hm
  obtain ⟨m,rfl⟩:∃m',m=m'+1:=⟨m-1,by omega⟩
  have e:=ih (by omega) m (by omega)
  have hl:=ttx_len ha
  have hl2:=actL_len n
  show f99.b L (N'+1) (f99 L (N'+1) m) some (.mk 1 n [a])=_
  unfold f99.b f99.b'
  rw [bif_n (by rfl),bif_n (by rfl),words2,Option.bind_some,bif_y (by rfl),bif_y (by rfl),bif_y (by rfl),bif_y (by rfl)]
  show ((f138 L (N'+1) n).bind _)=_
  rw [l1TextS L (N'+1) hn,Option.bind_some]
  have hw:listAt [(ByteArray.mk #[]),(ByteArray.mk #[97,99,116]),(ByteArray.mk #[115,117,109]),(ByteArray.mk #[112,97,114]),(ByteArray.mk #[104,105,100,101])] ByteArray.empty (Tree.mk 1 n [a]).op.toNat=ByteArray.mk #[97,99,116]:=rfl
  rw [hw]
  simp only [baA,baS,List.length_append,List.length_cons,List.length_nil]
  rw [bif_y (dt (by omega))]
  unfold f99.j1'
  rw [bif_n (by rfl)]
  unfold f99.j0'
  refine (textP L (N'+1) (f99 L (N'+1) m) 1 n [a] 4000000 (by omega) (by simp) (fun p hp=>by rw [List.mem_singleton.1 hp];exact e) L 0 _ (by omega) (by simp;omega) (by simp [ttxs];omega)).trans ?_
  unfold txB
  rw [ttx_act,List.drop_zero];simp [ttxs]
 |hide n a k hn ha ih=>
  intro hk m hm
  obtain ⟨m,rfl⟩:∃m',m=m'+1:=⟨m-1,by omega⟩
  have e:=ih (by omega) m (by omega)
  have hl:=ttx_len ha
  have hl2:=actL_len (n+1)
  show f99.b L (N'+1) (f99 L (N'+1) m) some (.mk 4 n [a])=_
  unfold f99.b f99.b'
  rw [bif_n (by rfl),bif_n (by rfl),words2,Option.bind_some,bif_y (by rfl),bif_y (by rfl),bif_n (by rfl)]
  have hw:listAt [(ByteArray.mk #[]),(ByteArray.mk #[97,99,116]),(ByteArray.mk #[115,117,109]),(ByteArray.mk #[112,97,114]),(ByteArray.mk #[104,105,100,101])] ByteArray.empty (Tree.mk 4 n [a]).op.toNat=ByteArray.mk #[104,105,100,101]:=rfl
  rw [hw]
  unfold f99.j1'
  rw [bif_y (by rfl),bif_y (by rfl)]
  have hn1:wi ((Tree.mk 4 n [a]).n+1)=n+1:=wi_id (by show _≤n+1;omega) (by show n+1≤_;omega)
  rw [hn1,l1TextS L (N'+1) (n:=n+1) ⟨by omega,by omega⟩,Option.bind_some]
  simp only [baA,baS,List.length_append,List.length_cons,List.length_nil]
  rw [bif_y (dt (by omega))]
  unfold f99.j0'
  refine (textP L (N'+1) (f99 L (N'+1) m) 4 n [a] 4000000 (by omega) (by simp) (fun p hp=>by rw [List.mem_singleton.1 hp];exact e) L 0 _ (by omega) (by simp;omega) (by simp [ttxs];omega)).trans ?_
  unfold txB
  rw [ttx_hide,List.drop_zero];simp [ttxs]
 |sum a b i j ha hb iha ihb=>
  intro hk m hm
  obtain ⟨m,rfl⟩:∃m',m=m'+1:=⟨m-1,by omega⟩
  have e:=iha (by omega) m (by omega)
  have f:=ihb (by omega) m (by omega)
  have hl:=ttx_len ha
  have hl2:=ttx_len hb
  show f99.b L (N'+1) (f99 L (N'+1) m) some (.mk 2 0 [a,b])=_
  unfold f99.b f99.b'
  rw [bif_n (by rfl),bif_n (by rfl),words2,Option.bind_some,bif_y (by rfl),bif_y (by rfl),bif_n (by rfl)]
  have hw:listAt [(ByteArray.mk #[]),(ByteArray.mk #[97,99,116]),(ByteArray.mk #[115,117,109]),(ByteArray.mk #[112,97,114]),(ByteArray.mk #[104,105,100,101])] ByteArray.empty (Tree.mk 2 0 [a,b]).op.toNat=ByteArray.mk #[115,117,109]:=rfl
  rw [hw]
  unfold f99.j1'
  rw [bif_n (by rfl)]
  unfold f99.j0'
  simp only [baA]
  refine (textP L (N'+1) (f99 L (N'+1) m) 2 0 [a,b] 4000000 (by omega) (by simp) (fun p hp=>by
   rcases List.mem_cons.1 hp with rfl|hp
   ·exact e
   ·rw [List.mem_singleton.1 hp];exact f) L 0 _ (by omega) (by simp;omega) (by simp [ttxs];omega)).trans ?_
  unfold txB
  rw [ttx_sum,List.drop_zero];simp [ttxs]
 |par a b i j ha hb iha ihb=>
  intro hk m hm
  obtain ⟨m,rfl⟩:∃m',m=m'+1:=⟨m-1,by omega⟩
  have e:=iha (by omega) m (by omega)
  have f:=ihb (by omega) m (by omega)
  have hl:=ttx_len ha
  have hl2:=ttx_len hb
  show f99.b L (N'+1) (f99 L (N'+1) m) some (.mk 3 0 [a,b])=_
  unfold f99.b f99.b'
  rw [bif_n (by rfl),bif_n (by rfl),words2,Option.bind_some,bif_y (by rfl),bif_y (by rfl),bif_n (by rfl)]
  have hw:listAt [(ByteArray.mk #[]),(ByteArray.mk #[97,99,116]),(ByteArray.mk #[115,117,109]),(ByteArray.mk #[112,97,114]),(ByteArray.mk #[104,105,100,101])] ByteArray.empty (Tree.mk 3 0 [a,b]).op.toNat=ByteArray.mk #[112,97,114]:=rfl
  rw [hw]
  unfold f99.j1'
  rw [bif_n (by rfl)]
  unfold f99.j0'
  simp only [baA]
  refine (textP L (N'+1) (f99 L (N'+1) m) 3 0 [a,b] 4000000 (by omega) (by simp) (fun p hp=>by
   rcases List.mem_cons.1 hp with rfl|hp
   ·exact e
   ·rw [List.mem_singleton.1 hp];exact f) L 0 _ (by omega) (by simp;omega) (by simp [ttxs];omega)).trans ?_
  unfold txB
  rw [ttx_par,List.drop_zero];simp [ttxs]
end Go.Proofs.YthidlhjjnaldhaaGreatDoor.Ev
namespace Go.Proofs.YthidlhjjnaldhaaGreatDoor.Ev
open Go
set_option linter.unusedVariables false
set_option linter.unusedSimpArgs false
theorem step_less (r:Int→List Step):∀(t:Tree) (k:Nat),WT t k→CL 0 false t→∀s∈stp r t,(-4≤s.act∧s.act≤4)∧∃k',WT s.thn k'∧k'<k∧CL 0 false s.thn:=by
 intro t k h
 induction h with
 |nil=>intro _ s hs;rw [stp_nil] at hs;cases hs
 |call x hx=>intro hcl;have:=hcl.lt;omega
 |act n a k hn ha ih=>
  intro hcl s hs
  rw [stp_act] at hs
  rw [List.mem_singleton.1 hs]
  exact ⟨hn,k,ha,by omega,hcl.sub (by decide) a (.head _)⟩
 |sum a b i j ha hb iha ihb=>
  intro hcl s hs
  have hc:=hcl.sub (by decide)
  rw [stp_sum] at hs
  rcases List.mem_append.1 hs with h|h
  ·obtain ⟨h1,k',h2,h3,h4⟩:=iha (hc a (.head _)) s h;exact ⟨h1,k',h2,by omega,h4⟩
  ·obtain ⟨h1,k',h2,h3,h4⟩:=ihb (hc b (.tail _ (.head _))) s h;exact ⟨h1,k',h2,by omega,h4⟩
 |par a b i j ha hb iha ihb=>
  intro hcl s hs
  have hc:=hcl.sub (by decide)
  have cla:=hc a (.head _)
  have clb:=hc b (.tail _ (.head _))
  have mkp:∀(p q:Tree) (i' j':Nat),WT p i'→WT q j'→CL 0 false p→CL 0 false q→i'+j'<i+j→∃k',WT (.mk 3 0 [p,q]) k'∧k'<i+j+1∧CL 0 false (.mk 3 0 [p,q]):=fun p q i' j' h1 h2 h3 h4 h5=>
   ⟨i'+j'+1,.par p q i' j' h1 h2,by omega,.node false 3 0 [p,q] (by decide) fun x hx=>by
    rcases List.mem_cons.1 hx with rfl|hx
    ·exact h3
    ·rw [List.mem_singleton.1 hx];exact h4⟩
  rw [stp_par] at hs
  rcases List.mem_append.1 hs with h|h
  ·rcases List.mem_append.1 h with h|h
   ·obtain ⟨y,hy,rfl⟩:=List.mem_map.1 h
    obtain ⟨h1,k',h2,h3,h4⟩:=iha cla y hy
    exact ⟨h1,mkp y.thn b k' j h2 hb h4 clb (by omega)⟩
   ·obtain ⟨y,hy,rfl⟩:=List.mem_map.1 h
    obtain ⟨h1,k',h2,h3,h4⟩:=ihb clb y hy
    exact ⟨h1,mkp a y.thn i k' ha h2 cla h4 (by omega)⟩
  ·obtain ⟨x,hx,h⟩:=List.mem_flatMap.1 h
   unfold tauRow at h
   split at h
   ·obtain ⟨y,hy,rfl⟩:=List.mem_map.1 h
    obtain ⟨-,k1,h2,h3,h4⟩:=iha cla x hx
    obtain ⟨-,k2,g2,g3,g4⟩:=ihb clb y (List.mem_filter.1 hy).1
    exact ⟨(show -4≤(0:Int)∧(0:Int)≤4 by omega),mkp x.thn y.thn k1 k2 h2 g2 h4 g4 (by omega)⟩
   ·cases h
 |hide x a k hx ha ih=>
  intro hcl s hs
  have hc:=hcl.sub (by decide)
  rw [stp_hide] at hs
  unfold hideS at hs
  obtain ⟨y,hy,rfl⟩:=List.mem_map.1 hs
  obtain ⟨h1,k',h2,h3,h4⟩:=ih (hc a (.head _)) y (List.mem_filter.1 hy).1
  exact ⟨h1,k'+1,.hide x y.thn k' hx h2,by omega,.node false 4 x [y.thn] (by decide) fun p hp=>by rw [List.mem_singleton.1 hp];exact h4⟩
def sumL:List Tree→Tree
 |[]=>.mk 0 0 []
 |[x]=>x
 |x::y::r=>.mk 2 0 [x,sumL (y::r)]
theorem stp_sumL (r:Int→List Step):∀l:List Tree,stp r (sumL l)=l.flatMap (stp r)
 |[]=>by rw [sumL,stp_nil];rfl
 |[x]=>by rw [sumL];simp
 |x::y::l=>by rw [sumL,stp_sum,stp_sumL r (y::l)];rfl
end Go.Proofs.YthidlhjjnaldhaaGreatDoor.Ev
namespace Go.Proofs.YthidlhjjnaldhaaGreatDoor.Ev
open Go
set_option linter.unusedVariables false
set_option linter.unusedSimpArgs false
theorem plainI (L N:Nat):∀(k:Nat) (t:Tree),WT t (nodes t)→nodes t≤k→nodes t<L→nodes t≤1048577→∀m,4*k≤m→f59 L N m t=some (isB (CL 0 false t)):=by
 intro k
 induction k with
 |zero=>intro t _ h;have:=nodes_pos t;omega
 |succ k ih=>
  intro t hw ht hL hsz m hm
  obtain ⟨m,rfl⟩:∃m',m=m'+4:=⟨m-4,by omega⟩
  obtain ⟨o,x,ps⟩:=t
  obtain ⟨hh,hps⟩:=wt_mk.1 hw
  have hnd:nodes (.mk o x ps)=1+nodess ps:=by simp only [nodes]
  rw [hnd] at ht hL hsz
  have hpl:=nodess_len ps
  have sub:∀p∈ps,f91 L N (m+1) p=some (!isB (CL 0 false p)):=fun p hp=>by
   obtain ⟨i,hi,rfl⟩:=List.mem_iff_getElem.1 hp
   have:=nodes_get hi
   show f91.b' L N (f59 L N m) (f91 L N m) (f90_5 L N m) (f129_5 L N m) some ps[i]=_
   unfold f91.b'
   rw [tree_eta,ih ps[i] (hps _ (List.getElem_mem hi)) (by omega) (by omega) (by omega) m (by omega)];rfl
  obtain ⟨v,e1,e2⟩:=seek_idx (seek_loop ps (Ty.dflt (.st 1)) (fun p=>f91 L N (m+1) p) (fun p=>!isB (CL 0 false p)) sub (some (-1)) (fun z=>some z)
   (fun q i=>f129_5.l0 L N (f59 L N (m+1)) (f91 L N (m+1)) (f90_5 L N (m+1)) (f129_5 L N (m+1)) (some (-1)) (fun z=>some z) q ps (ps.length:Int) i) (fun n i=>rfl) (by omega) L 0 (by omega) (by omega))
  have hidx:f129_5 L N (m+2) ps=some v:=e1
  have hcon:f90_5 L N (m+3) ps=some (!isB (∀p∈ps,CL 0 false p)):=by
   show f90_5.b' L N (f59 L N (m+2)) (f91 L N (m+2)) (f90_5 L N (m+2)) (f129_5 L N (m+2)) some ps=_
   unfold f90_5.b'
   rw [hidx,Option.bind_some,e2,any_not]
  show f59.b' L N (f59 L N (m+3)) (f91 L N (m+3)) (f90_5 L N (m+3)) (f129_5 L N (m+3)) some (.mk o x ps)=_
  unfold f59.b'
  simp only [Tree.op,Tree.n,Tree.parts,hcon,Option.bind_some,Bool.not_not]
  by_cases h5:o=5
  ·subst h5
   rw [show ((5:Int) !=5)=false from rfl,cond_false,isB_false fun h=>by
    have:=h.lt
    unfold HeadW at hh
    omega]
  ·rw [show (o !=5)=true by simpa using h5,cond_true]
   exact congrArg some (isB_congr (cl_parts h5).symm)
theorem plainS (L N:Nat) (t:Tree) (hw:WT t (nodes t)) (h:nodes t≤N) (hL:nodes t<L) (hs:nodes t≤1048577):f61 L N t=some (isB (CL 0 false t)):=by
 show f61.b' L N some t=_
 unfold f61.b'
 obtain ⟨c,e,hc⟩:=l2Calls_iff L N t false h hL hs hw
 rw [tree_eta,e,Option.bind_some]
 exact congrArg some (isB_eq (by rw [decide_eq_true_iff];exact hc 0 (Int.le_refl _)))
mutual
def fr (n:Int):Tree→Bool
 |.mk o x ps=>(bif (o==4)&&(x==n) then false else frs n ps)||((o==1)&&(x !=0)&&(nmS x==n))
def frs (n:Int):List Tree→Bool
 |[]=>false
 |p::r=>fr n p||frs n r
end
theorem fr_mk (n o x:Int) (ps:List Tree):fr n (.mk o x ps)=((bif (o==4)&&(x==n) then false else frs n ps)||((o==1)&&(x !=0)&&(nmS x==n))):=by rw [fr]
theorem frs_take (n:Int):∀(ps:List Tree) (i:Nat) (h:i<ps.length),frs n (ps.take (i+1))=(frs n (ps.take i)||fr n ps[i])
 |p::r,0,_=>by simp [frs]
 |p::r,i+1,h=>by
  have h':i<r.length:=by simpa using h
  have:=frs_take n r i h'
  simp only [List.take_succ_cons,frs,List.getElem_cons_succ,this,Bool.or_assoc]
theorem frs_drop (n:Int):∀(ps:List Tree) (i:Nat) (h:i<ps.length),frs n (ps.drop i)=(fr n ps[i]||frs n (ps.drop (i+1)))
 |p::r,0,_=>by simp [frs]
 |p::r,i+1,h=>by
  have h':i<r.length:=by simpa using h
  simpa using frs_drop n r i h'
theorem freeS (L N:Nat) (n:Int):∀(m:Nat) (t:Tree),nodes t≤m→nodes t<L→nodes t≤1048577→WT t (nodes t)→f164 L N m t n=some (fr n t):=by
 intro m
 induction m with
 |zero=>intro t h;have:=nodes_pos t;omega
 |succ m ih=>
  intro t ht hL hsz hw
  obtain ⟨o,x,ps⟩:=t
  obtain ⟨hh,hps⟩:=wt_mk.1 hw
  have hnd:nodes (.mk o x ps)=1+nodess ps:=by simp only [nodes]
  rw [hnd] at ht hL hsz
  have hpl:=nodess_len ps
  show f164.b L N (f164 L N m) some (.mk o x ps) n=_
  unfold f164.b f164.b'
  have key:∀(q i:Nat),i≤ps.length→ps.length-i<q→
    f164.l0 L N (f164 L N m) (fun z14 z15 z16 z17=>f164.p0_e0 L N (f164 L N m) some z14 z15 z16 z17) (fun z19 z20 z21 z22 z23=>f164.p0_r L N (f164 L N m) some z19 z20 z21 z22 z23) q n (i:Int) o x ps=some (frs n (ps.drop i)||((o==1)&&(x !=0)&&(nmS x==n))):=by
   intro q
   induction q with
   |zero=>intro i _ h;omega
   |succ q ihq=>
    intro i hi hq
    show f164.s0 L N _ _ _ (f164.l0 L N _ _ _ q) n (i:Int) o x ps=_
    unfold f164.s0 f164.s0'
    by_cases hlt:i<ps.length
    ·have hg:=nodes_get hlt
     simp only [lt_cast hlt,le0,cond_true,Bool.and_true,Int.toNat_natCast,at_lt hlt]
     rw [ih ps[i] (by omega) (by omega) (by omega) (hps _ (List.getElem_mem hlt)),Option.bind_some,frs_drop n ps i hlt]
     cases fr n ps[i]
     ·rw [cond_false,wi_nat (by omega),ihq (i+1) (by omega) (by omega),Bool.false_or]
     ·rw [cond_true];rfl
    ·rw [ge_cast hlt,cond_false,List.drop_eq_nil_of_le (by omega)]
     show (bif (o==1) then (bif (x !=0) then (f135 L N x).bind fun y=>some (y==n) else some false) else some false)=_
     rw [show f135 L N x=some (nmS x) from rfl]
     cases (o==1)<;>cases (x !=0)<;>simp [frs]
  rw [fr_mk]
  have k0:=key L 0 (by omega) (by omega)
  rw [List.drop_zero] at k0
  simp only [Tree.op,Tree.n,Tree.parts]
  cases h4:(o==4)
  ·rw [cond_false,Bool.false_and,cond_false];exact k0
  ·rw [cond_true,Bool.true_and]
   have ho:o=4:=by simpa using h4
   cases hx:(x==n)
   ·rw [cond_false,cond_false];exact k0
   ·rw [cond_true,cond_true,ho];rfl
theorem putB4 (v c0 c1 c2 c3:Bool) (n:Int) (h:0≤n∧n≤3):
  (bif Nat.beq (0+n.toNat) 0 then v else c0)=(if n=0 then v else c0)∧(bif Nat.beq (0+n.toNat) 1 then v else c1)=(if n=1 then v else c1)∧(bif Nat.beq (0+n.toNat) 2 then v else c2)=(if n=2 then v else c2)∧(bif Nat.beq (0+n.toNat) 3 then v else c3)=(if n=3 then v else c3):=by
 obtain rfl|rfl|rfl|rfl:n=0∨n=1∨n=2∨n=3:=by omega
 all_goals exact ⟨rfl,rfl,rfl,rfl⟩
theorem in4 {n:Int} (h:0≤n∧n≤3):(decide (0≤n)&&decide (n<((4:Nat):Int)))=true∧Nat.blt (0+n.toNat) 4=true:=by
 obtain rfl|rfl|rfl|rfl:n=0∨n=1∨n=2∨n=3:=by omega
 all_goals exact ⟨rfl,rfl⟩
theorem atB4 {n:Int} (h:0≤n∧n≤3) (f:Int→Bool):atB (0+n.toNat) [f 0,f 1,f 2,f 3]=f n∧atB n.toNat [f 0,f 1,f 2,f 3]=f n:=by
 obtain rfl|rfl|rfl|rfl:n=0∨n=1∨n=2∨n=3:=by omega
 all_goals exact ⟨rfl,rfl⟩
theorem nmS_in {x:Int} (h:-4≤x∧x≤4) (h0:x≠0):0≤nmS x∧nmS x≤3:=by
 obtain rfl|rfl|rfl|rfl|rfl|rfl|rfl|rfl:x=-4∨x=-3∨x=-2∨x=-1∨x=1∨x=2∨x=3∨x=4:=by omega
 all_goals decide
theorem orLoop {R:Type} (L N:Nat) (self:Bool→Bool→Bool→Bool→Tree→Option (Bool×Bool×Bool×Bool)) (k:Bool→Bool→Bool→Bool→Option R) (f c:Int→Bool) (q:Nat) (hq:5≤q):
  f58_1.l1 L N self k q (f 0) (f 1) (f 2) (f 3) 0 (c 0) (c 1) (c 2) (c 3)=k (c 0||f 0) (c 1||f 1) (c 2||f 2) (c 3||f 3):=by
 obtain ⟨q,rfl⟩:∃q',q=q'+5:=⟨q-5,by omega⟩
 have step:∀(q:Nat) (i:Int) (a b d e:Bool),0≤i∧i≤3→f58_1.l1 L N self k (q+1) (f 0) (f 1) (f 2) (f 3) i a b d e=
   f58_1.l1 L N self k q (f 0) (f 1) (f 2) (f 3) (i+1) (if i=0 then a||f 0 else a) (if i=1 then b||f 1 else b) (if i=2 then d||f 2 else d) (if i=3 then e||f 3 else e):=by
  intro q i a b d e hi
  show f58_1.s1 L N _ _ (f58_1.l1 L N _ _ q) (f 0) (f 1) (f 2) (f 3) i a b d e=_
  unfold f58_1.s1 f58_1.s1'
  obtain rfl|rfl|rfl|rfl:i=0∨i=1∨i=2∨i=3:=by omega
  ·cases a<;>rfl
  ·cases b<;>rfl
  ·cases d<;>rfl
  ·cases e<;>rfl
 rw [step _ 0 _ _ _ _ (by omega),step _ (0+1) _ _ _ _ (by omega),step _ (0+1+1) _ _ _ _ (by omega),step _ (0+1+1+1) _ _ _ _ (by omega)]
 rfl
theorem freeI (L N:Nat) (hL5:5≤L):∀(m:Nat) (t:Tree),nodes t≤m→nodes t<L→nodes t≤1048577→WT t (nodes t)→∀c:Int→Bool,f58_1 L N m (c 0) (c 1) (c 2) (c 3) t=some (c 0||fr 0 t,c 1||fr 1 t,c 2||fr 2 t,c 3||fr 3 t):=by
 intro m
 induction m with
 |zero=>intro t h;have:=nodes_pos t;omega
 |succ m ih=>
  intro t ht hL hsz hw c
  obtain ⟨o,x,ps⟩:=t
  obtain ⟨hh,hps⟩:=wt_mk.1 hw
  have hnd:nodes (.mk o x ps)=1+nodess ps:=by simp only [nodes]
  rw [hnd] at ht hL hsz
  have hpl:=nodess_len ps
  show f58_1.b L N (f58_1 L N m) (fun a0 a1 a2 a3=>some (a0,a1,a2,a3)) (c 0) (c 1) (c 2) (c 3) (.mk o x ps)=_
  unfold f58_1.b f58_1.b'
  have key:∀(q i:Nat) (K:Bool→Bool→Bool→Bool→Int→Int→LT→Bool→Bool→Bool→Bool→Option (Bool×Bool×Bool×Bool)),i≤ps.length→ps.length-i<q→
    f58_1.l0 L N (f58_1 L N m) K q ps (ps.length:Int) (i:Int) (c 0) (c 1) (c 2) (c 3) o x ps (frs 0 (ps.take i)) (frs 1 (ps.take i)) (frs 2 (ps.take i)) (frs 3 (ps.take i))=K (c 0) (c 1) (c 2) (c 3) o x ps (frs 0 ps) (frs 1 ps) (frs 2 ps) (frs 3 ps):=by
   intro q
   induction q with
   |zero=>intro i K _ h;omega
   |succ q ihq=>
    intro i K hi hq
    show f58_1.s0 L N _ _ (f58_1.l0 L N _ _ q) ps (ps.length:Int) (i:Int) (c 0) (c 1) (c 2) (c 3) o x ps _ _ _ _=_
    unfold f58_1.s0 f58_1.s0'
    by_cases hlt:i<ps.length
    ·have hg:=nodes_get hlt
     simp only [lt_cast hlt,le0,cond_true,Bool.and_true,Int.toNat_natCast,at_lt hlt,tree_eta]
     rw [ih ps[i] (by omega) (by omega) (by omega) (hps _ (List.getElem_mem hlt)) (fun j=>frs j (ps.take i)),Option.bind_some,←frs_take 0 ps i hlt,←frs_take 1 ps i hlt,←frs_take 2 ps i hlt,←frs_take 3 ps i hlt,wi_nat (by omega)]
     exact ihq (i+1) K (by omega) (by omega)
    ·rw [ge_cast hlt,cond_false,List.take_of_length_le (by omega)]
  have k0:=key L 0 (fun z14 z15 z16 z17 z18 z19 z20 z21 z22 z23 z24=>f58_1.p0_e0 L N (f58_1 L N m) (fun a0 a1 a2 a3=>some (a0,a1,a2,a3)) z14 z15 z16 z17 z18 z19 z20 z21 z22 z23 z24) (by omega) (by omega)
  refine Eq.trans (b:=f58_1.p0_e0 L N (f58_1 L N m) (fun a0 a1 a2 a3=>some (a0,a1,a2,a3)) (c 0) (c 1) (c 2) (c 3) o x ps (frs 0 ps) (frs 1 ps) (frs 2 ps) (frs 3 ps)) k0 ?_
  unfold f58_1.p0_e0 f58_1.p0_e0'
  have fin:∀f:Int→Bool,(∀j,0≤j∧j≤3→f j=fr j (.mk o x ps))→f58_1.l1 L N (f58_1 L N m) (fun z67 z68 z69 z70=>f58_1.p1_e2 L N (f58_1 L N m) (fun a0 a1 a2 a3=>some (a0,a1,a2,a3)) z67 z68 z69 z70) L (f 0) (f 1) (f 2) (f 3) 0 (c 0) (c 1) (c 2) (c 3)=some (c 0||fr 0 (.mk o x ps),c 1||fr 1 (.mk o x ps),c 2||fr 2 (.mk o x ps),c 3||fr 3 (.mk o x ps)):=fun f hf=>by
   rw [orLoop L N _ _ f c L hL5,hf 0 (by omega),hf 1 (by omega),hf 2 (by omega),hf 3 (by omega)];rfl
  by_cases h1:o=1
  ·subst h1
   have hx:-4≤x∧x≤4:=by
    unfold HeadW at hh
    omega
   rw [show ((1:Int)==1)=true from rfl,cond_true]
   unfold f58_1.j0'
   by_cases hx0:x=0
   ·subst hx0
    rw [show ((0:Int) !=0)=false from rfl,cond_false]
    unfold f58_1.j2'
    rw [show ((1:Int)==4)=false from rfl,cond_false]
    unfold f58_1.j1'
    exact fin (fun j=>frs j ps) fun j _=>by rw [fr_mk];simp
   ·have hn:=nmS_in hx hx0
    rw [show (x !=0)=true by simpa using hx0,cond_true]
    have e1:f89 L N x=some (nmS x):=rfl
    obtain ⟨i1,i2⟩:=in4 hn
    obtain ⟨p0,p1,p2,p3⟩:=putB4 true (frs 0 ps) (frs 1 ps) (frs 2 ps) (frs 3 ps) (nmS x) hn
    simp only [e1,Option.bind_some,i1,i2,cond_true,p0,p1,p2,p3]
    unfold f58_1.j2'
    rw [show ((1:Int)==4)=false from rfl,cond_false]
    unfold f58_1.j1'
    refine fin (fun j=>if nmS x=j then true else frs j ps) fun j _=>?_
    rw [fr_mk]
    by_cases e:nmS x=j<;>simp [e,hx0]
  ·rw [show (o==1)=false by simpa using h1,cond_false]
   unfold f58_1.j0'
   rw [cond_false]
   unfold f58_1.j2'
   by_cases h4:o=4
   ·subst h4
    have hx:0≤x∧x≤3:=by
     unfold HeadW at hh
     omega
    obtain ⟨i1,i2⟩:=in4 hx
    obtain ⟨p0,p1,p2,p3⟩:=putB4 false (frs 0 ps) (frs 1 ps) (frs 2 ps) (frs 3 ps) x hx
    simp only [show ((4:Int)==4)=true from rfl,i1,i2,cond_true,p0,p1,p2,p3]
    unfold f58_1.j1'
    refine fin (fun j=>if x=j then false else frs j ps) fun j _=>?_
    rw [fr_mk]
    by_cases e:x=j<;>simp [e]
   ·rw [show (o==4)=false by simpa using h4,cond_false]
    unfold f58_1.j1'
    refine fin (fun j=>frs j ps) fun j _=>?_
    rw [fr_mk,show (o==4)=false by simpa using h4,show (o==1)=false by simpa using h1]
    simp
theorem sum_get {l:List Tree} {i:Nat} (h:i+1<l.length):Tree.mk 2 0 [l[i],sumL (l.drop (i+1))]=sumL (l.drop i):=by
 rw [List.drop_eq_getElem_cons (by omega:i<l.length)]
 rw [List.drop_eq_getElem_cons h,sumL]
theorem sumI (L N:Nat) (l:List Tree) (hl:l.length<L) (hl2:l.length≤1000000):f96 L N l=some (sumL l):=by
 show f96.b L N some l=_
 unfold f96.b f96.b'
 by_cases h0:l.length=0
 ·obtain rfl:=List.length_eq_zero_iff.1 h0;rfl
 ·have key:∀(i q:Nat) (a b:Int),i<l.length→i<q→f96.l0 L N (fun z7 z8 z9 z10 z11=>f96.p0_e0 L N some z7 z8 z9 z10 z11) q l ((i:Int)-1) a b (sumL (l.drop i)).op (sumL (l.drop i)).n (sumL (l.drop i)).parts=some (sumL l):=by
   intro i
   induction i with
   |zero=>
    intro q a b hi hq
    obtain ⟨q,rfl⟩:∃q',q=q'+1:=⟨q-1,by omega⟩
    show f96.s0 L N _ (f96.l0 L N _ q) l _ a b _ _ _=_
    unfold f96.s0 f96.s0'
    rw [df (by omega),cond_false]
    show some (Tree.mk (Tree.mk (sumL (l.drop 0)).op (sumL (l.drop 0)).n (sumL (l.drop 0)).parts).op (Tree.mk (sumL (l.drop 0)).op (sumL (l.drop 0)).n (sumL (l.drop 0)).parts).n (Tree.mk (sumL (l.drop 0)).op (sumL (l.drop 0)).n (sumL (l.drop 0)).parts).parts)=_
    rw [tree_eta,tree_eta,List.drop_zero]
   |succ i ih=>
    intro q a b hi hq
    obtain ⟨q,rfl⟩:∃q',q=q'+1:=⟨q-1,by omega⟩
    show f96.s0 L N _ (f96.l0 L N _ q) l _ a b _ _ _=_
    unfold f96.s0 f96.s0'
    have e1:((i+1:Nat):Int)-1=(i:Int):=by omega
    have hi':i<l.length:=by omega
    rw [e1,dt (show (i:Int)≥0 by omega),cond_true]
    simp only [le0,lt_cast hi',Bool.and_true,cond_true,Int.toNat_natCast,at_lt hi',tree_eta]
    rw [sum_get hi,wi_id (by omega) (by omega)]
    exact ih q a b hi' (by omega)
  have hne:decide ((l.length:Int)=0)=false:=df (by omega)
  have e0:((l.length:Int)==0)=false:=by simpa using h0
  rw [e0,cond_false,wi_id (by omega) (by omega),wi_id (by omega) (by omega)]
  obtain ⟨n,hn⟩:∃n,l.length=n+1:=⟨l.length-1,by omega⟩
  have e2:(l.length:Int)-1=(n:Int):=by omega
  have hlt:n<l.length:=by omega
  have hs:sumL (l.drop n)=l[n]:=by
   rw [List.drop_eq_getElem_cons hlt,List.drop_eq_nil_of_le (by omega),sumL]
  rw [e2,le0,lt_cast hlt,Bool.and_true,cond_true,Int.toNat_natCast,at_lt hlt]
  have:=key n L 0 0 hlt (by omega)
  rw [hs] at this
  rw [show (l.length:Int)-2=(n:Int)-1 by omega]
  exact this
theorem sumS (L N:Nat) (l:List Tree) (hl:l.length<L) (hl2:l.length≤1000000):f100 L N l=some (sumL l):=by
 show f100.b L N some l=_
 unfold f100.b f100.b'
 by_cases h0:l.length=0
 ·obtain rfl:=List.length_eq_zero_iff.1 h0;rfl
 ·have key:∀(i q:Nat) (a b:Int),i<l.length→i<q→f100.l0 L N (fun z7 z8 z9 z10 z11=>f100.p0_e0 L N some z7 z8 z9 z10 z11) q l ((i:Int)-1) a b (sumL (l.drop i)).op (sumL (l.drop i)).n (sumL (l.drop i)).parts=some (sumL l):=by
   intro i
   induction i with
   |zero=>
    intro q a b hi hq
    obtain ⟨q,rfl⟩:∃q',q=q'+1:=⟨q-1,by omega⟩
    show f100.s0 L N _ (f100.l0 L N _ q) l _ a b _ _ _=_
    unfold f100.s0 f100.s0'
    rw [df (by omega),cond_false]
    show some (Tree.mk (Tree.mk (sumL (l.drop 0)).op (sumL (l.drop 0)).n (sumL (l.drop 0)).parts).op (Tree.mk (sumL (l.drop 0)).op (sumL (l.drop 0)).n (sumL (l.drop 0)).parts).n (Tree.mk (sumL (l.drop 0)).op (sumL (l.drop 0)).n (sumL (l.drop 0)).parts).parts)=_
    rw [tree_eta,tree_eta,List.drop_zero]
   |succ i ih=>
    intro q a b hi hq
    obtain ⟨q,rfl⟩:∃q',q=q'+1:=⟨q-1,by omega⟩
    show f100.s0 L N _ (f100.l0 L N _ q) l _ a b _ _ _=_
    unfold f100.s0 f100.s0'
    have e1:((i+1:Nat):Int)-1=(i:Int):=by omega
    have hi':i<l.length:=by omega
    rw [e1,dt (show (i:Int)≥0 by omega),cond_true]
    simp only [le0,lt_cast hi',Bool.and_true,cond_true,Int.toNat_natCast,at_lt hi',tree_eta]
    rw [sum_get hi,wi_id (by omega) (by omega)]
    exact ih q a b hi' (by omega)
  have e0:((l.length:Int)==0)=false:=by simpa using h0
  rw [e0,cond_false,wi_id (by omega) (by omega),wi_id (by omega) (by omega)]
  obtain ⟨n,hn⟩:∃n,l.length=n+1:=⟨l.length-1,by omega⟩
  have e2:(l.length:Int)-1=(n:Int):=by omega
  have hlt:n<l.length:=by omega
  have hs:sumL (l.drop n)=l[n]:=by
   rw [List.drop_eq_getElem_cons hlt,List.drop_eq_nil_of_le (by omega),sumL]
  rw [e2,le0,lt_cast hlt,Bool.and_true,cond_true,Int.toNat_natCast,at_lt hlt]
  have:=key n L 0 0 hlt (by omega)
  rw [hs] at this
  rw [show (l.length:Int)-2=(n:Int)-1 by omega]
  exact this
end Go.Proofs.YthidlhjjnaldhaaGreatDoor.Ev
namespace Go.Proofs.YthidlhjjnaldhaaGreatDoor.Ev
open Go
set_option linter.unusedVariables false
set_option linter.unusedSimpArgs false
end Go.Proofs.YthidlhjjnaldhaaGreatDoor.Ev
namespace Go.Proofs.YthidlhjjnaldhaaGreatDoor.Ev
open Go
set_option linter.unusedVariables false
set_option linter.unusedSimpArgs false
theorem tr_op (o n:Int) (p:List Tree):(Tree.mk o n p).op=o:=rfl
theorem tr_n (o n:Int) (p:List Tree):(Tree.mk o n p).n=n:=rfl
theorem tr_parts (o n:Int) (p:List Tree):(Tree.mk o n p).parts=p:=rfl
end Go.Proofs.YthidlhjjnaldhaaGreatDoor.Ev
namespace Go.Proofs.YthidlhjjnaldhaaGreatDoor.Ev
open Go
set_option linter.unusedVariables false
set_option linter.unusedSimpArgs false
set_option maxRecDepth 20000
def actS (s:Step):Tree:=.mk 1 s.act [s.thn]
inductive LawR:Tree→Tree→Prop
 |comm (o:Int) (a b:Tree) (ho:o=2∨o=3):LawR (.mk o 0 [a,b]) (.mk o 0 [b,a])
 |assoc (o:Int) (a q r:Tree) (ho:o=2∨o=3):LawR (.mk o 0 [a,.mk o 0 [q,r]]) (.mk o 0 [.mk o 0 [a,q],r])
 |idem (a:Tree):LawR (.mk 2 0 [a,a]) a
 |unit (o:Int) (a:Tree) (ho:o=2∨o=3):LawR (.mk o 0 [a,.mk 0 0 []]) a
 |hh (n x:Int) (a:Tree):LawR (.mk 4 n [.mk 4 x [a]]) (.mk 4 x [.mk 4 n [a]])
 |hs (n:Int) (a b:Tree):LawR (.mk 4 n [.mk 2 0 [a,b]]) (.mk 2 0 [.mk 4 n [a],.mk 4 n [b]])
 |ha (n x:Int) (a:Tree) (h:x=0∨nmS x≠n):LawR (.mk 4 n [.mk 1 x [a]]) (.mk 1 x [.mk 4 n [a]])
 |hf (n:Int) (a:Tree) (hp:CL 0 false a) (h:fr n a=false):LawR (.mk 4 n [a]) a
 |exp (t:Tree) (hp:CL 0 false t):LawR t (sumL ((steps [] t).map actS))
def SameW (t:Tree) (a b:Option (Tree×Bool)):Prop:=∃T T' ok,a=some (T,ok)∧b=some (T',ok)∧(ok=true→T=T'∧LawR t T)
theorem SameW.no {t:Tree} {a b:Option (Tree×Bool)} {T T':Tree} (h1:a=some (T,false)) (h2:b=some (T',false)):SameW t a b:=⟨T,T',false,h1,h2,fun h=>by cases h⟩
theorem SameW.n0 {t:Tree} {a b:Option (Tree×Bool)} (h1:a=some (.mk 0 0 [],false)) (h2:b=some (.mk 0 0 [],false)):SameW t a b:=.no h1 h2
theorem SameW.yes {t:Tree} {a b:Option (Tree×Bool)} {T:Tree} (h1:a=some (T,true)) (h2:b=some (T,true)) (h:LawR t T):SameW t a b:=⟨T,T,true,h1,h2,fun _=>⟨rfl,h⟩⟩
theorem defsNil:DefsW []:=⟨by simp,fun d hd=>by cases hd⟩
section
variable (L N : Nat)
theorem expI (hL:1000001<L) (st:List Step) (hl:st.length≤1000000):
  f83.l0 L N (fun z75 z76 z77=>f83.p0_e1 L N (fun a0 a1=>some (a0,a1)) z75 z76 z77) L (st.length:Int) 0 0 0 [] st=some (sumL (st.map actS),true):=by
 have key:∀(q i:Nat),i≤st.length→st.length-i<q→
   f83.l0 L N (fun z75 z76 z77=>f83.p0_e1 L N (fun a0 a1=>some (a0,a1)) z75 z76 z77) q (st.length:Int) (i:Int) 0 0 ((st.take i).map actS) st=some (sumL (st.map actS),true):=by
  intro q
  induction q with
  |zero=>intro i _ h;omega
  |succ q ih=>
   intro i hi hq
   show f83.s0 L N _ (f83.l0 L N _ q) _ _ _ _ _ _=_
   unfold f83.s0 f83.s0'
   by_cases hlt:i<st.length
   ·have e1:∀(x:Int) (a:Tree),f94 L N x a=some (.mk 1 x [.mk a.op a.n a.parts]):=fun x a=>by kernel_rfl
    have hlm:=lim_eq
    simp only [lt_cast hlt,le0,cond_true,Bool.and_true,Int.toNat_natCast,at_lt hlt,e1,Option.bind_some,tree_eta,tr_op,tr_n,tr_parts]
    rw [dt (by rw [List.length_map,List.length_take,List.length_singleton,lim_eq];omega),cond_true,wi_nat (by omega)]
    have e2:(st.take i).map actS++[Tree.mk 1 st[i].act [st[i].thn]]=(st.take (i+1)).map actS:=by
     rw [List.take_succ_eq_append_getElem hlt,List.map_append];rfl
    rw [e2]
    exact ih (i+1) (by omega) (by omega)
   ·rw [ge_cast hlt,cond_false,List.take_of_length_le (by omega)]
    show (f96 L N (st.map actS)).bind _=_
    rw [sumI L N (st.map actS) (by rw [List.length_map];omega) (by rw [List.length_map];omega),Option.bind_some,tree_eta]
 exact key L 0 (by omega) (by omega)
theorem expS (hL:1000001<L) (st:List Step) (hl:st.length≤1000000):
  f86.l0 L N (fun z37 z38 z39=>f86.p0_e1 L N (fun a0 a1=>some (a0,a1)) z37 z38 z39) L 0 0 0 [] st=some (sumL (st.map actS),true):=by
 have key:∀(q i:Nat),i≤st.length→st.length-i<q→
   f86.l0 L N (fun z37 z38 z39=>f86.p0_e1 L N (fun a0 a1=>some (a0,a1)) z37 z38 z39) q (i:Int) 0 0 ((st.take i).map actS) st=some (sumL (st.map actS),true):=by
  intro q
  induction q with
  |zero=>intro i _ h;omega
  |succ q ih=>
   intro i hi hq
   show f86.s0 L N _ (f86.l0 L N _ q) _ _ _ _ _=_
   unfold f86.s0 f86.s0'
   by_cases hlt:i<st.length
   ·have hlm:=lim_eq
    simp only [lt_cast hlt,le0,cond_true,Bool.and_true,Int.toNat_natCast,at_lt hlt,tree_eta]
    rw [dt (by rw [List.length_map,List.length_take,List.length_singleton,lim_eq];omega),cond_true,wi_nat (by omega)]
    have e2:(st.take i).map actS++[Tree.mk 1 st[i].act [st[i].thn]]=(st.take (i+1)).map actS:=by
     rw [List.take_succ_eq_append_getElem hlt,List.map_append];rfl
    rw [e2]
    exact ih (i+1) (by omega) (by omega)
   ·rw [ge_cast hlt,cond_false,List.take_of_length_le (by omega)]
    show (f100 L N (st.map actS)).bind _=_
    rw [sumS L N (st.map actS) (by rw [List.length_map];omega) (by rw [List.length_map];omega),Option.bind_some,tree_eta]
 exact key L 0 (by omega) (by omega)
theorem law9 (t:Tree) (k:Nat) (h:WT t k) (hk:k≤24):SameW t (f83 L N t 9) (f86 L N t 9):=by
 cases h with
 |nil=>exact .n0 (by kernel_rfl) (by kernel_rfl)
 |act n a k hn h=>exact .n0 (by kernel_rfl) (by kernel_rfl)
 |sum a b i j ha hb=>exact .n0 (by kernel_rfl) (by kernel_rfl)
 |par a b i j ha hb=>exact .n0 (by kernel_rfl) (by kernel_rfl)
 |call n hn=>exact .n0 (by kernel_rfl) (by kernel_rfl)
 |hide n a k hn h=>
  cases h with
  |nil=>exact .n0 (by kernel_rfl) (by kernel_rfl)
  |sum a b i j ha hb=>exact .n0 (by kernel_rfl) (by kernel_rfl)
  |par a b i j ha hb=>exact .n0 (by kernel_rfl) (by kernel_rfl)
  |call n hn=>exact .n0 (by kernel_rfl) (by kernel_rfl)
  |hide x a k hx h=>exact .n0 (by kernel_rfl) (by kernel_rfl)
  |act x a k hx h=>
   have e1:f83 L N (.mk 4 n [.mk 1 x [a]]) 9=bif x==0 then some (.mk 1 x [.mk 4 n [Tree.mk a.op a.n a.parts]],true) else bif nmS x !=n then some (.mk 1 x [.mk 4 n [Tree.mk a.op a.n a.parts]],true) else some (.mk 0 0 [],false):=by kernel_rfl
   have e2:f86 L N (.mk 4 n [.mk 1 x [a]]) 9=(bif x==0 then some (Tree.mk 1 x [.mk 4 n [Tree.mk a.op a.n a.parts]],true) else bif nmS x !=n then some (Tree.mk 1 x [.mk 4 n [Tree.mk a.op a.n a.parts]],true) else some (Tree.mk 0 0 [],false)).bind fun y=>some (Tree.mk y.1.op y.1.n y.1.parts,y.2):=by kernel_rfl
   rw [tree_eta] at e1 e2
   by_cases h0:x=0
   ·rw [show (x==0)=true by simpa using h0,cond_true] at e1 e2
    exact .yes e1 e2 (.ha n x a (.inl h0))
   ·rw [show (x==0)=false by simpa using h0,cond_false] at e1 e2
    by_cases h1:nmS x=n
    ·rw [show (nmS x !=n)=false by simpa using h1,cond_false] at e1 e2
     exact .no e1 e2
    ·rw [show (nmS x !=n)=true by simpa using h1,cond_true] at e1 e2
     exact .yes e1 e2 (.ha n x a (.inr h1))
theorem law8 (t:Tree) (k:Nat) (h:WT t k) (hk:k≤24):SameW t (f83 L N t 8) (f86 L N t 8):=by
 cases h with
 |nil=>exact .n0 (by kernel_rfl) (by kernel_rfl)
 |act n a k hn h=>exact .n0 (by kernel_rfl) (by kernel_rfl)
 |sum a b i j ha hb=>exact .n0 (by kernel_rfl) (by kernel_rfl)
 |par a b i j ha hb=>exact .n0 (by kernel_rfl) (by kernel_rfl)
 |call n hn=>exact .n0 (by kernel_rfl) (by kernel_rfl)
 |hide n a k hn h=>
  cases h with
  |nil=>exact .n0 (by kernel_rfl) (by kernel_rfl)
  |act x a k hx h=>exact .n0 (by kernel_rfl) (by kernel_rfl)
  |par a b i j ha hb=>exact .n0 (by kernel_rfl) (by kernel_rfl)
  |call n hn=>exact .n0 (by kernel_rfl) (by kernel_rfl)
  |hide x a k hx h=>exact .n0 (by kernel_rfl) (by kernel_rfl)
  |sum a b i j ha hb=>
   have e1:f83 L N (.mk 4 n [.mk 2 0 [a,b]]) 8=some (.mk 2 0 [.mk 4 n [Tree.mk a.op a.n a.parts],.mk 4 n [Tree.mk b.op b.n b.parts]],true):=by kernel_rfl
   have e2:f86 L N (.mk 4 n [.mk 2 0 [a,b]]) 8=some (.mk 2 0 [.mk 4 n [Tree.mk a.op a.n a.parts],.mk 4 n [Tree.mk b.op b.n b.parts]],true):=by kernel_rfl
   rw [tree_eta,tree_eta] at e1 e2
   exact .yes e1 e2 (.hs n a b)
theorem law7 (t:Tree) (k:Nat) (h:WT t k) (hk:k≤24):SameW t (f83 L N t 7) (f86 L N t 7):=by
 cases h with
 |nil=>exact .n0 (by kernel_rfl) (by kernel_rfl)
 |act n a k hn h=>exact .n0 (by kernel_rfl) (by kernel_rfl)
 |sum a b i j ha hb=>exact .n0 (by kernel_rfl) (by kernel_rfl)
 |par a b i j ha hb=>exact .n0 (by kernel_rfl) (by kernel_rfl)
 |call n hn=>exact .n0 (by kernel_rfl) (by kernel_rfl)
 |hide n a k hn h=>
  cases h with
  |nil=>exact .n0 (by kernel_rfl) (by kernel_rfl)
  |act x a k hx h=>exact .n0 (by kernel_rfl) (by kernel_rfl)
  |sum a b i j ha hb=>exact .n0 (by kernel_rfl) (by kernel_rfl)
  |par a b i j ha hb=>exact .n0 (by kernel_rfl) (by kernel_rfl)
  |call n hn=>exact .n0 (by kernel_rfl) (by kernel_rfl)
  |hide x a k hx h=>
   have e1:f83 L N (.mk 4 n [.mk 4 x [a]]) 7=some (.mk 4 x [.mk 4 n [Tree.mk a.op a.n a.parts]],true):=by kernel_rfl
   have e2:f86 L N (.mk 4 n [.mk 4 x [a]]) 7=some (.mk 4 x [.mk 4 n [Tree.mk a.op a.n a.parts]],true):=by kernel_rfl
   rw [tree_eta] at e1 e2
   exact .yes e1 e2 (.hh n x a)
theorem law36 (t:Tree) (k:Nat) (h:WT t k) (hk:k≤24):SameW t (f83 L N t 3) (f86 L N t 3)∧SameW t (f83 L N t 6) (f86 L N t 6):=by
 cases h with
 |nil=>exact ⟨.n0 (by kernel_rfl) (by kernel_rfl),.n0 (by kernel_rfl) (by kernel_rfl)⟩
 |act n a k hn h=>exact ⟨.n0 (by kernel_rfl) (by kernel_rfl),.n0 (by kernel_rfl) (by kernel_rfl)⟩
 |hide n a k hn h=>exact ⟨.n0 (by kernel_rfl) (by kernel_rfl),.n0 (by kernel_rfl) (by kernel_rfl)⟩
 |call n hn=>exact ⟨.n0 (by kernel_rfl) (by kernel_rfl),.n0 (by kernel_rfl) (by kernel_rfl)⟩
 |sum a b i j ha hb=>
  refine ⟨?_,.n0 (by kernel_rfl) (by kernel_rfl)⟩
  cases hb with
  |nil=>
   have e1:f83 L N (.mk 2 0 [a,.mk 0 0 []]) 3=some (Tree.mk a.op a.n a.parts,true):=by kernel_rfl
   have e2:f86 L N (.mk 2 0 [a,.mk 0 0 []]) 3=some (Tree.mk a.op a.n a.parts,true):=by kernel_rfl
   rw [tree_eta] at e1 e2
   exact .yes e1 e2 (.unit 2 a (.inl rfl))
  |act n b k hn h=>exact .n0 (by kernel_rfl) (by kernel_rfl)
  |sum c d i j hc hd=>exact .n0 (by kernel_rfl) (by kernel_rfl)
  |par c d i j hc hd=>exact .n0 (by kernel_rfl) (by kernel_rfl)
  |hide n b k hn h=>exact .n0 (by kernel_rfl) (by kernel_rfl)
  |call n hn=>exact .n0 (by kernel_rfl) (by kernel_rfl)
 |par a b i j ha hb=>
  refine ⟨.n0 (by kernel_rfl) (by kernel_rfl),?_⟩
  cases hb with
  |nil=>
   have e1:f83 L N (.mk 3 0 [a,.mk 0 0 []]) 6=some (Tree.mk a.op a.n a.parts,true):=by kernel_rfl
   have e2:f86 L N (.mk 3 0 [a,.mk 0 0 []]) 6=some (Tree.mk a.op a.n a.parts,true):=by kernel_rfl
   rw [tree_eta] at e1 e2
   exact .yes e1 e2 (.unit 3 a (.inr rfl))
  |act n b k hn h=>exact .n0 (by kernel_rfl) (by kernel_rfl)
  |sum c d i j hc hd=>exact .n0 (by kernel_rfl) (by kernel_rfl)
  |par c d i j hc hd=>exact .n0 (by kernel_rfl) (by kernel_rfl)
  |hide n b k hn h=>exact .n0 (by kernel_rfl) (by kernel_rfl)
  |call n hn=>exact .n0 (by kernel_rfl) (by kernel_rfl)
theorem law15 (t:Tree) (k:Nat) (h:WT t k) (hk:k≤24):SameW t (f83 L N t 1) (f86 L N t 1)∧SameW t (f83 L N t 5) (f86 L N t 5):=by
 cases h with
 |nil=>exact ⟨.n0 (by kernel_rfl) (by kernel_rfl),.n0 (by kernel_rfl) (by kernel_rfl)⟩
 |act n a k hn h=>exact ⟨.n0 (by kernel_rfl) (by kernel_rfl),.n0 (by kernel_rfl) (by kernel_rfl)⟩
 |hide n a k hn h=>exact ⟨.n0 (by kernel_rfl) (by kernel_rfl),.n0 (by kernel_rfl) (by kernel_rfl)⟩
 |call n hn=>exact ⟨.n0 (by kernel_rfl) (by kernel_rfl),.n0 (by kernel_rfl) (by kernel_rfl)⟩
 |sum a b i j ha hb=>
  refine ⟨?_,.n0 (by kernel_rfl) (by kernel_rfl)⟩
  cases hb with
  |sum q r i j hq hr=>
   have e1:f83 L N (.mk 2 0 [a,.mk 2 0 [q,r]]) 1=some (.mk 2 0 [.mk 2 0 [a,Tree.mk q.op q.n q.parts],Tree.mk r.op r.n r.parts],true):=by kernel_rfl
   have e2:f86 L N (.mk 2 0 [a,.mk 2 0 [q,r]]) 1=some (.mk 2 0 [.mk 2 0 [Tree.mk (Tree.mk a.op a.n a.parts).op (Tree.mk a.op a.n a.parts).n (Tree.mk a.op a.n a.parts).parts,Tree.mk q.op q.n q.parts],Tree.mk r.op r.n r.parts],true):=by kernel_rfl
   simp only [tree_eta] at e1 e2
   exact .yes e1 e2 (.assoc 2 a q r (.inl rfl))
  |nil=>exact .n0 (by kernel_rfl) (by kernel_rfl)
  |act n b k hn h=>exact .n0 (by kernel_rfl) (by kernel_rfl)
  |par c d i j hc hd=>exact .n0 (by kernel_rfl) (by kernel_rfl)
  |hide n b k hn h=>exact .n0 (by kernel_rfl) (by kernel_rfl)
  |call n hn=>exact .n0 (by kernel_rfl) (by kernel_rfl)
 |par a b i j ha hb=>
  refine ⟨.n0 (by kernel_rfl) (by kernel_rfl),?_⟩
  cases hb with
  |par q r i j hq hr=>
   have e1:f83 L N (.mk 3 0 [a,.mk 3 0 [q,r]]) 5=some (.mk 3 0 [.mk 3 0 [a,Tree.mk q.op q.n q.parts],Tree.mk r.op r.n r.parts],true):=by kernel_rfl
   have e2:f86 L N (.mk 3 0 [a,.mk 3 0 [q,r]]) 5=some (.mk 3 0 [.mk 3 0 [Tree.mk (Tree.mk a.op a.n a.parts).op (Tree.mk a.op a.n a.parts).n (Tree.mk a.op a.n a.parts).parts,Tree.mk q.op q.n q.parts],Tree.mk r.op r.n r.parts],true):=by kernel_rfl
   simp only [tree_eta] at e1 e2
   exact .yes e1 e2 (.assoc 3 a q r (.inr rfl))
  |nil=>exact .n0 (by kernel_rfl) (by kernel_rfl)
  |act n b k hn h=>exact .n0 (by kernel_rfl) (by kernel_rfl)
  |sum c d i j hc hd=>exact .n0 (by kernel_rfl) (by kernel_rfl)
  |hide n b k hn h=>exact .n0 (by kernel_rfl) (by kernel_rfl)
  |call n hn=>exact .n0 (by kernel_rfl) (by kernel_rfl)
theorem law04 (t:Tree) (k:Nat) (h:WT t k) (hk:k≤24):SameW t (f83 L N t 0) (f86 L N t 0)∧SameW t (f83 L N t 4) (f86 L N t 4):=by
 cases h with
 |nil=>exact ⟨.n0 (by kernel_rfl) (by kernel_rfl),.n0 (by kernel_rfl) (by kernel_rfl)⟩
 |act n a k hn h=>exact ⟨.n0 (by kernel_rfl) (by kernel_rfl),.n0 (by kernel_rfl) (by kernel_rfl)⟩
 |hide n a k hn h=>exact ⟨.n0 (by kernel_rfl) (by kernel_rfl),.n0 (by kernel_rfl) (by kernel_rfl)⟩
 |call n hn=>exact ⟨.n0 (by kernel_rfl) (by kernel_rfl),.n0 (by kernel_rfl) (by kernel_rfl)⟩
 |sum a b i j ha hb=>
  have e1:f83 L N (.mk 2 0 [a,b]) 0=some (.mk 2 0 [b,a],true):=by kernel_rfl
  have e2:f86 L N (.mk 2 0 [a,b]) 0=some (.mk 2 0 [Tree.mk (Tree.mk b.op b.n b.parts).op (Tree.mk b.op b.n b.parts).n (Tree.mk b.op b.n b.parts).parts,Tree.mk (Tree.mk a.op a.n a.parts).op (Tree.mk a.op a.n a.parts).n (Tree.mk a.op a.n a.parts).parts],true):=by kernel_rfl
  simp only [tree_eta] at e1 e2
  exact ⟨.yes e1 e2 (.comm 2 a b (.inl rfl)),.n0 (by kernel_rfl) (by kernel_rfl)⟩
 |par a b i j ha hb=>
  have e1:f83 L N (.mk 3 0 [a,b]) 4=some (.mk 3 0 [b,a],true):=by kernel_rfl
  have e2:f86 L N (.mk 3 0 [a,b]) 4=some (.mk 3 0 [Tree.mk (Tree.mk b.op b.n b.parts).op (Tree.mk b.op b.n b.parts).n (Tree.mk b.op b.n b.parts).parts,Tree.mk (Tree.mk a.op a.n a.parts).op (Tree.mk a.op a.n a.parts).n (Tree.mk a.op a.n a.parts).parts],true):=by kernel_rfl
  simp only [tree_eta] at e1 e2
  exact ⟨.n0 (by kernel_rfl) (by kernel_rfl),.yes e1 e2 (.comm 3 a b (.inr rfl))⟩
variable (hN : 4194308 ≤ N) (hL : 8589934592 ≤ L)
include hN hL
theorem law11 (t:Tree) (k:Nat) (h:WT t k) (hk:k≤24):SameW t (f83 L N t 11) (f86 L N t 11):=by
 have hn:=h.nodes_eq
 have hw:WT t (nodes t):=by rw [hn];exact h
 have e1:f83 L N t 11=(f59 L N N (.mk t.op t.n t.parts)).bind fun y=>bif y then (f93 L N N (.mk t.op t.n t.parts) []).bind fun z=>f83.l0 L N (fun z75 z76 z77=>f83.p0_e1 L N (fun a0 a1=>some (a0,a1)) z75 z76 z77) L (z.length:Int) 0 0 0 [] z else some (.mk 0 0 [],false):=by kernel_rfl
 have e2:f86 L N t 11=(f61 L N (.mk t.op t.n t.parts)).bind fun y=>bif y then (f98 L N N (.mk t.op t.n t.parts) []).bind fun z=>f86.l0 L N (fun z37 z38 z39=>f86.p0_e1 L N (fun a0 a1=>some (a0,a1)) z37 z38 z39) L 0 0 0 [] z else some (.mk 0 0 [],false):=by kernel_rfl
 rw [tree_eta,plainI L N 24 t hw (by omega) (by omega) (by omega) N (by omega),Option.bind_some] at e1
 rw [tree_eta,plainS L N t hw (by omega) (by omega) (by omega),Option.bind_some] at e2
 by_cases hp:CL 0 false t
 ·have hp0:CL (([]:List Tree).length:Int) false t:=hp
  rw [isB_true hp,cond_true,stepsI L N (by omega) [] defsNil t k h hk hp0 N (by omega),Option.bind_some] at e1
  rw [isB_true hp,cond_true,stepsS L N (by omega) [] defsNil t k h hk hp0 N (by omega),Option.bind_some] at e2
  have hb:=(steps_bnd [] defsNil t k h hk hp0).len (by omega)
  rw [expI L N (by omega) _ (by omega)] at e1
  rw [expS L N (by omega) _ (by omega)] at e2
  exact .yes e1 e2 (.exp t hp)
 ·rw [isB_false hp,cond_false] at e1 e2
  exact .no e1 e2
theorem law10 (t:Tree) (k:Nat) (h:WT t k) (hk:k≤24):SameW t (f83 L N t 10) (f86 L N t 10):=by
 cases h with
 |nil=>exact .n0 (by kernel_rfl) (by kernel_rfl)
 |act n a k hn h=>exact .n0 (by kernel_rfl) (by kernel_rfl)
 |sum a b i j ha hb=>exact .n0 (by kernel_rfl) (by kernel_rfl)
 |par a b i j ha hb=>exact .n0 (by kernel_rfl) (by kernel_rfl)
 |call n hn=>exact .n0 (by kernel_rfl) (by kernel_rfl)
 |hide n a k hn h=>
  have hna:=h.nodes_eq
  have hw:WT a (nodes a):=by rw [hna];exact h
  have e1:f83 L N (.mk 4 n [a]) 10=(f59 L N N a).bind fun y=>bif y then (f58_1 L N N false false false false a).bind fun z=>bif (decide (0≤n)&&decide (n<((4:Nat):Int))) then (bif Nat.blt (0+n.toNat) 4 then some (Tree.mk a.op a.n a.parts,!(atB (0+n.toNat) [z.1,z.2.1,z.2.2.1,z.2.2.2])) else none) else none else some (.mk 0 0 [],false):=by kernel_rfl
  have e2:f86 L N (.mk 4 n [a]) 10=((f61 L N (Tree.mk a.op a.n a.parts)).bind fun y=>bif y then (f164 L N N (Tree.mk a.op a.n a.parts) n).bind fun z=>bif !z then some (Tree.mk a.op a.n a.parts,true) else some (Tree.mk 0 0 [],false) else some (Tree.mk 0 0 [],false)).bind fun y=>some (Tree.mk y.1.op y.1.n y.1.parts,y.2):=by kernel_rfl
  rw [plainI L N 24 a hw (by omega) (by omega) (by omega) N (by omega),Option.bind_some] at e1
  rw [tree_eta,plainS L N a hw (by omega) (by omega) (by omega),Option.bind_some] at e2
  by_cases hp:CL 0 false a
  ·obtain ⟨i1,i2⟩:=in4 hn
   have hfr:=freeI L N (by omega) N a (by omega) (by omega) (by omega) hw (fun _=>false)
   simp only [Bool.false_or] at hfr
   rw [isB_true hp,cond_true,hfr,Option.bind_some] at e1
   dsimp only at e1
   rw [i1,cond_true,i2,cond_true,(atB4 hn fun j=>fr j a).1,tree_eta] at e1
   rw [isB_true hp,cond_true,freeS L N n N a (by omega) (by omega) (by omega) hw,Option.bind_some] at e2
   cases hf:fr n a
   ·rw [hf] at e1 e2
    simp only [Bool.not_false,cond_true,Option.bind_some,tree_eta] at e1 e2
    exact .yes e1 e2 (.hf n a hp hf)
   ·rw [hf] at e1 e2
    simp only [Bool.not_true,cond_false,Option.bind_some,tree_eta] at e1 e2
    exact .no e1 e2
  ·rw [isB_false hp,cond_false] at e1 e2
   exact .no e1 e2
theorem law2 (t:Tree) (k:Nat) (h:WT t k) (hk:k≤24):SameW t (f83 L N t 2) (f86 L N t 2):=by
 cases h with
 |nil=>exact .n0 (by kernel_rfl) (by kernel_rfl)
 |act n a k hn h=>exact .n0 (by kernel_rfl) (by kernel_rfl)
 |par a b i j ha hb=>exact .n0 (by kernel_rfl) (by kernel_rfl)
 |hide n a k hn h=>exact .n0 (by kernel_rfl) (by kernel_rfl)
 |call n hn=>exact .n0 (by kernel_rfl) (by kernel_rfl)
 |sum a b i j ha hb=>
  have e1:f83 L N (.mk 2 0 [a,b]) 2=(f92 L N N a).bind fun y=>(f92 L N N b).bind fun z=>bif y.toList==z.toList then some (Tree.mk a.op a.n a.parts,true) else some (.mk 0 0 [],false):=by kernel_rfl
  have e2:f86 L N (.mk 2 0 [a,b]) 2=((f99 L N N (Tree.mk a.op a.n a.parts)).bind fun y=>(f99 L N N (Tree.mk b.op b.n b.parts)).bind fun z=>bif y.toList==z.toList then (bif y.toList==z.toList then some (Tree.mk a.op a.n a.parts,true) else some (Tree.mk 0 0 [],false)) else some (Tree.mk 0 0 [],false)).bind fun y=>some (Tree.mk y.1.op y.1.n y.1.parts,y.2):=by kernel_rfl
  rw [textI L N a i ha (by omega) N (by omega),textI L N b j hb (by omega) N (by omega),Option.bind_some,Option.bind_some,tree_eta] at e1
  rw [tree_eta,tree_eta,textS L N (by omega) (by omega) a i ha (by omega) N (by omega),textS L N (by omega) (by omega) b j hb (by omega) N (by omega),Option.bind_some,Option.bind_some] at e2
  by_cases hab:a=b
  ·subst hab
   rw [show ((txB a).toList==(txB a).toList)=true by simp,cond_true] at e1 e2
   rw [cond_true,Option.bind_some] at e2
   dsimp only at e2
   rw [tree_eta] at e2
   exact .yes e1 e2 (.idem a)
  ·have hne:((txB a).toList==(txB b).toList)=false:=by
    rw [beq_eq_false_iff_ne]
    intro h
    refine hab (txB_one ha hb ?_)
    rw [ByteArray.toList_eq,ByteArray.toList_eq] at h
    exact ByteArray.ext (Array.toList_inj.1 h)
   rw [hne,cond_false] at e1 e2
   exact .no e1 e2
theorem law_same (t:Tree) (k:Nat) (h:WT t k) (hk:k≤24) (law:Int) (h0:0≤law) (h1:law<12):SameW t (f83 L N t law) (f86 L N t law):=by
 obtain rfl|rfl|rfl|rfl|rfl|rfl|rfl|rfl|rfl|rfl|rfl|rfl:law=0∨law=1∨law=2∨law=3∨law=4∨law=5∨law=6∨law=7∨law=8∨law=9∨law=10∨law=11:=by omega
 ·exact (law04 L N t k h hk).1
 ·exact (law15 L N t k h hk).1
 ·exact law2 L N hN hL t k h hk
 ·exact (law36 L N t k h hk).1
 ·exact (law04 L N t k h hk).2
 ·exact (law15 L N t k h hk).2
 ·exact (law36 L N t k h hk).2
 ·exact law7 L N t k h hk
 ·exact law8 L N t k h hk
 ·exact law9 L N t k h hk
 ·exact law10 L N hN hL t k h hk
 ·exact law11 L N hN hL t k h hk
end
end Go.Proofs.YthidlhjjnaldhaaGreatDoor.Ev
namespace Go.Proofs.YthidlhjjnaldhaaGreatDoor.Ev
open Go
set_option linter.unusedVariables false
set_option linter.unusedSimpArgs false
set_option maxRecDepth 20000
theorem copyI (L N:Nat):∀(m:Nat) (t:Tree),nodes t≤m→nodes t<L→nodes t≤1048577→f52 L N m t=some t:=by
 intro m
 induction m with
 |zero=>intro t h;have:=nodes_pos t;omega
 |succ m ih=>
  intro t ht hL hsz
  obtain ⟨o,x,ps⟩:=t
  have hnd:nodes (.mk o x ps)=1+nodess ps:=by simp only [nodes]
  rw [hnd] at ht hL hsz
  have hpl:=nodess_len ps
  show f52.b L N (f52 L N m) some (.mk o x ps)=_
  unfold f52.b f52.b'
  have key:∀(q i:Nat),i≤ps.length→ps.length-i<q→
    f52.l0 L N (f52 L N m) (fun z8 z9 z10 z11 z12=>f52.p0_e0 L N (f52 L N m) some z8 z9 z10 z11 z12) q ps (ps.length:Int) (i:Int) 0 0 o x (ps.take i)=some (.mk o x ps):=by
   intro q
   induction q with
   |zero=>intro i _ h;omega
   |succ q ihq=>
    intro i hi hq
    show f52.s0 L N _ _ (f52.l0 L N _ _ q) ps (ps.length:Int) (i:Int) 0 0 o x _=_
    unfold f52.s0 f52.s0'
    by_cases hlt:i<ps.length
    ·have hg:=nodes_get hlt
     have hlm:=lim_eq
     simp only [lt_cast hlt,le0,cond_true,Bool.and_true,Int.toNat_natCast,at_lt hlt,tree_eta]
     rw [ih ps[i] (by omega) (by omega) (by omega),Option.bind_some]
     rw [dt (by rw [List.length_take,List.length_singleton,lim_eq];omega),cond_true,wi_nat (by omega),←List.take_succ_eq_append_getElem hlt]
     exact ihq (i+1) (by omega) (by omega)
    ·rw [ge_cast hlt,cond_false,List.take_of_length_le (by omega)];rfl
  exact key L 0 (by omega) (by omega)
theorem swapT (L N:Nat) (hL:6≤L):f88 L N 0 0=some [0,1,2,3]:=by
 obtain ⟨L,rfl⟩:∃q,L=q+6:=⟨L-6,by omega⟩
 kernel_rfl
theorem tblAt {n:Int} (h:0≤n∧n≤3):(decide (0≤n)&&decide (n<(([0,1,2,3]:List Int).length:Int)))=true∧listAt ([0,1,2,3]:List Int) (0:Int) n.toNat=n:=by
 obtain rfl|rfl|rfl|rfl:n=0∨n=1∨n=2∨n=3:=by omega
 all_goals exact ⟨rfl,rfl⟩
theorem mapS (L N:Nat):∀(m:Nat) (t:Tree),WT t (nodes t)→nodes t≤m→nodes t<L→nodes t≤1048577→f87 L N m t [0,1,2,3]=some t:=by
 intro m
 induction m with
 |zero=>intro t _ h;have:=nodes_pos t;omega
 |succ m ih=>
  intro t hw ht hL hsz
  obtain ⟨o,x,ps⟩:=t
  obtain ⟨hh,hps⟩:=wt_mk.1 hw
  have hnd:nodes (.mk o x ps)=1+nodess ps:=by simp only [nodes]
  rw [hnd] at ht hL hsz
  have hpl:=nodess_len ps
  show f87.b L N (f87 L N m) some (.mk o x ps) [0,1,2,3]=_
  have key:∀(q i:Nat),i≤ps.length→ps.length-i<q→
    f87.l0 L N (f87 L N m) (fun z36 z37 z38 z39 z40=>f87.p0_e1 L N (f87 L N m) some z36 z37 z38 z39 z40) q [0,1,2,3] (i:Int) o x ps 0 0 o x (ps.take i)=some (.mk o x ps):=by
   intro q
   induction q with
   |zero=>intro i _ h;omega
   |succ q ihq=>
    intro i hi hq
    show f87.s0 L N _ _ (f87.l0 L N _ _ q) [0,1,2,3] (i:Int) o x ps 0 0 o x _=_
    unfold f87.s0 f87.s0'
    by_cases hlt:i<ps.length
    ·have hg:=nodes_get hlt
     have hlm:=lim_eq
     simp only [lt_cast hlt,le0,cond_true,Bool.and_true,Int.toNat_natCast,at_lt hlt,tree_eta]
     rw [ih ps[i] (hps _ (List.getElem_mem hlt)) (by omega) (by omega) (by omega),Option.bind_some]
     rw [dt (by rw [List.length_take,List.length_singleton,lim_eq];omega),cond_true,wi_nat (by omega),←List.take_succ_eq_append_getElem hlt]
     exact ihq (i+1) (by omega) (by omega)
    ·rw [ge_cast hlt,cond_false,List.take_of_length_le (by omega)];rfl
  have k0:=key L 0 (by omega) (by omega)
  have fin:∀y:Int,y=x→f87.j2' L N (f87 L N m) some (fun s26 s27 s28 s29 s30 s31 s32 s33 s34 s35=>f87.l0 L N (f87 L N m) (fun z36 z37 z38 z39 z40=>f87.p0_e1 L N (f87 L N m) some z36 z37 z38 z39 z40) L s26 s27 s28 s29 s30 s31 s32 s33 s34 s35) [0,1,2,3] o x ps 0 0 o y=some (.mk o x ps):=fun y hy=>by
   subst hy;exact k0
  unfold f87.b f87.b'
  dsimp only [Tree.op,Tree.n,Tree.parts]
  unfold HeadW at hh
  by_cases h4:o=4
  ·have hx:0≤x∧x≤3:=by omega
   obtain ⟨i1,i2⟩:=tblAt hx
   rw [show (o==4)=true by simpa using h4,cond_true]
   refine (bif_y i1).trans ?_
   exact fin _ i2
  ·rw [show (o==4)=false by simpa using h4,cond_false]
   by_cases h1:o=1
   ·have hx:-4≤x∧x≤4:=by omega
    rw [show (o==1)=true by simpa using h1,cond_true]
    unfold f87.j1'
    by_cases hp:x>0
    ·obtain ⟨i1,i2⟩:=tblAt (n:=x-1) (by omega)
     refine (bif_y (decide_eq_true hp)).trans ?_
     rw [wi_id (by omega) (by omega),i1,cond_true]
     exact fin _ (by rw [i2,wi_id (by omega) (by omega)];omega)
    ·refine (bif_n (decide_eq_false hp)).trans ?_
     rw [show (o==1)=true by simpa using h1,cond_true]
     unfold f87.j0'
     by_cases hn:x<0
     ·obtain ⟨i1,i2⟩:=tblAt (n:=-x-1) (by omega)
      have e0:wi (0-x)=-x:=by rw [wi_id (by omega) (by omega)];omega
      rw [dt hn,cond_true,e0,wi_id (by omega) (by omega),i1,cond_true]
      exact fin _ (by rw [i2,wi_id (n:=-x-1+1) (by omega) (by omega),wi_id (by omega) (by omega)];omega)
     ·rw [df hn,cond_false]
      exact fin _ rfl
   ·rw [show (o==1)=false by simpa using h1,cond_false]
    unfold f87.j1'
    rw [cond_false,show (o==1)=false by simpa using h1,cond_false]
    unfold f87.j0'
    rw [cond_false]
    exact fin _ rfl
theorem copyS (L N:Nat) (t:Tree) (hw:WT t (nodes t)) (hN:nodes t≤N) (hL:nodes t<L) (hL6:6≤L) (hs:nodes t≤1048577):f56 L N t=some t:=by
 show f56.b L N some t=_
 unfold f56.b f56.b'
 rw [swapT L N hL6,Option.bind_some,tree_eta,mapS L N N t hw hN hL hs,Option.bind_some,tree_eta]
end Go.Proofs.YthidlhjjnaldhaaGreatDoor.Ev
namespace Go.Proofs.YthidlhjjnaldhaaGreatDoor.Ev
open Go
set_option linter.unusedVariables false
set_option linter.unusedSimpArgs false
set_option maxRecDepth 20000
inductive LawC:Tree→Tree→Prop
 |here (t u:Tree) (h:LawR t u):LawC t u
 |sub (o n:Int) (ps:List Tree) (i:Nat) (hi:i<ps.length) (u:Tree) (h:LawC ps[i] u):LawC (.mk o n ps) (.mk o n (ps.set i u))
def SameC (t:Tree) (a b:Option (Tree×Bool)):Prop:=∃T T' ok,a=some (T,ok)∧b=some (T',ok)∧(ok=true→T=T'∧LawC t T)
theorem nodess_set:∀(ps:List Tree) (i:Nat) (u:Tree) (h:i<ps.length),nodess (ps.set i u)+nodes ps[i]=nodess ps+nodes u
 |p::r,0,u,_=>by simp only [List.set_cons_zero,nodess,List.getElem_cons_zero];omega
 |p::r,i+1,u,h=>by
  have:=nodess_set r i u (by simpa using h)
  simp only [List.set_cons_succ,nodess,List.getElem_cons_succ];omega
theorem nodes_sumL (c:Nat):∀l:List Tree,(∀x∈l,nodes x≤c)→nodes (sumL l)≤1+l.length*(c+1)
 |[],_=>by simp [sumL,nodes,nodess]
 |[x],h=>by have:=h x (.head _);simp only [sumL,List.length_singleton];omega
 |x::y::r,h=>by
  have h1:=h x (.head _)
  have h2:=nodes_sumL c (y::r) fun z hz=>h z (.tail _ hz)
  rw [sumL]
  simp only [nodes,nodess]
  have:(x::y::r).length*(c+1)=(y::r).length*(c+1)+(c+1):=by rw [List.length_cons,Nat.add_mul,Nat.one_mul]
  omega
theorem plain_bnd {t:Tree} {k:Nat} (h:WT t k) (hk:k≤24) (hp:CL 0 false t):Bnd 0 k (steps [] t):=by
 have:=stp_bnd 0 (fun n=>stp (fun _=>[]) (([]:List Tree).getD n.toNat (.mk 0 0 []))) 1 ⟨by omega,by omega⟩ (fun _=>True) (fun _ _ _=>⟨trivial,trivial⟩) (fun _ _ _=>⟨trivial,trivial⟩) (fun _ _ _=>trivial) (fun x h0 h1 _=>by omega) t k h hk hp trivial
 rw [Nat.one_mul] at this
 exact this
theorem lawR_size {t u:Tree} {k:Nat} (h:WT t k) (hk:k≤24) (r:LawR t u):nodes u≤20000:=by
 have hn:=h.nodes_eq
 cases r with
 |comm o a b ho=>simp only [nodes,nodess] at hn⊢;omega
 |assoc o a q r ho=>simp only [nodes,nodess] at hn⊢;omega
 |idem a=>simp only [nodes,nodess] at hn;omega
 |unit o a ho=>simp only [nodes,nodess] at hn;omega
 |hh n x a=>simp only [nodes,nodess] at hn⊢;omega
 |hs n a b=>simp only [nodes,nodess] at hn⊢;omega
 |ha n x a h=>simp only [nodes,nodess] at hn⊢;omega
 |hf n a hp h=>simp only [nodes,nodess] at hn;omega
 |exp t hp=>
  obtain ⟨b1,b2,b3⟩:=plain_bnd h hk hp
  have hl:=len_vt (steps [] t)
  have hkk:k*k≤24*24:=Nat.mul_le_mul hk hk
  have hlen:((steps [] t).map actS).length≤600:=by rw [List.length_map];omega
  have h2:=nodes_sumL 25 ((steps [] t).map actS) fun x hx=>by
   obtain ⟨s,hs,rfl⟩:=List.mem_map.1 hx
   obtain ⟨-,k',g2,g3,-⟩:=b1 s hs
   have:=g2.nodes_eq
   simp only [actS,nodes,nodess];omega
  have h3:((steps [] t).map actS).length*(25+1)≤600*26:=Nat.mul_le_mul hlen (by omega)
  omega
theorem lawC_size {t u:Tree} (r:LawC t u):∀{k:Nat},WT t k→k≤24→nodes u≤20000+k:=by
 induction r with
 |here t u h=>intro k hw hk;have:=lawR_size hw hk h;omega
 |sub o n ps i hi u h ih=>
  intro k hw hk
  have hn:=hw.nodes_eq
  have hw':WT (.mk o n ps) (nodes (.mk o n ps)):=by rw [hn];exact hw
  have hp:=(wt_mk.1 hw').2 ps[i] (List.getElem_mem hi)
  have h1:=nodes_get hi
  simp only [nodes] at hn⊢
  have h2:=ih hp (by omega)
  have h3:=nodess_set ps i u hi
  omega
section
variable (L N : Nat) (hN : 4194308 ≤ N) (hL : 8589934592 ≤ L)
include hN hL
theorem at_same (law:Int) (h0:0≤law) (h1:law<12):∀(m:Nat) (t:Tree) (k:Nat),WT t k→k≤24→k≤m→∀place:List Int,place.length≤1048577→SameC t (f51 L N m t law place) (f55 L N m t law place):=by
 intro m
 induction m with
 |zero=>intro t k h _ hm;have:=h.pos;omega
 |succ m ih=>
  intro t k h hk hm place hpl
  show SameC t (f51.b' L N (f51 L N m) (fun a0 a1=>some (a0,a1)) t law place) (f55.b' L N (f55 L N m) (fun a0 a1=>some (a0,a1)) t law place)
  unfold f51.b' f55.b'
  have hlm:=lim_eq
  cases place with
  |nil=>
   obtain ⟨T,T',ok,e1,e2,e3⟩:=law_same L N hN hL t k h hk law h0 h1
   rw [show ((([]:List Int).length:Int)==0)=true from rfl,cond_true,cond_true,tree_eta,e1,e2,Option.bind_some,Option.bind_some]
   refine ⟨T,T',ok,by rw [tree_eta],by rw [tree_eta],fun ho=>?_⟩
   obtain ⟨q1,q2⟩:=e3 ho
   exact ⟨q1,.here t T q2⟩
  |cons c r=>
   obtain ⟨o,x,ps⟩:=t
   have hn:=h.nodes_eq
   have hw:WT (.mk o x ps) (nodes (.mk o x ps)):=by rw [hn];exact h
   have hps:=(wt_mk.1 hw).2
   have hnd:nodes (.mk o x ps)=1+nodess ps:=by simp only [nodes]
   have hpn:=nodess_len ps
   have hz:(((c::r).length:Int)==0)=false:=by rw [beq_eq_false_iff_ne];simp only [List.length_cons];omega
   have hz1:(decide ((0:Int)≤0)&&decide ((0:Int)<((c::r).length:Int)))=true:=by rw [Bool.and_eq_true];exact ⟨rfl,dt (by simp only [List.length_cons];omega)⟩
   have hc:listAt (c::r) (0:Int) (0:Int).toNat=c:=rfl
   have hsl:slB 1 ((c::r).length:Int) (c::r).length=true:=by
    unfold slB
    rw [dt (by omega),dt (by simp only [List.length_cons];omega),dt (by omega)];rfl
   have hin:f54 L N c 0 (wi ((ps.length:Int)-1))=some (decide (0≤c)&&decide (c≤(ps.length:Int)-1)):=by
    show (bif decide (c≥0) then some (decide (c≤wi ((ps.length:Int)-1))) else some false)=_
    rw [wi_id (by omega) (by omega)]
    by_cases g:0≤c
    ·rw [dt (show c≥0 from g)];rfl
    ·rw [df (show ¬c≥0 from g)];rfl
   simp only [hz,hz1,hc,cond_false,cond_true,tr_op,tr_n,tr_parts,hsl,hin,Option.bind_some]
   by_cases hc0:c<0
   ·rw [dt hc0,cond_true,df (show ¬0≤c by omega)]
    exact ⟨_,_,false,rfl,rfl,fun h=>by cases h⟩
   ·rw [df hc0,cond_false]
    by_cases hc1:c≥(ps.length:Int)
    ·rw [dt hc1,cond_true,df (show ¬c≤(ps.length:Int)-1 by omega),Bool.and_false]
     exact ⟨_,_,false,rfl,rfl,fun h=>by cases h⟩
    ·obtain ⟨i,rfl⟩:=Int.eq_ofNat_of_zero_le (show 0≤c by omega)
     have hi:i<ps.length:=by omega
     have hg:=nodes_get hi
     rw [df hc1,cond_false,dt (show (0:Int)≤(i:Int) by omega),dt (show (i:Int)≤(ps.length:Int)-1 by omega)]
     unfold f51.j0'
     obtain ⟨T,T',ok,e1,e2,e3⟩:=ih ps[i] (nodes ps[i]) (hps _ (List.getElem_mem hi)) (by omega) (by omega) (slX ((i:Int)::r) 1 (((i:Int)::r).length:Int)) (by unfold slX;rw [List.length_take,List.length_drop];omega)
     have hcl:f84 L N ps=some ps:=by
      show (bif decide (0<ps.length) then (bif decide (([]:List Tree).length+ps.length≤lim) then some ([]++ps) else none) else none)=_
      rw [dt (by omega),dt (by simp only [List.length_nil];omega)];rfl
     have hls:decide (([]:List Tree).length+ps.length≤lim)=true:=dt (by simp only [List.length_nil];omega)
     simp only [lt_cast hi,le0,hsl,Bool.and_true,Bool.not_true,cond_true,cond_false,Int.toNat_natCast,at_lt hi,e1,e2,Option.bind_some,hcl,hls,List.nil_append,tree_eta]
     cases ok
     ·exact ⟨_,_,false,rfl,rfl,fun h=>by cases h⟩
     ·obtain ⟨rfl,q⟩:=e3 rfl
      exact ⟨_,_,true,rfl,(bif_n rfl).trans (bif_y hls),fun _=>⟨rfl,.sub o x ps i hi T q⟩⟩
theorem apply_same (t:Tree) (law:Int) (place:List Int) (ht:nodes t≤1048577) (hp:place.length≤1048577):
  ∃T ok,f17 L N t law place=some (T,ok)∧f18 L N t law place=some (T,ok)∧(ok=true→OkW t∧OkW T∧LawC t T)∧(ok=false→T=.mk 0 0 []):=by
 have no:∃T ok,some (Tree.mk 0 0 [],false)=some (T,ok)∧some (Tree.mk 0 0 [],false)=some (T,ok)∧(ok=true→OkW t∧OkW T∧LawC t T)∧(ok=false→T=.mk 0 0 []):=⟨.mk 0 0 [],false,rfl,rfl,fun h=>(by cases h),fun _=>rfl⟩
 show ∃T ok,f17.b' L N (fun a0 a1=>some (a0,a1)) t law place=_∧f18.b' L N (fun a0 a1=>some (a0,a1)) t law place=_∧_
 unfold f17.b' f18.b'
 rw [tree_eta,termOkI L N t ht (by omega) (by omega),termOkS L N t (by omega) (by omega) (by omega) (by omega),Option.bind_some,Option.bind_some]
 by_cases hok:OkW t
 ·rw [isB_true hok,Bool.not_true,cond_false,cond_false]
  obtain ⟨k,hk,hw⟩:=hok
  have hin:f54 L N law 0 11=some (decide (0≤law)&&decide (law≤11)):=by
   show (bif decide (law≥0) then some (decide (law≤11)) else some false)=_
   by_cases g:0≤law
   ·rw [dt (show law≥0 from g)];rfl
   ·rw [df (show ¬law≥0 from g)];rfl
  rw [hin,Option.bind_some]
  by_cases h0:law<0
  ·rw [dt h0,cond_true,df (show ¬0≤law by omega)]
   exact no
  ·rw [df h0,cond_false]
   by_cases h1:law≥12
   ·rw [dt h1,cond_true,df (show ¬law≤11 by omega),Bool.and_false]
    exact no
   ·rw [df h1,cond_false,dt (show 0≤law by omega),dt (show law≤11 by omega),Bool.and_self,Bool.not_true,cond_false]
    unfold f17.j0' f18.j0'
    obtain ⟨T,T',ok,e1,e2,e3⟩:=at_same L N hN hL law (by omega) (by omega) N t k hw hk (by omega) place hp
    rw [tree_eta,e1,e2,Option.bind_some,Option.bind_some]
    cases ok
    ·exact no
    ·obtain ⟨rfl,q⟩:=e3 rfl
     have hsz:=lawC_size q hw hk
     dsimp only
     rw [tree_eta,termOkI L N T (by omega) (by omega) (by omega),termOkS L N T (by omega) (by omega) (by omega) (by omega),Option.bind_some,Option.bind_some,Bool.not_true,cond_false,cond_false]
     by_cases hT:OkW T
     ·obtain ⟨h2,h3⟩:=okW_iff.1 hT
      rw [isB_true hT,Bool.not_true,cond_false,cond_false,copyI L N N T (by omega) (by omega) (by omega),copyS L N T h3 (by omega) (by omega) (by omega) (by omega),Option.bind_some]
      exact ⟨T,true,by rw [tree_eta],by rw [tree_eta],fun _=>⟨⟨k,hk,hw⟩,hT,q⟩,fun h=>by cases h⟩
     ·rw [isB_false hT]
      exact no
 ·rw [isB_false hok]
  exact no
end
end Go.Proofs.YthidlhjjnaldhaaGreatDoor.Ev
namespace Go.Proofs.YthidlhjjnaldhaaGreatDoor.Ev
open Go
set_option linter.unusedVariables false
set_option linter.unusedSimpArgs false
theorem less_irrefl (a:Move):lessM a a=false:=by unfold lessM;exact decide_eq_false (by omega)
theorem less_trans {a b c:Move} (h1:lessM a b=true) (h2:lessM b c=true):lessM a c=true:=by
 unfold lessM at*;have h1:=of_decide_eq_true h1;have h2:=of_decide_eq_true h2;exact decide_eq_true (by omega)
theorem less_ne {a b:Move} (h:lessM a b=true):a≠b:=fun e=>by rw [e,less_irrefl] at h;cases h
def RisesM (l:List Move):Prop:=l.Pairwise fun a b=>lessM a b=true
theorem risesM_ext:∀{a b:List Move},RisesM a→RisesM b→(∀x,x∈a↔x∈b)→a=b
 |[],[],_,_,_=>rfl
 |[],y::b,_,_,h=>absurd ((h y).2 (.head _)) (by simp)
 |x::a,[],_,_,h=>absurd ((h x).1 (.head _)) (by simp)
 |x::a,y::b,ha,hb,h=>by
  have ha':=List.pairwise_cons.1 ha
  have hb':=List.pairwise_cons.1 hb
  have hxy:x=y:=by
   rcases List.mem_cons.1 ((h x).1 (.head _)) with e|e
   ·exact e
   ·rcases List.mem_cons.1 ((h y).2 (.head _)) with e'|e'
    ·exact e'.symm
    ·have q:=less_trans (hb'.1 x e) (ha'.1 y e')
     rw [less_irrefl] at q;cases q
  subst hxy
  refine congrArg (x::·) (risesM_ext ha'.2 hb'.2 fun z=>?_)
  have:=h z
  simp only [List.mem_cons] at this
  constructor
  ·intro hz
   rcases this.1 (.inr hz) with e|e
   ·exact absurd e.symm (less_ne (ha'.1 z hz))
   ·exact e
  ·intro hz
   rcases this.2 (.inr hz) with e|e
   ·exact absurd e.symm (less_ne (hb'.1 z hz))
   ·exact e
theorem len_asc {f:Move→Int} {B:Int}:∀{l:List Move} {b:Int},(l.Pairwise fun x y=>f x<f y)→(∀x∈l,b≤f x∧f x<B)→b≤B→(l.length:Int)≤B-b
 |[],b,_,_,hb=>by simp;omega
 |x::l,b,hp,hb,hB=>by
  obtain ⟨h1,h2⟩:=List.pairwise_cons.1 hp
  obtain ⟨h3,h4⟩:=hb x (.head _)
  have:=len_asc (b:=f x+1) h2 (fun y hy=>⟨by have:=h1 y hy;omega,(hb y (.tail _ hy)).2⟩) (by omega)
  rw [List.length_cons]
  omega
theorem risesM_len {l:List Move} (hr:RisesM l) (h:∀m∈l,-4≤m.act∧m.act≤4∧0≤m.to∧m.to<60):l.length≤540:=by
 have h1:l.Pairwise fun x y=>(x.act+4)*60+x.to<(y.act+4)*60+y.to:=by
  refine List.Pairwise.imp_of_mem ?_ hr
  intro x y hx hy hxy
  unfold lessM at hxy
  have hxy:=of_decide_eq_true hxy
  have:=h x hx
  have:=h y hy
  omega
 have:=len_asc (B:=540) (b:=0) h1 (fun x hx=>by have:=h x hx;omega) (by omega)
 omega
theorem gsize_le {B:Nat}:∀{ms:List (List Move)},(∀r∈ms,r.length≤B)→gsize ms≤ms.length*B
 |[],_=>by simp [gsize]
 |r::ms,h=>by
  have h1:=h r (.head _)
  have h2:=gsize_le (B:=B) (ms:=ms) fun x hx=>h x (.tail _ hx)
  unfold gsize at h2⊢
  rw [List.map_cons,List.sum_cons,List.length_cons,Nat.add_mul,Nat.one_mul]
  omega
theorem allN_of {q:Nat→Bool} {k i:Nat} (h:∀j,i≤j→j<i+k→q j=true):allN q k i=true:=(allN_eq (q':=fun _=>true) k i h).trans (allN_true k i)
theorem graphOk_mk {ms:List (List Move)} (h1:1≤ms.length) (h2:ms.length≤60) (h:∀(i:Nat) (hi:i<ms.length),RisesM ms[i]∧∀m∈ms[i],mvOk ms.length m=true):graphOk ⟨ms⟩=true:=by
 unfold graphOk
 rw [Bool.and_eq_true]
 refine ⟨dt ⟨h1,h2⟩,allN_of fun i _ hi=>?_⟩
 have hi':i<ms.length:=by simpa using hi
 show rowOk ms.length (ms.getD i [])=true
 rw [getD_lt hi']
 obtain ⟨a1,a2⟩:=h i hi'
 refine allN_of fun k _ hk=>?_
 have hk':k<(ms[i]).length:=by simpa using hk
 unfold atOk
 rw [getD_lt hk',a2 _ (List.getElem_mem hk'),Bool.true_and]
 by_cases e:k=0
 ·rw [dt e];rfl
 ·rw [getD_lt (show k-1<(ms[i]).length by omega),List.pairwise_iff_getElem.1 a1 (k-1) k (by omega) hk' (by omega),Bool.or_true]
end Go.Proofs.YthidlhjjnaldhaaGreatDoor.Ev
namespace Go.Proofs.YthidlhjjnaldhaaGreatDoor.Ev
open Go
set_option linter.unusedVariables false
set_option linter.unusedSimpArgs false
theorem leM_iff (x y:Move):leM x y=true↔lessM x y=true∨x=y:=by
 unfold leM lessM
 obtain ⟨a,b⟩:=x
 obtain ⟨c,d⟩:=y
 simp only [decide_eq_true_eq,Move.mk.injEq]
 omega
theorem sortM_le (xs:List Move):(sortM xs).Pairwise fun a b=>leM a b=true:=by
 refine List.pairwise_mergeSort (fun a b c h1 h2=>?_) (fun a b=>?_) xs
 ·rw [leM_iff] at*
  rcases h1 with h1|rfl
  ·rcases h2 with h2|rfl
   ·exact .inl (less_trans h1 h2)
   ·exact .inl h1
  ·exact h2
 ·unfold leM
  simp only [Bool.or_eq_true,decide_eq_true_eq]
  omega
theorem getM {zs:List Move} {i:Nat} (h:i<zs.length):(zs.toArray)[i]! =zs[i]:=by simp [getElem!_pos,h]
theorem compact_rises {zs:List Move} (hs:zs.Pairwise fun a b=>leM a b=true):RisesM (Go.Lib.compact zs):=by
 unfold RisesM Go.Lib.compact Go.Lib.compactUpTo
 rw [List.pairwise_map]
 refine List.Pairwise.imp_of_mem ?_ (List.Pairwise.filter _ List.pairwise_lt_range)
 intro i j hi hj hij
 rw [List.mem_filter,List.mem_range] at hi hj
 have hjl:=hj.1
 rw [getM hi.1,getM hj.1]
 have hk:=hj.2
 unfold Go.Lib.keeps at hk
 have hk:=of_decide_eq_true hk
 have hne:zs[j]≠zs[j-1]:=by
  rcases hk with h|h
  ·omega
  ·rwa [getM hj.1,getM (show j-1<zs.length by omega)] at h
 have hlast:lessM zs[j-1] zs[j]=true:=by
  rcases (leM_iff _ _).1 (List.pairwise_iff_getElem.1 hs (j-1) j (by omega) (by omega) (by omega)) with h|h
  ·exact h
  ·exact absurd h.symm hne
 by_cases e:i=j-1
 ·subst e;exact hlast
 ·rcases (leM_iff _ _).1 (List.pairwise_iff_getElem.1 hs i (j-1) (by omega) (by omega) (by omega)) with h|h
  ·exact less_trans h hlast
  ·rw [h];exact hlast
theorem compact_mem (zs:List Move) (v:Move):v∈Go.Lib.compact zs↔v∈zs:=by
 unfold Go.Lib.compact Go.Lib.compactUpTo
 rw [List.mem_map]
 constructor
 ·rintro ⟨i,hi,rfl⟩
  rw [List.mem_filter,List.mem_range] at hi
  rw [getM hi.1];exact List.getElem_mem hi.1
 ·intro hv
  obtain ⟨i,hi,rfl⟩:=List.mem_iff_getElem.1 hv
  clear hv
  induction i with
  |zero=>exact ⟨0,by rw [List.mem_filter,List.mem_range];exact ⟨hi,by simp [Go.Lib.keeps]⟩,getM hi⟩
  |succ i ih=>
   by_cases hk:Go.Lib.keeps zs.toArray (i+1)=true
   ·exact ⟨i+1,by rw [List.mem_filter,List.mem_range];exact ⟨hi,hk⟩,getM hi⟩
   ·have:zs[i+1]=zs[i]:=by
     unfold Go.Lib.keeps at hk
     have hk:¬(i+1=0∨zs.toArray[i+1]!≠zs.toArray[i+1-1]!):=fun h=>hk (decide_eq_true h)
     have h2:=Classical.not_not.1 (fun h=>hk (.inr h))
     rw [getM hi,Nat.add_sub_cancel,getM (show i<zs.length by omega)] at h2
     exact h2
    rw [this]
    exact ih (by omega)
theorem tidyM_rises (xs:List Move):RisesM (tidyM xs):=compact_rises (sortM_le xs)
theorem tidyM_mem (xs:List Move) (v:Move):v∈tidyM xs↔v∈xs:=(compact_mem _ v).trans (sortM_mem xs v)
theorem fsortM_some {xs:List Move} (h:xs.length≤1099511627776):fsortM xs=some ():=by
 unfold fsortM;rw [show decide (xs.length≤lim)=true from decide_eq_true (by rw [lim_eq];exact h)];rfl
end Go.Proofs.YthidlhjjnaldhaaGreatDoor.Ev
namespace Go.Proofs.YthidlhjjnaldhaaGreatDoor.Ev
open Go
set_option linter.unusedVariables false
set_option linter.unusedSimpArgs false
theorem key_str (x y:ByteArray):keyEq .str x y=decide (x=y):=by
 show (x==y)=_
 rw [Bool.eq_iff_iff,decide_eq_true_eq]
 obtain ⟨a⟩:=x
 obtain ⟨b⟩:=y
 show (a==b)=true↔_
 rw [beq_iff_eq]
 exact ⟨fun h=>by rw [h],fun h=>congrArg ByteArray.data h⟩
theorem find_put {α:Ty} (x y:ByteArray) (v:α.den):∀es:List (ByteArray×α.den),mapFind .str α x (mapPut .str α y v es)=if y=x then some v else mapFind .str α x es
 |[]=>by
  show (bif keyEq .str x y then some v else none)=_
  rw [key_str]
  by_cases e:y=x
  ·rw [if_pos e,dt e.symm];rfl
  ·rw [if_neg e,df fun h=>e h.symm];rfl
 |(k,u)::r=>by
  have ih:=find_put (α:=α) x y v r
  have h1:mapPut .str α y v ((k,u)::r)=(bif keyEq .str y k then (y,v)::r else (k,u)::mapPut .str α y v r):=rfl
  have h2:∀(k:ByteArray) (u:α.den) (r:List (ByteArray×α.den)),mapFind .str α x ((k,u)::r)=(bif keyEq .str x k then some u else mapFind .str α x r):=fun _ _ _=>rfl
  rw [h1,key_str]
  by_cases e:y=k
  ·rw [dt e,cond_true,h2,h2,key_str,key_str]
   by_cases e2:y=x
   ·rw [if_pos e2,dt e2.symm,cond_true]
   ·rw [if_neg e2,df fun h=>e2 h.symm,cond_false,df fun h=>e2 (e.trans h.symm),cond_false]
  ·rw [df e,cond_false,h2,h2,key_str,ih]
   by_cases e2:y=x
   ·rw [if_pos e2,df fun h=>e (e2.trans h),cond_false,if_pos e2]
   ·rw [if_neg e2,if_neg e2]
def PlacesT (S:List Tree) (es:List (ByteArray×Int)):Prop:=∀x:List UInt8,mapFind .str i64 ⟨x.toArray⟩ es=if x∈S.map ttx then some (((S.map ttx).idxOf x:Nat):Int) else none
theorem PlacesT.add {S:List Tree} {es:List (ByteArray×Int)} (h:PlacesT S es) {t:Tree} (hn:ttx t∉S.map ttx):PlacesT (S++[t]) (mapPut .str i64 (txB t) ((S.length:Nat):Int) es):=by
 intro x
 rw [find_put (α:=i64),List.map_append,List.map_singleton]
 have hte:txB t=⟨x.toArray⟩↔ttx t=x:=by
  unfold txB
  exact ⟨fun h=>by have h1:(ttx t).toArray=x.toArray:=congrArg ByteArray.data h;simpa using h1,fun h=>by rw [h]⟩
 by_cases e:ttx t=x
 ·subst e
  rw [if_pos (hte.2 rfl),if_pos (by simp),List.idxOf_append,if_neg hn]
  simp
 ·rw [if_neg (fun h=>e (hte.1 h)),h x]
  by_cases hm:x∈S.map ttx
  ·rw [if_pos hm,if_pos (List.mem_append_left _ hm),List.idxOf_append,if_pos hm]
  ·rw [if_neg hm,if_neg (by rw [List.mem_append,List.mem_singleton];exact fun h=>h.elim hm fun h=>e h.symm)]
theorem PlacesT.nil:PlacesT [] []:=fun x=>by rw [if_neg (by simp)];rfl
def stepT:List Step→List Tree→List Move→Option (List Tree×List Move)
 |[],S,M=>some (S,M)
 |s::st,S,M=>if ttx s.thn∉S.map ttx∧(S.length=60∨nodes s.thn>24) then none else stepT st (if ttx s.thn∈S.map ttx then S else S++[s.thn]) (M++[⟨s.act,(((S.map ttx).idxOf (ttx s.thn):Nat):Int)⟩])
theorem stepT_grow:∀(st:List Step) (S:List Tree) (M:List Move) (S':List Tree) (M':List Move),stepT st S M=some (S',M')→
  (∃T,S'=S++T)∧(S.length≤60→S'.length≤60)∧(∀x∈S',x∈S∨∃s∈st,x=s.thn∧nodes x≤24)∧(∀s∈st,ttx s.thn∈S'.map ttx)∧M'=M++st.map fun s=>⟨s.act,(((S'.map ttx).idxOf (ttx s.thn):Nat):Int)⟩
 |[],S,M,S',M',h=>by
  obtain ⟨rfl,rfl⟩:=Prod.mk.inj (Option.some.inj h)
  exact ⟨⟨[],by simp⟩,fun h=>h,fun x hx=>.inl hx,fun s hs=>(by cases hs),by simp⟩
 |s::st,S,M,S',M',h=>by
  unfold stepT at h
  split at h
  ·cases h
  ·rename_i hc
   obtain ⟨⟨T,e1⟩,e2,e3,e4,e5⟩:=stepT_grow st _ _ S' M' h
   have hin:ttx s.thn∈(if ttx s.thn∈S.map ttx then S else S++[s.thn]).map ttx∧((if ttx s.thn∈S.map ttx then S else S++[s.thn]).map ttx).idxOf (ttx s.thn)=(S.map ttx).idxOf (ttx s.thn):=by
    by_cases hm:ttx s.thn∈S.map ttx
    ·rw [if_pos hm];exact ⟨hm,rfl⟩
    ·rw [if_neg hm,List.map_append,List.map_singleton]
     refine ⟨by simp,?_⟩
     rw [List.idxOf_append,if_neg hm,List.idxOf_eq_length hm];simp
   have hS':ttx s.thn∈S'.map ttx:=by rw [e1,List.map_append];exact List.mem_append_left _ hin.1
   have hi:(S'.map ttx).idxOf (ttx s.thn)=(S.map ttx).idxOf (ttx s.thn):=by rw [e1,List.map_append,List.idxOf_append,if_pos hin.1,hin.2]
   refine ⟨?_,fun h60=>e2 ?_,fun x hx=>?_,fun y hy=>?_,?_⟩
   ·by_cases hm:ttx s.thn∈S.map ttx
    ·rw [if_pos hm] at e1;exact ⟨T,e1⟩
    ·rw [if_neg hm] at e1;exact ⟨[s.thn]++T,by rw [e1,List.append_assoc]⟩
   ·by_cases hm:ttx s.thn∈S.map ttx
    ·rw [if_pos hm];exact h60
    ·rw [if_neg hm,List.length_append,List.length_singleton]
     have:S.length≠60:=fun h=>hc ⟨hm,.inl h⟩
     omega
   ·rcases e3 x hx with q|⟨y,hy,q⟩
    ·by_cases hm:ttx s.thn∈S.map ttx
     ·rw [if_pos hm] at q;exact .inl q
     ·rw [if_neg hm] at q
      rcases List.mem_append.1 q with q|q
      ·exact .inl q
      ·have hx':=List.mem_singleton.1 q
       refine .inr ⟨s,.head _,hx',?_⟩
       rw [hx']
       exact Nat.not_lt.1 fun h=>hc ⟨hm,.inr h⟩
    ·exact .inr ⟨y,.tail _ hy,q⟩
   ·rcases List.mem_cons.1 hy with rfl|hy
    ·exact hS'
    ·exact e4 y hy
   ·rw [e5,List.map_cons,hi,List.append_assoc];rfl
theorem inTI {R:Type} (L N:Nat) (hN:1000≤N) (ds:List Tree) (i:Int) (st:List Step) (r1 rows:List (List Move))
  (Ke:List Tree→Int→List Tree→List (ByteArray×Int)→List Move→List (List Move)→List (List Move)→Option R) (Kr:List Tree→Bool→Int→List Tree→List (ByteArray×Int)→List Move→List (List Move)→List (List Move)→Option R)
  (hst:∀s∈st,∃k,WT s.thn k∧k≤24) (hsl:st.length≤400000):
  ∀(n j:Nat) (S:List Tree) (es:List (ByteArray×Int)) (M:List Move),j≤st.length→st.length-j<n→PlacesT S es→S.length≤60→M.length≤j→
   match stepT (st.drop j) S M with
   |some (S',M')=>∃es',PlacesT S' es'∧f104_1.l1 L N Ke Kr n ds i (st.map Step.act) (st.map Step.thn) ((st.map Step.thn).length:Int) (j:Int) S es M r1 rows=Ke ds i S' es' M' r1 rows
   |none=>∃S' es' M',f104_1.l1 L N Ke Kr n ds i (st.map Step.act) (st.map Step.thn) ((st.map Step.thn).length:Int) (j:Int) S es M r1 rows=Kr ds false i S' es' M' r1 rows:=by
 have hlim:=lim_eq
 intro n
 induction n with
 |zero=>intro j S es M _ h;omega
 |succ n ih=>
  intro j S es M hj hn hp hS hM
  have hu:f104_1.l1 L N Ke Kr (n+1) ds i (st.map Step.act) (st.map Step.thn) ((st.map Step.thn).length:Int) (j:Int) S es M r1 rows=f104_1.s1 L N Ke Kr (f104_1.l1 L N Ke Kr n) ds i (st.map Step.act) (st.map Step.thn) ((st.map Step.thn).length:Int) (j:Int) S es M r1 rows:=rfl
  rw [hu]
  unfold f104_1.s1 f104_1.s1'
  by_cases hlt:j<st.length
  ·obtain ⟨k,hw,hk⟩:=hst _ (List.getElem_mem hlt)
   have htx:=textI L N (st[j]).thn k hw (by omega) N (by omega)
   have hlt1:j<(st.map Step.thn).length:=by rw [List.length_map];exact hlt
   have hlt2:j<(st.map Step.act).length:=by rw [List.length_map];exact hlt
   have hat:(st.map Step.thn)[j]=(st[j]).thn:=List.getElem_map _
   have hact:(st.map Step.act)[j]=(st[j]).act:=List.getElem_map _
   have hf:mapFind .str i64 (txB (st[j]).thn) es=_:=hp (ttx (st[j]).thn)
   have h24:¬nodes (st[j]).thn>24:=by rw [hw.nodes_eq];omega
   rw [List.drop_eq_getElem_cons hlt]
   simp only [lt_cast hlt1,le0,Bool.and_true,cond_true,Int.toNat_natCast,at_lt hlt1,hat,tree_eta,htx,Option.bind_some,hf]
   have put:∀(S2:List Tree) (es2:List (ByteArray×Int)) (q:Nat),PlacesT S2 es2→S2.length≤60→match stepT (st.drop (j+1)) S2 (M++[⟨(st[j]).act,(q:Int)⟩]) with
     |some (S',M')=>∃es',PlacesT S' es'∧f104_1.j0' L N Ke Kr (f104_1.l1 L N Ke Kr n) ds i (st.map Step.act) (j:Int) (q:Int) (st.map Step.thn) ((st.map Step.thn).length:Int) (j:Int) S2 es2 M r1 rows=Ke ds i S' es' M' r1 rows
     |none=>∃S' es' M',f104_1.j0' L N Ke Kr (f104_1.l1 L N Ke Kr n) ds i (st.map Step.act) (j:Int) (q:Int) (st.map Step.thn) ((st.map Step.thn).length:Int) (j:Int) S2 es2 M r1 rows=Kr ds false i S' es' M' r1 rows:=by
    intro S2 es2 q hp2 h2
    unfold f104_1.j0'
    have hle:decide (M.length+([Move.mk (st[j]).act (q:Int)]:List Move).length≤lim)=true:=dt (by simp only [List.length_cons,List.length_nil];omega)
    simp only [lt_cast hlt2,le0,Bool.and_true,cond_true,Int.toNat_natCast,at_lt hlt2,hact,hle]
    rw [wi_nat (by omega)]
    exact ih (j+1) S2 es2 _ (by omega) (by omega) hp2 h2 (by simp;omega)
   unfold stepT
   by_cases hm:ttx (st[j]).thn∈S.map ttx
   ·rw [if_neg (fun h=>h.1 hm),if_pos hm]
    simp only [if_pos hm,Option.isSome_some,Bool.not_true,cond_false,Option.getD_some]
    exact put S es _ hp hS
   ·have hx:(S.map ttx).idxOf (ttx (st[j]).thn)=S.length:=by rw [List.idxOf_eq_length hm,List.length_map]
    rw [hx]
    simp only [if_neg hm,Option.isSome_none,Bool.not_false,cond_true]
    by_cases h60:S.length=60
    ·rw [if_pos ⟨hm,.inl h60⟩,show (((S.length:Nat):Int)==60)=true by rw [h60];rfl,cond_true]
     exact ⟨_,_,_,rfl⟩
    ·have hle1:decide (S.length+([(st[j]).thn]:List Tree).length≤lim)=true:=dt (by simp only [List.length_cons,List.length_nil];omega)
     rw [if_neg (fun h=>h.2.elim h60 h24),show (((S.length:Nat):Int)==60)=false by simp;omega,cond_false,hle1,cond_true]
     exact put (S++[(st[j]).thn]) _ S.length (hp.add hm) (by simp;omega)
  ·have hlt1:¬j<(st.map Step.thn).length:=by rw [List.length_map];exact hlt
   rw [ge_cast hlt1,cond_false,List.drop_eq_nil_of_le (by omega)]
   exact ⟨es,hp,rfl⟩
theorem movesT (L N:Nat) (hN:100000≤N) (hL:1000002<L) (ds:List Tree) (hd:DefsW ds) (t:Tree) (k:Nat) (h:WT t k) (hk:k≤24) (hcl:CL (ds.length:Int) false t):
  ((∃s∈steps ds t,nodes s.thn>24)∧f105_1 L N t ds=some ([],[],false))∨((∀s∈steps ds t,nodes s.thn≤24)∧f105_1 L N t ds=some ((steps ds t).map Step.act,(steps ds t).map Step.thn,true)):=by
 have hlim:=lim_eq
 have hst:=stepsI L N (by omega) ds hd t k h hk hcl N (by omega)
 have hb:=steps_bnd ds hd t k h hk hcl
 have hlen:=hb.len (Nat.le_refl _)
 generalize hS:steps ds t=st at*
 have key:∀(n i:Nat),i≤st.length→st.length-i<n→(∀s∈st.take i,nodes s.thn≤24)→
   ((∃s∈st,nodes s.thn>24)∧f105_1.l0 L N (fun z6 z7=>f105_1.p0_e0 L N (fun a0 a1 a2=>some (a0,a1,a2)) z6 z7) (fun z9 z10 z11=>f105_1.p0_r L N (fun a0 a1 a2=>some (a0,a1,a2)) z9 z10 z11) n (st.length:Int) (i:Int) ((st.take i).map Step.act) ((st.take i).map Step.thn) st=some ([],[],false))∨
   ((∀s∈st,nodes s.thn≤24)∧f105_1.l0 L N (fun z6 z7=>f105_1.p0_e0 L N (fun a0 a1 a2=>some (a0,a1,a2)) z6 z7) (fun z9 z10 z11=>f105_1.p0_r L N (fun a0 a1 a2=>some (a0,a1,a2)) z9 z10 z11) n (st.length:Int) (i:Int) ((st.take i).map Step.act) ((st.take i).map Step.thn) st=some (st.map Step.act,st.map Step.thn,true)):=by
  intro n
  induction n with
  |zero=>intro i _ h;omega
  |succ n ih=>
   intro i hi hn hall
   have hu:∀(a:List Int) (b:List Tree),f105_1.l0 L N (fun z6 z7=>f105_1.p0_e0 L N (fun a0 a1 a2=>some (a0,a1,a2)) z6 z7) (fun z9 z10 z11=>f105_1.p0_r L N (fun a0 a1 a2=>some (a0,a1,a2)) z9 z10 z11) (n+1) (st.length:Int) (i:Int) a b st=f105_1.s0 L N (fun z6 z7=>f105_1.p0_e0 L N (fun a0 a1 a2=>some (a0,a1,a2)) z6 z7) (fun z9 z10 z11=>f105_1.p0_r L N (fun a0 a1 a2=>some (a0,a1,a2)) z9 z10 z11) (f105_1.l0 L N (fun z6 z7=>f105_1.p0_e0 L N (fun a0 a1 a2=>some (a0,a1,a2)) z6 z7) (fun z9 z10 z11=>f105_1.p0_r L N (fun a0 a1 a2=>some (a0,a1,a2)) z9 z10 z11) n) (st.length:Int) (i:Int) a b st:=fun _ _=>rfl
   rw [hu]
   unfold f105_1.s0 f105_1.s0'
   by_cases hlt:i<st.length
   ·obtain ⟨-,k',hw',hk',-⟩:=hb.1 _ (List.getElem_mem hlt)
    have hnd:=hw'.nodes_eq
    obtain ⟨r,e,hr⟩:=tn_great L N (st[i]).thn 24 (by omega) (by omega) (by omega) (by omega)
    have e':f81 L N N (st[i]).thn (24:Int)=some r:=e
    simp only [lt_cast hlt,le0,Bool.and_true,cond_true,Int.toNat_natCast,at_lt hlt,tree_eta,e',Option.bind_some]
    by_cases hgt:nodes (st[i]).thn>24
    ·rw [dt (show r>24 from hr.2 hgt),cond_true]
     exact .inl ⟨⟨_,List.getElem_mem hlt,hgt⟩,rfl⟩
    ·have hle1:decide (((st.take i).map Step.act).length+([(st[i]).act]:List Int).length≤lim)=true:=dt (by simp;omega)
     have hle2:decide (((st.take i).map Step.thn).length+([(st[i]).thn]:List Tree).length≤lim)=true:=dt (by simp;omega)
     have ht:st.take (i+1)=st.take i++[st[i]]:=by rw [List.take_add_one,List.getElem?_eq_getElem hlt];rfl
     have a1:(st.take i).map Step.act++[(st[i]).act]=(st.take (i+1)).map Step.act:=by rw [ht,List.map_append];rfl
     have a2:(st.take i).map Step.thn++[(st[i]).thn]=(st.take (i+1)).map Step.thn:=by rw [ht,List.map_append];rfl
     rw [df (show ¬r>24 from fun h=>hgt (hr.1 h)),cond_false,hle1,cond_true,hle2,cond_true,a1,a2,wi_nat (by omega)]
     refine ih (i+1) (by omega) (by omega) fun s hs=>?_
     rw [ht] at hs
     rcases List.mem_append.1 hs with h|h
     ·exact hall s h
     ·rw [List.mem_singleton.1 h];omega
   ·rw [ge_cast hlt,cond_false,List.take_of_length_le (by omega)]
    rw [List.take_of_length_le (by omega)] at hall
    exact .inr ⟨hall,rfl⟩
 have hb0:f105_1 L N t ds=f105_1.l0 L N (fun z6 z7=>f105_1.p0_e0 L N (fun a0 a1 a2=>some (a0,a1,a2)) z6 z7) (fun z9 z10 z11=>f105_1.p0_r L N (fun a0 a1 a2=>some (a0,a1,a2)) z9 z10 z11) L (st.length:Int) (0:Int) [] [] st:=by
  show f105_1.b L N (fun a0 a1 a2=>some (a0,a1,a2)) t ds=_
  unfold f105_1.b f105_1.b'
  rw [tree_eta,hst,Option.bind_some]
 rw [hb0]
 exact key L 0 (by omega) (by omega) (fun s hs=>by simp at hs)
def GoodT (ds:List Tree) (S:List Tree) (rows:List (List Move)):Prop:=
 ∀(j:Nat) (hj:j<rows.length),(∀s∈steps ds (S.getD j (.mk 0 0 [])),ttx s.thn∈S.map ttx)∧rows[j]=tidyM ((steps ds (S.getD j (.mk 0 0 []))).map fun s=>⟨s.act,(((S.map ttx).idxOf (ttx s.thn):Nat):Int)⟩)
theorem GoodT.grow {ds S T:List Tree} {rows:List (List Move)} (h:GoodT ds S rows) (hl:rows.length≤S.length):GoodT ds (S++T) rows:=fun j hj=>by
 obtain ⟨h1,h2⟩:=h j hj
 have e:(S++T).getD j (.mk 0 0 [])=S.getD j (.mk 0 0 []):=by
  rw [List.getD_eq_getElem?_getD,List.getD_eq_getElem?_getD,List.getElem?_append_left (by omega)]
 rw [e,List.map_append]
 refine ⟨fun s hs=>List.mem_append_left _ (h1 s hs),?_⟩
 rw [h2]
 exact congrArg tidyM (List.map_congr_left fun s hs=>by rw [List.idxOf_append,if_pos (h1 s hs)])
def FitS (ds:List Tree) (t:Tree):Prop:=∃k,k≤24∧WT t k∧CL (ds.length:Int) false t
structure TermIn (ds:List Tree) (t:Tree) (S:List Tree) (rows:List (List Move)):Prop where
 defs:DefsW ds
 len:rows.length=S.length
 len60:S.length≤60
 pos:1≤S.length
 first:S.getD 0 (.mk 0 0 [])=t
 good:GoodT ds S rows
 fits:∀x∈S,FitS ds x
end Go.Proofs.YthidlhjjnaldhaaGreatDoor.Ev
namespace Go.Proofs.YthidlhjjnaldhaaGreatDoor.Ev
open Go
set_option linter.unusedVariables false
set_option linter.unusedSimpArgs false
def Tr (l:List Bool) (t:Nat):Prop:=l.getD t false=true
theorem Tr_set {l:List Bool} {j t:Nat} (hj:j<l.length):Tr (l.set j true) t↔t=j∨Tr l t:=by
 unfold Tr
 rw [List.getD_eq_getElem?_getD,List.getD_eq_getElem?_getD]
 by_cases h:t=j
 ·subst h;rw [List.getElem?_set_self hj];simp
 ·rw [List.getElem?_set_ne (Ne.symm h)];simp [h]
def cnt:List Bool→Nat
 |[]=>0
 |b::r=>(bif b then 1 else 0)+cnt r
theorem cnt_le:∀l:List Bool,cnt l≤l.length
 |[]=>Nat.le_refl _
 |b::r=>by have:=cnt_le r;cases b<;>simp [cnt]<;>omega
theorem cnt_set:∀(l:List Bool) (j:Nat),j<l.length→l.getD j false=false→cnt (l.set j true)=cnt l+1
 |b::r,0,_,h=>by
  have hb:b=false:=h
  subst hb
  simp [cnt];omega
 |b::r,j+1,hj,h=>by
  have:=cnt_set r j (by simpa using hj) (by simpa using h)
  simp only [List.set_cons_succ,cnt,this];omega
inductive Slip (ms:List (List Move)) (X:Nat→Prop):Nat→Prop
 |base (t:Nat) (h:X t):Slip ms X t
 |step (s t:Nat) (hs:Slip ms X s) (hl:s<ms.length) (k:Nat) (hk:k<(ms[s]).length) (ha:(ms[s])[k].act=0) (ht:(ms[s])[k].to=(t:Int)):Slip ms X t
theorem Slip.mono {ms:List (List Move)} {X Y:Nat→Prop} (h:∀t,X t→Y t) {t:Nat} (r:Slip ms X t):Slip ms Y t:=by
 induction r with
 |base t hx=>exact .base t (h t hx)
 |step s t _ hl k hk ha ht ih=>exact .step s t ih hl k hk ha ht
def Leads (ms:List (List Move)):Prop:=ms.length≤60∧∀(i:Nat) (hi:i<ms.length),(ms[i]).length≤1048576∧∀(k:Nat) (hk:k<(ms[i]).length),0≤(ms[i])[k].to∧(ms[i])[k].to<(ms.length:Int)
theorem leads_of {g:Graph} (h:graphOk g=true) (hs:g.moves.length+gsize g.moves≤1048576):Leads g.moves:=by
 obtain ⟨h1,h2,h3⟩:=graphOk_mv h
 refine ⟨h2,fun i hi=>⟨?_,fun k hk=>?_⟩⟩
 ·have:=gsize_row _ (List.getElem_mem hi);omega
 ·have:=h3 i hi k hk;exact ⟨this.2.2.1,this.2.2.2⟩
theorem Leads.nat {ms:List (List Move)} (h:Leads ms) {i:Nat} (hi:i<ms.length) {k:Nat} (hk:k<(ms[i]).length):∃t:Nat,(ms[i])[k].to=(t:Int)∧t<ms.length:=by
 obtain ⟨h1,h2⟩:=(h.2 i hi).2 k hk
 obtain ⟨t,ht⟩:=Int.eq_ofNat_of_zero_le h1
 exact ⟨t,ht,by omega⟩
def Mv (ms:List (List Move)) (s:Nat) (a:Int) (t:Nat):Prop:=∃(hs:s<ms.length) (k:Nat) (hk:k<(ms[s]).length),(ms[s])[k].act=a∧(ms[s])[k].to=(t:Int)
theorem Mv.lt {ms:List (List Move)} (hm:Leads ms) {s t:Nat} {a:Int} (h:Mv ms s a t):s<ms.length∧t<ms.length:=by
 obtain ⟨hs,k,hk,-,ht⟩:=h
 have:=(hm.2 s hs).2 k hk
 exact ⟨hs,by omega⟩
end Go.Proofs.YthidlhjjnaldhaaGreatDoor.Ev
