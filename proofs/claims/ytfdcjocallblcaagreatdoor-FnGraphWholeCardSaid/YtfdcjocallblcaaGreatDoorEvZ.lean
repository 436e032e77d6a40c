/- What plain laws lean on: numbers, conditions, loops, trees. No conditions but those that each states. -/
import Derived.Test.YtfdcjocallblcaaGreatDoorEvY
import Derived.IntWalk
namespace Go.Proofs.YtfdcjocallblcaaGreatDoor.Ev
open Go
theorem wi_id {n:Int} (h:-9223372036854775808≤n) (h':n≤9223372036854775807):wi n=n:=by
 have h64:(2:Int)^64=18446744073709551616:=by decide
 have h63:(2:Int)^(64-1)=9223372036854775808:=by decide
 unfold wi IntKind.wrap
 simp only [IntKind.bits,IntKind.signed,h64,h63,Bool.true_and,decide_eq_true_eq]
 split<;>omega
theorem wi_nat {n:Nat} (h:n<9223372036854775807):wi ((n:Int)+1)=((n+1:Nat):Int):=by
 rw [wi_id (by omega) (by omega)];rfl
theorem at_lt {α:Type} {xs:List α} {d:α} {i:Nat} (h:i<xs.length):listAt xs d i=xs[i]:=by
 unfold listAt
 rw [List.getD_eq_getElem?_getD,List.getElem?_eq_getElem h];rfl
theorem dt {p:Prop} [Decidable p] (h:p):decide p=true:=decide_eq_true h
theorem df {p:Prop} [Decidable p] (h:¬p):decide p=false:=decide_eq_false h
theorem lt_cast {i n:Nat} (h:i<n):decide ((i:Int)<(n:Int))=true:=dt (by omega)
theorem ge_cast {i n:Nat} (h:¬i<n):decide ((i:Int)<(n:Int))=false:=df (by omega)
theorem le0 {i:Nat}:decide ((0:Int)≤(i:Int))=true:=dt (by omega)
theorem bif_t2 {p q:Prop} [Decidable p] [Decidable q] {α:Type} {a b:α} (h:p) (h':q):(bif decide p&&decide q then a else b)=a:=by rw [dt h,dt h'];rfl
theorem mk_eta (t:Tree):Tree.mk t.op t.n t.parts=t:=by cases t;rfl
theorem take_set {α:Type} {x ys:List α} {i:Nat} (hi:i<x.length) (hy:ys.length=x.length) (h:ys.take i=x.take i):(ys.set i (x[i])).take (i+1)=x.take (i+1):=by
 apply List.ext_getElem?
 intro j
 rw [List.getElem?_take,List.getElem?_take]
 by_cases hj:j<i+1
 ·rw [if_pos hj,if_pos hj]
  by_cases he:j=i
  ·subst he
   rw [List.getElem?_set_self (by omega),List.getElem?_eq_getElem hi]
  ·rw [List.getElem?_set_ne (by omega)]
   have:=congrArg (fun l=>l[j]?) h
   simpa [List.getElem?_take,show j<i by omega] using this
 ·rw [if_neg hj,if_neg hj]
def allN (q:Nat→Bool):Nat→Nat→Bool
 |0,_=>true
 |k+1,i=>q i&&allN q k (i+1)
theorem all_loop {R:Type} {l:Nat→Int→Option R} {len:Nat} {q:Nat→Bool} {rt rf:Option R}
  (hstep:∀n i:Nat,i<len→l (n+1) i=bif q i then l n ((i+1:Nat):Int) else rf) (hend:∀n:Nat,l (n+1) (len:Int)=rt):
  ∀n i:Nat,len-i<n→i≤len→l n (i:Int)=bif allN q (len-i) i then rt else rf:=by
 intro n
 induction n with
 |zero=>intro i h;omega
 |succ n ih=>
  intro i h hi
  by_cases hlt:i<len
  ·rw [hstep n i hlt,show len-i=(len-(i+1))+1 by omega]
   unfold allN
   cases q i
   ·rfl
   ·simp only [cond_true,Bool.true_and]
    exact ih (i+1) (by omega) (by omega)
  ·have hi':i=len:=by omega
   subst hi'
   rw [hend,Nat.sub_self];rfl
theorem inv_loop {R σ:Type} {l:Nat→Int→σ→Option R} {len:Nat} {K:σ→Option R} (P:Nat→σ→Prop)
  (hstep:∀(n i:Nat) (s:σ),i<len→P i s→∃s',l (n+1) i s=l n ((i+1:Nat):Int) s'∧P (i+1) s') (hend:∀(n:Nat) (s:σ),P len s→l (n+1) (len:Int) s=K s):
  ∀(n i:Nat) (s:σ),len-i<n→i≤len→P i s→∃s',l n (i:Int) s=K s'∧P len s':=by
 intro n
 induction n with
 |zero=>intro i s h;omega
 |succ n ih=>
  intro i s h hi hP
  by_cases hlt:i<len
  ·obtain ⟨s',h1,h2⟩:=hstep n i s hlt hP
   rw [h1]
   exact ih (i+1) s' (by omega) (by omega) h2
  ·have hi':i=len:=by omega
   subst hi'
   exact ⟨s,hend n s hP,hP⟩
theorem allN_get {q:Nat→Bool}:∀(k i:Nat),allN q k i=true→∀j,i≤j→j<i+k→q j=true
 |0,i,_,j,h1,h2=>by omega
 |k+1,i,h,j,h1,h2=>by
  unfold allN at h
  simp only [Bool.and_eq_true] at h
  by_cases e:j=i
  ·subst e;exact h.1
  ·exact allN_get k (i+1) h.2 j (by omega) (by omega)
theorem allN_eq {q q':Nat→Bool}:∀(k i:Nat),(∀j,i≤j→j<i+k→q j=q' j)→allN q k i=allN q' k i
 |0,_,_=>rfl
 |k+1,i,h=>by
  unfold allN
  rw [h i (by omega) (by omega),allN_eq k (i+1) fun j h1 h2=>h j (by omega) (by omega)]
theorem lim_eq:lim=1099511627776:=rfl
end Go.Proofs.YtfdcjocallblcaaGreatDoor.Ev
