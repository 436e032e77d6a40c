/- strconv.Itoa at numbers from 0 to 99: what it tells, out of the library's contract. Condition: the contract. -/
import Derived.Test.YtfdcjocallblcaaGreatDoorEvSort
import Derived.Lib.ItoaNum
namespace Go.Proofs.YtfdcjocallblcaaGreatDoor.Ev
open Go
def itoaB (n:Int):ByteArray:=⟨(Lib.decDigits n.toNat).toArray⟩
def fitoa (n:Int):Option ByteArray:=bif decide (0≤n)&&decide (n<100) then some (itoaB n) else none
def itoaEnt (args:List AV) (vw:View) (_:Nat):Ans:=match roD [i64] vw args with
 |some d=>⟨ByteArray,fitoa d.1,fun y=>(.tv .str y,[],[])⟩
 |none=>Ans.no
theorem itoa_ok {P:Program} {k:Nat} (hc:Callable P k)
  (hi:∀(i:Nat),i<100→∀w:World,Calls P k #[.int .i64 i] w fun e w'=>e=.returned (.string ⟨(Lib.decDigits i).toArray⟩)∧w'=w):EntOk P k itoaEnt:=by
 intro args vw site h
 unfold itoaEnt
 split
 ·rename_i d ha
  intro y hy hs
  refine ⟨hc,?_⟩
  intro _ σ w cargs inv r
  obtain ⟨l,hl,hd⟩:=roD_some ha
  obtain ⟨r0,hn⟩:=roArgs_rep hs inv hl r
  replace r0:=densOf_rep hd r0
  obtain ⟨n,u⟩:=d
  have hy':fitoa n=some y:=hy
  unfold fitoa at hy'
  obtain ⟨h1,h2⟩:=cond_some hy'
  rw [Bool.and_eq_true,decide_eq_true_eq,decide_eq_true_eq] at h1
  obtain rfl:=Option.some.inj h2
  obtain ⟨i,rfl⟩:=Int.eq_ofNat_of_zero_le h1.1
  match hca:cargs.toList,r0 with
  |[c],r0=>
   have hcargs:cargs=#[c]:=by rw [←Array.toArray_toList (xs:=cargs),hca]
   have hcv:c=.int .i64 (i:Int):=by
    obtain ⟨hr,-⟩:=r0.1
    cases hr
    rfl
   rw [hcargs,hcv]
   refine (hi i (by omega) w).mono ?_
   rintro e w' ⟨rfl,rfl⟩
   have hg:w'.grownBy w' none:=⟨rfl,rfl,rfl,Nat.le_refl _,fun _ _ _=>rfl⟩
   exact ⟨_,σ,rfl,ext_grown hg,inv_grown inv hg,⟨.str _,trivial⟩,fun a c _ r=>keep_grown inv hg r⟩
  |[],r0=>exact r0.elim
  |_::_::_,r0=>exact r0.2.elim
 ·intro y hy;cases hy
end Go.Proofs.YtfdcjocallblcaaGreatDoor.Ev
