/- slices.Sort at []int on a row of the caller's own: what it tells, out of the library's contract. Condition: the contract. -/
import Derived.Test.YtfdcjocallblcaaGreatDoorEvY
import Derived.Sort.Row
import Derived.Sort.Grow
namespace Go.Proofs.YtfdcjocallblcaaGreatDoor.Ev
open Go
def sortI (xs:List Int):List Int:=xs.mergeSort fun x y=>decide (x≤y)
theorem sortI_length (xs:List Int):(sortI xs).length=xs.length:=List.length_mergeSort xs
theorem sortI_mem (xs:List Int) (x:Int):x∈sortI xs↔x∈xs:=List.mem_mergeSort
def fsort (xs:List Int):Option Unit:=bif decide (xs.length≤lim) then some () else none
def sortRow (o:Nat):Option Obj→Option (Nat×Nat×List Int)
 |some (.row el k xs)=>if h:k=i64 then some (o,el,(h▸xs:List (Ty.den i64))) else none
 |_=>none
def sortArg (vw:View):List AV→Option (Nat×Nat×List Int)
 |a::r=>match a with
  |.row o=>match r with
   |[]=>sortRow o (vw o)
   |_=>none
  |_=>none
 |[]=>none
theorem sortArg_some {vw:View} {args:List AV} {o el:Nat} {xs:List Int} (e:sortArg vw args=some (o,el,xs)):args=[.row o]∧vw o=some (.row el i64 xs):=by
 unfold sortArg at e
 split at e
 ·rename_i a r
  split at e
  ·rename_i o'
   split at e
   ·unfold sortRow at e
    split at e
    ·rename_i el' k xs' hg
     split at e
     ·rename_i hk
      subst hk
      obtain ⟨rfl,rfl,rfl⟩:o'=o∧el'=el∧xs'=xs:=by simpa using e
      exact ⟨rfl,hg⟩
     ·cases e
    ·cases e
   ·cases e
  ·cases e
 ·cases e
def sortEnt (args:List AV) (vw:View) (_:Nat):Ans:=match sortArg vw args with
 |some d=>⟨Unit,fsort d.2.2,fun _=>(.tup [],[(d.1,some (.row d.2.1 i64 (sortI d.2.2)))],[])⟩
 |none=>Ans.no
theorem ints_cells {fz:Nat→Prop} {w:World}:∀(l:List Int) (vs:List Value),RepPs fz w (l.flatMap (enc i64)) vs→vs=l.map (Value.int .i64)
 |[],[],_=>rfl
 |[],_::_,r=>r.elim
 |n::l,[],r=>r.elim
 |n::l,c::vs,r=>by
  obtain ⟨r1,r2⟩:=r
  cases r1
  rw [ints_cells l vs r2];rfl
theorem ints_rep {fz:Nat→Prop} {w:World}:∀(l:List Int),RepPs fz w (l.flatMap (enc i64)) (l.map (Value.int .i64))
 |[]=>trivial
 |n::l=>⟨.int _ n,ints_rep l⟩
theorem grownBy_sorted (w:World) (b n:Nat) (d:Array Int) (os:Array Go.Obj):w.grownBy (Go.Sort.grow (Go.Sort.putRow (Value.int .i64) (Go.Sort.ahead w n) b 0 d) os) (some b):=by
 refine ⟨rfl,rfl,rfl,?_,fun k hk hne=>?_⟩
 ·show w.heap.size≤((w.heap.modify b _)++os).size
  rw [Array.size_append,Array.size_modify];omega
 ·rw [Go.Sort.heap_grow_old _ _ (by show k<(w.heap.modify b _).size;rw [Array.size_modify];exact hk)]
  show (w.heap.modify b _)[k]?=_
  rw [Array.getElem?_modify,if_neg (fun e=>hne (by rw [e]))]
theorem sort_ok {P:Program} {k:Nat} (hc:Callable P k)
  (hsort:∀(blk off cap:Nat) (zs:List Int) (w:World),Go.Sort.Holds (Value.int .i64) w blk off zs.toArray→blk<w.heap.size→zs.length<4611686018427387904→
   Calls P k #[.slice (some ⟨blk,off,none⟩) zs.length cap] w fun e w'=>e=.returned (.tuple #[])∧∃n os,w'=Go.Sort.grow (Go.Sort.putRow (Value.int .i64) (Go.Sort.ahead w n) blk off (zs.mergeSort fun x y=>decide (x≤y)).toArray) os)
  (hnone:∀(a:Option Addr) (cap:Nat) (w:World),Calls P k #[.slice a 0 cap] w fun e w'=>e=.returned (.tuple #[])∧w'=w):EntOk P k sortEnt:=by
 intro args vw site h
 unfold sortEnt
 split
 ·rename_i d hd
  obtain ⟨o,el,xs⟩:=d
  obtain ⟨rfl,hg⟩:=sortArg_some hd
  ···intro y hy hs
     refine ⟨hc,?_⟩
     intro _ σ w cargs inv r
     have hlen:xs.length≤lim:=by
      have hy':fsort xs=some y:=hy
      unfold fsort at hy'
      exact of_decide_eq_true (cond_some hy').1
     have hll:lim=1099511627776:=rfl
     have hgg:=hs _ _ hg
     match hca:cargs.toList,r with
     |[c],r=>
     have hcv:c=σ.val o:=r.1.2 (live_of hgg)
     have hcargs:cargs=#[c]:=by rw [←Array.toArray_toList (xs:=cargs),hca]
     obtain ⟨cs,hown,hrep⟩:=inv.objs _ _ hgg
     have hcs:=ints_cells xs cs hrep
     have same:∀(zs:List Int),zs.length=xs.length→∀i',SameO σ σ h (H.put o (.row el i64 zs) h) i':=fun zs hz i'=>by
      by_cases e:i'=o
      ·subst e
       refine .inr ⟨live_of hgg,rfl,fun x' q hx hq=>?_⟩
       rw [H.get_put_same] at hx
       obtain rfl:=Option.some.inj hx
       exact ⟨_,hgg,by rw [←hq];simp [Obj.info,hz]⟩
      ·exact sameO_eq (H.get_put_ne _ e _) rfl
     have fin:∀(w':World) (row:Option Nat),w.grownBy w' row→(∀b,row=some b→blk (σ.val o)=some b)→ObjRep σ (H.put o (.row el i64 (sortI xs)) h) w' o (.row el i64 (sortI xs))→
       Post σ h w site (.tup []) [(o,some (.row el i64 (sortI xs)))] [] σ w' (.tuple #[]):=by
      intro w' row hgr hrow hobj
      obtain ⟨e1,e2,e3⟩:=change (σ:=σ) (σ':=σ) (h':=H.put o (.row el i64 (sortI xs)) h) inv o (.row el i64 (sortI xs)) row (fun i hi=>H.get_put_ne _ hi _) (H.get_put_same o _ _) (fun _ _=>rfl) (fun _ _=>rfl) rfl
       (H.nodup_put o _ _ inv.nodup) hgr (fun b hb=>⟨own_row hgg,inv.mem hgg rfl (hrow b hb)⟩)
       (fun b hb=>⟨.inl ⟨own_row hgg,hb⟩,Nat.lt_of_lt_of_le (live_lt inv (own_row hgg) hb) hgr.size⟩) (fun _=>inv.bsok o _ hgg rfl)
       (fun i x g hi hm=>same _ (sortI_length xs) o) hobj
      exact ⟨e1,e2,⟨#[],rfl,trivial⟩,fun a c _ r=>e3 a c (fun _=>same _ (sortI_length xs) o) r⟩
     rw [hcargs,hcv]
     rcases hown.2 with ⟨hv,h0⟩|⟨g,cap,cur,hv,hg0,hh,hle,hcm,hcsz,htk⟩
     ·rw [hv]
      refine (hnone none 0 w).mono ?_
      rintro e w' ⟨rfl,rfl⟩
      have hx0:xs=[]:=List.eq_nil_of_length_eq_zero h0
      refine ⟨_,σ,rfl,fin w' none ⟨rfl,rfl,rfl,Nat.le_refl _,fun _ _ _=>rfl⟩ (fun b hb=>by cases hb) ?_⟩
      refine ⟨[],?_,?_⟩
      ·rw [sortI_length,hx0]
       exact ⟨by simp,.inl ⟨hv,rfl⟩⟩
      ·have he:sortI xs=[]:=List.eq_nil_of_length_eq_zero (by rw [sortI_length,hx0];rfl)
       show RepPs _ _ (List.flatMap (enc i64) (sortI xs)) []
       rw [he]
       exact trivial
     ·have hnc:nCells i64=1:=rfl
      rw [hnc,Nat.mul_one] at hcsz htk
      have hcell:∀j,j<xs.length→w.cell? ⟨g,0+j,none⟩=some (.int .i64 (xs[j]!)):=fun j hj=>by
       have h1:cs[j]?=some (.int .i64 (xs[j]!)):=by
        rw [hcs,List.getElem?_map,List.getElem?_eq_getElem hj,getElem!_pos xs j hj];rfl
       rw [←htk,List.getElem?_take,if_pos hj,Array.getElem?_toList] at h1
       show (match w.heap[g]? with|some (.cells c _ _)=>if (none:Option Nat).isSome then none else c[0+j]?|_=>none)=_
       rw [hh]
       simpa using h1
      have hH:Go.Sort.Holds (Value.int .i64) w g 0 xs.toArray:=fun j hj=>by
       have hj':j<xs.length:=by simpa using hj
       refine ⟨?_,?_⟩
       ·rw [hcell j hj'];simp [getElem!_pos,hj']
       ·show World.frozen? w ⟨g,0+j,none⟩=false
        unfold World.frozen?
        rw [hh];simp
      have hblk:blk (σ.val o)=some g:=by rw [hv];rfl
      have hglt:=live_lt inv (own_row hgg) (inv.mem hgg rfl hblk)
      rw [hv]
      refine (hsort g 0 cap xs w hH hglt (by omega)).mono ?_
      rintro e w' ⟨rfl,n,os,rfl⟩
      refine ⟨_,σ,rfl,fin _ (some g) (grownBy_sorted w g n _ os) (fun b hb=>by obtain rfl:=Option.some.inj hb;exact hblk) ?_⟩
      have hh':(Go.Sort.grow (Go.Sort.putRow (Value.int .i64) (Go.Sort.ahead w n) g 0 (sortI xs).toArray) os).heap[g]?=some (.cells (Go.Sort.putCells (Value.int .i64) 0 (sortI xs).toArray cur) el (0,0)):=by
       rw [Go.Sort.heap_grow_old _ _ (by show g<(w.heap.modify g _).size;rw [Array.size_modify];exact hglt)]
       show (w.heap.modify g _)[g]?=_
       rw [Array.getElem?_modify,if_pos rfl,hh];rfl
      refine ⟨(sortI xs).map (Value.int .i64),?_,ints_rep _⟩
      refine ⟨by rw [List.length_map,hnc,Nat.mul_one],.inr ⟨g,cap,Go.Sort.putCells (Value.int .i64) 0 (sortI xs).toArray cur,by rw [hv,sortI_length],hg0,hh',by rw [sortI_length];exact hle,hcm,by rw [hnc,Nat.mul_one];unfold Go.Sort.putCells;rw [Array.size_mapIdx];exact hcsz,?_⟩⟩
      rw [hnc,Nat.mul_one]
      apply List.ext_getElem?
      intro j
      rw [List.getElem?_take]
      by_cases hj:j<(sortI xs).length
      ·rw [if_pos hj,List.getElem?_map,Array.getElem?_toList]
       unfold Go.Sort.putCells
       rw [Array.getElem?_mapIdx,Array.getElem?_eq_getElem (by rw [sortI_length] at hj;omega)]
       simp [hj,List.getElem?_eq_getElem]
      ·rw [if_neg hj,List.getElem?_map,List.getElem?_eq_none (by omega)];rfl
 ·intro y hy;cases hy
end Go.Proofs.YtfdcjocallblcaaGreatDoor.Ev
