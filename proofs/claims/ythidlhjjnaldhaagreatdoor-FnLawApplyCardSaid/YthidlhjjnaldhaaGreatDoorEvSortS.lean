/- slices.Sort at []string on a row of the caller's own: what it tells, out of the library's contract. Condition: the contract. -/
import Derived.Test.YthidlhjjnaldhaaGreatDoorEvSort
import Derived.Sort.EncStr
namespace Go.Proofs.YthidlhjjnaldhaaGreatDoor.Ev
open Go
def bytesL (s:ByteArray):List UInt8:=s.data.toList
def ofL (l:List UInt8):ByteArray:=⟨l.toArray⟩
theorem ofL_bytes (s:ByteArray):ofL (bytesL s)=s:=by cases s;rfl
def sortL (xs:List ByteArray):List (List UInt8):=(xs.map bytesL).mergeSort fun x y=>decide (x≤y)
def sortS (xs:List ByteArray):List ByteArray:=(sortL xs).map ofL
theorem sortL_length (xs:List ByteArray):(sortL xs).length=xs.length:=by unfold sortL;rw [List.length_mergeSort,List.length_map]
theorem sortS_length (xs:List ByteArray):(sortS xs).length=xs.length:=by unfold sortS;rw [List.length_map,sortL_length]
def fsortS (xs:List ByteArray):Option Unit:=bif decide (xs.length≤lim) then some () else none
def sortRowS (o:Nat):Option Obj→Option (Nat×Nat×List ByteArray)
 |some (.row el k xs)=>if h:k=.str then some (o,el,(h▸xs:List (Ty.den .str))) else none
 |_=>none
def sortArgS (vw:View):List AV→Option (Nat×Nat×List ByteArray)
 |a::r=>match a with
  |.row o=>match r with
   |[]=>sortRowS o (vw o)
   |_=>none
  |_=>none
 |[]=>none
theorem sortArgS_some {vw:View} {args:List AV} {o el:Nat} {xs:List ByteArray} (e:sortArgS vw args=some (o,el,xs)):args=[.row o]∧vw o=some (.row el .str xs):=by
 unfold sortArgS at e
 split at e
 ·rename_i a r
  split at e
  ·rename_i o'
   split at e
   ·unfold sortRowS at e
    split at e
    ·rename_i el' k xs' hg
     split at e
     ·rename_i hk
      subst hk
      obtain ⟨rfl,rfl,rfl⟩:o'=o∧el'=el∧xs'=xs:=by simpa using e
      exact ⟨rfl,hg⟩
     ·cases e
    ·cases e
   ·cases e
  ·cases e
 ·cases e
def sortSEnt (args:List AV) (vw:View) (_:Nat):Ans:=match sortArgS vw args with
 |some d=>⟨Unit,fsortS d.2.2,fun _=>(.tup [],[(d.1,some (.row d.2.1 .str (sortS d.2.2)))],[])⟩
 |none=>Ans.no
theorem strs_cells {fz:Nat→Prop} {w:World}:∀(l:List ByteArray) (vs:List Value),RepPs fz w (l.flatMap (enc .str)) vs→vs=l.map Value.string
 |[],[],_=>rfl
 |[],_::_,r=>r.elim
 |n::l,[],r=>r.elim
 |n::l,c::vs,r=>by
  obtain ⟨r1,r2⟩:=r
  cases r1
  rw [strs_cells l vs r2];rfl
theorem strs_rep {fz:Nat→Prop} {w:World}:∀(l:List ByteArray),RepPs fz w (l.flatMap (enc .str)) (l.map Value.string)
 |[]=>trivial
 |n::l=>⟨.str n,strs_rep l⟩
theorem grownBy_sortedS (w:World) (b n:Nat) (d:Array (List UInt8)) (os:Array Go.Obj):w.grownBy (Go.Sort.grow (Go.Sort.putRow encStr (Go.Sort.ahead w n) b 0 d) os) (some b):=by
 refine ⟨rfl,rfl,rfl,?_,fun k hk hne=>?_⟩
 ·show w.heap.size≤((w.heap.modify b _)++os).size
  rw [Array.size_append,Array.size_modify];omega
 ·rw [Go.Sort.heap_grow_old _ _ (by show k<(w.heap.modify b _).size;rw [Array.size_modify];exact hk)]
  show (w.heap.modify b _)[k]?=_
  rw [Array.getElem?_modify,if_neg (fun e=>hne (by rw [e]))]
theorem sortS_ok {P:Program} {k:Nat} (hc:Callable P k)
  (hsort:∀(blk off cap:Nat) (zs:List (List UInt8)) (w:World),Go.Sort.Holds encStr w blk off zs.toArray→blk<w.heap.size→zs.length<4611686018427387904→
   Calls P k #[.slice (some ⟨blk,off,none⟩) zs.length cap] w fun e w'=>e=.returned (.tuple #[])∧∃n os,w'=Go.Sort.grow (Go.Sort.putRow encStr (Go.Sort.ahead w n) blk off (zs.mergeSort fun x y=>decide (x≤y)).toArray) os)
  (hnone:∀(a:Option Addr) (cap:Nat) (w:World),Calls P k #[.slice a 0 cap] w fun e w'=>e=.returned (.tuple #[])∧w'=w):EntOk P k sortSEnt:=by
 intro args vw site h
 unfold sortSEnt
 split
 ·rename_i d hd
  obtain ⟨o,el,xs⟩:=d
  obtain ⟨rfl,hg⟩:=sortArgS_some hd
  ···intro y hy hs
     refine ⟨hc,?_⟩
     intro _ σ w cargs inv r
     have hlen:xs.length≤lim:=by
      have hy':fsortS xs=some y:=hy
      unfold fsortS at hy'
      exact of_decide_eq_true (cond_some hy').1
     have hll:lim=1099511627776:=rfl
     have hgg:=hs _ _ hg
     match hca:cargs.toList,r with
     |[c],r=>
     have hcv:c=σ.val o:=r.1.2 (live_of hgg)
     have hcargs:cargs=#[c]:=by rw [←Array.toArray_toList (xs:=cargs),hca]
     obtain ⟨cs,hown,hrep⟩:=inv.objs _ _ hgg
     have hcs:=strs_cells xs cs hrep
     have same:∀(zs:List ByteArray),zs.length=xs.length→∀i',SameO σ σ h (H.put o (.row el .str zs) h) i':=fun zs hz i'=>by
      by_cases e:i'=o
      ·subst e
       refine .inr ⟨live_of hgg,rfl,fun x' q hx hq=>?_⟩
       rw [H.get_put_same] at hx
       obtain rfl:=Option.some.inj hx
       exact ⟨_,hgg,by rw [←hq];simp [Obj.info,hz]⟩
      ·exact sameO_eq (H.get_put_ne _ e _) rfl
     have fin:∀(w':World) (row:Option Nat),w.grownBy w' row→(∀b,row=some b→blk (σ.val o)=some b)→ObjRep σ (H.put o (.row el .str (sortS xs)) h) w' o (.row el .str (sortS xs))→
       Post σ h w site (.tup []) [(o,some (.row el .str (sortS xs)))] [] σ w' (.tuple #[]):=by
      intro w' row hgr hrow hobj
      obtain ⟨e1,e2,e3⟩:=change (σ:=σ) (σ':=σ) (h':=H.put o (.row el .str (sortS xs)) h) inv o (.row el .str (sortS xs)) row (fun i hi=>H.get_put_ne _ hi _) (H.get_put_same o _ _) (fun _ _=>rfl) (fun _ _=>rfl) rfl
       (H.nodup_put o _ _ inv.nodup) hgr (fun b hb=>⟨own_row hgg,inv.mem hgg rfl (hrow b hb)⟩)
       (fun b hb=>⟨.inl ⟨own_row hgg,hb⟩,Nat.lt_of_lt_of_le (live_lt inv (own_row hgg) hb) hgr.size⟩) (fun _=>inv.bsok o _ hgg rfl)
       (fun i x g hi hm=>same _ (sortS_length xs) o) hobj
      exact ⟨e1,e2,⟨#[],rfl,trivial⟩,fun a c _ r=>e3 a c (fun _=>same _ (sortS_length xs) o) r⟩
     rw [hcargs,hcv]
     rcases hown.2 with ⟨hv,h0⟩|⟨g,cap,cur,hv,hg0,hh,hle,hcm,hcsz,htk⟩
     ·rw [hv]
      refine (hnone none 0 w).mono ?_
      rintro e w' ⟨rfl,rfl⟩
      have hx0:xs=[]:=List.eq_nil_of_length_eq_zero h0
      refine ⟨_,σ,rfl,fin w' none ⟨rfl,rfl,rfl,Nat.le_refl _,fun _ _ _=>rfl⟩ (fun b hb=>by cases hb) ?_⟩
      refine ⟨[],?_,?_⟩
      ·rw [sortS_length,hx0]
       exact ⟨by simp,.inl ⟨hv,rfl⟩⟩
      ·have he:sortS xs=[]:=List.eq_nil_of_length_eq_zero (by rw [sortS_length,hx0];rfl)
       show RepPs _ _ (List.flatMap (enc .str) (sortS xs)) []
       rw [he]
       exact trivial
     ·have hnc:nCells .str=1:=rfl
      rw [hnc,Nat.mul_one] at hcsz htk
      have hcell:∀j (hj:j<xs.length),w.cell? ⟨g,0+j,none⟩=some (.string xs[j]):=fun j hj=>by
       have h1:cs[j]?=some (.string xs[j]):=by
        rw [hcs,List.getElem?_map,List.getElem?_eq_getElem hj];rfl
       rw [←htk,List.getElem?_take,if_pos hj,Array.getElem?_toList] at h1
       show (match w.heap[g]? with|some (.cells c _ _)=>if (none:Option Nat).isSome then none else c[0+j]?|_=>none)=_
       rw [hh]
       simpa using h1
      have hH:Go.Sort.Holds encStr w g 0 (xs.map bytesL).toArray:=fun j hj=>by
       have hj':j<xs.length:=by simpa using hj
       refine ⟨?_,?_⟩
       ·rw [hcell j hj',getElem!_pos (xs.map bytesL).toArray j hj]
        simp only [List.getElem_toArray,List.getElem_map]
        exact congrArg (fun b=>some (Value.string b)) (ofL_bytes xs[j]).symm
       ·show World.frozen? w ⟨g,0+j,none⟩=false
        unfold World.frozen?
        rw [hh];simp
      have hblk:blk (σ.val o)=some g:=by rw [hv];rfl
      have hglt:=live_lt inv (own_row hgg) (inv.mem hgg rfl hblk)
      rw [hv]
      have hrun:=hsort g 0 cap (xs.map bytesL) w hH hglt (by rw [List.length_map];omega)
      rw [List.length_map] at hrun
      refine hrun.mono ?_
      rintro e w' ⟨rfl,n,os,rfl⟩
      refine ⟨_,σ,rfl,fin _ (some g) (grownBy_sortedS w g n _ os) (fun b hb=>by obtain rfl:=Option.some.inj hb;exact hblk) ?_⟩
      have hh':(Go.Sort.grow (Go.Sort.putRow encStr (Go.Sort.ahead w n) g 0 (sortL xs).toArray) os).heap[g]?=some (.cells (Go.Sort.putCells encStr 0 (sortL xs).toArray cur) el (0,0)):=by
       rw [Go.Sort.heap_grow_old _ _ (by show g<(w.heap.modify g _).size;rw [Array.size_modify];exact hglt)]
       show (w.heap.modify g _)[g]?=_
       rw [Array.getElem?_modify,if_pos rfl,hh];rfl
      refine ⟨(sortS xs).map Value.string,?_,strs_rep _⟩
      refine ⟨by rw [List.length_map,hnc,Nat.mul_one],.inr ⟨g,cap,Go.Sort.putCells encStr 0 (sortL xs).toArray cur,by rw [hv,sortS_length],hg0,hh',by rw [sortS_length];exact hle,hcm,by rw [hnc,Nat.mul_one];unfold Go.Sort.putCells;rw [Array.size_mapIdx];exact hcsz,?_⟩⟩
      rw [hnc,Nat.mul_one]
      apply List.ext_getElem?
      intro j
      rw [List.getElem?_take]
      have hlj:(sortL xs).length=(sortS xs).length:=by rw [sortL_length,sortS_length]
      by_cases hj:j<(sortS xs).length
      ·have hj2:j<(sortL xs).length:=by rw [hlj];exact hj
       have hget:(sortS xs)[j]=ofL (sortL xs)[j]:=by simp only [sortS,List.getElem_map]
       rw [if_pos hj,List.getElem?_map,Array.getElem?_toList,List.getElem?_eq_getElem hj,hget]
       unfold Go.Sort.putCells
       rw [Array.getElem?_mapIdx,Array.getElem?_eq_getElem (by rw [sortS_length] at hj;omega)]
       simp [hj2]
       rfl
      ·rw [if_neg hj,List.getElem?_map,List.getElem?_eq_none (by omega)];rfl
 ·intro y hy;cases hy
end Go.Proofs.YthidlhjjnaldhaaGreatDoor.Ev
