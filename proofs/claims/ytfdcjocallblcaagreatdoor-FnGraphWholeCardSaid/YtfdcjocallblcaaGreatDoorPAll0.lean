/- Plain laws, in one text. -/
import Derived.Test.YtfdcjocallblcaaGreatDoorGS3c
import Derived.Test.YtfdcjocallblcaaGreatDoorEvZ
import Derived.Test.YtfdcjocallblcaaGreatDoorEvSort
import Derived.Lib.ItoaNum
namespace Go.Proofs.YtfdcjocallblcaaGreatDoor.Ev
open Go
set_option linter.unusedVariables false
set_option linter.unusedSimpArgs false
theorem act1_ok (L N:Nat) (n:Int):f22 L N n=some (decide (-4≤n∧n≤4)):=by
 show f22.b L N some n=_
 unfold f22.b f22.b'
 by_cases h:n≥-4
 ·rw [dt h,cond_true];congr 1;by_cases h2:n≤4
  ·rw [dt h2,dt (by omega)]
  ·rw [df h2,df (by omega)]
 ·rw [df h,cond_false,df (by omega)]
theorem in_ok (L N:Nat) (n a b:Int):f24 L N n a b=some (decide (a≤n∧n≤b)):=by
 show f24.b L N some n a b=_
 unfold f24.b f24.b'
 by_cases h:n≥a
 ·rw [dt h,cond_true];congr 1;by_cases h2:n≤b
  ·rw [dt h2,dt (by omega)]
  ·rw [df h2,df (by omega)]
 ·rw [df h,cond_false,df (by omega)]
theorem act2_ok (L N:Nat) (n:Int):f25 L N n=some (decide (-4≤n∧n≤4)):=by
 show f25.b L N some n=_
 unfold f25.b f25.b'
 rw [in_ok];rfl
def gsize (ms:List (List Move)):Nat:=(ms.map List.length).sum
theorem gsize_row {ms:List (List Move)}:∀r∈ms,r.length≤gsize ms:=by
 intro r hr
 unfold gsize
 induction ms with
 |nil=>cases hr
 |cons a ms ih=>
  rw [List.map_cons,List.sum_cons]
  rcases List.mem_cons.1 hr with rfl|hr
  ·omega
  ·have:=ih hr;omega
theorem allN_true (k i:Nat):allN (fun _=>true) k i=true:=by
 induction k generalizing i with
 |zero=>rfl
 |succ k ih=>exact ih (i+1)
def lessM (a b:Move):Bool:=decide (a.act<b.act∨(a.act=b.act∧a.to<b.to))
def mvOk (n:Nat) (m:Move):Bool:=decide (-4≤m.act∧m.act≤4)&&decide (0≤m.to∧m.to<(n:Int))
def atOk (n:Nat) (r:List Move) (k:Nat):Bool:=mvOk n (r.getD k ⟨0,0⟩)&&(decide (k=0)||lessM (r.getD (k-1) ⟨0,0⟩) (r.getD k ⟨0,0⟩))
def rowOk (n:Nat) (r:List Move):Bool:=allN (atOk n r) r.length 0
def graphOk (g:Graph):Bool:=decide (1≤g.moves.length∧g.moves.length≤60)&&allN (fun i=>rowOk g.moves.length (g.moves.getD i [])) g.moves.length 0
theorem atD {α:Type} (x:List α) (d:α) (i:Nat):listAt x d i=x.getD i d:=rfl
theorem less2_ok (L N:Nat) (a b:Move):f26 L N a b=some (lessM a b):=by
 show f26.b L N some a b=_
 unfold f26.b f26.b' lessM
 by_cases h:a.act<b.act
 ·rw [dt h,cond_true,dt (by omega)]
 ·rw [df h,cond_false]
  by_cases h2:a.act=b.act
  ·have:(a.act==b.act)=true:=by simpa using h2
   rw [this,cond_true]
   by_cases h3:a.to<b.to
   ·rw [dt h3,dt (by omega)]
   ·rw [df h3,df (by omega)]
  ·have:(a.act==b.act)=false:=by simpa using h2
   rw [this,cond_false,df (by omega)]
theorem cmp_ok (L N:Nat) (a b:Int):f49 L N a b=some (if a<b then -1 else if a>b then 1 else 0):=by
 show f49.b L N some a b=_
 unfold f49.b f49.b'
 have h0:∀a,f64 L N a=some false:=fun a=>by
  show f64.b L N some a=_
  unfold f64.b f64.b'
  simp
 simp only [h0,Option.bind_some,cond_false]
 by_cases h:a<b
 ·rw [dt h,cond_true,if_pos h]
 ·rw [df h,cond_false,if_neg h]
  by_cases h2:a>b
  ·rw [dt h2,cond_true,if_pos h2]
  ·rw [df h2,cond_false,if_neg h2]
theorem byMove_ok (L N:Nat) (a b:Move):∃r:Int,f23 L N a b=some r∧decide (r≥0)=!lessM a b:=by
 show ∃r,f23.b L N some a b=some r∧_
 unfold f23.b f23.b' lessM
 simp only [cmp_ok,Option.bind_some]
 by_cases h:a.act<b.act
 ·rw [if_pos h]
  exact ⟨-1,rfl,by rw [dt (show a.act<b.act∨_ from .inl h)];rfl⟩
 ·rw [if_neg h]
  by_cases h2:a.act>b.act
  ·rw [if_pos h2]
   exact ⟨1,rfl,by rw [df (show ¬(a.act<b.act∨a.act=b.act∧a.to<b.to) by omega)];rfl⟩
  ·rw [if_neg h2]
   refine ⟨_,rfl,?_⟩
   by_cases h3:a.to<b.to
   ·rw [if_pos h3,dt (show a.act<b.act∨a.act=b.act∧a.to<b.to by omega)];rfl
   ·rw [if_neg h3,df (show ¬(a.act<b.act∨a.act=b.act∧a.to<b.to) by omega)]
    by_cases h4:a.to>b.to
    ·rw [if_pos h4];rfl
    ·rw [if_neg h4];rfl
end Go.Proofs.YtfdcjocallblcaaGreatDoor.Ev
namespace Go.Proofs.YtfdcjocallblcaaGreatDoor.Ev
open Go
set_option linter.unusedVariables false
set_option linter.unusedSimpArgs false
theorem getD_lt {α:Type} {x:List α} {d:α} {i:Nat} (h:i<x.length):x.getD i d=x[i]:=by
 rw [List.getD_eq_getElem?_getD,List.getElem?_eq_getElem h];rfl
theorem pred_cast {k:Nat} (h:0<k) (h2:k<9223372036854775807):wi ((k:Int)-1)=((k-1:Nat):Int):=by
 rw [wi_id (by omega) (by omega)];omega
theorem mv_eta (m:Move):Move.mk m.act m.to=m:=by cases m;rfl
theorem gok1_ok (L N:Nat) (g:Graph) (hL:1048576<L) (hs:g.moves.length+gsize g.moves≤1048576):f6 L N g=some (graphOk g):=by
 show f6.b L N some g=_
 unfold f6.b f6.b' graphOk
 generalize hms:g.moves=ms
 rw [hms] at hs
 by_cases h1:(ms.length:Int)<1
 ·rw [dt h1,cond_true,df (show ¬(1≤ms.length∧ms.length≤60) by omega)];rfl
 ·rw [df h1,cond_false]
  by_cases h2:(ms.length:Int)>60
  ·rw [dt h2,cond_true,df (show ¬(1≤ms.length∧ms.length≤60) by omega)];rfl
  ·rw [df h2,cond_false,dt (show 1≤ms.length∧ms.length≤60 by omega)]
   simp only [Bool.true_and]
   unfold f6.j0'
   refine (all_loop (l:=fun n i=>f6.l0 L N (f6.p0_e0 L N some) (fun z=>f6.p0_r L N some z) n ms (ms.length:Int) i ms) (len:=ms.length) (q:=fun i=>rowOk ms.length (ms.getD i [])) (rt:=some true) (rf:=some false) (fun n i hi=>?_) (fun n=>?_) L 0 (by omega) (by omega)).trans ?_
   ·show f6.s0 L N _ _ (f6.l0 L N _ _ n) ms (ms.length:Int) i ms=_
    unfold f6.s0 f6.s0'
    simp only [lt_cast hi,le0,Bool.and_true,cond_true,Int.toNat_natCast,at_lt hi,getD_lt hi]
    have hrow:=gsize_row _ (List.getElem_mem hi)
    refine (all_loop (l:=fun n k=>f6.l1 L N (fun z15 z16 z17 z18=>f6.p1_e2 L N (f6.p0_e0 L N some) (fun z=>f6.p0_r L N some z) (f6.l0 L N (f6.p0_e0 L N some) (fun z=>f6.p0_r L N some z) _) z15 z16 z17 z18) (fun z30 z31 z32 z33 z34=>f6.p1_r L N (f6.p0_e0 L N some) (fun z=>f6.p0_r L N some z) (f6.l0 L N (f6.p0_e0 L N some) (fun z=>f6.p0_r L N some z) _) z30 z31 z32 z33 z34) n ms[i] ms (ms.length:Int) i ms[i] ((ms[i]).length:Int) k ms) (len:=(ms[i]).length) (q:=atOk ms.length ms[i]) (rt:=f6.l0 L N (f6.p0_e0 L N some) (fun z=>f6.p0_r L N some z) n ms (ms.length:Int) ((i+1:Nat):Int) ms) (rf:=some false) (fun n' k hk=>?_) (fun n'=>?_) L 0 (by omega) (by omega)).trans (by rw [Nat.sub_zero];rfl)
    ·show f6.s1 L N _ _ (f6.l1 L N _ _ n') ms[i] ms (ms.length:Int) i ms[i] ((ms[i]).length:Int) k ms=_
     unfold f6.s1 f6.s1'
     simp only [le0,cond_true,Bool.and_true,Bool.true_and,Int.toNat_natCast,lt_cast hk,at_lt hk,act1_ok,Option.bind_some,mv_eta,wi_nat (show k<9223372036854775807 by omega)]
     unfold atOk mvOk
     rw [getD_lt hk]
     by_cases hA:-4≤(ms[i])[k].act∧(ms[i])[k].act≤4
     ·rw [dt hA]
      simp only [Bool.not_true,cond_false,Bool.true_and]
      by_cases hB0:(ms[i])[k].to<0
      ·rw [dt hB0,df (show ¬(0≤(ms[i])[k].to∧(ms[i])[k].to<(ms.length:Int)) by omega)];rfl
      ·rw [df hB0,cond_false]
       by_cases hB1:(ms[i])[k].to≥(ms.length:Int)
       ·rw [dt hB1,df (show ¬(0≤(ms[i])[k].to∧(ms[i])[k].to<(ms.length:Int)) by omega)];rfl
       ·rw [df hB1,cond_false,dt (show 0≤(ms[i])[k].to∧(ms[i])[k].to<(ms.length:Int) by omega)]
        by_cases hk0:k=0
        ·subst hk0
         rfl
        ·have hp:k-1<(ms[i]).length:=by omega
         rw [dt (show (k:Int)>0 by omega),cond_true,pred_cast (by omega) (by omega)]
         obtain ⟨r,hr,hd⟩:=byMove_ok L N (ms[i])[k-1] (ms[i])[k]
         simp only [le0,lt_cast hp,Bool.and_true,cond_true,Int.toNat_natCast,at_lt hp,hr,Option.bind_some,hd,df hk0,Bool.false_or,Bool.true_and,getD_lt hp]
         cases lessM (ms[i])[k-1] (ms[i])[k]<;>rfl
     ·rw [df hA]
      rfl
    ·show f6.s1 L N _ _ (f6.l1 L N _ _ n') ms[i] ms (ms.length:Int) i ms[i] ((ms[i]).length:Int) (ms[i]).length ms=_
     unfold f6.s1 f6.s1'
     simp only [ge_cast (Nat.lt_irrefl _),cond_false]
     show f6.l0 L N _ _ n ms (ms.length:Int) (wi ((i:Int)+1)) ms=_
     rw [wi_nat (by omega)]
   ·show f6.s0 L N _ _ (f6.l0 L N _ _ n) ms (ms.length:Int) ms.length ms=_
    unfold f6.s0 f6.s0'
    simp only [ge_cast (Nat.lt_irrefl _),cond_false]
    rfl
   ·rw [Nat.sub_zero]
    cases allN (fun i=>rowOk ms.length (ms.getD i [])) ms.length 0<;>rfl
theorem graphOk_mv {g:Graph} (h:graphOk g=true):1≤g.moves.length∧g.moves.length≤60∧∀(i:Nat) (hi:i<g.moves.length) (k:Nat) (hk:k<(g.moves[i]).length),-4≤(g.moves[i])[k].act∧(g.moves[i])[k].act≤4∧0≤(g.moves[i])[k].to∧(g.moves[i])[k].to<(g.moves.length:Int):=by
 unfold graphOk at h
 simp only [Bool.and_eq_true,decide_eq_true_eq] at h
 refine ⟨h.1.1,h.1.2,fun i hi k hk=>?_⟩
 have h1:=allN_get _ 0 h.2 i (by omega) (by omega)
 simp only [getD_lt hi] at h1
 have h2:=allN_get _ 0 h1 k (by omega) (by omega)
 unfold atOk mvOk at h2
 rw [getD_lt hk] at h2
 simp only [Bool.and_eq_true,decide_eq_true_eq] at h2
 exact ⟨h2.1.1.1,h2.1.1.2,h2.1.2.1,h2.1.2.2⟩
end Go.Proofs.YtfdcjocallblcaaGreatDoor.Ev
namespace Go.Proofs.YtfdcjocallblcaaGreatDoor.Ev
open Go
set_option linter.unusedVariables false
set_option linter.unusedSimpArgs false
theorem gok2_big (L N:Nat) (g:Graph) (hL:g.moves.length+gsize g.moves+1<L) (hs:g.moves.length+gsize g.moves≤1099511627776):f7 L N g=some (graphOk g):=by
 show f7.b L N some g=_
 unfold f7.b f7.b' graphOk
 generalize hms:g.moves=ms
 rw [hms] at hs hL
 rw [in_ok]
 simp only [Option.bind_some]
 by_cases hr:1≤(ms.length:Int)∧(ms.length:Int)≤60
 ·rw [dt hr,dt (show 1≤ms.length∧ms.length≤60 by omega)]
  simp only [Bool.not_true,cond_false,Bool.true_and]
  refine (all_loop (l:=fun n i=>f7.l0 L N (f7.p0_e0 L N some) (fun z=>f7.p0_r L N some z) n i ms) (len:=ms.length) (q:=fun i=>rowOk ms.length (ms.getD i [])) (rt:=some true) (rf:=some false) (fun n i hi=>?_) (fun n=>?_) L 0 (by omega) (by omega)).trans ?_
  ·show f7.s0 L N _ _ (f7.l0 L N _ _ n) i ms=_
   unfold f7.s0 f7.s0'
   simp only [lt_cast hi,cond_true,getD_lt hi]
   have hrow:=gsize_row _ (List.getElem_mem hi)
   refine (all_loop (l:=fun n k=>f7.l1 L N (fun z6 z7=>f7.p1_e2 L N (f7.p0_e0 L N some) (fun z=>f7.p0_r L N some z) (f7.l0 L N (f7.p0_e0 L N some) (fun z=>f7.p0_r L N some z) _) z6 z7) (fun z15 z16 z17=>f7.p1_r L N (f7.p0_e0 L N some) (fun z=>f7.p0_r L N some z) (f7.l0 L N (f7.p0_e0 L N some) (fun z=>f7.p0_r L N some z) _) z15 z16 z17) n i k ms) (len:=(ms[i]).length) (q:=atOk ms.length ms[i]) (rt:=f7.l0 L N (f7.p0_e0 L N some) (fun z=>f7.p0_r L N some z) n ((i+1:Nat):Int) ms) (rf:=some false) (fun n' k hk=>?_) (fun n'=>?_) L 0 (by omega) (by omega)).trans (by rw [Nat.sub_zero];rfl)
   ·show f7.s1 L N _ _ (f7.l1 L N _ _ n') i k ms=_
    unfold f7.s1 f7.s1'
    have hw:wi ((ms.length:Int)-1)=(ms.length:Int)-1:=wi_id (by omega) (by omega)
    simp only [lt_cast hi,le0,cond_true,Bool.and_true,Bool.true_and,Int.toNat_natCast,at_lt hi,lt_cast hk,at_lt hk,act2_ok,in_ok,Option.bind_some,less2_ok,hw,mv_eta,wi_nat (show k<9223372036854775807 by omega)]
    unfold atOk mvOk
    rw [getD_lt hk]
    by_cases hA:-4≤(ms[i])[k].act∧(ms[i])[k].act≤4
    ·by_cases hB:0≤(ms[i])[k].to∧(ms[i])[k].to<(ms.length:Int)
     ·rw [dt hA,dt hB,dt (show 0≤(ms[i])[k].to∧(ms[i])[k].to≤(ms.length:Int)-1 by omega)]
      simp only [Bool.not_true,cond_false,Bool.true_and]
      by_cases hk0:k=0
      ·subst hk0
       rfl
      ·have hp:k-1<(ms[i]).length:=by omega
       rw [dt (show (k:Int)>0 by omega),cond_true,pred_cast (by omega) (by omega)]
       simp only [le0,lt_cast hp,Bool.and_true,cond_true,Int.toNat_natCast,at_lt hp,Option.bind_some,df hk0,Bool.false_or,getD_lt hp]
       cases lessM (ms[i])[k-1] (ms[i])[k]<;>rfl
     ·rw [dt hA,df hB,df (show ¬(0≤(ms[i])[k].to∧(ms[i])[k].to≤(ms.length:Int)-1) by omega)]
      rfl
    ·rw [df hA]
     rfl
   ·show f7.s1 L N _ _ (f7.l1 L N _ _ n') i (ms[i]).length ms=_
    unfold f7.s1 f7.s1'
    simp only [lt_cast hi,le0,cond_true,Bool.and_true,Bool.true_and,Int.toNat_natCast,at_lt hi,ge_cast (Nat.lt_irrefl _),cond_false]
    show f7.l0 L N _ _ n (wi ((i:Int)+1)) ms=_
    rw [wi_nat (by omega)]
  ·show f7.s0 L N _ _ (f7.l0 L N _ _ n) ms.length ms=_
   unfold f7.s0 f7.s0'
   simp only [ge_cast (Nat.lt_irrefl _),cond_false]
   rfl
  ·rw [Nat.sub_zero]
   cases allN (fun i=>rowOk ms.length (ms.getD i [])) ms.length 0<;>rfl
 ·rw [df hr,df (show ¬(1≤ms.length∧ms.length≤60) by omega)]
  rfl
theorem gok1_big (L N:Nat) (g:Graph) (hL:g.moves.length+gsize g.moves+1<L) (hs:g.moves.length+gsize g.moves≤1099511627776):f6 L N g=some (graphOk g):=by
 show f6.b L N some g=_
 unfold f6.b f6.b' graphOk
 generalize hms:g.moves=ms
 rw [hms] at hs hL
 by_cases h1:(ms.length:Int)<1
 ·rw [dt h1,cond_true,df (show ¬(1≤ms.length∧ms.length≤60) by omega)];rfl
 ·rw [df h1,cond_false]
  by_cases h2:(ms.length:Int)>60
  ·rw [dt h2,cond_true,df (show ¬(1≤ms.length∧ms.length≤60) by omega)];rfl
  ·rw [df h2,cond_false,dt (show 1≤ms.length∧ms.length≤60 by omega)]
   simp only [Bool.true_and]
   unfold f6.j0'
   refine (all_loop (l:=fun n i=>f6.l0 L N (f6.p0_e0 L N some) (fun z=>f6.p0_r L N some z) n ms (ms.length:Int) i ms) (len:=ms.length) (q:=fun i=>rowOk ms.length (ms.getD i [])) (rt:=some true) (rf:=some false) (fun n i hi=>?_) (fun n=>?_) L 0 (by omega) (by omega)).trans ?_
   ·show f6.s0 L N _ _ (f6.l0 L N _ _ n) ms (ms.length:Int) i ms=_
    unfold f6.s0 f6.s0'
    simp only [lt_cast hi,le0,Bool.and_true,cond_true,Int.toNat_natCast,at_lt hi,getD_lt hi]
    have hrow:=gsize_row _ (List.getElem_mem hi)
    refine (all_loop (l:=fun n k=>f6.l1 L N (fun z15 z16 z17 z18=>f6.p1_e2 L N (f6.p0_e0 L N some) (fun z=>f6.p0_r L N some z) (f6.l0 L N (f6.p0_e0 L N some) (fun z=>f6.p0_r L N some z) _) z15 z16 z17 z18) (fun z30 z31 z32 z33 z34=>f6.p1_r L N (f6.p0_e0 L N some) (fun z=>f6.p0_r L N some z) (f6.l0 L N (f6.p0_e0 L N some) (fun z=>f6.p0_r L N some z) _) z30 z31 z32 z33 z34) n ms[i] ms (ms.length:Int) i ms[i] ((ms[i]).length:Int) k ms) (len:=(ms[i]).length) (q:=atOk ms.length ms[i]) (rt:=f6.l0 L N (f6.p0_e0 L N some) (fun z=>f6.p0_r L N some z) n ms (ms.length:Int) ((i+1:Nat):Int) ms) (rf:=some false) (fun n' k hk=>?_) (fun n'=>?_) L 0 (by omega) (by omega)).trans (by rw [Nat.sub_zero];rfl)
    ·show f6.s1 L N _ _ (f6.l1 L N _ _ n') ms[i] ms (ms.length:Int) i ms[i] ((ms[i]).length:Int) k ms=_
     unfold f6.s1 f6.s1'
     simp only [le0,cond_true,Bool.and_true,Bool.true_and,Int.toNat_natCast,lt_cast hk,at_lt hk,act1_ok,Option.bind_some,mv_eta,wi_nat (show k<9223372036854775807 by omega)]
     unfold atOk mvOk
     rw [getD_lt hk]
     by_cases hA:-4≤(ms[i])[k].act∧(ms[i])[k].act≤4
     ·rw [dt hA]
      simp only [Bool.not_true,cond_false,Bool.true_and]
      by_cases hB0:(ms[i])[k].to<0
      ·rw [dt hB0,df (show ¬(0≤(ms[i])[k].to∧(ms[i])[k].to<(ms.length:Int)) by omega)];rfl
      ·rw [df hB0,cond_false]
       by_cases hB1:(ms[i])[k].to≥(ms.length:Int)
       ·rw [dt hB1,df (show ¬(0≤(ms[i])[k].to∧(ms[i])[k].to<(ms.length:Int)) by omega)];rfl
       ·rw [df hB1,cond_false,dt (show 0≤(ms[i])[k].to∧(ms[i])[k].to<(ms.length:Int) by omega)]
        by_cases hk0:k=0
        ·subst hk0
         rfl
        ·have hp:k-1<(ms[i]).length:=by omega
         rw [dt (show (k:Int)>0 by omega),cond_true,pred_cast (by omega) (by omega)]
         obtain ⟨r,hr,hd⟩:=byMove_ok L N (ms[i])[k-1] (ms[i])[k]
         simp only [le0,lt_cast hp,Bool.and_true,cond_true,Int.toNat_natCast,at_lt hp,hr,Option.bind_some,hd,df hk0,Bool.false_or,Bool.true_and,getD_lt hp]
         cases lessM (ms[i])[k-1] (ms[i])[k]<;>rfl
     ·rw [df hA]
      rfl
    ·show f6.s1 L N _ _ (f6.l1 L N _ _ n') ms[i] ms (ms.length:Int) i ms[i] ((ms[i]).length:Int) (ms[i]).length ms=_
     unfold f6.s1 f6.s1'
     simp only [ge_cast (Nat.lt_irrefl _),cond_false]
     show f6.l0 L N _ _ n ms (ms.length:Int) (wi ((i:Int)+1)) ms=_
     rw [wi_nat (by omega)]
   ·show f6.s0 L N _ _ (f6.l0 L N _ _ n) ms (ms.length:Int) ms.length ms=_
    unfold f6.s0 f6.s0'
    simp only [ge_cast (Nat.lt_irrefl _),cond_false]
    rfl
   ·rw [Nat.sub_zero]
    cases allN (fun i=>rowOk ms.length (ms.getD i [])) ms.length 0<;>rfl
end Go.Proofs.YtfdcjocallblcaaGreatDoor.Ev
namespace Go.Proofs.YtfdcjocallblcaaGreatDoor.Ev
open Go
set_option linter.unusedVariables false
set_option linter.unusedSimpArgs false
theorem less_irrefl (a:Move):lessM a a=false:=by unfold lessM;exact decide_eq_false (by omega)
theorem less_trans {a b c:Move} (h1:lessM a b=true) (h2:lessM b c=true):lessM a c=true:=by
 unfold lessM at*;have h1:=of_decide_eq_true h1;have h2:=of_decide_eq_true h2;exact decide_eq_true (by omega)
theorem less_tot {a b:Move} (h1:lessM a b=false) (h2:a≠b):lessM b a=true:=by
 unfold lessM at*
 have h1:=of_decide_eq_false h1
 obtain ⟨a1,a2⟩:=a
 obtain ⟨b1,b2⟩:=b
 have h2:¬(a1=b1∧a2=b2):=fun h=>h2 (by rw [h.1,h.2])
 exact decide_eq_true (by simp only at h1⊢;omega)
theorem less_ne {a b:Move} (h:lessM a b=true):a≠b:=fun e=>by rw [e,less_irrefl] at h;cases h
def RisesM (l:List Move):Prop:=l.Pairwise fun a b=>lessM a b=true
theorem risesM_ext:∀{a b:List Move},RisesM a→RisesM b→(∀x,x∈a↔x∈b)→a=b
 |[],[],_,_,_=>rfl
 |[],y::b,_,_,h=>absurd ((h y).2 (.head _)) (by simp)
 |x::a,[],_,_,h=>absurd ((h x).1 (.head _)) (by simp)
 |x::a,y::b,ha,hb,h=>by
  have ha':=List.pairwise_cons.1 ha
  have hb':=List.pairwise_cons.1 hb
  have hxy:x=y:=by
   rcases List.mem_cons.1 ((h x).1 (.head _)) with e|e
   ·exact e
   ·rcases List.mem_cons.1 ((h y).2 (.head _)) with e'|e'
    ·exact e'.symm
    ·have q:=less_trans (hb'.1 x e) (ha'.1 y e')
     rw [less_irrefl] at q;cases q
  subst hxy
  refine congrArg (x::·) (risesM_ext ha'.2 hb'.2 fun z=>?_)
  have:=h z
  simp only [List.mem_cons] at this
  constructor
  ·intro hz
   rcases this.1 (.inr hz) with e|e
   ·exact absurd e.symm (less_ne (ha'.1 z hz))
   ·exact e
  ·intro hz
   rcases this.2 (.inr hz) with e|e
   ·exact absurd e.symm (less_ne (hb'.1 z hz))
   ·exact e
theorem len_asc {f:Move→Int} {B:Int}:∀{l:List Move} {b:Int},(l.Pairwise fun x y=>f x<f y)→(∀x∈l,b≤f x∧f x<B)→b≤B→(l.length:Int)≤B-b
 |[],b,_,_,hb=>by simp;omega
 |x::l,b,hp,hb,hB=>by
  obtain ⟨h1,h2⟩:=List.pairwise_cons.1 hp
  obtain ⟨h3,h4⟩:=hb x (.head _)
  have:=len_asc (b:=f x+1) h2 (fun y hy=>⟨by have:=h1 y hy;omega,(hb y (.tail _ hy)).2⟩) (by omega)
  rw [List.length_cons]
  omega
theorem risesM_len {l:List Move} (hr:RisesM l) (h:∀m∈l,-4≤m.act∧m.act≤4∧0≤m.to∧m.to<60):l.length≤540:=by
 have h1:l.Pairwise fun x y=>(x.act+4)*60+x.to<(y.act+4)*60+y.to:=by
  refine List.Pairwise.imp_of_mem ?_ hr
  intro x y hx hy hxy
  unfold lessM at hxy
  have hxy:=of_decide_eq_true hxy
  have:=h x hx
  have:=h y hy
  omega
 have:=len_asc (B:=540) (b:=0) h1 (fun x hx=>by have:=h x hx;omega) (by omega)
 omega
theorem gsize_le {B:Nat}:∀{ms:List (List Move)},(∀r∈ms,r.length≤B)→gsize ms≤ms.length*B
 |[],_=>by simp [gsize]
 |r::ms,h=>by
  have h1:=h r (.head _)
  have h2:=gsize_le (B:=B) (ms:=ms) fun x hx=>h x (.tail _ hx)
  unfold gsize at h2⊢
  rw [List.map_cons,List.sum_cons,List.length_cons,Nat.add_mul,Nat.one_mul]
  omega
theorem allN_of {q:Nat→Bool} {k i:Nat} (h:∀j,i≤j→j<i+k→q j=true):allN q k i=true:=(allN_eq (q':=fun _=>true) k i h).trans (allN_true k i)
theorem graphOk_mk {ms:List (List Move)} (h1:1≤ms.length) (h2:ms.length≤60) (h:∀(i:Nat) (hi:i<ms.length),RisesM ms[i]∧∀m∈ms[i],mvOk ms.length m=true):graphOk ⟨ms⟩=true:=by
 unfold graphOk
 rw [Bool.and_eq_true]
 refine ⟨dt ⟨h1,h2⟩,allN_of fun i _ hi=>?_⟩
 have hi':i<ms.length:=by simpa using hi
 show rowOk ms.length (ms.getD i [])=true
 rw [getD_lt hi']
 obtain ⟨a1,a2⟩:=h i hi'
 refine allN_of fun k _ hk=>?_
 have hk':k<(ms[i]).length:=by simpa using hk
 unfold atOk
 rw [getD_lt hk',a2 _ (List.getElem_mem hk'),Bool.true_and]
 by_cases e:k=0
 ·rw [dt e];rfl
 ·rw [getD_lt (show k-1<(ms[i]).length by omega),List.pairwise_iff_getElem.1 a1 (k-1) k (by omega) hk' (by omega),Bool.or_true]
theorem l3s1 {R:Type} (L N:Nat) (K:List Move→Int→Int→List Move→Option R) (xs out:List Move) (i:Nat) (hi:i<xs.length) (ho:out.length<9223372036854775807):
  ∀(n k:Nat),k≤out.length→k<n→(∀j (hj:j<out.length),k≤j→lessM xs[i] out[j]=true)→
   ∃a:Nat,a≤out.length∧(∀j (hj:j<out.length),a≤j→lessM xs[i] out[j]=true)∧(∀(h:0<a) (ha:a-1<out.length),lessM xs[i] out[a-1]=false)∧
    f20.l1 L N K n xs (i:Int) (k:Int) out=K xs (i:Int) (a:Int) out:=by
 intro n
 induction n with
 |zero=>intro k _ h;omega
 |succ n ih=>
  intro k hk hn hge
  show ∃a:Nat,_∧_∧_∧f20.s1 L N _ (f20.l1 L N _ n) xs (i:Int) (k:Int) out=_
  unfold f20.s1 f20.s1'
  by_cases h0:0<k
  ·have hk1:k-1<out.length:=by omega
   rw [show decide ((k:Int)>0)=true from decide_eq_true (by omega)]
   simp only [cond_true,le0,lt_cast hi,Bool.and_true,pred_cast h0 (by omega),lt_cast hk1,Int.toNat_natCast,at_lt hi,at_lt hk1,less2_ok,Option.bind_some]
   cases hc:lessM xs[i] out[k-1] with
   |true=>
    simp only [cond_true]
    refine ih (k-1) (by omega) (by omega) fun j hj hkj=>?_
    by_cases e:j=k-1
    ·subst e;exact hc
    ·exact hge j hj (by omega)
   |false=>
    simp only [cond_false]
    exact ⟨k,hk,hge,fun _ _=>hc,rfl⟩
  ·have hk0:k=0:=by omega
   subst hk0
   rw [show decide (((0:Nat):Int)>0)=false from rfl]
   simp only [cond_false]
   exact ⟨0,by omega,hge,fun h=>absurd h (by omega),rfl⟩
theorem l3s2 {R:Type} (L N:Nat) (K:List Move→Int→Int→List Move→Option R) (xs out:List Move) (i:Int) (a:Nat) (ho:out.length<9223372036854775806):
  ∀(n k:Nat) (l:List Move),l.length=out.length+1→a≤k→k≤out.length→k-a<n→(∀j,j<k→l[j]?=out[j]?)→(∀j,k<j→l[j]?=out[j-1]?)→
   ∃l':List Move,l'.length=out.length+1∧(∀j,j<a→l'[j]?=out[j]?)∧(∀j,a<j→l'[j]?=out[j-1]?)∧
    f20.l2 L N K n xs i (a:Int) (k:Int) l=K xs i (a:Int) l':=by
 intro n
 induction n with
 |zero=>intro k l _ _ _ h;omega
 |succ n ih=>
  intro k l hl hak hk hn h1 h2
  show ∃l':List Move,_∧_∧_∧f20.s2 L N _ (f20.l2 L N _ n) xs i (a:Int) (k:Int) l=_
  unfold f20.s2 f20.s2'
  by_cases h0:a<k
  ·have hk1:k-1<l.length:=by omega
   have hk2:k<l.length:=by omega
   rw [show decide ((k:Int)>(a:Int))=true from decide_eq_true (by omega)]
   simp only [cond_true,le0,pred_cast (show 0<k by omega) (by omega),lt_cast hk1,lt_cast hk2,Bool.and_true,Int.toNat_natCast,at_lt hk1]
   refine ih (k-1) _ (by simp [hl]) (by omega) (by omega) (by omega) (fun j hj=>?_) (fun j hj=>?_)
   ·rw [List.getElem?_set_ne (by omega)];exact h1 j (by omega)
   ·by_cases e:j=k
    ·subst e
     rw [List.getElem?_set_self hk2,←h1 (j-1) (by omega),List.getElem?_eq_getElem hk1]
    ·rw [List.getElem?_set_ne (by omega)];exact h2 j (by omega)
  ·have hk0:k=a:=by omega
   subst hk0
   rw [show decide ((k:Int)>(k:Int))=false from decide_eq_false (by omega)]
   simp only [cond_false]
   exact ⟨l,hl,h1,h2,rfl⟩
theorem ins_rises {out:List Move} {x:Move} {a:Nat} (hr:RisesM out) (ha:a≤out.length) (hge:∀j (hj:j<out.length),a≤j→lessM x out[j]=true) (hlt:∀(h:0<a) (hj:a-1<out.length),lessM out[a-1] x=true):
  RisesM (out.take a++x::out.drop a):=by
 unfold RisesM
 rw [List.pairwise_append,List.pairwise_cons]
 have hd:∀y∈out.drop a,lessM x y=true:=fun y hy=>by
  obtain ⟨j,hj,rfl⟩:=List.mem_iff_getElem.1 hy
  rw [List.getElem_drop]
  exact hge _ _ (by omega)
 have ht:∀y∈out.take a,lessM y x=true:=fun y hy=>by
  obtain ⟨j,hj,rfl⟩:=List.mem_iff_getElem.1 hy
  rw [List.length_take] at hj
  rw [List.getElem_take]
  have h1:=hlt (by omega) (by omega)
  by_cases e:j=a-1
  ·subst e;exact h1
  ·exact less_trans (List.pairwise_iff_getElem.1 hr j (a-1) (by omega) (by omega) (by omega)) h1
 refine ⟨List.Pairwise.sublist (List.take_sublist _ _) hr,⟨hd,List.Pairwise.sublist (List.drop_sublist _ _) hr⟩,fun y hy z hz=>?_⟩
 rcases List.mem_cons.1 hz with rfl|hz
 ·exact ht y hy
 ·exact less_trans (ht y hy) (hd z hz)
theorem l3Sorted_ok (L N:Nat) (xs:List Move) (hx:xs.length≤1099511627776) (hL:xs.length+2<L):
  ∃ys,f20 L N xs=some ys∧RisesM ys∧(∀v,v∈ys↔v∈xs)∧ys.length≤xs.length:=by
 have hlim:=lim_eq
 show ∃ys,f20.b L N some xs=some ys∧_
 unfold f20.b f20.b'
 have key:∀(n i:Nat) (out:List Move),i≤xs.length→xs.length-i<n→out.length≤i→RisesM out→(∀v,v∈out↔v∈xs.take i)→
   ∃ys,f20.l0 L N (fun z3=>f20.p0_e0 L N some z3) n xs (i:Int) out=some ys∧RisesM ys∧(∀v,v∈ys↔v∈xs)∧ys.length≤xs.length:=by
  intro n
  induction n with
  |zero=>intro i out _ h;omega
  |succ n ih=>
   intro i out hi hn hlen hr hmem
   show ∃ys,f20.s0 L N _ (f20.l0 L N _ n) xs (i:Int) out=_∧_
   unfold f20.s0 f20.s0'
   by_cases hlt:i<xs.length
   ·simp only [lt_cast hlt,cond_true]
    obtain ⟨a,ha,hge,hla,e⟩:=l3s1 L N (fun z14 z15 z16 z17=>f20.p1_e2 L N (fun z3=>f20.p0_e0 L N some z3) (f20.l0 L N (fun z3=>f20.p0_e0 L N some z3) n) z14 z15 z16 z17) xs out i hlt (by omega) L out.length (Nat.le_refl _) (by omega) (fun j hj h=>absurd hj (by omega))
    have hmem':∀v,v∈xs.take (i+1)↔v∈xs.take i∨v=xs[i]:=fun v=>by
     rw [List.take_add_one,List.getElem?_eq_getElem hlt];simp only [Option.toList_some,List.mem_append,List.mem_singleton]
    have hwi:wi ((i:Int)+1)=((i+1:Nat):Int):=wi_nat (by omega)
    rw [e]
    have tail:(∀(h:0<a) (hj:a-1<out.length),lessM out[a-1] xs[i]=true)→∃ys,f20.j0' L N (fun z3=>f20.p0_e0 L N some z3) (f20.l0 L N (fun z3=>f20.p0_e0 L N some z3) n) (f20.l2 L N (fun z36 z37 z38 z39=>f20.p2_e4 L N (fun z3=>f20.p0_e0 L N some z3) (f20.l0 L N (fun z3=>f20.p0_e0 L N some z3) n) z36 z37 z38 z39) L) xs (i:Int) (a:Int) out=some ys∧RisesM ys∧(∀v,v∈ys↔v∈xs)∧ys.length≤xs.length:=by
     intro hlt2
     unfold f20.j0'
     have hle:decide (out.length+([(Move.mk (0:Int) (0:Int))]:(List Move)).length≤lim)=true:=dt (by simp only [List.length_cons,List.length_nil];omega)
     rw [hle,cond_true,List.length_append,show ([(Move.mk (0:Int) (0:Int))]:List Move).length=1 from rfl,pred_cast (by omega) (by omega),show out.length+1-1=out.length by omega]
     obtain ⟨l',q1,q2,q3,e2⟩:=l3s2 L N (fun z36 z37 z38 z39=>f20.p2_e4 L N (fun z3=>f20.p0_e0 L N some z3) (f20.l0 L N (fun z3=>f20.p0_e0 L N some z3) n) z36 z37 z38 z39) xs out (i:Int) a (by omega) L out.length (out++[Move.mk 0 0]) (by simp) ha (Nat.le_refl _) (by omega)
      (fun j hj=>by rw [List.getElem?_append_left hj]) (fun j hj=>by rw [List.getElem?_eq_none (by simp;omega),List.getElem?_eq_none (by omega)])
     rw [e2]
     unfold f20.p2_e4 f20.p2_e4'
     have hal:a<l'.length:=by omega
     simp only [le0,lt_cast hlt,lt_cast hal,Bool.and_true,cond_true,Int.toNat_natCast,at_lt hlt,hwi]
     have hset:l'.set a xs[i]=out.take a++xs[i]::out.drop a:=by
      apply List.ext_getElem?
      intro j
      rcases Nat.lt_trichotomy j a with h|h|h
      ·rw [List.getElem?_set_ne (by omega),q2 j h,List.getElem?_append_left (by rw [List.length_take];omega),List.getElem?_take,if_pos h]
      ·subst h
       rw [List.getElem?_set_self hal,List.getElem?_append_right (by rw [List.length_take];omega),List.length_take,show j-min j out.length=0 by omega]
       rfl
      ·rw [List.getElem?_set_ne (by omega),q3 j h,List.getElem?_append_right (by rw [List.length_take];omega),List.length_take,show j-min a out.length=(j-1-a)+1 by omega,List.getElem?_cons_succ,List.getElem?_drop,show a+(j-1-a)=j-1 by omega]
     rw [hset]
     refine ih (i+1) _ (by omega) (by omega) (by simp only [List.length_append,List.length_cons,List.length_take,List.length_drop];omega) (ins_rises hr ha hge hlt2) fun v=>?_
     rw [hmem' v,←hmem v,List.mem_append,List.mem_cons]
     constructor
     ·rintro (h|h|h)
      ·exact .inl (List.mem_of_mem_take h)
      ·exact .inr h
      ·exact .inl (List.mem_of_mem_drop h)
     ·rintro (h|h)
      ·rw [←List.take_append_drop a out,List.mem_append] at h
       rcases h with h|h
       ·exact .inl h
       ·exact .inr (.inr h)
      ·exact .inr (.inl h)
    show ∃ys,f20.p1_e2' L N _ _ _ xs (i:Int) (a:Int) out=some ys∧_
    unfold f20.p1_e2'
    by_cases h0:0<a
    ·have ha1:a-1<out.length:=by omega
     rw [show decide ((a:Int)>0)=true from decide_eq_true (by omega)]
     simp only [cond_true,le0,pred_cast h0 (by omega),lt_cast ha1,lt_cast hlt,Bool.and_true,Int.toNat_natCast,at_lt ha1,at_lt hlt,hwi]
     cases hb:Move.eqb out[a-1] xs[i] with
     |true=>
      simp only [cond_true]
      have he:out[a-1]=xs[i]:=by
       simp only [Move.eqb,Bool.and_eq_true,beq_iff_eq] at hb
       have h1:=hb.1;have h2:=hb.2
       rw [←mv_eta out[a-1],←mv_eta xs[i],h1,h2]
      refine ih (i+1) out (by omega) (by omega) (by omega) hr fun v=>?_
      rw [hmem' v,←hmem v]
      constructor
      ·exact .inl
      ·rintro (h|h)
       ·exact h
       ·rw [h,←he];exact List.getElem_mem ha1
     |false=>
      simp only [cond_false]
      refine tail fun h hj=>less_tot (hla h hj) fun e=>?_
      rw [e] at hb
      simp [Move.eqb] at hb
    ·rw [show decide ((a:Int)>0)=false from decide_eq_false (by omega)]
     simp only [cond_false]
     exact tail fun h=>absurd h h0
   ·simp only [ge_cast hlt,cond_false]
    have hi':i=xs.length:=by omega
    subst hi'
    rw [List.take_length] at hmem
    exact ⟨out,rfl,hr,hmem,hlen⟩
 exact key L 0 [] (by omega) (by omega) (Nat.le_refl _) List.Pairwise.nil (fun v=>by simp)
end Go.Proofs.YtfdcjocallblcaaGreatDoor.Ev
namespace Go.Proofs.YtfdcjocallblcaaGreatDoor.Ev
open Go
set_option linter.unusedVariables false
set_option linter.unusedSimpArgs false
theorem gsize_set:∀{ms:List (List Move)} {i:Nat} {r:List Move} (hi:i<ms.length),gsize (ms.set i r)+(ms[i]).length=gsize ms+r.length
 |[],_,_,h=>by simp at h
 |a::ms,0,r,_=>by simp [gsize];omega
 |a::ms,i+1,r,h=>by
  have ih:=gsize_set (ms:=ms) (i:=i) (r:=r) (by simpa using h)
  unfold gsize at ih⊢
  simp only [List.set_cons_succ,List.map_cons,List.sum_cons,List.getElem_cons_succ]
  omega
theorem gsize_nils:∀n:Nat,gsize (List.replicate n [])=0
 |0=>rfl
 |n+1=>by
  have ih:=gsize_nils n
  unfold gsize at ih⊢
  rw [List.replicate_succ,List.map_cons,List.sum_cons,ih];rfl
theorem graphBy_ok (L N:Nat) (hL:8589934592≤L) (n:Int) (xs:List Int) (hx:xs.length≤2147483647):∃rows,f4 L N n xs=some ⟨rows⟩∧rows.length≤120∧gsize rows≤2147483650:=by
 have hlim:=lim_eq
 show ∃rows,f4.b L N some n xs=some ⟨rows⟩∧_
 unfold f4.b f4.b'
 by_cases h1:n<1
 ·rw [dt h1,cond_true];exact ⟨[],rfl,by simp,by simp [gsize]⟩
 rw [df h1,cond_false]
 by_cases h2:n>120
 ·rw [dt h2,cond_true];exact ⟨[],rfl,by simp,by simp [gsize]⟩
 rw [df h2,cond_false]
 obtain ⟨k,rfl⟩:=Int.eq_ofNat_of_zero_le (show 0≤n by omega)
 unfold f4.j1'
 rw [le0,dt (show (k:Int)≤(lim:Int) by omega),Bool.and_true,cond_true,Int.toNat_natCast]
 have sorted:∀(q i:Nat) (rows:List (List Move)),rows.length=k→i≤k→k-i<q→gsize rows≤2147483650→
   ∃rows',f4.l1 L N (fun z23=>f4.p1_e2 L N some z23) q (k:Int) (i:Int) rows=some ⟨rows'⟩∧rows'.length≤120∧gsize rows'≤2147483650:=by
  intro q
  induction q with
  |zero=>intro i rows _ _ h;omega
  |succ q ih=>
   intro i rows hr hi hq hg
   show ∃rows',f4.s1 L N _ (f4.l1 L N _ q) (k:Int) (i:Int) rows=_∧_
   unfold f4.s1 f4.s1'
   by_cases hlt:i<k
   ·have hir:i<rows.length:=by omega
    have hrow:=gsize_row _ (List.getElem_mem hir)
    obtain ⟨ys,y1,y2,y3,y4⟩:=l3Sorted_ok L N rows[i] (by omega) (by omega)
    have hgs:=gsize_set (r:=ys) hir
    simp only [lt_cast hlt,le0,lt_cast hir,Bool.and_true,cond_true,Int.toNat_natCast,at_lt hir,y1,Option.bind_some,Nat.beq_refl]
    rw [wi_nat (by omega)]
    exact ih (i+1) _ (by rw [List.length_set];exact hr) (by omega) (by omega) (by omega)
   ·rw [ge_cast hlt,cond_false]
    exact ⟨rows,rfl,by omega,hg⟩
 have fill:∀(q p:Nat) (rows:List (List Move)),rows.length=k→xs.length+3-p<q→p≤xs.length+2→gsize rows≤p→
   ∃rows',f4.l0 L N (fun z9 z10=>f4.p0_e0 L N some z9 z10) q (k:Int) xs (p:Int) rows=some ⟨rows'⟩∧rows'.length≤120∧gsize rows'≤2147483650:=by
  intro q
  induction q with
  |zero=>intro p rows _ h;omega
  |succ q ih=>
   intro p rows hr hq hp hg
   show ∃rows',f4.s0 L N _ (f4.l0 L N _ q) (k:Int) xs (p:Int) rows=_∧_
   unfold f4.s0 f4.s0'
   have w2:wi ((p:Int)+2)=((p+2:Nat):Int):=by rw [wi_id (by omega) (by omega)];omega
   have w1:wi ((p:Int)+1)=((p+1:Nat):Int):=by rw [wi_id (by omega) (by omega)];omega
   have w3:wi ((p:Int)+3)=((p+3:Nat):Int):=by rw [wi_id (by omega) (by omega)];omega
   rw [w2]
   by_cases hlt:p+2<xs.length
   ·have hp0:p<xs.length:=by omega
    have hp1:p+1<xs.length:=by omega
    simp only [lt_cast hlt,le0,lt_cast hp0,Bool.and_true,cond_true,Int.toNat_natCast,at_lt hp0]
    have skip:∃rows',f4.j0' L N (fun z9 z10=>f4.p0_e0 L N some z9 z10) (f4.l0 L N (fun z9 z10=>f4.p0_e0 L N some z9 z10) q) (k:Int) xs (p:Int) false rows=some ⟨rows'⟩∧rows'.length≤120∧gsize rows'≤2147483650:=by
     unfold f4.j0'
     rw [cond_false,w3]
     exact ih (p+3) rows hr (by omega) (by omega) (by omega)
    by_cases g0:xs[p]≥0
    ·rw [dt g0,cond_true]
     by_cases g1:xs[p]<(k:Int)
     ·rw [dt g1]
      obtain ⟨a,ha⟩:=Int.eq_ofNat_of_zero_le g0
      have har:a<rows.length:=by omega
      have hrow:=gsize_row _ (List.getElem_mem har)
      have hgs:=gsize_set (r:=rows[a]++[Move.mk xs[p+1] xs[p+2]]) har
      have hle:decide ((rows[a]).length+([Move.mk xs[p+1] xs[p+2]]:List Move).length≤lim)=true:=dt (by simp only [List.length_cons,List.length_nil];omega)
      unfold f4.j0'
      simp only [cond_true,le0,lt_cast hp0,Bool.and_true,Int.toNat_natCast,at_lt hp0,ha,lt_cast har,at_lt har,w1,w2,w3,lt_cast hp1,lt_cast hlt,at_lt hp1,at_lt hlt,hle,Nat.beq_refl]
      refine ih (p+3) _ (by rw [List.length_set];exact hr) (by omega) (by omega) ?_
      rw [List.length_append,List.length_singleton] at hgs
      omega
     ·rw [df g1];exact skip
    ·rw [df g0,cond_false];exact skip
   ·rw [ge_cast hlt,cond_false]
    show ∃rows',f4.p0_e0' L N some _ (k:Int) rows=_∧_
    unfold f4.p0_e0'
    exact sorted L 0 rows hr (by omega) (by omega) (by omega)
 exact fill L 0 (List.replicate k []) (by simp) (by omega) (by omega) (by rw [gsize_nils];omega)
theorem okRows {g:Graph} (h:graphOk g=true):∀(i:Nat) (hi:i<g.moves.length),RisesM g.moves[i]∧∀m∈g.moves[i],mvOk g.moves.length m=true:=by
 have h0:=h
 unfold graphOk at h
 simp only [Bool.and_eq_true,decide_eq_true_eq] at h
 intro i hi
 have h1:=allN_get _ 0 h.2 i (by omega) (by omega)
 simp only [getD_lt hi] at h1
 have hat:∀(k:Nat) (hk:k<(g.moves[i]).length),atOk g.moves.length g.moves[i] k=true:=fun k hk=>allN_get _ 0 h1 k (by omega) (by omega)
 refine ⟨?_,fun m hm=>?_⟩
 ·have step:∀(k:Nat) (hk:k+1<(g.moves[i]).length),lessM (g.moves[i])[k] (g.moves[i])[k+1]=true:=fun k hk=>by
   have:=hat (k+1) hk
   unfold atOk at this
   rw [Bool.and_eq_true,df (by omega),Bool.false_or,getD_lt hk,Nat.add_sub_cancel,getD_lt (show k<(g.moves[i]).length by omega)] at this
   exact this.2
  have far:∀(d k:Nat) (hk:k+d+1<(g.moves[i]).length),lessM (g.moves[i])[k] (g.moves[i])[k+d+1]=true:=by
   intro d
   induction d with
   |zero=>intro k hk;exact step k hk
   |succ d ih=>intro k hk;exact less_trans (ih k (by omega)) (step (k+d+1) hk)
  unfold RisesM
  rw [List.pairwise_iff_getElem]
  intro a b ha hb hab
  have:=far (b-a-1) a (by omega)
  simpa only [show a+(b-a-1)+1=b by omega] using this
 ·obtain ⟨k,hk,rfl⟩:=List.mem_iff_getElem.1 hm
  have:=hat k hk
  unfold atOk at this
  rw [Bool.and_eq_true,getD_lt hk] at this
  exact this.1
theorem ok_small {g:Graph} (h:graphOk g=true):(∀r∈g.moves,r.length≤540)∧g.moves.length+gsize g.moves≤1048576:=by
 obtain ⟨h1,h2,-⟩:=graphOk_mv h
 have hr:∀r∈g.moves,r.length≤540:=fun r hr=>by
  obtain ⟨i,hi,rfl⟩:=List.mem_iff_getElem.1 hr
  obtain ⟨q1,q2⟩:=okRows h i hi
  refine risesM_len q1 fun m hm=>?_
  have h3:=q2 m hm
  unfold mvOk at h3
  simp only [Bool.and_eq_true,decide_eq_true_eq] at h3
  omega
 have:=gsize_le hr
 exact ⟨hr,by omega⟩
end Go.Proofs.YtfdcjocallblcaaGreatDoor.Ev
namespace Go.Proofs.YtfdcjocallblcaaGreatDoor.Ev
open Go
set_option linter.unusedVariables false
set_option linter.unusedSimpArgs false
def Rises (l:List Int):Prop:=l.Pairwise (·<·)
theorem rises_ext:∀{a b:List Int},Rises a→Rises b→(∀x,x∈a↔x∈b)→a=b
 |[],[],_,_,_=>rfl
 |[],y::b,_,_,h=>absurd ((h y).2 (.head _)) (by simp)
 |x::a,[],_,_,h=>absurd ((h x).1 (.head _)) (by simp)
 |x::a,y::b,ha,hb,h=>by
  have ha':=List.pairwise_cons.1 ha
  have hb':=List.pairwise_cons.1 hb
  have hxy:x=y:=by
   rcases List.mem_cons.1 ((h x).1 (.head _)) with e|e
   ·exact e
   ·rcases List.mem_cons.1 ((h y).2 (.head _)) with e'|e'
    ·exact e'.symm
    ·have:=hb'.1 x e;have:=ha'.1 y e';omega
  subst hxy
  refine congrArg (x::·) (rises_ext ha'.2 hb'.2 fun z=>?_)
  have:=h z
  simp only [List.mem_cons] at this
  constructor
  ·intro hz
   rcases this.1 (.inr hz) with e|e
   ·have:=ha'.1 z hz;omega
   ·exact e
  ·intro hz
   rcases this.2 (.inr hz) with e|e
   ·have:=hb'.1 z hz;omega
   ·exact e
def Tr (l:List Bool) (t:Nat):Prop:=l.getD t false=true
theorem Tr_lt {l:List Bool} {t:Nat} (h:Tr l t):t<l.length:=by
 unfold Tr at h
 rw [List.getD_eq_getElem?_getD] at h
 by_cases hl:t<l.length
 ·exact hl
 ·rw [List.getElem?_eq_none (by omega)] at h;cases h
theorem Tr_set {l:List Bool} {j t:Nat} (hj:j<l.length):Tr (l.set j true) t↔t=j∨Tr l t:=by
 unfold Tr
 rw [List.getD_eq_getElem?_getD,List.getD_eq_getElem?_getD]
 by_cases h:t=j
 ·subst h;rw [List.getElem?_set_self hj];simp
 ·rw [List.getElem?_set_ne (Ne.symm h)];simp [h]
theorem Tr_replicate (n t:Nat):¬Tr (List.replicate n false) t:=by
 unfold Tr
 rw [List.getD_eq_getElem?_getD,List.getElem?_replicate]
 split<;>simp
def cnt:List Bool→Nat
 |[]=>0
 |b::r=>(bif b then 1 else 0)+cnt r
theorem cnt_le:∀l:List Bool,cnt l≤l.length
 |[]=>Nat.le_refl _
 |b::r=>by have:=cnt_le r;cases b<;>simp [cnt]<;>omega
theorem cnt_set:∀(l:List Bool) (j:Nat),j<l.length→l.getD j false=false→cnt (l.set j true)=cnt l+1
 |b::r,0,_,h=>by
  have hb:b=false:=h
  subst hb
  simp [cnt];omega
 |b::r,j+1,hj,h=>by
  have:=cnt_set r j (by simpa using hj) (by simpa using h)
  simp only [List.set_cons_succ,cnt,this];omega
theorem cnt_replicate (n:Nat):cnt (List.replicate n false)=0:=by
 induction n with
 |zero=>rfl
 |succ n ih=>rw [List.replicate_succ];simp [cnt,ih]
inductive Slip (ms:List (List Move)) (X:Nat→Prop):Nat→Prop
 |base (t:Nat) (h:X t):Slip ms X t
 |step (s t:Nat) (hs:Slip ms X s) (hl:s<ms.length) (k:Nat) (hk:k<(ms[s]).length) (ha:(ms[s])[k].act=0) (ht:(ms[s])[k].to=(t:Int)):Slip ms X t
theorem Slip.mono {ms:List (List Move)} {X Y:Nat→Prop} (h:∀t,X t→Y t) {t:Nat} (r:Slip ms X t):Slip ms Y t:=by
 induction r with
 |base t hx=>exact .base t (h t hx)
 |step s t _ hl k hk ha ht ih=>exact .step s t ih hl k hk ha ht
theorem Slip.iff {ms:List (List Move)} {X Y:Nat→Prop} (h:∀t,X t↔Y t) (t:Nat):Slip ms X t↔Slip ms Y t:=⟨fun r=>r.mono fun t hx=>(h t).1 hx,fun r=>r.mono fun t hx=>(h t).2 hx⟩
def Leads (ms:List (List Move)):Prop:=ms.length≤60∧∀(i:Nat) (hi:i<ms.length),(ms[i]).length≤1048576∧∀(k:Nat) (hk:k<(ms[i]).length),0≤(ms[i])[k].to∧(ms[i])[k].to<(ms.length:Int)
theorem leads_of {g:Graph} (h:graphOk g=true) (hs:g.moves.length+gsize g.moves≤1048576):Leads g.moves:=by
 obtain ⟨h1,h2,h3⟩:=graphOk_mv h
 refine ⟨h2,fun i hi=>⟨?_,fun k hk=>?_⟩⟩
 ·have:=gsize_row _ (List.getElem_mem hi);omega
 ·have:=h3 i hi k hk;exact ⟨this.2.2.1,this.2.2.2⟩
theorem Leads.nat {ms:List (List Move)} (h:Leads ms) {i:Nat} (hi:i<ms.length) {k:Nat} (hk:k<(ms[i]).length):∃t:Nat,(ms[i])[k].to=(t:Int)∧t<ms.length:=by
 obtain ⟨h1,h2⟩:=(h.2 i hi).2 k hk
 obtain ⟨t,ht⟩:=Int.eq_ofNat_of_zero_le h1
 exact ⟨t,ht,by omega⟩
def Mv (ms:List (List Move)) (s:Nat) (a:Int) (t:Nat):Prop:=∃(hs:s<ms.length) (k:Nat) (hk:k<(ms[s]).length),(ms[s])[k].act=a∧(ms[s])[k].to=(t:Int)
theorem Mv.lt {ms:List (List Move)} (hm:Leads ms) {s t:Nat} {a:Int} (h:Mv ms s a t):s<ms.length∧t<ms.length:=by
 obtain ⟨hs,k,hk,-,ht⟩:=h
 have:=(hm.2 s hs).2 k hk
 exact ⟨hs,by omega⟩
theorem slip_ind {ms:List (List Move)} {X P:Nat→Prop} (h0:∀t,X t→P t) (h1:∀s t,P s→Mv ms s 0 t→P t) {t:Nat} (h:Slip ms X t):P t:=by
 induction h with
 |base t hx=>exact h0 t hx
 |step s t _ hl k hk ha ht ih=>exact h1 s t ih ⟨hl,k,hk,ha,ht⟩
end Go.Proofs.YtfdcjocallblcaaGreatDoor.Ev
namespace Go.Proofs.YtfdcjocallblcaaGreatDoor.Ev
open Go
set_option linter.unusedVariables false
set_option linter.unusedSimpArgs false
def QOk (ms:List (List Move)) (seen:List Bool) (q:List Int):Prop:=seen.length=ms.length∧(∀v∈q,∃t:Nat,v=(t:Int)∧Tr seen t)∧(∀t:Nat,Tr seen t→(t:Int)∈q)∧q.length=cnt seen∧q.Nodup
theorem QOk.add {ms:List (List Move)} {seen:List Bool} {q:List Int} (h:QOk ms seen q) {t:Nat} (ht:t<ms.length) (hf:seen.getD t false=false):QOk ms (seen.set t true) (q++[(t:Int)]):=by
 obtain ⟨h1,h2,h3,h4,h5⟩:=h
 refine ⟨by simp [h1],fun v hv=>?_,fun t' ht'=>?_,?_,?_⟩
 ·rcases List.mem_append.1 hv with hv|hv
  ·obtain ⟨s,rfl,hs⟩:=h2 v hv
   exact ⟨s,rfl,(Tr_set (by omega)).2 (.inr hs)⟩
  ·obtain rfl:=List.mem_singleton.1 hv
   exact ⟨t,rfl,(Tr_set (by omega)).2 (.inl rfl)⟩
 ·rcases (Tr_set (by omega)).1 ht' with rfl|h
  ·exact List.mem_append_right _ (List.mem_singleton.2 rfl)
  ·exact List.mem_append_left _ (h3 t' h)
 ·rw [List.length_append,cnt_set _ _ (by omega) hf,h4];rfl
 ·refine List.nodup_append.2 ⟨h5,by simp,fun a ha b hb e=>?_⟩
  obtain rfl:=List.mem_singleton.1 hb
  obtain ⟨s,hs,hT⟩:=h2 a ha
  obtain rfl:s=t:=by omega
  unfold Tr at hT
  rw [hf] at hT;cases hT
theorem QOk.len {ms:List (List Move)} {seen:List Bool} {q:List Int} (h:QOk ms seen q):q.length≤ms.length:=by
 have:=cnt_le seen
 obtain ⟨h1,-,-,h4,-⟩:=h
 omega
theorem sortI_rises {q:List Int} (h:q.Nodup):Rises (sortI q):=by
 have h1:(sortI q).Pairwise fun a b=>decide (a≤b)=true:=List.pairwise_mergeSort (fun a b c hab hbc=>by simp only [decide_eq_true_eq] at*;omega) (fun a b=>by simp only [Bool.or_eq_true,decide_eq_true_eq];omega) q
 have h2:(sortI q).Nodup:=(List.mergeSort_perm q _).nodup_iff.2 h
 exact (h1.and h2).imp fun {a b} hab=>by have:=of_decide_eq_true hab.1;have:=hab.2;omega
theorem slip1_ok (L N:Nat) (ms:List (List Move)) (list:List Int) (hm:Leads ms) (hl:∀v∈list,0≤v∧v<(ms.length:Int)) (hLl:list.length<L) (hll:list.length≤lim) (hL:1048576<L):
  ∃q,f60 L N ⟨ms⟩ list=some q∧q.length≤ms.length∧(∀v∈q,0≤v∧v<(ms.length:Int))∧(∀t:Nat,(t:Int)∈q↔Slip ms (fun s=>(s:Int)∈list) t)∧Rises q:=by
 have hlim:=lim_eq
 have hn:=hm.1
 show ∃q,f60.b L N some ⟨ms⟩ list=some q∧_
 unfold f60.b f60.b'
 have h0:(decide ((0:Int)≤(ms.length:Int))&&decide ((ms.length:Int)≤(lim:Int)))=true:=by rw [le0,dt (by omega)];rfl
 simp only [h0,cond_true]
 have work:∀(m k:Nat) (seen:List Bool) (q:List Int),k≤q.length→ms.length+1-k<m→QOk ms seen q→(∀v∈q,∃t:Nat,v=(t:Int)∧Slip ms (fun s=>(s:Int)∈list) t)→(∀v∈list,v∈q)→
   (∀(j:Nat) (hj:j<q.length),j<k→∀s:Nat,q[j]=(s:Int)→∀(hs:s<ms.length) (i:Nat) (hi:i<(ms[s]).length),(ms[s])[i].act=0→∀t:Nat,(ms[s])[i].to=(t:Int)→Tr seen t)→
   ∃r,f60.l1 L N (fun z19=>f60.p1_e2 L N some z19) m (k:Int) ms seen q=some r∧r.length≤ms.length∧(∀v∈r,0≤v∧v<(ms.length:Int))∧(∀t:Nat,(t:Int)∈r↔Slip ms (fun s=>(s:Int)∈list) t)∧Rises r:=by
  intro m
  induction m with
  |zero=>intro k seen q _ h;omega
  |succ m ih=>
   intro k seen q hk hmk hq hsl hba hpr
   have hql:=hq.len
   show ∃r,f60.s1 L N _ (f60.l1 L N _ m) (k:Int) ms seen q=some r∧_
   unfold f60.s1 f60.s1'
   by_cases hlt:k<q.length
   ·obtain ⟨s,hs,hTs⟩:=hq.2.1 _ (List.getElem_mem hlt)
    have hsn:s<ms.length:=by have:=Tr_lt hTs;rw [hq.1] at this;exact this
    have hrow:=(hm.2 s hsn).1
    simp only [lt_cast hlt,le0,Bool.and_true,cond_true,Int.toNat_natCast,at_lt hlt,hs,lt_cast hsn,at_lt hsn]
    obtain ⟨t0,hst0,hslip0⟩:=hsl _ (List.getElem_mem hlt)
    obtain rfl:s=t0:=by rw [hs] at hst0;omega
    obtain ⟨st,g1,g2,g3,g4,g5,g6⟩:=inv_loop (l:=fun n' i st=>f60.l2 L N (fun z27 z28 z29 z30=>f60.p2_e4 L N (fun z19=>f60.p1_e2 L N some z19) (f60.l1 L N (fun z19=>f60.p1_e2 L N some z19) m) z27 z28 z29 z30) n' (k:Int) ms[s] ((ms[s]).length:Int) i ms st.1 st.2) (len:=(ms[s]).length)
     (K:=fun st:List Bool×List Int=>f60.l1 L N (fun z19=>f60.p1_e2 L N some z19) m ((k+1:Nat):Int) ms st.1 st.2)
     (fun i st=>QOk ms st.1 st.2∧(∀v∈st.2,∃t:Nat,v=(t:Int)∧Slip ms (fun s=>(s:Int)∈list) t)∧(∀j:Nat,j<q.length→st.2[j]?=q[j]?)∧(∀t,Tr seen t→Tr st.1 t)∧∀(i':Nat) (hi':i'<(ms[s]).length),i'<i→(ms[s])[i'].act=0→∀t:Nat,(ms[s])[i'].to=(t:Int)→Tr st.1 t)
     (fun n' i st hi ⟨r1,r2,r3,r4,r5⟩=>by
      show ∃s',f60.s2 L N _ (f60.l2 L N _ n') (k:Int) ms[s] ((ms[s]).length:Int) i ms st.1 st.2=_∧_
      unfold f60.s2 f60.s2'
      obtain ⟨t,ht,htl⟩:=hm.nat hsn hi
      have hsl1:=r1.1
      simp only [le0,lt_cast hi,Bool.and_true,Bool.true_and,cond_true,Int.toNat_natCast,at_lt hi,ht,lt_cast (show t<st.1.length by omega),atD]
      unfold f60.j0'
      simp only [le0,lt_cast (show t<st.1.length by omega),Bool.and_true,cond_true,Int.toNat_natCast,wi_nat (show i<9223372036854775807 by omega)]
      have stay:¬((ms[s])[i].act=0∧¬Tr st.1 t)→(QOk ms st.1 st.2∧(∀v∈st.2,∃t:Nat,v=(t:Int)∧Slip ms (fun s=>(s:Int)∈list) t)∧(∀j:Nat,j<q.length→st.2[j]?=q[j]?)∧(∀t,Tr seen t→Tr st.1 t)∧∀(i':Nat) (hi':i'<(ms[s]).length),i'<i+1→(ms[s])[i'].act=0→∀t:Nat,(ms[s])[i'].to=(t:Int)→Tr st.1 t):=by
       intro hno
       refine ⟨r1,r2,r3,r4,fun i' hi' hlt' ha' t' ht'=>?_⟩
       by_cases he:i'=i
       ·subst he
        rw [ht] at ht'
        obtain rfl:t=t':=by omega
        by_cases hT:Tr st.1 t
        ·exact hT
        ·exact absurd ⟨ha',hT⟩ hno
       ·exact r5 i' hi' (by omega) ha' t' ht'
      by_cases ha:(ms[s])[i].act=0
      ·have hb:((ms[s])[i].act==0)=true:=by simpa using ha
       rw [hb]
       simp only [cond_true]
       cases ht2:st.1.getD t false
       ·have hqq:=r1.len
        have hle:decide (st.2.length+([(t:Int)]:List Int).length≤lim)=true:=dt (by simp only [List.length_cons,List.length_nil];omega)
        simp only [Bool.not_false,cond_true,hle]
        refine ⟨(st.1.set t true,st.2++[(t:Int)]),rfl,r1.add htl ht2,fun v hv=>?_,fun j hj=>?_,fun t' ht'=>(Tr_set (by omega)).2 (.inr (r4 t' ht')),fun i' hi' hlt' ha' t' ht'=>?_⟩
        ·rcases List.mem_append.1 hv with hv|hv
         ·exact r2 v hv
         ·obtain rfl:=List.mem_singleton.1 hv
          exact ⟨t,rfl,.step s t hslip0 hsn i hi ha ht⟩
        ·have hjl:j<st.2.length:=by
          have:=r3 j hj
          rw [List.getElem?_eq_getElem hj] at this
          exact (List.getElem?_eq_some_iff.1 this).1
         show (st.2++[(t:Int)])[j]?=q[j]?
         rw [List.getElem?_append_left hjl];exact r3 j hj
        ·by_cases he:i'=i
         ·subst he
          rw [ht] at ht'
          obtain rfl:t=t':=by omega
          exact (Tr_set (by omega)).2 (.inl rfl)
         ·exact (Tr_set (by omega)).2 (.inr (r5 i' hi' (by omega) ha' t' ht'))
       ·simp only [Bool.not_true,cond_false]
        exact ⟨st,rfl,stay fun h=>h.2 ht2⟩
      ·have hb:((ms[s])[i].act==0)=false:=by simpa using ha
       rw [hb]
       simp only [cond_false]
       exact ⟨st,rfl,stay fun h=>ha h.1⟩)
     (fun n' st _=>by
      show f60.s2 L N _ (f60.l2 L N _ n') (k:Int) ms[s] ((ms[s]).length:Int) (ms[s]).length ms st.1 st.2=_
      unfold f60.s2 f60.s2'
      simp only [ge_cast (Nat.lt_irrefl _),cond_false]
      show f60.l1 L N _ m (wi ((k:Int)+1)) ms st.1 st.2=_
      rw [wi_nat (by omega)])
     L 0 (seen,q) (by omega) (by omega) ⟨hq,hsl,fun _ _=>rfl,fun _ h=>h,fun _ _ h=>by omega⟩
    have hlen:q.length≤st.2.length:=by
     by_cases h0:q.length=0
     ·omega
     ·have:=g4 (q.length-1) (by omega)
      rw [List.getElem?_eq_getElem (show q.length-1<q.length by omega)] at this
      have:=(List.getElem?_eq_some_iff.1 this).1
      omega
    refine (fun ⟨r,h1,h2⟩=>⟨r,g1.trans h1,h2⟩:(∃r,_=some r∧_)→∃r,_=some r∧_) (ih (k+1) st.1 st.2 (by omega) (by omega) g2 g3 (fun v hv=>?_) (fun j hj hjk s' hs' hsl' i hi ha t ht=>?_))
    ·obtain ⟨j,hj,rfl⟩:=List.mem_iff_getElem.1 (hba v hv)
     have:=g4 j hj
     rw [List.getElem?_eq_getElem hj] at this
     exact List.mem_of_getElem? this
    ·by_cases hjk':j=k
     ·subst hjk'
      have:=g4 j hlt
      rw [List.getElem?_eq_getElem hlt,List.getElem?_eq_getElem hj] at this
      have h9:st.2[j]=q[j]:=Option.some.inj this
      rw [hs',hs] at h9
      obtain rfl:s'=s:=by omega
      exact g6 i hi hi ha t ht
     ·have hjq:j<q.length:=by omega
      have:=g4 j hjq
      rw [List.getElem?_eq_getElem hjq,List.getElem?_eq_getElem hj] at this
      have h9:st.2[j]=q[j]:=Option.some.inj this
      exact g5 t (hpr j hjq (by omega) s' (by rw [←h9];exact hs') hsl' i hi ha t ht)
   ·have hkl:k=q.length:=by omega
    subst hkl
    simp only [ge_cast (Nat.lt_irrefl _),cond_false]
    have hfs:fsort q=some ():=by unfold fsort;rw [dt (by omega)];rfl
    refine ⟨sortI q,?_,by rw [sortI_length];exact hql,fun v hv=>?_,fun t=>?_,sortI_rises hq.2.2.2.2⟩
    ·show ((fsort q).bind fun _=>some (sortI q))=_
     rw [hfs];rfl
    ·obtain ⟨t,rfl,hT⟩:=hq.2.1 v ((sortI_mem q v).1 hv)
     have:=Tr_lt hT
     rw [hq.1] at this
     omega
    ·rw [sortI_mem]
     constructor
     ·intro h
      obtain ⟨t',h1,h2⟩:=hsl _ h
      obtain rfl:t=t':=by omega
      exact h2
     ·intro r
      refine hq.2.2.1 t ?_
      induction r with
      |base t hx=>
       obtain ⟨t',h1,h2⟩:=hq.2.1 _ (hba _ hx)
       obtain rfl:t=t':=by omega
       exact h2
      |step s t _ hs i hi ha ht ihr=>
       obtain ⟨j,hj,hjs⟩:=List.mem_iff_getElem.1 (hq.2.2.1 s ihr)
       exact hpr j hj hj s hjs hs i hi ha t ht
 obtain ⟨st,g1,g2,g3,g4⟩:=inv_loop (l:=fun n i st=>f60.l0 L N (fun z6 z7 z8=>f60.p0_e0 L N some z6 z7 z8) n list (list.length:Int) i ms st.1 st.2) (len:=list.length)
  (K:=fun st:List Bool×List Int=>f60.l1 L N (fun z19=>f60.p1_e2 L N some z19) L (0:Int) ms st.1 st.2)
  (fun i st=>QOk ms st.1 st.2∧(∀v∈st.2,v∈list)∧∀(j:Nat) (hj:j<list.length),j<i→list[j]∈st.2)
  (fun n i st hi ⟨r1,r2,r3⟩=>by
   show ∃s',f60.s0 L N _ (f60.l0 L N _ n) list (list.length:Int) i ms st.1 st.2=_∧_
   unfold f60.s0 f60.s0'
   obtain ⟨h1,h2⟩:=hl _ (List.getElem_mem hi)
   obtain ⟨t,ht⟩:=Int.eq_ofNat_of_zero_le h1
   have htl:t<ms.length:=by omega
   have hsl1:=r1.1
   have hqq:=r1.len
   have hle:decide (st.2.length+([(t:Int)]:List Int).length≤lim)=true:=dt (by simp only [List.length_cons,List.length_nil];omega)
   simp only [le0,lt_cast hi,Bool.and_true,Bool.true_and,cond_true,Int.toNat_natCast,at_lt hi,ht,lt_cast (show t<st.1.length by omega),atD,hle,wi_nat (show i<9223372036854775807 by omega)]
   cases ht2:st.1.getD t false
   ·simp only [Bool.not_false,cond_true]
    refine ⟨(st.1.set t true,st.2++[(t:Int)]),rfl,r1.add htl ht2,fun v hv=>?_,fun j hj hji=>?_⟩
    ·rcases List.mem_append.1 hv with hv|hv
     ·exact r2 v hv
     ·obtain rfl:=List.mem_singleton.1 hv
      rw [←ht];exact List.getElem_mem hi
    ·by_cases he:j=i
     ·subst he
      rw [ht];exact List.mem_append_right _ (List.mem_singleton.2 rfl)
     ·exact List.mem_append_left _ (r3 j hj (by omega))
   ·simp only [Bool.not_true,cond_false]
    refine ⟨st,rfl,r1,r2,fun j hj hji=>?_⟩
    by_cases he:j=i
    ·subst he
     rw [ht];exact r1.2.2.1 t ht2
    ·exact r3 j hj (by omega))
  (fun n st _=>by
   show f60.s0 L N _ (f60.l0 L N _ n) list (list.length:Int) list.length ms st.1 st.2=_
   unfold f60.s0 f60.s0'
   simp only [ge_cast (Nat.lt_irrefl _),cond_false]
   rfl)
  L 0 (List.replicate ms.length false,[]) (by omega) (by omega)
  ⟨⟨by simp,fun v hv=>by simp at hv,fun t h=>absurd h (Tr_replicate _ t),by rw [cnt_replicate];rfl,List.nodup_nil⟩,fun v hv=>by simp at hv,fun _ _ h=>by omega⟩
 have e0:((ms.length:Int)).toNat=ms.length:=rfl
 rw [e0]
 refine (show ∃q,_=some q∧_ from ?_)
 have h1:=work L 0 st.1 st.2 (by omega) (by omega) g2 (fun v hv=>by
  obtain ⟨t,rfl,-⟩:=g2.2.1 v hv
  exact ⟨t,rfl,.base t (g3 _ hv)⟩) (fun v hv=>by
  obtain ⟨j,hj,rfl⟩:=List.mem_iff_getElem.1 hv
  exact g4 j hj hj) (fun _ _ h=>by omega)
 obtain ⟨r,h2,h3⟩:=h1
 exact ⟨r,g1.trans h2,h3⟩
end Go.Proofs.YtfdcjocallblcaaGreatDoor.Ev
namespace Go.Proofs.YtfdcjocallblcaaGreatDoor.Ev
open Go
set_option linter.unusedVariables false
set_option linter.unusedSimpArgs false
def NextE (E:Nat→Nat→Prop) (n:Nat) (q:List Int):Prop:=q.length=n∧∀(i:Nat) (hi:i<q.length),∃j:Nat,q[i]=(j:Int)∧j≤i∧E j i∧∀j',j'<j→¬E j' i
theorem NextE.uniq {E:Nat→Nat→Prop} {n:Nat} {q q':List Int} (h:NextE E n q) (h':NextE E n q'):q=q':=by
 apply List.ext_getElem
 ·rw [h.1,h'.1]
 ·intro i h1 h2
  obtain ⟨j,a1,a2,a3,a4⟩:=h.2 i h1
  obtain ⟨k,b1,b2,b3,b4⟩:=h'.2 i h2
  have:j=k:=by
   rcases Nat.lt_trichotomy j k with h|h|h
   ·exact absurd a3 (b4 j h)
   ·exact h
   ·exact absurd b3 (a4 k h)
  rw [a1,b1,this]
theorem NextE.congr {E F:Nat→Nat→Prop} {n:Nat} {q:List Int} (h:NextE E n q) (he:∀i j,j≤i→i<n→(E j i↔F j i)):NextE F n q:=
 ⟨h.1,fun i hi=>by
  obtain ⟨j,a1,a2,a3,a4⟩:=h.2 i hi
  have hn:i<n:=by rw [←h.1];exact hi
  exact ⟨j,a1,a2,(he i j a2 hn).1 a3,fun j' hj' hf=>a4 j' hj' ((he i j' (by omega) hn).2 hf)⟩⟩
def Low (p:List Int):Prop:=∀(i:Nat) (hi:i<p.length),0≤p[i]∧p[i]≤(i:Int)
theorem low_zero (n:Nat):Low (List.replicate n (0:Int)):=fun i hi=>by rw [List.getElem_replicate];omega
theorem NextE.low {E:Nat→Nat→Prop} {n:Nat} {q:List Int} (h:NextE E n q):Low q:=fun i hi=>by
 obtain ⟨j,a1,a2,-⟩:=h.2 i hi
 rw [a1];omega
theorem NextE.ge {E:Nat→Nat→Prop} {n:Nat} {p q:List Int} (h:NextE E n q) (hp:p.length=n) (hl:Low p) (hE:∀j i,E j i→p.getD j 0=p.getD i 0):∀(i:Nat) (h1:i<p.length) (h2:i<q.length),p[i]≤q[i]:=fun i h1 h2=>by
 obtain ⟨j,a1,a2,a3,-⟩:=h.2 i h2
 have e:=hE j i a3
 have hj:j<p.length:=by omega
 rw [getD_lt h1,getD_lt hj] at e
 have:=(hl j hj).2
 rw [a1];omega
def wgt (p:List Int):Nat:=(p.map Int.toNat).sum
theorem wgt_lt:∀{p q:List Int},p.length=q.length→(∀(i:Nat) (h1:i<p.length) (h2:i<q.length),0≤p[i]∧p[i]≤q[i])→p≠q→wgt p<wgt q
 |[],[],_,_,h=>absurd rfl h
 |[],_::_,h,_,_=>by simp at h
 |_::_,[],h,_,_=>by simp at h
 |a::p,b::q,hl,hle,hne=>by
  have h0:=hle 0 (by simp) (by simp)
  have hl':p.length=q.length:=by simpa using hl
  have htl:∀(i:Nat) (h1:i<p.length) (h2:i<q.length),0≤p[i]∧p[i]≤q[i]:=fun i h1 h2=>hle (i+1) (by simp;omega) (by simp;omega)
  simp only [List.getElem_cons_zero] at h0
  unfold wgt
  rw [List.map_cons,List.map_cons,List.sum_cons,List.sum_cons]
  by_cases e:a=b
  ·subst e
   have:=wgt_lt hl' htl (fun e=>hne (by rw [e]))
   unfold wgt at this
   omega
  ·by_cases e2:p=q
   ·subst e2;omega
   ·have:=wgt_lt hl' htl e2
    unfold wgt at this
    omega
theorem wgt_le:∀{p:List Int} {B:Nat},(∀x∈p,x≤(B:Int))→wgt p≤p.length*B
 |[],_,_=>by simp [wgt]
 |a::p,B,h=>by
  have h1:=h a (.head _)
  have h2:=wgt_le (p:=p) (B:=B) fun x hx=>h x (.tail _ hx)
  unfold wgt at h2⊢
  rw [List.map_cons,List.sum_cons,List.length_cons,Nat.add_mul,Nat.one_mul]
  omega
def Sig (ms:List (List Move)) (p:List Int) (i:Nat) (m:Move):Prop:=∃(h:i<ms.length) (k:Nat) (hk:k<(ms[i]).length),m.act=(ms[i])[k].act∧m.to=p.getD (ms[i])[k].to.toNat 0
def Akin (ms:List (List Move)) (p:List Int) (j i:Nat):Prop:=p.getD j 0=p.getD i 0∧∀m,Sig ms p i m↔Sig ms p j m
theorem Akin.refl (ms:List (List Move)) (p:List Int) (i:Nat):Akin ms p i i:=⟨rfl,fun _=>Iff.rfl⟩
theorem l4Has_ok (L N:Nat) (ms:List (List Move)) (hm:Leads ms) (hL:1048576<L) (p:List Int) (hp:p.length=ms.length) (b:Nat) (hb:b<ms.length) (act c:Int):
  ∃r,f93 L N ⟨ms⟩ (b:Int) act p c=some r∧(r=true↔Sig ms p b ⟨act,c⟩):=by
 have hrow:=(hm.2 b hb).1
 show ∃r,f93.b L N some ⟨ms⟩ (b:Int) act p c=some r∧_
 unfold f93.b f93.b'
 have key:∀(n k:Nat),k≤(ms[b]).length→(ms[b]).length-k<n→(∀k' (hk':k'<(ms[b]).length),k'<k→¬((ms[b])[k'].act=act∧p.getD (ms[b])[k'].to.toNat 0=c))→
   ∃r,f93.l0 L N (f93.p0_e0 L N some) (fun z13=>f93.p0_r L N some z13) n (b:Int) act p c (k:Int) ms=some r∧(r=true↔Sig ms p b ⟨act,c⟩):=by
  intro n
  induction n with
  |zero=>intro k _ h;omega
  |succ n ih=>
   intro k hk hn hno
   show ∃r,f93.s0 L N _ _ (f93.l0 L N _ _ n) (b:Int) act p c (k:Int) ms=some r∧_
   unfold f93.s0 f93.s0'
   by_cases hlt:k<(ms[b]).length
   ·obtain ⟨t,ht,htl⟩:=hm.nat hb hlt
    have htp:t<p.length:=by omega
    simp only [le0,lt_cast hb,Bool.and_true,cond_true,Int.toNat_natCast,at_lt hb,lt_cast hlt,at_lt hlt,ht,lt_cast htp,atD]
    have hpt:p.getD t 0=p.getD (ms[b])[k].to.toNat 0:=by rw [ht,Int.toNat_natCast]
    by_cases h1:(ms[b])[k].act=act
    ·rw [show ((ms[b])[k].act==act)=true by simpa using h1,cond_true]
     by_cases h2:p.getD t 0=c
     ·rw [show (p.getD t 0==c)=true by simpa using h2,cond_true]
      exact ⟨true,rfl,by simp only [true_iff];exact ⟨hb,k,hlt,h1.symm,by rw [←hpt];exact h2.symm⟩⟩
     ·rw [show (p.getD t 0==c)=false by simpa using h2,cond_false,wi_nat (by omega)]
      refine ih (k+1) (by omega) (by omega) fun k' hk' hlt'=>?_
      by_cases e:k'=k
      ·subst e;rintro ⟨_,q⟩;exact h2 (by rw [hpt];exact q)
      ·exact hno k' hk' (by omega)
    ·rw [show ((ms[b])[k].act==act)=false by simpa using h1,cond_false,wi_nat (by omega)]
     refine ih (k+1) (by omega) (by omega) fun k' hk' hlt'=>?_
     by_cases e:k'=k
     ·subst e;rintro ⟨q,_⟩;exact h1 q
     ·exact hno k' hk' (by omega)
   ·simp only [le0,lt_cast hb,Bool.and_true,cond_true,Int.toNat_natCast,at_lt hb,ge_cast hlt,cond_false]
    refine ⟨false,rfl,?_⟩
    simp only [Bool.false_eq_true,false_iff]
    rintro ⟨_,k',hk',q1,q2⟩
    exact hno k' hk' (by omega) ⟨q1.symm,q2.symm⟩
 exact key L 0 (by omega) (by omega) (fun _ _ h=>by omega)
theorem l4Covers_ok (L N:Nat) (ms:List (List Move)) (hm:Leads ms) (hL:1048576<L) (p:List Int) (hp:p.length=ms.length) (a b:Nat) (ha:a<ms.length) (hb:b<ms.length):
  ∃r,f72 L N ⟨ms⟩ (a:Int) (b:Int) p=some r∧(r=true↔∀m,Sig ms p a m→Sig ms p b m):=by
 have hrow:=(hm.2 a ha).1
 show ∃r,f72.b L N some ⟨ms⟩ (a:Int) (b:Int) p=some r∧_
 unfold f72.b f72.b'
 have key:∀(n k:Nat),k≤(ms[a]).length→(ms[a]).length-k<n→(∀k' (hk':k'<(ms[a]).length),k'<k→Sig ms p b ⟨(ms[a])[k'].act,p.getD (ms[a])[k'].to.toNat 0⟩)→
   ∃r,f72.l0 L N (f72.p0_e0 L N some) (fun z6=>f72.p0_r L N some z6) n (a:Int) (b:Int) p (k:Int) ms=some r∧(r=true↔∀m,Sig ms p a m→Sig ms p b m):=by
  intro n
  induction n with
  |zero=>intro k _ h;omega
  |succ n ih=>
   intro k hk hn hyes
   show ∃r,f72.s0 L N _ _ (f72.l0 L N _ _ n) (a:Int) (b:Int) p (k:Int) ms=some r∧_
   unfold f72.s0 f72.s0'
   by_cases hlt:k<(ms[a]).length
   ·obtain ⟨t,ht,htl⟩:=hm.nat ha hlt
    have htp:t<p.length:=by omega
    obtain ⟨r,hr,hr2⟩:=l4Has_ok L N ms hm hL p hp b hb (ms[a])[k].act (p.getD t 0)
    have hpt:p.getD t 0=p.getD (ms[a])[k].to.toNat 0:=by rw [ht,Int.toNat_natCast]
    simp only [le0,lt_cast ha,Bool.and_true,cond_true,Int.toNat_natCast,at_lt ha,lt_cast hlt,at_lt hlt,ht,lt_cast htp,atD,hr,Option.bind_some]
    cases r with
    |true=>
     rw [Bool.not_true,cond_false,wi_nat (by omega)]
     refine ih (k+1) (by omega) (by omega) fun k' hk' hlt'=>?_
     by_cases e:k'=k
     ·subst e;rw [←hpt];exact hr2.1 rfl
     ·exact hyes k' hk' (by omega)
    |false=>
     rw [Bool.not_false,cond_true]
     refine ⟨false,rfl,?_⟩
     simp only [Bool.false_eq_true,false_iff]
     intro h
     exact absurd (hr2.2 (h _ ⟨ha,k,hlt,rfl,hpt⟩)) (by simp)
   ·simp only [le0,lt_cast ha,Bool.and_true,cond_true,Int.toNat_natCast,at_lt ha,ge_cast hlt,cond_false]
    refine ⟨true,rfl,?_⟩
    simp only [true_iff]
    rintro m ⟨_,k',hk',q1,q2⟩
    have:=hyes k' hk' (by omega)
    rw [←q1,←q2] at this
    exact this
 exact key L 0 (by omega) (by omega) (fun _ _ h=>by omega)
theorem l4Next_ok (L N:Nat) (ms:List (List Move)) (hm:Leads ms) (hL:1048576<L) (p:List Int) (hp:p.length=ms.length):
  ∃q,f65 L N ⟨ms⟩ p=some q∧NextE (Akin ms p) ms.length q:=by
 have hlim:=lim_eq
 have hn60:=hm.1
 have inner:∀{R:Type} (K:List Int→Int→Int→List (List Move)→List Int→Option R) (i:Nat) (hi:i<ms.length) (out:List Int) (n c best:Nat) (z:Int),z=(c:Int)-1→c<n→c≤best→best≤i→Akin ms p best i→(∀j',c≤j'→j'<best→¬Akin ms p j' i)→
   ∃b':Nat,b'≤i∧Akin ms p b' i∧(∀j',j'<b'→¬Akin ms p j' i)∧f65.l1 L N K n p (i:Int) (best:Int) z ms out=K p (i:Int) (b':Int) ms out:=by
  intro R K i hi out n
  induction n with
  |zero=>intro c best z _ h;omega
  |succ n ih=>
   intro c best z hz hn hcb hbi hE hno
   show ∃b':Nat,_∧_∧_∧f65.s1 L N _ (f65.l1 L N _ n) p (i:Int) (best:Int) z ms out=_
   unfold f65.s1 f65.s1'
   cases c with
   |zero=>
    rw [show decide (z≥0)=false from decide_eq_false (by omega),cond_false]
    exact ⟨best,hbi,hE,fun j' h=>hno j' (by omega) h,rfl⟩
   |succ c=>
    have hz':z=(c:Int):=by omega
    subst hz'
    have hc:c<p.length:=by omega
    have hip:i<p.length:=by omega
    have hw:wi ((c:Int)-1)=(c:Int)-1:=wi_id (by omega) (by omega)
    rw [show decide ((c:Int)≥0)=true from decide_eq_true (by omega),cond_true]
    simp only [le0,lt_cast hc,lt_cast hip,Bool.and_true,cond_true,Int.toNat_natCast,atD,hw]
    have stay:¬Akin ms p c i→∃b':Nat,b'≤i∧Akin ms p b' i∧(∀j',j'<b'→¬Akin ms p j' i)∧f65.l1 L N K n p (i:Int) (best:Int) ((c:Int)-1) ms out=K p (i:Int) (b':Int) ms out:=fun hne=>
     ih c best ((c:Int)-1) rfl (by omega) (by omega) hbi hE fun j' h1 h2=>by
      by_cases e:j'=c
      ·subst e;exact hne
      ·exact hno j' (by omega) h2
    by_cases h1:p.getD c 0=p.getD i 0
    ·obtain ⟨r1,e1,f1⟩:=l4Covers_ok L N ms hm hL p hp i c hi (by omega)
     obtain ⟨r2,e2,f2⟩:=l4Covers_ok L N ms hm hL p hp c i (by omega) hi
     rw [show (p.getD c 0==p.getD i 0)=true by simpa using h1,cond_true]
     simp only [e1,e2,Option.bind_some]
     cases r1 with
     |false=>
      rw [cond_false]
      exact stay fun h=>absurd (f1.2 fun m hm'=>(h.2 m).1 hm') (by simp)
     |true=>
      rw [cond_true]
      cases r2 with
      |false=>
       rw [cond_false]
       exact stay fun h=>absurd (f2.2 fun m hm'=>(h.2 m).2 hm') (by simp)
      |true=>
       rw [cond_true]
       exact ih c c ((c:Int)-1) rfl (by omega) (Nat.le_refl _) (by omega) ⟨h1,fun m=>⟨f1.1 rfl m,f2.1 rfl m⟩⟩ fun j' h1 h2=>by omega
    ·rw [show (p.getD c 0==p.getD i 0)=false by simpa using h1,cond_false]
     exact stay fun h=>h1 h.1
 show ∃q,f65.b L N some ⟨ms⟩ p=some q∧_
 unfold f65.b f65.b'
 have key:∀(n i:Nat) (out:List Int),out.length=i→i≤ms.length→ms.length-i<n→(∀(i':Nat) (hi:i'<out.length),∃j:Nat,out[i']=(j:Int)∧j≤i'∧Akin ms p j i'∧∀j',j'<j→¬Akin ms p j' i')→
   ∃q,f65.l0 L N (fun z4=>f65.p0_e0 L N some z4) n p (i:Int) ms out=some q∧NextE (Akin ms p) ms.length q:=by
  intro n
  induction n with
  |zero=>intro i out _ _ h;omega
  |succ n ih=>
   intro i out hl hi hn hout
   show ∃q,f65.s0 L N _ (f65.l0 L N _ n) p (i:Int) ms out=some q∧_
   unfold f65.s0 f65.s0'
   by_cases hlt:i<ms.length
   ·have hip:i<p.length:=by omega
    have hw:wi ((i:Int)-1)=(i:Int)-1:=wi_id (by omega) (by omega)
    simp only [lt_cast hip,cond_true,hw]
    obtain ⟨b',q1,q2,q3,e⟩:=inner (fun z11 z12 z13 z14 z15=>f65.p1_e2 L N (fun z4=>f65.p0_e0 L N some z4) (f65.l0 L N (fun z4=>f65.p0_e0 L N some z4) n) z11 z12 z13 z14 z15) i hlt out L i i ((i:Int)-1) rfl (by omega) (Nat.le_refl _) (Nat.le_refl _) (Akin.refl ms p i) (fun j' h1 h2=>by omega)
    rw [e]
    show ∃q,f65.p1_e2' L N _ _ p (i:Int) (b':Int) ms out=some q∧_
    unfold f65.p1_e2'
    have hle:decide (out.length+([(b':Int)]:List Int).length≤lim)=true:=dt (by simp only [List.length_cons,List.length_nil];omega)
    rw [hle,cond_true,wi_nat (by omega)]
    refine ih (i+1) _ (by simp [hl]) (by omega) (by omega) fun i' hi'=>?_
    by_cases h:i'<out.length
    ·rw [List.getElem_append_left h];exact hout i' h
    ·have:i'=i:=by simp at hi';omega
     subst this
     refine ⟨b',?_,q1,q2,q3⟩
     rw [List.getElem_append_right (by omega)]
     simp
   ·have hip:¬i<p.length:=by omega
    simp only [ge_cast hip,cond_false]
    exact ⟨out,rfl,by omega,hout⟩
 exact key L 0 [] rfl (by omega) (by omega) (fun _ h=>by simp at h)
theorem l4Same_ok (L N:Nat) (a b:List Int) (hL:a.length<L) (hl:a.length≤1048576):∃r,f66 L N a b=some r∧(r=true↔a=b):=by
 show ∃r,f66.b L N some a b=some r∧_
 unfold f66.b f66.b'
 by_cases he:a.length=b.length
 ·have:((a.length:Int) !=(b.length:Int))=false:=by simp [he]
  rw [this,cond_false]
  have key:∀(n i:Nat),i≤a.length→a.length-i<n→(∀j (h1:j<a.length) (h2:j<b.length),j<i→a[j]=b[j])→
    ∃r,f66.l0 L N (f66.p0_e0 L N some) (fun z3=>f66.p0_r L N some z3) n a b (i:Int)=some r∧(r=true↔a=b):=by
   intro n
   induction n with
   |zero=>intro i _ h;omega
   |succ n ih=>
    intro i hi hn hs
    show ∃r,f66.s0 L N _ _ (f66.l0 L N _ _ n) a b (i:Int)=some r∧_
    unfold f66.s0 f66.s0'
    by_cases hlt:i<a.length
    ·have hlt':i<b.length:=by omega
     simp only [le0,lt_cast hlt,lt_cast hlt',Bool.and_true,cond_true,Int.toNat_natCast,at_lt hlt,at_lt hlt']
     by_cases h1:a[i]=b[i]
     ·rw [show (a[i] !=b[i])=false by simpa using h1,cond_false,wi_nat (by omega)]
      refine ih (i+1) (by omega) (by omega) fun j h2 h3 h4=>?_
      by_cases e:j=i
      ·subst e;exact h1
      ·exact hs j h2 h3 (by omega)
     ·rw [show (a[i] !=b[i])=true by simpa using h1,cond_true]
      refine ⟨false,rfl,?_⟩
      simp only [Bool.false_eq_true,false_iff]
      intro e
      subst e
      exact h1 rfl
    ·simp only [ge_cast hlt,cond_false]
     refine ⟨true,rfl,?_⟩
     simp only [true_iff]
     exact List.ext_getElem he fun j h1 h2=>hs j h1 h2 (by omega)
  exact key L 0 (by omega) (by omega) (fun _ _ _ h=>by omega)
 ·have:((a.length:Int) !=(b.length:Int))=true:=by simp;omega
  rw [this,cond_true]
  refine ⟨false,rfl,?_⟩
  simp only [Bool.false_eq_true,false_iff]
  intro e
  exact he (by rw [e])
theorem equalI_ok (L N:Nat) (a b:List Int) (hL:a.length<L) (hl:a.length≤1048576):∃r,f55 L N a b=some r∧(r=true↔a=b):=by
 show ∃r,f55.b L N some a b=some r∧_
 unfold f55.b f55.b'
 by_cases he:a.length=b.length
 ·have:((a.length:Int) !=(b.length:Int))=false:=by simp [he]
  rw [this,cond_false]
  have key:∀(n i:Nat),i≤a.length→a.length-i<n→(∀j (h1:j<a.length) (h2:j<b.length),j<i→a[j]=b[j])→
    ∃r,f55.l0 L N (f55.p0_e0 L N some) (fun z3=>f55.p0_r L N some z3) n a b (a.length:Int) (i:Int)=some r∧(r=true↔a=b):=by
   intro n
   induction n with
   |zero=>intro i _ h;omega
   |succ n ih=>
    intro i hi hn hs
    show ∃r,f55.s0 L N _ _ (f55.l0 L N _ _ n) a b (a.length:Int) (i:Int)=some r∧_
    unfold f55.s0 f55.s0'
    by_cases hlt:i<a.length
    ·have hlt':i<b.length:=by omega
     simp only [le0,lt_cast hlt,lt_cast hlt',Bool.and_true,cond_true,Int.toNat_natCast,at_lt hlt,at_lt hlt']
     by_cases h1:a[i]=b[i]
     ·rw [show (a[i] !=b[i])=false by simpa using h1,cond_false,wi_nat (by omega)]
      refine ih (i+1) (by omega) (by omega) fun j h2 h3 h4=>?_
      by_cases e:j=i
      ·subst e;exact h1
      ·exact hs j h2 h3 (by omega)
     ·rw [show (a[i] !=b[i])=true by simpa using h1,cond_true]
      refine ⟨false,rfl,?_⟩
      simp only [Bool.false_eq_true,false_iff]
      intro e
      subst e
      exact h1 rfl
    ·simp only [ge_cast hlt,cond_false]
     refine ⟨true,rfl,?_⟩
     simp only [true_iff]
     exact List.ext_getElem he fun j h1 h2=>hs j h1 h2 (by omega)
  exact key L 0 (by omega) (by omega) (fun _ _ _ h=>by omega)
 ·have:((a.length:Int) !=(b.length:Int))=true:=by simp;omega
  rw [this,cond_true]
  refine ⟨false,rfl,?_⟩
  simp only [Bool.false_eq_true,false_iff]
  intro e
  exact he (by rw [e])
end Go.Proofs.YtfdcjocallblcaaGreatDoor.Ev
namespace Go.Proofs.YtfdcjocallblcaaGreatDoor.Ev
open Go
set_option linter.unusedVariables false
set_option linter.unusedSimpArgs false
theorem leM_iff (x y:Move):leM x y=true↔lessM x y=true∨x=y:=by
 unfold leM lessM
 obtain ⟨a,b⟩:=x
 obtain ⟨c,d⟩:=y
 simp only [decide_eq_true_eq,Move.mk.injEq]
 omega
theorem sortM_le (xs:List Move):(sortM xs).Pairwise fun a b=>leM a b=true:=by
 refine List.pairwise_mergeSort (fun a b c h1 h2=>?_) (fun a b=>?_) xs
 ·rw [leM_iff] at*
  rcases h1 with h1|rfl
  ·rcases h2 with h2|rfl
   ·exact .inl (less_trans h1 h2)
   ·exact .inl h1
  ·exact h2
 ·unfold leM
  simp only [Bool.or_eq_true,decide_eq_true_eq]
  omega
theorem getM {zs:List Move} {i:Nat} (h:i<zs.length):(zs.toArray)[i]! =zs[i]:=by simp [getElem!_pos,h]
theorem compact_rises {zs:List Move} (hs:zs.Pairwise fun a b=>leM a b=true):RisesM (Go.Lib.compact zs):=by
 unfold RisesM Go.Lib.compact Go.Lib.compactUpTo
 rw [List.pairwise_map]
 refine List.Pairwise.imp_of_mem ?_ (List.Pairwise.filter _ List.pairwise_lt_range)
 intro i j hi hj hij
 rw [List.mem_filter,List.mem_range] at hi hj
 have hjl:=hj.1
 rw [getM hi.1,getM hj.1]
 have hk:=hj.2
 unfold Go.Lib.keeps at hk
 have hk:=of_decide_eq_true hk
 have hne:zs[j]≠zs[j-1]:=by
  rcases hk with h|h
  ·omega
  ·rwa [getM hj.1,getM (show j-1<zs.length by omega)] at h
 have hlast:lessM zs[j-1] zs[j]=true:=by
  rcases (leM_iff _ _).1 (List.pairwise_iff_getElem.1 hs (j-1) j (by omega) (by omega) (by omega)) with h|h
  ·exact h
  ·exact absurd h.symm hne
 by_cases e:i=j-1
 ·subst e;exact hlast
 ·rcases (leM_iff _ _).1 (List.pairwise_iff_getElem.1 hs i (j-1) (by omega) (by omega) (by omega)) with h|h
  ·exact less_trans h hlast
  ·rw [h];exact hlast
theorem compact_mem (zs:List Move) (v:Move):v∈Go.Lib.compact zs↔v∈zs:=by
 unfold Go.Lib.compact Go.Lib.compactUpTo
 rw [List.mem_map]
 constructor
 ·rintro ⟨i,hi,rfl⟩
  rw [List.mem_filter,List.mem_range] at hi
  rw [getM hi.1];exact List.getElem_mem hi.1
 ·intro hv
  obtain ⟨i,hi,rfl⟩:=List.mem_iff_getElem.1 hv
  clear hv
  induction i with
  |zero=>exact ⟨0,by rw [List.mem_filter,List.mem_range];exact ⟨hi,by simp [Go.Lib.keeps]⟩,getM hi⟩
  |succ i ih=>
   by_cases hk:Go.Lib.keeps zs.toArray (i+1)=true
   ·exact ⟨i+1,by rw [List.mem_filter,List.mem_range];exact ⟨hi,hk⟩,getM hi⟩
   ·have:zs[i+1]=zs[i]:=by
     unfold Go.Lib.keeps at hk
     have hk:¬(i+1=0∨zs.toArray[i+1]!≠zs.toArray[i+1-1]!):=fun h=>hk (decide_eq_true h)
     have h2:=Classical.not_not.1 (fun h=>hk (.inr h))
     rw [getM hi,Nat.add_sub_cancel,getM (show i<zs.length by omega)] at h2
     exact h2
    rw [this]
    exact ih (by omega)
theorem tidyM_rises (xs:List Move):RisesM (tidyM xs):=compact_rises (sortM_le xs)
theorem tidyM_mem (xs:List Move) (v:Move):v∈tidyM xs↔v∈xs:=(compact_mem _ v).trans (sortM_mem xs v)
theorem fsortM_some {xs:List Move} (h:xs.length≤1099511627776):fsortM xs=some ():=by
 unfold fsortM;rw [show decide (xs.length≤lim)=true from decide_eq_true (by rw [lim_eq];exact h)];rfl
end Go.Proofs.YtfdcjocallblcaaGreatDoor.Ev
namespace Go.Proofs.YtfdcjocallblcaaGreatDoor.Ev
open Go
set_option linter.unusedVariables false
set_option linter.unusedSimpArgs false
theorem equalMA_ok (L N:Nat) (a b:List Move) (hL:a.length<L) (hl:a.length≤1099511627776):∃r,f67 L N a b=some r∧(r=true↔a=b):=by
 show ∃r,f67.b L N some a b=some r∧_
 unfold f67.b f67.b'
 have eqb:∀x y:Move,Move.eqb x y=true↔x=y:=fun x y=>by
  constructor
  ·intro h
   simp only [Move.eqb,Bool.and_eq_true,beq_iff_eq] at h
   rw [←mv_eta x,←mv_eta y,h.1,h.2]
  ·rintro rfl;simp [Move.eqb]
 by_cases he:a.length=b.length
 ·have:((a.length:Int) !=(b.length:Int))=false:=by simp [he]
  rw [this,cond_false]
  have key:∀(n i:Nat),i≤a.length→a.length-i<n→(∀j (h1:j<a.length) (h2:j<b.length),j<i→a[j]=b[j])→
    ∃r,f67.l0 L N (f67.p0_e0 L N some) (fun z4=>f67.p0_r L N some z4) n a b (a.length:Int) (i:Int)=some r∧(r=true↔a=b):=by
   intro n
   induction n with
   |zero=>intro i _ h;omega
   |succ n ih=>
    intro i hi hn hs
    show ∃r,f67.s0 L N _ _ (f67.l0 L N _ _ n) a b (a.length:Int) (i:Int)=some r∧_
    unfold f67.s0 f67.s0'
    by_cases hlt:i<a.length
    ·have hlt':i<b.length:=by omega
     simp only [le0,lt_cast hlt,lt_cast hlt',Bool.and_true,cond_true,Int.toNat_natCast,at_lt hlt,at_lt hlt']
     cases h0:Move.eqb a[i] b[i] with
     |true=>
      have h1:=(eqb _ _).1 h0
      rw [Bool.not_true,cond_false,wi_nat (by omega)]
      refine ih (i+1) (by omega) (by omega) fun j h2 h3 h4=>?_
      by_cases e:j=i
      ·subst e;exact h1
      ·exact hs j h2 h3 (by omega)
     |false=>
      rw [Bool.not_false,cond_true]
      refine ⟨false,rfl,?_⟩
      simp only [Bool.false_eq_true,false_iff]
      intro e
      subst e
      rw [(eqb _ _).2 rfl] at h0;cases h0
    ·simp only [ge_cast hlt,cond_false]
     refine ⟨true,rfl,?_⟩
     simp only [true_iff]
     exact List.ext_getElem he fun j h1 h2=>hs j h1 h2 (by omega)
  exact key L 0 (by omega) (by omega) (fun _ _ _ h=>by omega)
 ·have:((a.length:Int) !=(b.length:Int))=true:=by simp;omega
  rw [this,cond_true]
  refine ⟨false,rfl,?_⟩
  simp only [Bool.false_eq_true,false_iff]
  intro e
  exact he (by rw [e])
theorem refineA_ok (L N:Nat) (ms:List (List Move)) (hn60:ms.length≤60) (hL:8589934592≤L) (p:List Int) (hp:p.length=ms.length) (key:Nat→List Move) (hkl:∀i,(key i).length≤3774873660)
  (hkey:∀i,i<ms.length→f54_1 L N (i:Int) ms p=some (key i)):
  ∃q,f53_1 L N p ms p=some q∧NextE (fun j i=>p.getD j 0=p.getD i 0∧key j=key i) ms.length q:=by
 have hlim:=lim_eq
 have inner:∀{R:Type} (K:List Int→List (List Move)→List Int→Int→Int→List Int→List (List Move)→Option R) (i:Nat) (hi:i<ms.length) (out:List Int) (keys:List (List Move)),out.length=ms.length→keys.length=ms.length→(∀j,j≤i→keys.getD j []=key j)→∀(n j:Nat),j≤i→i-j<n→(∀j',j'<j→¬(p.getD j' 0=p.getD i 0∧key j'=key i))→out.getD i 0=(i:Int)→
   ∃(b:Nat) (out':List Int),b≤i∧(p.getD b 0=p.getD i 0∧key b=key i)∧(∀j',j'<b→¬(p.getD j' 0=p.getD i 0∧key j'=key i))∧out'=out.set i (b:Int)∧f53_1.l1 L N K n p ms p (i:Int) (j:Int) (ms.length:Int) (i:Int) out keys=K p ms p (ms.length:Int) (i:Int) out' keys:=by
  intro R K i hi out keys ho hk hks n
  induction n with
  |zero=>intro j _ h;omega
  |succ n ih=>
   intro j hj hn hno hoi
   show ∃(b:Nat) (out':List Int),_∧_∧_∧_∧f53_1.s1 L N _ (f53_1.l1 L N _ n) p ms p (i:Int) (j:Int) (ms.length:Int) (i:Int) out keys=_
   unfold f53_1.s1 f53_1.s1'
   by_cases hlt:j<i
   ·have hjp:j<p.length:=by omega
    have hip:i<p.length:=by omega
    have hjk:j<keys.length:=by omega
    have hik:i<keys.length:=by omega
    have hio:i<out.length:=by omega
    simp only [lt_cast hlt,le0,lt_cast hjp,lt_cast hip,lt_cast hjk,lt_cast hik,Bool.and_true,cond_true,Int.toNat_natCast,atD,hks j (by omega),hks i (by omega)]
    have stay:¬(p.getD j 0=p.getD i 0∧key j=key i)→∃(b:Nat) (out':List Int),b≤i∧(p.getD b 0=p.getD i 0∧key b=key i)∧(∀j',j'<b→¬(p.getD j' 0=p.getD i 0∧key j'=key i))∧out'=out.set i (b:Int)∧f53_1.l1 L N K n p ms p (i:Int) (wi ((j:Int)+1)) (ms.length:Int) (i:Int) out keys=K p ms p (ms.length:Int) (i:Int) out' keys:=fun hne=>by
     rw [wi_nat (by omega)]
     refine ih (j+1) (by omega) (by omega) (fun j' h=>?_) hoi
     by_cases e:j'=j
     ·subst e;exact hne
     ·exact hno j' (by omega)
    by_cases h1:p.getD j 0=p.getD i 0
    ·obtain ⟨r,e1,f1⟩:=equalMA_ok L N (key j) (key i) (by have:=hkl j;omega) (by have:=hkl j;omega)
     rw [show (p.getD j 0==p.getD i 0)=true by simpa using h1,cond_true,e1,Option.bind_some]
     unfold f53_1.j0'
     cases r with
     |true=>
      simp only [cond_true,le0,lt_cast hio,Bool.and_true,Int.toNat_natCast]
      exact ⟨j,_,by omega,⟨h1,f1.1 rfl⟩,hno,rfl,rfl⟩
     |false=>
      rw [cond_false]
      exact stay fun h=>absurd (f1.2 h.2) (by simp)
    ·rw [show (p.getD j 0==p.getD i 0)=false by simpa using h1,cond_false]
     unfold f53_1.j0'
     rw [cond_false]
     exact stay fun h=>h1 h.1
   ·have hji:j=i:=by omega
    subst hji
    simp only [ge_cast (Nat.lt_irrefl _),cond_false]
    refine ⟨j,_,Nat.le_refl _,⟨rfl,rfl⟩,hno,rfl,?_⟩
    have hio:j<out.length:=by omega
    rw [getD_lt hio] at hoi
    rw [←hoi,List.set_getElem_self]
 show ∃q,f53_1.b L N some p ms p=some q∧_
 unfold f53_1.b f53_1.b'
 have h0:decide ((ms.length:Int)≤(lim:Int))=true:=dt (by omega)
 have e0:((ms.length:Int)).toNat=ms.length:=rfl
 simp only [hp,le0,h0,Bool.and_true,cond_true,e0]
 have key0:∀(n i:Nat) (out:List Int) (keys:List (List Move)),out.length=ms.length→keys.length=ms.length→i≤ms.length→ms.length-i<n→(∀j,j<i→keys.getD j []=key j)→(∀i',i'<i→∃j:Nat,out.getD i' 0=(j:Int)∧j≤i'∧(p.getD j 0=p.getD i' 0∧key j=key i')∧∀j',j'<j→¬(p.getD j' 0=p.getD i' 0∧key j'=key i'))→
   ∃q,f53_1.l0 L N (fun z7=>f53_1.p0_e0 L N some z7) n p ms p (ms.length:Int) (i:Int) out keys=some q∧NextE (fun j i=>p.getD j 0=p.getD i 0∧key j=key i) ms.length q:=by
  intro n
  induction n with
  |zero=>intro i out keys _ _ _ h;omega
  |succ n ih=>
   intro i out keys ho hk hi hn hks hout
   show ∃q,f53_1.s0 L N _ (f53_1.l0 L N _ n) p ms p (ms.length:Int) (i:Int) out keys=some q∧_
   unfold f53_1.s0 f53_1.s0'
   by_cases hlt:i<ms.length
   ·have hio:i<out.length:=by omega
    have hik:i<keys.length:=by omega
    simp only [lt_cast hlt,cond_true,hkey i hlt,Option.bind_some,le0,lt_cast hio,lt_cast hik,Bool.and_true,Int.toNat_natCast]
    have hks':∀j,j≤i→(keys.set i (key i)).getD j []=key j:=fun j hj=>by
     by_cases e:j=i
     ·subst e;rw [getD_lt (by simpa using hik),List.getElem_set_self]
     ·rw [List.getD,List.getElem?_set_ne (by omega),←List.getD];exact hks j (by omega)
    obtain ⟨b,out',q1,q2,q3,q4,e⟩:=inner (fun z18 z19 z20 z21 z22 z23 z24=>f53_1.p1_e2 L N (fun z7=>f53_1.p0_e0 L N some z7) (f53_1.l0 L N (fun z7=>f53_1.p0_e0 L N some z7) n) z18 z19 z20 z21 z22 z23 z24) i hlt (out.set i (i:Int)) (keys.set i (key i)) (by simp [ho]) (by simp [hk]) hks' L 0 (by omega) (by omega) (fun j' h=>by omega) (by rw [getD_lt (by simpa using hio),List.getElem_set_self])
    refine (show ∃q,_=some q∧_ from ?_)
    have e':f53_1.l1 L N (fun z18 z19 z20 z21 z22 z23 z24=>f53_1.p1_e2 L N (fun z7=>f53_1.p0_e0 L N some z7) (f53_1.l0 L N (fun z7=>f53_1.p0_e0 L N some z7) n) z18 z19 z20 z21 z22 z23 z24) L p ms p (i:Int) (0:Int) (ms.length:Int) (i:Int) (out.set i (i:Int)) (keys.set i (key i))=_:=e
    rw [e']
    show ∃q,f53_1.p1_e2' L N _ _ p ms p (ms.length:Int) (i:Int) out' (keys.set i (key i))=some q∧_
    unfold f53_1.p1_e2'
    rw [wi_nat (by omega)]
    have hset:(out.set i (i:Int)).set i (b:Int)=out.set i (b:Int):=by rw [List.set_set]
    refine ih (i+1) out' _ (by rw [q4];simp [ho]) (by simp [hk]) (by omega) (by omega) (fun j hj=>hks' j (by omega)) fun i' hi'=>?_
    rw [q4,hset]
    by_cases e:i'=i
    ·subst e
     exact ⟨b,by rw [getD_lt (by simpa using hio),List.getElem_set_self],q1,q2,q3⟩
    ·obtain ⟨j,r1,r2⟩:=hout i' (by omega)
     exact ⟨j,by rw [List.getD,List.getElem?_set_ne (by omega),←List.getD];exact r1,r2⟩
   ·simp only [ge_cast hlt,cond_false]
    have hi':i=ms.length:=by omega
    subst hi'
    refine ⟨out,rfl,ho,fun i hi=>?_⟩
    obtain ⟨j,r1,r2⟩:=hout i (by omega)
    rw [getD_lt hi] at r1
    exact ⟨j,r1,r2⟩
 exact key0 L 0 (List.replicate ms.length (0:Int)) (List.replicate ms.length ([]:List Move)) List.length_replicate List.length_replicate (by omega) (by omega) (fun j h=>by omega) (fun i' h=>by omega)
end Go.Proofs.YtfdcjocallblcaaGreatDoor.Ev
namespace Go.Proofs.YtfdcjocallblcaaGreatDoor.Ev
open Go
set_option linter.unusedVariables false
set_option linter.unusedSimpArgs false
def sigRow (ms:List (List Move)) (p:List Int) (i:Nat):List Move:=(ms.getD i []).map fun m=>Move.mk m.act (p.getD m.to.toNat 0)
def alikeKey (ms:List (List Move)) (p:List Int) (i:Nat):List Move:=tidyM (sigRow ms p i)
theorem sigRow_len {ms:List (List Move)} (hm:Leads ms) (p:List Int) (i:Nat):(sigRow ms p i).length≤1048576:=by
 unfold sigRow
 rw [List.length_map]
 by_cases h:i<ms.length
 ·rw [getD_lt h];exact (hm.2 i h).1
 ·rw [List.getD,List.getElem?_eq_none (by omega)];simp
theorem sigRow_mem (ms:List (List Move)) (p:List Int) (i:Nat) (m:Move):m∈sigRow ms p i↔Sig ms p i m:=by
 unfold sigRow Sig
 rw [List.mem_map]
 by_cases h:i<ms.length
 ·rw [getD_lt h]
  constructor
  ·rintro ⟨x,hx,rfl⟩
   obtain ⟨k,hk,rfl⟩:=List.mem_iff_getElem.1 hx
   exact ⟨h,k,hk,rfl,rfl⟩
  ·rintro ⟨_,k,hk,h1,h2⟩
   exact ⟨_,List.getElem_mem hk,by rw [←mv_eta m,h1,h2]⟩
 ·rw [List.getD,List.getElem?_eq_none (by omega)]
  constructor
  ·rintro ⟨x,hx,-⟩;simp at hx
  ·rintro ⟨h',-⟩;exact absurd h' h
theorem alikeKey_len {ms:List (List Move)} (hm:Leads ms) (p:List Int) (i:Nat):(alikeKey ms p i).length≤3774873660:=by
 have h1:=tidyM_le (sigRow ms p i)
 have h2:=sigRow_len hm p i
 unfold alikeKey
 omega
theorem alikeKey_iff (ms:List (List Move)) (p:List Int) (j i:Nat):alikeKey ms p j=alikeKey ms p i↔∀m,Sig ms p i m↔Sig ms p j m:=by
 have hmem:∀k m,m∈alikeKey ms p k↔Sig ms p k m:=fun k m=>(tidyM_mem _ m).trans (sigRow_mem ms p k m)
 constructor
 ·intro h m
  rw [←hmem i m,←hmem j m,h]
 ·intro h
  exact risesM_ext (tidyM_rises _) (tidyM_rises _) fun m=>(hmem j m).trans ((h m).symm.trans (hmem i m).symm)
theorem keyA_ok (L N:Nat) (ms:List (List Move)) (hm:Leads ms) (hL:8589934592≤L) (p:List Int) (hp:p.length=ms.length) (i:Nat) (hi:i<ms.length):f54_1 L N (i:Int) ms p=some (alikeKey ms p i):=by
 have hlim:=lim_eq
 have hrow:=hm.2 i hi
 have h1:f51_1 L N p (i:Int) ms=some (alikeKey ms p i):=by
  show f51_1.b L N some p (i:Int) ms=_
  unfold f51_1.b f51_1.b'
  simp only [le0,lt_cast hi,Bool.and_true,cond_true,Int.toNat_natCast,at_lt hi]
  have key:∀(n k:Nat) (out:List Move),k≤(ms[i]).length→(ms[i]).length-k<n→out.length=k→
    f51_1.l0 L N (fun z5=>f51_1.p0_e0 L N some z5) n p ms[i] ((ms[i]).length:Int) (k:Int) out=some (tidyM (out++((ms[i]).drop k).map fun m=>Move.mk m.act (p.getD m.to.toNat 0))):=by
   intro n
   induction n with
   |zero=>intro k out _ h;omega
   |succ n ih=>
    intro k out hk hn ho
    show f51_1.s0 L N _ (f51_1.l0 L N _ n) p ms[i] ((ms[i]).length:Int) (k:Int) out=_
    unfold f51_1.s0 f51_1.s0'
    by_cases hlt:k<(ms[i]).length
    ·obtain ⟨t,ht,htl⟩:=hm.nat hi hlt
     have htp:t<p.length:=by omega
     have hle:decide (out.length+([(Move.mk ((ms[i])[k]).act (p.getD t 0))]:(List Move)).length≤lim)=true:=dt (by simp only [List.length_cons,List.length_nil];omega)
     simp only [lt_cast hlt,le0,Bool.and_true,cond_true,Int.toNat_natCast,at_lt hlt,ht,lt_cast htp,atD,hle]
     rw [wi_nat (by omega),ih (k+1) _ (by omega) (by omega) (by simp [ho]),List.drop_eq_getElem_cons hlt,List.map_cons,ht,Int.toNat_natCast,List.append_assoc]
     rfl
    ·simp only [ge_cast hlt,cond_false]
     rw [List.drop_eq_nil_of_le (by omega),List.map_nil,List.append_nil]
     show f51_1.p0_e0' L N some out=_
     unfold f51_1.p0_e0'
     rw [fsortM_some (by omega),Option.bind_some]
  have h:=key L 0 [] (by omega) (by omega) rfl
  rw [List.drop_zero,List.nil_append] at h
  have hs:alikeKey ms p i=tidyM ((ms[i]).map fun m=>Move.mk m.act (p.getD m.to.toNat 0)):=by
   unfold alikeKey sigRow;rw [getD_lt hi]
  rw [hs]
  exact h
 show f54_1.b' L N some (i:Int) ms p=_
 unfold f54_1.b'
 rw [h1,Option.bind_some]
theorem refineAkin (L N:Nat) (ms:List (List Move)) (hm:Leads ms) (hL:8589934592≤L) (p:List Int) (hp:p.length=ms.length):
  ∃q,f53_1 L N p ms p=some q∧NextE (Akin ms p) ms.length q:=by
 obtain ⟨q,h1,h2⟩:=refineA_ok L N ms hm.1 hL p hp (alikeKey ms p) (alikeKey_len hm p) (fun i hi=>keyA_ok L N ms hm hL p hp i hi)
 exact ⟨q,h1,h2.congr fun i j _ _=>and_congr Iff.rfl (alikeKey_iff ms p j i)⟩
theorem last_cast {α:Type} (pre:List α) (p d:α) (h:pre.length≤1048576):wi (((pre++[p]).length:Int)-1)=(pre.length:Int)∧pre.length<(pre++[p]).length∧listAt (pre++[p]) d pre.length=p:=by
 refine ⟨?_,by simp,?_⟩
 ·rw [List.length_append,List.length_cons,List.length_nil,wi_id (by omega) (by omega)];omega
 ·rw [at_lt (by simp)];simp
end Go.Proofs.YtfdcjocallblcaaGreatDoor.Ev
namespace Go.Proofs.YtfdcjocallblcaaGreatDoor.Ev
open Go
set_option linter.unusedVariables false
set_option linter.unusedSimpArgs false
inductive Chain (E:List Int→Nat→Nat→Prop) (n:Nat):List (List Int)→List Int→Prop
 |zero:Chain E n [] (List.replicate n 0)
 |snoc (pre:List (List Int)) (p q:List Int) (h:Chain E n pre p) (hq:NextE (E p) n q):Chain E n (pre++[p]) q
structure EqE (E:List Int→Nat→Nat→Prop):Prop where
 refl:∀p i,E p i i
 symm:∀p i j,E p i j→E p j i
 trans:∀p i j k,E p i j→E p j k→E p i k
 fine:∀p i j,E p i j→p.getD i 0=p.getD j 0
theorem NextE.same {E:Nat→Nat→Prop} {n:Nat} {q:List Int} (h:NextE E n q) (sy:∀i j,E i j→E j i) (tr:∀i j k,E i j→E j k→E i k) {i i':Nat} (hi:i<n) (hi':i'<n):q.getD i 0=q.getD i' 0↔E i i':=by
 have hl:=h.1
 rw [getD_lt (show i<q.length by omega),getD_lt (show i'<q.length by omega)]
 obtain ⟨j,a1,a2,a3,a4⟩:=h.2 i (by omega)
 obtain ⟨j',b1,b2,b3,b4⟩:=h.2 i' (by omega)
 rw [a1,b1]
 constructor
 ·intro e
  obtain rfl:j=j':=by omega
  exact tr _ _ _ (sy _ _ a3) b3
 ·intro e
  have h1:¬j<j':=fun hlt=>b4 j hlt (tr _ _ _ a3 e)
  have h2:¬j'<j:=fun hlt=>a4 j' hlt (tr _ _ _ b3 (sy _ _ e))
  have:j=j':=by omega
  rw [this]
theorem Chain.len {E:List Int→Nat→Nat→Prop} {n:Nat} {pre:List (List Int)} {p:List Int} (h:Chain E n pre p):p.length=n:=by
 cases h with
 |zero=>simp
 |snoc pre p q h hq=>exact hq.1
theorem Chain.low {E:List Int→Nat→Nat→Prop} {n:Nat} {pre:List (List Int)} {p:List Int} (h:Chain E n pre p):Low p:=by
 cases h with
 |zero=>exact low_zero n
 |snoc pre p q h hq=>exact hq.low
theorem Chain.first {E:List Int→Nat→Nat→Prop} {n:Nat} {pre:List (List Int)} {p:List Int} (h:Chain E n pre p):(pre++[p]).getD 0 []=List.replicate n 0:=by
 induction h with
 |zero=>rfl
 |snoc pre p q h hq ih=>
  cases pre with
  |nil=>exact ih
  |cons a t=>exact ih
theorem Chain.next {E:List Int→Nat→Nat→Prop} {n:Nat} {pre:List (List Int)} {p:List Int} (h:Chain E n pre p):∀k,k<pre.length→NextE (E ((pre++[p]).getD k [])) n ((pre++[p]).getD (k+1) []):=by
 induction h with
 |zero=>intro k hk;simp at hk
 |snoc pre p q h hq ih=>
  intro k hk
  rw [List.length_append,List.length_cons,List.length_nil] at hk
  have e1:(pre++[p]++[q]).getD k []=(pre++[p]).getD k []:=by
   rw [List.getD_eq_getElem?_getD,List.getD_eq_getElem?_getD,List.getElem?_append_left (by simp;omega)]
  by_cases hlt:k<pre.length
  ·have e2:(pre++[p]++[q]).getD (k+1) []=(pre++[p]).getD (k+1) []:=by
    rw [List.getD_eq_getElem?_getD,List.getD_eq_getElem?_getD,List.getElem?_append_left (by simp;omega)]
   rw [e1,e2]
   exact ih k hlt
  ·obtain rfl:k=pre.length:=by omega
   have e2:(pre++[p]++[q]).getD (pre.length+1) []=q:=by
    rw [getD_lt (by simp),List.getElem_append_right (by simp)];simp
   have e3:(pre++[p]).getD pre.length []=p:=by
    rw [getD_lt (by simp),List.getElem_append_right (by simp)];simp
   rw [e1,e2,e3]
   exact hq
theorem Chain.keeps {E:List Int→Nat→Nat→Prop} (hE:EqE E) {n:Nat} {pre:List (List Int)} {p:List Int} (h:Chain E n pre p) (R:Nat→Nat→Prop)
  (hR:∀p,p.length=n→(∀i j,i<n→j<n→R i j→p.getD i 0=p.getD j 0)→∀i j,i<n→j<n→R i j→E p i j):
  ∀i j,i<n→j<n→R i j→p.getD i 0=p.getD j 0:=by
 induction h with
 |zero=>
  intro i j hi hj _
  rw [getD_lt (by simpa using hi),getD_lt (by simpa using hj),List.getElem_replicate,List.getElem_replicate]
 |snoc pre p q h hq ih=>
  intro i j hi hj hr
  exact (hq.same (hE.symm p) (hE.trans p) hi hj).2 (hR p h.len ih i j hi hj hr)
def Fix (E:List Int→Nat→Nat→Prop) (n:Nat) (q:List Int):Prop:=q.length=n∧NextE (E q) n q
theorem Fix.same {E:List Int→Nat→Nat→Prop} (hE:EqE E) {n:Nat} {q:List Int} (h:Fix E n q) {i j:Nat} (hi:i<n) (hj:j<n):q.getD i 0=q.getD j 0↔E q i j:=h.2.same (hE.symm q) (hE.trans q) hi hj
theorem Fix.rep {E:List Int→Nat→Nat→Prop} (hE:EqE E) {n:Nat} {q:List Int} (h:Fix E n q) {i:Nat} (hi:i<n):∃j:Nat,q.getD i 0=(j:Int)∧j≤i∧q.getD j 0=(j:Int):=by
 have hl:=h.1
 obtain ⟨j,a1,a2,a3,-⟩:=h.2.2 i (by omega)
 have e:q.getD i 0=(j:Int):=by rw [getD_lt (by omega),a1]
 exact ⟨j,e,a2,by rw [hE.fine _ _ _ a3,e]⟩
theorem akinEq (ms:List (List Move)):EqE (Akin ms) where
 refl p i:=Akin.refl ms p i
 symm p i j h:=⟨h.1.symm,fun m=>(h.2 m).symm⟩
 trans p i j k h1 h2:=⟨h1.1.trans h2.1,fun m=>(h2.2 m).trans (h1.2 m)⟩
 fine p i j h:=h.1
theorem roundsI (L N:Nat) (ms:List (List Move)) (hm:Leads ms) (hL:8589934592≤L):∀(n:Nat) (pre:List (List Int)) (p:List Int),p.length=ms.length→Low p→pre.length≤wgt p→3600-wgt p<n→Chain (Akin ms) ms.length pre p→
  ∃pre' q,f32_1.l0 L N (fun z4=>f32_1.p0_r L N some z4) n ms (pre++[p])=some (pre'++[q])∧pre'.length≤3600∧Chain (Akin ms) ms.length pre' q∧Fix (Akin ms) ms.length q:=by
 have hlim:=lim_eq
 have hn60:=hm.1
 have hw:∀p:List Int,p.length=ms.length→Low p→wgt p≤3600:=fun p hp hl=>by
  have h1:=wgt_le (p:=p) (B:=60) fun x hx=>by
   obtain ⟨i,hi,rfl⟩:=List.mem_iff_getElem.1 hx
   have:=hl i hi;omega
  omega
 intro n
 induction n with
 |zero=>intro pre p _ _ _ h;omega
 |succ n ih=>
  intro pre p hp hl hpre hn hch
  have hwp:=hw p hp hl
  obtain ⟨e1,e2,e3⟩:=last_cast pre p [] (by omega)
  obtain ⟨q1,b1,a2⟩:=refineAkin L N ms hm hL p hp
  have hq:q1.length=ms.length:=a2.1
  obtain ⟨r1,d1,c2⟩:=equalI_ok L N q1 p (by omega) (by omega)
  have hle:decide ((pre++[p]).length+([q1]:List (List Int)).length≤lim)=true:=dt (by simp only [List.length_append,List.length_cons,List.length_nil];omega)
  have s2:f32_1.l0 L N (fun z4=>f32_1.p0_r L N some z4) (n+1) ms (pre++[p])=bif r1 then some (pre++[p]) else f32_1.l0 L N (fun z4=>f32_1.p0_r L N some z4) n ms (pre++[p]++[q1]):=by
   show f32_1.s0 L N _ (f32_1.l0 L N _ n) ms (pre++[p])=_
   unfold f32_1.s0 f32_1.s0'
   simp only [e1,le0,lt_cast e2,Bool.and_true,cond_true,Int.toNat_natCast,e3,b1,d1,Option.bind_some,hle]
   rfl
  rw [s2]
  cases r1 with
  |true=>
   have heq:q1=p:=c2.1 rfl
   subst heq
   exact ⟨pre,q1,rfl,by omega,hch,hp,a2⟩
  |false=>
   have hne:p≠q1:=fun e=>absurd (c2.2 e.symm) (by simp)
   have hlt:=wgt_lt (by omega) (fun i h1 h2=>⟨(hl i h1).1,a2.ge hp hl (fun j i h=>h.1) i h1 h2⟩) hne
   have hwq:=hw q1 hq a2.low
   exact ih (pre++[p]) q1 hq a2.low (by simp only [List.length_append,List.length_cons,List.length_nil];omega) (by omega) (.snoc _ _ _ hch a2)
theorem chainI (L N:Nat) (ms:List (List Move)) (hm:Leads ms) (hL:8589934592≤L):∃pre q,f30 L N ⟨ms⟩=some (pre++[q])∧pre.length≤3600∧Chain (Akin ms) ms.length pre q∧Fix (Akin ms) ms.length q:=by
 have hlim:=lim_eq
 have hn60:=hm.1
 obtain ⟨pre,q,h2,h4,h5,h6⟩:=roundsI L N ms hm hL L [] (List.replicate ms.length 0) (by simp) (low_zero _) (by simp) (by omega) .zero
 have h0:decide ((ms.length:Int)≤(lim:Int))=true:=dt (by omega)
 have e0:((ms.length:Int)).toNat=ms.length:=rfl
 have r2:f30 L N ⟨ms⟩=some (pre++[q]):=by
  have hrr:f32_1 L N (ms.length:Int) ms=some (pre++[q]):=by
   show f32_1.b L N some (ms.length:Int) ms=_
   unfold f32_1.b f32_1.b'
   simp only [le0,h0,Bool.and_true,cond_true,e0]
   exact h2
  show f30.b' L N some ⟨ms⟩=_
  unfold f30.b'
  simp only [hrr,Option.bind_some]
 exact ⟨pre,q,r2,h4,h5,h6⟩
theorem classesI (L N:Nat) (ms:List (List Move)) {pre:List (List Int)} {q:List Int} (hr:f30 L N ⟨ms⟩=some (pre++[q])) (hp:pre.length≤3600) (hq:q.length≤60):f21 L N ⟨ms⟩=some q:=by
 have hlim:=lim_eq
 obtain ⟨e1,e2,e3⟩:=last_cast pre q [] (by omega)
 show f21.b' L N some ⟨ms⟩=_
 unfold f21.b'
 have hfc:fclone q=some ():=by unfold fclone;rw [dt (by omega)];rfl
 simp only [hr,Option.bind_some,e1,le0,lt_cast e2,Bool.and_true,cond_true,Int.toNat_natCast,e3,hfc]
theorem roundsC (L N:Nat) (ms:List (List Move)) (hm:Leads ms) (hL:8589934592≤L):∀(n:Nat) (pre:List (List Int)) (p:List Int),p.length=ms.length→Low p→pre.length≤wgt p→3600-wgt p<n→Chain (Akin ms) ms.length pre p→
  ∃pre' q,f50.l0 L N (fun z4=>f50.p0_r L N some z4) n ms (pre++[p])=some (pre'++[q])∧f32_1.l0 L N (fun z4=>f32_1.p0_r L N some z4) n ms (pre++[p])=some (pre'++[q])∧pre'.length≤3600∧Chain (Akin ms) ms.length pre' q∧Fix (Akin ms) ms.length q:=by
 have hlim:=lim_eq
 have hn60:=hm.1
 have hw:∀p:List Int,p.length=ms.length→Low p→wgt p≤3600:=fun p hp hl=>by
  have h1:=wgt_le (p:=p) (B:=60) fun x hx=>by
   obtain ⟨i,hi,rfl⟩:=List.mem_iff_getElem.1 hx
   have:=hl i hi;omega
  omega
 intro n
 induction n with
 |zero=>intro pre p _ _ _ h;omega
 |succ n ih=>
  intro pre p hp hl hpre hn hch
  have hwp:=hw p hp hl
  obtain ⟨e1,e2,e3⟩:=last_cast pre p [] (by omega)
  obtain ⟨q1,a1,a2⟩:=l4Next_ok L N ms hm (by omega) p hp
  obtain ⟨q2,b1,b2⟩:=refineAkin L N ms hm hL p hp
  obtain rfl:=a2.uniq b2
  have hq:q1.length=ms.length:=a2.1
  obtain ⟨r1,c1,c2⟩:=l4Same_ok L N q1 p (by omega) (by omega)
  obtain ⟨r2,d1,d2⟩:=equalI_ok L N q1 p (by omega) (by omega)
  have hr:r1=r2:=by rw [Bool.eq_iff_iff,c2,d2]
  subst hr
  have hle:decide ((pre++[p]).length+([q1]:List (List Int)).length≤lim)=true:=dt (by simp only [List.length_append,List.length_cons,List.length_nil];omega)
  have s1:f50.l0 L N (fun z4=>f50.p0_r L N some z4) (n+1) ms (pre++[p])=bif r1 then some (pre++[p]) else f50.l0 L N (fun z4=>f50.p0_r L N some z4) n ms (pre++[p]++[q1]):=by
   show f50.s0 L N _ (f50.l0 L N _ n) ms (pre++[p])=_
   unfold f50.s0 f50.s0'
   simp only [e1,le0,lt_cast e2,Bool.and_true,cond_true,Int.toNat_natCast,e3,a1,c1,Option.bind_some,hle]
   rfl
  have s2:f32_1.l0 L N (fun z4=>f32_1.p0_r L N some z4) (n+1) ms (pre++[p])=bif r1 then some (pre++[p]) else f32_1.l0 L N (fun z4=>f32_1.p0_r L N some z4) n ms (pre++[p]++[q1]):=by
   show f32_1.s0 L N _ (f32_1.l0 L N _ n) ms (pre++[p])=_
   unfold f32_1.s0 f32_1.s0'
   simp only [e1,le0,lt_cast e2,Bool.and_true,cond_true,Int.toNat_natCast,e3,b1,d1,Option.bind_some,hle]
   rfl
  rw [s1,s2]
  cases r1 with
  |true=>
   have heq:q1=p:=c2.1 rfl
   subst heq
   exact ⟨pre,q1,rfl,rfl,by omega,hch,hp,a2⟩
  |false=>
   have hne:p≠q1:=fun e=>absurd (c2.2 e.symm) (by simp)
   have hlt:=wgt_lt (by omega) (fun i h1 h2=>⟨(hl i h1).1,a2.ge hp hl (fun j i h=>h.1) i h1 h2⟩) hne
   have hwq:=hw q1 hq a2.low
   exact ih (pre++[p]) q1 hq a2.low (by simp only [List.length_append,List.length_cons,List.length_nil];omega) (by omega) (.snoc _ _ _ hch a2)
theorem chainS (L N:Nat) (ms:List (List Move)) (hm:Leads ms) (hL:8589934592≤L) {pre:List (List Int)} {q:List Int} (hr:f30 L N ⟨ms⟩=some (pre++[q])):f50 L N ⟨ms⟩=some (pre++[q]):=by
 have hlim:=lim_eq
 have hn60:=hm.1
 obtain ⟨pre',q',h1,h2,h4,h5,h6⟩:=roundsC L N ms hm hL L [] (List.replicate ms.length 0) (by simp) (low_zero _) (by simp) (by omega) .zero
 have h0:decide ((ms.length:Int)≤(lim:Int))=true:=dt (by omega)
 have e0:((ms.length:Int)).toNat=ms.length:=rfl
 have r2:f30 L N ⟨ms⟩=some (pre'++[q']):=by
  have hrr:f32_1 L N (ms.length:Int) ms=some (pre'++[q']):=by
   show f32_1.b L N some (ms.length:Int) ms=_
   unfold f32_1.b f32_1.b'
   simp only [le0,h0,Bool.and_true,cond_true,e0]
   exact h2
  show f30.b' L N some ⟨ms⟩=_
  unfold f30.b'
  simp only [hrr,Option.bind_some]
 rw [r2] at hr
 rw [←Option.some.inj hr]
 show f50.b L N some ⟨ms⟩=_
 unfold f50.b f50.b'
 simp only [le0,h0,Bool.and_true,cond_true,e0]
 exact h1
theorem classesS (L N:Nat) (ms:List (List Move)) {pre:List (List Int)} {q:List Int} (hr:f50 L N ⟨ms⟩=some (pre++[q])) (hp:pre.length≤3600):f27 L N ⟨ms⟩=some q:=by
 have hlim:=lim_eq
 obtain ⟨e1,e2,e3⟩:=last_cast pre q [] (by omega)
 show f27.b' L N some ⟨ms⟩=_
 unfold f27.b'
 simp only [hr,Option.bind_some,e1,le0,lt_cast e2,Bool.and_true,cond_true,Int.toNat_natCast,e3]
end Go.Proofs.YtfdcjocallblcaaGreatDoor.Ev
namespace Go.Proofs.YtfdcjocallblcaaGreatDoor.Ev
open Go
set_option linter.unusedVariables false
set_option linter.unusedSimpArgs false
theorem mnInts_same (L N:Nat) (q:List Int) (hL:q.length<L) (hl:q.length≤1048576):f8 L N q q=some true:=by
 show f8.b L N some q q=_
 unfold f8.b f8.b'
 simp only [bne_self_eq_false,cond_false]
 have key:∀(n i:Nat),i≤q.length→q.length-i<n→f8.l0 L N (f8.p0_e0 L N some) (fun z3=>f8.p0_r L N some z3) n q q (i:Int)=some true:=by
  intro n
  induction n with
  |zero=>intro i _ h;omega
  |succ n ih=>
   intro i hi hn
   show f8.s0 L N _ _ (f8.l0 L N _ _ n) q q (i:Int)=_
   unfold f8.s0 f8.s0'
   by_cases hlt:i<q.length
   ·simp only [lt_cast hlt,le0,Bool.and_true,cond_true,bne_self_eq_false,cond_false]
    rw [wi_nat (by omega)]
    exact ih (i+1) (by omega) (by omega)
   ·rw [ge_cast hlt,cond_false];rfl
 exact key L 0 (by omega) (by omega)
theorem mnHas_ok (L N:Nat) (q:List Int) (v:Int) (hL:q.length<L) (hl:q.length≤1048576):f17 L N q v=some (decide (v∈q)):=by
 show f17.b L N some q v=_
 unfold f17.b f17.b'
 have key:∀(n i:Nat),i≤q.length→q.length-i<n→f17.l0 L N (f17.p0_e0 L N some) (fun z3=>f17.p0_r L N some z3) n q v (i:Int)=some (decide (v∈q.drop i)):=by
  intro n
  induction n with
  |zero=>intro i _ h;omega
  |succ n ih=>
   intro i hi hn
   show f17.s0 L N _ _ (f17.l0 L N _ _ n) q v (i:Int)=_
   unfold f17.s0 f17.s0'
   by_cases hlt:i<q.length
   ·rw [List.drop_eq_getElem_cons hlt]
    simp only [lt_cast hlt,le0,Bool.and_true,cond_true,Int.toNat_natCast,at_lt hlt]
    by_cases h:q[i]=v
    ·rw [show (q[i]==v)=true by simpa using h,cond_true,dt (List.mem_cons.2 (.inl h.symm))];rfl
    ·rw [show (q[i]==v)=false by simpa using h,cond_false,wi_nat (by omega),ih (i+1) (by omega) (by omega)]
     have e:(v∈q.drop (i+1))↔v∈q[i]::q.drop (i+1):=⟨fun h'=>.tail _ h',fun h'=>(List.mem_cons.1 h').elim (fun e=>absurd e.symm h) id⟩
     rw [decide_eq_decide.2 e]
   ·rw [ge_cast hlt,cond_false,List.drop_eq_nil_of_le (by omega)];rfl
 exact key L 0 (by omega) (by omega)
end Go.Proofs.YtfdcjocallblcaaGreatDoor.Ev
namespace Go.Proofs.YtfdcjocallblcaaGreatDoor.Ev
open Go
set_option linter.unusedVariables false
set_option linter.unusedSimpArgs false
theorem mnFiner_ok (L N:Nat) (a b:List Int) (hl:a.length=b.length) (h:∀i j,i<a.length→j<a.length→a.getD i 0=a.getD j 0→b.getD i 0=b.getD j 0) (hL:a.length+1<L) (hlen:a.length≤1048576):f15 L N a b=some true:=by
 show f15.b L N some a b=_
 unfold f15.b f15.b'
 have he:((a.length:Int) !=(b.length:Int))=false:=by rw [hl];simp
 rw [he,cond_false]
 have key:∀(n i:Nat),i≤a.length→a.length-i<n→f15.l0 L N (f15.p0_e0 L N some) (fun z23=>f15.p0_r L N some z23) n a b (i:Int)=some true:=by
  intro n
  induction n with
  |zero=>intro i _ h;omega
  |succ n ih=>
   intro i hi hn
   show f15.s0 L N _ _ (f15.l0 L N _ _ n) a b (i:Int)=_
   unfold f15.s0 f15.s0'
   by_cases hlt:i<a.length
   ·rw [lt_cast hlt,cond_true]
    have row:∀(n' j:Nat),j≤i→i-j<n'→f15.l1 L N (fun z7 z8 z9=>f15.p1_e2 L N (f15.p0_e0 L N some) (fun z23=>f15.p0_r L N some z23) (f15.l0 L N (f15.p0_e0 L N some) (fun z23=>f15.p0_r L N some z23) n) z7 z8 z9) (fun z15 z16 z17 z18=>f15.p1_r L N (f15.p0_e0 L N some) (fun z23=>f15.p0_r L N some z23) (f15.l0 L N (f15.p0_e0 L N some) (fun z23=>f15.p0_r L N some z23) n) z15 z16 z17 z18) n' a b (i:Int) (j:Int)=some true:=by
     intro n'
     induction n' with
     |zero=>intro j _ h;omega
     |succ n' ih2=>
      intro j hj hn'
      show f15.s1 L N _ _ (f15.l1 L N _ _ n') a b (i:Int) (j:Int)=_
      unfold f15.s1 f15.s1'
      by_cases hji:j<i
      ·have hja:j<a.length:=by omega
       have hib:i<b.length:=by omega
       have hjb:j<b.length:=by omega
       rw [dt (show (j:Int)<(i:Int) by omega),cond_true]
       simp only [le0,lt_cast hlt,lt_cast hja,lt_cast hib,lt_cast hjb,Bool.and_true,cond_true,Int.toNat_natCast,atD]
       rw [wi_nat (by omega)]
       cases hc:(a.getD i 0==a.getD j 0) with
       |false=>rw [cond_false];exact ih2 (j+1) (by omega) (by omega)
       |true=>
        have e:=h i j hlt hja (eq_of_beq hc)
        rw [cond_true,e,bne_self_eq_false,cond_false]
        exact ih2 (j+1) (by omega) (by omega)
      ·rw [df (show ¬(j:Int)<(i:Int) by omega),cond_false]
       show f15.l0 L N _ _ n a b (wi ((i:Int)+1))=_
       rw [wi_nat (by omega)]
       exact ih (i+1) (by omega) (by omega)
    exact row L 0 (by omega) (by omega)
   ·rw [ge_cast hlt,cond_false];rfl
 exact key L 0 (by omega) (by omega)
end Go.Proofs.YtfdcjocallblcaaGreatDoor.Ev
namespace Go.Proofs.YtfdcjocallblcaaGreatDoor.Ev
open Go
set_option linter.unusedVariables false
set_option linter.unusedSimpArgs false
theorem equalMB_ok (L N:Nat) (a b:List Move) (hL:a.length<L) (hl:a.length≤1099511627776):∃r,f67 L N a b=some r∧(r=true↔a=b):=by
 show ∃r,f67.b L N some a b=some r∧_
 unfold f67.b f67.b'
 have eqb:∀x y:Move,Move.eqb x y=true↔x=y:=fun x y=>by
  constructor
  ·intro h
   simp only [Move.eqb,Bool.and_eq_true,beq_iff_eq] at h
   rw [←mv_eta x,←mv_eta y,h.1,h.2]
  ·rintro rfl;simp [Move.eqb]
 by_cases he:a.length=b.length
 ·have:((a.length:Int) !=(b.length:Int))=false:=by simp [he]
  rw [this,cond_false]
  have key:∀(n i:Nat),i≤a.length→a.length-i<n→(∀j (h1:j<a.length) (h2:j<b.length),j<i→a[j]=b[j])→
    ∃r,f67.l0 L N (f67.p0_e0 L N some) (fun z4=>f67.p0_r L N some z4) n a b (a.length:Int) (i:Int)=some r∧(r=true↔a=b):=by
   intro n
   induction n with
   |zero=>intro i _ h;omega
   |succ n ih=>
    intro i hi hn hs
    show ∃r,f67.s0 L N _ _ (f67.l0 L N _ _ n) a b (a.length:Int) (i:Int)=some r∧_
    unfold f67.s0 f67.s0'
    by_cases hlt:i<a.length
    ·have hlt':i<b.length:=by omega
     simp only [le0,lt_cast hlt,lt_cast hlt',Bool.and_true,cond_true,Int.toNat_natCast,at_lt hlt,at_lt hlt']
     cases h0:Move.eqb a[i] b[i] with
     |true=>
      have h1:=(eqb _ _).1 h0
      rw [Bool.not_true,cond_false,wi_nat (by omega)]
      refine ih (i+1) (by omega) (by omega) fun j h2 h3 h4=>?_
      by_cases e:j=i
      ·subst e;exact h1
      ·exact hs j h2 h3 (by omega)
     |false=>
      rw [Bool.not_false,cond_true]
      refine ⟨false,rfl,?_⟩
      simp only [Bool.false_eq_true,false_iff]
      intro e
      subst e
      rw [(eqb _ _).2 rfl] at h0;cases h0
    ·simp only [ge_cast hlt,cond_false]
     refine ⟨true,rfl,?_⟩
     simp only [true_iff]
     exact List.ext_getElem he fun j h1 h2=>hs j h1 h2 (by omega)
  exact key L 0 (by omega) (by omega) (fun _ _ _ h=>by omega)
 ·have:((a.length:Int) !=(b.length:Int))=true:=by simp;omega
  rw [this,cond_true]
  refine ⟨false,rfl,?_⟩
  simp only [Bool.false_eq_true,false_iff]
  intro e
  exact he (by rw [e])
theorem refineB_ok (L N:Nat) (ms:List (List Move)) (hn60:ms.length≤60) (hL:8589934592≤L) (p:List Int) (hp:p.length=ms.length) (key:Nat→List Move) (hkl:∀i,(key i).length≤3774873660)
  (hkey:∀i,i<ms.length→f54_2 L N (i:Int) ms p=some (key i)):
  ∃q,f53_2 L N p ms p=some q∧NextE (fun j i=>p.getD j 0=p.getD i 0∧key j=key i) ms.length q:=by
 have hlim:=lim_eq
 have inner:∀{R:Type} (K:List Int→List (List Move)→List Int→Int→Int→List Int→List (List Move)→Option R) (i:Nat) (hi:i<ms.length) (out:List Int) (keys:List (List Move)),out.length=ms.length→keys.length=ms.length→(∀j,j≤i→keys.getD j []=key j)→∀(n j:Nat),j≤i→i-j<n→(∀j',j'<j→¬(p.getD j' 0=p.getD i 0∧key j'=key i))→out.getD i 0=(i:Int)→
   ∃(b:Nat) (out':List Int),b≤i∧(p.getD b 0=p.getD i 0∧key b=key i)∧(∀j',j'<b→¬(p.getD j' 0=p.getD i 0∧key j'=key i))∧out'=out.set i (b:Int)∧f53_2.l1 L N K n p ms p (i:Int) (j:Int) (ms.length:Int) (i:Int) out keys=K p ms p (ms.length:Int) (i:Int) out' keys:=by
  intro R K i hi out keys ho hk hks n
  induction n with
  |zero=>intro j _ h;omega
  |succ n ih=>
   intro j hj hn hno hoi
   show ∃(b:Nat) (out':List Int),_∧_∧_∧_∧f53_2.s1 L N _ (f53_2.l1 L N _ n) p ms p (i:Int) (j:Int) (ms.length:Int) (i:Int) out keys=_
   unfold f53_2.s1 f53_2.s1'
   by_cases hlt:j<i
   ·have hjp:j<p.length:=by omega
    have hip:i<p.length:=by omega
    have hjk:j<keys.length:=by omega
    have hik:i<keys.length:=by omega
    have hio:i<out.length:=by omega
    simp only [lt_cast hlt,le0,lt_cast hjp,lt_cast hip,lt_cast hjk,lt_cast hik,Bool.and_true,cond_true,Int.toNat_natCast,atD,hks j (by omega),hks i (by omega)]
    have stay:¬(p.getD j 0=p.getD i 0∧key j=key i)→∃(b:Nat) (out':List Int),b≤i∧(p.getD b 0=p.getD i 0∧key b=key i)∧(∀j',j'<b→¬(p.getD j' 0=p.getD i 0∧key j'=key i))∧out'=out.set i (b:Int)∧f53_2.l1 L N K n p ms p (i:Int) (wi ((j:Int)+1)) (ms.length:Int) (i:Int) out keys=K p ms p (ms.length:Int) (i:Int) out' keys:=fun hne=>by
     rw [wi_nat (by omega)]
     refine ih (j+1) (by omega) (by omega) (fun j' h=>?_) hoi
     by_cases e:j'=j
     ·subst e;exact hne
     ·exact hno j' (by omega)
    by_cases h1:p.getD j 0=p.getD i 0
    ·obtain ⟨r,e1,f1⟩:=equalMB_ok L N (key j) (key i) (by have:=hkl j;omega) (by have:=hkl j;omega)
     rw [show (p.getD j 0==p.getD i 0)=true by simpa using h1,cond_true,e1,Option.bind_some]
     unfold f53_2.j0'
     cases r with
     |true=>
      simp only [cond_true,le0,lt_cast hio,Bool.and_true,Int.toNat_natCast]
      exact ⟨j,_,by omega,⟨h1,f1.1 rfl⟩,hno,rfl,rfl⟩
     |false=>
      rw [cond_false]
      exact stay fun h=>absurd (f1.2 h.2) (by simp)
    ·rw [show (p.getD j 0==p.getD i 0)=false by simpa using h1,cond_false]
     unfold f53_2.j0'
     rw [cond_false]
     exact stay fun h=>h1 h.1
   ·have hji:j=i:=by omega
    subst hji
    simp only [ge_cast (Nat.lt_irrefl _),cond_false]
    refine ⟨j,_,Nat.le_refl _,⟨rfl,rfl⟩,hno,rfl,?_⟩
    have hio:j<out.length:=by omega
    rw [getD_lt hio] at hoi
    rw [←hoi,List.set_getElem_self]
 show ∃q,f53_2.b L N some p ms p=some q∧_
 unfold f53_2.b f53_2.b'
 have h0:decide ((ms.length:Int)≤(lim:Int))=true:=dt (by omega)
 have e0:((ms.length:Int)).toNat=ms.length:=rfl
 simp only [hp,le0,h0,Bool.and_true,cond_true,e0]
 have key0:∀(n i:Nat) (out:List Int) (keys:List (List Move)),out.length=ms.length→keys.length=ms.length→i≤ms.length→ms.length-i<n→(∀j,j<i→keys.getD j []=key j)→(∀i',i'<i→∃j:Nat,out.getD i' 0=(j:Int)∧j≤i'∧(p.getD j 0=p.getD i' 0∧key j=key i')∧∀j',j'<j→¬(p.getD j' 0=p.getD i' 0∧key j'=key i'))→
   ∃q,f53_2.l0 L N (fun z7=>f53_2.p0_e0 L N some z7) n p ms p (ms.length:Int) (i:Int) out keys=some q∧NextE (fun j i=>p.getD j 0=p.getD i 0∧key j=key i) ms.length q:=by
  intro n
  induction n with
  |zero=>intro i out keys _ _ _ h;omega
  |succ n ih=>
   intro i out keys ho hk hi hn hks hout
   show ∃q,f53_2.s0 L N _ (f53_2.l0 L N _ n) p ms p (ms.length:Int) (i:Int) out keys=some q∧_
   unfold f53_2.s0 f53_2.s0'
   by_cases hlt:i<ms.length
   ·have hio:i<out.length:=by omega
    have hik:i<keys.length:=by omega
    simp only [lt_cast hlt,cond_true,hkey i hlt,Option.bind_some,le0,lt_cast hio,lt_cast hik,Bool.and_true,Int.toNat_natCast]
    have hks':∀j,j≤i→(keys.set i (key i)).getD j []=key j:=fun j hj=>by
     by_cases e:j=i
     ·subst e;rw [getD_lt (by simpa using hik),List.getElem_set_self]
     ·rw [List.getD,List.getElem?_set_ne (by omega),←List.getD];exact hks j (by omega)
    obtain ⟨b,out',q1,q2,q3,q4,e⟩:=inner (fun z18 z19 z20 z21 z22 z23 z24=>f53_2.p1_e2 L N (fun z7=>f53_2.p0_e0 L N some z7) (f53_2.l0 L N (fun z7=>f53_2.p0_e0 L N some z7) n) z18 z19 z20 z21 z22 z23 z24) i hlt (out.set i (i:Int)) (keys.set i (key i)) (by simp [ho]) (by simp [hk]) hks' L 0 (by omega) (by omega) (fun j' h=>by omega) (by rw [getD_lt (by simpa using hio),List.getElem_set_self])
    refine (show ∃q,_=some q∧_ from ?_)
    have e':f53_2.l1 L N (fun z18 z19 z20 z21 z22 z23 z24=>f53_2.p1_e2 L N (fun z7=>f53_2.p0_e0 L N some z7) (f53_2.l0 L N (fun z7=>f53_2.p0_e0 L N some z7) n) z18 z19 z20 z21 z22 z23 z24) L p ms p (i:Int) (0:Int) (ms.length:Int) (i:Int) (out.set i (i:Int)) (keys.set i (key i))=_:=e
    rw [e']
    show ∃q,f53_2.p1_e2' L N _ _ p ms p (ms.length:Int) (i:Int) out' (keys.set i (key i))=some q∧_
    unfold f53_2.p1_e2'
    rw [wi_nat (by omega)]
    have hset:(out.set i (i:Int)).set i (b:Int)=out.set i (b:Int):=by rw [List.set_set]
    refine ih (i+1) out' _ (by rw [q4];simp [ho]) (by simp [hk]) (by omega) (by omega) (fun j hj=>hks' j (by omega)) fun i' hi'=>?_
    rw [q4,hset]
    by_cases e:i'=i
    ·subst e
     exact ⟨b,by rw [getD_lt (by simpa using hio),List.getElem_set_self],q1,q2,q3⟩
    ·obtain ⟨j,r1,r2⟩:=hout i' (by omega)
     exact ⟨j,by rw [List.getD,List.getElem?_set_ne (by omega),←List.getD];exact r1,r2⟩
   ·simp only [ge_cast hlt,cond_false]
    have hi':i=ms.length:=by omega
    subst hi'
    refine ⟨out,rfl,ho,fun i hi=>?_⟩
    obtain ⟨j,r1,r2⟩:=hout i (by omega)
    rw [getD_lt hi] at r1
    exact ⟨j,r1,r2⟩
 exact key0 L 0 (List.replicate ms.length (0:Int)) (List.replicate ms.length ([]:List Move)) List.length_replicate List.length_replicate (by omega) (by omega) (fun j h=>by omega) (fun i' h=>by omega)
end Go.Proofs.YtfdcjocallblcaaGreatDoor.Ev
namespace Go.Proofs.YtfdcjocallblcaaGreatDoor.Ev
open Go
set_option linter.unusedVariables false
set_option linter.unusedSimpArgs false
def bStep (p:List Int) (s:Nat) (st:List Int×List Move) (m:Move):List Int×List Move:=
 if m.act=0∧p.getD m.to.toNat 0=p.getD s 0 then (if m.to∈st.1 then st else (st.1++[m.to],st.2)) else (st.1,st.2++[Move.mk m.act (p.getD m.to.toNat 0)])
def bRow (p:List Int) (s:Nat) (row:List Move) (st:List Int×List Move):List Int×List Move:=row.foldl (bStep p s) st
def bLoop (ms:List (List Move)) (p:List Int) (s:Nat):Nat→Nat→List Int×List Move→List Move
 |0,_,st=>st.2
 |n+1,k,st=>if k<st.1.length then bLoop ms p s n (k+1) (bRow p s (ms.getD (st.1.getD k 0).toNat []) st) else st.2
def bOut (ms:List (List Move)) (p:List Int) (s:Nat):List Move:=bLoop ms p s 62 0 ([(s:Int)],[])
theorem bRow_cons (p:List Int) (s:Nat) (row:List Move) (k:Nat) (hk:k<row.length) (st:List Int×List Move):bRow p s (row.drop k) st=bRow p s (row.drop (k+1)) (bStep p s st row[k]):=by
 unfold bRow;rw [List.drop_eq_getElem_cons hk,List.foldl_cons]
theorem bRow_nil (p:List Int) (s:Nat) (row:List Move) (k:Nat) (hk:¬k<row.length) (st:List Int×List Move):bRow p s (row.drop k) st=st:=by
 unfold bRow;rw [List.drop_eq_nil_of_le (by omega),List.foldl_nil]
theorem qok_mem {ms:List (List Move)} {seen:List Bool} {q:List Int} (h:QOk ms seen q) {t:Nat} (ht:t<ms.length):seen.getD t false=decide ((t:Int)∈q):=by
 rw [Bool.eq_iff_iff,decide_eq_true_iff]
 constructor
 ·intro hT;exact h.2.2.1 t hT
 ·intro hq
  obtain ⟨t',h1,h2⟩:=h.2.1 _ hq
  obtain rfl:t=t':=by omega
  exact h2
theorem mapI_put (x y:Int) (b:Bool):∀mp:List (Int×Bool),(mapFind i64 .bool y (mapPut i64 .bool x b mp):Option Bool)=if y=x then some b else (mapFind i64 .bool y mp:Option Bool)
 |[]=>by
  show (bif (y==x) then some b else none)=_
  by_cases h:y=x
  ·rw [if_pos h,show (y==x)=true by simpa using h,cond_true]
  ·rw [if_neg h,show (y==x)=false by simpa using h,cond_false];rfl
 |e::r=>by
  show mapFind i64 .bool y (bif (x==e.1) then (x,b)::r else e::mapPut i64 .bool x b r)=if y=x then some b else (bif (y==e.1) then some e.2 else mapFind i64 .bool y r)
  by_cases h1:x=e.1
  ·rw [show (x==e.1)=true by simpa using h1,cond_true]
   show (bif (y==x) then some b else mapFind i64 .bool y r)=_
   by_cases h:y=x
   ·rw [if_pos h,show (y==x)=true by simpa using h,cond_true]
   ·rw [if_neg h,show (y==x)=false by simpa using h,cond_false,show (y==e.1)=false by rw [←h1];simpa using h,cond_false]
  ·rw [show (x==e.1)=false by simpa using h1,cond_false]
   show (bif (y==e.1) then some e.2 else mapFind i64 .bool y (mapPut i64 .bool x b r))=_
   rw [mapI_put x y b r]
   by_cases h:y=x
   ·subst h
    rw [if_pos rfl,if_pos rfl,show (y==e.1)=false by simpa using h1,cond_false]
   ·rw [if_neg h,if_neg h]
def MapOk (ms:List (List Move)) (mp:List (Int×Bool)) (q:List Int):Prop:=(∃seen,QOk ms seen q)∧∀t:Nat,t<ms.length→((mapFind i64 .bool (t:Int) mp:Option Bool).getD false)=decide ((t:Int)∈q)
theorem MapOk.add {ms:List (List Move)} {mp:List (Int×Bool)} {q:List Int} (h:MapOk ms mp q) {t:Nat} (ht:t<ms.length) (hf:(t:Int)∉q):MapOk ms (mapPut i64 .bool (t:Int) true mp) (q++[(t:Int)]):=by
 obtain ⟨⟨seen,hq⟩,h2⟩:=h
 refine ⟨⟨seen.set t true,hq.add ht (by rw [qok_mem hq ht];exact df hf)⟩,fun u hu=>?_⟩
 rw [mapI_put]
 by_cases e:(u:Int)=(t:Int)
 ·rw [if_pos e,Option.getD_some]
  exact (dt (List.mem_append_right _ (List.mem_singleton.2 e))).symm
 ·rw [if_neg e,h2 u hu]
  rw [Bool.eq_iff_iff,decide_eq_true_iff,decide_eq_true_iff,List.mem_append,List.mem_singleton]
  exact ⟨.inl,fun h=>h.elim id fun h=>absurd h e⟩
theorem bimpl1 {R:Type} (L N:Nat) (K:List Int→Int→Int→List (List Move)→List Move→List (Int×Bool)→List Int→Option R) (ms:List (List Move)) (hm:Leads ms) (p:List Int) (hp:p.length=ms.length) (s:Nat) (hs:s<ms.length) (k:Int) (v:Nat) (hv:v<ms.length):
  ∀(n i:Nat) (q:List Int) (mp:List (Int×Bool)) (out:List Move),i≤(ms[v]).length→(ms[v]).length-i<n→MapOk ms mp q→out.length+((ms[v]).length-i)≤62914560→
   ∃mp',MapOk ms mp' (bRow p s ((ms[v]).drop i) (q,out)).1∧(bRow p s ((ms[v]).drop i) (q,out)).2.length≤out.length+((ms[v]).length-i)∧q.length≤(bRow p s ((ms[v]).drop i) (q,out)).1.length∧
    f34.l1 L N K n p (s:Int) k ms[v] ((ms[v]).length:Int) (i:Int) ms out mp q=K p (s:Int) k ms (bRow p s ((ms[v]).drop i) (q,out)).2 mp' (bRow p s ((ms[v]).drop i) (q,out)).1:=by
 have hlim:=lim_eq
 have hn60:=hm.1
 have hrow:=(hm.2 v hv).1
 intro n
 induction n with
 |zero=>intro i q mp out _ h;omega
 |succ n ih=>
  intro i q mp out hi hn hq ho
  show ∃mp',_∧_∧_∧f34.s1 L N _ (f34.l1 L N _ n) p (s:Int) k ms[v] ((ms[v]).length:Int) (i:Int) ms out mp q=_
  unfold f34.s1 f34.s1'
  by_cases hlt:i<(ms[v]).length
  ·obtain ⟨t,ht,htl⟩:=hm.nat hv hlt
   rw [bRow_cons p s ms[v] i hlt]
   generalize hmv:(ms[v])[i]=m at ht
   have htp:t<p.length:=by omega
   have hsp:s<p.length:=by omega
   have hql:q.length≤ms.length:=by obtain ⟨⟨seen,h⟩,-⟩:=hq;exact h.len
   have hst:m.to.toNat=t:=by rw [ht,Int.toNat_natCast]
   simp only [lt_cast hlt,le0,Bool.and_true,Bool.true_and,cond_true,Int.toNat_natCast,at_lt hlt,hmv,ht,lt_cast htp,lt_cast hsp,atD]
   have hw:wi ((i:Int)+1)=((i+1:Nat):Int):=wi_nat (by omega)
   have hle:decide (out.length+([(Move.mk m.act (p.getD t 0))]:(List Move)).length≤lim)=true:=dt (by simp only [List.length_cons,List.length_nil];omega)
   have lay:¬(m.act=0∧p.getD t 0=p.getD s 0)→∃mp',MapOk ms mp' (bRow p s ((ms[v]).drop (i+1)) (bStep p s (q,out) m)).1∧(bRow p s ((ms[v]).drop (i+1)) (bStep p s (q,out) m)).2.length≤out.length+((ms[v]).length-i)∧q.length≤(bRow p s ((ms[v]).drop (i+1)) (bStep p s (q,out) m)).1.length∧
     f34.j0' L N K (f34.l1 L N K n) p (s:Int) k ms[v] ((ms[v]).length:Int) (i:Int) true ms m.act (t:Int) out mp q=K p (s:Int) k ms (bRow p s ((ms[v]).drop (i+1)) (bStep p s (q,out) m)).2 mp' (bRow p s ((ms[v]).drop (i+1)) (bStep p s (q,out) m)).1:=fun hno=>by
    have he:bStep p s (q,out) m=(q,out++[Move.mk m.act (p.getD t 0)]):=by unfold bStep;rw [hst,if_neg hno]
    rw [he]
    unfold f34.j0'
    simp only [cond_true,le0,lt_cast htp,Bool.and_true,Int.toNat_natCast,atD,hle,hw]
    obtain ⟨mp',a1,a2,a3,a4⟩:=ih (i+1) q mp (out++[Move.mk m.act (p.getD t 0)]) (by omega) (by omega) hq (by simp only [List.length_append,List.length_cons,List.length_nil];omega)
    refine ⟨mp',a1,?_,a3,a4⟩
    simp only [List.length_append,List.length_cons,List.length_nil] at a2
    omega
   by_cases ha:m.act=0
   ·rw [show (m.act !=0)=false by simpa using ha,cond_false]
    by_cases hc:p.getD t 0=p.getD s 0
    ·rw [show (p.getD t 0 !=p.getD s 0)=false by simpa using hc]
     unfold f34.j0'
     have hmf:((mapFind i64 .bool (t:Int) mp:Option Bool).getD (Ty.dflt .bool))=decide ((t:Int)∈q):=hq.2 t htl
     rw [cond_false]
     by_cases hmem:(t:Int)∈q
     ·have he:bStep p s (q,out) m=(q,out):=by unfold bStep;rw [hst,if_pos ⟨ha,hc⟩,ht,if_pos hmem]
      rw [dt hmem] at hmf
      have hmf':(!((mapFind i64 .bool (t:Int) mp).getD (Ty.dflt .bool):Bool))=false:=by
       show (!((mapFind i64 .bool (t:Int) mp:Option Bool).getD (Ty.dflt .bool)))=false
       rw [hmf];rfl
      rw [he,hmf',cond_false,hw]
      obtain ⟨mp',a1,a2,a3,a4⟩:=ih (i+1) q mp out (by omega) (by omega) hq (by omega)
      exact ⟨mp',a1,by omega,a3,a4⟩
     ·have he:bStep p s (q,out) m=(q++[(t:Int)],out):=by unfold bStep;rw [hst,if_pos ⟨ha,hc⟩,ht,if_neg hmem]
      have hle2:decide (q.length+([(t:Int)]:(List Int)).length≤lim)=true:=dt (by simp only [List.length_cons,List.length_nil];omega)
      rw [df hmem] at hmf
      have hmf':(!((mapFind i64 .bool (t:Int) mp).getD (Ty.dflt .bool):Bool))=true:=by
       show (!((mapFind i64 .bool (t:Int) mp:Option Bool).getD (Ty.dflt .bool)))=true
       rw [hmf];rfl
      rw [he,hmf',cond_true,hle2,cond_true,hw]
      obtain ⟨mp',a1,a2,a3,a4⟩:=ih (i+1) (q++[(t:Int)]) (mapPut i64 .bool (t:Int) true mp) out (by omega) (by omega) (hq.add htl hmem) (by omega)
      refine ⟨mp',a1,by omega,?_,a4⟩
      simp only [List.length_append,List.length_cons,List.length_nil] at a3
      omega
    ·rw [show (p.getD t 0 !=p.getD s 0)=true by simpa using hc]
     exact lay fun h=>hc h.2
   ·rw [show (m.act !=0)=true by simpa using ha,cond_true]
    exact lay fun h=>ha h.1
  ·rw [bRow_nil p s ms[v] i hlt]
   simp only [ge_cast hlt,cond_false]
   exact ⟨mp,hq,by simp,Nat.le_refl _,rfl⟩
theorem branchMark_ok (L N:Nat) (ms:List (List Move)) (hm:Leads ms) (hL:8589934592≤L) (p:List Int) (hp:p.length=ms.length) (s:Nat) (hs:s<ms.length):
  f34 L N ⟨ms⟩ p (s:Int)=some (tidyM (bOut ms p s)):=by
 have hlim:=lim_eq
 have hn60:=hm.1
 show f34.b L N some ⟨ms⟩ p (s:Int)=_
 unfold f34.b f34.b'
 have key:∀(m n k:Nat) (q:List Int) (mp:List (Int×Bool)) (out:List Move),k≤q.length→ms.length+1-k<m→ms.length+1-k<n→MapOk ms mp q→out.length≤k*1048576→
   f34.l0 L N (fun z7=>f34.p0_e0 L N some z7) n p (s:Int) (k:Int) ms out mp q=some (tidyM (bLoop ms p s m k (q,out))):=by
  intro m
  induction m with
  |zero=>intro n k q mp out _ h;omega
  |succ m ih=>
   intro n k q mp out hk hmk hnk hq ho
   obtain ⟨⟨seen,hqs⟩,-⟩:=id hq
   have hql:=hqs.len
   obtain ⟨n,rfl⟩:∃n',n=n'+1:=⟨n-1,by omega⟩
   show f34.s0 L N _ (f34.l0 L N _ n) p (s:Int) (k:Int) ms out mp q=_
   unfold f34.s0 f34.s0'
   by_cases hlt:k<q.length
   ·obtain ⟨v,hvq,hTv⟩:=hqs.2.1 _ (List.getElem_mem hlt)
    have hvn:v<ms.length:=by have:=Tr_lt hTv;rw [hqs.1] at this;exact this
    have hrow:=(hm.2 v hvn).1
    simp only [lt_cast hlt,le0,Bool.and_true,cond_true,Int.toNat_natCast,at_lt hlt,hvq,lt_cast hvn,at_lt hvn]
    obtain ⟨mp',a1,a2,a3,a4⟩:=bimpl1 L N (fun z18 z19 z20 z21 z22 z23 z24=>f34.p1_e2 L N (fun z7=>f34.p0_e0 L N some z7) (f34.l0 L N (fun z7=>f34.p0_e0 L N some z7) n) z18 z19 z20 z21 z22 z23 z24) ms hm p hp s hs (k:Int) v hvn L 0 q mp out (by omega) (by omega) hq (by omega)
    rw [List.drop_zero] at a1 a2 a3 a4
    refine (show _=_ from a4).trans ?_
    show f34.l0 L N _ n p (s:Int) (wi ((k:Int)+1)) ms (bRow p s ms[v] (q,out)).2 mp' (bRow p s ms[v] (q,out)).1=_
    have hb:bLoop ms p s (m+1) k (q,out)=bLoop ms p s m (k+1) (bRow p s ms[v] (q,out)):=by
     show (if k<q.length then _ else _)=_
     rw [if_pos hlt]
     show bLoop ms p s m (k+1) (bRow p s (ms.getD (q.getD k 0).toNat []) (q,out))=_
     rw [getD_lt hlt,hvq,Int.toNat_natCast,getD_lt hvn]
    rw [hb,wi_nat (by omega)]
    exact ih n (k+1) _ mp' _ (by omega) (by omega) (by omega) a1 (by omega)
   ·simp only [ge_cast hlt,cond_false]
    have hb:bLoop ms p s (m+1) k (q,out)=out:=by
     show (if k<q.length then _ else _)=_
     rw [if_neg hlt]
    rw [hb]
    show f34.p0_e0' L N some out=_
    unfold f34.p0_e0'
    rw [fsortM_some (by omega),Option.bind_some]
 have hM:MapOk ms (mapPut i64 .bool (s:Int) true ([]:List (Int×Bool))) [(s:Int)]:=by
  have h:QOk ms (List.replicate ms.length false) []:=⟨by simp,fun v hv=>by simp at hv,fun t h=>absurd h (Tr_replicate _ t),by rw [cnt_replicate];rfl,List.nodup_nil⟩
  have h2:MapOk ms [] []:=⟨⟨_,h⟩,fun t _=>rfl⟩
  exact h2.add hs (by simp)
 exact key 62 L 0 _ _ [] (by simp) (by omega) (by omega) hM (by simp)
end Go.Proofs.YtfdcjocallblcaaGreatDoor.Ev
namespace Go.Proofs.YtfdcjocallblcaaGreatDoor.Ev
open Go
set_option linter.unusedVariables false
set_option linter.unusedSimpArgs false
end Go.Proofs.YtfdcjocallblcaaGreatDoor.Ev
namespace Go.Proofs.YtfdcjocallblcaaGreatDoor.Ev
open Go
set_option linter.unusedVariables false
set_option linter.unusedSimpArgs false
def upM (k:Int) (n:Nat):List Move:=(List.range n).map fun (i:Nat)=>Move.mk (k+2*(i:Int)) (k+2*(i:Int)+1)
theorem upM_len (k:Int) (n:Nat):(upM k n).length=n:=by simp [upM]
def Mk:Int→List (List Move)→Int→Prop
 |k,[],j=>j=k
 |k,r::rs,j=>r=upM k r.length∧Mk (k+2*(r.length:Int)) rs j
theorem Mk.le:∀{k j:Int} {rs:List (List Move)},Mk k rs j→k≤j
 |k,j,[],h=>by have h:j=k:=h;omega
 |k,j,r::rs,h=>by have:=Mk.le h.2;omega
theorem Mk.snoc:∀{k j:Int} {rs:List (List Move)} (n:Nat),Mk k rs j→Mk k (rs++[upM j n]) (j+2*(n:Int))
 |k,j,[],n,h=>by
  have h:j=k:=h
  subst h
  exact ⟨by rw [upM_len],by rw [upM_len];exact rfl⟩
 |k,j,r::rs,n,h=>⟨h.1,Mk.snoc n h.2⟩
end Go.Proofs.YtfdcjocallblcaaGreatDoor.Ev
namespace Go.Proofs.YtfdcjocallblcaaGreatDoor.Ev
open Go
set_option linter.unusedVariables false
set_option linter.unusedSimpArgs false
theorem bRow_len (p:List Int) (s:Nat):∀(row:List Move) (st:List Int×List Move),(bRow p s row st).2.length≤st.2.length+row.length
 |[],st=>by simp [bRow]
 |m::row,st=>by
  have e:bRow p s (m::row) st=bRow p s row (bStep p s st m):=by unfold bRow;rw [List.foldl_cons]
  rw [e]
  have h1:=bRow_len p s row (bStep p s st m)
  have h2:(bStep p s st m).2.length≤st.2.length+1:=by
   unfold bStep
   split
   ·split<;>simp
   ·simp
  simp only [List.length_cons]
  omega
theorem bLoop_len {ms:List (List Move)} {B:Nat} (hB:∀i,(ms.getD i []).length≤B) (p:List Int) (s:Nat):∀(n k:Nat) (st:List Int×List Move),(bLoop ms p s n k st).length≤st.2.length+n*B
 |0,k,st=>by simp [bLoop]
 |n+1,k,st=>by
  unfold bLoop
  split
  ·have h1:=bLoop_len hB p s n (k+1) (bRow p s (ms.getD (st.1.getD k 0).toNat []) st)
   have h2:=bRow_len p s (ms.getD (st.1.getD k 0).toNat []) st
   have h3:=hB (st.1.getD k 0).toNat
   rw [Nat.succ_mul]
   omega
  ·omega
theorem bOut_len {ms:List (List Move)} (hm:Leads ms) (p:List Int) (s:Nat):(bOut ms p s).length≤65011712:=by
 have h0:∀i,(ms.getD i []).length≤1048576:=fun i=>by
  by_cases h:i<ms.length
  ·rw [getD_lt h];exact (hm.2 _ h).1
  ·rw [List.getD,List.getElem?_eq_none (by omega)];simp
 have h1:=bLoop_len h0 p s 62 0 ([(s:Int)],[])
 exact Nat.le_trans h1 (show 0+62*1048576≤65011712 from Nat.le_of_ble_eq_true rfl)
def BAkin (ms:List (List Move)) (p:List Int) (j i:Nat):Prop:=p.getD j 0=p.getD i 0∧tidyM (bOut ms p j)=tidyM (bOut ms p i)
theorem keyB_ok (L N:Nat) (ms:List (List Move)) (hm:Leads ms) (hL:8589934592≤L) (p:List Int) (hp:p.length=ms.length) (i:Nat) (hi:i<ms.length):f54_2 L N (i:Int) ms p=some (tidyM (bOut ms p i)):=by
 have h:=branchMark_ok L N ms hm hL p hp i hi
 have h1:f33_1 L N p (i:Int) ms=some (tidyM (bOut ms p i)):=by
  show f33_1.b' L N some p (i:Int) ms=_
  unfold f33_1.b'
  rw [h,Option.bind_some]
 show f54_2.b' L N some (i:Int) ms p=_
 unfold f54_2.b'
 rw [h1,Option.bind_some]
theorem refineBAkin (L N:Nat) (ms:List (List Move)) (hm:Leads ms) (hL:8589934592≤L) (p:List Int) (hp:p.length=ms.length):
  ∃q,f53_2 L N p ms p=some q∧NextE (BAkin ms p) ms.length q:=by
 have hn60:=hm.1
 obtain ⟨q,h1,h2⟩:=refineB_ok L N ms hm.1 hL p hp (fun i=>if i<ms.length then tidyM (bOut ms p i) else []) (fun i=>by
  by_cases h:i<ms.length
  ·simp only [h,if_true]
   have h5:=bOut_len hm p i
   have:=tidyM_le (bOut ms p i)
   omega
  ·simp only [h,if_false];simp) (fun i hi=>by simp only [hi,if_true];exact keyB_ok L N ms hm hL p hp i hi)
 refine ⟨q,h1,h2.congr fun i j hj hi=>?_⟩
 have hj':j<ms.length:=by omega
 simp only [hi,hj',if_true]
 exact Iff.rfl
theorem last_castB {α:Type} (pre:List α) (p d:α) (h:pre.length≤1048576):wi (((pre++[p]).length:Int)-1)=(pre.length:Int)∧pre.length<(pre++[p]).length∧listAt (pre++[p]) d pre.length=p:=by
 refine ⟨?_,by simp,?_⟩
 ·rw [List.length_append,List.length_cons,List.length_nil,wi_id (by omega) (by omega)];omega
 ·rw [at_lt (by simp)];simp
end Go.Proofs.YtfdcjocallblcaaGreatDoor.Ev
namespace Go.Proofs.YtfdcjocallblcaaGreatDoor.Ev
open Go
set_option linter.unusedVariables false
set_option linter.unusedSimpArgs false
theorem nodup_len:∀(n:Nat) (l:List Int),l.Nodup→(∀v∈l,0≤v∧v<(n:Int))→l.length≤n
 |0,l,_,h=>by
  cases l with
  |nil=>simp
  |cons a t=>have:=h a (.head _);omega
 |n+1,l,hn,h=>by
  by_cases hm:(n:Int)∈l
  ·have h1:=nodup_len n (l.erase (n:Int)) (hn.erase _) fun v hv=>by
    obtain ⟨h2,h3⟩:=(hn.mem_erase_iff).1 hv
    have:=h v h3;omega
   rw [List.length_erase_of_mem hm] at h1
   omega
  ·have h1:=nodup_len n l hn fun v hv=>by
    have h2:=h v hv
    have h3:v≠(n:Int):=fun e=>hm (e▸hv)
    omega
   omega
def inB (p:List Int) (s:Nat) (m:Move):Prop:=m.act=0∧p.getD m.to.toNat 0=p.getD s 0
inductive Inert (ms:List (List Move)) (p:List Int) (s:Nat):Nat→Prop
 |base:Inert ms p s s
 |step (u t:Nat) (h:Inert ms p s u) (hu:u<ms.length) (k:Nat) (hk:k<(ms[u]).length) (hi:inB p s (ms[u])[k]) (ht:(ms[u])[k].to=(t:Int)):Inert ms p s t
theorem Inert.lt {ms:List (List Move)} (hm:Leads ms) {p:List Int} {s u:Nat} (hs:s<ms.length) (h:Inert ms p s u):u<ms.length:=by
 induction h with
 |base=>exact hs
 |step u t _ hu k hk _ ht _=>have:=(hm.2 u hu).2 k hk;omega
theorem Inert.cls {ms:List (List Move)} {p:List Int} {s u:Nat} (h:Inert ms p s u):p.getD u 0=p.getD s 0:=by
 cases h with
 |base=>rfl
 |step u t _ hu k hk hi ht=>
  have:=hi.2
  rw [ht,Int.toNat_natCast] at this
  exact this
def Marked (ms:List (List Move)) (p:List Int) (s:Nat) (x:Move):Prop:=∃u,Inert ms p s u∧∃(hu:u<ms.length) (k:Nat) (hk:k<(ms[u]).length),¬inB p s (ms[u])[k]∧x=Move.mk (ms[u])[k].act (p.getD (ms[u])[k].to.toNat 0)
theorem bStep_in {p:List Int} {s:Nat} {st:List Int×List Move} {m:Move} (h:inB p s m):bStep p s st m=if m.to∈st.1 then st else (st.1++[m.to],st.2):=by
 unfold bStep;exact if_pos h
theorem bStep_out {p:List Int} {s:Nat} {st:List Int×List Move} {m:Move} (h:¬inB p s m):bStep p s st m=(st.1,st.2++[Move.mk m.act (p.getD m.to.toNat 0)]):=by
 unfold bStep;exact if_neg h
theorem bRow_spec (p:List Int) (s:Nat):∀(row:List Move) (st:List Int×List Move),
  (∀v,v∈(bRow p s row st).1↔v∈st.1∨∃m∈row,inB p s m∧v=m.to)∧
  (∀x,x∈(bRow p s row st).2↔x∈st.2∨∃m∈row,¬inB p s m∧x=Move.mk m.act (p.getD m.to.toNat 0))∧
  (∃t,(bRow p s row st).1=st.1++t)∧(st.1.Nodup→(bRow p s row st).1.Nodup)
 |[],st=>⟨fun v=>by simp [bRow],fun x=>by simp [bRow],⟨[],by simp [bRow]⟩,fun h=>h⟩
 |m::row,st=>by
  have e:bRow p s (m::row) st=bRow p s row (bStep p s st m):=by unfold bRow;rw [List.foldl_cons]
  obtain ⟨h1,h2,⟨t,h3⟩,h4⟩:=bRow_spec p s row (bStep p s st m)
  rw [e]
  by_cases hi:inB p s m
  ·rw [bStep_in hi] at h1 h2 h3 h4⊢
   by_cases hq:m.to∈st.1
   ·rw [if_pos hq] at h1 h2 h3 h4⊢
    refine ⟨fun v=>?_,fun x=>?_,⟨t,h3⟩,h4⟩
    ·rw [h1]
     constructor
     ·rintro (h|⟨m',hm',h⟩)
      ·exact .inl h
      ·exact .inr ⟨m',.tail _ hm',h⟩
     ·rintro (h|⟨m',hm',h,h'⟩)
      ·exact .inl h
      ·rcases List.mem_cons.1 hm' with rfl|hm'
       ·exact .inl (h'▸hq)
       ·exact .inr ⟨m',hm',h,h'⟩
    ·rw [h2]
     constructor
     ·rintro (h|⟨m',hm',h⟩)
      ·exact .inl h
      ·exact .inr ⟨m',.tail _ hm',h⟩
     ·rintro (h|⟨m',hm',h,h'⟩)
      ·exact .inl h
      ·rcases List.mem_cons.1 hm' with rfl|hm'
       ·exact absurd hi h
       ·exact .inr ⟨m',hm',h,h'⟩
   ·rw [if_neg hq] at h1 h2 h3 h4⊢
    refine ⟨fun v=>?_,fun x=>?_,⟨[m.to]++t,by rw [h3,List.append_assoc]⟩,fun hn=>h4 ?_⟩
    ·rw [h1]
     constructor
     ·rintro (h|⟨m',hm',h⟩)
      ·rcases List.mem_append.1 h with h|h
       ·exact .inl h
       ·exact .inr ⟨m,.head _,hi,List.mem_singleton.1 h⟩
      ·exact .inr ⟨m',.tail _ hm',h⟩
     ·rintro (h|⟨m',hm',h,h'⟩)
      ·exact .inl (List.mem_append.2 (.inl h))
      ·rcases List.mem_cons.1 hm' with rfl|hm'
       ·exact .inl (List.mem_append.2 (.inr (h'▸.head _)))
       ·exact .inr ⟨m',hm',h,h'⟩
    ·rw [h2]
     constructor
     ·rintro (h|⟨m',hm',h⟩)
      ·exact .inl h
      ·exact .inr ⟨m',.tail _ hm',h⟩
     ·rintro (h|⟨m',hm',h,h'⟩)
      ·exact .inl h
      ·rcases List.mem_cons.1 hm' with rfl|hm'
       ·exact absurd hi h
       ·exact .inr ⟨m',hm',h,h'⟩
    ·show (st.1++[m.to]).Nodup
     rw [List.nodup_append]
     refine ⟨hn,by simp,fun a ha b hb=>?_⟩
     rw [List.mem_singleton.1 hb]
     exact fun e=>hq (e▸ha)
  ·rw [bStep_out hi] at h1 h2 h3 h4⊢
   refine ⟨fun v=>?_,fun x=>?_,⟨t,h3⟩,h4⟩
   ·rw [h1]
    constructor
    ·rintro (h|⟨m',hm',h⟩)
     ·exact .inl h
     ·exact .inr ⟨m',.tail _ hm',h⟩
    ·rintro (h|⟨m',hm',h,h'⟩)
     ·exact .inl h
     ·rcases List.mem_cons.1 hm' with rfl|hm'
      ·exact absurd h hi
      ·exact .inr ⟨m',hm',h,h'⟩
   ·rw [h2]
    constructor
    ·rintro (h|⟨m',hm',h⟩)
     ·rcases List.mem_append.1 h with h|h
      ·exact .inl h
      ·exact .inr ⟨m,.head _,hi,List.mem_singleton.1 h⟩
     ·exact .inr ⟨m',.tail _ hm',h⟩
    ·rintro (h|⟨m',hm',h,h'⟩)
     ·exact .inl (List.mem_append.2 (.inl h))
     ·rcases List.mem_cons.1 hm' with rfl|hm'
      ·exact .inl (List.mem_append.2 (.inr (h'▸.head _)))
      ·exact .inr ⟨m',hm',h,h'⟩
structure BInv (ms:List (List Move)) (p:List Int) (s k:Nat) (st:List Int×List Move):Prop where
 nd:st.1.Nodup
 ok:∀v∈st.1,∃u:Nat,v=(u:Int)∧Inert ms p s u
 own:(s:Int)∈st.1
 le:k≤st.1.length
 done:∀i,i<k→∀m∈ms.getD (st.1.getD i 0).toNat [],(inB p s m→m.to∈st.1)∧(¬inB p s m→Move.mk m.act (p.getD m.to.toNat 0)∈st.2)
 out:∀x∈st.2,Marked ms p s x
theorem bLoop_spec {ms:List (List Move)} (hm:Leads ms) {p:List Int} {s:Nat} (hs:s<ms.length):∀(n k:Nat) (st:List Int×List Move),BInv ms p s k st→ms.length+1≤n+k→∀x,x∈bLoop ms p s n k st↔Marked ms p s x:=by
 intro n
 induction n with
 |zero=>
  intro k st h hn
  have h1:=nodup_len ms.length st.1 h.nd fun v hv=>by
   obtain ⟨u,rfl,hu⟩:=h.ok v hv
   have:=hu.lt hm hs;omega
  have:=h.le
  omega
 |succ n ih=>
  intro k st h hn x
  unfold bLoop
  by_cases hk:k<st.1.length
  ·rw [if_pos hk]
   obtain ⟨u,e,hu⟩:=h.ok _ (List.getElem_mem hk)
   have hul:=hu.lt hm hs
   have eg:st.1.getD k 0=(u:Int):=by rw [getD_lt hk,e]
   have er:ms.getD (st.1.getD k 0).toNat []=ms[u]:=by rw [eg,Int.toNat_natCast,getD_lt hul]
   rw [er]
   obtain ⟨h1,h2,⟨t,h3⟩,h4⟩:=bRow_spec p s ms[u] st
   have hpre:∀i,i<st.1.length→(bRow p s ms[u] st).1.getD i 0=st.1.getD i 0:=fun i hi=>by
    rw [h3,List.getD_eq_getElem?_getD,List.getD_eq_getElem?_getD,List.getElem?_append_left hi]
   refine ih (k+1) _ ⟨h4 h.nd,fun v hv=>?_,(h1 _).2 (.inl h.own),by rw [h3,List.length_append];omega,fun i hi=>?_,fun x hx=>?_⟩ (by omega) x
   ·rcases (h1 v).1 hv with hv|⟨m,hm',hi,rfl⟩
    ·exact h.ok v hv
    ·obtain ⟨j,hj,rfl⟩:=List.mem_iff_getElem.1 hm'
     obtain ⟨t',ht,htl⟩:=hm.nat hul hj
     exact ⟨t',ht,.step u t' hu hul j hj hi ht⟩
   ·rw [hpre i (by omega)]
    by_cases hlt:i<k
    ·intro m hm'
     obtain ⟨d1,d2⟩:=h.done i hlt m hm'
     exact ⟨fun hi=>(h1 _).2 (.inl (d1 hi)),fun hi=>(h2 _).2 (.inl (d2 hi))⟩
    ·obtain rfl:i=k:=by omega
     rw [er]
     intro m hm'
     exact ⟨fun hi=>(h1 _).2 (.inr ⟨m,hm',hi,rfl⟩),fun hi=>(h2 _).2 (.inr ⟨m,hm',hi,rfl⟩)⟩
   ·rcases (h2 x).1 hx with hx|⟨m,hm',hi,rfl⟩
    ·exact h.out x hx
    ·obtain ⟨j,hj,rfl⟩:=List.mem_iff_getElem.1 hm'
     exact ⟨u,hu,hul,j,hj,hi,rfl⟩
  ·rw [if_neg hk]
   have all:∀u,Inert ms p s u→(u:Int)∈st.1:=fun u hu=>by
    induction hu with
    |base=>exact h.own
    |step u t _ hul j hj hi ht ihu=>
     obtain ⟨i,hi',e⟩:=List.mem_iff_getElem.1 ihu
     have:=(h.done i (by omega) ((ms[u])[j]) (by rw [getD_lt hi',e,Int.toNat_natCast,getD_lt hul];exact List.getElem_mem hj)).1 hi
     rw [ht] at this
     exact this
   refine ⟨h.out x,?_⟩
   rintro ⟨u,hu,hul,j,hj,hi,rfl⟩
   obtain ⟨i,hi',e⟩:=List.mem_iff_getElem.1 (all u hu)
   exact (h.done i (by omega) ((ms[u])[j]) (by rw [getD_lt hi',e,Int.toNat_natCast,getD_lt hul];exact List.getElem_mem hj)).2 hi
theorem bOut_mem {ms:List (List Move)} (hm:Leads ms) (p:List Int) {s:Nat} (hs:s<ms.length) (x:Move):x∈bOut ms p s↔Marked ms p s x:=by
 have hn:=hm.1
 refine bLoop_spec hm hs 62 0 ([(s:Int)],[]) ⟨by simp,fun v hv=>⟨s,List.mem_singleton.1 hv,.base⟩,.head _,by simp,fun i hi=>by omega,fun x hx=>by cases hx⟩ (by omega) x
theorem bakin_iff {ms:List (List Move)} (hm:Leads ms) (p:List Int) {i j:Nat} (hi:i<ms.length) (hj:j<ms.length):BAkin ms p j i↔p.getD j 0=p.getD i 0∧∀x,Marked ms p j x↔Marked ms p i x:=by
 unfold BAkin
 refine and_congr Iff.rfl ⟨fun h x=>?_,fun h=>?_⟩
 ·rw [←bOut_mem hm p hj,←bOut_mem hm p hi,←tidyM_mem (bOut ms p j),←tidyM_mem (bOut ms p i),h]
 ·exact risesM_ext (tidyM_rises _) (tidyM_rises _) fun x=>by rw [tidyM_mem,tidyM_mem,bOut_mem hm p hj,bOut_mem hm p hi,h x]
theorem bakinEq (ms:List (List Move)):EqE (BAkin ms) where
 refl p i:=⟨rfl,rfl⟩
 symm p i j h:=⟨h.1.symm,h.2.symm⟩
 trans p i j k h1 h2:=⟨h1.1.trans h2.1,h1.2.trans h2.2⟩
 fine p i j h:=h.1
theorem inert_sim {ms:List (List Move)} (hm:Leads ms) {q p:List Int} (hq:Fix (Akin ms) ms.length q) (hp:∀i j,i<ms.length→j<ms.length→q.getD i 0=q.getD j 0→p.getD i 0=p.getD j 0)
  {i i' u:Nat} (hi:i<ms.length) (hi':i'<ms.length) (e:q.getD i 0=q.getD i' 0) (h:Inert ms p i u):∃u',Inert ms p i' u'∧q.getD u 0=q.getD u' 0:=by
 induction h with
 |base=>exact ⟨i',.base,e⟩
 |step u t hu hul k hk hin ht ih=>
  obtain ⟨u',h1,h2⟩:=ih
  have hul':=h1.lt hm hi'
  have hak:=(hq.same (akinEq ms) hul hul').1 h2
  have hs:Sig ms q u ⟨0,q.getD t 0⟩:=⟨hul,k,hk,hin.1.symm,by rw [ht,Int.toNat_natCast]⟩
  obtain ⟨_,k',hk',a1,a2⟩:=(hak.2 _).2 hs
  obtain ⟨t',ht',htl'⟩:=hm.nat hul' hk'
  have htl:t<ms.length:=by have:=(hm.2 u hul).2 k hk;omega
  have a2':q.getD t 0=q.getD t' 0:=by rw [ht',Int.toNat_natCast] at a2;exact a2
  refine ⟨t',.step u' t' h1 hul' k' hk' ⟨a1.symm,?_⟩ ht',a2'⟩
  have h3:=hin.2
  rw [ht,Int.toNat_natCast] at h3
  rw [ht',Int.toNat_natCast,←hp t t' htl htl' a2',h3]
  exact hp i i' hi hi' e
theorem marked_sim {ms:List (List Move)} (hm:Leads ms) {q p:List Int} (hq:Fix (Akin ms) ms.length q) (hp:∀i j,i<ms.length→j<ms.length→q.getD i 0=q.getD j 0→p.getD i 0=p.getD j 0)
  {i i':Nat} (hi:i<ms.length) (hi':i'<ms.length) (e:q.getD i 0=q.getD i' 0) {x:Move} (h:Marked ms p i x):Marked ms p i' x:=by
 obtain ⟨u,hu,hul,k,hk,hn,rfl⟩:=h
 obtain ⟨u',h1,h2⟩:=inert_sim hm hq hp hi hi' e hu
 have hul':=h1.lt hm hi'
 have hak:=(hq.same (akinEq ms) hul hul').1 h2
 obtain ⟨t,ht,htl⟩:=hm.nat hul hk
 have hs:Sig ms q u ⟨(ms[u])[k].act,q.getD t 0⟩:=⟨hul,k,hk,rfl,by rw [ht,Int.toNat_natCast]⟩
 obtain ⟨_,k',hk',a1,a2⟩:=(hak.2 _).2 hs
 obtain ⟨t',ht',htl'⟩:=hm.nat hul' hk'
 have a1':(ms[u])[k].act=(ms[u'])[k'].act:=a1
 have a2':q.getD t 0=q.getD t' 0:=by rw [ht',Int.toNat_natCast] at a2;exact a2
 have ep:=hp t t' htl htl' a2'
 have ei:=hp i i' hi hi' e
 refine ⟨u',h1,hul',k',hk',fun hin=>hn ⟨a1'.trans hin.1,?_⟩,?_⟩
 ·have:=hin.2
  rw [ht',Int.toNat_natCast] at this
  rw [ht,Int.toNat_natCast,ep,this,ei]
 ·rw [a1',ht,ht',Int.toNat_natCast,Int.toNat_natCast,ep]
theorem alike_branch {ms:List (List Move)} (hm:Leads ms) {q b:List Int} {pre:List (List Int)} (hq:Fix (Akin ms) ms.length q) (hb:Chain (BAkin ms) ms.length pre b) {i j:Nat} (hi:i<ms.length) (hj:j<ms.length) (e:q.getD i 0=q.getD j 0):b.getD i 0=b.getD j 0:=by
 refine hb.keeps (bakinEq ms) (fun i j=>q.getD i 0=q.getD j 0) (fun p hpl hp i j hi hj e=>?_) i j hi hj e
 exact (bakin_iff hm p hj hi).2 ⟨hp i j hi hj e,fun x=>⟨marked_sim hm hq hp hi hj e,marked_sim hm hq hp hj hi e.symm⟩⟩
end Go.Proofs.YtfdcjocallblcaaGreatDoor.Ev
namespace Go.Proofs.YtfdcjocallblcaaGreatDoor.Ev
open Go
set_option linter.unusedVariables false
set_option linter.unusedSimpArgs false
theorem roundsBI (L N:Nat) (ms:List (List Move)) (hm:Leads ms) (hL:8589934592≤L):∀(n:Nat) (pre:List (List Int)) (p:List Int),p.length=ms.length→Low p→pre.length≤wgt p→3600-wgt p<n→Chain (BAkin ms) ms.length pre p→
  ∃pre' q,f32_2.l0 L N (fun z4=>f32_2.p0_r L N some z4) n ms (pre++[p])=some (pre'++[q])∧pre'.length≤3600∧Chain (BAkin ms) ms.length pre' q∧Fix (BAkin ms) ms.length q:=by
 have hlim:=lim_eq
 have hn60:=hm.1
 have hw:∀p:List Int,p.length=ms.length→Low p→wgt p≤3600:=fun p hp hl=>by
  have h1:=wgt_le (p:=p) (B:=60) fun x hx=>by
   obtain ⟨i,hi,rfl⟩:=List.mem_iff_getElem.1 hx
   have:=hl i hi;omega
  omega
 intro n
 induction n with
 |zero=>intro pre p _ _ _ h;omega
 |succ n ih=>
  intro pre p hp hl hpre hn hch
  have hwp:=hw p hp hl
  obtain ⟨e1,e2,e3⟩:=last_castB pre p [] (by omega)
  obtain ⟨q1,b1,a2⟩:=refineBAkin L N ms hm hL p hp
  have hq:q1.length=ms.length:=a2.1
  obtain ⟨r1,d1,c2⟩:=equalI_ok L N q1 p (by omega) (by omega)
  have hle:decide ((pre++[p]).length+([q1]:List (List Int)).length≤lim)=true:=dt (by simp only [List.length_append,List.length_cons,List.length_nil];omega)
  have s2:f32_2.l0 L N (fun z4=>f32_2.p0_r L N some z4) (n+1) ms (pre++[p])=bif r1 then some (pre++[p]) else f32_2.l0 L N (fun z4=>f32_2.p0_r L N some z4) n ms (pre++[p]++[q1]):=by
   show f32_2.s0 L N _ (f32_2.l0 L N _ n) ms (pre++[p])=_
   unfold f32_2.s0 f32_2.s0'
   simp only [e1,le0,lt_cast e2,Bool.and_true,cond_true,Int.toNat_natCast,e3,b1,d1,Option.bind_some,hle]
   rfl
  rw [s2]
  cases r1 with
  |true=>
   have heq:q1=p:=c2.1 rfl
   subst heq
   exact ⟨pre,q1,rfl,by omega,hch,hp,a2⟩
  |false=>
   have hne:p≠q1:=fun e=>absurd (c2.2 e.symm) (by simp)
   have hlt:=wgt_lt (by omega) (fun i h1 h2=>⟨(hl i h1).1,a2.ge hp hl (fun j i h=>h.1) i h1 h2⟩) hne
   have hwq:=hw q1 hq a2.low
   exact ih (pre++[p]) q1 hq a2.low (by simp only [List.length_append,List.length_cons,List.length_nil];omega) (by omega) (.snoc _ _ _ hch a2)
theorem branchClassesI (L N:Nat) (g:Graph) (hg:g.moves.length+gsize g.moves≤1048576) (hL:8589934592≤L):
  ∃q,f12 L N g=some q∧q.length≤60∧(graphOk g=false→q=[])∧(graphOk g=true→∃pre,Chain (BAkin g.moves) g.moves.length pre q∧Fix (BAkin g.moves) g.moves.length q):=by
 have hge:Graph.mk g.moves=g:=by cases g;rfl
 have hlim:=lim_eq
 have h1:=gok1_ok L N g (by omega) hg
 cases hok:graphOk g with
 |false=>
  refine ⟨[],?_,by simp,fun _=>rfl,(fun h=>by cases h)⟩
  ·show f12.b' L N some g=_
   unfold f12.b'
   rw [hge,h1,Option.bind_some,hok,Bool.not_false,cond_true]
 |true=>
  have hm:=leads_of hok hg
  have hn:=hm.1
  have h0:decide ((g.moves.length:Int)≤(lim:Int))=true:=dt (by omega)
  have e0:((g.moves.length:Int)).toNat=g.moves.length:=rfl
  obtain ⟨pre,q,r2,r4,r5,r6⟩:=roundsBI L N g.moves hm hL L [] (List.replicate g.moves.length 0) (by simp) (low_zero _) (by simp) (by omega) .zero
  have r3:=r6.1
  obtain ⟨e1,e2,e3⟩:=last_castB pre q [] (by omega)
  refine ⟨q,?_,by omega,(fun h=>by cases h),fun _=>⟨pre,r5,r6⟩⟩
  ·have hr:f32_2 L N (g.moves.length:Int) g.moves=some (pre++[q]):=by
    show f32_2.b L N some (g.moves.length:Int) g.moves=_
    unfold f32_2.b f32_2.b'
    simp only [le0,h0,Bool.and_true,cond_true,e0]
    exact r2
   show f12.b' L N some g=_
   unfold f12.b'
   have hfc:fclone q=some ():=by unfold fclone;rw [dt (by omega)];rfl
   rw [hge,h1,Option.bind_some,hok,Bool.not_true,cond_false,hr]
   simp only [Option.bind_some,e1,le0,lt_cast e2,Bool.and_true,cond_true,Int.toNat_natCast,e3,hfc]
end Go.Proofs.YtfdcjocallblcaaGreatDoor.Ev
namespace Go.Proofs.YtfdcjocallblcaaGreatDoor.Ev
open Go
set_option linter.unusedVariables false
set_option linter.unusedSimpArgs false
theorem rows_snoc {α:Type} {P:Nat→α→Prop} {l:List α} {x:α} (h:∀(j:Nat) (hj:j<l.length),P j l[j]) (hx:P l.length x):∀(j:Nat) (hj:j<(l++[x]).length),P j (l++[x])[j]:=by
 intro j hj
 by_cases e:j<l.length
 ·rw [List.getElem_append_left e];exact h j e
 ·have:j=l.length:=by simp at hj;omega
  subst this
  rw [List.getElem_append_right (Nat.le_refl _)]
  simpa using hx
theorem slips_ok (L N:Nat) (ms:List (List Move)) (hm:Leads ms) (hL:1048576<L):
  ∃rs,f56 L N ⟨ms⟩=some rs∧rs.length=ms.length∧∀(j:Nat) (hj:j<rs.length),(rs[j]).length≤ms.length∧(∀v∈rs[j],0≤v∧v<(ms.length:Int))∧∀t:Nat,(t:Int)∈rs[j]↔Slip ms (fun s=>s=j) t:=by
 have hlim:=lim_eq
 have hn:=hm.1
 show ∃rs,f56.b L N some ⟨ms⟩=some rs∧_
 unfold f56.b f56.b'
 have key:∀(n i:Nat) (rs:List (List Int)),rs.length=i→i≤ms.length→ms.length-i<n→(∀(j:Nat) (hj:j<rs.length),(rs[j]).length≤ms.length∧(∀v∈rs[j],0≤v∧v<(ms.length:Int))∧∀t:Nat,(t:Int)∈rs[j]↔Slip ms (fun s=>s=j) t)→
   ∃rs',f56.l0 L N (fun z4=>f56.p0_e0 L N some z4) n (ms.length:Int) (i:Int) ms rs=some rs'∧rs'.length=ms.length∧∀(j:Nat) (hj:j<rs'.length),(rs'[j]).length≤ms.length∧(∀v∈rs'[j],0≤v∧v<(ms.length:Int))∧∀t:Nat,(t:Int)∈rs'[j]↔Slip ms (fun s=>s=j) t:=by
  intro n
  induction n with
  |zero=>intro i rs _ _ h;omega
  |succ n ih=>
   intro i rs hl hi hn' hr
   show ∃rs',f56.s0 L N _ (f56.l0 L N _ n) (ms.length:Int) (i:Int) ms rs=_∧_
   unfold f56.s0 f56.s0'
   by_cases hlt:i<ms.length
   ·obtain ⟨q,h1,h2,h3,h4,-⟩:=slip1_ok L N ms [(i:Int)] hm (fun v hv=>by obtain rfl:=List.mem_singleton.1 hv;omega) (by simp only [List.length_cons,List.length_nil];omega) (by simp only [List.length_cons,List.length_nil];omega) hL
    have hle:decide (rs.length+([q]:List (List Int)).length≤lim)=true:=dt (by simp only [List.length_cons,List.length_nil];omega)
    have hsame:∀t:Nat,(t:Int)∈q↔Slip ms (fun s=>s=i) t:=fun t=>(h4 t).trans (Slip.iff (fun s=>by
     rw [List.mem_singleton];constructor
     ·intro h;omega
     ·intro h;rw [h]) t)
    simp only [lt_cast hlt,cond_true,h1,Option.bind_some,hle]
    rw [wi_nat (by omega)]
    exact ih (i+1) _ (by simp [hl]) (by omega) (by omega) (rows_snoc (P:=fun j (r:List Int)=>r.length≤ms.length∧(∀v∈r,0≤v∧v<(ms.length:Int))∧∀t:Nat,(t:Int)∈r↔Slip ms (fun s=>s=j) t) hr (by rw [hl];exact ⟨h2,h3,hsame⟩))
   ·simp only [ge_cast hlt,cond_false]
    have hi':i=ms.length:=by omega
    subst hi'
    exact ⟨rs,rfl,hl,hr⟩
 exact key L 0 [] rfl (by omega) (by omega) (fun j hj=>by simp at hj)
end Go.Proofs.YtfdcjocallblcaaGreatDoor.Ev
namespace Go.Proofs.YtfdcjocallblcaaGreatDoor.Ev
open Go
set_option linter.unusedVariables false
set_option linter.unusedSimpArgs false
theorem flat_len_le {α β:Type} {f:α→List β} {B:Nat}:∀{l:List α},(∀x∈l,(f x).length≤B)→(l.flatMap f).length≤l.length*B
 |[],_=>by simp
 |x::l,h=>by
  have h1:=h x (.head _)
  have h2:=flat_len_le (f:=f) (B:=B) (l:=l) fun y hy=>h y (.tail _ hy)
  rw [List.flatMap_cons,List.length_append,List.length_cons,Nat.add_mul,Nat.one_mul]
  omega
theorem drop_cons {α:Type} {l:List α} {i:Nat} (h:i<l.length):l.drop i=l[i]::l.drop (i+1):=List.drop_eq_getElem_cons h
theorem drop_end {α:Type} {l:List α} {i:Nat} (h:¬i<l.length):l.drop i=[]:=List.drop_eq_nil_of_le (by omega)
def wkG (sl:List (List Int)) (m:Move):List Move:=if m.act≠0 then (sl.getD m.to.toNat []).map (Move.mk m.act) else []
def wkF (sl:List (List Int)) (ms:List (List Move)) (v:Int):List Move:=Move.mk 0 v::(ms.getD v.toNat []).flatMap (wkG sl)
abbrev wkOut (rows:List (List Move)):List (List Move):=rows
theorem weak3 {R:Type} (L N:Nat) (K:List (List Int)→Int→Int→List Int→Int→Int→List Move→Int→Int→List (List Move)→List Move→List (List Move)→List (List Move)→Option R) (sl:List (List Int)) (n0 i0:Int) (li:List Int) (lli idx:Int) (row:List Move) (rl k:Int) (ts:List Int) (ms:List (List Move)) (act to:Int) (c5 rows:List (List Move)) (hts:ts.length≤60):
  ∀(n j:Nat) (out:List Move),j≤ts.length→ts.length-j<n→out.length+(ts.length-j)≤lim→
   f36.l3 L N K n sl n0 i0 li lli idx row rl k ts (ts.length:Int) (j:Int) ms act to out c5 rows=K sl n0 i0 li lli idx row rl k ms (out++(ts.drop j).map (Move.mk act)) c5 rows:=by
 intro n
 induction n with
 |zero=>intro j out _ h;omega
 |succ n ih=>
  intro j out hj hn ho
  show f36.s3 L N _ (f36.l3 L N _ n) sl n0 i0 li lli idx row rl k ts (ts.length:Int) (j:Int) ms act to out c5 rows=_
  unfold f36.s3 f36.s3'
  by_cases hlt:j<ts.length
  ·have hle:decide (out.length+([(Move.mk act ts[j])]:(List Move)).length≤lim)=true:=dt (by simp only [List.length_cons,List.length_nil];omega)
   simp only [lt_cast hlt,le0,Bool.and_true,cond_true,Int.toNat_natCast,at_lt hlt,hle]
   rw [wi_nat (by omega),ih (j+1) _ (by omega) (by omega) (by simp only [List.length_append,List.length_cons,List.length_nil];omega),drop_cons hlt,List.map_cons,List.append_assoc]
   rfl
  ·simp only [ge_cast hlt,cond_false,drop_end hlt,List.map_nil,List.append_nil]
theorem weak2 {R:Type} (L N:Nat) (hL:1048576<L) (k1_e2:List (List Int)→Int→Int→List (List Move)→List Move→List (List Move)→List (List Move)→Option R) (m1:Nat) (sl:List (List Int)) (n0 i0:Int) (li:List Int) (lli idx:Int) (row:List Move) (ms:List (List Move)) (c5 rows:List (List Move))
  (hsl:∀r∈sl,r.length≤60) (hrow:row.length≤1048576) (hto:∀m∈row,0≤m.to∧m.to<(sl.length:Int)):
  ∀(n k:Nat) (out:List Move),k≤row.length→row.length-k<n→out.length+(row.length-k)*60≤lim→
   f36.l2 L N (fun z39 z40 z41 z42 z43 z44 z45 z46 z47 z48=>f36.p2_e4 L N k1_e2 (f36.l1 L N k1_e2 m1) z39 z40 z41 z42 z43 z44 z45 z46 z47 z48) n sl n0 i0 li lli idx row (row.length:Int) (k:Int) ms out c5 rows
    =f36.l1 L N k1_e2 m1 sl n0 i0 li lli (wi (idx+1)) ms (out++(row.drop k).flatMap (wkG sl)) c5 rows:=by
 intro n
 induction n with
 |zero=>intro k out _ h;omega
 |succ n ih=>
  intro k out hk hn ho
  show f36.s2 L N _ (f36.l2 L N _ n) sl n0 i0 li lli idx row (row.length:Int) (k:Int) ms out c5 rows=_
  unfold f36.s2 f36.s2'
  by_cases hlt:k<row.length
  ·have hstep:(row.length-k)*60=(row.length-(k+1))*60+60:=by
    rw [show row.length-k=(row.length-(k+1))+1 by omega,Nat.add_mul]
   obtain ⟨h1,h2⟩:=hto row[k] (List.getElem_mem hlt)
   generalize hm:row[k]=m at h1 h2
   obtain ⟨t,ht⟩:=Int.eq_ofNat_of_zero_le h1
   have htl:t<sl.length:=by omega
   simp only [lt_cast hlt,le0,Bool.and_true,cond_true,Int.toNat_natCast,at_lt hlt,hm,ht,lt_cast htl,at_lt htl]
   rw [drop_cons hlt,hm,List.flatMap_cons]
   have hg:m.act≠0→wkG sl m=(sl[t]).map (Move.mk m.act):=fun h=>by
    unfold wkG
    rw [if_pos h,ht,Int.toNat_natCast,getD_lt htl]
   by_cases ha:m.act=0
   ·have hb:(m.act !=0)=false:=by simp [ha]
    have hg0:wkG sl m=[]:=by unfold wkG;rw [if_neg (fun h=>h ha)]
    rw [hb,cond_false,wi_nat (by omega),ih (k+1) out (by omega) (by omega) (by omega),hg0]
    rfl
   ·have hb:(m.act !=0)=true:=by simpa using ha
    have hr:=hsl _ (List.getElem_mem htl)
    rw [hb,cond_true]
    refine (weak3 L N _ sl n0 i0 li lli idx row (row.length:Int) (k:Int) sl[t] ms m.act (t:Int) c5 rows hr L 0 out (by omega) (by omega) (by omega)).trans ?_
    rw [List.drop_zero,hg ha]
    show f36.p3_e6' L N _ _ sl n0 i0 li lli idx row (row.length:Int) (k:Int) ms _ c5 rows=_
    unfold f36.p3_e6'
    rw [wi_nat (by omega),ih (k+1) _ (by omega) (by omega) (by rw [List.length_append,List.length_map];omega),List.append_assoc]
  ·simp only [ge_cast hlt,cond_false,drop_end hlt,List.flatMap_nil,List.append_nil]
   rfl
theorem weak1 {R:Type} (L N:Nat) (hL:1048576<L) (K:List (List Int)→Int→Int→List (List Move)→List Move→List (List Move)→List (List Move)→Option R) (sl:List (List Int)) (n0 i0:Int) (li:List Int) (ms:List (List Move)) (c5 rows:List (List Move))
  (hm:Leads ms) (hsn:sl.length=ms.length) (hsl:∀r∈sl,r.length≤60) (hli:∀v∈li,0≤v∧v<(ms.length:Int)) (hll:li.length≤60):
  ∀(n idx:Nat) (out:List Move),idx≤li.length→li.length-idx<n→out.length+(li.length-idx)*62914561≤lim→
   f36.l1 L N K n sl n0 i0 li (li.length:Int) (idx:Int) ms out c5 rows=K sl n0 i0 ms (out++(li.drop idx).flatMap (wkF sl ms)) c5 rows:=by
 intro n
 induction n with
 |zero=>intro k out _ h;omega
 |succ n ih=>
  intro idx out hk hn ho
  show f36.s1 L N _ (f36.l1 L N _ n) sl n0 i0 li (li.length:Int) (idx:Int) ms out c5 rows=_
  unfold f36.s1 f36.s1'
  by_cases hlt:idx<li.length
  ·have hstep:(li.length-idx)*62914561=(li.length-(idx+1))*62914561+62914561:=by
    rw [show li.length-idx=(li.length-(idx+1))+1 by omega,Nat.add_mul]
   obtain ⟨h1,h2⟩:=hli li[idx] (List.getElem_mem hlt)
   generalize hv:li[idx]=v at h1 h2
   obtain ⟨t,ht⟩:=Int.eq_ofNat_of_zero_le h1
   subst ht
   have htl:t<ms.length:=by omega
   have hrow:=hm.2 t htl
   have hle:decide (out.length+([(Move.mk (0:Int) (t:Int))]:(List Move)).length≤lim)=true:=dt (by simp only [List.length_cons,List.length_nil];omega)
   simp only [lt_cast hlt,le0,Bool.and_true,cond_true,Int.toNat_natCast,at_lt hlt,hv,lt_cast htl,at_lt htl,hle]
   have hto:∀m∈ms[t],0≤m.to∧m.to<(sl.length:Int):=fun m hm'=>by
    obtain ⟨q,hq,rfl⟩:=List.mem_iff_getElem.1 hm'
    rw [hsn];exact hrow.2 q hq
   refine (weak2 L N hL K n sl n0 i0 li (li.length:Int) (idx:Int) ms[t] ms c5 rows hsl hrow.1 hto L 0 _ (by omega) (by have:=hrow.1;omega) (by
    have:=hrow.1
    simp only [List.length_append,List.length_cons,List.length_nil];omega)).trans ?_
   have hfl:((ms[t]).flatMap (wkG sl)).length≤(ms[t]).length*60:=flat_len_le fun m hm'=>by
    unfold wkG
    split
    ·rw [List.length_map,List.getD]
     cases he:sl[m.to.toNat]? with
     |none=>simp
     |some r=>exact hsl r (List.mem_of_getElem? he)
    ·simp
   have h2r:=hrow.1
   rw [wi_nat (by omega),ih (idx+1) _ (by omega) (by omega) (by
    simp only [List.length_append,List.length_cons,List.length_nil,List.drop_zero];omega),drop_cons hlt,hv,List.flatMap_cons,List.drop_zero]
   have hF:wkF sl ms (t:Int)=Move.mk 0 (t:Int)::(ms[t]).flatMap (wkG sl):=by
    unfold wkF;rw [Int.toNat_natCast,getD_lt htl]
   rw [hF,List.append_assoc,List.append_assoc]
   rfl
  ·simp only [ge_cast hlt,cond_false,drop_end hlt,List.flatMap_nil,List.append_nil]
theorem weakF_len {sl:List (List Int)} {ms:List (List Move)} {li:List Int} (hm:Leads ms) (hsl:∀r∈sl,r.length≤60) (hli:∀v∈li,0≤v∧v<(ms.length:Int)) (hll:li.length≤60):(li.flatMap (wkF sl ms)).length≤3774873660:=by
 have h:=flat_len_le (l:=li) (f:=wkF sl ms) (B:=62914561) fun v hv=>by
  obtain ⟨h1,h2⟩:=hli v hv
  obtain ⟨t,ht⟩:=Int.eq_ofNat_of_zero_le h1
  subst ht
  have htl:t<ms.length:=by omega
  unfold wkF
  rw [Int.toNat_natCast,getD_lt htl,List.length_cons]
  have hrow:=hm.2 t htl
  have hfl:((ms[t]).flatMap (wkG sl)).length≤(ms[t]).length*60:=flat_len_le fun m hm'=>by
   unfold wkG
   split
   ·rw [List.length_map,List.getD]
    cases he:sl[m.to.toNat]? with
    |none=>simp
    |some r=>exact hsl r (List.mem_of_getElem? he)
   ·simp
  omega
 omega
theorem weakOf_ok (L N:Nat) (ms:List (List Move)) (hm:Leads ms) (hL:1048576<L):
  ∃sl:List (List Int),sl.length=ms.length∧(∀(j:Nat) (hj:j<sl.length),(sl[j]).length≤ms.length∧(∀v∈sl[j],0≤v∧v<(ms.length:Int))∧∀t:Nat,(t:Int)∈sl[j]↔Slip ms (fun s=>s=j) t)∧
   f36 L N ⟨ms⟩=some (wkOut (sl.map fun li=>tidyM (li.flatMap (wkF sl ms)))):=by
 have hlim:=lim_eq
 have hn:=hm.1
 obtain ⟨sl,e,hsn,hs⟩:=slips_ok L N ms hm hL
 refine ⟨sl,hsn,hs,?_⟩
 have hsl:∀r∈sl,r.length≤60:=fun r hr=>by
  obtain ⟨q,hq,rfl⟩:=List.mem_iff_getElem.1 hr
  have:=(hs q hq).1;omega
 show f36.b L N some ⟨ms⟩=_
 unfold f36.b f36.b'
 have e':f56 L N (Graph.mk (Graph.mk ms).moves)=some sl:=e
 rw [e',Option.bind_some]
 have key:∀(n i:Nat) (c5 rows:List (List Move)),i≤ms.length→ms.length-i<n→rows.length=i→
   f36.l0 L N (fun z7 z8=>f36.p0_e0 L N some z7 z8) n sl (ms.length:Int) (i:Int) ms c5 rows=some (wkOut (rows++(sl.drop i).map fun li=>tidyM (li.flatMap (wkF sl ms)))):=by
  intro n
  induction n with
  |zero=>intro i c5 rows _ h;omega
  |succ n ih=>
   intro i c5 rows hi hn' hr
   show f36.s0 L N _ (f36.l0 L N _ n) sl (ms.length:Int) (i:Int) ms c5 rows=_
   unfold f36.s0 f36.s0'
   by_cases hlt:i<ms.length
   ·have hlt':i<sl.length:=by omega
    obtain ⟨h1,h2,-⟩:=hs i hlt'
    simp only [lt_cast hlt,lt_cast hlt',le0,Bool.and_true,cond_true,Int.toNat_natCast,at_lt hlt']
    refine (weak1 L N hL _ sl (ms.length:Int) (i:Int) sl[i] ms c5 rows hm hsn hsl h2 (by omega) L 0 [] (by omega) (by omega) (by simp only [List.length_nil];omega)).trans ?_
    show f36.p1_e2' L N _ _ sl (ms.length:Int) (i:Int) ms ([]++((sl[i]).drop 0).flatMap (wkF sl ms)) c5 rows=_
    unfold f36.p1_e2'
    have hfl:=weakF_len hm hsl h2 (by omega)
    rw [List.drop_zero,List.nil_append,fsortM_some (by omega),Option.bind_some]
    have hle:decide (rows.length+([tidyM ((sl[i]).flatMap (wkF sl ms))]:(List (List Move))).length≤lim)=true:=dt (by simp only [List.length_cons,List.length_nil];omega)
    rw [hle,cond_true,wi_nat (by omega),ih (i+1) _ _ (by omega) (by omega) (by simp [hr]),drop_cons hlt',List.map_cons,List.append_assoc]
    rfl
   ·simp only [ge_cast hlt,cond_false]
    rw [drop_end (by omega),List.map_nil,List.append_nil]
    rfl
 have:=key L 0 [] [] (by omega) (by omega) rfl
 rw [List.drop_zero,List.nil_append] at this
 exact this
end Go.Proofs.YtfdcjocallblcaaGreatDoor.Ev
namespace Go.Proofs.YtfdcjocallblcaaGreatDoor.Ev
open Go
set_option linter.unusedVariables false
set_option linter.unusedSimpArgs false
theorem Slip.trans {ms:List (List Move)} {X Y:Nat→Prop} {u:Nat} (h:Slip ms Y u) (hX:∀t,Y t→Slip ms X t):Slip ms X u:=by
 induction h with
 |base t hy=>exact hX t hy
 |step s t _ hl k hk ha ht ih=>exact .step s t ih hl k hk ha ht
theorem Slip.lt {ms:List (List Move)} (hm:Leads ms) {X:Nat→Prop} (hX:∀t,X t→t<ms.length) {u:Nat} (h:Slip ms X u):u<ms.length:=by
 induction h with
 |base t hx=>exact hX t hx
 |step s t _ hl k hk ha ht ih=>
  obtain ⟨t',h1,h2⟩:=hm.nat hl hk
  rw [ht] at h1
  omega
def WkS (ms:List (List Move)) (s:Nat) (m:Move):Prop:=∃mid,Slip ms (fun x=>x=s) mid∧
 ((m.act=0∧m.to=(mid:Int))∨∃(hs:mid<ms.length) (k:Nat) (hk:k<(ms[mid]).length) (t u:Nat),(ms[mid])[k].act≠0∧m.act=(ms[mid])[k].act∧(ms[mid])[k].to=(t:Int)∧Slip ms (fun x=>x=t) u∧m.to=(u:Int))
theorem wk_mem {ms:List (List Move)} (hm:Leads ms) {sl:List (List Int)} (hsn:sl.length=ms.length) (hs:∀(j:Nat) (hj:j<sl.length),(sl[j]).length≤ms.length∧(∀v∈sl[j],0≤v∧v<(ms.length:Int))∧∀t:Nat,(t:Int)∈sl[j]↔Slip ms (fun s=>s=j) t)
  (s:Nat) (hsl:s<sl.length) (m:Move):m∈(sl[s]).flatMap (wkF sl ms)↔WkS ms s m:=by
 obtain ⟨h1,h2,h3⟩:=hs s hsl
 rw [List.mem_flatMap]
 constructor
 ·rintro ⟨v,hv,hmv⟩
  obtain ⟨hv0,hvn⟩:=h2 v hv
  obtain ⟨mid,hmid⟩:=Int.eq_ofNat_of_zero_le hv0
  subst hmid
  have hml:mid<ms.length:=by omega
  refine ⟨mid,(h3 mid).1 hv,?_⟩
  unfold wkF at hmv
  rw [Int.toNat_natCast,getD_lt hml] at hmv
  rcases List.mem_cons.1 hmv with e|hmv
  ·exact .inl ⟨by rw [e],by rw [e]⟩
  ·obtain ⟨q,hq,hmq⟩:=List.mem_flatMap.1 hmv
   obtain ⟨k,hk,rfl⟩:=List.mem_iff_getElem.1 hq
   obtain ⟨t,ht,htl⟩:=hm.nat hml hk
   have htl':t<sl.length:=by omega
   unfold wkG at hmq
   split at hmq
   ·rename_i ha
    rw [ht,Int.toNat_natCast,getD_lt htl'] at hmq
    obtain ⟨w,hw,rfl⟩:=List.mem_map.1 hmq
    obtain ⟨hw0,hwn⟩:=(hs t htl').2.1 w hw
    obtain ⟨u,hu⟩:=Int.eq_ofNat_of_zero_le hw0
    subst hu
    exact .inr ⟨hml,k,hk,t,u,ha,rfl,ht,((hs t htl').2.2 u).1 hw,rfl⟩
   ·cases hmq
 ·rintro ⟨mid,hsm,h⟩
  have hml:mid<ms.length:=hsm.lt hm (fun t ht=>by omega)
  refine ⟨(mid:Int),(h3 mid).2 hsm,?_⟩
  unfold wkF
  rw [Int.toNat_natCast,getD_lt hml]
  rcases h with ⟨ha,ht⟩|⟨_,k,hk,t,u,ha,hact,ht,hu,hto⟩
  ·refine List.mem_cons.2 (.inl ?_)
   rw [←mv_eta m,ha,ht]
  ·obtain ⟨t',ht',htl⟩:=hm.nat hml hk
   rw [ht] at ht'
   obtain rfl:t=t':=by omega
   have htl':t<sl.length:=by omega
   refine List.mem_cons.2 (.inr (List.mem_flatMap.2 ⟨_,List.getElem_mem hk,?_⟩))
   unfold wkG
   rw [if_pos ha,ht,Int.toNat_natCast,getD_lt htl']
   refine List.mem_map.2 ⟨(u:Int),((hs t htl').2.2 u).2 hu,?_⟩
   rw [←mv_eta m,hact,hto]
end Go.Proofs.YtfdcjocallblcaaGreatDoor.Ev
namespace Go.Proofs.YtfdcjocallblcaaGreatDoor.Ev
open Go
set_option linter.unusedVariables false
set_option linter.unusedSimpArgs false
end Go.Proofs.YtfdcjocallblcaaGreatDoor.Ev
namespace Go.Proofs.YtfdcjocallblcaaGreatDoor.Ev
open Go
set_option linter.unusedVariables false
set_option linter.unusedSimpArgs false
end Go.Proofs.YtfdcjocallblcaaGreatDoor.Ev
namespace Go.Proofs.YtfdcjocallblcaaGreatDoor.Ev
open Go
set_option linter.unusedVariables false
set_option linter.unusedSimpArgs false
def WeakOf (ms rows:List (List Move)):Prop:=rows.length=ms.length∧∀(j:Nat) (hj:j<rows.length),∀m,m∈rows[j]↔WkS ms j m
structure WeakFine (g:Graph) (rows:List (List Move)):Prop where
 weak:WeakOf g.moves rows
 lead:Leads rows
 size:rows.length+gsize rows≤1048576
 len:∀r∈rows,r.length≤540
 ok:graphOk ⟨rows⟩=true
theorem weak_fine {g:Graph} (hg:g.moves.length+gsize g.moves≤1048576) (hok:graphOk g=true) {rows:List (List Move)} (hw:WeakOf g.moves rows) (hr:∀(j:Nat) (hj:j<rows.length),RisesM rows[j]):WeakFine g rows:=by
 have hm:=leads_of hok hg
 have hn:=hm.1
 obtain ⟨hn1,-,hmv⟩:=graphOk_mv hok
 have hl:=hw.1
 have hto:∀(j:Nat) (hj:j<rows.length),∀m∈rows[j],-4≤m.act∧m.act≤4∧0≤m.to∧m.to<(g.moves.length:Int):=fun j hj m hmm=>by
  obtain ⟨mid,hs,q⟩:=(hw.2 j hj m).1 hmm
  have hml:mid<g.moves.length:=hs.lt hm (fun t ht=>by omega)
  rcases q with ⟨ha,ht⟩|⟨_,k,hk,t,u,ha,hact,ht,hu,hto⟩
  ·omega
  ·have hb:=hmv mid hml k hk
   have hul:u<g.moves.length:=hu.lt hm (fun x hx=>by omega)
   omega
 have hrow:∀r∈rows,r.length≤540:=fun r hr'=>by
  obtain ⟨j,hj,rfl⟩:=List.mem_iff_getElem.1 hr'
  exact risesM_len (hr j hj) fun m hmm=>by have:=hto j hj m hmm;omega
 have hgs:=gsize_le hrow
 refine ⟨hw,⟨by omega,fun i hi=>⟨?_,fun k hk=>?_⟩⟩,by omega,hrow,graphOk_mk (by omega) (by omega) fun i hi=>⟨hr i hi,fun m hmm=>?_⟩⟩
 ·have:=hrow _ (List.getElem_mem hi);omega
 ·have:=hto i hi _ (List.getElem_mem hk);omega
 ·have:=hto i hi m hmm
  unfold mvOk
  rw [dt (by omega),dt (by omega)];rfl
theorem weakI (L N:Nat) (ms:List (List Move)) (hm:Leads ms) (hL:8589934592≤L):∃rows,f36 L N ⟨ms⟩=some (wkOut rows)∧WeakOf ms rows∧∀(j:Nat) (hj:j<rows.length),RisesM rows[j]:=by
 obtain ⟨s1,a1,a2,a3⟩:=weakOf_ok L N ms hm (by omega)
 refine ⟨_,a3,⟨by rw [List.length_map];omega,fun j hj m=>?_⟩,fun j hj=>?_⟩
 ·have hj1:j<s1.length:=by simpa using hj
  rw [List.getElem_map,tidyM_mem]
  exact wk_mem hm a1 a2 j hj1 m
 ·rw [List.getElem_map];exact tidyM_rises _
theorem weakF (L N:Nat) (g:Graph) (hg:g.moves.length+gsize g.moves≤1048576) (hok:graphOk g=true) (hL:8589934592≤L):∃rows,f36 L N g=some (wkOut rows)∧WeakFine g rows:=by
 have hge:Graph.mk g.moves=g:=by cases g;rfl
 obtain ⟨rows,h1,h2,h3⟩:=weakI L N g.moves (leads_of hok hg) hL
 exact ⟨rows,by rw [←hge];exact h1,weak_fine hg hok h2 h3⟩
end Go.Proofs.YtfdcjocallblcaaGreatDoor.Ev
namespace Go.Proofs.YtfdcjocallblcaaGreatDoor.Ev
open Go
set_option linter.unusedVariables false
set_option linter.unusedSimpArgs false
theorem alikeW (L N:Nat) (hL:8589934592≤L) (g:Graph) (hg:g.moves.length+gsize g.moves≤2147483900):
  ∃q,f5 L N g=some q∧f9 L N g=some q∧q.length≤60∧(graphOk g=false→q=[])∧(graphOk g=true→∃pre,Chain (Akin g.moves) g.moves.length pre q∧Fix (Akin g.moves) g.moves.length q∧f21 L N g=some q):=by
 have hge:Graph.mk g.moves=g:=by cases g;rfl
 have h1:=gok1_big L N g (by omega) (by omega)
 have h2:=gok2_big L N g (by omega) (by omega)
 show ∃q,f5.b' L N some g=some q∧f9.b' L N some g=some q∧_
 unfold f5.b' f9.b'
 rw [hge,h1,h2,Option.bind_some,Option.bind_some]
 cases hok:graphOk g with
 |false=>exact ⟨[],rfl,rfl,by simp,fun _=>rfl,fun h=>by cases h⟩
 |true=>
  have hm:=leads_of hok (ok_small hok).2
  have hn:=hm.1
  obtain ⟨pre,q,c3,c5,c6,c7⟩:=chainI L N g.moves hm hL
  have hql:=c7.1
  have c4:f21 L N g=some q:=by rw [←hge];exact classesI L N g.moves c3 c5 (by omega)
  have c8:f27 L N g=some q:=by rw [←hge];exact classesS L N g.moves (chainS L N g.moves hm hL c3) c5
  rw [Bool.not_true,cond_false,cond_false,c4,c8,Option.bind_some]
  exact ⟨q,rfl,rfl,by omega,(fun h=>by cases h),fun _=>⟨pre,c6,c7,rfl⟩⟩
theorem weakClassesI (L N:Nat) (g:Graph) (hg:g.moves.length+gsize g.moves≤1048576) (hL:8589934592≤L) (hok:graphOk g=true):
  ∃rows pre q,f13 L N g=some q∧q.length=g.moves.length∧WeakFine g rows∧Chain (Akin rows) rows.length pre q∧Fix (Akin rows) rows.length q:=by
 have hge:Graph.mk g.moves=g:=by cases g;rfl
 have h1:=gok1_ok L N g (by omega) hg
 obtain ⟨rows,w1,w2⟩:=weakF L N g hg hok hL
 have hl:=w2.weak.1
 have hn:=(leads_of hok hg).1
 obtain ⟨pre,q,c3,c5,c6,c7⟩:=chainI L N rows w2.lead hL
 have hql:=c7.1
 have c4:=classesI L N rows c3 c5 (by omega)
 refine ⟨rows,pre,q,?_,by omega,w2,c6,c7⟩
 show f13.b' L N some g=_
 unfold f13.b'
 rw [hge,h1,Option.bind_some,hok,Bool.not_true,cond_false,w1,Option.bind_some,c4,Option.bind_some]
end Go.Proofs.YtfdcjocallblcaaGreatDoor.Ev
namespace Go.Proofs.YtfdcjocallblcaaGreatDoor.Ev
open Go
set_option linter.unusedVariables false
set_option linter.unusedSimpArgs false
end Go.Proofs.YtfdcjocallblcaaGreatDoor.Ev
namespace Go.Proofs.YtfdcjocallblcaaGreatDoor.Ev
open Go
set_option linter.unusedVariables false
set_option linter.unusedSimpArgs false
def StepX (ms:List (List Move)) (X:Nat→Prop) (a:Int) (t:Nat):Prop:=∃s,X s∧∃(hs:s<ms.length) (k:Nat) (hk:k<(ms[s]).length),(ms[s])[k].act=a∧(ms[s])[k].to=(t:Int)
theorem StepX.iff {ms:List (List Move)} {X Y:Nat→Prop} (h:∀t,X t↔Y t) (a:Int) (t:Nat):StepX ms X a t↔StepX ms Y a t:=
 ⟨fun ⟨s,hx,r⟩=>⟨s,(h s).1 hx,r⟩,fun ⟨s,hx,r⟩=>⟨s,(h s).2 hx,r⟩⟩
theorem after_ok (L N:Nat) (ms:List (List Move)) (set:List Int) (a:Int) (hm:Leads ms) (hs:set.length≤ms.length) (hr:∀v∈set,0≤v∧v<(ms.length:Int)) (hL:268435456≤L):
  ∃q,f46 L N ⟨ms⟩ set a=some q∧q.length≤ms.length∧(∀v∈q,0≤v∧v<(ms.length:Int))∧(∀t:Nat,(t:Int)∈q↔Slip ms (StepX ms (fun s=>(s:Int)∈set) a) t)∧Rises q:=by
 have hlim:=lim_eq
 have hn:=hm.1
 show ∃q,f46.b L N some ⟨ms⟩ set a=some q∧_
 unfold f46.b f46.b'
 obtain ⟨to,g1,g2,g3⟩:=inv_loop (l:=fun n i to=>f46.l0 L N (fun z6 z7=>f46.p0_e0 L N some z6 z7) n a set (set.length:Int) i ms to) (len:=set.length)
  (K:=fun to:List Int=>f46.p0_e0 L N some ms to)
  (fun i to=>to.length≤i*1048576∧∀v:Int,v∈to↔∃(j:Nat) (hj:j<set.length),j<i∧∃s:Nat,set[j]=(s:Int)∧∃(hs:s<ms.length) (k:Nat) (hk:k<(ms[s]).length),(ms[s])[k].act=a∧(ms[s])[k].to=v)
  (fun n i to hi ⟨p1,p2⟩=>by
   show ∃s',f46.s0 L N _ (f46.l0 L N _ n) a set (set.length:Int) i ms to=_∧_
   unfold f46.s0 f46.s0'
   obtain ⟨h1,h2⟩:=hr _ (List.getElem_mem hi)
   obtain ⟨s,hse⟩:=Int.eq_ofNat_of_zero_le h1
   have hsn:s<ms.length:=by omega
   have hrow:=(hm.2 s hsn).1
   simp only [le0,lt_cast hi,Bool.and_true,cond_true,Int.toNat_natCast,at_lt hi,hse,lt_cast hsn,at_lt hsn]
   obtain ⟨to',q1,q2,q3⟩:=inv_loop (l:=fun n' k to=>f46.l1 L N (fun z17 z18 z19 z20 z21 z22=>f46.p1_e2 L N (fun z6 z7=>f46.p0_e0 L N some z6 z7) (f46.l0 L N (fun z6 z7=>f46.p0_e0 L N some z6 z7) n) z17 z18 z19 z20 z21 z22) n' a set (set.length:Int) (i:Int) ms[s] ((ms[s]).length:Int) k ms to) (len:=(ms[s]).length)
    (K:=fun to:List Int=>f46.l0 L N (fun z6 z7=>f46.p0_e0 L N some z6 z7) n a set (set.length:Int) ((i+1:Nat):Int) ms to)
    (fun k to'=>to'.length≤i*1048576+k∧∀v:Int,v∈to'↔(v∈to∨∃(k':Nat) (hk':k'<(ms[s]).length),k'<k∧(ms[s])[k'].act=a∧(ms[s])[k'].to=v))
    (fun n' k to' hk ⟨r1,r2⟩=>by
     show ∃s',f46.s1 L N _ (f46.l1 L N _ n') a set (set.length:Int) (i:Int) ms[s] ((ms[s]).length:Int) k ms to'=_∧_
     unfold f46.s1 f46.s1'
     have hle:decide (to'.length+([(ms[s])[k].to]:List Int).length≤lim)=true:=dt (by simp only [List.length_cons,List.length_nil];omega)
     simp only [le0,lt_cast hk,Bool.and_true,cond_true,Int.toNat_natCast,at_lt hk,hle,wi_nat (show k<9223372036854775807 by omega)]
     by_cases ha:(ms[s])[k].act=a
     ·have hb:((ms[s])[k].act==a)=true:=by simpa using ha
      rw [hb]
      simp only [cond_true]
      refine ⟨to'++[(ms[s])[k].to],rfl,by simp only [List.length_append,List.length_cons,List.length_nil];omega,fun v=>?_⟩
      rw [List.mem_append,r2 v,List.mem_singleton]
      constructor
      ·rintro ((h|⟨k',hk',hlt,h⟩)|h)
       ·exact .inl h
       ·exact .inr ⟨k',hk',by omega,h⟩
       ·exact .inr ⟨k,hk,by omega,ha,h.symm⟩
      ·rintro (h|⟨k',hk',hlt,h1,h2⟩)
       ·exact .inl (.inl h)
       ·by_cases he:k'=k
        ·subst he;exact .inr h2.symm
        ·exact .inl (.inr ⟨k',hk',by omega,h1,h2⟩)
     ·have hb:((ms[s])[k].act==a)=false:=by simpa using ha
      rw [hb]
      simp only [cond_false]
      refine ⟨to',rfl,by omega,fun v=>?_⟩
      rw [r2 v]
      constructor
      ·rintro (h|⟨k',hk',hlt,h⟩)
       ·exact .inl h
       ·exact .inr ⟨k',hk',by omega,h⟩
      ·rintro (h|⟨k',hk',hlt,h1,h2⟩)
       ·exact .inl h
       ·by_cases he:k'=k
        ·subst he;exact absurd h1 ha
        ·exact .inr ⟨k',hk',by omega,h1,h2⟩)
    (fun n' to' _=>by
     show f46.s1 L N _ (f46.l1 L N _ n') a set (set.length:Int) (i:Int) ms[s] ((ms[s]).length:Int) (ms[s]).length ms to'=_
     unfold f46.s1 f46.s1'
     simp only [ge_cast (Nat.lt_irrefl _),cond_false]
     show f46.l0 L N _ n a set (set.length:Int) (wi ((i:Int)+1)) ms to'=_
     rw [wi_nat (by omega)])
    L 0 to (by omega) (by omega) ⟨by rw [Nat.add_zero];exact p1,fun v=>⟨fun h=>.inl h,fun h=>by
     rcases h with h|⟨k',_,hlt,-⟩
     ·exact h
     ·omega⟩⟩
   refine ⟨to',q1,by omega,fun v=>?_⟩
   rw [q3 v,p2 v]
   constructor
   ·rintro (⟨j,hj,hlt,h⟩|⟨k',hk',-,h1,h2⟩)
    ·exact ⟨j,hj,by omega,h⟩
    ·exact ⟨i,hi,by omega,s,hse,hsn,k',hk',h1,h2⟩
   ·rintro ⟨j,hj,hlt,s',hs',hsl',k',hk',h1,h2⟩
    by_cases he:j=i
    ·subst he
     rw [hse] at hs'
     obtain rfl:s=s':=by omega
     exact .inr ⟨k',hk',hk',h1,h2⟩
    ·exact .inl ⟨j,hj,by omega,s',hs',hsl',k',hk',h1,h2⟩)
  (fun n to _=>by
   show f46.s0 L N _ (f46.l0 L N _ n) a set (set.length:Int) set.length ms to=_
   unfold f46.s0 f46.s0'
   simp only [ge_cast (Nat.lt_irrefl _),cond_false])
  L 0 [] (by omega) (by omega) ⟨by simp,fun v=>⟨fun h=>by simp at h,fun ⟨_,_,h,_⟩=>by omega⟩⟩
 have hto:∀v∈to,0≤v∧v<(ms.length:Int):=fun v hv=>by
  obtain ⟨j,hj,-,s,-,hsn,k,hk,-,rfl⟩:=(g3 v).1 hv
  exact (hm.2 s hsn).2 k hk
 obtain ⟨q,e1,e2,e3,e4,e5⟩:=slip1_ok L N ms to hm hto (by omega) (by omega) (by omega)
 refine ⟨q,g1.trans ?_,e2,e3,fun t=>?_,e5⟩
 ·show ((f60 L N ⟨ms⟩ to).bind fun y=>some y)=_
  rw [e1];rfl
 ·rw [e4 t]
  refine Slip.iff (fun t=>?_) t
  rw [g3]
  constructor
  ·rintro ⟨j,hj,-,s,hs,hsl,k,hk,h1,h2⟩
   exact ⟨s,by show (s:Int)∈set;rw [←hs];exact List.getElem_mem hj,hsl,k,hk,h1,h2⟩
  ·rintro ⟨s,hx,hsl,k,hk,h1,h2⟩
   obtain ⟨j,hj,hjs⟩:=List.mem_iff_getElem.1 hx
   exact ⟨j,hj,hj,s,hjs,hsl,k,hk,h1,h2⟩
end Go.Proofs.YtfdcjocallblcaaGreatDoor.Ev
namespace Go.Proofs.YtfdcjocallblcaaGreatDoor.Ev
open Go
set_option linter.unusedVariables false
set_option linter.unusedSimpArgs false
def Beh (ms:List (List Move)):(Nat→Prop)→List Int→Nat→Prop
 |X,[]=>X
 |X,a::w=>Beh ms (Slip ms (StepX ms X a)) w
theorem Beh.congr {ms:List (List Move)}:∀{w:List Int} {X Y:Nat→Prop},(∀t,X t↔Y t)→∀t,Beh ms X w t↔Beh ms Y w t
 |[],_,_,h,t=>h t
 |a::w,X,Y,h,t=>Beh.congr (w:=w) (fun t=>Slip.iff (fun t=>StepX.iff h a t) t) t
theorem Beh.snoc {ms:List (List Move)} {a:Int}:∀{w:List Int} {X:Nat→Prop} {t:Nat},Beh ms X (w++[a]) t↔Slip ms (StepX ms (Beh ms X w) a) t
 |[],X,t=>Iff.rfl
 |b::w,X,t=>Beh.snoc (w:=w)
theorem slip_some {ms:List (List Move)} {X:Nat→Prop} {t:Nat} (h:Slip ms X t):∃s,X s:=by
 induction h with
 |base t hx=>exact ⟨t,hx⟩
 |step s t _ _ _ _ _ _ ih=>exact ih
end Go.Proofs.YtfdcjocallblcaaGreatDoor.Ev
namespace Go.Proofs.YtfdcjocallblcaaGreatDoor.Ev
open Go
set_option linter.unusedVariables false
set_option linter.unusedSimpArgs false
structure FoldOf (ms:List (List Move)) (q:List Int) (ls:List Nat) (fr:List (List Move)):Prop where
 len:fr.length=ls.length
 lt:∀l∈ls,l<ms.length
 rep:∀l∈ls,q.getD l 0=(l:Int)
 all:∀i,i<ms.length→q.getD i 0=(i:Int)→i∈ls
 asc:ls.Pairwise (·<·)
 rows:∀(j:Nat) (hj:j<fr.length) (m:Move),m∈fr[j]↔∃t j':Nat,Mv ms (ls.getD j 0) m.act t∧j'<ls.length∧m.to=(j':Int)∧q.getD t 0=((ls.getD j' 0:Nat):Int)
def FB (ms:List (List Move)) (q:List Int) (ls:List Nat) (i j:Nat):Prop:=i<ms.length∧j<ls.length∧q.getD i 0=((ls.getD j 0:Nat):Int)
theorem FoldOf.at {ms fr:List (List Move)} {q:List Int} {ls:List Nat} (h:FoldOf ms q ls fr) {j:Nat} (hj:j<ls.length):ls.getD j 0<ms.length∧q.getD (ls.getD j 0) 0=((ls.getD j 0:Nat):Int):=by
 rw [getD_lt hj]
 exact ⟨h.lt _ (List.getElem_mem hj),h.rep _ (List.getElem_mem hj)⟩
theorem FoldOf.first {ms fr:List (List Move)} {q:List Int} {ls:List Nat} (hq:Fix (Akin ms) ms.length q) (h1:1≤ms.length) (h:FoldOf ms q ls fr):FB ms q ls 0 0:=by
 obtain ⟨r,e1,e2,e3⟩:=hq.rep (akinEq ms) (show 0<ms.length by omega)
 obtain rfl:r=0:=by omega
 obtain ⟨j,hj,e⟩:=List.mem_iff_getElem.1 (h.all 0 (by omega) e3)
 have hj0:j=0:=by
  rcases Nat.eq_zero_or_pos j with e0|hpos
  ·exact e0
  ·have:=List.pairwise_iff_getElem.1 h.asc 0 j (by omega) hj hpos
   omega
 subst hj0
 exact ⟨by omega,hj,by rw [getD_lt hj,e,e3]⟩
end Go.Proofs.YtfdcjocallblcaaGreatDoor.Ev
namespace Go.Proofs.YtfdcjocallblcaaGreatDoor.Ev
open Go
set_option linter.unusedVariables false
set_option linter.unusedSimpArgs false
theorem index_ok (L N:Nat) (s:List Int) (v:Int) (hv:v∈s) (hL:s.length<L) (hl:s.length≤1048576):∃j:Nat,f37 L N s v=some (j:Int)∧∃h:j<s.length,s[j]=v:=by
 show ∃j:Nat,f37.b L N some s v=some (j:Int)∧_
 unfold f37.b f37.b'
 have key:∀(n i:Nat),i≤s.length→s.length-i<n→(∀j (h:j<s.length),j<i→s[j]≠v)→∃j:Nat,f37.l0 L N (f37.p0_e0 L N some) (fun z4=>f37.p0_r L N some z4) n s v (s.length:Int) (i:Int)=some (j:Int)∧∃h:j<s.length,s[j]=v:=by
  intro n
  induction n with
  |zero=>intro i _ h;omega
  |succ n ih=>
   intro i hi hn hne
   show ∃j:Nat,f37.s0 L N _ _ (f37.l0 L N _ _ n) s v (s.length:Int) (i:Int)=some (j:Int)∧_
   unfold f37.s0 f37.s0'
   by_cases hlt:i<s.length
   ·simp only [lt_cast hlt,le0,Bool.and_true,cond_true,Int.toNat_natCast,at_lt hlt]
    cases hb:(v==s[i]) with
    |true=>rw [cond_true];exact ⟨i,rfl,hlt,(eq_of_beq hb).symm⟩
    |false=>
     rw [cond_false,wi_nat (by omega)]
     refine ih (i+1) (by omega) (by omega) fun j h hj e=>?_
     by_cases h':j<i
     ·exact hne j h h' e
     ·obtain rfl:j=i:=by omega
      rw [e,beq_self_eq_true] at hb;cases hb
   ·obtain ⟨j,hj,e⟩:=List.mem_iff_getElem.1 hv
    exact absurd e (hne j hj (by omega))
 exact key L 0 (by omega) (by omega) fun j _ h=>by omega
def leastTo (q:List Int) (i:Nat):List Nat:=(List.range i).filter fun j=>q.getD j 0==(j:Int)
theorem leastTo_succ (q:List Int) (i:Nat):leastTo q (i+1)=leastTo q i++(if (q.getD i 0==(i:Int))=true then [i] else []):=by
 unfold leastTo
 rw [List.range_succ,List.filter_append,List.filter_cons,List.filter_nil]
theorem leastTo_len (q:List Int) (i:Nat):(leastTo q i).length≤i:=by
 unfold leastTo
 exact Nat.le_trans (List.length_filter_le _ _) (by simp)
def intsL (l:List Nat):List Int:=l.map fun j:Nat=>(j:Int)
theorem intsL_len (l:List Nat):(intsL l).length=l.length:=by simp [intsL]
theorem intsL_at (l:List Nat) {j:Nat} (h:j<(intsL l).length) (h':j<l.length):(intsL l)[j]=(l[j]:Int):=by simp [intsL]
theorem fold1 (L N:Nat) (ms:List (List Move)) (hm:Leads ms) {q:List Int} (hq:q.length=ms.length) (ls:List Nat) (hls:ls.length≤60) (J:Int→Int) (hlt:∀l∈ls,l<ms.length)
  (hJ:∀l∈ls,∀m∈ms.getD l [],f37 L N (intsL ls) (q.getD m.to.toNat 0)=some (J (q.getD m.to.toNat 0))) (hL:1048576<L):
  f14.p0_e0 L N (fun a0 a1=>some (a0,a1)) ms q (intsL ls)=some (Graph.mk (ls.map fun l=>tidyM ((ms.getD l []).map fun m=>Move.mk m.act (J (q.getD m.to.toNat 0)))),true):=by
 have hlim:=lim_eq
 have hn:=hm.1
 unfold f14.p0_e0 f14.p0_e0'
 have hil:=intsL_len ls
 have key:∀(n k:Nat),k≤ls.length→ls.length-k<n→f14.l1 L N (fun z21=>f14.p1_e2 L N (fun a0 a1=>some (a0,a1)) z21) n ((intsL ls).length:Int) (k:Int) ms q (intsL ls) ((ls.take k).map fun l=>tidyM ((ms.getD l []).map fun m=>Move.mk m.act (J (q.getD m.to.toNat 0))))=some (Graph.mk (ls.map fun l=>tidyM ((ms.getD l []).map fun m=>Move.mk m.act (J (q.getD m.to.toNat 0)))),true):=by
  intro n
  induction n with
  |zero=>intro k _ h;omega
  |succ n ih=>
   intro k hk hn'
   show f14.s1 L N _ (f14.l1 L N _ n) ((intsL ls).length:Int) (k:Int) ms q (intsL ls) _=_
   unfold f14.s1 f14.s1'
   by_cases hkl:k<ls.length
   ·have hki:k<(intsL ls).length:=by omega
    have hl:=hlt _ (List.getElem_mem hkl)
    simp only [lt_cast hki,le0,Bool.and_true,cond_true,Int.toNat_natCast,at_lt hki,intsL_at ls hki hkl,lt_cast hl,at_lt hl]
    have hrow:=(hm.2 _ hl).1
    have row:∀(n' j:Nat),j≤(ms[ls[k]]).length→(ms[ls[k]]).length-j<n'→f14.l2 L N (fun z32 z33 z34 z35 z36 z37 z38=>f14.p2_e4 L N (fun z21=>f14.p1_e2 L N (fun a0 a1=>some (a0,a1)) z21) (f14.l1 L N (fun z21=>f14.p1_e2 L N (fun a0 a1=>some (a0,a1)) z21) n) z32 z33 z34 z35 z36 z37 z38) n' ((intsL ls).length:Int) (k:Int) ms[ls[k]] ((ms[ls[k]]).length:Int) (j:Int) ms q (intsL ls) (((ms[ls[k]]).take j).map fun m=>Move.mk m.act (J (q.getD m.to.toNat 0))) ((ls.take k).map fun l=>tidyM ((ms.getD l []).map fun m=>Move.mk m.act (J (q.getD m.to.toNat 0))))
      =some (Graph.mk (ls.map fun l=>tidyM ((ms.getD l []).map fun m=>Move.mk m.act (J (q.getD m.to.toNat 0)))),true):=by
     intro n'
     induction n' with
     |zero=>intro j _ h;omega
     |succ n' ih2=>
      intro j hj hn''
      show f14.s2 L N _ (f14.l2 L N _ n') ((intsL ls).length:Int) (k:Int) ms[ls[k]] ((ms[ls[k]]).length:Int) (j:Int) ms q (intsL ls) _ _=_
      unfold f14.s2 f14.s2'
      by_cases hjl:j<(ms[ls[k]]).length
      ·obtain ⟨t,ht,htl⟩:=hm.nat hl hjl
       have htq:t<q.length:=by omega
       have hi:=hJ _ (List.getElem_mem hkl) ((ms[ls[k]])[j]) (by rw [getD_lt hl];exact List.getElem_mem hjl)
       rw [ht,Int.toNat_natCast] at hi
       have hle:decide (((((ms[ls[k]]).take j).map fun m=>Move.mk m.act (J (q.getD m.to.toNat 0))).length+([(Move.mk ((ms[ls[k]])[j]).act (J (q.getD t 0)))]:List Move).length)≤lim)=true:=dt (by simp only [List.length_map,List.length_take,List.length_cons,List.length_nil];omega)
       simp only [lt_cast hjl,le0,Bool.and_true,cond_true,Int.toNat_natCast,at_lt hjl,ht,lt_cast htq,atD,hi,Option.bind_some,hle]
       have e:(((ms[ls[k]]).take j).map fun m=>Move.mk m.act (J (q.getD m.to.toNat 0)))++[Move.mk ((ms[ls[k]])[j]).act (J (q.getD t 0))]=((ms[ls[k]]).take (j+1)).map fun m=>Move.mk m.act (J (q.getD m.to.toNat 0)):=by
        rw [List.take_succ_eq_append_getElem hjl,List.map_append,List.map_cons,List.map_nil,ht,Int.toNat_natCast]
       rw [e,wi_nat (by omega)]
       exact ih2 (j+1) (by omega) (by omega)
      ·rw [ge_cast hjl,cond_false,List.take_of_length_le (by omega)]
       show f14.p2_e4' L N _ _ _ _ _ _ _ _ _=_
       unfold f14.p2_e4'
       have hle:decide (((ls.take k).map fun l=>tidyM ((ms.getD l []).map fun m=>Move.mk m.act (J (q.getD m.to.toNat 0)))).length+([tidyM ((ms[ls[k]]).map fun m=>Move.mk m.act (J (q.getD m.to.toNat 0)))]:List (List Move)).length≤lim)=true:=dt (by simp only [List.length_map,List.length_take,List.length_cons,List.length_nil];omega)
       rw [fsortM_some (by rw [List.length_map];omega),Option.bind_some,hle,cond_true,wi_nat (by omega)]
       have e:((ls.take k).map fun l=>tidyM ((ms.getD l []).map fun m=>Move.mk m.act (J (q.getD m.to.toNat 0))))++[tidyM ((ms[ls[k]]).map fun m=>Move.mk m.act (J (q.getD m.to.toNat 0)))]=(ls.take (k+1)).map fun l=>tidyM ((ms.getD l []).map fun m=>Move.mk m.act (J (q.getD m.to.toNat 0))):=by
        rw [List.take_succ_eq_append_getElem hkl,List.map_append,List.map_cons,List.map_nil,getD_lt hl]
       rw [e]
       exact ih (k+1) (by omega) (by omega)
    exact row L 0 (by omega) (by omega)
   ·have hki:¬k<(intsL ls).length:=by omega
    rw [ge_cast hki,cond_false,List.take_of_length_le (by omega)]
    rfl
 exact key L 0 (by omega) (by omega)
theorem graphFold_ok (L N:Nat) (g:Graph) (hg:g.moves.length+gsize g.moves≤1048576) (hL:8589934592≤L):
  ∃fr,f14 L N g=some (⟨fr⟩,graphOk g)∧(graphOk g=true→∃pre q,Chain (Akin g.moves) g.moves.length pre q∧Fix (Akin g.moves) g.moves.length q∧f21 L N g=some q∧FoldOf g.moves q (leastTo q g.moves.length) fr∧graphOk ⟨fr⟩=true∧fr.length+gsize fr≤1048576):=by
 have hge:Graph.mk g.moves=g:=by cases g;rfl
 have hlim:=lim_eq
 have h1:=gok1_ok L N g (by omega) hg
 show ∃fr,f14.b L N (fun a0 a1=>some (a0,a1)) g=_∧_
 unfold f14.b f14.b'
 rw [hge,h1,Option.bind_some]
 cases hok:graphOk g with
 |false=>exact ⟨[],rfl,fun h=>by cases h⟩
 |true=>
  have hm:=leads_of hok hg
  have hn:=hm.1
  obtain ⟨hn1,-,hmv⟩:=graphOk_mv hok
  obtain ⟨pre,q,c3,c5,c6,c7⟩:=chainI L N g.moves hm hL
  have hql:=c7.1
  have c4:=classesI L N g.moves c3 c5 (by omega)
  rw [hge] at c4
  rw [Bool.not_true,cond_false,c4,Option.bind_some]
  have hll:=leastTo_len q g.moves.length
  have hmem:∀l,l∈leastTo q g.moves.length↔l<g.moves.length∧q.getD l 0=(l:Int):=fun l=>by
   unfold leastTo
   rw [List.mem_filter,List.mem_range,beq_iff_eq]
  have key:∀(n i:Nat),i≤q.length→q.length-i<n→f14.l0 L N (fun z7 z8 z9=>f14.p0_e0 L N (fun a0 a1=>some (a0,a1)) z7 z8 z9) n (q.length:Int) (i:Int) g.moves q (intsL (leastTo q i))
    =f14.p0_e0 L N (fun a0 a1=>some (a0,a1)) g.moves q (intsL (leastTo q g.moves.length)):=by
   intro n
   induction n with
   |zero=>intro i _ h;omega
   |succ n ih=>
    intro i hi hn'
    show f14.s0 L N _ (f14.l0 L N _ n) (q.length:Int) (i:Int) g.moves q _=_
    unfold f14.s0 f14.s0'
    by_cases hlt:i<q.length
    ·have hil:=leastTo_len q i
     have hle:decide ((intsL (leastTo q i)).length+([(i:Int)]:List Int).length≤lim)=true:=dt (by rw [intsL_len];simp only [List.length_cons,List.length_nil];omega)
     have hs:=leastTo_succ q i
     simp only [lt_cast hlt,le0,Bool.and_true,cond_true,Int.toNat_natCast,atD,hle,wi_nat (show i<9223372036854775807 by omega)]
     cases hb:((i:Int)==q.getD i 0) with
     |true=>
      have hb':(q.getD i 0==(i:Int))=true:=by rw [beq_iff_eq] at hb⊢;exact hb.symm
      rw [if_pos hb'] at hs
      have e:intsL (leastTo q i)++[(i:Int)]=intsL (leastTo q (i+1)):=by rw [hs];simp [intsL]
      rw [cond_true,e]
      exact ih (i+1) (by omega) (by omega)
     |false=>
      have hb':¬(q.getD i 0==(i:Int))=true:=by
       rw [beq_eq_false_iff_ne] at hb
       rw [beq_iff_eq];exact fun h=>hb h.symm
      rw [if_neg hb',List.append_nil] at hs
      rw [cond_false,←hs]
      exact ih (i+1) (by omega) (by omega)
    ·rw [ge_cast hlt,cond_false]
     have:i=g.moves.length:=by omega
     rw [this]
  have h0:intsL (leastTo q 0)=[]:=rfl
  have hJ0:∀t,t<g.moves.length→∃j':Nat,f37 L N (intsL (leastTo q g.moves.length)) (q.getD t 0)=some (j':Int)∧∃h:j'<(leastTo q g.moves.length).length,(((leastTo q g.moves.length)[j']:Nat):Int)=q.getD t 0:=fun t ht=>by
   obtain ⟨r,r1,r2,r3⟩:=c7.rep (akinEq g.moves) ht
   have hr:(r:Int)∈intsL (leastTo q g.moves.length):=List.mem_map.2 ⟨r,(hmem r).2 ⟨by omega,r3⟩,rfl⟩
   obtain ⟨j,j1,j2,j3⟩:=index_ok L N (intsL (leastTo q g.moves.length)) (q.getD t 0) (by rw [r1];exact hr) (by rw [intsL_len];omega) (by rw [intsL_len];omega)
   have j2':j<(leastTo q g.moves.length).length:=by rw [intsL_len] at j2;exact j2
   refine ⟨j,j1,j2',?_⟩
   rw [←intsL_at _ j2 j2'];exact j3
  refine ⟨_,((key L 0 (by omega) (by omega)).symm▸?_:f14.l0 L N (fun z7 z8 z9=>f14.p0_e0 L N (fun a0 a1=>some (a0,a1)) z7 z8 z9) L (q.length:Int) (0:Nat) g.moves q (intsL (leastTo q 0))=some (Graph.mk ((leastTo q g.moves.length).map fun l=>tidyM ((g.moves.getD l []).map fun m=>Move.mk m.act ((fun v=>(f37 L N (intsL (leastTo q g.moves.length)) v).getD 0) (q.getD m.to.toNat 0)))),true)),fun _=>?_⟩
  ·refine fold1 L N g.moves hm hql _ (by omega) (fun v=>(f37 L N (intsL (leastTo q g.moves.length)) v).getD 0) (fun l hl=>((hmem l).1 hl).1) (fun l hl m hmm=>?_) (by omega)
   have hlt:=((hmem l).1 hl).1
   rw [getD_lt hlt] at hmm
   obtain ⟨k,hk,rfl⟩:=List.mem_iff_getElem.1 hmm
   obtain ⟨t,ht,htl⟩:=hm.nat hlt hk
   obtain ⟨j',j1,-⟩:=hJ0 t htl
   rw [ht,Int.toNat_natCast,j1];rfl
  ·have hasc:(leastTo q g.moves.length).Pairwise (·<·):=List.Pairwise.filter _ List.pairwise_lt_range
   have hF:FoldOf g.moves q (leastTo q g.moves.length) ((leastTo q g.moves.length).map fun l=>tidyM ((g.moves.getD l []).map fun m=>Move.mk m.act ((fun v=>(f37 L N (intsL (leastTo q g.moves.length)) v).getD 0) (q.getD m.to.toNat 0)))):=by
    refine ⟨by rw [List.length_map],fun l hl=>((hmem l).1 hl).1,fun l hl=>((hmem l).1 hl).2,fun i hi e=>(hmem i).2 ⟨hi,e⟩,hasc,fun j hj m=>?_⟩
    have hj':j<(leastTo q g.moves.length).length:=by rw [List.length_map] at hj;exact hj
    have hlt:=((hmem _).1 (List.getElem_mem hj')).1
    rw [List.getElem_map,tidyM_mem,List.mem_map,getD_lt hlt,getD_lt hj']
    constructor
    ·rintro ⟨x,hx,rfl⟩
     obtain ⟨k,hk,rfl⟩:=List.mem_iff_getElem.1 hx
     obtain ⟨t,ht,htl⟩:=hm.nat hlt hk
     obtain ⟨j2,j1,j3,j4⟩:=hJ0 t htl
     refine ⟨t,j2,⟨hlt,k,hk,rfl,ht⟩,j3,?_,?_⟩
     ·simp only [ht,Int.toNat_natCast,j1];rfl
     ·rw [getD_lt j3,j4]
    ·rintro ⟨t,j2,⟨_,k,hk,ha,ht⟩,j3,e1,e2⟩
     refine ⟨_,List.getElem_mem hk,?_⟩
     have htl:t<g.moves.length:=by have:=(hm.2 _ hlt).2 k hk;omega
     obtain ⟨j5,j1,j6,j7⟩:=hJ0 t htl
     rw [getD_lt j3] at e2
     have ej:j5=j2:=by
      have h1:(leastTo q g.moves.length)[j5]=(leastTo q g.moves.length)[j2]:=by omega
      rcases Nat.lt_trichotomy j5 j2 with h|h|h
      ·have:=List.pairwise_iff_getElem.1 hasc j5 j2 j6 j3 h;omega
      ·exact h
      ·have:=List.pairwise_iff_getElem.1 hasc j2 j5 j3 j6 h;omega
     simp only [ht,Int.toNat_natCast,j1,Option.getD_some]
     rw [←mv_eta m,ha,e1,ej]
   have hfl:=hF.len
   have hto:∀(j:Nat) (hj:j<((leastTo q g.moves.length).map fun l=>tidyM ((g.moves.getD l []).map fun m=>Move.mk m.act ((fun v=>(f37 L N (intsL (leastTo q g.moves.length)) v).getD 0) (q.getD m.to.toNat 0)))).length),∀m∈((leastTo q g.moves.length).map fun l=>tidyM ((g.moves.getD l []).map fun m=>Move.mk m.act ((fun v=>(f37 L N (intsL (leastTo q g.moves.length)) v).getD 0) (q.getD m.to.toNat 0))))[j],-4≤m.act∧m.act≤4∧0≤m.to∧m.to<((leastTo q g.moves.length).length:Int):=fun j hj m hmm=>by
    obtain ⟨t,j',⟨hs,k,hk,ha,ht⟩,h2,h3,-⟩:=(hF.rows j hj m).1 hmm
    have:=hmv _ hs k hk
    omega
   have hris:∀(j:Nat) (hj:j<((leastTo q g.moves.length).map fun l=>tidyM ((g.moves.getD l []).map fun m=>Move.mk m.act ((fun v=>(f37 L N (intsL (leastTo q g.moves.length)) v).getD 0) (q.getD m.to.toNat 0)))).length),RisesM ((leastTo q g.moves.length).map fun l=>tidyM ((g.moves.getD l []).map fun m=>Move.mk m.act ((fun v=>(f37 L N (intsL (leastTo q g.moves.length)) v).getD 0) (q.getD m.to.toNat 0))))[j]:=fun j hj=>by
    rw [List.getElem_map];exact tidyM_rises _
   have hfirst:=hF.first c7 hn1
   refine ⟨pre,q,c6,c7,rfl,hF,graphOk_mk (by have:=hfirst.2.1;omega) (by omega) fun i hi=>⟨hris i hi,fun m hmm=>?_⟩,?_⟩
   ·have:=hto i hi m hmm
    unfold mvOk
    rw [dt (by omega),dt (by omega)];rfl
   ·have hrow:∀r∈((leastTo q g.moves.length).map fun l=>tidyM ((g.moves.getD l []).map fun m=>Move.mk m.act ((fun v=>(f37 L N (intsL (leastTo q g.moves.length)) v).getD 0) (q.getD m.to.toNat 0)))),r.length≤540:=fun r hr=>by
     obtain ⟨j,hj,rfl⟩:=List.mem_iff_getElem.1 hr
     exact risesM_len (hris j hj) fun m hmm=>by have:=hto j hj m hmm;omega
    have:=gsize_le hrow
    omega
end Go.Proofs.YtfdcjocallblcaaGreatDoor.Ev
namespace Go.Proofs.YtfdcjocallblcaaGreatDoor.Ev
open Go
set_option linter.unusedVariables false
set_option linter.unusedSimpArgs false
theorem whole_count {R:Type} (L N:Nat) (K:Int→Int→Bool→Int→List (List Move)→Int→Int→List Tree→List Int→List Int→List Int→Option R) (a b:Int) (c:Bool) (ms:List (List Move)) (o n':Int) (ps:List Tree) (q br wk:List Int) (hq:q.length≤60):
  ∀(n i:Nat),i≤q.length→q.length-i<n→f3.l0 L N K n a b c ((leastTo q i).length:Int) (i:Int) ms o n' ps q br wk=K a b c ((leastTo q q.length).length:Int) ms o n' ps q br wk:=by
 intro n
 induction n with
 |zero=>intro i _ h;omega
 |succ n ih=>
  intro i hi hn
  show f3.s0 L N K (f3.l0 L N K n) a b c ((leastTo q i).length:Int) (i:Int) ms o n' ps q br wk=_
  unfold f3.s0 f3.s0'
  have hl:=leastTo_len q i
  by_cases hlt:i<q.length
  ·have hs:=leastTo_succ q i
   simp only [lt_cast hlt,le0,Bool.and_true,cond_true,Int.toNat_natCast,atD]
   rw [wi_nat (by omega),wi_nat (by omega)]
   cases hc:(q.getD i 0==(i:Int)) with
   |true=>
    rw [hc,if_pos rfl] at hs
    rw [cond_true]
    have h2:=ih (i+1) (by omega) (by omega)
    rw [hs,List.length_append,List.length_singleton] at h2
    exact h2
   |false=>
    rw [hc,if_neg (by simp),List.append_nil] at hs
    rw [cond_false]
    have h2:=ih (i+1) (by omega) (by omega)
    rw [hs] at h2
    exact h2
  ·rw [ge_cast hlt,cond_false,show i=q.length by omega]
end Go.Proofs.YtfdcjocallblcaaGreatDoor.Ev
namespace Go.Proofs.YtfdcjocallblcaaGreatDoor.Ev
open Go
set_option linter.unusedVariables false
mutual
def nodes:Tree→Nat
 |.mk _ _ ps=>1+nodess ps
def nodess:List Tree→Nat
 |[]=>0
 |p::r=>nodes p+nodess r
end
mutual
def TOk:Tree→Prop
 |.mk o n ps=>(-9223372036854775808≤o∧o≤9223372036854775807)∧(-9223372036854775808≤n∧n≤9223372036854775807)∧ps.length≤maxLen∧TOks ps
def TOks:List Tree→Prop
 |[]=>True
 |p::r=>TOk p∧TOks r
end
theorem TOks_get:∀{ps:List Tree},TOks ps→∀i (h:i<ps.length),TOk ps[i]
 |[],_,i,h=>by simp at h
 |p::r,hp,0,_=>hp.1
 |p::r,hp,i+1,h=>by simpa using TOks_get hp.2 i (by simpa using h)
theorem TOks_mk:∀{ps:List Tree},(∀p∈ps,TOk p)→TOks ps
 |[],_=>trivial
 |p::r,h=>⟨h p (.head _),TOks_mk fun q hq=>h q (.tail _ hq)⟩
theorem nodes_pos (t:Tree):1≤nodes t:=by cases t;simp [nodes]
theorem nodess_len:∀ps:List Tree,ps.length≤nodess ps
 |[]=>by simp
 |p::r=>by have:=nodess_len r;have:=nodes_pos p;simp [nodess];omega
theorem nodess_drop {ps:List Tree} {i:Nat} (h:i<ps.length):nodess (ps.drop i)=nodes ps[i]+nodess (ps.drop (i+1)):=by
 rw [List.drop_eq_getElem_cons h];rfl
theorem nodess_drop_le:∀(ps:List Tree) (i:Nat),nodess (ps.drop i)≤nodess ps
 |[],i=>by simp
 |p::r,0=>by simp
 |p::r,i+1=>by have:=nodess_drop_le r i;simp [nodess];omega
theorem nodes_get {ps:List Tree} {i:Nat} (h:i<ps.length):nodes ps[i]≤nodess ps:=by
 have h1:=nodess_drop h
 have h2:=nodess_drop_le ps i
 omega
end Go.Proofs.YtfdcjocallblcaaGreatDoor.Ev
namespace Go.Proofs.YtfdcjocallblcaaGreatDoor.Ev
open Go
set_option linter.unusedVariables false
theorem fnodes_ok (L N:Nat):∀(m:Nat) (t:Tree) (most:Int),nodes t≤m→nodes t<L→nodes t≤lim→0≤most→most≤1000→
  ∃r:Int,f52 L N m t most=some r∧((nodes t:Int)≤most→r=nodes t)∧(most<(nodes t:Int)→most<r∧r≤nodes t):=by
 intro m
 induction m with
 |zero=>intro t most h;have:=nodes_pos t;omega
 |succ m ih=>
  intro t most h hL hl h0 h1
  obtain ⟨o,a,ps⟩:=t
  have hlim:lim=1099511627776:=rfl
  simp only [nodes] at h hL hl⊢
  have hll:=nodess_len ps
  show ∃r,f52.b L N _ some (Tree.mk o a ps) most=some r∧_
  unfold f52.b f52.b'
  have key:∀(n i:Nat) (k:Int),ps.length-i<n→i≤ps.length→1≤k→k≤1+nodess ps-nodess (ps.drop i)→(k≤most→k=1+nodess ps-nodess (ps.drop i))→
    ∃r:Int,f52.l0 L N (f52 L N m) (fun z=>f52.p0_e0 L N (f52 L N m) some z) (fun z z'=>f52.p0_r L N (f52 L N m) some z z') n most k ps (ps.length:Int) (i:Int)=some r∧
     (((1+nodess ps:Nat):Int)≤most→r=(1+nodess ps:Nat))∧(most<((1+nodess ps:Nat):Int)→most<r∧r≤(1+nodess ps:Nat)):=by
   intro n
   induction n with
   |zero=>intro i k h;omega
   |succ n ihn=>
    intro i k h2 hi k1 k2 k3
    have hdl:=nodess_drop_le ps i
    show ∃r,f52.s0 L N _ _ _ (f52.l0 L N _ _ _ n) most k ps (ps.length:Int) i=some r∧_
    unfold f52.s0 f52.s0'
    by_cases hlt:i<ps.length
    ·have hg:=nodes_get hlt
     have hd:=nodess_drop hlt
     simp only [lt_cast hlt,le0,cond_true,Bool.and_true,wi_nat (show i<9223372036854775807 by omega),Int.toNat_natCast,at_lt hlt]
     by_cases hk:k>most
     ·rw [dt hk,cond_true]
      exact ⟨k,rfl,by omega,by omega⟩
     ·rw [df hk,cond_false,wi_id (by omega) (by omega)]
      obtain ⟨r,hr,r1,r2⟩:=ih ps[i] (most-k) (by omega) (by omega) (by omega) (by omega) (by omega)
      have he:Tree.mk (ps[i]).op (ps[i]).n (ps[i]).parts=ps[i]:=by cases ps[i];rfl
      have hp:=nodes_pos ps[i]
      rw [he,hr]
      simp only [Option.bind_some]
      have hr0:0≤r∧r≤nodes ps[i]:=by
       by_cases hc:(nodes ps[i]:Int)≤most-k
       ·have:=r1 hc;omega
       ·have:=r2 (by omega);omega
      rw [wi_id (by omega) (by omega)]
      refine ihn (i+1) (k+r) (by omega) (by omega) (by omega) (by omega) (fun hkr=>?_)
      by_cases hc:(nodes ps[i]:Int)≤most-k
      ·have:=r1 hc;omega
      ·have:=r2 (by omega);omega
    ·simp only [ge_cast hlt,cond_false]
     have hi':i=ps.length:=by omega
     subst hi'
     rw [List.drop_length] at k2 k3 hdl
     simp only [nodess] at k2 k3
     exact ⟨k,rfl,by omega,by omega⟩
  exact key L 0 1 (by omega) (by omega) (by omega) (by simp) (by simp)
def ar (o:Int):Nat:=if o=1∨o=3 then 1 else if o=2 then 2 else 0
def good1 (o n:Int) (k:Nat):Bool:=decide (0≤o∧o≤3∧k=ar o∧(o=3∨n=0)∧-4≤n∧n≤4)
mutual
def shape:Tree→Bool
 |.mk o n ps=>good1 o n ps.length&&shapes ps
def shapes:List Tree→Bool
 |[]=>true
 |p::r=>shape p&&shapes r
end
theorem shapes_drop {ps:List Tree} {i:Nat} (h:i<ps.length):shapes (ps.drop i)=(shape ps[i]&&shapes (ps.drop (i+1))):=by
 rw [List.drop_eq_getElem_cons h];rfl
theorem shape_ok (L N:Nat):∀(m:Nat) (t:Tree),nodes t≤m→nodes t<L→TOk t→f59 L N m t=some (shape t):=by
 intro m
 induction m with
 |zero=>intro t h;have:=nodes_pos t;omega
 |succ m ih=>
  intro t h hL ht
  obtain ⟨o,a,ps⟩:=t
  have hml:maxLen=9223372036854775807:=rfl
  have hlen:=ht.2.2.1
  simp only [nodes] at h hL
  have hll:=nodess_len ps
  have key:∀(n i:Nat),ps.length-i<n→i≤ps.length→
    f59.l0 L N (f59 L N m) (f59.p0_e1 L N (f59 L N m) some) (fun z=>f59.p0_r L N (f59 L N m) some z) n ps (ps.length:Int) (i:Int)=some (shapes (ps.drop i)):=by
   intro n
   induction n with
   |zero=>intro i h;omega
   |succ n ihn=>
    intro i h2 hi
    show f59.s0 L N _ _ _ (f59.l0 L N _ _ _ n) ps (ps.length:Int) i=_
    unfold f59.s0 f59.s0'
    by_cases hlt:i<ps.length
    ·have hg:=nodes_get hlt
     simp only [lt_cast hlt,le0,cond_true,Bool.and_true,wi_nat (show i<9223372036854775807 by omega),Int.toNat_natCast,at_lt hlt]
     have he:Tree.mk (ps[i]).op (ps[i]).n (ps[i]).parts=ps[i]:=by cases ps[i];rfl
     rw [he,ih ps[i] (by omega) (by omega) (TOks_get ht.2.2.2 i hlt),shapes_drop hlt]
     simp only [Option.bind_some]
     cases shape ps[i]
     ·rfl
     ·simp only [Bool.not_true,cond_false,Bool.true_and]
      exact ihn (i+1) (by omega) (by omega)
    ·simp only [ge_cast hlt,cond_false]
     have hi':i=ps.length:=by omega
     subst hi'
     rw [List.drop_length];rfl
  have j0:∀v v',f59.j0' L N (f59 L N m) some (fun s13 s14 s15=>f59.l0 L N (f59 L N m) (f59.p0_e1 L N (f59 L N m) some) (fun z17=>f59.p0_r L N (f59 L N m) some z17) L s13 s14 s15) v v' ps=some (shapes ps):=fun v v'=>(key L 0 (by omega) (by omega)).trans (by rw [List.drop_zero])
  have j1:∀(kI:Int) (k:Nat),kI=(k:Int)→f59.j1' L N (f59 L N m) some (fun s13 s14 s15=>f59.l0 L N (f59 L N m) (f59.p0_e1 L N (f59 L N m) some) (fun z17=>f59.p0_r L N (f59 L N m) some z17) L s13 s14 s15) kI o a ps=some (decide (ps.length=k∧(o=3∨a=0)∧-4≤a∧a≤4)&&shapes ps):=by
   intro kI k hkI
   subst hkI
   unfold f59.j1'
   simp only [j0,act1_ok,Option.bind_some]
   by_cases h1:ps.length=k
   ·by_cases h2:o=3
    ·by_cases h3:-4≤a∧a≤4
     ·simp [h1,h2,h3]
     ·simp [h1,h2,h3]
    ·by_cases h4:a=0
     ·simp [h1,h2,h4]
     ·have e1:(o !=3)=true:=by simpa using h2
      have e2:(a !=0)=true:=by simpa using h4
      simp [h1,h2,h4,e1,e2]
   ·have:((ps.length:Int) !=(k:Int))=true:=by simp;omega
    rw [this];simp [h1]
  show f59.b L N _ some (Tree.mk o a ps)=_
  unfold f59.b f59.b'
  simp only [shape,Tree.op,Tree.n,Tree.parts]
  have k0:=j1 0 0 rfl
  have k1:=j1 1 1 rfl
  have k2:=j1 2 2 rfl
  unfold good1 ar
  by_cases o0:o=0
  ·subst o0;simp only [beq_self_eq_true,cond_true];rw [k0];simp
  ·by_cases o1:o=1
   ·subst o1;simp only [beq_self_eq_true,cond_true,show ((1:Int)==0)=false from rfl,cond_false];rw [k1];simp
   ·by_cases o2:o=2
    ·subst o2;simp only [beq_self_eq_true,cond_true,show ((2:Int)==0)=false from rfl,show ((2:Int)==1)=false from rfl,cond_false];rw [k2];simp
    ·by_cases o3:o=3
     ·subst o3;simp only [beq_self_eq_true,cond_true,show ((3:Int)==0)=false from rfl,show ((3:Int)==1)=false from rfl,show ((3:Int)==2)=false from rfl,cond_false];rw [k1];simp
     ·have b0:(o==0)=false:=by simpa using o0
      have b1:(o==1)=false:=by simpa using o1
      have b2:(o==2)=false:=by simpa using o2
      have b3:(o==3)=false:=by simpa using o3
      simp only [b0,b1,b2,b3,cond_false]
      rw [df (by omega)];rfl
theorem formOk_ok (L N:Nat) (t:Tree) (hN:nodes t≤N) (hL:nodes t<L) (hl:nodes t≤lim) (ht:TOk t):f39 L N t=some (decide (nodes t≤60)&&shape t):=by
 show f39.b L N some t=_
 unfold f39.b f39.b'
 rw [mk_eta]
 obtain ⟨r,hr,r1,r2⟩:=fnodes_ok L N N t 60 hN hL hl (by omega) (by omega)
 rw [hr]
 simp only [Option.bind_some]
 by_cases h:nodes t≤60
 ·rw [dt (show r≤60 by have:=r1 (by omega);omega),cond_true,shape_ok L N N t hN hL ht,dt h];rfl
 ·rw [df (show ¬r≤60 by have:=r2 (by omega);omega),cond_false,df h];rfl
end Go.Proofs.YtfdcjocallblcaaGreatDoor.Ev
namespace Go.Proofs.YtfdcjocallblcaaGreatDoor.Ev
open Go
set_option linter.unusedVariables false
set_option linter.unusedSimpArgs false
def mayP (a:Int) (q:List Bool) (m:Move):Bool:=m.act==a&&q.getD m.to.toNat false
def combAt (ms:List (List Move)) (o a:Int) (qs:List (List Bool)) (s:Nat):Bool:=
 if o=0 then true else if o=1 then !((qs.getD 0 []).getD s false) else if o=2 then (qs.getD 0 []).getD s false&&(qs.getD 1 []).getD s false else (ms.getD s []).any (mayP a (qs.getD 0 []))
def comb (ms:List (List Move)) (o a:Int) (qs:List (List Bool)):List Bool:=(List.range ms.length).map (combAt ms o a qs)
theorem comb_len (ms:List (List Move)) (o a:Int) (qs:List (List Bool)):(comb ms o a qs).length=ms.length:=by simp [comb]
mutual
def fw (ms:List (List Move)):Tree→List Bool
 |.mk o a ps=>comb ms o a (fws ms ps)
def fws (ms:List (List Move)):List Tree→List (List Bool)
 |[]=>[]
 |p::r=>fw ms p::fws ms r
end
theorem fw_len (ms:List (List Move)) (t:Tree):(fw ms t).length=ms.length:=by obtain ⟨o,a,ps⟩:=t;exact comb_len _ _ _ _
theorem fws_eq (ms:List (List Move)):∀ps:List Tree,fws ms ps=ps.map (fw ms)
 |[]=>rfl
 |p::r=>by simp [fws,fws_eq ms r]
theorem getD_set_self {α:Type} {l:List α} {i:Nat} {a d:α} (h:i<l.length):(l.set i a).getD i d=a:=by
 rw [List.getD_eq_getElem?_getD,List.getElem?_set_self h];rfl
theorem getD_set_ne {α:Type} {l:List α} {i j:Nat} {a d:α} (h:i≠j):(l.set i a).getD j d=l.getD j d:=by
 rw [List.getD_eq_getElem?_getD,List.getElem?_set_ne h,←List.getD_eq_getElem?_getD]
theorem set_set_same {α:Type} {l:List α} {i:Nat} {a b:α}:(l.set i a).set i b=l.set i b:=List.set_set ..
theorem set_getD {l:List Bool} {i:Nat} (h:i<l.length):l.set i (l.getD i false)=l:=by
 rw [getD_lt h];exact List.set_getElem_self h
theorem any_take {α:Type} {p:α→Bool} {r:List α} {i:Nat} (h:i<r.length):(r.take (i+1)).any p=((r.take i).any p||p r[i]):=by
 rw [List.take_succ_eq_append_getElem h,List.any_append];simp
theorem fill_step {ys c:List Bool} {s:Nat} (hy:ys.length=c.length) (hs:s<c.length) (ht:ys.take s=c.take s):(ys.set s c[s]).take (s+1)=c.take (s+1):=take_set hs hy ht
theorem may1 (L N:Nat) {R:Type} (self:Graph→Tree→Option (List Bool)) (K:Int→Int→List (List Move)→Int→Int→List Tree→List Bool→List (List Bool)→Option R) (ms:List (List Move)) (row:List Move) (s:Nat) (s26 o a:Int) (ps:List Tree) (qs:List (List Bool)) (out:List Bool)
  (hs:s<out.length) (hq:0<qs.length) (hto:∀(k:Nat) (hk:k<row.length),0≤row[k].to∧row[k].to<((qs.getD 0 []).length:Int)) (hrow:row.length≤1048576):
  ∀(n i:Nat) (b:Bool),i≤row.length→row.length-i<n→b=(row.take i).any (mayP a (qs.getD 0 []))→
   f40.l2 L N self K n (s:Int) s26 (s:Int) row (row.length:Int) (i:Int) ms o a ps (out.set s b) qs=K s26 (s:Int) ms o a ps (out.set s (row.any (mayP a (qs.getD 0 [])))) qs:=by
 intro n
 induction n with
 |zero=>intro i b _ h;omega
 |succ n ih=>
  intro i b hi hn hb
  show f40.s2 L N self K (f40.l2 L N self K n) (s:Int) s26 (s:Int) row (row.length:Int) (i:Int) ms o a ps (out.set s b) qs=_
  unfold f40.s2 f40.s2'
  by_cases hlt:i<row.length
  ·obtain ⟨h0,h1⟩:=hto i hlt
   obtain ⟨t,ht⟩:=Int.eq_ofNat_of_zero_le h0
   have htl:t<(qs.getD 0 []).length:=by omega
   have step:=any_take (p:=mayP a (qs.getD 0 [])) hlt
   simp only [lt_cast hlt,le0,Bool.and_true,Bool.true_and,cond_true,Int.toNat_natCast,List.length_set,lt_cast hs,at_lt hlt,atD,getD_set_self hs,set_set_same,ht,wi_nat (show i<9223372036854775807 by omega)]
   rw [dt (show (0:Int)≤0 by omega),dt (show (0:Int)<(qs.length:Int) by omega)]
   simp only [Bool.and_true,cond_true,Int.toNat_zero,lt_cast htl]
   cases hbb:b
   ·simp only [cond_false]
    cases hac:(row[i].act==a)
    ·simp only [cond_false]
     refine ih (i+1) false (by omega) (by omega) ?_
     rw [step,←hb,hbb]
     simp [mayP,hac]
    ·simp only [cond_true]
     refine ih (i+1) _ (by omega) (by omega) ?_
     rw [step,←hb,hbb]
     simp only [mayP,hac,ht,Int.toNat_natCast,Bool.true_and,Bool.false_or]
   ·simp only [cond_true]
    refine ih (i+1) true (by omega) (by omega) ?_
    rw [step,←hb,hbb];rfl
  ·simp only [ge_cast hlt,cond_false]
   have hi':i=row.length:=by omega
   subst hi'
   rw [List.take_length] at hb
   rw [hb]
theorem good1_op {o n:Int} {k:Nat} (h:good1 o n k=true):(o=0∧k=0)∨(o=1∧k=1)∨(o=2∧k=2)∨(o=3∧k=1):=by
 unfold good1 ar at h
 have h:=of_decide_eq_true h
 obtain ⟨h1,h2,h3,-⟩:=h
 have:o=0∨o=1∨o=2∨o=3:=by omega
 rcases this with rfl|rfl|rfl|rfl<;>simp_all
theorem formIn_ok (L N:Nat) (ms:List (List Move)) (hm:Leads ms) (hL:1048576<L):∀(m:Nat) (t:Tree),nodes t≤m→nodes t≤1048577→shape t=true→f40 L N m ⟨ms⟩ t=some (fw ms t):=by
 have hlim:=lim_eq
 have hn:=hm.1
 intro m
 induction m with
 |zero=>intro t h;have:=nodes_pos t;omega
 |succ m ih=>
  intro t h hsz hsh
  obtain ⟨o,a,ps⟩:=t
  simp only [nodes] at h hsz
  have hll:=nodess_len ps
  have hsh:(good1 o a ps.length&&shapes ps)=true:=hsh
  rw [Bool.and_eq_true] at hsh
  obtain ⟨hg,hsp⟩:=hsh
  show f40.b L N (f40 L N m) some ⟨ms⟩ (Tree.mk o a ps)=_
  unfold f40.b f40.b'
  refine (bif_t2 (by omega) (by show (ms.length:Int)≤_;omega)).trans ?_
  have parts:∀{R:Type} (K:List (List Move)→Int→Int→List Tree→List Bool→List (List Bool)→Option R) (out:List Bool) (n i:Nat) (qs:List (List Bool)),i≤ps.length→ps.length-i<n→qs=fws ms (ps.take i)→
    f40.l0 L N (f40 L N m) K n ps (ps.length:Int) (i:Int) ms o a ps out qs=K ms o a ps out (fws ms ps):=by
   intro R K out n
   induction n with
   |zero=>intro i qs _ h;omega
   |succ n ihn=>
    intro i qs hi hin hq
    show f40.s0 L N _ K (f40.l0 L N _ K n) ps (ps.length:Int) (i:Int) ms o a ps out qs=_
    unfold f40.s0 f40.s0'
    by_cases hlt:i<ps.length
    ·have hgn:=nodes_get hlt
     have hsi:shape ps[i]=true:=by
      have:=shapes_drop hlt
      have h2:∀(l:List Tree) (j:Nat),shapes l=true→shapes (l.drop j)=true:=fun l=>by
       induction l with
       |nil=>intro j h;simpa using h
       |cons p r ihl=>
        intro j h
        cases j with
        |zero=>exact h
        |succ j=>exact ihl j (by have h:(shape p&&shapes r)=true:=h;rw [Bool.and_eq_true] at h;exact h.2)
      rw [h2 ps i hsp] at this
      exact (Bool.and_eq_true _ _▸this.symm).1
     have hlq:qs.length=i:=by rw [hq,fws_eq];simp;omega
     have hle:decide (qs.length+([fw ms ps[i]]:List (List Bool)).length≤lim)=true:=dt (by simp only [List.length_cons,List.length_nil];omega)
     simp only [lt_cast hlt,le0,Bool.and_true,cond_true,Int.toNat_natCast,at_lt hlt,mk_eta,ih ps[i] (by omega) (by omega) hsi,Option.bind_some,hle,wi_nat (show i<9223372036854775807 by omega)]
     refine ihn (i+1) _ (by omega) (by omega) ?_
     rw [hq,fws_eq,fws_eq,List.take_succ_eq_append_getElem hlt,List.map_append];rfl
    ·simp only [ge_cast hlt,cond_false]
     have hi':i=ps.length:=by omega
     subst hi'
     rw [hq,List.take_length]
  refine (parts _ _ L 0 [] (by omega) (by omega) rfl).trans ?_
  have e0:((ms.length:Int)).toNat=ms.length:=rfl
  rw [e0]
  generalize hqs:fws ms ps=qs
  have hql:qs.length=ps.length:=by rw [←hqs,fws_eq,List.length_map]
  have hqi:∀j,j<ps.length→(qs.getD j []).length=ms.length:=fun j hj=>by
   rw [←hqs,fws_eq,List.getD_eq_getElem?_getD,List.getElem?_map,List.getElem?_eq_getElem hj]
   exact fw_len _ _
  show f40.p0_e0 L N (f40 L N m) some ms o a ps (List.replicate ms.length false) qs=some (fw ms (Tree.mk o a ps))
  have hfw:fw ms (Tree.mk o a ps)=comb ms o a qs:=by rw [←hqs];rfl
  rw [hfw]
  unfold f40.p0_e0 f40.p0_e0'
  have hcl:=comb_len ms o a qs
  have key:∀(n s:Nat) (out:List Bool),out.length=ms.length→s≤ms.length→ms.length-s<n→out.take s=(comb ms o a qs).take s→(∀j,s≤j→out.getD j false=false)→
    f40.l1 L N (f40 L N m) (fun z24=>f40.p1_e2 L N (f40 L N m) some z24) n (ms.length:Int) (s:Int) ms o a ps out qs=some (comb ms o a qs):=by
   intro n
   induction n with
   |zero=>intro s out _ _ h;omega
   |succ n ihn=>
    intro s out hol hs hsn ht hf
    show f40.s1 L N _ _ (f40.l1 L N _ _ n) (ms.length:Int) (s:Int) ms o a ps out qs=_
    unfold f40.s1 f40.s1'
    by_cases hlt:s<ms.length
    ·have hso:s<out.length:=by omega
     have hcs:s<(comb ms o a qs).length:=by omega
     have hce:(comb ms o a qs)[s]=combAt ms o a qs s:=by simp [comb]
     have go:∀b,b=combAt ms o a qs s→f40.l1 L N (f40 L N m) (fun z24=>f40.p1_e2 L N (f40 L N m) some z24) n (ms.length:Int) ((s+1:Nat):Int) ms o a ps (out.set s b) qs=some (comb ms o a qs):=by
      intro b hb
      refine ihn (s+1) _ (by simp [hol]) (by omega) (by omega) ?_ fun j hj=>?_
      ·rw [hb,←hce];exact fill_step (by omega) hcs ht
      ·rw [getD_set_ne (by omega)];exact hf j (by omega)
     rcases good1_op hg with ⟨rfl,hk⟩|⟨rfl,hk⟩|⟨rfl,hk⟩|⟨rfl,hk⟩
     ·simp only [lt_cast hlt,cond_true,show ((0:Int)==0)=true from rfl,le0,lt_cast hso,Bool.and_true,Int.toNat_natCast,wi_nat (show s<9223372036854775807 by omega)]
      exact go true rfl
     ·have h0:=hqi 0 (by omega)
      simp only [lt_cast hlt,cond_true,cond_false,show ((1:Int)==0)=false from rfl,show ((1:Int)==1)=true from rfl,le0,lt_cast hso,Bool.and_true,Int.toNat_natCast,wi_nat (show s<9223372036854775807 by omega),Int.toNat_zero,atD,h0,
       dt (show (0:Int)≤0 by omega),dt (show (0:Int)<(qs.length:Int) by omega)]
      exact go _ rfl
     ·have h0:=hqi 0 (by omega)
      have h1:=hqi 1 (by omega)
      simp only [lt_cast hlt,cond_true,cond_false,show ((2:Int)==0)=false from rfl,show ((2:Int)==1)=false from rfl,show ((2:Int)==2)=true from rfl,le0,lt_cast hso,Bool.and_true,Int.toNat_natCast,wi_nat (show s<9223372036854775807 by omega),Int.toNat_zero,show ((1:Int)).toNat=1 from rfl,atD,h0,h1,
       dt (show (0:Int)≤0 by omega),dt (show (0:Int)≤1 by omega),dt (show (0:Int)<(qs.length:Int) by omega),dt (show (1:Int)<(qs.length:Int) by omega)]
      cases hb0:(qs.getD 0 []).getD s false
      ·simp only [cond_false]
       exact go false (by show false=((qs.getD 0 []).getD s false&&(qs.getD 1 []).getD s false);rw [hb0];rfl)
      ·simp only [cond_true]
       exact go _ (by show _=((qs.getD 0 []).getD s false&&(qs.getD 1 []).getD s false);rw [hb0];rfl)
     ·have h0:=hqi 0 (by omega)
      simp only [lt_cast hlt,cond_true,cond_false,show ((3:Int)==0)=false from rfl,show ((3:Int)==1)=false from rfl,show ((3:Int)==2)=false from rfl,le0,Bool.and_true,Int.toNat_natCast,at_lt hlt]
      have hset:out=out.set s false:=by
       have:=set_getD hso
       rw [hf s (Nat.le_refl _)] at this
       exact this.symm
      have hstep:=may1 L N (f40 L N m) (fun z37 z38 z39 z40 z41 z42 z43 z44=>f40.p2_e5 L N (f40 L N m) (fun z24=>f40.p1_e2 L N (f40 L N m) some z24) (f40.l1 L N (f40 L N m) (fun z24=>f40.p1_e2 L N (f40 L N m) some z24) n) z37 z38 z39 z40 z41 z42 z43 z44) ms ms[s] s (ms.length:Int) 3 a ps qs out hso (by omega)
       (fun k hk'=>by rw [h0];exact (hm.2 s hlt).2 k hk') (hm.2 s hlt).1 L 0 false (by omega) (by have:=(hm.2 s hlt).1;omega) rfl
      rw [←hset] at hstep
      refine hstep.trans ?_
      show f40.l1 L N (f40 L N m) _ n (ms.length:Int) (wi ((s:Int)+1)) ms 3 a ps _ qs=_
      rw [wi_nat (by omega)]
      refine go _ ?_
      show _=(ms.getD s []).any (mayP a (qs.getD 0 []))
      rw [getD_lt hlt]
    ·simp only [ge_cast hlt,cond_false]
     have hs':s=ms.length:=by omega
     subst hs'
     rw [List.take_of_length_le (by omega),List.take_of_length_le (by omega)] at ht
     rw [ht];rfl
  simp only [List.length_replicate]
  exact key L 0 _ (by simp) (by omega) (by omega) rfl fun j _=>by
   rw [List.getD_eq_getElem?_getD,List.getElem?_replicate];split<;>rfl
end Go.Proofs.YtfdcjocallblcaaGreatDoor.Ev
namespace Go.Proofs.YtfdcjocallblcaaGreatDoor.Ev
open Go
set_option linter.unusedVariables false
set_option linter.unusedSimpArgs false
theorem fcases {o n:Int} {ps:List Tree} (h:shape (.mk o n ps)=true):(o=0∧ps=[])∨(o=1∧∃a,ps=[a]∧shape a=true)∨(o=2∧∃a b,ps=[a,b]∧shape a=true∧shape b=true)∨(o=3∧-4≤n∧n≤4∧∃a,ps=[a]∧shape a=true):=by
 simp only [shape,good1,Bool.and_eq_true,decide_eq_true_eq] at h
 obtain ⟨⟨h0,h1,h2,h3,h4,h5⟩,h6⟩:=h
 rcases (show o=0∨o=1∨o=2∨o=3 by omega) with rfl|rfl|rfl|rfl
 ·left;exact ⟨rfl,List.eq_nil_of_length_eq_zero h2⟩
 ·right;left
  match ps,h2,h6 with
  |[a],_,h6=>simp only [shapes,Bool.and_true] at h6;exact ⟨rfl,a,rfl,h6⟩
 ·right;right;left
  match ps,h2,h6 with
  |[a,b],_,h6=>simp only [shapes,Bool.and_true,Bool.and_eq_true] at h6;exact ⟨rfl,a,b,rfl,h6.1,h6.2⟩
 ·right;right;right
  match ps,h2,h6 with
  |[a],_,h6=>simp only [shapes,Bool.and_true] at h6;exact ⟨rfl,h4,h5,a,rfl,h6⟩
def hold (ms:List (List Move)) (f:Tree) (s:Nat):Bool:=(fw ms f).getD s false
theorem comb_at (ms:List (List Move)) (o a:Int) (qs:List (List Bool)) {s:Nat} (hs:s<ms.length):(comb ms o a qs).getD s false=combAt ms o a qs s:=by
 unfold comb
 rw [getD_lt (by simpa using hs),List.getElem_map,List.getElem_range]
theorem hold_true (ms:List (List Move)) (a:Int) (ps:List Tree) {s:Nat} (hs:s<ms.length):hold ms (.mk 0 a ps) s=true:=by
 unfold hold;rw [fw,comb_at _ _ _ _ hs];rfl
theorem hold_not (ms:List (List Move)) (a:Int) (p:Tree) {s:Nat} (hs:s<ms.length):hold ms (.mk 1 a [p]) s=!hold ms p s:=by
 unfold hold;rw [fw,comb_at _ _ _ _ hs];rfl
theorem hold_and (ms:List (List Move)) (a:Int) (p q:Tree) {s:Nat} (hs:s<ms.length):hold ms (.mk 2 a [p,q]) s=(hold ms p s&&hold ms q s):=by
 unfold hold;rw [fw,comb_at _ _ _ _ hs];rfl
theorem hold_may (ms:List (List Move)) (a:Int) (p:Tree) {s:Nat} (hs:s<ms.length):hold ms (.mk 3 a [p]) s=(ms[s]).any fun m=>m.act==a&&hold ms p m.to.toNat:=by
 have h:hold ms (.mk 3 a [p]) s=(ms.getD s []).any (mayP a (fw ms p)):=by unfold hold;rw [fw,comb_at _ _ _ _ hs];rfl
 rw [h,getD_lt hs];rfl
end Go.Proofs.YtfdcjocallblcaaGreatDoor.Ev
