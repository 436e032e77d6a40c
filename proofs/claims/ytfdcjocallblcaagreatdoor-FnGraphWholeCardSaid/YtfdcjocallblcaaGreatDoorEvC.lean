/- One operation of the evaluator stands for the machine's. Condition: what functions tell (Φ) is sound. -/
import Derived.Test.YtfdcjocallblcaaGreatDoorEvB
import Derived.Laws.MakeOwn
import Derived.WalkKit
namespace Go.Proofs.YtfdcjocallblcaaGreatDoor.Ev
open Go
def pk (v:AV) (u:Upd) (k:List Nat):Option (AV×Upd×List Nat):=some (v,u,k)
def un {R:Type} (κ:Kv R) (p:AV×Upd×List Nat):Option R:=κ p.1 p.2.1 p.2.2
section
variable (E : Env) {R : Type} (κ : Kv R)
theorem pure1_bind (x:Option AV):pure1 x κ=(pure1 x pk).bind (un κ):=by cases x<;>rfl
theorem on1_bind {f:AV→Option R} {g:AV→Option (AV×Upd×List Nat)} (h:∀x,f x=(g x).bind (un κ)) (vs:List AV):on1 vs f=(on1 vs g).bind (un κ):=by
 unfold on1;split<;>first|exact h _|rfl
theorem on2_bind {f:AV→AV→Option R} {g:AV→AV→Option (AV×Upd×List Nat)} (h:∀x y,f x y=(g x y).bind (un κ)) (vs:List AV):on2 vs f=(on2 vs g).bind (un κ):=by
 unfold on2;split<;>first|exact h _ _|rfl
theorem on3_bind {f:AV→AV→AV→Option R} {g:AV→AV→AV→Option (AV×Upd×List Nat)} (h:∀x y z,f x y z=(g x y z).bind (un κ)) (vs:List AV):on3 vs f=(on3 vs g).bind (un κ):=by
 unfold on3;split<;>first|exact h _ _ _|rfl
theorem on0_bind {f:Option R} {g:Option (AV×Upd×List Nat)} (h:f=g.bind (un κ)) (vs:List AV):on0 vs f=(on0 vs g).bind (un κ):=by
 unfold on0;split<;>first|exact h|rfl
theorem cond_bind (c:Bool) {a b:Option R} {a' b':Option (AV×Upd×List Nat)} (h1:a=a'.bind (un κ)) (h2:b=b'.bind (un κ)):(bif c then a else b)=(bif c then a' else b').bind (un κ):=by
 cases c<;>assumption
theorem intBin_bind (op:BinOp) (k:IntKind) (a b:Int):intBin op k a b κ=(intBin op k a b pk).bind (un κ):=by
 cases op<;>simp only [intBin]<;>first|rfl|exact cond_bind κ _ rfl rfl
theorem strBin_bind (op:BinOp) (a b:ByteArray):strBin op a b κ=(strBin op a b pk).bind (un κ):=by
 cases op<;>simp only [strBin]<;>first|rfl|exact cond_bind κ _ rfl rfl
theorem evBin_bind (op:BinOp) (t:TypeId) (x y:AV):evBin E op t x y κ=(evBin E op t x y pk).bind (un κ):=by
 unfold evBin
 (repeat' split)<;>first|rfl|(refine cond_bind κ _ ?_ rfl;(repeat' split)<;>rfl)|exact cond_bind κ _ (intBin_bind κ _ _ _ _) rfl|exact strBin_bind κ _ _ _
theorem evPick_bind (x y z:AV):evPick x y z κ=(evPick x y z pk).bind (un κ):=by
 unfold evPick;split<;>first|rfl|exact cond_bind κ _ rfl rfl
theorem evLoadD_bind (t:TypeId) (site ob i off m:Nat) (k:Ty) (xs:List k.den):evLoadD E t site ob i off m k xs κ=(evLoadD E t site ob i off m k xs pk).bind (un κ):=by
 unfold evLoadD
 split
 ·split
  ·rfl
  ·exact cond_bind κ _ rfl rfl
  ·rfl
 ·rfl
theorem evLoadB_bind (t:TypeId) (cs:List AV) (off:Nat):evLoadB E t cs off κ=(evLoadB E t cs off pk).bind (un κ):=by
 unfold evLoadB
 split
 ·split
  ·exact cond_bind κ _ rfl rfl
  ·exact cond_bind κ _ (cond_bind κ _ rfl rfl) rfl
 ·exact pure1_bind κ _
theorem evIndexArr_bind (t:TypeId) (vw:View) (x i:AV):evIndexArr E t vw x i κ=(evIndexArr E t vw x i pk).bind (un κ):=by
 unfold evIndexArr
 split
 ·refine cond_bind κ _ ?_ rfl
  split
  ·split
   ·split
    ·exact cond_bind κ _ rfl rfl
    ·rfl
   ·rfl
  ·rfl
 ·rfl
theorem evIndex_bind (t:TypeId) (x i:AV):evIndex E t x i κ=(evIndex E t x i pk).bind (un κ):=by
 unfold evIndex
 split
 ·refine cond_bind κ _ ?_ rfl
  split
  ·split
   ·split
    ·exact cond_bind κ _ (cond_bind κ _ rfl rfl) rfl
    ·rfl
   ·rfl
  ·rfl
 ·rfl
theorem evLoad_bind (t:TypeId) (site:Nat) (vw:View) (x:AV):evLoad E t site vw x κ=(evLoad E t site vw x pk).bind (un κ):=by
 unfold evLoad
 split
 ·split
  ·exact evLoadB_bind E κ _ _ _
  ·exact pure1_bind κ _
  ·rfl
 ·split
  ·exact pure1_bind κ _
  ·exact evLoadD_bind E κ _ _ _ _ _ _ _ _
  ·rfl
 ·exact pure1_bind κ _
 ·exact pure1_bind κ _
 ·rfl
theorem evIndexAddr_bind (t:TypeId) (vw:View) (x i:AV):evIndexAddr E t vw x i κ=(evIndexAddr E t vw x i pk).bind (un κ):=by
 unfold evIndexAddr
 split
 ·refine cond_bind κ _ ?_ rfl
  split
  ·split
   ·split
    ·exact cond_bind κ _ rfl rfl
    ·rfl
   ·split
    ·exact cond_bind κ _ (cond_bind κ _ rfl rfl) rfl
    ·split
     ·exact cond_bind κ _ rfl rfl
     ·rfl
    ·exact cond_bind κ _ (cond_bind κ _ rfl rfl) rfl
    ·rfl
   ·rfl
  ·rfl
 ·exact evIndexArr_bind E κ _ _ _ _
theorem evStoreP_bind (t:TypeId) (ob i off el:Nat) (k:Ty) (xs:List k.den) (v:AV):evStoreP E t ob i off el k xs v κ=(evStoreP E t ob i off el k xs v pk).bind (un κ):=by
 unfold evStoreP
 split
 ·refine cond_bind κ _ ?_ rfl
  split<;>rfl
 ·rfl
theorem evStoreD_bind (t:TypeId) (vw:View) (ob i off m:Nat) (k:Ty) (xs:List k.den) (hole:Option (Nat×Nat×AV)) (v:AV):evStoreD E t vw ob i off m k xs hole v κ=(evStoreD E t vw ob i off m k xs hole v pk).bind (un κ):=by
 unfold evStoreD
 split
 ·split
  ·refine cond_bind κ _ ?_ rfl
   split<;>rfl
  ·rfl
 ·rfl
theorem evStore_bind (t:TypeId) (vw:View) (a v:AV):evStore E t vw a v κ=(evStore E t vw a v pk).bind (un κ):=by
 unfold evStore
 split
 ·split
  ·split
   ·exact cond_bind κ _ rfl rfl
   ·split
    ·exact cond_bind κ _ rfl rfl
    ·rfl
  ·rfl
 ·split
  ·split
   ·refine cond_bind κ _ ?_ (evStoreP_bind E κ _ _ _ _ _ _ _ _)
    split
    ·rename_i u _;cases (List.any u _)<;>rfl
    ·rfl
   ·rfl
  ·exact evStoreD_bind E κ _ _ _ _ _ _ _ _ _ _
  ·rfl
 ·rfl
theorem evBuildSlice_bind (t:TypeId) (n:Nat) (is:List Nat) (site:Nat) (vw:View) (vs:List AV):evBuildSlice E t n is site vw vs κ=(evBuildSlice E t n is site vw vs pk).bind (un κ):=by
 unfold evBuildSlice
 split
 ·refine cond_bind κ _ ?_ rfl
  split
  ·unfold evBuildSliceD;split<;>rfl
  ·split<;>rfl
 ·rfl
theorem evMake_bind (t:TypeId) (l c:Operand) (site:Nat) (n:AV):evMake E t l c site n κ=(evMake E t l c site n pk).bind (un κ):=by
 unfold evMake
 split
 ·refine cond_bind κ _ ?_ rfl
  split
  ·refine cond_bind κ _ ?_ rfl
   split<;>rfl
  ·rfl
 ·rfl
theorem evAppendD_bind (o m:Nat) (k:Ty) (vw:View) (xs:List k.den) (x:AV):evAppendD o m k vw xs x κ=(evAppendD o m k vw xs x pk).bind (un κ):=by
 unfold evAppendD
 split
 ·exact cond_bind κ _ rfl rfl
 ·rfl
theorem evAppendR_bind (t:TypeId) (site:Nat) (k:Ty) (vw:View) (s:AV) (ys:List k.den):evAppendR E t site k vw s ys κ=(evAppendR E t site k vw s ys pk).bind (un κ):=by
 unfold evAppendR
 split
 ·exact cond_bind κ _ rfl rfl
 ·split
  ·split
   ·exact cond_bind κ _ (cond_bind κ _ (cond_bind κ _ rfl rfl) rfl) rfl
   ·rfl
  ·rfl
 ·rfl
theorem evAppend_bind (t t':TypeId) (site:Nat) (vw:View) (s x:AV):evAppend E t t' site vw s x κ=(evAppend E t t' site vw s x pk).bind (un κ):=by
 unfold evAppend
 split
 ·refine cond_bind κ _ ?_ rfl
  split
  ·exact evAppendD_bind κ _ _ _ _ _ _
  ·split
   ·exact evAppendR_bind E κ _ _ _ _ _ _
   ·rfl
 ·rfl
theorem evCall_bind (site:Nat) (vw:View) (f:AV) (args:List AV):evCall E site vw f args κ=(evCall E site vw f args pk).bind (un κ):=by
 unfold evCall
 split
 ·simp only [Option.bind_assoc];rfl
 ·rfl
theorem evLenD_bind (vw:View) (x:AV):evLenD vw x κ=(evLenD vw x pk).bind (un κ):=by
 unfold evLenD
 split
 ·split<;>rfl
 ·rfl
theorem evLen_bind (t:TypeId) (vw:View) (x:AV):evLen E t vw x κ=(evLen E t vw x pk).bind (un κ):=by
 unfold evLen
 split
 ·split<;>rfl
 ·split<;>rfl
 ·split
  ·split
   ·rfl
   ·exact evLenD_bind κ _ _
  ·rfl
theorem evBuiltin_bind (b:Builtin) (ts:List TypeId) (site:Nat) (vw:View) (vs:List AV):evBuiltin E b ts site vw vs κ=(evBuiltin E b ts site vw vs pk).bind (un κ):=by
 unfold evBuiltin
 (repeat' split)<;>first
  |rfl
  |(refine on1_bind κ (fun x=>?_) _;exact evLen_bind E κ _ _ _)
  |(refine on2_bind κ (fun x y=>?_) _;exact evAppend_bind E κ _ _ _ _ _ _)
  |(refine on2_bind κ (fun x y=>?_) _;unfold evMin;(repeat' split)<;>first|rfl|exact cond_bind κ _ rfl rfl)
  |(refine on2_bind κ (fun x y=>?_) _;unfold evMax;(repeat' split)<;>first|rfl|exact cond_bind κ _ rfl rfl)
theorem evSliceB_bind (t:TypeId) (vw:View) (x:AV) (lo hi:Option Int):evSliceB E t vw x lo hi κ=(evSliceB E t vw x lo hi pk).bind (un κ):=by
 unfold evSliceB
 split
 ·exact cond_bind κ _ rfl rfl
 ·split
  ·refine cond_bind κ _ ?_ rfl
   split
   ·exact cond_bind κ _ rfl rfl
   ·rfl
  ·rfl
theorem evSlice_bind (t:TypeId) (bl bh:Bool) (vw:View) (vs:List AV):evSlice E t bl bh vw vs κ=(evSlice E t bl bh vw vs pk).bind (un κ):=by
 unfold evSlice
 (repeat' split)<;>first
  |(refine on3_bind κ (fun x y z=>?_) _;(repeat' split)<;>first|rfl|exact evSliceB_bind E κ _ _ _ _ _)
  |(refine on2_bind κ (fun x y=>?_) _;(repeat' split)<;>first|rfl|exact evSliceB_bind E κ _ _ _ _ _)
  |(refine on1_bind κ (fun x=>?_) _;exact evSliceB_bind E κ _ _ _ _ _)
theorem evFieldAddr_bind (s:TypeId) (f:Nat) (vw:View) (x:AV):evFieldAddr E s f vw x κ=(evFieldAddr E s f vw x pk).bind (un κ):=by
 unfold evFieldAddr
 split
 ·split
  ·split<;>rfl
  ·split<;>rfl
  ·rfl
  ·rfl
 ·rfl
theorem evMakeMap_bind (t:TypeId) (site:Nat) (vs:List AV):evMakeMap E t site vs κ=(evMakeMap E t site vs pk).bind (un κ):=by
 unfold evMakeMap
 split
 ·exact cond_bind κ _ rfl rfl
 ·rfl
theorem evLookup_bind (t:TypeId) (ok:Bool) (vw:View) (m x:AV):evLookup E t ok vw m x κ=(evLookup E t ok vw m x pk).bind (un κ):=by
 unfold evLookup
 split
 ·split
  ·refine cond_bind κ _ ?_ rfl
   split
   ·cases ok<;>rfl
   ·rfl
  ·rfl
 ·rfl
theorem evMapPut_bind (t:TypeId) (vw:View) (m x y:AV):evMapPut E t vw m x y κ=(evMapPut E t vw m x y pk).bind (un κ):=by
 unfold evMapPut
 split
 ·split
  ·refine cond_bind κ _ ?_ rfl
   split
   ·split
    ·rename_i u _;cases (List.any u _)<;>rfl
    ·rfl
   ·rfl
  ·rfl
 ·rfl
theorem coeK_bind (t:TypeId) (vw:View) (v:AV) (u:Upd) (ks:List Nat):coeK E t vw κ v u ks=(coeK E t vw pk v u ks).bind (un κ):=by
 unfold coeK;refine cond_bind κ _ ?_ rfl;(repeat' split)<;>rfl
theorem pure1_coeK (t:TypeId) (vw:View) (x:Option AV):pure1 x (coeK E t vw κ)=(pure1 x (coeK E t vw pk)).bind (un κ):=by
 cases x
 ·rfl
 ·exact coeK_bind ..
theorem coldK_bind (site:Nat) (v:AV) (u:Upd) (ks:List Nat):coldK E site κ v u ks=(coldK E site pk v u ks).bind (un κ):=by
 unfold coldK
 cases E.cold site
 ·rfl
 ·simp only [cond_true]
  split
  ·split
   ·rename_i o
    cases Nat.beq o site
    ·rfl
    ·simp only [cond_true]
     split<;>rfl
   ·rfl
  ·rfl
theorem cold_bind {x:Option R} {y:Option (AV×Upd×List Nat)} {z:Option (AV×Upd×List Nat)} {site:Nat} (h1:x=z.bind (un (coldK E site κ))) (h2:y=z.bind (un (coldK E site pk))):x=y.bind (un κ):=by
 rw [h1,h2]
 cases z with
 |none=>rfl
 |some p=>exact coldK_bind E κ site _ _ _
theorem evVal_bind (o:Oper) (site:Nat) (vs:List AV) (vw:View):evVal E o site vs vw κ=(evVal E o site vs vw pk).bind (un κ):=by
 unfold evVal
 split
 ·(refine on1_bind κ (fun x=>?_) _;rfl)
 ·(refine on1_bind κ (fun x=>?_) _;rfl)
 ·refine on3_bind κ (fun x y z=>?_) _;exact evPick_bind κ _ _ _
 ·refine on1_bind κ (fun x=>?_) _;unfold evNilCheck;(repeat' split)<;>rfl
 ·refine on1_bind κ (fun x=>?_) _;unfold evBox;split<;>rfl
 ·refine on0_bind κ ?_ _;split<;>rfl
 ·refine on2_bind κ (fun x y=>?_) _;exact evBin_bind E κ _ _ _ _
 ·refine on1_bind κ (fun x=>?_) _;unfold evUn;(repeat' split)<;>rfl
 ·refine on1_bind κ (fun x=>?_) _;refine cond_bind κ _ ?_ ?_
  ·unfold evConvB;refine cond_bind κ _ ?_ rfl;split<;>rfl
  ·unfold evConv;(repeat' split)<;>rfl
 ·refine on1_bind κ (fun x=>?_) _;exact evFieldAddr_bind E κ _ _ _ _
 ·refine on1_bind κ (fun x=>?_) _;unfold evField;(repeat' split)<;>first|rfl|exact pure1_bind κ _
 ·refine on1_bind κ (fun x=>?_) _;exact evLoad_bind E κ _ _ _ _
 ·refine on2_bind κ (fun x y=>?_) _;exact evIndexAddr_bind E κ _ _ _ _
 ·refine on2_bind κ (fun x y=>?_) _;exact evIndex_bind E κ _ _ _
 ·refine on2_bind κ (fun x y=>?_) _;exact evStore_bind E κ _ _ _ _
 ·split
  ·unfold evBuildA;refine cond_bind κ _ (on0_bind κ ?_ _) rfl;split<;>rfl
  unfold evBuild;refine cond_bind κ _ ?_ rfl;(repeat' split)<;>first|exact coeK_bind .. |exact cond_bind κ _ (coeK_bind ..) (pure1_coeK ..)|rfl
 ·exact cold_bind E κ (evBuildSlice_bind E (coldK E site κ) _ _ _ _ _ _) (evBuildSlice_bind E (coldK E site pk) _ _ _ _ _ _)
 ·refine on2_bind κ (fun x y=>?_) _;exact evMake_bind E κ _ _ _ _ _
 ·refine on1_bind κ (fun x=>?_) _;unfold evExtract;split<;>first|rfl|exact pure1_bind κ _
 ·(repeat' split)<;>rfl
 ·split
  ·exact evSlice_bind E κ _ _ _ _ _
  ·rfl
 ·exact evMakeMap_bind E κ _ _ _
 ·refine on2_bind κ (fun x y=>?_) _;exact evLookup_bind E κ _ _ _ _ _
 ·refine on3_bind κ (fun x y z=>?_) _;exact evMapPut_bind E κ _ _ _ _ _
 ·refine on3_bind κ (fun x y z=>?_) _;exact evMapPut_bind E κ _ _ _ _ _
 ·(repeat' split)<;>first|rfl|exact cold_bind E κ (evBuiltin_bind E (coldK E site κ) _ _ _ _ _) (evBuiltin_bind E (coldK E site pk) _ _ _ _ _)|exact evCall_bind E κ _ _ _ _
 ·rfl
end
end Go.Proofs.YtfdcjocallblcaaGreatDoor.Ev
