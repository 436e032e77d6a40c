/- slices.Sort, slices.Clone at []int, impl.tidy (slices.SortFunc, slices.Compact at []Move), strconv.Itoa, as far as this seat has them: the library's contracts, laid by the kit's tools; slices.Compact and impl.tidy walked. No condition. -/
import Derived.Shelf.SlSortCmp.WholeK
import Derived.Shelf.SlSortCmp.NoneTotal
import Derived.Shelf.SlicesG.Cmp
import Derived.Shelf.Slices.Clone
import Derived.Shelf.Sort.Plain
import Derived.Shelf.Slices.In.SortNone
import Derived.Shelf.Strconv.Itoa3
import Derived.Shelf.SlicesG.CompactI
import Derived.Test.YtfdcjocallblcaaGreatDoorProg
import Derived.Shelf.SlicesG.CompactI
import Derived.Shelf.SlicesQ.Reverse
import Derived.Shelf.GgSortFunc.RowK
import Derived.Test.YtfdcjocallblcaaGreatDoorEvTidy
import Derived.Test.YtfdcjocallblcaaGreatDoorEvClone
import Derived.Test.YtfdcjocallblcaaGreatDoorEvItoa
import Derived.Test.YtfdcjocallblcaaGreatDoorEvCompact
namespace Go.Proofs
open Go.Shelf
def Tryz.lays43C_ren:Go.Shelf.Ren:=⟨fun|43=>63|n=>n,fun|22=>22|23=>3|3=>3|4=>4|0=>0|n=>n,fun|n=>n⟩
theorem Tryz.lays43C:Go.Proofs.SlLaysN.n43 Tryz.prog Tryz.lays43C_ren:={
 mixed:=by kernel_rfl
 f43:=⟨Tryz.f63.name,by decide,Tryz.func63.trans (congrArg some (by kernel_rfl))⟩
 t0:=Tryz.underlying0
 a0:=Tryz.isAgg0
 z0:=Tryz.sizeOf0
 v0:=Tryz.zeroValue0
 t3:=Tryz.underlying3
 a3:=Tryz.isAgg3
 z3:=Tryz.sizeOf3
 v3:=Tryz.zeroValue3
 t4:=Tryz.underlying4
 a4:=Tryz.isAgg4
 z4:=Tryz.sizeOf4
 v4:=Tryz.zeroValue4
 t22:=Tryz.underlying22
 a22:=Tryz.isAgg22
 z22:=Tryz.sizeOf22
 v22:=Tryz.zeroValue22
 t23:=Tryz.underlying3
 a23:=Tryz.isAgg3
 z23:=Tryz.sizeOf3
 v23:=Tryz.zeroValue3
 i23:=by kernel_rfl}
def Tryz.lays189_ren:Go.Shelf.Ren:=⟨fun|189=>62|125=>69|257=>71|128=>81|129=>82|294=>84|295=>85|296=>86|297=>87|298=>88|299=>89|216=>90|300=>91|301=>92|328=>103|329=>95|330=>96|331=>104|332=>105|215=>64|343=>111|n=>n,fun|28=>22|3=>3|46=>90|0=>0|51=>101|53=>103|4=>4|183=>95|182=>94|131=>83|5=>5|9=>9|218=>112|222=>116|228=>124|229=>125|n=>n,fun|n=>n⟩
theorem Tryz.lays189:Go.Proofs.Lays.n189 Tryz.prog Tryz.lays189_ren:={
 mixed:=by kernel_rfl
 f125:=Tryz.func69.trans (congrArg some (by kernel_rfl))
 f128:=Tryz.func81.trans (congrArg some (by kernel_rfl))
 f129:=Tryz.func82.trans (congrArg some (by kernel_rfl))
 f189:=Tryz.func62.trans (congrArg some (by kernel_rfl))
 f215:=Tryz.func64.trans (congrArg some (by kernel_rfl))
 f216:=Tryz.func90.trans (congrArg some (by kernel_rfl))
 f257:=Tryz.func71.trans (congrArg some (by kernel_rfl))
 f294:=Tryz.func84.trans (congrArg some (by kernel_rfl))
 f295:=Tryz.func85.trans (congrArg some (by kernel_rfl))
 f296:=Tryz.func86.trans (congrArg some (by kernel_rfl))
 f297:=Tryz.func87.trans (congrArg some (by kernel_rfl))
 f298:=Tryz.func88.trans (congrArg some (by kernel_rfl))
 f299:=Tryz.func89.trans (congrArg some (by kernel_rfl))
 f300:=Tryz.func91.trans (congrArg some (by kernel_rfl))
 f301:=Tryz.func92.trans (congrArg some (by kernel_rfl))
 f328:=Tryz.func103.trans (congrArg some (by kernel_rfl))
 f329:=Tryz.func95.trans (congrArg some (by kernel_rfl))
 f330:=Tryz.func96.trans (congrArg some (by kernel_rfl))
 f331:=Tryz.func104.trans (congrArg some (by kernel_rfl))
 f332:=Tryz.func105.trans (congrArg some (by kernel_rfl))
 f343:=Tryz.func111.trans (congrArg some (by kernel_rfl))
 t0:=Tryz.underlying0
 a0:=Tryz.isAgg0
 z0:=Tryz.sizeOf0
 v0:=Tryz.zeroValue0
 t3:=Tryz.underlying3
 a3:=Tryz.isAgg3
 z3:=Tryz.sizeOf3
 v3:=Tryz.zeroValue3
 t4:=Tryz.underlying4
 a4:=Tryz.isAgg4
 z4:=Tryz.sizeOf4
 v4:=Tryz.zeroValue4
 t5:=Tryz.underlying5
 a5:=Tryz.isAgg5
 z5:=Tryz.sizeOf5
 v5:=Tryz.zeroValue5
 t9:=Tryz.underlying9
 a9:=Tryz.isAgg9
 z9:=Tryz.sizeOf9
 v9:=Tryz.zeroValue9
 t28:=Tryz.underlying22
 a28:=Tryz.isAgg22
 z28:=Tryz.sizeOf22
 v28:=Tryz.zeroValue22
 t46:=Tryz.underlying90
 a46:=Tryz.isAgg90
 z46:=Tryz.sizeOf90
 v46:=Tryz.zeroValue90
 t51:=Tryz.underlying101
 a51:=Tryz.isAgg101
 z51:=Tryz.sizeOf101
 v51:=Tryz.zeroValue101
 t53:=Tryz.underlying103
 a53:=Tryz.isAgg103
 z53:=Tryz.sizeOf103
 v53:=Tryz.zeroValue103
 t131:=Tryz.underlying83
 a131:=Tryz.isAgg83
 z131:=Tryz.sizeOf83
 v131:=Tryz.zeroValue83
 t182:=Tryz.underlying94
 a182:=Tryz.isAgg94
 z182:=Tryz.sizeOf94
 v182:=Tryz.zeroValue94
 t183:=Tryz.underlying95
 a183:=Tryz.isAgg95
 z183:=Tryz.sizeOf95
 v183:=Tryz.zeroValue95
 t218:=Tryz.underlying112
 a218:=Tryz.isAgg112
 z218:=Tryz.sizeOf112
 v218:=Tryz.zeroValue112
 t222:=Tryz.underlying116
 a222:=Tryz.isAgg116
 z222:=Tryz.sizeOf116
 v222:=Tryz.zeroValue116
 t228:=Tryz.underlying124
 a228:=Tryz.isAgg124
 z228:=Tryz.sizeOf124
 v228:=Tryz.zeroValue124
 t229:=Tryz.underlying125
 a229:=Tryz.isAgg125
 z229:=Tryz.sizeOf125
 v229:=Tryz.zeroValue125}
def Tryz.lays171_ren:Go.Shelf.Ren:=⟨fun|171=>61|243=>70|246=>83|283=>99|284=>100|285=>101|286=>102|129=>82|317=>107|318=>108|319=>109|320=>110|337=>112|338=>113|n=>n,fun|3=>3|9=>9|2=>2|4=>4|171=>118|0=>0|53=>103|37=>74|5=>5|173=>120|212=>128|51=>101|20=>20|213=>129|46=>90|232=>131|233=>132|n=>n,fun|17=>0|18=>1|19=>2|n=>n⟩
theorem Tryz.lays171:Go.Proofs.Lays.n171 Tryz.prog Tryz.lays171_ren:={
 mixed:=by kernel_rfl
 f129:=Tryz.func82.trans (congrArg some (by kernel_rfl))
 f171:=Tryz.func61.trans (congrArg some (by kernel_rfl))
 f243:=Tryz.func70.trans (congrArg some (by kernel_rfl))
 f246:=Tryz.func83.trans (congrArg some (by kernel_rfl))
 f283:=Tryz.func99.trans (congrArg some (by kernel_rfl))
 f284:=Tryz.func100.trans (congrArg some (by kernel_rfl))
 f285:=Tryz.func101.trans (congrArg some (by kernel_rfl))
 f286:=Tryz.func102.trans (congrArg some (by kernel_rfl))
 f317:=Tryz.func107.trans (congrArg some (by kernel_rfl))
 f318:=Tryz.func108.trans (congrArg some (by kernel_rfl))
 f319:=Tryz.func109.trans (congrArg some (by kernel_rfl))
 f320:=Tryz.func110.trans (congrArg some (by kernel_rfl))
 f337:=Tryz.func112.trans (congrArg some (by kernel_rfl))
 f338:=Tryz.func113.trans (congrArg some (by kernel_rfl))
 t0:=Tryz.underlying0
 a0:=Tryz.isAgg0
 z0:=Tryz.sizeOf0
 v0:=Tryz.zeroValue0
 t2:=Tryz.underlying2
 a2:=Tryz.isAgg2
 z2:=Tryz.sizeOf2
 v2:=Tryz.zeroValue2
 t3:=Tryz.underlying3
 a3:=Tryz.isAgg3
 z3:=Tryz.sizeOf3
 v3:=Tryz.zeroValue3
 t4:=Tryz.underlying4
 a4:=Tryz.isAgg4
 z4:=Tryz.sizeOf4
 v4:=Tryz.zeroValue4
 t5:=Tryz.underlying5
 a5:=Tryz.isAgg5
 z5:=Tryz.sizeOf5
 v5:=Tryz.zeroValue5
 t9:=Tryz.underlying9
 a9:=Tryz.isAgg9
 z9:=Tryz.sizeOf9
 v9:=Tryz.zeroValue9
 t20:=Tryz.underlying20
 a20:=Tryz.isAgg20
 z20:=Tryz.sizeOf20
 v20:=Tryz.zeroValue20
 t37:=Tryz.underlying74
 a37:=Tryz.isAgg74
 z37:=Tryz.sizeOf74
 v37:=Tryz.zeroValue74
 t46:=Tryz.underlying90
 a46:=Tryz.isAgg90
 z46:=Tryz.sizeOf90
 v46:=Tryz.zeroValue90
 t51:=Tryz.underlying101
 a51:=Tryz.isAgg101
 z51:=Tryz.sizeOf101
 v51:=Tryz.zeroValue101
 t53:=Tryz.underlying103
 a53:=Tryz.isAgg103
 z53:=Tryz.sizeOf103
 v53:=Tryz.zeroValue103
 t171:=Tryz.underlying118
 a171:=Tryz.isAgg118
 z171:=Tryz.sizeOf118
 v171:=Tryz.zeroValue118
 t173:=Tryz.underlying120
 a173:=Tryz.isAgg120
 z173:=Tryz.sizeOf120
 v173:=Tryz.zeroValue120
 t212:=Tryz.underlying128
 a212:=Tryz.isAgg128
 z212:=Tryz.sizeOf128
 v212:=Tryz.zeroValue128
 t213:=Tryz.underlying129
 a213:=Tryz.isAgg129
 z213:=Tryz.sizeOf129
 t232:=Tryz.underlying131
 a232:=Tryz.isAgg131
 z232:=Tryz.sizeOf131
 v232:=Tryz.zeroValue131
 t233:=Tryz.underlying132
 a233:=Tryz.isAgg132
 z233:=Tryz.sizeOf132
 v233:=Tryz.zeroValue132
 g17:=by kernel_rfl
 g18:=by kernel_rfl
 g19:=by kernel_rfl}
def Tryz.lays6M_ren:Go.Shelf.Ren:=⟨fun|6=>57|15=>69|14=>68|28=>81|29=>82|20=>73|21=>74|22=>75|23=>76|24=>77|25=>78|26=>79|27=>80|46=>94|47=>95|48=>96|49=>97|50=>98|57=>106|n=>n,fun|22=>43|24=>45|25=>48|3=>3|39=>90|0=>0|53=>101|55=>103|4=>4|46=>95|45=>94|50=>83|5=>5|9=>9|66=>112|70=>116|76=>124|77=>125|n=>n,fun|n=>n⟩
theorem Tryz.lays6M:Go.Proofs.SlLaysF0.n6 Tryz.prog Tryz.lays6M_ren:={
 mixed:=by kernel_rfl
 f6:=⟨Tryz.f57.name,by decide,Tryz.func57.trans (congrArg some (by kernel_rfl))⟩
 f14:=⟨Tryz.f68.name,by decide,Tryz.func68.trans (congrArg some (by kernel_rfl))⟩
 f15:=Tryz.func69.trans (congrArg some (by kernel_rfl))
 f20:=⟨Tryz.f73.name,by decide,Tryz.func73.trans (congrArg some (by kernel_rfl))⟩
 f21:=⟨Tryz.f74.name,by decide,Tryz.func74.trans (congrArg some (by kernel_rfl))⟩
 f22:=⟨Tryz.f75.name,by decide,Tryz.func75.trans (congrArg some (by kernel_rfl))⟩
 f23:=⟨Tryz.f76.name,by decide,Tryz.func76.trans (congrArg some (by kernel_rfl))⟩
 f24:=⟨Tryz.f77.name,by decide,Tryz.func77.trans (congrArg some (by kernel_rfl))⟩
 f25:=⟨Tryz.f78.name,by decide,Tryz.func78.trans (congrArg some (by kernel_rfl))⟩
 f26:=⟨Tryz.f79.name,by decide,Tryz.func79.trans (congrArg some (by kernel_rfl))⟩
 f27:=⟨Tryz.f80.name,by decide,Tryz.func80.trans (congrArg some (by kernel_rfl))⟩
 f28:=Tryz.func81.trans (congrArg some (by kernel_rfl))
 f29:=Tryz.func82.trans (congrArg some (by kernel_rfl))
 f46:=⟨Tryz.f94.name,by decide,Tryz.func94.trans (congrArg some (by kernel_rfl))⟩
 f47:=Tryz.func95.trans (congrArg some (by kernel_rfl))
 f48:=Tryz.func96.trans (congrArg some (by kernel_rfl))
 f49:=⟨Tryz.f97.name,by decide,Tryz.func97.trans (congrArg some (by kernel_rfl))⟩
 f50:=⟨Tryz.f98.name,by decide,Tryz.func98.trans (congrArg some (by kernel_rfl))⟩
 f57:=⟨Tryz.f106.name,by decide,Tryz.func106.trans (congrArg some (by kernel_rfl))⟩
 t0:=Tryz.underlying0
 a0:=Tryz.isAgg0
 z0:=Tryz.sizeOf0
 v0:=Tryz.zeroValue0
 t3:=Tryz.underlying3
 a3:=Tryz.isAgg3
 z3:=Tryz.sizeOf3
 v3:=Tryz.zeroValue3
 t4:=Tryz.underlying4
 a4:=Tryz.isAgg4
 z4:=Tryz.sizeOf4
 v4:=Tryz.zeroValue4
 t5:=Tryz.underlying5
 a5:=Tryz.isAgg5
 z5:=Tryz.sizeOf5
 v5:=Tryz.zeroValue5
 t9:=Tryz.underlying9
 a9:=Tryz.isAgg9
 z9:=Tryz.sizeOf9
 v9:=Tryz.zeroValue9
 t22:=Tryz.underlying43
 a22:=Tryz.isAgg43
 z22:=Tryz.sizeOf43
 v22:=Tryz.zeroValue43
 t25:=Tryz.underlying48
 a25:=Tryz.isAgg48
 z25:=Tryz.sizeOf48
 v25:=Tryz.zeroValue48
 t39:=Tryz.underlying90
 a39:=Tryz.isAgg90
 z39:=Tryz.sizeOf90
 v39:=Tryz.zeroValue90
 t45:=Tryz.underlying94
 a45:=Tryz.isAgg94
 z45:=Tryz.sizeOf94
 v45:=Tryz.zeroValue94
 t46:=Tryz.underlying95
 a46:=Tryz.isAgg95
 z46:=Tryz.sizeOf95
 v46:=Tryz.zeroValue95
 t50:=Tryz.underlying83
 a50:=Tryz.isAgg83
 z50:=Tryz.sizeOf83
 v50:=Tryz.zeroValue83
 t53:=Tryz.underlying101
 a53:=Tryz.isAgg101
 z53:=Tryz.sizeOf101
 v53:=Tryz.zeroValue101
 t55:=Tryz.underlying103
 a55:=Tryz.isAgg103
 z55:=Tryz.sizeOf103
 v55:=Tryz.zeroValue103
 t66:=Tryz.underlying112
 a66:=Tryz.isAgg112
 z66:=Tryz.sizeOf112
 v66:=Tryz.zeroValue112
 t70:=Tryz.underlying116
 a70:=Tryz.isAgg116
 z70:=Tryz.sizeOf116
 v70:=Tryz.zeroValue116
 t76:=Tryz.underlying124
 a76:=Tryz.isAgg124
 z76:=Tryz.sizeOf124
 v76:=Tryz.zeroValue124
 t77:=Tryz.underlying125
 a77:=Tryz.isAgg125
 z77:=Tryz.sizeOf125
 v77:=Tryz.zeroValue125}
def Tryz.lays5C_ren:Go.Shelf.Ren:=⟨fun|5=>49|7=>64|n=>n,fun|22=>3|3=>3|4=>4|n=>n,fun|n=>n⟩
theorem Tryz.lays5C:Go.Proofs.SlLaysC2.n5 Tryz.prog Tryz.lays5C_ren:={
 mixed:=by kernel_rfl
 f5:=⟨Tryz.f49.name,by decide,Tryz.func49.trans (congrArg some (by kernel_rfl))⟩
 f7:=⟨Tryz.f64.name,by decide,Tryz.func64.trans (congrArg some (by kernel_rfl))⟩
 t3:=Tryz.underlying3
 a3:=Tryz.isAgg3
 z3:=Tryz.sizeOf3
 v3:=Tryz.zeroValue3
 t4:=Tryz.underlying4
 a4:=Tryz.isAgg4
 z4:=Tryz.sizeOf4
 v4:=Tryz.zeroValue4
 t22:=Tryz.underlying3
 a22:=Tryz.isAgg3
 z22:=Tryz.sizeOf3
 v22:=Tryz.zeroValue3}
def Tryz.lays15K_ren:Go.Shelf.Ren:=⟨fun|15=>35|n=>n,fun|22=>22|3=>3|4=>4|n=>n,fun|n=>n⟩
theorem Tryz.lays15K:Go.Proofs.Lays2.n15 Tryz.prog Tryz.lays15K_ren:={
 mixed:=by kernel_rfl
 f15:=Tryz.func35.trans (congrArg some (by kernel_rfl))
 t3:=Tryz.underlying3
 a3:=Tryz.isAgg3
 z3:=Tryz.sizeOf3
 v3:=Tryz.zeroValue3
 t4:=Tryz.underlying4
 a4:=Tryz.isAgg4
 z4:=Tryz.sizeOf4
 v4:=Tryz.zeroValue4
 t22:=Tryz.underlying22
 a22:=Tryz.isAgg22
 z22:=Tryz.sizeOf22
 v22:=Tryz.zeroValue22
 i3:=by kernel_rfl}
end Go.Proofs
namespace Go.Proofs.YtfdcjocallblcaaGreatDoor.Ev
open Go Go.Proofs Go.Shelf Go.RowKit Go.Lib Go.Sort
variable {α : Type} [Inhabited α]
theorem setCells_append (blk:Nat):∀(a b:List Value) (w:World) (o:Nat),w.setCells blk o (a++b)=(w.setCells blk o a).setCells blk (o+a.length) b
 |[],_,_,_=>rfl
 |v::r,b,w,o=>by
  simp only [List.cons_append,World.setCells]
  rw [setCells_append blk r b,show o+1+r.length=o+(v::r).length by simp;omega]
theorem set_flatM (enc:α→List Value) (k:Nat) (hk:∀x,(enc x).length=k) (d:Array α) (i:Nat) (x:α) (hi:i<d.size):
  setMany (flatK enc k d) (i*k) (enc x)=flatK enc k (d.setIfInBounds i x):=by
 refine ext_get! (by simp) fun t ht=>?_
 have ht':t<d.size*k:=by simpa using ht
 have k0:0<k:=by rcases Nat.eq_zero_or_pos k with h|h;·subst h;simp at ht'
                 ·exact h
 rw [get_setMany _ _ _ t (by simpa using ht'),get_flatK _ _ _ t ht',get_flatK _ _ _ t (by simpa using ht'),hk]
 by_cases a:t/k=i
 ·rw [if_pos ((blk_iff k i t k0).2 a)]
  subst a
  rw [getElem!_set_same d _ x hi,show t-t/k*k=t%k by rw [Nat.mod_eq_sub_div_mul]]
 ·rw [if_neg (fun h=>a ((blk_iff k i t k0).1 h)),getElem!_set_other d i _ x a]
theorem putRowK_setCells (enc:α→List Value) (k:Nat) (hk:∀x,(enc x).length=k) (w:World) (blk off:Nat):∀(xs:List α) (d:Array α) (i:Nat),i+xs.length≤d.size→
  (putRowK enc k w blk off d).setCells blk (off+i*k) (xs.flatMap enc)=putRowK enc k w blk off (lay d i xs)
 |[],_,_,_=>rfl
 |x::r,d,i,h=>by
  have hl:i+(r.length+1)≤d.size:=by simpa using h
  have b:i*k+k≤d.size*k:=by
   have:=Nat.mul_le_mul_right k (show i+1≤d.size by omega);rwa [Nat.add_mul,Nat.one_mul] at this
  simp only [List.flatMap_cons,lay]
  rw [setCells_append,hk,show off+i*k+k=off+(i+1)*k by rw [Nat.add_mul,Nat.one_mul];omega]
  rw [show (putRowK enc k w blk off d).setCells blk (off+i*k) (enc x)=putRowK enc k w blk off (d.setIfInBounds i x) from by
   unfold putRowK
   rw [setCells_putRow _ _ _ _ _ _ (by rw [hk,size_flatK];exact b),set_flatM enc k hk d i x (by omega)]]
  exact putRowK_setCells enc k hk w blk off r _ (i+1) (by simp;omega)
theorem encM_len (m:Move):(encM m).length=2:=rfl
theorem store_world_M {w wr:World} {n blk off:Nat} {dk:Array Move} {i:Nat} (hi:i<dk.size) (hwr:wr=putRowK encM 2 (Sort.ahead w n) blk off dk) (x:Move):
  wr.drew.setCells blk (off+i*2) (encM x)=putRowK encM 2 (Sort.ahead w (n+1)) blk off (dk.setIfInBounds i x):=by
 have h:=putRowK_setCells encM 2 encM_len (Sort.ahead w (n+1)) blk off [x] dk i (by simp;omega)
 simp only [List.flatMap_cons,List.flatMap_nil,List.append_nil,lay] at h
 rw [hwr,←h]
 have:=putRowK_drewN encM 2 w n 1 blk off dk
 rw [show (putRowK encM 2 (Sort.ahead w n) blk off dk).drew=(putRowK encM 2 (Sort.ahead w n) blk off dk).drewN 1 from rfl,this]
theorem run_clear_M {P:Program} (w:World) (t e ty:TypeId) (z:Value) (zs:List Value) (ht:P.underlying t=some (.slice e)) (hv:∀w,(zeroValue e).run P w=.ok z w) (hz:z.cells=zs.toArray) (h1:∀v∈zs,v.oneCell'=true) (b o n c:Nat) (hn:0<n)
  (hc:∀j,j<n*zs.length→(w.cell? ⟨b,o+j,none⟩).isSome=true) (hf:∀j,j<n*zs.length→w.frozen? ⟨b,o+j,none⟩=false):
  (Builtin.clear_ #[t] ty #[.slice (some ⟨b,o,none⟩) n c]).run P w=.ok (.tuple #[]) (w.setCells b o ((List.replicate n zs).flatten)):=by
 have hzc:(Builtin.zeroCells z.cells n).toList=(List.replicate n zs).flatten:=by
  rw [hz]
  simp only [Builtin.zeroCells,Array.toList_map,Array.toList_range,List.size_toArray]
  clear hv h1 hc hf hn hz
  induction n with
  |zero=>simp
  |succ n ih=>
   rw [List.replicate_succ',List.flatten_append,←ih,Nat.add_mul,Nat.one_mul,List.range_add,List.map_append]
   congr 1
   simp only [List.flatten_cons,List.flatten_nil,List.append_nil,List.map_map]
   apply List.ext_getElem
   ·simp
   ·intro i h1 h2
    simp [Nat.mod_eq_of_lt h2,h2]
 have hl:((List.replicate n zs).flatten).length=n*zs.length:=by simp
 have hst:=run_storeCells_cells (P:=P) b o ((List.replicate n zs).flatten) 0 w (by simpa [hl] using hc) (by simpa [hl] using hf) (by intro v hv';simp only [List.mem_flatten,List.mem_replicate] at hv';obtain ⟨l,⟨_,rfl⟩,h⟩:=hv';exact h1 v h)
 simp only [Nat.add_zero] at hst
 obtain ⟨m,rfl⟩:∃m,n=m+1:=⟨n-1,by omega⟩
 simp [Builtin.clear_,run_underlying ht,hv,hzc,hst]
set_option maxHeartbeats 4000000 in
set_option maxRecDepth 1000000 in
theorem compact_arr (blk off cap:Nat) (d:Array Move) (w:World) (hH:HoldsK encM 2 w blk off d) (hsz:d.size≤9223372036854775807) (hcap:d.size≤cap):
  Calls Tryz.prog 58 #[.slice (some ⟨blk,off,none⟩) d.size cap] w fun e w'=>e=.returned (.slice (some ⟨blk,off,none⟩) (compactUpTo d d.size).length cap)∧∃q,w'=putRowK encM 2 (Sort.ahead w q) blk off (compactUpTo d d.size++List.replicate (d.size-(compactUpTo d d.size).length) (⟨0,0⟩:Move)).toArray:=by
 have mixed:Tryz.prog.follows Departure.mixedOrders=true:=by kernel_rfl
 have e51:Tryz.prog.underlying 43=some (.slice 45):=by kernel_rfl
 have z53:∀w,(zeroValue 45).run Tryz.prog w=.ok (.agg #[.int .i64 0,.int .i64 0]) w:=by
  have h:(Tryz.prog.info? 45).map (fun i=>i.zero)=some (some (.agg #[.int .i64 0,.int .i64 0])):=by kernel_rfl
  obtain ⟨i0,hi,hz⟩:=Option.map_eq_some_iff.1 h
  intro w
  simp [zeroValue,typeInfo,hi,hz]
 have same:∀q,(∀j,j<d.size→keeps d j=true)→(compactUpTo d d.size).length=d.size∧w.drewN q=putRowK encM 2 (Sort.ahead w q) blk off (compactUpTo d d.size++List.replicate (d.size-(compactUpTo d d.size).length) (⟨0,0⟩:Move)).toArray:=by
  intro q hall
  have e:compactUpTo d d.size=d.toList:=by rw [compactUpTo_all d _ hall,range_map_get]
  rw [e]
  refine ⟨by simp,?_⟩
  simp only [Array.length_toList,Nat.sub_self,List.replicate_zero,List.append_nil,Array.toArray_toList]
  exact (putRowK_self encM 2 (Sort.ahead w q) blk off d (holdsK_ahead encM 2 w q blk off d hH)).symm
 have HS:Aside (∀q,(∀j,j<d.size→keeps d j=true)→(compactUpTo d d.size).length=d.size∧w.drewN q=putRowK encM 2 (Sort.ahead w q) blk off (compactUpTo d d.size++List.replicate (d.size-(compactUpTo d d.size).length) (⟨0,0⟩:Move)).toArray):=same
 clear same
 by_cases h2:d.size<2
 ·have HH:Aside (HoldsK encM 2 w blk off d):=hH
  clear hH
  go_enter Tryz.func58,Tryz.ntmps58
  go_wp2
  go_ret
  obtain ⟨e1,e2⟩:=HS.out 0 (fun j hj=>keeps_lt_one d j (by omega))
  exact ⟨by rw [e1];rfl,0,e2⟩
 ·go_enter Tryz.func58,Tryz.ntmps58
  go_wp2
  go_loopg [3] d.size (fun g s3 wr=>∃k q:Nat,1≤k∧k≤d.size∧d.size-k≤g∧s3=.int .i64 k∧wr=w.drewN q∧∀j,j<k→keeps d j=true)
  case atStart=>exact ⟨1,0,Nat.le_refl _,by omega,by omega,rfl,rfl,keeps_lt_one d⟩
  case round=>
   obtain ⟨k,q,hk1,hk,hg,rfl,rfl,hall⟩:=hrel
   by_cases hlt:k<d.size
   ·obtain ⟨c1a,f1a⟩:=(hH.cell hlt (show 0<2 by omega))
    obtain ⟨c1b,f1b⟩:=(hH.cell hlt (show 1<2 by omega))
    obtain ⟨c0a,f0a⟩:=(hH.cell (show k-1<d.size by omega) (show 0<2 by omega))
    obtain ⟨c0b,f0b⟩:=(hH.cell (show k-1<d.size by omega) (show 1<2 by omega))
    have A:Aside (∀j,j<k→keeps d j=true):=hall
    have HH:Aside (HoldsK encM 2 w blk off d):=hH
    clear hall hH
    generalize hx:d[k]! =x at c1a c1b
    generalize hy:d[k-1]! =y at c0a c0b
    have B:Aside (d[k]! =x∧d[k-1]! =y):=⟨hx,hy⟩
    clear hx hy
    obtain ⟨x1,x2⟩:=x
    obtain ⟨y1,y2⟩:=y
    change w.cell? ⟨blk,off+k*2,none⟩=some (.int .i64 x1) at c1a
    change w.cell? ⟨blk,off+k*2+1,none⟩=some (.int .i64 x2) at c1b
    change w.cell? ⟨blk,off+(k-1)*2,none⟩=some (.int .i64 y1) at c0a
    change w.cell? ⟨blk,off+(k-1)*2+1,none⟩=some (.int .i64 y2) at c0b
    by_cases hdup:x1=y1∧x2=y2
    ·obtain ⟨rfl,rfl⟩:=hdup
     go_wp2_with fail
     go_region_o
     go_wp2
     clear c0a c0b c1a c1b f0a f0b f1a f1b
     go_loopg [3,5] d.size (fun g s3 s5 wr=>∃(kk k2 q2:Nat) (dk:Array Move),s3=.int .i64 kk∧s5=.int .i64 k2∧1≤k2∧k+k2≤d.size∧d.size-(k+k2)≤g∧wr=putRowK encM 2 (Sort.ahead w q2) blk off dk∧CompInv d (k+k2) kk dk)
     case atStart=>exact ⟨k,1,q+1,d,rfl,rfl,Nat.le_refl _,by omega,by omega,(putRowK_self encM 2 (Sort.ahead w (q+1)) blk off d (holdsK_ahead encM 2 w (q+1) blk off d HH.out)).symm,CompInv.start A.out (keeps_neg (by omega) (by rw [B.out.1,B.out.2]))⟩
     case round=>
      obtain ⟨kk,k2,q2,dk,rfl,rfl,h1,hle,hg2,hwr,hI⟩:=hrel
      have hkk:=hI.lt
      have hds:=hI.size
      have hHk:HoldsK encM 2 wr blk off dk:=by rw [hwr];exact holdsK_putRowK encM 2 _ blk off d dk (holdsK_ahead encM 2 w q2 blk off d HH.out) hds
      have W2:Aside (wr=putRowK encM 2 (Sort.ahead w q2) blk off dk):=hwr
      have I2:Aside (CompInv d (k+k2) kk dk):=hI
      clear hwr
      by_cases hlt2:k+k2<d.size
      ·obtain ⟨cma,_⟩:=hHk.cell (show k+k2<dk.size by omega) (show 0<2 by omega)
       obtain ⟨cmb,_⟩:=hHk.cell (show k+k2<dk.size by omega) (show 1<2 by omega)
       obtain ⟨cpa,_⟩:=hHk.cell (show k+k2-1<dk.size by omega) (show 0<2 by omega)
       obtain ⟨cpb,_⟩:=hHk.cell (show k+k2-1<dk.size by omega) (show 1<2 by omega)
       obtain ⟨cka,fka⟩:=hHk.cell (show kk<dk.size by omega) (show 0<2 by omega)
       obtain ⟨ckb,fkb⟩:=hHk.cell (show kk<dk.size by omega) (show 1<2 by omega)
       rw [hI.high (k+k2) (by omega),show off+(k+k2)*2=off+k*2+k2*2 by omega] at cma cmb
       rw [hI.high (k+k2-1) (by omega),show off+(k+k2-1)*2=off+k*2+(k2-1)*2 by omega] at cpa cpb
       clear hHk hI
       generalize hu:d[k+k2]! =u at cma cmb
       generalize hv:d[k+k2-1]! =v at cpa cpb
       have C:Aside (d[k+k2]! =u∧d[k+k2-1]! =v):=⟨hu,hv⟩
       clear hu hv
       obtain ⟨u1,u2'⟩:=u
       obtain ⟨v1,v2⟩:=v
       change wr.cell? ⟨blk,off+k*2+k2*2,none⟩=some (.int .i64 u1) at cma
       change wr.cell? ⟨blk,off+k*2+k2*2+1,none⟩=some (.int .i64 u2') at cmb
       change wr.cell? ⟨blk,off+k*2+(k2-1)*2,none⟩=some (.int .i64 v1) at cpa
       change wr.cell? ⟨blk,off+k*2+(k2-1)*2+1,none⟩=some (.int .i64 v2) at cpb
       change wr.cell? ⟨blk,off+kk*2,none⟩=_ at cka
       change wr.cell? ⟨blk,off+kk*2+1,none⟩=_ at ckb
       change wr.frozen? ⟨blk,off+kk*2,none⟩=_ at fka
       change wr.frozen? ⟨blk,off+kk*2+1,none⟩=_ at fkb
       generalize (encM dk[kk]!)[0]! =old1 at cka
       generalize (encM dk[kk]!)[1]! =old2 at ckb
       by_cases huv:u1=v1∧u2'=v2
       ·obtain ⟨rfl,rfl⟩:=huv
        go_wp2_with fail
        go_region_o
        go_wp2
        go_roundg (d.size-(k+(k2+1)))
        case measure=>omega
        case rel=>exact ⟨kk,k2+1,q2+1,dk,rfl,by go_num,by omega,by omega,Nat.le_refl _,by rw [W2.out];rfl,I2.out.skip (keeps_neg (by omega) (by rw [C.out.1,C.out.2]))⟩
       ·have fin:∀w2:World,w2=(wr.drew.setCells blk (off+kk*2) (encM ⟨u1,u2'⟩))→w2=putRowK encM 2 (Sort.ahead w (q2+1)) blk off (dk.setIfInBounds kk ⟨u1,u2'⟩):=by
         intro w2 h2
         rw [h2]
         exact store_world_M (by omega) W2.out _
        have F:Aside (∀w2:World,w2=(wr.drew.setCells blk (off+kk*2) (encM ⟨u1,u2'⟩))→w2=putRowK encM 2 (Sort.ahead w (q2+1)) blk off (dk.setIfInBounds kk ⟨u1,u2'⟩)):=fin
        clear fin
        by_cases hu1:u1=v1
        ·subst hu1
         have hu2:u2'≠v2:=fun e=>huv ⟨rfl,e⟩
         go_wp2_with fail
         go_region_o
         go_wp2
         go_roundg (d.size-(k+(k2+1)))
         case measure=>omega
         case rel=>exact ⟨kk+1,k2+1,q2+1,dk.setIfInBounds kk ⟨u1,u2'⟩,by go_num,by go_num,by omega,by omega,Nat.le_refl _,F.out _ rfl,by have:=I2.out.keep hlt2 (keeps_pos (by rw [C.out.1,C.out.2];simp [hu2]));rwa [C.out.1] at this⟩
        ·go_wp2_with fail
         go_region_o
         go_wp2
         go_roundg (d.size-(k+(k2+1)))
         case measure=>omega
         case rel=>exact ⟨kk+1,k2+1,q2+1,dk.setIfInBounds kk ⟨u1,u2'⟩,by go_num,by go_num,by omega,by omega,Nat.le_refl _,F.out _ rfl,by have:=I2.out.keep hlt2 (keeps_pos (by rw [C.out.1,C.out.2];simp [hu1]));rwa [C.out.1] at this⟩
      ·have hend:k+k2=d.size:=by omega
       have CL:∀j,j<(d.size-kk)*(encM ⟨0,0⟩).length→(wr.cell? ⟨blk,off+kk*2+j,none⟩).isSome=true∧wr.frozen? ⟨blk,off+kk*2+j,none⟩=false:=by
        intro j hj
        have hj':j<(d.size-kk)*2:=hj
        have hh:=hHk.cell (show kk+j/2<dk.size by omega) (show j%2<2 by omega)
        rw [show off+(kk+j/2)*2+j%2=off+kk*2+j by omega] at hh
        exact ⟨by rw [hh.1];rfl,hh.2⟩
       have hcl:∀ty,(Builtin.clear_ #[43] ty #[.slice (some ⟨blk,off+kk*2,none⟩) (d.size-kk) (cap-kk)]).run Tryz.prog wr=.ok (.tuple #[]) (wr.setCells blk (off+kk*2) ((List.replicate (d.size-kk) (encM ⟨0,0⟩)).flatten)):=
        fun ty=>run_clear_M wr _ _ ty (.agg #[.int .i64 0,.int .i64 0]) (encM ⟨0,0⟩) e51 z53 rfl (by intro v hv;simp [encM] at hv;subst hv;rfl) blk (off+kk*2) _ _ (by omega) (fun j hj=>(CL j hj).1) (fun j hj=>(CL j hj).2)
       clear hHk hI CL
       have LY0:wr.setCells blk (off+kk*2) ((List.replicate (d.size-kk) (encM ⟨0,0⟩)).flatten)=putRowK encM 2 (Sort.ahead w q2) blk off (lay dk kk (List.replicate (d.size-kk) ⟨0,0⟩)):=by
        rw [W2.out,←putRowK_setCells encM 2 encM_len _ blk off (List.replicate (d.size-kk) ⟨0,0⟩) dk kk (by simp;omega),List.flatMap_def,List.map_replicate]
       have LY:Aside _:=LY0
       clear LY0
       go_wp2
       go_ret
       have hI:=I2.out
       rw [hend] at hI
       refine ⟨by rw [hI.len];rfl,q2,?_⟩
       rw [hI.len,←hI.done ⟨0,0⟩,LY.out]
    ·have NE:Aside (keeps d k=true):=keeps_pos (by rw [B.out.1,B.out.2];intro e;injection e with e1 e2;exact hdup ⟨e1,e2⟩)
     by_cases hx1:x1=y1
     ·subst hx1
      have hx2:x2≠y2:=fun e=>hdup ⟨rfl,e⟩
      go_wp2_with fail
      go_region_o
      go_wp2
      go_roundg (d.size-(k+1))
      case measure=>omega
      case rel=>
       refine ⟨k+1,q+1,by omega,by omega,Nat.le_refl _,by go_num,rfl,fun j hj=>?_⟩
       by_cases e:j=k
       ·subst e;exact NE.out
       ·exact A.out j (by omega)
     ·go_wp2_with fail
      go_region_o
      go_wp2
      go_roundg (d.size-(k+1))
      case measure=>omega
      case rel=>
       refine ⟨k+1,q+1,by omega,by omega,Nat.le_refl _,by go_num,rfl,fun j hj=>?_⟩
       by_cases e:j=k
       ·subst e;exact NE.out
       ·exact A.out j (by omega)
   ·have:k=d.size:=by omega
    subst this
    have HH:Aside (HoldsK encM 2 w blk off d):=hH
    clear hH
    go_wp2
    go_ret
    obtain ⟨e1,e2⟩:=HS.out q hall
    exact ⟨by rw [e1];rfl,q,e2⟩
def cmpM (x y:Move):Int:=if Lib.compareInt x.act y.act≠0 then Lib.compareInt x.act y.act else Lib.compareInt x.to y.to
set_option maxHeartbeats 4000000 in
set_option maxRecDepth 1000000 in
theorem byMove_same (f:Int→Int→Int) (hcon:∀(a b:Int) (W':World),Calls Tryz.prog 49 #[.int .i64 a,.int .i64 b] W' fun e w'=>e=.returned (.int .i64 (f a b))∧w'=W') (a b c d:Int) (W:World) (h:f a c=0):Calls Tryz.prog 23 #[.agg #[.int .i64 a,.int .i64 b],.agg #[.int .i64 c,.int .i64 d]] W fun e w'=>e=.returned (.int .i64 (f b d))∧∃q os',w'=grow (W.drewN q) os':=by
 go_enter Tryz.func23,Tryz.ntmps23
 go_wp2_with (go_at_call 49;refine (hcon _ _ _).mono ?_;rintro e w' ⟨rfl,rfl⟩)
 go_ret
 exact ⟨rfl,0,_,by rw [alloc_eq_grow,alloc_eq_grow,grow_grow];rfl⟩
set_option maxHeartbeats 4000000 in
set_option maxRecDepth 1000000 in
theorem byMove_diff (f:Int→Int→Int) (hcon:∀(a b:Int) (W':World),Calls Tryz.prog 49 #[.int .i64 a,.int .i64 b] W' fun e w'=>e=.returned (.int .i64 (f a b))∧w'=W') (a b c d:Int) (W:World) (h:f a c≠0):Calls Tryz.prog 23 #[.agg #[.int .i64 a,.int .i64 b],.agg #[.int .i64 c,.int .i64 d]] W fun e w'=>e=.returned (.int .i64 (f a c))∧∃q os',w'=grow (W.drewN q) os':=by
 go_enter Tryz.func23,Tryz.ntmps23
 go_wp2_with (go_at_call 49;refine (hcon _ _ _).mono ?_;rintro e w' ⟨rfl,rfl⟩)
 go_ret
 exact ⟨rfl,0,_,by rw [alloc_eq_grow,alloc_eq_grow,grow_grow];rfl⟩
theorem byMove_calls (x y:Move) (W:World):Calls Tryz.prog 23 #[.agg #[.int .i64 x.act,.int .i64 x.to],.agg #[.int .i64 y.act,.int .i64 y.to]] W fun e w'=>e=.returned (.int .i64 (cmpM x y))∧∃q os',w'=grow (W.drewN q) os':=by
 by_cases h:Lib.compareInt x.act y.act=0
 ·have hc:cmpM x y=Lib.compareInt x.to y.to:=by simp [cmpM,h]
  rw [hc]
  exact byMove_same Lib.compareInt (fun a b W'=>AnyG.cmp_Compare_int Tryz.lays5C a b W') _ _ _ _ _ h
 ·have hc:cmpM x y=Lib.compareInt x.act y.act:=by simp [cmpM,h]
  rw [hc]
  exact byMove_diff Lib.compareInt (fun a b W'=>AnyG.cmp_Compare_int Tryz.lays5C a b W') _ _ _ _ _ h
theorem ltM (x y:Move):ltOf cmpM x y=decide (x.act<y.act∨(x.act=y.act∧x.to<y.to)):=by
 unfold ltOf cmpM Lib.compareInt
 by_cases h1:x.act<y.act
 ·simp [h1]
 ·by_cases h2:y.act<x.act
  ·have:¬x.act=y.act:=by omega
   simp [h1,h2,this]
  ·have:x.act=y.act:=by omega
   by_cases h3:x.to<y.to
   ·simp [this,h3]
   ·by_cases h4:y.to<x.to<;>simp [this,h3,h4]
theorem swoM:SWO (ltOf cmpM) where
 irrefl x:=by rw [ltM];simp
 trans x y z h1 h2:=by rw [ltM] at*;simp at*;omega
 ntrans x y z h1 h2:=by rw [ltM] at*;simp at*;omega
theorem totM (x y:Move) (h1:ltOf cmpM x y=false) (h2:ltOf cmpM y x=false):x=y:=by
 rw [ltM] at h1 h2
 obtain ⟨a,b⟩:=x
 obtain ⟨c,d⟩:=y
 simp at h1 h2
 simp only [Move.mk.injEq]
 omega
theorem leM_eq (x y:Move):(!(ltOf cmpM) y x)=leM x y:=by
 rw [ltM,Bool.eq_iff_iff]
 unfold leM
 simp
 omega
theorem byMove_lays (blk off size:Nat) (w:World):CmpLays Tryz.prog 23 #[] encM 2 cmpM blk off size w:=
 fun _ _ _ _ x y=>byMove_calls x y _
theorem sortFunc_calls (blk off cap:Nat) (zs:List Move) (w:World) (hH:HoldsK encM 2 w blk off zs.toArray) (hb:blk<w.heap.size) (hl:zs.length<4611686018427387904):
  Calls Tryz.prog 57 #[.slice (some ⟨blk,off,none⟩) zs.length cap,.func (.func 23) #[] #[]] w fun e w'=>e=.returned (.tuple #[])∧∃n os,w'=sortWorldK encM 2 w blk off n (sortM zs).toArray os:=by
 have eg:∀args w,(callFunc 23 args).run Tryz.prog w=.ok (.enter 23 args) w:=enters_of Tryz.func23 (by kernel_rfl) rfl
 have h:=AnyQ.slices_SortFunc_total Tryz.lays6M 2 Tryz.isAgg45 Tryz.sizeOf45 encM (fun _=>rfl) (fun x v hv=>by simp [encM] at hv;rcases hv with rfl|rfl<;>rfl) cmpM swoM 23 #[] blk off cap zs.toArray w eg (byMove_lays _ _ _ _) hH hb (by simpa using hl) totM
 have e:(fun x y=>!(ltOf cmpM) y x)=leM:=by funext x y;exact leM_eq x y
 rw [e] at h
 change Calls Tryz.prog 57 _ _ _ at h
 simpa [sortM] using h
theorem sortFunc_none (a:Option Addr) (cap:Nat) (fv:Value) (w:World):Calls Tryz.prog 57 #[.slice a 0 cap,fv] w fun e w'=>e=.returned (.tuple #[])∧w'=w:=AnyF.slices_SortFunc_none Tryz.lays6M a cap fv w
set_option maxHeartbeats 4000000 in
set_option maxRecDepth 1000000 in
theorem compact_none (a:Option Addr) (cap:Nat) (w:World):Calls Tryz.prog 58 #[.slice a 0 cap] w fun e w'=>e=.returned (.slice a 0 cap)∧w'=w:=by
 go_enter Tryz.func58,Tryz.ntmps58
 go_wp2
 go_ret
 exact ⟨rfl,rfl⟩
theorem compact_calls (blk off cap:Nat) (zs:List Move) (w:World) (hH:HoldsK encM 2 w blk off zs.toArray) (hsz:zs.length≤9223372036854775807) (hcap:zs.length≤cap):
  Calls Tryz.prog 58 #[.slice (some ⟨blk,off,none⟩) zs.length cap] w fun e w'=>e=.returned (.slice (some ⟨blk,off,none⟩) (Lib.compact zs).length cap)∧∃q,w'=putRowK encM 2 (Sort.ahead w q) blk off (Lib.compact zs++List.replicate (zs.length-(Lib.compact zs).length) (⟨0,0⟩:Move)).toArray:=by
 have h:=compact_arr blk off cap zs.toArray w hH (by simpa using hsz) (by simpa using hcap)
 simpa [Lib.compact] using h
theorem compact_le (zs:List Move):(Lib.compact zs).length≤zs.length:=by
 unfold Lib.compact Lib.compactUpTo
 rw [List.length_map]
 exact Nat.le_trans (List.length_filter_le _ _) (by simp)
set_option maxHeartbeats 4000000 in
set_option maxRecDepth 1000000 in
theorem tidy_none (a:Option Addr) (cap:Nat) (w:World):Calls Tryz.prog 38 #[.slice a 0 cap] w fun e w'=>e=.returned (.slice a 0 cap)∧w'=w:=by
 have h1:=fun w=>sortFunc_none a cap (.func (.func 23) #[] #[]) w
 have h2:=compact_none a cap
 go_enter Tryz.func38,Tryz.ntmps38
 go_wp2_with (first|(go_at_call 57;refine (h1 _).mono ?_;rintro e w' ⟨rfl,rfl⟩)|(go_at_call 58;refine (h2 _).mono ?_;rintro e w' ⟨rfl,rfl⟩))
 go_ret
 exact ⟨rfl,rfl⟩
theorem worlds (w:World) (blk off n q:Nat) (a b:Array Move) (os:Array Go.Obj) (hb:blk<w.heap.size) (hs:b.size=a.size):
  putRowK encM 2 (Sort.ahead (sortWorldK encM 2 w blk off n a os) q) blk off b=sortWorldK encM 2 w blk off (n+q) b os:=by
 unfold sortWorldK putRowK
 exact grow_step id w os n q blk off _ _ hb (by simp [hs])
set_option maxHeartbeats 4000000 in
set_option maxRecDepth 1000000 in
theorem tidy_calls (blk off cap:Nat) (zs:List Move) (w:World) (hH:HoldsK encM 2 w blk off zs.toArray) (hb:blk<w.heap.size) (hl:zs.length<4611686018427387904) (hcap:zs.length≤cap):
  Calls Tryz.prog 38 #[.slice (some ⟨blk,off,none⟩) zs.length cap] w fun e w'=>e=.returned (.slice (some ⟨blk,off,none⟩) (tidyM zs).length cap)∧∃n os,w'=sortWorldK encM 2 w blk off n (tidyM zs++List.replicate (zs.length-(tidyM zs).length) (⟨0,0⟩:Move)).toArray os:=by
 have hlen:(sortM zs).length=zs.length:=List.length_mergeSort zs
 have hle:(Lib.compact (sortM zs)).length≤zs.length:=by rw [←hlen];exact compact_le _
 have h1:=sortFunc_calls blk off cap zs w hH hb hl
 have h2:=fun n os=>compact_calls blk off cap (sortM zs) (sortWorldK encM 2 w blk off n (sortM zs).toArray os) (holdsK_grow encM 2 _ _ blk off _ (by show blk<(w.heap.modify blk _).size;rw [Array.size_modify];exact hb) (holdsK_putRowK encM 2 _ blk off zs.toArray _ hH (by simp [hlen]))) (by omega) (by omega)
 rw [hlen] at h2
 have h3:∀n os q,putRowK encM 2 (Sort.ahead (sortWorldK encM 2 w blk off n (sortM zs).toArray os) q) blk off (Lib.compact (sortM zs)++List.replicate (zs.length-(Lib.compact (sortM zs)).length) (⟨0,0⟩:Move)).toArray=sortWorldK encM 2 w blk off (n+q) (Lib.compact (sortM zs)++List.replicate (zs.length-(Lib.compact (sortM zs)).length) (⟨0,0⟩:Move)).toArray os:=
  fun n os q=>worlds w blk off n q _ _ os hb (by simp;omega)
 change Calls Tryz.prog 38 _ _ fun e w'=>e=.returned (.slice _ (Lib.compact (sortM zs)).length cap)∧∃n os,w'=sortWorldK encM 2 w blk off n (Lib.compact (sortM zs)++List.replicate (zs.length-(Lib.compact (sortM zs)).length) (⟨0,0⟩:Move)).toArray os
 generalize (Lib.compact (sortM zs)++List.replicate (zs.length-(Lib.compact (sortM zs)).length) (⟨0,0⟩:Move)).toArray=R at h2 h3⊢
 generalize (Lib.compact (sortM zs)).length=m at h2 hle⊢
 generalize (sortM zs).toArray=S at h1 h2 h3
 clear hH
 go_enter Tryz.func38,Tryz.ntmps38
 go_wp2_with (first|(go_at_call 57;refine h1.mono ?_;rintro e w' ⟨rfl,n,os,rfl⟩)|(go_at_call 58;refine (h2 _ _).mono ?_;rintro e w' ⟨rfl,q,rfl⟩))
 go_ret
 exact ⟨rfl,_,_,rfl⟩
theorem tidyC (blk off cap:Nat) (zs:List Move) (w:World) (hH:HoldsK encM 2 w blk off zs.toArray) (hb:blk<w.heap.size) (hl:zs.length<4611686018427387904) (hcap:zs.length≤cap):
  Calls Tryz.prog 38 #[.slice (some ⟨blk,off,none⟩) zs.length cap] w fun e w'=>e=.returned (.slice (some ⟨blk,off,none⟩) (tidyM zs).length cap)∧∃n os,w'=sortWorldK encM 2 w blk off n (restM zs).toArray os:=tidy_calls blk off cap zs w hH hb hl hcap
theorem tidyNone (a:Option Addr) (cap:Nat) (w:World):Calls Tryz.prog 38 #[.slice a 0 cap] w fun e w'=>e=.returned (.slice a 0 cap)∧w'=w:=tidy_none a cap w
theorem below_grown {w w':World} (h:Below w.heap.size w w'):w.grownBy w' none:=⟨h.os,h.tape,h.output,h.size,fun k hk _=>h.block k hk⟩
theorem cloneC (b off n c:Nat) (zs:List Int) (w:World) (h1:n≤zs.length) (h2:n*8≤140737488355328) (h3:∀j,j<zs.length→w.cell? ⟨b,off+j,none⟩=some (.int .i64 (zs.getD j 0))):
  Calls Tryz.prog 35 #[.slice (some ⟨b,off,none⟩) n c] w fun e w'=>∃v',e=.returned v'∧w'.ownsRow w.heap.size 3 1 v' n ((zs.take n).map (Value.int .i64))∧w.grownBy w' none:=
 (Any.slices_Clone_int Tryz.lays15K b off n c zs w h1 h2 h3).mono fun _ _ ⟨v',he,ho,_,hB⟩=>⟨v',he,ho,below_grown hB⟩
theorem cloneZero (a:Addr) (c:Nat) (w:World):Calls Tryz.prog 35 #[.slice (some a) 0 c] w fun e w'=>∃v',e=.returned v'∧w'.ownsRow w.heap.size 3 1 v' 0 []∧w.grownBy w' none:=
 (Any.slices_Clone_int_zero Tryz.lays15K a c w).mono fun _ _ ⟨v',he,ho,_,hB⟩=>⟨v',he,ho,below_grown hB⟩
theorem cloneNil (c:Nat) (w:World):Calls Tryz.prog 35 #[.slice none 0 c] w fun e w'=>e=.returned (.slice none 0 0)∧w'=w:=Any.slices_Clone_int_nil Tryz.lays15K 0 c w
theorem sortC (blk off cap:Nat) (zs:List Int) (w:World) (h1:Go.Sort.Holds (Value.int .i64) w blk off zs.toArray) (h2:blk<w.heap.size) (h3:zs.length<4611686018427387904):
  Calls Tryz.prog 62 #[.slice (some ⟨blk,off,none⟩) zs.length cap] w fun e w'=>e=.returned (.tuple #[])∧∃n os,w'=Go.Sort.grow (Go.Sort.putRow (Value.int .i64) (Go.Sort.ahead w n) blk off (zs.mergeSort fun x y=>decide (x≤y)).toArray) os:=
 Any.slices_Sort_int Tryz.lays189 blk off cap zs w h1 h2 h3
theorem sortNone (a:Option Addr) (cap:Nat) (w:World):Calls Tryz.prog 62 #[.slice a 0 cap] w fun e w'=>e=.returned (.tuple #[])∧w'=w:=Any.slices_Sort_int_none Tryz.lays189 a cap w
theorem compactC (blk off cap:Nat) (zs:List Int) (w:World) (h1:Go.Sort.Holds (Value.int .i64) w blk off zs.toArray) (h2:zs.length≤9223372036854775807) (h3:zs.length≤cap):
  Calls Tryz.prog 63 #[.slice (some ⟨blk,off,none⟩) zs.length cap] w fun e w'=>e=.returned (.slice (some ⟨blk,off,none⟩) (Go.Lib.compact zs).length cap)∧∃q,w'=Go.Sort.putRow (Value.int .i64) (Go.Sort.ahead w q) blk off (restI zs).toArray:=
 AnyG.slices_Compact_int Tryz.lays43C blk off cap zs w h1 h2 h3
theorem compactNone (a:Option Addr) (cap:Nat) (w:World):Calls Tryz.prog 63 #[.slice a 0 cap] w fun e w'=>e=.returned (.slice a 0 cap)∧w'=w:=AnyG.slices_Compact_int_empty Tryz.lays43C a cap w
theorem itoaC (i:Nat) (hi:i<100) (w:World):Calls Tryz.prog 61 #[.int .i64 i] w fun e w'=>e=.returned (.string ⟨(Lib.decDigits i).toArray⟩)∧w'=w:=Any.strconv_Itoa_small Tryz.lays171 i hi w
end Go.Proofs.YtfdcjocallblcaaGreatDoor.Ev
