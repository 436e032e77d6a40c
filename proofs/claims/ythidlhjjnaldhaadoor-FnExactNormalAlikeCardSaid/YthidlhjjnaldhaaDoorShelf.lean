/- strconv.Itoa, slices.Sort at []string, as far as this text wants them: the library's contracts, laid by the kit's tools. No condition. -/
import Derived.Shelf.Strconv.Itoa3
import Derived.Shelf.Sort.Plain
import Derived.Shelf.Slices.In.SortNone
import Derived.Test.YthidlhjjnaldhaaDoorProg
import Derived.Test.YthidlhjjnaldhaaDoorEvItoa
import Derived.Test.YthidlhjjnaldhaaDoorEvSortS
namespace Go.Proofs
open Go.Shelf
def Tryd.lays171_ren : Go.Shelf.Ren := ⟨fun | 171 => 51 | 243 => 73 | 246 => 81 | 283 => 93 | 284 => 94 | 285 => 95 | 286 => 96 | 129 => 92 | 317 => 103 | 318 => 104 | 319 => 105 | 320 => 106 | 337 => 108 | 338 => 109 | n => n, fun | 3 => 3 | 9 => 9 | 2 => 2 | 4 => 4 | 171 => 99 | 0 => 0 | 53 => 98 | 37 => 77 | 5 => 5 | 173 => 101 | 212 => 111 | 51 => 96 | 20 => 20 | 213 => 112 | 46 => 82 | 232 => 116 | 233 => 117 | n => n, fun | 17 => 0 | 18 => 1 | 19 => 2 | n => n⟩
theorem Tryd.lays171 : Go.Proofs.Lays.n171 Tryd.prog Tryd.lays171_ren := {
  mixed := by kernel_rfl
  f129 := Tryd.func92.trans (congrArg some (by kernel_rfl))
  f171 := Tryd.func51.trans (congrArg some (by kernel_rfl))
  f243 := Tryd.func73.trans (congrArg some (by kernel_rfl))
  f246 := Tryd.func81.trans (congrArg some (by kernel_rfl))
  f283 := Tryd.func93.trans (congrArg some (by kernel_rfl))
  f284 := Tryd.func94.trans (congrArg some (by kernel_rfl))
  f285 := Tryd.func95.trans (congrArg some (by kernel_rfl))
  f286 := Tryd.func96.trans (congrArg some (by kernel_rfl))
  f317 := Tryd.func103.trans (congrArg some (by kernel_rfl))
  f318 := Tryd.func104.trans (congrArg some (by kernel_rfl))
  f319 := Tryd.func105.trans (congrArg some (by kernel_rfl))
  f320 := Tryd.func106.trans (congrArg some (by kernel_rfl))
  f337 := Tryd.func108.trans (congrArg some (by kernel_rfl))
  f338 := Tryd.func109.trans (congrArg some (by kernel_rfl))
  t0 := Tryd.underlying0
  a0 := Tryd.isAgg0
  z0 := Tryd.sizeOf0
  v0 := Tryd.zeroValue0
  t2 := Tryd.underlying2
  a2 := Tryd.isAgg2
  z2 := Tryd.sizeOf2
  v2 := Tryd.zeroValue2
  t3 := Tryd.underlying3
  a3 := Tryd.isAgg3
  z3 := Tryd.sizeOf3
  v3 := Tryd.zeroValue3
  t4 := Tryd.underlying4
  a4 := Tryd.isAgg4
  z4 := Tryd.sizeOf4
  v4 := Tryd.zeroValue4
  t5 := Tryd.underlying5
  a5 := Tryd.isAgg5
  z5 := Tryd.sizeOf5
  v5 := Tryd.zeroValue5
  t9 := Tryd.underlying9
  a9 := Tryd.isAgg9
  z9 := Tryd.sizeOf9
  v9 := Tryd.zeroValue9
  t20 := Tryd.underlying20
  a20 := Tryd.isAgg20
  z20 := Tryd.sizeOf20
  v20 := Tryd.zeroValue20
  t37 := Tryd.underlying77
  a37 := Tryd.isAgg77
  z37 := Tryd.sizeOf77
  v37 := Tryd.zeroValue77
  t46 := Tryd.underlying82
  a46 := Tryd.isAgg82
  z46 := Tryd.sizeOf82
  v46 := Tryd.zeroValue82
  t51 := Tryd.underlying96
  a51 := Tryd.isAgg96
  z51 := Tryd.sizeOf96
  v51 := Tryd.zeroValue96
  t53 := Tryd.underlying98
  a53 := Tryd.isAgg98
  z53 := Tryd.sizeOf98
  v53 := Tryd.zeroValue98
  t171 := Tryd.underlying99
  a171 := Tryd.isAgg99
  z171 := Tryd.sizeOf99
  v171 := Tryd.zeroValue99
  t173 := Tryd.underlying101
  a173 := Tryd.isAgg101
  z173 := Tryd.sizeOf101
  v173 := Tryd.zeroValue101
  t212 := Tryd.underlying111
  a212 := Tryd.isAgg111
  z212 := Tryd.sizeOf111
  v212 := Tryd.zeroValue111
  t213 := Tryd.underlying112
  a213 := Tryd.isAgg112
  z213 := Tryd.sizeOf112
  t232 := Tryd.underlying116
  a232 := Tryd.isAgg116
  z232 := Tryd.sizeOf116
  v232 := Tryd.zeroValue116
  t233 := Tryd.underlying117
  a233 := Tryd.isAgg117
  z233 := Tryd.sizeOf117
  v233 := Tryd.zeroValue117
  g17 := by kernel_rfl
  g18 := by kernel_rfl
  g19 := by kernel_rfl }
def Tryd.lays190_ren : Go.Shelf.Ren := ⟨fun | 190 => 59 | 125 => 77 | 258 => 76 | 128 => 91 | 129 => 92 | 302 => 82 | 303 => 83 | 304 => 84 | 305 => 85 | 306 => 86 | 307 => 87 | 308 => 88 | 309 => 89 | 310 => 90 | 333 => 97 | 329 => 98 | 330 => 99 | 334 => 100 | 335 => 101 | 336 => 102 | 344 => 107 | n => n, fun | 31 => 60 | 9 => 9 | 3 => 3 | 46 => 82 | 0 => 0 | 51 => 96 | 53 => 98 | 4 => 4 | 183 => 88 | 182 => 87 | 131 => 93 | 5 => 5 | 218 => 103 | 222 => 107 | 228 => 113 | 229 => 114 | n => n, fun | n => n⟩
theorem Tryd.lays190 : Go.Proofs.Lays.n190 Tryd.prog Tryd.lays190_ren := {
  mixed := by kernel_rfl
  f125 := Tryd.func77.trans (congrArg some (by kernel_rfl))
  f128 := Tryd.func91.trans (congrArg some (by kernel_rfl))
  f129 := Tryd.func92.trans (congrArg some (by kernel_rfl))
  f190 := Tryd.func59.trans (congrArg some (by kernel_rfl))
  f258 := Tryd.func76.trans (congrArg some (by kernel_rfl))
  f302 := Tryd.func82.trans (congrArg some (by kernel_rfl))
  f303 := Tryd.func83.trans (congrArg some (by kernel_rfl))
  f304 := Tryd.func84.trans (congrArg some (by kernel_rfl))
  f305 := Tryd.func85.trans (congrArg some (by kernel_rfl))
  f306 := Tryd.func86.trans (congrArg some (by kernel_rfl))
  f307 := Tryd.func87.trans (congrArg some (by kernel_rfl))
  f308 := Tryd.func88.trans (congrArg some (by kernel_rfl))
  f309 := Tryd.func89.trans (congrArg some (by kernel_rfl))
  f310 := Tryd.func90.trans (congrArg some (by kernel_rfl))
  f329 := Tryd.func98.trans (congrArg some (by kernel_rfl))
  f330 := Tryd.func99.trans (congrArg some (by kernel_rfl))
  f333 := Tryd.func97.trans (congrArg some (by kernel_rfl))
  f334 := Tryd.func100.trans (congrArg some (by kernel_rfl))
  f335 := Tryd.func101.trans (congrArg some (by kernel_rfl))
  f336 := Tryd.func102.trans (congrArg some (by kernel_rfl))
  f344 := Tryd.func107.trans (congrArg some (by kernel_rfl))
  t0 := Tryd.underlying0
  a0 := Tryd.isAgg0
  z0 := Tryd.sizeOf0
  v0 := Tryd.zeroValue0
  t3 := Tryd.underlying3
  a3 := Tryd.isAgg3
  z3 := Tryd.sizeOf3
  v3 := Tryd.zeroValue3
  t4 := Tryd.underlying4
  a4 := Tryd.isAgg4
  z4 := Tryd.sizeOf4
  v4 := Tryd.zeroValue4
  t5 := Tryd.underlying5
  a5 := Tryd.isAgg5
  z5 := Tryd.sizeOf5
  v5 := Tryd.zeroValue5
  t9 := Tryd.underlying9
  a9 := Tryd.isAgg9
  z9 := Tryd.sizeOf9
  v9 := Tryd.zeroValue9
  t31 := Tryd.underlying60
  a31 := Tryd.isAgg60
  z31 := Tryd.sizeOf60
  v31 := Tryd.zeroValue60
  t46 := Tryd.underlying82
  a46 := Tryd.isAgg82
  z46 := Tryd.sizeOf82
  v46 := Tryd.zeroValue82
  t51 := Tryd.underlying96
  a51 := Tryd.isAgg96
  z51 := Tryd.sizeOf96
  v51 := Tryd.zeroValue96
  t53 := Tryd.underlying98
  a53 := Tryd.isAgg98
  z53 := Tryd.sizeOf98
  v53 := Tryd.zeroValue98
  t131 := Tryd.underlying93
  a131 := Tryd.isAgg93
  z131 := Tryd.sizeOf93
  v131 := Tryd.zeroValue93
  t182 := Tryd.underlying87
  a182 := Tryd.isAgg87
  z182 := Tryd.sizeOf87
  v182 := Tryd.zeroValue87
  t183 := Tryd.underlying88
  a183 := Tryd.isAgg88
  z183 := Tryd.sizeOf88
  v183 := Tryd.zeroValue88
  t218 := Tryd.underlying103
  a218 := Tryd.isAgg103
  z218 := Tryd.sizeOf103
  v218 := Tryd.zeroValue103
  t222 := Tryd.underlying107
  a222 := Tryd.isAgg107
  z222 := Tryd.sizeOf107
  v222 := Tryd.zeroValue107
  t228 := Tryd.underlying113
  a228 := Tryd.isAgg113
  z228 := Tryd.sizeOf113
  v228 := Tryd.zeroValue113
  t229 := Tryd.underlying114
  a229 := Tryd.isAgg114
  z229 := Tryd.sizeOf114
  v229 := Tryd.zeroValue114 }
end Go.Proofs
namespace Go.Proofs.YthidlhjjnaldhaaDoor.Ev
open Go Go.Proofs Go.Shelf Go.RowKit Go.Lib Go.Sort
theorem itoaC (i : Nat) (hi : i < 100) (w : World) : Calls Tryd.prog 51 #[.int .i64 i] w fun e w' => e = .returned (.string ⟨(Lib.decDigits i).toArray⟩) ∧ w' = w := Any.strconv_Itoa_small Tryd.lays171 i hi w
theorem sortSC (blk off cap : Nat) (zs : List (List UInt8)) (w : World) (h1 : Go.Sort.Holds encStr w blk off zs.toArray) (h2 : blk < w.heap.size) (h3 : zs.length < 4611686018427387904) :
    Calls Tryd.prog 59 #[.slice (some ⟨blk, off, none⟩) zs.length cap] w fun e w' => e = .returned (.tuple #[]) ∧ ∃ n os, w' = Go.Sort.grow (Go.Sort.putRow encStr (Go.Sort.ahead w n) blk off (zs.mergeSort fun x y => decide (x ≤ y)).toArray) os :=
  Any.slices_Sort_string Tryd.lays190 blk off cap zs w h1 h2 h3
theorem sortSNone (a : Option Addr) (cap : Nat) (w : World) : Calls Tryd.prog 59 #[.slice a 0 cap] w fun e w' => e = .returned (.tuple #[]) ∧ w' = w := Any.slices_Sort_string_none Tryd.lays190 a cap w
end Go.Proofs.YthidlhjjnaldhaaDoor.Ev
