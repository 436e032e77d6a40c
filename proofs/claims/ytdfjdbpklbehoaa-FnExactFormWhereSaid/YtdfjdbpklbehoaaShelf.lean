/- slices.Sort at []int: the library's contract, laid at this seat by the kit's tools. No condition. -/
import Derived.Shelf.Sort.Plain
import Derived.Shelf.Slices.In.SortNone
import Derived.Test.YtdfjdbpklbehoaaProg
import Derived.Test.YtdfjdbpklbehoaaEvSort
namespace Go.Proofs
open Go.Shelf
def Try.lays189_ren : Go.Shelf.Ren := ⟨fun | 189 => 141 | 125 => 155 | 257 => 154 | 128 => 173 | 129 => 174 | 294 => 164 | 295 => 165 | 296 => 166 | 297 => 167 | 298 => 168 | 299 => 169 | 216 => 170 | 300 => 171 | 301 => 172 | 328 => 184 | 329 => 185 | 330 => 186 | 331 => 187 | 332 => 188 | 215 => 136 | 343 => 192 | n => n, fun | 28 => 30 | 3 => 3 | 46 => 151 | 0 => 0 | 51 => 168 | 53 => 170 | 4 => 4 | 183 => 160 | 182 => 159 | 131 => 165 | 5 => 5 | 9 => 9 | 218 => 177 | 222 => 181 | 228 => 185 | 229 => 186 | n => n, fun | n => n⟩
theorem Try.lays189 : Go.Proofs.Lays.n189 Try.prog Try.lays189_ren := {
  mixed := by kernel_rfl
  f125 := Try.func155.trans (congrArg some (by kernel_rfl))
  f128 := Try.func173.trans (congrArg some (by kernel_rfl))
  f129 := Try.func174.trans (congrArg some (by kernel_rfl))
  f189 := Try.func141.trans (congrArg some (by kernel_rfl))
  f215 := Try.func136.trans (congrArg some (by kernel_rfl))
  f216 := Try.func170.trans (congrArg some (by kernel_rfl))
  f257 := Try.func154.trans (congrArg some (by kernel_rfl))
  f294 := Try.func164.trans (congrArg some (by kernel_rfl))
  f295 := Try.func165.trans (congrArg some (by kernel_rfl))
  f296 := Try.func166.trans (congrArg some (by kernel_rfl))
  f297 := Try.func167.trans (congrArg some (by kernel_rfl))
  f298 := Try.func168.trans (congrArg some (by kernel_rfl))
  f299 := Try.func169.trans (congrArg some (by kernel_rfl))
  f300 := Try.func171.trans (congrArg some (by kernel_rfl))
  f301 := Try.func172.trans (congrArg some (by kernel_rfl))
  f328 := Try.func184.trans (congrArg some (by kernel_rfl))
  f329 := Try.func185.trans (congrArg some (by kernel_rfl))
  f330 := Try.func186.trans (congrArg some (by kernel_rfl))
  f331 := Try.func187.trans (congrArg some (by kernel_rfl))
  f332 := Try.func188.trans (congrArg some (by kernel_rfl))
  f343 := Try.func192.trans (congrArg some (by kernel_rfl))
  t0 := Try.underlying0
  a0 := Try.isAgg0
  z0 := Try.sizeOf0
  v0 := Try.zeroValue0
  t3 := Try.underlying3
  a3 := Try.isAgg3
  z3 := Try.sizeOf3
  v3 := Try.zeroValue3
  t4 := Try.underlying4
  a4 := Try.isAgg4
  z4 := Try.sizeOf4
  v4 := Try.zeroValue4
  t5 := Try.underlying5
  a5 := Try.isAgg5
  z5 := Try.sizeOf5
  v5 := Try.zeroValue5
  t9 := Try.underlying9
  a9 := Try.isAgg9
  z9 := Try.sizeOf9
  v9 := Try.zeroValue9
  t28 := Try.underlying30
  a28 := Try.isAgg30
  z28 := Try.sizeOf30
  v28 := Try.zeroValue30
  t46 := Try.underlying151
  a46 := Try.isAgg151
  z46 := Try.sizeOf151
  v46 := Try.zeroValue151
  t51 := Try.underlying168
  a51 := Try.isAgg168
  z51 := Try.sizeOf168
  v51 := Try.zeroValue168
  t53 := Try.underlying170
  a53 := Try.isAgg170
  z53 := Try.sizeOf170
  v53 := Try.zeroValue170
  t131 := Try.underlying165
  a131 := Try.isAgg165
  z131 := Try.sizeOf165
  v131 := Try.zeroValue165
  t182 := Try.underlying159
  a182 := Try.isAgg159
  z182 := Try.sizeOf159
  v182 := Try.zeroValue159
  t183 := Try.underlying160
  a183 := Try.isAgg160
  z183 := Try.sizeOf160
  v183 := Try.zeroValue160
  t218 := Try.underlying177
  a218 := Try.isAgg177
  z218 := Try.sizeOf177
  v218 := Try.zeroValue177
  t222 := Try.underlying181
  a222 := Try.isAgg181
  z222 := Try.sizeOf181
  v222 := Try.zeroValue181
  t228 := Try.underlying185
  a228 := Try.isAgg185
  z228 := Try.sizeOf185
  v228 := Try.zeroValue185
  t229 := Try.underlying186
  a229 := Try.isAgg186
  z229 := Try.sizeOf186
  v229 := Try.zeroValue186 }
open Go.Sort Go.RowKit in
theorem Try.slices_Sort_int (blk off cap : Nat) (zs : List Int) (w : World) (hH : Holds (Value.int .i64) w blk off zs.toArray) (hblk : blk < w.heap.size) (hsz : zs.length < 4611686018427387904) :
    Calls Try.prog 141 #[.slice (some ⟨blk, off, none⟩) zs.length cap] w fun e w' =>
      e = .returned (.tuple #[]) ∧ ∃ n os, w' = grow (putRow (Value.int .i64) (Sort.ahead w n) blk off (zs.mergeSort fun x y => decide (x ≤ y)).toArray) os := Any.slices_Sort_int Try.lays189 blk off cap zs w hH hblk hsz
open Go.RowKit Go.Sort in
/-- .. and plain. (LAID: no walk: one application.) -/
theorem Try.slices_Sort_int_none (p : Option Addr) (cap : Nat) (w : World) :
    Calls Try.prog 141 #[.slice p 0 cap] w fun e w' => e = .returned (.tuple #[]) ∧ w' = w := Any.slices_Sort_int_none Try.lays189 p cap w
end Go.Proofs
namespace Go.Proofs.Ytdfjdbpklbehoaa.Ev
open Go
theorem sortC (blk off cap : Nat) (zs : List Int) (w : World) (h1 : Go.Sort.Holds (Value.int .i64) w blk off zs.toArray) (h2 : blk < w.heap.size) (h3 : zs.length < 4611686018427387904) :
    Calls Try.prog 141 #[.slice (some ⟨blk, off, none⟩) zs.length cap] w fun e w' => e = .returned (.tuple #[]) ∧ ∃ n os, w' = Go.Sort.grow (Go.Sort.putRow (Value.int .i64) (Go.Sort.ahead w n) blk off (zs.mergeSort fun x y => decide (x ≤ y)).toArray) os :=
  Try.slices_Sort_int blk off cap zs w h1 h2 h3
theorem sortNone (a : Option Addr) (cap : Nat) (w : World) : Calls Try.prog 141 #[.slice a 0 cap] w fun e w' => e = .returned (.tuple #[]) ∧ w' = w := Try.slices_Sort_int_none a cap w
end Go.Proofs.Ytdfjdbpklbehoaa.Ev
