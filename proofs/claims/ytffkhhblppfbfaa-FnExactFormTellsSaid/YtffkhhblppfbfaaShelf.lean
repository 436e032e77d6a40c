/- slices.Sort, slices.Clone at []int, impl.tidy (slices.SortFunc, slices.Compact at []Move), strconv.Itoa, as far as this seat has them: the library's contracts, laid by the kit's tools; slices.Compact and impl.tidy walked. No condition. -/
import Derived.Shelf.SlSortCmp.WholeK
import Derived.Shelf.SlSortCmp.NoneTotal
import Derived.Shelf.SlicesG.Cmp
import Derived.Shelf.Slices.Clone
import Derived.Shelf.Sort.Plain
import Derived.Shelf.Slices.In.SortNone
import Derived.Test.YtffkhhblppfbfaaProg
import Derived.Shelf.SlicesG.CompactI
import Derived.Shelf.SlicesQ.Reverse
import Derived.Shelf.GgSortFunc.RowK
import Derived.Test.YtffkhhblppfbfaaEvTidy
import Derived.Test.YtffkhhblppfbfaaEvClone
namespace Go.Proofs
open Go.Shelf
def Try.lays6M_ren : Go.Shelf.Ren := ⟨fun | 6 => 73 | 15 => 85 | 14 => 84 | 28 => 100 | 29 => 101 | 20 => 92 | 21 => 93 | 22 => 94 | 23 => 95 | 24 => 96 | 25 => 97 | 26 => 98 | 27 => 99 | 46 => 108 | 47 => 109 | 48 => 110 | 49 => 111 | 50 => 112 | 57 => 113 | n => n, fun | 22 => 70 | 24 => 72 | 25 => 79 | 3 => 3 | 39 => 111 | 0 => 0 | 53 => 131 | 55 => 133 | 4 => 4 | 46 => 124 | 45 => 123 | 50 => 128 | 5 => 5 | 9 => 9 | 66 => 138 | 70 => 142 | 76 => 144 | 77 => 145 | n => n, fun | n => n⟩
theorem Try.lays6M : Go.Proofs.SlLaysF0.n6 Try.prog Try.lays6M_ren := {
  mixed := by kernel_rfl
  f6 := ⟨Try.f73.name, by decide, Try.func73.trans (congrArg some (by kernel_rfl))⟩
  f14 := ⟨Try.f84.name, by decide, Try.func84.trans (congrArg some (by kernel_rfl))⟩
  f15 := Try.func85.trans (congrArg some (by kernel_rfl))
  f20 := ⟨Try.f92.name, by decide, Try.func92.trans (congrArg some (by kernel_rfl))⟩
  f21 := ⟨Try.f93.name, by decide, Try.func93.trans (congrArg some (by kernel_rfl))⟩
  f22 := ⟨Try.f94.name, by decide, Try.func94.trans (congrArg some (by kernel_rfl))⟩
  f23 := ⟨Try.f95.name, by decide, Try.func95.trans (congrArg some (by kernel_rfl))⟩
  f24 := ⟨Try.f96.name, by decide, Try.func96.trans (congrArg some (by kernel_rfl))⟩
  f25 := ⟨Try.f97.name, by decide, Try.func97.trans (congrArg some (by kernel_rfl))⟩
  f26 := ⟨Try.f98.name, by decide, Try.func98.trans (congrArg some (by kernel_rfl))⟩
  f27 := ⟨Try.f99.name, by decide, Try.func99.trans (congrArg some (by kernel_rfl))⟩
  f28 := Try.func100.trans (congrArg some (by kernel_rfl))
  f29 := Try.func101.trans (congrArg some (by kernel_rfl))
  f46 := ⟨Try.f108.name, by decide, Try.func108.trans (congrArg some (by kernel_rfl))⟩
  f47 := Try.func109.trans (congrArg some (by kernel_rfl))
  f48 := Try.func110.trans (congrArg some (by kernel_rfl))
  f49 := ⟨Try.f111.name, by decide, Try.func111.trans (congrArg some (by kernel_rfl))⟩
  f50 := ⟨Try.f112.name, by decide, Try.func112.trans (congrArg some (by kernel_rfl))⟩
  f57 := ⟨Try.f113.name, by decide, Try.func113.trans (congrArg some (by kernel_rfl))⟩
  t0 := Try.underlying0
  a0 := Try.isAgg0
  z0 := Try.sizeOf0
  v0 := Try.zeroValue0
  t3 := Try.underlying3
  a3 := Try.isAgg3
  z3 := Try.sizeOf3
  v3 := Try.zeroValue3
  t4 := Try.underlying4
  a4 := Try.isAgg4
  z4 := Try.sizeOf4
  v4 := Try.zeroValue4
  t5 := Try.underlying5
  a5 := Try.isAgg5
  z5 := Try.sizeOf5
  v5 := Try.zeroValue5
  t9 := Try.underlying9
  a9 := Try.isAgg9
  z9 := Try.sizeOf9
  v9 := Try.zeroValue9
  t22 := Try.underlying70
  a22 := Try.isAgg70
  z22 := Try.sizeOf70
  v22 := Try.zeroValue70
  t25 := Try.underlying79
  a25 := Try.isAgg79
  z25 := Try.sizeOf79
  v25 := Try.zeroValue79
  t39 := Try.underlying111
  a39 := Try.isAgg111
  z39 := Try.sizeOf111
  v39 := Try.zeroValue111
  t45 := Try.underlying123
  a45 := Try.isAgg123
  z45 := Try.sizeOf123
  v45 := Try.zeroValue123
  t46 := Try.underlying124
  a46 := Try.isAgg124
  z46 := Try.sizeOf124
  v46 := Try.zeroValue124
  t50 := Try.underlying128
  a50 := Try.isAgg128
  z50 := Try.sizeOf128
  v50 := Try.zeroValue128
  t53 := Try.underlying131
  a53 := Try.isAgg131
  z53 := Try.sizeOf131
  v53 := Try.zeroValue131
  t55 := Try.underlying133
  a55 := Try.isAgg133
  z55 := Try.sizeOf133
  v55 := Try.zeroValue133
  t66 := Try.underlying138
  a66 := Try.isAgg138
  z66 := Try.sizeOf138
  v66 := Try.zeroValue138
  t70 := Try.underlying142
  a70 := Try.isAgg142
  z70 := Try.sizeOf142
  v70 := Try.zeroValue142
  t76 := Try.underlying144
  a76 := Try.isAgg144
  z76 := Try.sizeOf144
  v76 := Try.zeroValue144
  t77 := Try.underlying145
  a77 := Try.isAgg145
  z77 := Try.sizeOf145
  v77 := Try.zeroValue145 }
def Try.lays5C_ren : Go.Shelf.Ren := ⟨fun | 5 => 69 | 7 => 82 | n => n, fun | 22 => 3 | 3 => 3 | 4 => 4 | n => n, fun | n => n⟩
theorem Try.lays5C : Go.Proofs.SlLaysC2.n5 Try.prog Try.lays5C_ren := {
  mixed := by kernel_rfl
  f5 := ⟨Try.f69.name, by decide, Try.func69.trans (congrArg some (by kernel_rfl))⟩
  f7 := ⟨Try.f82.name, by decide, Try.func82.trans (congrArg some (by kernel_rfl))⟩
  t3 := Try.underlying3
  a3 := Try.isAgg3
  z3 := Try.sizeOf3
  v3 := Try.zeroValue3
  t4 := Try.underlying4
  a4 := Try.isAgg4
  z4 := Try.sizeOf4
  v4 := Try.zeroValue4
  t22 := Try.underlying3
  a22 := Try.isAgg3
  z22 := Try.sizeOf3
  v22 := Try.zeroValue3 }
def Try.lays15K_ren : Go.Shelf.Ren := ⟨fun | 15 => 66 | n => n, fun | 22 => 43 | 3 => 3 | 4 => 4 | n => n, fun | n => n⟩
theorem Try.lays15K : Go.Proofs.Lays2.n15 Try.prog Try.lays15K_ren := {
  mixed := by kernel_rfl
  f15 := Try.func66.trans (congrArg some (by kernel_rfl))
  t3 := Try.underlying3
  a3 := Try.isAgg3
  z3 := Try.sizeOf3
  v3 := Try.zeroValue3
  t4 := Try.underlying4
  a4 := Try.isAgg4
  z4 := Try.sizeOf4
  v4 := Try.zeroValue4
  t22 := Try.underlying43
  a22 := Try.isAgg43
  z22 := Try.sizeOf43
  v22 := Try.zeroValue43
  i3 := by kernel_rfl }
end Go.Proofs
namespace Go.Proofs.Ytffkhhblppfbfaa.Ev
open Go Go.Proofs Go.Shelf Go.RowKit Go.Lib Go.Sort
variable {α : Type} [Inhabited α]

theorem setCells_append (blk : Nat) : ∀ (a b : List Value) (w : World) (o : Nat), w.setCells blk o (a ++ b) = (w.setCells blk o a).setCells blk (o + a.length) b
  | [], _, _, _ => rfl
  | v :: r, b, w, o => by
    simp only [List.cons_append, World.setCells]
    rw [setCells_append blk r b, show o + 1 + r.length = o + (v :: r).length by simp; omega]

theorem set_flatM (enc : α → List Value) (k : Nat) (hk : ∀ x, (enc x).length = k) (d : Array α) (i : Nat) (x : α) (hi : i < d.size) :
    setMany (flatK enc k d) (i * k) (enc x) = flatK enc k (d.setIfInBounds i x) := by
  refine ext_get! (by simp) fun t ht => ?_
  have ht' : t < d.size * k := by simpa using ht
  have k0 : 0 < k := by rcases Nat.eq_zero_or_pos k with h | h; · subst h; simp at ht'
                        · exact h
  rw [get_setMany _ _ _ t (by simpa using ht'), get_flatK _ _ _ t ht', get_flatK _ _ _ t (by simpa using ht'), hk]
  by_cases a : t / k = i
  · rw [if_pos ((blk_iff k i t k0).2 a)]
    subst a
    rw [getElem!_set_same d _ x hi, show t - t / k * k = t % k by rw [Nat.mod_eq_sub_div_mul]]
  · rw [if_neg (fun h => a ((blk_iff k i t k0).1 h)), getElem!_set_other d i _ x a]

theorem putRowK_setCells (enc : α → List Value) (k : Nat) (hk : ∀ x, (enc x).length = k) (w : World) (blk off : Nat) : ∀ (xs : List α) (d : Array α) (i : Nat), i + xs.length ≤ d.size →
    (putRowK enc k w blk off d).setCells blk (off + i * k) (xs.flatMap enc) = putRowK enc k w blk off (lay d i xs)
  | [], _, _, _ => rfl
  | x :: r, d, i, h => by
    have hl : i + (r.length + 1) ≤ d.size := by simpa using h
    have b : i * k + k ≤ d.size * k := by
      have := Nat.mul_le_mul_right k (show i + 1 ≤ d.size by omega); rwa [Nat.add_mul, Nat.one_mul] at this
    simp only [List.flatMap_cons, lay]
    rw [setCells_append, hk, show off + i * k + k = off + (i + 1) * k by rw [Nat.add_mul, Nat.one_mul]; omega]
    rw [show (putRowK enc k w blk off d).setCells blk (off + i * k) (enc x) = putRowK enc k w blk off (d.setIfInBounds i x) from by
      unfold putRowK
      rw [setCells_putRow _ _ _ _ _ _ (by rw [hk, size_flatK]; exact b), set_flatM enc k hk d i x (by omega)]]
    exact putRowK_setCells enc k hk w blk off r _ (i + 1) (by simp; omega)

theorem encM_len (m : Move) : (encM m).length = 2 := rfl

theorem store_world_M {w wr : World} {n blk off : Nat} {dk : Array Move} {i : Nat} (hi : i < dk.size) (hwr : wr = putRowK encM 2 (Sort.ahead w n) blk off dk) (x : Move) :
    wr.drew.setCells blk (off + i * 2) (encM x) = putRowK encM 2 (Sort.ahead w (n + 1)) blk off (dk.setIfInBounds i x) := by
  have h := putRowK_setCells encM 2 encM_len (Sort.ahead w (n + 1)) blk off [x] dk i (by simp; omega)
  simp only [List.flatMap_cons, List.flatMap_nil, List.append_nil, lay] at h
  rw [hwr, ← h]
  have := putRowK_drewN encM 2 w n 1 blk off dk
  rw [show (putRowK encM 2 (Sort.ahead w n) blk off dk).drew = (putRowK encM 2 (Sort.ahead w n) blk off dk).drewN 1 from rfl, this]

theorem run_clear_M {P : Program} (w : World) (t e ty : TypeId) (z : Value) (zs : List Value) (ht : P.underlying t = some (.slice e)) (hv : ∀ w, (zeroValue e).run P w = .ok z w) (hz : z.cells = zs.toArray) (h1 : ∀ v ∈ zs, v.oneCell' = true) (b o n c : Nat) (hn : 0 < n)
    (hc : ∀ j, j < n * zs.length → (w.cell? ⟨b, o + j, none⟩).isSome = true) (hf : ∀ j, j < n * zs.length → w.frozen? ⟨b, o + j, none⟩ = false) :
    (Builtin.clear_ #[t] ty #[.slice (some ⟨b, o, none⟩) n c]).run P w = .ok (.tuple #[]) (w.setCells b o ((List.replicate n zs).flatten)) := by
  have hzc : (Builtin.zeroCells z.cells n).toList = (List.replicate n zs).flatten := by
    rw [hz]
    simp only [Builtin.zeroCells, Array.toList_map, Array.toList_range, List.size_toArray]
    clear hv h1 hc hf hn hz
    induction n with
    | zero => simp
    | succ n ih =>
      rw [List.replicate_succ', List.flatten_append, ← ih, Nat.add_mul, Nat.one_mul, List.range_add, List.map_append]
      congr 1
      simp only [List.flatten_cons, List.flatten_nil, List.append_nil, List.map_map]
      apply List.ext_getElem
      · simp
      · intro i h1 h2
        simp [Nat.mod_eq_of_lt h2, h2]
  have hl : ((List.replicate n zs).flatten).length = n * zs.length := by simp
  have hst := run_storeCells_cells (P := P) b o ((List.replicate n zs).flatten) 0 w (by simpa [hl] using hc) (by simpa [hl] using hf) (by intro v hv'; simp only [List.mem_flatten, List.mem_replicate] at hv'; obtain ⟨l, ⟨_, rfl⟩, h⟩ := hv'; exact h1 v h)
  simp only [Nat.add_zero] at hst
  obtain ⟨m, rfl⟩ : ∃ m, n = m + 1 := ⟨n - 1, by omega⟩
  simp [Builtin.clear_, run_underlying ht, hv, hzc, hst]
set_option maxHeartbeats 4000000 in
set_option maxRecDepth 1000000 in
theorem compact_arr (blk off cap : Nat) (d : Array Move) (w : World) (hH : HoldsK encM 2 w blk off d) (hsz : d.size ≤ 9223372036854775807) (hcap : d.size ≤ cap) :
    Calls Try.prog 74 #[.slice (some ⟨blk, off, none⟩) d.size cap] w fun e w' => e = .returned (.slice (some ⟨blk, off, none⟩) (compactUpTo d d.size).length cap) ∧ ∃ q, w' = putRowK encM 2 (Sort.ahead w q) blk off (compactUpTo d d.size ++ List.replicate (d.size - (compactUpTo d d.size).length) (⟨0, 0⟩ : Move)).toArray := by
  have mixed : Try.prog.follows Departure.mixedOrders = true := by kernel_rfl
  have e51 : Try.prog.underlying 70 = some (.slice 72) := by kernel_rfl
  have z53 : ∀ w, (zeroValue 72).run Try.prog w = .ok (.agg #[.int .i64 0, .int .i64 0]) w := by
    have h : (Try.prog.info? 72).map (fun i => i.zero) = some (some (.agg #[.int .i64 0, .int .i64 0])) := by kernel_rfl
    obtain ⟨i0, hi, hz⟩ := Option.map_eq_some_iff.1 h
    intro w
    simp [zeroValue, typeInfo, hi, hz]
  have same : ∀ q, (∀ j, j < d.size → keeps d j = true) → (compactUpTo d d.size).length = d.size ∧ w.drewN q = putRowK encM 2 (Sort.ahead w q) blk off (compactUpTo d d.size ++ List.replicate (d.size - (compactUpTo d d.size).length) (⟨0, 0⟩ : Move)).toArray := by
    intro q hall
    have e : compactUpTo d d.size = d.toList := by rw [compactUpTo_all d _ hall, range_map_get]
    rw [e]
    refine ⟨by simp, ?_⟩
    simp only [Array.length_toList, Nat.sub_self, List.replicate_zero, List.append_nil, Array.toArray_toList]
    exact (putRowK_self encM 2 (Sort.ahead w q) blk off d (holdsK_ahead encM 2 w q blk off d hH)).symm
  have HS : Aside (∀ q, (∀ j, j < d.size → keeps d j = true) → (compactUpTo d d.size).length = d.size ∧ w.drewN q = putRowK encM 2 (Sort.ahead w q) blk off (compactUpTo d d.size ++ List.replicate (d.size - (compactUpTo d d.size).length) (⟨0, 0⟩ : Move)).toArray) := same
  clear same
  by_cases h2 : d.size < 2
  · have HH : Aside (HoldsK encM 2 w blk off d) := hH
    clear hH
    go_enter Try.func74, Try.ntmps74
    go_wp2
    go_ret
    obtain ⟨e1, e2⟩ := HS.out 0 (fun j hj => keeps_lt_one d j (by omega))
    exact ⟨by rw [e1]; rfl, 0, e2⟩
  · go_enter Try.func74, Try.ntmps74
    go_wp2
    go_loopg [3] d.size (fun g s3 wr => ∃ k q : Nat, 1 ≤ k ∧ k ≤ d.size ∧ d.size - k ≤ g ∧ s3 = .int .i64 k ∧ wr = w.drewN q ∧ ∀ j, j < k → keeps d j = true)
    case atStart => exact ⟨1, 0, Nat.le_refl _, by omega, by omega, rfl, rfl, keeps_lt_one d⟩
    case round =>
      obtain ⟨k, q, hk1, hk, hg, rfl, rfl, hall⟩ := hrel
      by_cases hlt : k < d.size
      · obtain ⟨c1a, f1a⟩ := (hH.cell hlt (show 0 < 2 by omega))
        obtain ⟨c1b, f1b⟩ := (hH.cell hlt (show 1 < 2 by omega))
        obtain ⟨c0a, f0a⟩ := (hH.cell (show k - 1 < d.size by omega) (show 0 < 2 by omega))
        obtain ⟨c0b, f0b⟩ := (hH.cell (show k - 1 < d.size by omega) (show 1 < 2 by omega))
        have A : Aside (∀ j, j < k → keeps d j = true) := hall
        have HH : Aside (HoldsK encM 2 w blk off d) := hH
        clear hall hH
        generalize hx : d[k]! = x at c1a c1b
        generalize hy : d[k - 1]! = y at c0a c0b
        have B : Aside (d[k]! = x ∧ d[k - 1]! = y) := ⟨hx, hy⟩
        clear hx hy
        obtain ⟨x1, x2⟩ := x
        obtain ⟨y1, y2⟩ := y
        change w.cell? ⟨blk, off + k * 2, none⟩ = some (.int .i64 x1) at c1a
        change w.cell? ⟨blk, off + k * 2 + 1, none⟩ = some (.int .i64 x2) at c1b
        change w.cell? ⟨blk, off + (k - 1) * 2, none⟩ = some (.int .i64 y1) at c0a
        change w.cell? ⟨blk, off + (k - 1) * 2 + 1, none⟩ = some (.int .i64 y2) at c0b
        by_cases hdup : x1 = y1 ∧ x2 = y2
        · obtain ⟨rfl, rfl⟩ := hdup
          go_wp2_with fail
          go_region_o
          go_wp2
          clear c0a c0b c1a c1b f0a f0b f1a f1b
          go_loopg [3, 5] d.size (fun g s3 s5 wr => ∃ (kk k2 q2 : Nat) (dk : Array Move), s3 = .int .i64 kk ∧ s5 = .int .i64 k2 ∧ 1 ≤ k2 ∧ k + k2 ≤ d.size ∧ d.size - (k + k2) ≤ g ∧ wr = putRowK encM 2 (Sort.ahead w q2) blk off dk ∧ CompInv d (k + k2) kk dk)
          case atStart => exact ⟨k, 1, q + 1, d, rfl, rfl, Nat.le_refl _, by omega, by omega, (putRowK_self encM 2 (Sort.ahead w (q + 1)) blk off d (holdsK_ahead encM 2 w (q + 1) blk off d HH.out)).symm, CompInv.start A.out (keeps_neg (by omega) (by rw [B.out.1, B.out.2]))⟩
          case round =>
            obtain ⟨kk, k2, q2, dk, rfl, rfl, h1, hle, hg2, hwr, hI⟩ := hrel
            have hkk := hI.lt
            have hds := hI.size
            have hHk : HoldsK encM 2 wr blk off dk := by rw [hwr]; exact holdsK_putRowK encM 2 _ blk off d dk (holdsK_ahead encM 2 w q2 blk off d HH.out) hds
            have W2 : Aside (wr = putRowK encM 2 (Sort.ahead w q2) blk off dk) := hwr
            have I2 : Aside (CompInv d (k + k2) kk dk) := hI
            clear hwr
            by_cases hlt2 : k + k2 < d.size
            · obtain ⟨cma, _⟩ := hHk.cell (show k + k2 < dk.size by omega) (show 0 < 2 by omega)
              obtain ⟨cmb, _⟩ := hHk.cell (show k + k2 < dk.size by omega) (show 1 < 2 by omega)
              obtain ⟨cpa, _⟩ := hHk.cell (show k + k2 - 1 < dk.size by omega) (show 0 < 2 by omega)
              obtain ⟨cpb, _⟩ := hHk.cell (show k + k2 - 1 < dk.size by omega) (show 1 < 2 by omega)
              obtain ⟨cka, fka⟩ := hHk.cell (show kk < dk.size by omega) (show 0 < 2 by omega)
              obtain ⟨ckb, fkb⟩ := hHk.cell (show kk < dk.size by omega) (show 1 < 2 by omega)
              rw [hI.high (k + k2) (by omega), show off + (k + k2) * 2 = off + k * 2 + k2 * 2 by omega] at cma cmb
              rw [hI.high (k + k2 - 1) (by omega), show off + (k + k2 - 1) * 2 = off + k * 2 + (k2 - 1) * 2 by omega] at cpa cpb
              clear hHk hI
              generalize hu : d[k + k2]! = u at cma cmb
              generalize hv : d[k + k2 - 1]! = v at cpa cpb
              have C : Aside (d[k + k2]! = u ∧ d[k + k2 - 1]! = v) := ⟨hu, hv⟩
              clear hu hv
              obtain ⟨u1, u2'⟩ := u
              obtain ⟨v1, v2⟩ := v
              change wr.cell? ⟨blk, off + k * 2 + k2 * 2, none⟩ = some (.int .i64 u1) at cma
              change wr.cell? ⟨blk, off + k * 2 + k2 * 2 + 1, none⟩ = some (.int .i64 u2') at cmb
              change wr.cell? ⟨blk, off + k * 2 + (k2 - 1) * 2, none⟩ = some (.int .i64 v1) at cpa
              change wr.cell? ⟨blk, off + k * 2 + (k2 - 1) * 2 + 1, none⟩ = some (.int .i64 v2) at cpb
              change wr.cell? ⟨blk, off + kk * 2, none⟩ = _ at cka
              change wr.cell? ⟨blk, off + kk * 2 + 1, none⟩ = _ at ckb
              change wr.frozen? ⟨blk, off + kk * 2, none⟩ = _ at fka
              change wr.frozen? ⟨blk, off + kk * 2 + 1, none⟩ = _ at fkb
              generalize (encM dk[kk]!)[0]! = old1 at cka
              generalize (encM dk[kk]!)[1]! = old2 at ckb
              by_cases huv : u1 = v1 ∧ u2' = v2
              · obtain ⟨rfl, rfl⟩ := huv
                go_wp2_with fail
                go_region_o
                go_wp2
                go_roundg (d.size - (k + (k2 + 1)))
                case measure => omega
                case rel => exact ⟨kk, k2 + 1, q2 + 1, dk, rfl, by go_num, by omega, by omega, Nat.le_refl _, by rw [W2.out]; rfl, I2.out.skip (keeps_neg (by omega) (by rw [C.out.1, C.out.2]))⟩
              · have fin : ∀ w2 : World, w2 = (wr.drew.setCells blk (off + kk * 2) (encM ⟨u1, u2'⟩)) → w2 = putRowK encM 2 (Sort.ahead w (q2 + 1)) blk off (dk.setIfInBounds kk ⟨u1, u2'⟩) := by
                  intro w2 h2
                  rw [h2]
                  exact store_world_M (by omega) W2.out _
                have F : Aside (∀ w2 : World, w2 = (wr.drew.setCells blk (off + kk * 2) (encM ⟨u1, u2'⟩)) → w2 = putRowK encM 2 (Sort.ahead w (q2 + 1)) blk off (dk.setIfInBounds kk ⟨u1, u2'⟩)) := fin
                clear fin
                by_cases hu1 : u1 = v1
                · subst hu1
                  have hu2 : u2' ≠ v2 := fun e => huv ⟨rfl, e⟩
                  go_wp2_with fail
                  go_region_o
                  go_wp2
                  go_roundg (d.size - (k + (k2 + 1)))
                  case measure => omega
                  case rel => exact ⟨kk + 1, k2 + 1, q2 + 1, dk.setIfInBounds kk ⟨u1, u2'⟩, by go_num, by go_num, by omega, by omega, Nat.le_refl _, F.out _ rfl, by have := I2.out.keep hlt2 (keeps_pos (by rw [C.out.1, C.out.2]; simp [hu2])); rwa [C.out.1] at this⟩
                · go_wp2_with fail
                  go_region_o
                  go_wp2
                  go_roundg (d.size - (k + (k2 + 1)))
                  case measure => omega
                  case rel => exact ⟨kk + 1, k2 + 1, q2 + 1, dk.setIfInBounds kk ⟨u1, u2'⟩, by go_num, by go_num, by omega, by omega, Nat.le_refl _, F.out _ rfl, by have := I2.out.keep hlt2 (keeps_pos (by rw [C.out.1, C.out.2]; simp [hu1])); rwa [C.out.1] at this⟩
            · have hend : k + k2 = d.size := by omega
              have CL : ∀ j, j < (d.size - kk) * (encM ⟨0, 0⟩).length → (wr.cell? ⟨blk, off + kk * 2 + j, none⟩).isSome = true ∧ wr.frozen? ⟨blk, off + kk * 2 + j, none⟩ = false := by
                intro j hj
                have hj' : j < (d.size - kk) * 2 := hj
                have hh := hHk.cell (show kk + j / 2 < dk.size by omega) (show j % 2 < 2 by omega)
                rw [show off + (kk + j / 2) * 2 + j % 2 = off + kk * 2 + j by omega] at hh
                exact ⟨by rw [hh.1]; rfl, hh.2⟩
              have hcl : ∀ ty, (Builtin.clear_ #[70] ty #[.slice (some ⟨blk, off + kk * 2, none⟩) (d.size - kk) (cap - kk)]).run Try.prog wr = .ok (.tuple #[]) (wr.setCells blk (off + kk * 2) ((List.replicate (d.size - kk) (encM ⟨0, 0⟩)).flatten)) :=
                fun ty => run_clear_M wr _ _ ty (.agg #[.int .i64 0, .int .i64 0]) (encM ⟨0, 0⟩) e51 z53 rfl (by intro v hv; simp [encM] at hv; subst hv; rfl) blk (off + kk * 2) _ _ (by omega) (fun j hj => (CL j hj).1) (fun j hj => (CL j hj).2)
              clear hHk hI CL
              have LY0 : wr.setCells blk (off + kk * 2) ((List.replicate (d.size - kk) (encM ⟨0, 0⟩)).flatten) = putRowK encM 2 (Sort.ahead w q2) blk off (lay dk kk (List.replicate (d.size - kk) ⟨0, 0⟩)) := by
                rw [W2.out, ← putRowK_setCells encM 2 encM_len _ blk off (List.replicate (d.size - kk) ⟨0, 0⟩) dk kk (by simp; omega), List.flatMap_def, List.map_replicate]
              have LY : Aside _ := LY0
              clear LY0
              go_wp2
              go_ret
              have hI := I2.out
              rw [hend] at hI
              refine ⟨by rw [hI.len]; rfl, q2, ?_⟩
              rw [hI.len, ← hI.done ⟨0, 0⟩, LY.out]
        · have NE : Aside (keeps d k = true) := keeps_pos (by rw [B.out.1, B.out.2]; intro e; injection e with e1 e2; exact hdup ⟨e1, e2⟩)
          by_cases hx1 : x1 = y1
          · subst hx1
            have hx2 : x2 ≠ y2 := fun e => hdup ⟨rfl, e⟩
            go_wp2_with fail
            go_region_o
            go_wp2
            go_roundg (d.size - (k + 1))
            case measure => omega
            case rel =>
              refine ⟨k + 1, q + 1, by omega, by omega, Nat.le_refl _, by go_num, rfl, fun j hj => ?_⟩
              by_cases e : j = k
              · subst e; exact NE.out
              · exact A.out j (by omega)
          · go_wp2_with fail
            go_region_o
            go_wp2
            go_roundg (d.size - (k + 1))
            case measure => omega
            case rel =>
              refine ⟨k + 1, q + 1, by omega, by omega, Nat.le_refl _, by go_num, rfl, fun j hj => ?_⟩
              by_cases e : j = k
              · subst e; exact NE.out
              · exact A.out j (by omega)
      · have : k = d.size := by omega
        subst this
        have HH : Aside (HoldsK encM 2 w blk off d) := hH
        clear hH
        go_wp2
        go_ret
        obtain ⟨e1, e2⟩ := HS.out q hall
        exact ⟨by rw [e1]; rfl, q, e2⟩

def cmpM (x y : Move) : Int := if Lib.compareInt x.act y.act ≠ 0 then Lib.compareInt x.act y.act else Lib.compareInt x.to y.to

set_option maxHeartbeats 4000000 in
set_option maxRecDepth 1000000 in
theorem byMove_same (f : Int → Int → Int) (hcon : ∀ (a b : Int) (W' : World), Calls Try.prog 69 #[.int .i64 a, .int .i64 b] W' fun e w' => e = .returned (.int .i64 (f a b)) ∧ w' = W') (a b c d : Int) (W : World) (h : f a c = 0) : Calls Try.prog 56 #[.agg #[.int .i64 a, .int .i64 b], .agg #[.int .i64 c, .int .i64 d]] W fun e w' => e = .returned (.int .i64 (f b d)) ∧ ∃ q os', w' = grow (W.drewN q) os' := by
  go_enter Try.func56, Try.ntmps56
  go_wp2_with (go_at_call 69; refine (hcon _ _ _).mono ?_; rintro e w' ⟨rfl, rfl⟩)
  go_ret
  exact ⟨rfl, 0, _, by rw [alloc_eq_grow, alloc_eq_grow, grow_grow]; rfl⟩
set_option maxHeartbeats 4000000 in
set_option maxRecDepth 1000000 in
theorem byMove_diff (f : Int → Int → Int) (hcon : ∀ (a b : Int) (W' : World), Calls Try.prog 69 #[.int .i64 a, .int .i64 b] W' fun e w' => e = .returned (.int .i64 (f a b)) ∧ w' = W') (a b c d : Int) (W : World) (h : f a c ≠ 0) : Calls Try.prog 56 #[.agg #[.int .i64 a, .int .i64 b], .agg #[.int .i64 c, .int .i64 d]] W fun e w' => e = .returned (.int .i64 (f a c)) ∧ ∃ q os', w' = grow (W.drewN q) os' := by
  go_enter Try.func56, Try.ntmps56
  go_wp2_with (go_at_call 69; refine (hcon _ _ _).mono ?_; rintro e w' ⟨rfl, rfl⟩)
  go_ret
  exact ⟨rfl, 0, _, by rw [alloc_eq_grow, alloc_eq_grow, grow_grow]; rfl⟩
theorem byMove_calls (x y : Move) (W : World) : Calls Try.prog 56 #[.agg #[.int .i64 x.act, .int .i64 x.to], .agg #[.int .i64 y.act, .int .i64 y.to]] W fun e w' => e = .returned (.int .i64 (cmpM x y)) ∧ ∃ q os', w' = grow (W.drewN q) os' := by
  by_cases h : Lib.compareInt x.act y.act = 0
  · have hc : cmpM x y = Lib.compareInt x.to y.to := by simp [cmpM, h]
    rw [hc]
    exact byMove_same Lib.compareInt (fun a b W' => AnyG.cmp_Compare_int Try.lays5C a b W') _ _ _ _ _ h
  · have hc : cmpM x y = Lib.compareInt x.act y.act := by simp [cmpM, h]
    rw [hc]
    exact byMove_diff Lib.compareInt (fun a b W' => AnyG.cmp_Compare_int Try.lays5C a b W') _ _ _ _ _ h

theorem ltM (x y : Move) : ltOf cmpM x y = decide (x.act < y.act ∨ (x.act = y.act ∧ x.to < y.to)) := by
  unfold ltOf cmpM Lib.compareInt
  by_cases h1 : x.act < y.act
  · simp [h1]
  · by_cases h2 : y.act < x.act
    · have : ¬ x.act = y.act := by omega
      simp [h1, h2, this]
    · have : x.act = y.act := by omega
      by_cases h3 : x.to < y.to
      · simp [this, h3]
      · by_cases h4 : y.to < x.to <;> simp [this, h3, h4]
theorem swoM : SWO (ltOf cmpM) where
  irrefl x := by rw [ltM]; simp
  trans x y z h1 h2 := by rw [ltM] at *; simp at *; omega
  ntrans x y z h1 h2 := by rw [ltM] at *; simp at *; omega
theorem totM (x y : Move) (h1 : ltOf cmpM x y = false) (h2 : ltOf cmpM y x = false) : x = y := by
  rw [ltM] at h1 h2
  obtain ⟨a, b⟩ := x
  obtain ⟨c, d⟩ := y
  simp at h1 h2
  simp only [Move.mk.injEq]
  omega
theorem leM_eq (x y : Move) : (!(ltOf cmpM) y x) = leM x y := by
  rw [ltM, Bool.eq_iff_iff]
  unfold leM
  simp
  omega
theorem byMove_lays (blk off size : Nat) (w : World) : CmpLays Try.prog 56 #[] encM 2 cmpM blk off size w :=
  fun _ _ _ _ x y => byMove_calls x y _
theorem sortFunc_calls (blk off cap : Nat) (zs : List Move) (w : World) (hH : HoldsK encM 2 w blk off zs.toArray) (hb : blk < w.heap.size) (hl : zs.length < 4611686018427387904) :
    Calls Try.prog 73 #[.slice (some ⟨blk, off, none⟩) zs.length cap, .func (.func 56) #[] #[]] w fun e w' => e = .returned (.tuple #[]) ∧ ∃ n os, w' = sortWorldK encM 2 w blk off n (sortM zs).toArray os := by
  have eg : ∀ args w, (callFunc 56 args).run Try.prog w = .ok (.enter 56 args) w := enters_of Try.func56 (by kernel_rfl) rfl
  have h := AnyQ.slices_SortFunc_total Try.lays6M 2 Try.isAgg72 Try.sizeOf72 encM (fun _ => rfl) (fun x v hv => by simp [encM] at hv; rcases hv with rfl | rfl <;> rfl) cmpM swoM 56 #[] blk off cap zs.toArray w eg (byMove_lays _ _ _ _) hH hb (by simpa using hl) totM
  have e : (fun x y => !(ltOf cmpM) y x) = leM := by funext x y; exact leM_eq x y
  rw [e] at h
  change Calls Try.prog 73 _ _ _ at h
  simpa [sortM] using h
theorem sortFunc_none (a : Option Addr) (cap : Nat) (fv : Value) (w : World) : Calls Try.prog 73 #[.slice a 0 cap, fv] w fun e w' => e = .returned (.tuple #[]) ∧ w' = w := AnyF.slices_SortFunc_none Try.lays6M a cap fv w
set_option maxHeartbeats 4000000 in
set_option maxRecDepth 1000000 in
theorem compact_none (a : Option Addr) (cap : Nat) (w : World) : Calls Try.prog 74 #[.slice a 0 cap] w fun e w' => e = .returned (.slice a 0 cap) ∧ w' = w := by
  go_enter Try.func74, Try.ntmps74
  go_wp2
  go_ret
  exact ⟨rfl, rfl⟩
theorem compact_calls (blk off cap : Nat) (zs : List Move) (w : World) (hH : HoldsK encM 2 w blk off zs.toArray) (hsz : zs.length ≤ 9223372036854775807) (hcap : zs.length ≤ cap) :
    Calls Try.prog 74 #[.slice (some ⟨blk, off, none⟩) zs.length cap] w fun e w' => e = .returned (.slice (some ⟨blk, off, none⟩) (Lib.compact zs).length cap) ∧ ∃ q, w' = putRowK encM 2 (Sort.ahead w q) blk off (Lib.compact zs ++ List.replicate (zs.length - (Lib.compact zs).length) (⟨0, 0⟩ : Move)).toArray := by
  have h := compact_arr blk off cap zs.toArray w hH (by simpa using hsz) (by simpa using hcap)
  simpa [Lib.compact] using h

theorem compact_le (zs : List Move) : (Lib.compact zs).length ≤ zs.length := by
  unfold Lib.compact Lib.compactUpTo
  rw [List.length_map]
  exact Nat.le_trans (List.length_filter_le _ _) (by simp)

set_option maxHeartbeats 4000000 in
set_option maxRecDepth 1000000 in
theorem tidy_none (a : Option Addr) (cap : Nat) (w : World) : Calls Try.prog 59 #[.slice a 0 cap] w fun e w' => e = .returned (.slice a 0 cap) ∧ w' = w := by
  have h1 := fun w => sortFunc_none a cap (.func (.func 56) #[] #[]) w
  have h2 := compact_none a cap
  go_enter Try.func59, Try.ntmps59
  go_wp2_with (first | (go_at_call 73; refine (h1 _).mono ?_; rintro e w' ⟨rfl, rfl⟩) | (go_at_call 74; refine (h2 _).mono ?_; rintro e w' ⟨rfl, rfl⟩))
  go_ret
  exact ⟨rfl, rfl⟩

theorem worlds (w : World) (blk off n q : Nat) (a b : Array Move) (os : Array Go.Obj) (hb : blk < w.heap.size) (hs : b.size = a.size) :
    putRowK encM 2 (Sort.ahead (sortWorldK encM 2 w blk off n a os) q) blk off b = sortWorldK encM 2 w blk off (n + q) b os := by
  unfold sortWorldK putRowK
  exact grow_step id w os n q blk off _ _ hb (by simp [hs])
set_option maxHeartbeats 4000000 in
set_option maxRecDepth 1000000 in
theorem tidy_calls (blk off cap : Nat) (zs : List Move) (w : World) (hH : HoldsK encM 2 w blk off zs.toArray) (hb : blk < w.heap.size) (hl : zs.length < 4611686018427387904) (hcap : zs.length ≤ cap) :
    Calls Try.prog 59 #[.slice (some ⟨blk, off, none⟩) zs.length cap] w fun e w' => e = .returned (.slice (some ⟨blk, off, none⟩) (tidyM zs).length cap) ∧ ∃ n os, w' = sortWorldK encM 2 w blk off n (tidyM zs ++ List.replicate (zs.length - (tidyM zs).length) (⟨0, 0⟩ : Move)).toArray os := by
  have hlen : (sortM zs).length = zs.length := List.length_mergeSort zs
  have hle : (Lib.compact (sortM zs)).length ≤ zs.length := by rw [← hlen]; exact compact_le _
  have h1 := sortFunc_calls blk off cap zs w hH hb hl
  have h2 := fun n os => compact_calls blk off cap (sortM zs) (sortWorldK encM 2 w blk off n (sortM zs).toArray os) (holdsK_grow encM 2 _ _ blk off _ (by show blk < (w.heap.modify blk _).size; rw [Array.size_modify]; exact hb) (holdsK_putRowK encM 2 _ blk off zs.toArray _ hH (by simp [hlen]))) (by omega) (by omega)
  rw [hlen] at h2
  have h3 : ∀ n os q, putRowK encM 2 (Sort.ahead (sortWorldK encM 2 w blk off n (sortM zs).toArray os) q) blk off (Lib.compact (sortM zs) ++ List.replicate (zs.length - (Lib.compact (sortM zs)).length) (⟨0, 0⟩ : Move)).toArray = sortWorldK encM 2 w blk off (n + q) (Lib.compact (sortM zs) ++ List.replicate (zs.length - (Lib.compact (sortM zs)).length) (⟨0, 0⟩ : Move)).toArray os :=
    fun n os q => worlds w blk off n q _ _ os hb (by simp; omega)
  change Calls Try.prog 59 _ _ fun e w' => e = .returned (.slice _ (Lib.compact (sortM zs)).length cap) ∧ ∃ n os, w' = sortWorldK encM 2 w blk off n (Lib.compact (sortM zs) ++ List.replicate (zs.length - (Lib.compact (sortM zs)).length) (⟨0, 0⟩ : Move)).toArray os
  generalize (Lib.compact (sortM zs) ++ List.replicate (zs.length - (Lib.compact (sortM zs)).length) (⟨0, 0⟩ : Move)).toArray = R at h2 h3 ⊢
  generalize (Lib.compact (sortM zs)).length = m at h2 hle ⊢
  generalize (sortM zs).toArray = S at h1 h2 h3
  clear hH
  go_enter Try.func59, Try.ntmps59
  go_wp2_with (first | (go_at_call 73; refine h1.mono ?_; rintro e w' ⟨rfl, n, os, rfl⟩) | (go_at_call 74; refine (h2 _ _).mono ?_; rintro e w' ⟨rfl, q, rfl⟩))
  go_ret
  exact ⟨rfl, _, _, rfl⟩

theorem tidyC (blk off cap : Nat) (zs : List Move) (w : World) (hH : HoldsK encM 2 w blk off zs.toArray) (hb : blk < w.heap.size) (hl : zs.length < 4611686018427387904) (hcap : zs.length ≤ cap) :
    Calls Try.prog 59 #[.slice (some ⟨blk, off, none⟩) zs.length cap] w fun e w' => e = .returned (.slice (some ⟨blk, off, none⟩) (tidyM zs).length cap) ∧ ∃ n os, w' = sortWorldK encM 2 w blk off n (restM zs).toArray os := tidy_calls blk off cap zs w hH hb hl hcap
theorem tidyNone (a : Option Addr) (cap : Nat) (w : World) : Calls Try.prog 59 #[.slice a 0 cap] w fun e w' => e = .returned (.slice a 0 cap) ∧ w' = w := tidy_none a cap w
theorem below_grown {w w' : World} (h : Below w.heap.size w w') : w.grownBy w' none := ⟨h.os, h.tape, h.output, h.size, fun k hk _ => h.block k hk⟩
theorem cloneC (b off n c : Nat) (zs : List Int) (w : World) (h1 : n ≤ zs.length) (h2 : n * 8 ≤ 140737488355328) (h3 : ∀ j, j < zs.length → w.cell? ⟨b, off + j, none⟩ = some (.int .i64 (zs.getD j 0))) :
    Calls Try.prog 66 #[.slice (some ⟨b, off, none⟩) n c] w fun e w' => ∃ v', e = .returned v' ∧ w'.ownsRow w.heap.size 3 1 v' n ((zs.take n).map (Value.int .i64)) ∧ w.grownBy w' none :=
  (Any.slices_Clone_int Try.lays15K b off n c zs w h1 h2 h3).mono fun _ _ ⟨v', he, ho, _, hB⟩ => ⟨v', he, ho, below_grown hB⟩
theorem cloneZero (a : Addr) (c : Nat) (w : World) : Calls Try.prog 66 #[.slice (some a) 0 c] w fun e w' => ∃ v', e = .returned v' ∧ w'.ownsRow w.heap.size 3 1 v' 0 [] ∧ w.grownBy w' none :=
  (Any.slices_Clone_int_zero Try.lays15K a c w).mono fun _ _ ⟨v', he, ho, _, hB⟩ => ⟨v', he, ho, below_grown hB⟩
theorem cloneNil (c : Nat) (w : World) : Calls Try.prog 66 #[.slice none 0 c] w fun e w' => e = .returned (.slice none 0 0) ∧ w' = w := Any.slices_Clone_int_nil Try.lays15K 0 c w
end Go.Proofs.Ytffkhhblppfbfaa.Ev
