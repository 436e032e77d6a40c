/- The plain law of FnMenuOk: for every code, the drawn menu is judged alike by the program and by the reference, and is a menu just if it has eight truths. -/
import Derived.Test.YthkonljgjjlloaaPFnMenuOkx1
import Derived.Laws.BitsLemmas
namespace Go.Proofs.Ythkonljgjjlloaa.Pure
open Go.RowKit Go.Proofs.Ythkonljgjjlloaa.PFnMenuOk Go.Proofs.YthkonljgjjlloaaW.PrintWords Go.Proofs.YthkonljgjjlloaaW.PrintLast

theorem w64 (n : Int) (h0 : -9223372036854775808 ≤ n) (h1 : n < 9223372036854775808) : wrap64 n = n := by
  unfold wrap64; omega

theorem xor_nn (a b : Int) (ha : 0 ≤ a) (ha' : a < 2 ^ 62) (hb : 0 ≤ b) (hb' : b < 2 ^ 62) : 0 ≤ Go.bits .xor .i64 a b ∧ Go.bits .xor .i64 a b < 2 ^ 62 := by
  obtain ⟨x, rfl⟩ := Int.eq_ofNat_of_zero_le ha
  obtain ⟨y, rfl⟩ := Int.eq_ofNat_of_zero_le hb
  have hx : x < 2 ^ 62 := by exact_mod_cast ha'
  have hy : y < 2 ^ 62 := by exact_mod_cast hb'
  have h := Nat.xor_lt_two_pow hx hy
  have ex : x % 2 ^ 64 = x := Nat.mod_eq_of_lt (by omega)
  have ey : y % 2 ^ 64 = y := Nat.mod_eq_of_lt (by omega)
  have e : Go.bits .xor .i64 (x : Int) (y : Int) = ((x ^^^ y : Nat) : Int) := by
    have t : (BitVec.ofInt 64 (x : Int) ^^^ BitVec.ofInt 64 (y : Int)).toNat = x ^^^ y := by
      rw [BitVec.ofInt_natCast, BitVec.ofInt_natCast, BitVec.toNat_xor, BitVec.toNat_ofNat, BitVec.toNat_ofNat, ex, ey]
    show IntKind.i64.wrap ((BitVec.ofInt 64 (x : Int) ^^^ BitVec.ofInt 64 (y : Int)).toNat : Int) = _
    rw [t, IntKind.wrap_i64]; omega
  rw [e]; omega

/-- bytes -/
def Bytes (b : List Int) : Prop := ∀ x ∈ b, 0 ≤ x ∧ x ≤ 255
theorem Bytes.rd {b : List Int} (h : Bytes b) (i : Int) : 0 ≤ rd b i ∧ rd b i ≤ 255 := by
  unfold Go.Proofs.YthkonljgjjlloaaW.PrintWords.rd
  rw [List.getD_eq_getElem?_getD]
  cases e : b[i.toNat]? with
  | none => simp
  | some v => exact h v (List.mem_of_getElem? e)
theorem bytes_of_wf {l : List Int} (h : ∀ x ∈ l, (Lit.int .u8 x).wf = true) : Bytes l := fun x hx => by
  have := h x hx
  simp [Lit.wf, IntKind.min, IntKind.max, IntKind.bits, IntKind.signed] at this
  omega

theorem pick_some (k : Nat) (b : List Int) (p n : Int) (hb : Bytes b) (hl : b.length ≤ 2000) (h0 : 0 ≤ p) (h1 : p < 1000000000000) (hn : n < 1000000000000) :
    ∃ r, spec_l6Rd_pick.f (k + 1) b p n = some (r, p + 1) ∧ 0 ≤ r ∧ (1 ≤ n → r < n) := by
  unfold spec_l6Rd_pick.f
  by_cases c : n < 1
  · rw [if_pos c]
    simp only [spec_l6Rd_pick.j0, if_true]
    exact ⟨0, by rw [w64 (p + 1) (by omega) (by omega)], by omega, fun h => by omega⟩
  · rw [if_neg c]
    simp only [spec_l6Rd_pick.j0]
    rw [w64 (p + 1) (by omega) (by omega), w64 (p + 1 - 1) (by omega) (by omega), show p + 1 - 1 = p by omega]
    by_cases e : b.length = 0
    · simp only [e]
      exact ⟨0, by simp, by omega, fun h => by omega⟩
    · have ln : ((b.length : Int) == 0) = false := by rw [beq_eq_false_iff_ne]; omega
      have ln0 : ¬ (b.length : Int) = 0 := by omega
      have n0 : ¬ n = 0 := by omega
      simp only [ln, Bool.false_eq_true, if_false, if_neg ln0, if_neg n0, if_pos h0]
      by_cases lt : p < (b.length : Int)
      · simp only [if_pos lt]
        have hr := hb.rd p
        rw [w64 (rd b p) (by omega) (by omega)]
        rw [Int.tmod_eq_emod_of_nonneg hr.1]
        exact ⟨_, rfl, Int.emod_nonneg _ n0, fun _ => Int.emod_lt_of_pos _ (by omega)⟩
      · simp only [if_neg lt]
        have L : (1 : Int) ≤ (b.length : Int) := by omega
        generalize hL : (b.length : Int) = L' at *
        have m1 : Int.tmod p L' = p % L' := Int.tmod_eq_emod_of_nonneg h0
        have m1n : 0 ≤ p % L' := Int.emod_nonneg _ (by omega)
        have m1l : p % L' < L' := Int.emod_lt_of_pos _ (by omega)
        have e7 : wrap64 (wrap64 (p * 7) + 3) = p * 7 + 3 := by rw [w64 (p * 7) (by omega) (by omega), w64 _ (by omega) (by omega)]
        have m2 : Int.tmod (p * 7 + 3) L' = (p * 7 + 3) % L' := Int.tmod_eq_emod_of_nonneg (by omega)
        have m2n : 0 ≤ (p * 7 + 3) % L' := Int.emod_nonneg _ (by omega)
        have m2l : (p * 7 + 3) % L' < L' := Int.emod_lt_of_pos _ (by omega)
        have dv : Int.tdiv p L' = p / L' := Int.tdiv_eq_ediv_of_nonneg h0
        have dn : 0 ≤ p / L' := Int.ediv_nonneg h0 (by omega)
        have dl : p / L' ≤ p := Int.ediv_le_self _ h0
        simp only [e7, m1, m2, dv, if_pos m1n, if_pos m1l, if_pos m2n, if_pos m2l]
        have r1 := hb.rd (p % L')
        have r2 := hb.rd ((p * 7 + 3) % L')
        generalize rd b (p % L') = v1 at *
        generalize rd b ((p * 7 + 3) % L') = v2 at *
        generalize p / L' = q at *
        have x1 : wrap64 (wrap64 (wrap64 (wrap64 (wrap64 v1 * 131) + wrap64 (wrap64 v2 * 1117)) + wrap64 (p * 29)) + wrap64 (wrap64 q * 53)) = v1 * 131 + v2 * 1117 + p * 29 + q * 53 := by
          rw [w64 v1 (by omega) (by omega), w64 v2 (by omega) (by omega), w64 q (by omega) (by omega), w64 (v1 * 131) (by omega) (by omega), w64 (v2 * 1117) (by omega) (by omega), w64 (p * 29) (by omega) (by omega), w64 (q * 53) (by omega) (by omega)]
          rw [w64 (v1 * 131 + v2 * 1117) (by omega) (by omega), w64 (v1 * 131 + v2 * 1117 + p * 29) (by omega) (by omega), w64 _ (by omega) (by omega)]
        rw [x1]
        generalize hx : v1 * 131 + v2 * 1117 + p * 29 + q * 53 = x at *
        have xn : 0 ≤ x := by omega
        have xl : x < 2 ^ 60 := by omega
        have dx : Int.tdiv x 64 = x / 64 := Int.tdiv_eq_ediv_of_nonneg xn
        rw [dx, w64 (x / 64) (by omega) (by omega)]
        have z := xor_nn x (x / 64) xn (by omega) (by omega) (by omega)
        rw [Int.tmod_eq_emod_of_nonneg z.1]
        exact ⟨_, rfl, Int.emod_nonneg _ n0, fun _ => Int.emod_lt_of_pos _ (by omega)⟩

theorem menu_loop (b : List Int) (hb : Bytes b) (hl : b.length ≤ 2000) (d : Nat) : ∀ (k : Nat) (xs : List Bool) (i p : Int), (8 - i = d) → 0 ≤ i → 0 ≤ p → p < 1000000 - 8 + i → (xs.length : Int) = i → d + 1 < k →
    ∃ r, spec_l91Menu.l0 k 8 xs i b p = some r := by
  induction d with
  | zero =>
    intro k xs i p hd h0 hp hp' hx hk
    obtain ⟨k, rfl⟩ : ∃ m, k = m + 2 := ⟨k - 2, by omega⟩
    simp only [spec_l91Menu.l0]
    rw [if_neg (by omega)]
    obtain ⟨r, hr, -, -⟩ := pick_some k b p 20 hb hl hp (by omega) (by omega)
    rw [hr]; simp only [Option.bind_some]
    by_cases c : r = 0
    · rw [if_pos c, if_pos (by omega)]
      by_cases e : 1 ≤ (xs.length : Int)
      · rw [if_pos e]; exact ⟨_, rfl⟩
      · omega
    · rw [if_neg c]; exact ⟨_, rfl⟩
  | succ d ih =>
    intro k xs i p hd h0 hp hp' hx hk
    obtain ⟨k, rfl⟩ : ∃ m, k = m + 2 := ⟨k - 2, by omega⟩
    simp only [spec_l91Menu.l0]
    rw [if_pos (by omega)]
    obtain ⟨r, hr, -, -⟩ := pick_some k b p 3 hb hl hp (by omega) (by omega)
    rw [hr]; simp only [Option.bind_some]
    rw [if_pos (by omega), w64 (i + 1) (by omega) (by omega)]
    exact ih (k + 1) _ _ _ (by omega) (by omega) (by omega) (by omega) (by simp; omega) (by omega)

theorem open_some (l : List Int) (hb : Bytes l) : ∃ b, spec_l6Open.f l = some (b, 0) ∧ Bytes b ∧ b.length ≤ 2000 := by
  unfold spec_l6Open.f
  by_cases c : (l.length : Int) > 2000
  · rw [if_pos c, if_pos (by omega)]
    exact ⟨_, rfl, fun x hx => hb x (List.mem_of_mem_take hx), by rw [List.length_take]; omega⟩
  · rw [if_neg c]; exact ⟨_, rfl, hb, by omega⟩

theorem FnMenuOk : laws_FnMenuOk.Pure := by
  intro l hm hs hw
  obtain ⟨b, ho, hb, hl⟩ := open_some l (bytes_of_wf hw)
  obtain ⟨r, hr⟩ := menu_loop b hb hl 8 10 [] 0 0 (by omega) (by omega) (by omega) (by omega) (by simp) (by omega)
  refine ⟨10, ?_⟩
  unfold laws_FnMenuOk.f spec_DrawMenuOk.f spec_l91Menu.f
  by_cases c : (l.length : Int) > 1048576
  · rw [if_pos c]
  · rw [if_neg c, ho]
    simp only [Option.bind_some]
    rw [hr]
    simp [impl_MenuOk.f, spec_MenuOk.f]

end Go.Proofs.Ythkonljgjjlloaa.Pure
