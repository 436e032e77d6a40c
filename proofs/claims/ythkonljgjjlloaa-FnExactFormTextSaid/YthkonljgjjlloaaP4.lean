/- Plain laws: how a code is read, how formulas are drawn. No conditions but those that each states. -/
import Derived.Test.YthkonljgjjlloaaP3
namespace Go.Proofs.Ythkonljgjjlloaa.Ev
open Go
set_option linter.unusedVariables false

/-- a code: bytes -/
def BOk (c : List Int) : Prop := c.length ≤ 2000 ∧ ∀ b ∈ c, 0 ≤ b ∧ b ≤ 255
theorem BOk.at {c : List Int} (h : BOk c) (i : Nat) : 0 ≤ listAt c (0 : Int) i ∧ listAt c (0 : Int) i ≤ 255 := by
  by_cases hi : i < c.length
  · rw [at_lt hi]; exact h.2 _ (List.getElem_mem hi)
  · have : listAt c (0 : Int) i = 0 := by
      unfold listAt
      rw [List.getD_eq_getElem?_getD, List.getElem?_eq_none (by omega)]; rfl
    omega

theorem xor_nonneg {a b : Int} (a0 : 0 ≤ a) (a1 : a < 9223372036854775808) (b0 : 0 ≤ b) (b1 : b < 9223372036854775808) :
    0 ≤ IntKind.wrap .i64 ((BitVec.ofInt (IntKind.bits .i64) a ^^^ BitVec.ofInt (IntKind.bits .i64) b).toNat) := by
  have key : ((BitVec.ofInt (IntKind.bits .i64) a ^^^ BitVec.ofInt (IntKind.bits .i64) b).toNat) < 9223372036854775808 := by
    rw [BitVec.toNat_xor]
    have h1 : (BitVec.ofInt (IntKind.bits .i64) a).toNat < 2 ^ 63 := by
      rw [BitVec.toNat_ofInt]
      have : ((2 ^ IntKind.bits .i64 : Nat) : Int) = 18446744073709551616 := by decide
      rw [this]; omega
    have h2 : (BitVec.ofInt (IntKind.bits .i64) b).toNat < 2 ^ 63 := by
      rw [BitVec.toNat_ofInt]
      have : ((2 ^ IntKind.bits .i64 : Nat) : Int) = 18446744073709551616 := by decide
      rw [this]; omega
    have := Nat.xor_lt_two_pow h1 h2
    omega
  have := wi_id (n := ((BitVec.ofInt (IntKind.bits .i64) a ^^^ BitVec.ofInt (IntKind.bits .i64) b).toNat : Int)) (by omega) (by omega)
  unfold wi at this
  rw [this]; omega

theorem tmod_range {x n : Int} (h0 : 0 ≤ x) (h1 : 1 ≤ n) : 0 ≤ Int.tmod x n ∧ Int.tmod x n < n :=
  ⟨Int.tmod_nonneg n h0, Int.tmod_lt_of_pos x (by omega)⟩

theorem pick_ok (L N : Nat) {c : List Int} (hb : BOk c) {p n : Int} (p0 : 0 ≤ p) (p1 : p ≤ 1099511627776) (n1 : 1 ≤ n) : ∃ r, f56 L N c p n = some (r, c, p + 1) ∧ 0 ≤ r ∧ r < n := by
  show ∃ r, f56.b L N (fun a0 a1 a2 => some (a0, a1, a2)) c p n = _ ∧ _
  unfold f56.b f56.b' f56.j0'
  have hw : wi (p + 1) = p + 1 := wi_id (by omega) (by omega)
  have hw1 : wi (p + 1 - 1) = p := by
    have h1 : p + 1 - 1 = p := by omega
    rw [h1]; exact wi_id (by omega) (by omega)
  rw [df (show ¬ n < 1 by omega), cond_false, hw, hw1]
  have hl := hb.1
  by_cases he : c.length = 0
  · have : ((c.length : Int) == 0) = true := by rw [beq_iff_eq]; omega
    rw [this, cond_true]
    exact ⟨0, rfl, by omega, by omega⟩
  · have : ((c.length : Int) == 0) = false := by simp; intro h; simp [h] at he
    rw [this, cond_false]
    by_cases hlt : p < (c.length : Int)
    · rw [dt hlt, cond_true, dt p0, Bool.true_and, cond_true, df (show ¬ n = 0 by omega), cond_false]
      have := hb.at p.toNat
      rw [wi_id (by omega) (by omega)]
      have := tmod_range this.1 n1
      exact ⟨_, rfl, this.1, this.2⟩
    · rw [df hlt, cond_false]
      have hq := tmod_range (n := (c.length : Int)) p0 (by omega)
      have h7 : wi (wi (p * 7) + 3) = p * 7 + 3 := by rw [wi_id (n := p * 7) (by omega) (by omega), wi_id (by omega) (by omega)]
      have hr := tmod_range (x := p * 7 + 3) (n := (c.length : Int)) (by omega) (by omega)
      rw [df (show ¬ (c.length : Int) = 0 by omega), cond_false, dt hq.1, dt hq.2, Bool.true_and, cond_true, h7, dt hr.1, dt hr.2, Bool.true_and, cond_true, df (show ¬ n = 0 by omega)]
      simp only [cond_false, show decide ((64 : Int) = 0) = false from rfl]
      have b1 := hb.at (Int.tmod p (c.length : Int)).toNat
      have b2 := hb.at (Int.tmod (p * 7 + 3) (c.length : Int)).toNat
      generalize listAt c (0 : Int) (Int.tmod p (c.length : Int)).toNat = x1 at b1 ⊢
      generalize listAt c (0 : Int) (Int.tmod (p * 7 + 3) (c.length : Int)).toNat = x2 at b2 ⊢
      have hd0 : 0 ≤ Int.tdiv p (c.length : Int) := Int.tdiv_nonneg p0 (by omega)
      have hd1 : Int.tdiv p (c.length : Int) ≤ p := Int.tdiv_le_self _ p0
      generalize Int.tdiv p (c.length : Int) = q at hd0 hd1 ⊢
      rw [wi_id (n := x1) (by omega) (by omega), wi_id (n := x2) (by omega) (by omega), wi_id (n := x1 * 131) (by omega) (by omega), wi_id (n := x2 * 1117) (by omega) (by omega), wi_id (n := x1 * 131 + x2 * 1117) (by omega) (by omega),
        wi_id (n := p * 29) (by omega) (by omega), wi_id (n := x1 * 131 + x2 * 1117 + p * 29) (by omega) (by omega), wi_id (n := q) (by omega) (by omega), wi_id (n := q * 53) (by omega) (by omega), wi_id (n := x1 * 131 + x2 * 1117 + p * 29 + q * 53) (by omega) (by omega)]
      have ha0 : 0 ≤ x1 * 131 + x2 * 1117 + p * 29 + q * 53 := by omega
      have ha1 : x1 * 131 + x2 * 1117 + p * 29 + q * 53 < 1000000000000000 := by omega
      generalize x1 * 131 + x2 * 1117 + p * 29 + q * 53 = a at ha0 ha1 ⊢
      have hs0 : 0 ≤ Int.tdiv a 64 := Int.tdiv_nonneg ha0 (by omega)
      have hs1 : Int.tdiv a 64 ≤ a := Int.tdiv_le_self _ ha0
      generalize Int.tdiv a 64 = s at hs0 hs1 ⊢
      rw [wi_id (n := s) (by omega) (by omega)]
      have := tmod_range (xor_nonneg ha0 (by omega) hs0 (by omega)) n1
      exact ⟨_, rfl, this.1, this.2⟩

theorem open_ok (L N : Nat) {x : List Int} (hx : DatOk (.sl (.int .u8)) x) : ∃ c, f44 L N x = some (c, 0) ∧ BOk c := by
  have hb : ∀ b ∈ x, 0 ≤ b ∧ b ≤ 255 := by
    intro b hb
    have h1 := hx (.sl (x.map fun n => [.int .u8 n])) (by simp only [enc, List.mem_cons, List.not_mem_nil, or_false])
    cases h1 with | sl _ h1 h2 =>
    have h3 := h2 [.int .u8 b] (List.mem_map.2 ⟨b, hb, rfl⟩) (.int .u8 b) (.head _)
    cases h3 with | int _ _ h3 =>
    simp only [Lit.wf, Bool.and_eq_true, decide_eq_true_eq] at h3
    exact h3
  show ∃ c, f44.b L N (fun a0 a1 => some (a0, a1)) x = _ ∧ _
  unfold f44.b f44.b'
  by_cases h : (x.length : Int) > 2000
  · rw [dt h, cond_true]
    have hs : slB (0 : Int) (2000 : Int) x.length = true := by
      unfold slB
      rw [dt (show (0 : Int) ≤ 0 by omega), dt (show (0 : Int) ≤ 2000 by omega), dt (show (2000 : Int) ≤ (x.length : Int) by omega)]; rfl
    rw [hs, cond_true]
    refine ⟨_, rfl, ?_, fun b hb' => ?_⟩
    · unfold slX
      rw [List.length_take]
      have : (2000 : Int).toNat - (0 : Int).toNat = 2000 := rfl
      rw [this]; omega
    · unfold slX at hb'
      exact hb b (List.mem_of_mem_drop (List.mem_of_mem_take hb'))
  · rw [df h, cond_false]
    exact ⟨x, rfl, by omega, hb⟩

theorem do_ok (L N : Nat) {c : List Int} (hb : BOk c) {p : Int} (p0 : 0 ≤ p) (p1 : p ≤ 1099511600000) : ∃ r, f92 L N c p = some (r, c, p + 2) ∧ -4 ≤ r ∧ r ≤ 4 := by
  show ∃ r, f92.b L N (fun a0 a1 a2 => some (a0, a1, a2)) c p = _ ∧ _
  unfold f92.b f92.b'
  obtain ⟨r, hr, r0, r1⟩ := pick_ok L N hb p0 (by omega) (show (1 : Int) ≤ 3 by omega)
  rw [hr]
  simp only [Option.bind_some]
  by_cases h : r > 0
  · rw [dt h, cond_true]
    obtain ⟨s, hs, s0, s1⟩ := pick_ok L N hb (p := p + 1) (by omega) (by omega) (show (1 : Int) ≤ 5 by omega)
    rw [hs]
    simp only [Option.bind_some]
    rw [wi_id (by omega) (by omega)]
    exact ⟨_, by rw [show p + 1 + 1 = p + 2 by omega], by omega, by omega⟩
  · rw [df h, cond_false]
    obtain ⟨s, hs, s0, s1⟩ := pick_ok L N hb (p := p + 1) (by omega) (by omega) (show (1 : Int) ≤ 9 by omega)
    rw [hs]
    simp only [Option.bind_some]
    rw [wi_id (by omega) (by omega)]
    exact ⟨_, by rw [show p + 1 + 1 = p + 2 by omega], by omega, by omega⟩

theorem act_draw (L N : Nat) {c : List Int} (hb : BOk c) {p : Int} (p0 : 0 ≤ p) (p1 : p ≤ 1099511500000) : ∃ r p', f75 L N c p = some (r, c, p') ∧ p ≤ p' ∧ p' ≤ p + 3 ∧ -9223372036854775808 ≤ r ∧ r ≤ 9223372036854775807 := by
  show ∃ r p', f75.b L N (fun a0 a1 a2 => some (a0, a1, a2)) c p = _ ∧ _
  unfold f75.b f75.b'
  obtain ⟨r, hr, r0, r1⟩ := pick_ok L N hb p0 (by omega) (show (1 : Int) ≤ 30 by omega)
  rw [hr]
  simp only [Option.bind_some]
  by_cases h : r = 0
  · subst h
    simp only [beq_self_eq_true, cond_true]
    obtain ⟨s, hs, s0, s1⟩ := pick_ok L N hb (p := p + 1) (by omega) (by omega) (show (1 : Int) ≤ 3 by omega)
    rw [hs]
    simp only [Option.bind_some]
    rcases (show s = 0 ∨ s = 1 ∨ s = 2 by omega) with rfl | rfl | rfl
    · exact ⟨5, _, rfl, by omega, by omega, by omega, by omega⟩
    · exact ⟨-5, _, rfl, by omega, by omega, by omega, by omega⟩
    · exact ⟨4611686018427387904, _, rfl, by omega, by omega, by omega, by omega⟩
  · have : (r == 0) = false := by simpa using h
    rw [this, cond_false]
    obtain ⟨s, hs, s0, s1⟩ := do_ok L N hb (p := p + 1) (by omega) (by omega)
    rw [hs]
    exact ⟨s, p + 1 + 2, rfl, by omega, by omega, by omega, by omega⟩

/-- spec.l91Form -/
theorem form_draw (L N : Nat) {c : List Int} (hb : BOk c) : ∀ (m d : Nat) (p : Int), d < m → d ≤ 10 → 0 ≤ p → p + 10 * (3 ^ d : Nat) ≤ 1099511000000 →
    ∃ t p', f55 L N m c p (d : Int) = some (t, c, p') ∧ p ≤ p' ∧ p' ≤ p + 10 * (3 ^ d : Nat) ∧ TOk t ∧ nodes t + 1 ≤ 2 ^ (d + 1) := by
  intro m
  induction m with
  | zero => intro d p h; omega
  | succ m ih =>
    intro d p hd hd10 p0 p1
    have hd1 : 1 ≤ (3 ^ d : Nat) := Nat.one_le_pow _ _ (by omega)
    have h2d : 2 ≤ (2 ^ (d + 1) : Nat) := by
      rw [Nat.pow_succ]
      have : 1 ≤ (2 ^ d : Nat) := Nat.one_le_pow _ _ (by omega)
      omega
    show ∃ t p', f55.b L N _ (fun a0 a1 a2 => some (a0, a1, a2)) c p (d : Int) = _ ∧ _
    unfold f55.b f55.b'
    obtain ⟨r, hr, r0, r1⟩ := pick_ok L N hb p0 (by omega) (show (1 : Int) ≤ 6 by omega)
    rw [hr]
    simp only [Option.bind_some]
    have leaf : ∀ v : Int, ∃ t p', f55.j0' L N (f55 L N m) (fun a0 a1 a2 => some (a0, a1, a2)) v (0 : Int) c (p + 1) (0 : Int) (0 : Int) = some (t, c, p') ∧ p ≤ p' ∧ p' ≤ p + 10 * (3 ^ d : Nat) ∧ TOk t ∧ nodes t + 1 ≤ 2 ^ (d + 1) := by
      intro v
      unfold f55.j0'
      simp only [beq_self_eq_true, cond_true]
      obtain ⟨s, hs, s0, s1⟩ := pick_ok L N hb (p := p + 1) (by omega) (by omega) (show (1 : Int) ≤ 40 by omega)
      rw [hs]
      simp only [Option.bind_some]
      by_cases h0 : s = 0
      · subst h0
        simp only [beq_self_eq_true, cond_true]
        obtain ⟨q, hq, q0, q1⟩ := pick_ok L N hb (p := p + 1 + 1) (by omega) (by omega) (show (1 : Int) ≤ 3 by omega)
        rw [hq]
        simp only [Option.bind_some]
        rw [wi_id (by omega) (by omega)]
        exact ⟨_, _, rfl, by omega, by omega, ⟨⟨by show _ ≤ (4 : Int) + q; omega, by show (4 : Int) + q ≤ _; omega⟩, ⟨by show (-9223372036854775808 : Int) ≤ 0; omega, by show (0 : Int) ≤ 9223372036854775807; omega⟩, Nat.zero_le _, trivial⟩, by simp [nodes, nodess, Tree.parts]; omega⟩
      · have : (s == 0) = false := by simpa using h0
        rw [this, cond_false]
        exact ⟨_, _, rfl, by omega, by omega, ⟨⟨by show (-9223372036854775808 : Int) ≤ 0; omega, by show (0 : Int) ≤ 9223372036854775807; omega⟩, ⟨by show (-9223372036854775808 : Int) ≤ 0; omega, by show (0 : Int) ≤ 9223372036854775807; omega⟩, Nat.zero_le _, trivial⟩, by simp [nodes, nodess, Tree.parts]; omega⟩
    by_cases h0 : d = 0
    · subst h0
      exact leaf 0
    · have hb0 : (((d : Nat) : Int) == 0) = false := by simp; omega
      rw [hb0, cond_false]
      by_cases hr0 : r = 0
      · subst hr0; exact leaf _
      · obtain ⟨e, rfl⟩ : ∃ e, d = e + 1 := ⟨d - 1, by omega⟩
        have hwd : wi (((e + 1 : Nat) : Int) - 1) = (e : Int) := by rw [wi_id (by omega) (by omega)]; omega
        have h3e : (3 ^ (e + 1) : Nat) = 3 * 3 ^ e := by rw [Nat.pow_succ]; omega
        have h3e1 : 1 ≤ (3 ^ e : Nat) := Nat.one_le_pow _ _ (by omega)
        have h2e : (2 ^ (e + 1 + 1) : Nat) = 2 * 2 ^ (e + 1) := by rw [Nat.pow_succ]; omega
        rw [h3e] at p1 ⊢
        rw [h2e]
        have tok1 : ∀ (o n : Int) (t : Tree), (-9223372036854775808 ≤ o ∧ o ≤ 9223372036854775807) → (-9223372036854775808 ≤ n ∧ n ≤ 9223372036854775807) → TOk t → TOk (.mk o n [t]) := fun o n t h1 h2 ht => ⟨h1, h2, by simp [show maxLen = 9223372036854775807 from rfl], ht, trivial⟩
        unfold f55.j0'
        have e0 : (r == 0) = false := by simpa using hr0
        rw [e0, cond_false]
        simp only [hwd]
        by_cases h1 : r = 1
        · subst h1
          simp only [beq_self_eq_true, cond_true]
          obtain ⟨t, p', ht, q0, q1, tk, nn⟩ := ih e (p + 1) (by omega) (by omega) (by omega) (by omega)
          rw [ht]
          exact ⟨_, p', rfl, by omega, by omega, tok1 _ _ t ⟨by omega, by omega⟩ ⟨by omega, by omega⟩ tk, by simp only [nodes, nodess]; omega⟩
        · have e1 : (r == 1) = false := by simpa using h1
          rw [e1, cond_false]
          by_cases h2 : r = 2
          · subst h2
            simp only [beq_self_eq_true, cond_true]
            obtain ⟨t, p', ht, q0, q1, tk, nn⟩ := ih e (p + 1) (by omega) (by omega) (by omega) (by omega)
            rw [ht]
            simp only [Option.bind_some]
            obtain ⟨t2, p2, ht2, q20, q21, tk2, nn2⟩ := ih e p' (by omega) (by omega) (by omega) (by omega)
            rw [ht2]
            simp only [Option.bind_some, mk_eta]
            exact ⟨_, p2, rfl, by omega, by omega, ⟨⟨by omega, by omega⟩, ⟨by omega, by omega⟩, by simp [show maxLen = 9223372036854775807 from rfl], tk, tk2, trivial⟩, by simp only [nodes, nodess]; omega⟩
          · have e2 : (r == 2) = false := by simpa using h2
            rw [e2, cond_false]
            obtain ⟨a, p', ha, q0, q1, a0, a1⟩ := act_draw L N hb (p := p + 1) (by omega) (by omega)
            rw [ha]
            simp only [Option.bind_some]
            obtain ⟨t2, p2, ht2, q20, q21, tk2, nn2⟩ := ih e p' (by omega) (by omega) (by omega) (by omega)
            rw [ht2]
            exact ⟨_, p2, rfl, by omega, by omega, tok1 _ _ t2 ⟨by omega, by omega⟩ ⟨a0, a1⟩ tk2, by simp only [nodes, nodess]; omega⟩

/-- spec.DrawFormDepth -/
theorem drawDepth_ok (L N : Nat) (hN : 5 ≤ N) {x : List Int} (hx : DatOk (.sl (.int .u8)) x) : ∃ t, f29 L N x = some t ∧ TOk t ∧ nodes t ≤ 31 := by
  show ∃ t, f29.b L N some x = _ ∧ _
  unfold f29.b f29.b'
  obtain ⟨c, hc, hb⟩ := open_ok L N hx
  rw [hc]
  simp only [Option.bind_some]
  obtain ⟨r, hr, r0, r1⟩ := pick_ok L N hb (p := 0) (by omega) (by omega) (show (1 : Int) ≤ 5 by omega)
  rw [hr]
  simp only [Option.bind_some]
  obtain ⟨d, rfl⟩ := Int.eq_ofNat_of_zero_le r0
  have h3 : (3 ^ d : Nat) ≤ 3 ^ 4 := Nat.pow_le_pow_right (by omega) (by omega)
  have h2 : (2 ^ (d + 1) : Nat) ≤ 2 ^ 5 := Nat.pow_le_pow_right (by omega) (by omega)
  obtain ⟨t, p', ht, q0, q1, tk, nn⟩ := form_draw L N hb N d (0 + 1) (by omega) (by omega) (by omega) (by omega)
  rw [ht]
  simp only [Option.bind_some, mk_eta]
  exact ⟨t, rfl, tk, by omega⟩
/-- spec.DrawFormOk, spec.DrawFormText: the same code -/
theorem draw32 (L N : Nat) (x : List Int) : f32 L N x = f29 L N x := rfl
theorem draw34 (L N : Nat) (x : List Int) : f34 L N x = f29 L N x := rfl

/-! ### Depths -/
mutual
def depth : Tree → Nat
  | .mk o _ ps => depths ps + if o = 3 then 1 else 0
def depths : List Tree → Nat
  | [] => 0
  | p :: r => max (depth p) (depths r)
end
theorem depth_le (n : Nat) : ∀ t : Tree, nodes t ≤ n → depth t ≤ nodes t := by
  induction n with
  | zero => intro t h; have := nodes_pos t; omega
  | succ n ih =>
    intro t h
    obtain ⟨o, a, ps⟩ := t
    simp only [nodes] at h
    have key : ∀ ps : List Tree, nodess ps ≤ n → depths ps ≤ nodess ps := by
      intro ps
      induction ps with
      | nil => intro _; simp [depths]
      | cons p r ihp =>
        intro h
        simp only [nodess] at h
        have h1 := ih p (by omega)
        have h2 := ihp (by omega)
        simp only [depths, nodess]; omega
    have := key ps (by omega)
    simp only [depth, nodes]
    split <;> omega
theorem depths_drop {ps : List Tree} {i : Nat} (h : i < ps.length) : depths (ps.drop i) = max (depth ps[i]) (depths (ps.drop (i + 1))) := by
  rw [List.drop_eq_getElem_cons h]; rfl

/-- impl.depthOf -/
theorem depth_ok (L N : Nat) : ∀ (m : Nat) (t : Tree), nodes t ≤ m → nodes t < L → nodes t ≤ lim → f57 L N m t = some (depth t : Int) := by
  intro m
  induction m with
  | zero => intro t h; have := nodes_pos t; omega
  | succ m ih =>
    intro t h hL hl
    obtain ⟨o, a, ps⟩ := t
    have hlim : lim = 1099511627776 := rfl
    simp only [nodes] at h hL hl
    have hll := nodess_len ps
    have key : ∀ (n i c : Nat), ps.length - i < n → i ≤ ps.length → c ≤ lim → ∀ (o a : Int) (qs : List Tree),
        f57.l0 L N (f57 L N m) (fun z7 z8 z9 z10 => f57.p0_e0 L N (f57 L N m) some z7 z8 z9 z10) n (c : Int) ps (ps.length : Int) (i : Int) o a qs = f57.p0_e0 L N (f57 L N m) some ((max c (depths (ps.drop i)) : Nat) : Int) o a qs := by
      intro n
      induction n with
      | zero => intro i c h; omega
      | succ n ihn =>
        intro i c h2 hi hc o a qs
        show f57.s0 L N _ _ (f57.l0 L N _ _ n) (c : Int) ps (ps.length : Int) i o a qs = _
        unfold f57.s0 f57.s0'
        by_cases hlt : i < ps.length
        · have hg := nodes_get hlt
          simp only [lt_cast hlt, le0, cond_true, Bool.and_true, wi_nat (show i < 9223372036854775807 by omega), Int.toNat_natCast, at_lt hlt, mk_eta]
          rw [ih ps[i] (by omega) (by omega) (by omega), depths_drop hlt]
          simp only [Option.bind_some]
          have hdp := depth_le _ ps[i] (Nat.le_refl _)
          have hm : (bif decide ((depth ps[i] : Int) > (c : Int)) then (depth ps[i] : Int) else (c : Int)) = ((max c (depth ps[i]) : Nat) : Int) := by
            by_cases hx : (depth ps[i] : Int) > c
            · rw [dt hx, cond_true]; omega
            · rw [df hx, cond_false]; omega
          rw [hm, ihn (i + 1) _ (by omega) (by omega) (by omega)]
          rw [Nat.max_assoc]
        · simp only [ge_cast hlt, cond_false]
          have hi' : i = ps.length := by omega
          subst hi'
          rw [List.drop_length]
          simp [depths]
    show f57.b L N _ some (Tree.mk o a ps) = _
    unfold f57.b f57.b'
    refine (key L 0 0 (by omega) (by omega) (by omega) o a ps).trans ?_
    rw [List.drop_zero, Nat.zero_max]
    unfold f57.p0_e0 f57.p0_e0'
    have hd := depth_le _ (Tree.mk o a ps) (Nat.le_refl _)
    simp only [depth, nodes] at hd ⊢
    by_cases h3 : o = 3
    · subst h3
      simp only [beq_self_eq_true, cond_true, if_true] at hd ⊢
      rw [wi_nat (by omega)]
    · have : (o == 3) = false := by simpa using h3
      rw [this, cond_false, if_neg h3]
      rfl

/-- spec.l7Depth -/
theorem depth2_ok (L N : Nat) : ∀ (m : Nat) (t : Tree), nodes t ≤ m → nodes t < L → nodes t ≤ lim → f58 L N m t = some (depth t : Int) := by
  intro m
  induction m with
  | zero => intro t h; have := nodes_pos t; omega
  | succ m ih =>
    intro t h hL hl
    obtain ⟨o, a, ps⟩ := t
    have hlim : lim = 1099511627776 := rfl
    simp only [nodes] at h hL hl
    have hll := nodess_len ps
    have key : ∀ (n i c : Nat), ps.length - i < n → i ≤ ps.length → c ≤ lim → ∀ (o a : Int),
        f58.l0 L N (f58 L N m) (fun z7 z8 z9 z10 => f58.p0_e0 L N (f58 L N m) some z7 z8 z9 z10) n (c : Int) (i : Int) o a ps = f58.p0_e0 L N (f58 L N m) some ((max c (depths (ps.drop i)) : Nat) : Int) o a ps := by
      intro n
      induction n with
      | zero => intro i c h; omega
      | succ n ihn =>
        intro i c h2 hi hc o a
        show f58.s0 L N _ _ (f58.l0 L N _ _ n) (c : Int) i o a ps = _
        unfold f58.s0 f58.s0'
        by_cases hlt : i < ps.length
        · have hg := nodes_get hlt
          simp only [lt_cast hlt, le0, cond_true, Bool.and_true, wi_nat (show i < 9223372036854775807 by omega), Int.toNat_natCast, at_lt hlt]
          rw [ih ps[i] (by omega) (by omega) (by omega), depths_drop hlt]
          simp only [Option.bind_some]
          have hdp := depth_le _ ps[i] (Nat.le_refl _)
          have hm : (bif decide ((depth ps[i] : Int) > (c : Int)) then (depth ps[i] : Int) else (c : Int)) = ((max c (depth ps[i]) : Nat) : Int) := by
            by_cases hx : (depth ps[i] : Int) > c
            · rw [dt hx, cond_true]; omega
            · rw [df hx, cond_false]; omega
          rw [hm, ihn (i + 1) _ (by omega) (by omega) (by omega)]
          rw [Nat.max_assoc]
        · simp only [ge_cast hlt, cond_false]
          have hi' : i = ps.length := by omega
          subst hi'
          rw [List.drop_length]
          simp [depths]
    show f58.b L N _ some (Tree.mk o a ps) = _
    unfold f58.b f58.b'
    refine (key L 0 0 (by omega) (by omega) (by omega) o a).trans ?_
    rw [List.drop_zero, Nat.zero_max]
    unfold f58.p0_e0 f58.p0_e0'
    have hd := depth_le _ (Tree.mk o a ps) (Nat.le_refl _)
    simp only [depth, nodes] at hd ⊢
    by_cases h3 : o = 3
    · subst h3
      simp only [beq_self_eq_true, cond_true, if_true] at hd ⊢
      rw [wi_nat (by omega)]
    · have : (o == 3) = false := by simpa using h3
      rw [this, cond_false, if_neg h3]
      rfl

def okF (t : Tree) : Bool := decide (nodes t ≤ 60) && shape t
def fdepth (t : Tree) : Int := if okF t = true then (depth t : Int) else -1
theorem fdepth_ok (L N : Nat) (t : Tree) (hN : nodes t ≤ N) (hL : nodes t < L) (hl : nodes t ≤ lim) (ht : TOk t) : f30 L N t = some (fdepth t) := by
  show f30.b L N some t = _
  unfold f30.b f30.b' fdepth
  rw [mk_eta, formOk_ok L N t hN hL hl ht, depth_ok L N N t hN hL hl]
  show (bif !(okF t) then _ else _) = _
  cases okF t <;> rfl
theorem fdepth2_ok (L N : Nat) (t : Tree) (hN : nodes t ≤ N) (hL : nodes t < L) (hl : nodes t ≤ lim) (ht : TOk t) : f31 L N t = some (fdepth t) := by
  show f31.b L N some t = _
  unfold f31.b f31.b' fdepth
  rw [mk_eta, formOk2_ok L N t hN hL ht, depth2_ok L N N t hN hL hl]
  show (bif !(okF t) then _ else _) = _
  cases okF t <;> rfl

/-- FnExactFormDepth -/
theorem f8_ok (x : Tree) (hx : DatOk (.st 1) x) : ∃ L N, f8 L N x = some true := by
  have ht := treeOk hx
  refine ⟨nodes x + 1, 2 * nodes x, ?_⟩
  have hlim : lim = 1099511627776 := rfl
  have hp := nodes_pos x
  show f8.b _ _ some x = _
  unfold f8.b f8.b'
  simp only [mk_eta]
  rw [(sz_ok (nodes x + 1) (2 * nodes x) (2 * nodes x)).1 x 1048576 ht (by omega) (by omega) (by omega) (by omega)]
  simp only [Option.bind_some]
  have hn : nodes x = 1 + nodess x.parts := by cases x; rfl
  unfold szRes
  by_cases h : (nodess x.parts : Int) ≤ 1048576
  · rw [if_pos h, df (by omega), cond_false]
    rw [(to_ok (nodes x + 1) (2 * nodes x) (2 * nodes x)).1 x (by omega) (by omega) (by omega)]
    simp only [Option.bind_some]
    rw [fdepth_ok _ _ x (by omega) (by omega) (by omega) ht, fdepth2_ok _ _ x (by omega) (by omega) (by omega) ht, (eq_ok (nodes x + 1) (2 * nodes x) (2 * nodes x)).1 x (by omega) (by omega) (by omega)]
    simp
  · rw [if_neg h, dt (by omega), cond_true]

/-- FnFormDepth -/
theorem f7_ok (x : List Int) (hx : DatOk (.sl (.int .u8)) x) : ∃ L N, f7 L N x = some true := by
  refine ⟨100, 100, ?_⟩
  have hlim : lim = 1099511627776 := rfl
  show f7.b _ _ some x = _
  unfold f7.b f7.b'
  by_cases hlen : (x.length : Int) > 1048576
  · rw [dt hlen, cond_true]
  · rw [df hlen, cond_false]
    obtain ⟨t, ht, tk, tn⟩ := drawDepth_ok 100 100 (by omega) hx
    rw [ht]
    simp only [Option.bind_some, mk_eta]
    have tk1 : ∀ o n : Int, (-9223372036854775808 ≤ o ∧ o ≤ 9223372036854775807) → (-9223372036854775808 ≤ n ∧ n ≤ 9223372036854775807) → TOk (.mk o n [t]) := fun o n h1 h2 => ⟨h1, h2, by simp [show maxLen = 9223372036854775807 from rfl], tk, trivial⟩
    have n1 : ∀ o n : Int, nodes (.mk o n [t]) = nodes t + 1 := fun o n => by simp only [nodes, nodess]; omega
    have hm : f27 100 100 (.mk 3 1 [t]) = some (okF (.mk 3 1 [t])) := formOk_ok 100 100 _ (by rw [n1]; omega) (by rw [n1]; omega) (by rw [n1]; omega) (tk1 3 1 ⟨by omega, by omega⟩ ⟨by omega, by omega⟩)
    have hn : f27 100 100 (.mk 1 0 [t]) = some (okF (.mk 1 0 [t])) := formOk_ok 100 100 _ (by rw [n1]; omega) (by rw [n1]; omega) (by rw [n1]; omega) (tk1 1 0 ⟨by omega, by omega⟩ ⟨by omega, by omega⟩)
    have dm := fdepth_ok 100 100 (.mk 3 1 [t]) (by rw [n1]; omega) (by rw [n1]; omega) (by rw [n1]; omega) (tk1 3 1 ⟨by omega, by omega⟩ ⟨by omega, by omega⟩)
    have dn := fdepth_ok 100 100 (.mk 1 0 [t]) (by rw [n1]; omega) (by rw [n1]; omega) (by rw [n1]; omega) (tk1 1 0 ⟨by omega, by omega⟩ ⟨by omega, by omega⟩)
    rw [fdepth_ok 100 100 t (by omega) (by omega) (by omega) tk, fdepth2_ok 100 100 t (by omega) (by omega) (by omega) tk]
    simp only [Option.bind_some, bne_self_eq_false, cond_false, hm, hn, dm, dn]
    have hd := depth_le _ t (Nat.le_refl _)
    by_cases hok : okF t = true
    · have e1 : fdepth t = (depth t : Int) := if_pos hok
      rw [e1, df (by omega), cond_false]
      have en : okF (.mk 1 0 [t]) = true → fdepth (.mk 1 0 [t]) = (depth t : Int) := fun h => by
        unfold fdepth
        rw [if_pos h]
        simp [depth, depths]
      have em : okF (.mk 3 1 [t]) = true → fdepth (.mk 3 1 [t]) = (depth t : Int) + 1 := fun h => by
        unfold fdepth
        rw [if_pos h]
        simp [depth, depths]
      rw [wi_id (by omega) (by omega)]
      cases hm1 : okF (.mk 3 1 [t]) <;> cases hn1 : okF (.mk 1 0 [t])
      · rfl
      · simp [en hn1]
      · simp [em hm1]
      · simp [em hm1, en hn1]
    · have e1 : fdepth t = -1 := if_neg hok
      rw [e1]; rfl
end Go.Proofs.Ythkonljgjjlloaa.Ev
