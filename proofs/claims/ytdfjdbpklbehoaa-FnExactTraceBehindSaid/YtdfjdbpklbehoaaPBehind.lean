/- The plain law of FnExactTraceBehind. No condition. -/
import Derived.Test.YtdfjdbpklbehoaaPTrace
import Derived.Test.YtdfjdbpklbehoaaPMark
namespace Go.Proofs.Ytdfjdbpklbehoaa.Ev
open Go
set_option linter.unusedVariables false
set_option linter.unusedSimpArgs false

/-- the states of a set, ascending -/
theorem list8_ok (L N : Nat) (b : List Bool) (hb : b.length ≤ 1048576) (hL : 1048576 < L) : ∃ q, f77 L N b = some q ∧ (∀ x : Int, x ∈ q ↔ ∃ t : Nat, x = (t : Int) ∧ Tr b t) ∧ Rises q ∧ q.length ≤ b.length := by
  have hlim := lim_eq
  show ∃ q, f77.b L N some b = some q ∧ _
  unfold f77.b f77.b'
  have key : ∀ (n i : Nat) (q : List Int), i ≤ b.length → b.length - i < n → (∀ x : Int, x ∈ q ↔ ∃ t : Nat, t < i ∧ x = (t : Int) ∧ Tr b t) → Rises q → q.length ≤ i →
      ∃ r, f77.l0 L N (fun z3 => f77.p0_e0 L N some z3) n b (i : Int) q = some r ∧ (∀ x : Int, x ∈ r ↔ ∃ t : Nat, x = (t : Int) ∧ Tr b t) ∧ Rises r ∧ r.length ≤ b.length := by
    intro n
    induction n with
    | zero => intro i q _ h; omega
    | succ n ih =>
      intro i q hi hn hq hr hl
      show ∃ r, f77.s0 L N _ (f77.l0 L N _ n) b i q = some r ∧ _
      unfold f77.s0 f77.s0'
      by_cases hlt : i < b.length
      · have hle : decide (q.length + ([(i : Int)] : List Int).length ≤ lim) = true := dt (by simp only [List.length_cons, List.length_nil]; omega)
        simp only [lt_cast hlt, le0, cond_true, Bool.and_true, Int.toNat_natCast, atD, hle, wi_nat (show i < 9223372036854775807 by omega)]
        cases hb2 : b.getD i false
        · simp only [cond_false]
          refine ih (i + 1) q (by omega) (by omega) (fun x => ?_) hr (by omega)
          rw [hq x]
          constructor
          · rintro ⟨t, h1, h2, h3⟩; exact ⟨t, by omega, h2, h3⟩
          · rintro ⟨t, h1, h2, h3⟩
            by_cases e : t = i
            · subst e; unfold Tr at h3; rw [hb2] at h3; cases h3
            · exact ⟨t, by omega, h2, h3⟩
        · simp only [cond_true]
          refine ih (i + 1) (q ++ [(i : Int)]) (by omega) (by omega) (fun x => ?_) ?_ (by simp only [List.length_append, List.length_cons, List.length_nil]; omega)
          · rw [List.mem_append, hq x, List.mem_singleton]
            constructor
            · rintro (⟨t, h1, h2, h3⟩ | h)
              · exact ⟨t, by omega, h2, h3⟩
              · exact ⟨i, by omega, h, hb2⟩
            · rintro ⟨t, h1, h2, h3⟩
              by_cases e : t = i
              · subst e; exact .inr h2
              · exact .inl ⟨t, by omega, h2, h3⟩
          · refine List.pairwise_append.2 ⟨hr, by simp, fun x hx y hy => ?_⟩
            obtain ⟨t, h1, rfl, -⟩ := (hq x).1 hx
            obtain rfl := List.mem_singleton.1 hy
            omega
      · simp only [ge_cast hlt, cond_false]
        have hi' : i = b.length := by omega
        subst hi'
        refine ⟨q, rfl, fun x => ?_, hr, hl⟩
        rw [hq x]
        constructor
        · rintro ⟨t, -, h2, h3⟩; exact ⟨t, h2, h3⟩
        · rintro ⟨t, h2, h3⟩; exact ⟨t, Tr_lt h3, h2, h3⟩
  exact key L 0 [] (by omega) (by omega) (fun x => ⟨fun h => by simp at h, fun ⟨_, h, _⟩ => by omega⟩) List.Pairwise.nil (by simp)

/-- both TraceBehind -/
theorem traceBehind_eq (L N : Nat) (g : Graph) (w : List Int) (hg : g.moves.length + gsize g.moves ≤ 1048576) (hw : w.length ≤ 1048576) (hL : 268435456 ≤ L) :
    ∃ q, f39 L N g w = some q ∧ f38 L N g w = some q ∧ q.length ≤ 60 := by
  have hlim := lim_eq
  have hge : Graph.mk g.moves = g := by cases g; rfl
  show ∃ q, f39.b L N some g w = some q ∧ f38.b L N some g w = some q ∧ _
  unfold f39.b f39.b' f38.b f38.b'
  rw [hge, gok1_ok L N g (by omega) hg, gok2_ok L N g (by omega) hg, wordOk_ok L N w (by omega) (by omega), wordOk2_ok L N w (by omega) (by omega)]
  simp only [Option.bind_some]
  cases hgk : graphOk g
  · exact ⟨[], rfl, rfl, by simp⟩
  · simp only [Bool.not_true, cond_false, cond_true]
    cases hwk : (decide (w.length ≤ 20) && w.all seenB)
    · exact ⟨[], rfl, rfl, by simp⟩
    · simp only [Bool.not_true, cond_false, cond_true]
      simp only [Bool.and_eq_true, decide_eq_true_eq] at hwk
      have hm := leads_of hgk hg
      obtain ⟨q, b, h1, h2, s1, s2, s3, s4, s5⟩ := behind_ok L N g.moves w hm (graphOk_mv hgk).1 hwk.1 hL
      rw [hge] at h1 h2
      have hn := hm.1
      obtain ⟨r, r1, r2, r3, r4⟩ := list8_ok L N b (by omega) (by omega)
      have e : r = q := rises_ext r3 s5 fun x => by
        rw [r2 x]
        constructor
        · rintro ⟨t, rfl, h⟩; exact (s4 t).2 h
        · intro h
          obtain ⟨t, ht⟩ := Int.eq_ofNat_of_zero_le (s3 x h).1
          exact ⟨t, ht, (s4 t).1 (by rw [← ht]; exact h)⟩
      subst e
      rw [h1, h2]
      simp only [Option.bind_some, r1]
      exact ⟨r, rfl, rfl, by omega⟩

/-- FnExactTraceBehind -/
theorem exactTraceBehind (g : Graph) (hg : DatOk (.st 2) g) (w : List Int) (_ : DatOk (.sl i64) w) : ∃ L N, f6 L N g w = some true := by
  have hge : Graph.mk g.moves = g := by cases g; rfl
  refine ⟨268435456, 0, ?_⟩
  have hlim := lim_eq
  show f6.b _ _ some g w = _
  unfold f6.b f6.b'
  by_cases hl : (w.length : Int) > 1048576
  · rw [dt hl, cond_true]
  · rw [df hl, cond_false, hge]
    obtain ⟨r, hr, hc⟩ := szGraph_ok 268435456 0 g hg (by omega)
    rw [hr]
    simp only [Option.bind_some]
    by_cases hn : r < 0
    · rw [dt hn, cond_true]
    · rw [df hn, cond_false]
      have hsz : g.moves.length + gsize g.moves ≤ 1048576 := by omega
      obtain ⟨q, h1, h2, h3⟩ := traceBehind_eq 268435456 0 g w hsz (by omega) (by omega)
      obtain ⟨j, ys, m1, m2, m3⟩ := markMoveSS_ok 268435456 0 g.moves 1 (by omega) (fun r hr => by have := gsize_row r hr; omega) (by omega) (by omega) (by omega)
      have m4 := markIntS_ok 268435456 0 w j (by omega) (by omega) (by omega) (by omega)
      have m5 := markIntS_ok 268435456 0 q 1 (by omega) (by omega) (by omega) (by omega)
      have m6 := heldIntS_ok 268435456 0 1 q.length (by omega) (by omega) (by omega) (by omega)
      simp only [toGraph_ok 268435456 0 g (by omega) hsz, toIntS_ok 268435456 0 w (by omega) (by omega), hge, h1, h2, Option.bind_some, eqGraph_ok 268435456 0 g (by omega) hsz, eqIntS_ok 268435456 0 w (by omega) (by omega), eqIntS_ok 268435456 0 q (by omega) (by omega), Bool.not_true, cond_false, m1, m4]
      rw [df (show ¬ j + (w.length : Int) < 0 by omega)]
      simp only [cond_false]
      unfold f6.j0'
      simp only [m5, m6, toGraph_ok 268435456 0 g (by omega) hsz, toIntS_ok 268435456 0 w (by omega) (by omega), hge, h1, Option.bind_some, eqIntS_ok 268435456 0 q (by omega) (by omega), bne_self_eq_false, Bool.not_true, cond_false]
      rw [df (show ¬ (1 : Int) + (q.length : Int) < 0 by omega)]
      simp only [cond_false]
end Go.Proofs.Ytdfjdbpklbehoaa.Ev
