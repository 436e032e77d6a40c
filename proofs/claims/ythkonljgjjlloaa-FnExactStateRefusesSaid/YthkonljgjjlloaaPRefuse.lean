/- Plain laws of refusing: the program's and the reference's StateRefuses say the same. No conditions but those that each states. -/
import Derived.Test.YthkonljgjjlloaaPGraphOk
namespace Go.Proofs.Ythkonljgjjlloaa.Ev
open Go
set_option linter.unusedVariables false
set_option linter.unusedSimpArgs false

theorem toBoolS_ok (L N : Nat) (x : List Bool) (hL : x.length < L) (hl : x.length ≤ lim) : f16 L N x = some x := by
  have hm := lim_eq
  show f16.b L N some x = _
  unfold f16.b f16.b'
  refine (bif_t2 (by omega) (by omega)).trans ?_
  refine copy_loop (l := fun n i ys => f16.l0 L N (fun z3 => f16.p0_e0 L N some z3) n x i ys) (fun n i hi ys hy => ?_) (fun n ys => ?_) L 0 _ (by omega) (by omega) (by simp) (by simp)
  · show f16.s0 L N _ (f16.l0 L N _ n) x i ys = _
    unfold f16.s0 f16.s0'
    simp only [lt_cast hi, le0, cond_true, Bool.and_true, Int.toNat_natCast, at_lt hi, lt_cast (show i < ys.length by omega), wi_nat (show i < 9223372036854775807 by omega)]
  · show f16.s0 L N _ (f16.l0 L N _ n) x x.length ys = _
    unfold f16.s0 f16.s0'
    simp only [ge_cast (Nat.lt_irrefl _), cond_false]
    rfl
theorem eqBoolS_ok (L N : Nat) (x : List Bool) (hL : x.length < L) (hl : x.length ≤ lim) : f18 L N x x = some true := by
  have hm := lim_eq
  show f18.b L N some x x = _
  unfold f18.b f18.b'
  simp only [bne_self_eq_false, cond_false]
  refine (all_loop (l := fun n i => f18.l0 L N (f18.p0_e0 L N some) (fun z4 => f18.p0_r L N some z4) n x x i) (len := x.length) (q := fun _ => true) (rt := some true) (rf := some false) (fun n i hi => ?_) (fun n => ?_) L 0 (by omega) (by omega)).trans (by rw [allN_true]; rfl)
  · show f18.s0 L N _ _ (f18.l0 L N _ _ n) x x i = _
    unfold f18.s0 f18.s0'
    simp only [lt_cast hi, le0, cond_true, Bool.and_true, Int.toNat_natCast, at_lt hi, beq_self_eq_true, Bool.not_true, cond_false, wi_nat (show i < 9223372036854775807 by omega)]
  · show f18.s0 L N _ _ (f18.l0 L N _ _ n) x x x.length = _
    unfold f18.s0 f18.s0'
    simp only [ge_cast (Nat.lt_irrefl _), cond_false]
    rfl

/-- the place of an action in a menu -/
def place (a : Int) : Nat := (if a > 0 then 3 + a else -a - 1).toNat
theorem place_lt {a : Int} (h : -4 ≤ a ∧ a ≤ 4) (h0 : a ≠ 0) : place a < 8 := by unfold place; split <;> omega
theorem place_ok (L N : Nat) {a : Int} (h : -4 ≤ a ∧ a ≤ 4) (h0 : a ≠ 0) : f96 L N a = some (place a : Int) := by
  show f96.b L N some a = _
  unfold f96.b f96.b' place
  by_cases hp : a > 0
  · rw [dt hp, cond_true, wi_id (n := 4 + a) (by omega) (by omega), wi_id (by omega) (by omega), if_pos hp]
    congr 1; omega
  · rw [df hp, cond_false, wi_id (n := 0 - a) (by omega) (by omega), wi_id (by omega) (by omega), if_neg hp]
    congr 1; omega

/-- the acts of a row are acts -/
def ActsOk (row : List Move) : Prop := ∀ m ∈ row, -4 ≤ m.act ∧ m.act ≤ 4
def calmR (row : List Move) : Bool := row.all fun m => !(m.act == 0)
def offersR (row : List Move) (k : Nat) : Bool := row.any fun m => !(m.act == 0) && place m.act == k

theorem any_take {α : Type} {p : α → Bool} {x : List α} {i : Nat} (h : i < x.length) : (x.take (i + 1)).any p = ((x.take i).any p || p x[i]) := by
  rw [List.take_succ_eq_append_getElem h, List.any_append]; simp
theorem all_take {α : Type} {p : α → Bool} {x : List α} {i : Nat} (h : i < x.length) : (x.take (i + 1)).all p = ((x.take i).all p && p x[i]) := by
  rw [List.take_succ_eq_append_getElem h, List.all_append]; simp

theorem offers_ok (L N : Nat) (g : Graph) (s : Nat) (hs : s < g.moves.length) (ha : ActsOk g.moves[s]) (hL : 1048576 < L) (hl : (g.moves[s]).length ≤ 1048576) :
    ∃ offs, f80 L N g (s : Int) = some (offs, calmR g.moves[s]) ∧ offs.length = 8 ∧ ∀ k, k < 8 → offs.getD k false = offersR g.moves[s] k := by
  show ∃ offs, f80.b L N (fun a0 a1 => some (a0, a1)) g (s : Int) = _ ∧ _
  unfold f80.b f80.b'
  obtain ⟨⟨calm, offs⟩, h1, h2, h3, h4⟩ := inv_loop (l := fun n i st => f80.l0 L N (fun z5 z6 => f80.p0_e0 L N (fun a0 a1 => some (a0, a1)) z5 z6) n (s : Int) st.1 i g.moves st.2) (len := (g.moves[s]).length) (K := fun st => some (st.2, st.1))
    (fun i st => st.2.length = 8 ∧ st.1 = calmR ((g.moves[s]).take i) ∧ ∀ k, k < 8 → st.2.getD k false = offersR ((g.moves[s]).take i) k) (fun n i st hi ⟨p1, p2, p3⟩ => by
      show ∃ s', f80.s0 L N _ (f80.l0 L N _ n) (s : Int) st.1 i g.moves st.2 = _ ∧ _
      unfold f80.s0 f80.s0'
      simp only [le0, lt_cast hs, lt_cast hi, cond_true, Bool.and_true, Bool.true_and, Int.toNat_natCast, at_lt hs, at_lt hi, wi_nat (show i < 9223372036854775807 by omega)]
      by_cases h0 : (g.moves[s])[i].act = 0
      · have hb : ((g.moves[s])[i].act == 0) = true := by simpa using h0
        rw [hb]
        simp only [cond_true]
        refine ⟨(false, st.2), rfl, p1, ?_, fun k hk => ?_⟩
        · show false = _
          unfold calmR; rw [all_take hi, hb]; simp
        · show st.2.getD k false = _
          rw [p3 k hk]
          unfold offersR; rw [any_take hi, hb]; simp
      · have hb : ((g.moves[s])[i].act == 0) = false := by simpa using h0
        have hr := ha _ (List.getElem_mem hi)
        have hp := place_lt hr h0
        rw [hb]
        simp only [cond_false, place_ok L N hr h0, Option.bind_some, le0, lt_cast (show place (g.moves[s])[i].act < st.2.length by omega), Bool.and_true, cond_true, Int.toNat_natCast]
        refine ⟨(st.1, st.2.set (place (g.moves[s])[i].act) true), rfl, by simp [p1], ?_, fun k hk => ?_⟩
        · show st.1 = _
          rw [p2]
          unfold calmR; rw [all_take hi, hb]; simp
        · show (st.2.set (place (g.moves[s])[i].act) true).getD k false = _
          have e1 : offersR ((g.moves[s]).take (i + 1)) k = (offersR ((g.moves[s]).take i) k || place (g.moves[s])[i].act == k) := by
            unfold offersR; rw [any_take hi, hb]; simp
          rw [e1, ← p3 k hk, List.getD_eq_getElem?_getD, List.getD_eq_getElem?_getD]
          by_cases hk2 : place (g.moves[s])[i].act = k
          · subst hk2
            rw [List.getElem?_set_self (by omega)]; simp
          · rw [List.getElem?_set_ne hk2]
            have : (place (g.moves[s])[i].act == k) = false := by simpa using hk2
            rw [this]; simp) (fun n st _ => by
      show f80.s0 L N _ (f80.l0 L N _ n) (s : Int) st.1 (g.moves[s]).length g.moves st.2 = _
      unfold f80.s0 f80.s0'
      simp only [le0, lt_cast hs, cond_true, Bool.and_true, Bool.true_and, Int.toNat_natCast, at_lt hs, ge_cast (Nat.lt_irrefl _), cond_false]
      rfl) L 0 (true, List.replicate 8 false) (by omega) (by omega) ⟨by simp, rfl, fun k hk => by
        rw [List.getD_eq_getElem?_getD, List.getElem?_replicate, if_pos hk]; rfl⟩
  rw [List.take_length] at h3 h4
  simp only at h2 h3 h4
  subst h3
  exact ⟨offs, h1, h2, h4⟩

theorem refuses2_ok (L N : Nat) (g : Graph) (s : Nat) (menu : List Bool) (hs : s < g.moves.length) (ha : ActsOk g.moves[s]) (hm : menu.length = 8) (hL : 1048576 < L) (hl : (g.moves[s]).length ≤ 1048576) :
    f63 L N g (s : Int) menu = some (calmR g.moves[s] && !((g.moves[s]).any fun m => !(m.act == 0) && menu.getD (place m.act) false)) := by
  obtain ⟨offs, h1, h2, h3⟩ := offers_ok L N g s hs ha hL hl
  show f63.b L N some g (s : Int) menu = _
  unfold f63.b f63.b'
  have hg : Graph.mk g.moves = g := by cases g; rfl
  rw [hg, h1]
  simp only [Option.bind_some]
  refine (all_loop (l := fun n k => f63.l0 L N (fun z5 => f63.p0_e0 L N some z5) (fun z11 z12 => f63.p0_r L N some z11 z12) n menu offs (calmR g.moves[s]) k) (len := menu.length) (q := fun k => !(menu.getD k false && offs.getD k false)) (rt := some (calmR g.moves[s])) (rf := some false) (fun n k hk => ?_) (fun n => ?_) L 0 (by omega) (by omega)).trans ?_
  · show f63.s0 L N _ _ (f63.l0 L N _ _ n) menu offs _ k = _
    unfold f63.s0 f63.s0'
    simp only [le0, lt_cast hk, lt_cast (show k < offs.length by omega), cond_true, Bool.and_true, Bool.true_and, Int.toNat_natCast, atD, wi_nat (show k < 9223372036854775807 by omega)]
    cases menu.getD k false
    · rfl
    · cases offs.getD k false <;> rfl
  · show f63.s0 L N _ _ (f63.l0 L N _ _ n) menu offs _ menu.length = _
    unfold f63.s0 f63.s0'
    simp only [ge_cast (Nat.lt_irrefl _), cond_false]
    rfl
  · have key : allN (fun k => !(menu.getD k false && offs.getD k false)) (menu.length - 0) 0 = !((g.moves[s]).any fun m => !(m.act == 0) && menu.getD (place m.act) false) := by
      apply Bool.eq_iff_iff.2
      constructor
      · intro h
        rw [Bool.not_eq_true', List.any_eq_false]
        intro m hmm
        by_cases h0 : m.act = 0
        · simp [h0]
        · have hb : (m.act == 0) = false := by simpa using h0
          have hp := place_lt (ha m hmm) h0
          have h4 := allN_get _ 0 h (place m.act) (by omega) (by omega)
          have h5 : offersR g.moves[s] (place m.act) = true := by
            unfold offersR
            rw [List.any_eq_true]
            exact ⟨m, hmm, by simp [hb]⟩
          simp only [h3 _ hp, h5, Bool.and_true] at h4
          simp only [hb, Bool.not_false, Bool.true_and]
          simpa using h4
      · intro h
        rw [Bool.not_eq_true', List.any_eq_false] at h
        have : ∀ j, 0 ≤ j → j < 0 + (menu.length - 0) → (fun k => !(menu.getD k false && offs.getD k false)) j = (fun _ => true) j := by
          intro j _ hj
          have hj8 : j < 8 := by omega
          simp only [h3 j hj8]
          cases ho : offersR g.moves[s] j
          · simp
          · unfold offersR at ho
            rw [List.any_eq_true] at ho
            obtain ⟨m, hmm, h6⟩ := ho
            simp only [Bool.and_eq_true, Bool.not_eq_true', beq_iff_eq] at h6
            have h7 := h m hmm
            have hb : (m.act == 0) = false := by simpa using h6.1
            simp only [hb, Bool.not_false, Bool.true_and, h6.2] at h7
            simpa using h7
        rw [allN_eq _ _ this, allN_true]
    rw [key]
    cases calmR g.moves[s] <;> cases (g.moves[s]).any (fun m => !(m.act == 0) && menu.getD (place m.act) false) <;> rfl

theorem calm_ok (L N : Nat) (g : Graph) (s : Nat) (hs : s < g.moves.length) (hL : 1048576 < L) (hl : (g.moves[s]).length ≤ 1048576) : f83 L N g (s : Int) = some (calmR g.moves[s]) := by
  generalize hrow : g.moves[s] = row
  rw [hrow] at hl
  obtain ⟨r, hr, hd⟩ := find_loop (l := fun n i => f100_1.l0 L N (f100_1.p0_e0 L N some) (fun z4 => f100_1.p0_r L N some z4) n row (row.length : Int) i) (x := row) (p := fun m => m.act == 0) (fun n i hi => by
    show f100_1.s0 L N _ _ (f100_1.l0 L N _ _ n) row (row.length : Int) i = _
    unfold f100_1.s0 f100_1.s0'
    have hc : ∀ m : Move, f99 L N m = some (m.act == 0) := fun m => rfl
    simp only [lt_cast hi, le0, cond_true, Bool.and_true, Int.toNat_natCast, at_lt hi, hc, Option.bind_some, wi_nat (show i < 9223372036854775807 by omega)]
    rfl) (fun n => by
    show f100_1.s0 L N _ _ (f100_1.l0 L N _ _ n) row (row.length : Int) row.length = _
    unfold f100_1.s0 f100_1.s0'
    simp only [ge_cast (Nat.lt_irrefl _), cond_false]
    rfl) L 0 (by omega) (by omega)
  have h91 : f100_1 L N row = some r := hr
  have h71 : f84_2 L N row = some (decide (r ≥ 0)) := by
    show f84_2.b L N some row = _
    unfold f84_2.b f84_2.b'
    rw [h91]; rfl
  show f83.b L N some g (s : Int) = _
  unfold f83.b f83.b'
  simp only [le0, lt_cast hs, Bool.and_true, cond_true, Int.toNat_natCast, at_lt hs, hrow, h71, Option.bind_some, hd, List.drop_zero]
  congr 1
  unfold calmR
  clear h71 h91 hd hr hl hrow
  induction row with
  | nil => rfl
  | cons a row ih => rw [List.any_cons, List.all_cons, Bool.not_or, ih]

theorem name_ok (L N : Nat) {a : Int} (h : -4 ≤ a ∧ a ≤ 4) : f94 L N a = some ((if a < 0 then -a else a) - 1) := by
  show f94.b L N some a = _
  unfold f94.b f94.b'
  rw [wi_id (n := 0 - a) (by omega) (by omega)]
  by_cases hn : a < 0
  · rw [dt (show 0 - a > a by omega), cond_true, if_pos hn, wi_id (by omega) (by omega)]
    congr 1; omega
  · rw [if_neg hn]
    by_cases h0 : 0 - a > a
    · omega
    · rw [df h0, cond_false, wi_id (by omega) (by omega)]
theorem menuHas_ok (L N : Nat) {a : Int} (h : -4 ≤ a ∧ a ≤ 4) (h0 : a ≠ 0) (menu : List Bool) (hm : menu.length = 8) : f86 L N menu a = some (menu.getD (place a) false) := by
  show f86.b L N some menu a = _
  unfold f86.b f86.b' place
  rw [name_ok L N h]
  simp only [Option.bind_some]
  by_cases hn : a < 0
  · rw [dt hn, cond_true, if_pos hn, dt (show 0 ≤ -a - 1 by omega), dt (show -a - 1 < (menu.length : Int) by omega), if_neg (by omega)]
    rfl
  · rw [df hn, cond_false, if_neg hn, wi_id (by omega) (by omega), dt (show 0 ≤ 4 + (a - 1) by omega), dt (show 4 + (a - 1) < (menu.length : Int) by omega), if_pos (by omega), show 4 + (a - 1) = 3 + a by omega]
    rfl
theorem refuses1_ok (L N : Nat) (g : Graph) (s : Nat) (menu : List Bool) (hs : s < g.moves.length) (ha : ActsOk g.moves[s]) (hm : menu.length = 8) (hL : 1048576 < L) (hl : (g.moves[s]).length ≤ 1048576) :
    f66 L N g (s : Int) menu = some (calmR g.moves[s] && !((g.moves[s]).any fun m => !(m.act == 0) && menu.getD (place m.act) false)) := by
  have hg : Graph.mk g.moves = g := by cases g; rfl
  show f66.b L N some g (s : Int) menu = _
  unfold f66.b f66.b'
  rw [hg, calm_ok L N g s hs hL hl]
  simp only [Option.bind_some, le0, lt_cast hs, Bool.and_true, cond_true, Int.toNat_natCast, at_lt hs]
  generalize hrow : g.moves[s] = row
  rw [hrow] at hl ha
  cases hc : calmR row
  · rfl
  · have hne : ∀ m ∈ row, m.act ≠ 0 := fun m hmm h0 => by
      unfold calmR at hc
      rw [List.all_eq_true] at hc
      have := hc m hmm
      simp [h0] at this
    obtain ⟨r, hr, hd⟩ := find_loop (l := fun n i => f100_2.l0 L N (f100_2.p0_e0 L N some) (fun z4 => f100_2.p0_r L N some z4) n row menu (row.length : Int) i) (x := row) (p := fun m => menu.getD (place m.act) false) (fun n i hi => by
      show f100_2.s0 L N _ _ (f100_2.l0 L N _ _ n) row menu (row.length : Int) i = _
      unfold f100_2.s0 f100_2.s0'
      have hcl : f85_1 L N row[i] menu = some (menu.getD (place (row[i]).act) false) := by
        show f85_1.b L N some row[i] menu = _
        unfold f85_1.b f85_1.b'
        rw [menuHas_ok L N (ha _ (List.getElem_mem hi)) (hne _ (List.getElem_mem hi)) menu hm]; rfl
      simp only [lt_cast hi, le0, cond_true, Bool.and_true, Int.toNat_natCast, at_lt hi, hcl, Option.bind_some, wi_nat (show i < 9223372036854775807 by omega)]
      rfl) (fun n => by
      show f100_2.s0 L N _ _ (f100_2.l0 L N _ _ n) row menu (row.length : Int) row.length = _
      unfold f100_2.s0 f100_2.s0'
      simp only [ge_cast (Nat.lt_irrefl _), cond_false]
      rfl) L 0 (by omega) (by omega)
    have h91 : f100_2 L N row menu = some r := hr
    have h71 : f84_1 L N row menu = some (decide (r ≥ 0)) := by
      show f84_1.b L N some row menu = _
      unfold f84_1.b f84_1.b'
      rw [h91]; rfl
    rw [h71, hd, List.drop_zero]
    have he : (row.any fun m => menu.getD (place m.act) false) = (row.any fun m => !(m.act == 0) && menu.getD (place m.act) false) := by
      apply Bool.eq_iff_iff.2
      rw [List.any_eq_true, List.any_eq_true]
      constructor
      · rintro ⟨m, h1, h2⟩
        exact ⟨m, h1, by
          have hb : (m.act == 0) = false := by simpa using hne m h1
          rw [hb, h2]; rfl⟩
      · rintro ⟨m, h1, h2⟩
        simp only [Bool.and_eq_true] at h2
        exact ⟨m, h1, h2.2⟩
    rw [he]
    rfl
end Go.Proofs.Ythkonljgjjlloaa.Ev
