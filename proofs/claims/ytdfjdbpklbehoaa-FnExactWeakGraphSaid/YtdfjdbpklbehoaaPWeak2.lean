/- Plain laws of weak steps: spec.l5Weak, and that it answers as impl.weakOf. No conditions but those that each states. -/
import Derived.Test.YtdfjdbpklbehoaaPWeak
namespace Go.Proofs.Ytdfjdbpklbehoaa.Ev
open Go
set_option linter.unusedVariables false
set_option linter.unusedSimpArgs false

/-- what the answer lays for a move of a state in between -/
def wsG (sl : List (List Bool)) (n : Nat) (m : Move) : List Move := ((List.range n).filter fun t => (sl.getD m.to.toNat []).getD t false).map fun t : Nat => Move.mk m.act (t : Int)
def wsF (b : Bool) (sl : List (List Bool)) (ms : List (List Move)) (s v : Nat) : List Move :=
  if (sl.getD s []).getD v false = true then (if b then [] else [Move.mk 0 (v : Int)]) ++ (ms.getD v []).flatMap (wsG sl ms.length) else []

theorem sweak3 {R : Type} (L N : Nat) (K : Bool → List (List Bool) → Int → Int → Int → List (List Move) → List Move → List (List Move) → Option R) (b : Bool) (sl : List (List Bool)) (i0 mid k : Int) (ms : List (List Move)) (act : Int) (u : Nat) (hu : u < sl.length) (hul : (sl[u]).length = ms.length) (rows : List (List Move)) (hms : ms.length ≤ 60) :
    ∀ (n j : Nat) (out : List Move), j ≤ ms.length → ms.length - j < n → out.length + (ms.length - j) ≤ lim →
      f87.l3 L N K n b sl i0 mid k (j : Int) ms act (u : Int) out rows = K b sl i0 mid k ms (out ++ (((List.range ms.length).drop j).filter fun t => (sl[u]).getD t false).map fun t : Nat => Move.mk act (t : Int)) rows := by
  intro n
  induction n with
  | zero => intro j out _ h; omega
  | succ n ih =>
    intro j out hj hn ho
    show f87.s3 L N _ (f87.l3 L N _ n) b sl i0 mid k (j : Int) ms act (u : Int) out rows = _
    unfold f87.s3 f87.s3'
    by_cases hlt : j < ms.length
    · have hle : decide (out.length + ([(Move.mk act (j : Int))] : (List Move)).length ≤ lim) = true := dt (by simp only [List.length_cons, List.length_nil]; omega)
      have hj2 : j < (sl[u]).length := by omega
      have hjr : j < (List.range ms.length).length := by rw [List.length_range]; exact hlt
      simp only [lt_cast hlt, lt_cast hu, lt_cast hj2, le0, Bool.and_true, cond_true, Int.toNat_natCast, at_lt hu, hle, atD, wi_nat (show j < 9223372036854775807 by omega)]
      rw [drop_cons hjr, List.getElem_range, List.filter_cons]
      cases hc : (sl[u]).getD j false with
      | true =>
        rw [cond_true, ih (j + 1) _ (by omega) (by omega) (by simp only [List.length_append, List.length_cons, List.length_nil]; omega), if_pos rfl, List.map_cons, List.append_assoc]
        rfl
      | false =>
        rw [cond_false, ih (j + 1) _ (by omega) (by omega) (by omega), if_neg (by simp)]
    · simp only [ge_cast hlt, cond_false]
      rw [drop_end (by rw [List.length_range]; exact hlt), List.filter_nil, List.map_nil, List.append_nil]

theorem wsG_len (sl : List (List Bool)) (n : Nat) (m : Move) : (wsG sl n m).length ≤ n := by
  unfold wsG
  rw [List.length_map]
  exact Nat.le_trans (List.length_filter_le _ _) (by simp)

theorem sweak2 {R : Type} (L N : Nat) (hL : 1048576 < L) (k1_e2 : Bool → List (List Bool) → Int → List (List Move) → List Move → List (List Move) → Option R) (m1 : Nat) (b : Bool) (sl : List (List Bool)) (i0 : Int) (v : Nat) (ms : List (List Move)) (hv : v < ms.length) (rows : List (List Move))
    (hm : Leads ms) (hsn : sl.length = ms.length) (hsl : ∀ (j : Nat) (hj : j < sl.length), (sl[j]).length = ms.length) :
    ∀ (n k : Nat) (out : List Move), k ≤ (ms[v]).length → (ms[v]).length - k < n → out.length + ((ms[v]).length - k) * 60 ≤ lim →
      f87.l2 L N (fun z35 z36 z37 z38 z39 z40 z41 => f87.p2_e4 L N k1_e2 (f87.l1 L N k1_e2 m1) z35 z36 z37 z38 z39 z40 z41) n b sl i0 (v : Int) (k : Int) ms out rows
        = f87.l1 L N k1_e2 m1 b sl i0 (wi ((v : Int) + 1)) ms (out ++ ((ms[v]).drop k).flatMap (wsG sl ms.length)) rows := by
  have hms := hm.1
  have hrow := hm.2 v hv
  intro n
  induction n with
  | zero => intro k out _ h; omega
  | succ n ih =>
    intro k out hk hn ho
    show f87.s2 L N _ (f87.l2 L N _ n) b sl i0 (v : Int) (k : Int) ms out rows = _
    unfold f87.s2 f87.s2'
    by_cases hlt : k < (ms[v]).length
    · have hstep : ((ms[v]).length - k) * 60 = ((ms[v]).length - (k + 1)) * 60 + 60 := by
        rw [show (ms[v]).length - k = ((ms[v]).length - (k + 1)) + 1 by omega, Nat.add_mul]
      obtain ⟨t, ht, htl⟩ := hm.nat hv hlt
      have htl' : t < sl.length := by omega
      simp only [lt_cast hv, le0, Bool.and_true, cond_true, Int.toNat_natCast, at_lt hv, lt_cast hlt, at_lt hlt, ht]
      refine (sweak3 L N _ b sl i0 (v : Int) (k : Int) ms _ t htl' (hsl t htl') rows hms L 0 out (by omega) (by omega) (by omega)).trans ?_
      show f87.p3_e6' L N _ _ b sl i0 (v : Int) (k : Int) ms _ rows = _
      unfold f87.p3_e6'
      have hG : wsG sl ms.length (ms[v])[k] = ((List.range ms.length).filter fun t' => (sl[t]).getD t' false).map fun t' : Nat => Move.mk ((ms[v])[k]).act (t' : Int) := by
        unfold wsG
        rw [ht, Int.toNat_natCast, getD_lt htl']
      have hGl := wsG_len sl ms.length (ms[v])[k]
      rw [hG] at hGl
      rw [List.drop_zero, wi_nat (by omega), ih (k + 1) _ (by omega) (by omega) (by rw [List.length_append]; omega), drop_cons hlt, List.flatMap_cons, hG, List.append_assoc]
    · simp only [lt_cast hv, le0, Bool.and_true, cond_true, Int.toNat_natCast, at_lt hv, ge_cast hlt, cond_false]
      rw [drop_end hlt, List.flatMap_nil, List.append_nil]
      rfl

theorem wsF_len (b : Bool) {sl : List (List Bool)} {ms : List (List Move)} (hm : Leads ms) (s v : Nat) (hv : v < ms.length) : (wsF b sl ms s v).length ≤ 62914561 := by
  have hms := hm.1
  have hrow := (hm.2 v hv).1
  have hfl : ((ms[v]).flatMap (wsG sl ms.length)).length ≤ (ms[v]).length * ms.length := flat_len_le fun m _ => wsG_len sl ms.length m
  have h2 : (ms[v]).length * ms.length ≤ (ms[v]).length * 60 := Nat.mul_le_mul (Nat.le_refl _) hms
  unfold wsF
  split
  · rw [getD_lt hv, List.length_append]
    cases b <;> simp only [Bool.false_eq_true, if_true, if_false, List.length_cons, List.length_nil] <;> omega
  · simp

theorem sweak1 {R : Type} (L N : Nat) (hL : 1048576 < L) (K : Bool → List (List Bool) → Int → List (List Move) → List Move → List (List Move) → Option R) (b : Bool) (sl : List (List Bool)) (i0 : Nat) (ms : List (List Move)) (hi0 : i0 < ms.length) (rows : List (List Move))
    (hm : Leads ms) (hsn : sl.length = ms.length) (hsl : ∀ (j : Nat) (hj : j < sl.length), (sl[j]).length = ms.length) :
    ∀ (n v : Nat) (out : List Move), v ≤ ms.length → ms.length - v < n → out.length + (ms.length - v) * 62914561 ≤ lim →
      f87.l1 L N K n b sl (i0 : Int) (v : Int) ms out rows = K b sl (i0 : Int) ms (out ++ ((List.range ms.length).drop v).flatMap (wsF b sl ms i0)) rows := by
  have hms := hm.1
  intro n
  induction n with
  | zero => intro k out _ h; omega
  | succ n ih =>
    intro v out hk hn ho
    show f87.s1 L N _ (f87.l1 L N _ n) b sl (i0 : Int) (v : Int) ms out rows = _
    unfold f87.s1 f87.s1'
    by_cases hlt : v < ms.length
    · have hstep : (ms.length - v) * 62914561 = (ms.length - (v + 1)) * 62914561 + 62914561 := by
        rw [show ms.length - v = (ms.length - (v + 1)) + 1 by omega, Nat.add_mul]
      have hi' : i0 < sl.length := by omega
      have hv2 : v < (sl[i0]).length := by rw [hsl]; exact hlt
      have hvr : v < (List.range ms.length).length := by rw [List.length_range]; exact hlt
      have hrow := (hm.2 v hlt).1
      have hfl := wsF_len b (sl := sl) hm i0 v hlt
      simp only [lt_cast hlt, lt_cast hi', lt_cast hv2, le0, Bool.and_true, cond_true, Int.toNat_natCast, at_lt hi', atD, wi_nat (show v < 9223372036854775807 by omega)]
      rw [drop_cons hvr, List.getElem_range, List.flatMap_cons]
      have hF : wsF b sl ms i0 v = if (sl[i0]).getD v false = true then (if b then [] else [Move.mk 0 (v : Int)]) ++ (ms[v]).flatMap (wsG sl ms.length) else [] := by
        unfold wsF; rw [getD_lt hi', getD_lt hlt]
      rw [hF] at hfl ⊢
      cases hc : (sl[i0]).getD v false with
      | false =>
        clear hfl hrow
        have e1 : out.length + (ms.length - (v + 1)) * 62914561 ≤ lim := by rw [hstep] at ho; exact Nat.le_trans (Nat.add_le_add_left (Nat.le_add_right _ _) _) ho
        rw [Bool.not_false, cond_true, ih (v + 1) _ (by omega) (by omega) e1, if_neg (by simp)]
        rfl
      | true =>
        rw [hc, if_pos rfl] at hfl
        rw [Bool.not_true, cond_false, if_pos rfl]
        have go : ∀ (pre : List Move), (pre ++ (ms[v]).flatMap (wsG sl ms.length)).length ≤ 62914561 → pre.length ≤ 1 → f87.j0' L N K (f87.l1 L N K n) (f87.l2 L N (fun z35 z36 z37 z38 z39 z40 z41 => f87.p2_e4 L N K (f87.l1 L N K n) z35 z36 z37 z38 z39 z40 z41) L) b sl (i0 : Int) (v : Int) ms (out ++ pre) rows
            = K b sl (i0 : Int) ms (out ++ ((pre ++ (ms[v]).flatMap (wsG sl ms.length)) ++ ((List.range ms.length).drop (v + 1)).flatMap (wsF b sl ms i0))) rows := by
          intro pre hpl hp1
          unfold f87.j0'
          refine (sweak2 L N hL K n b sl (i0 : Int) v ms hlt rows hm hsn hsl L 0 _ (by omega) (by omega) (by rw [List.length_append]; omega)).trans ?_
          rw [List.drop_zero, wi_nat (by omega), ih (v + 1) _ (by omega) (by omega) (by rw [List.length_append] at hpl; rw [List.length_append, List.length_append]; omega)]
          simp only [List.append_assoc]
        cases b with
        | true =>
          have h := go [] (by simpa using hfl) (by simp)
          rw [List.append_nil] at h
          simpa using h
        | false =>
          have h := go [Move.mk 0 (v : Int)] (by simpa using hfl) (by simp)
          have hle : decide (out.length + ([(Move.mk (0 : Int) (v : Int))] : (List Move)).length ≤ lim) = true := dt (by simp only [List.length_cons, List.length_nil]; omega)
          rw [Bool.not_false, cond_true, hle, cond_true]
          simpa using h
    · simp only [ge_cast hlt, cond_false]
      rw [drop_end (by rw [List.length_range]; exact hlt), List.flatMap_nil, List.append_nil]

theorem l5Weak_ok (L N : Nat) (b : Bool) (ms : List (List Move)) (hm : Leads ms) (hL : 8589934592 ≤ L) :
    ∃ (sl : List (List Bool)) (rows : List (List Move)), sl.length = ms.length ∧ (∀ (j : Nat) (hj : j < sl.length), (sl[j]).length = ms.length ∧ ∀ t : Nat, Tr sl[j] t ↔ Slip ms (fun s => s = j) t) ∧
      f87 L N ⟨ms⟩ b = some ⟨rows⟩ ∧ rows.length = ms.length ∧ ∀ (j : Nat) (hj : j < rows.length), RisesM rows[j] ∧ ∀ v, v ∈ rows[j] ↔ v ∈ (List.range ms.length).flatMap (wsF b sl ms j) := by
  have hlim := lim_eq
  have hn := hm.1
  obtain ⟨sl, e, hsn, hs⟩ := l5Slips_ok L N ms hm (by omega)
  refine ⟨sl, ?_⟩
  have hsl : ∀ (j : Nat) (hj : j < sl.length), (sl[j]).length = ms.length := fun j hj => (hs j hj).1
  have e' : f122 L N (Graph.mk (Graph.mk ms).moves) = some sl := e
  have key : ∀ (n i : Nat) (rows : List (List Move)), i ≤ ms.length → ms.length - i < n → rows.length = i → (∀ (j : Nat) (hj : j < rows.length), RisesM rows[j] ∧ ∀ v, v ∈ rows[j] ↔ v ∈ (List.range ms.length).flatMap (wsF b sl ms j)) →
      ∃ rows', f87.l0 L N (fun z6 => f87.p0_e0 L N some z6) n b sl (i : Int) ms rows = some ⟨rows'⟩ ∧ rows'.length = ms.length ∧ ∀ (j : Nat) (hj : j < rows'.length), RisesM rows'[j] ∧ ∀ v, v ∈ rows'[j] ↔ v ∈ (List.range ms.length).flatMap (wsF b sl ms j) := by
    intro n
    induction n with
    | zero => intro i rows _ h; omega
    | succ n ih =>
      intro i rows hi hn' hr hp
      show ∃ rows', f87.s0 L N _ (f87.l0 L N _ n) b sl (i : Int) ms rows = _ ∧ _
      unfold f87.s0 f87.s0'
      by_cases hlt : i < ms.length
      · simp only [lt_cast hlt, cond_true]
        have h1 := sweak1 L N (by omega) (fun z14 z15 z16 z17 z18 z19 => f87.p1_e2 L N (fun z6 => f87.p0_e0 L N some z6) (f87.l0 L N (fun z6 => f87.p0_e0 L N some z6) n) z14 z15 z16 z17 z18 z19) b sl i ms hlt rows hm hsn hsl L 0 [] (by omega) (by omega) (by simp only [List.length_nil]; omega)
        have h2 : f87.l1 L N (fun z14 z15 z16 z17 z18 z19 => f87.p1_e2 L N (fun z6 => f87.p0_e0 L N some z6) (f87.l0 L N (fun z6 => f87.p0_e0 L N some z6) n) z14 z15 z16 z17 z18 z19) L b sl (i : Int) (0 : Int) ms [] rows = _ := h1
        rw [h2, List.drop_zero, List.nil_append]
        show ∃ rows', f87.p1_e2' L N _ _ b sl (i : Int) ms _ rows = _ ∧ _
        unfold f87.p1_e2'
        have hfl : ((List.range ms.length).flatMap (wsF b sl ms i)).length ≤ (List.range ms.length).length * 62914561 := flat_len_le fun v hv => wsF_len b hm i v (List.mem_range.1 hv)
        rw [List.length_range] at hfl
        obtain ⟨ys, q1, q2, q3, q4⟩ := l3Sorted_ok L N ((List.range ms.length).flatMap (wsF b sl ms i)) (by omega) (by omega)
        have hle : decide (rows.length + ([ys] : (List (List Move))).length ≤ lim) = true := dt (by simp only [List.length_cons, List.length_nil]; omega)
        rw [q1, Option.bind_some, hle, cond_true, wi_nat (by omega)]
        exact ih (i + 1) _ (by omega) (by omega) (by simp [hr]) (rows_snoc (P := fun j r => RisesM r ∧ ∀ v, v ∈ r ↔ v ∈ (List.range ms.length).flatMap (wsF b sl ms j)) hp (by rw [hr]; exact ⟨q2, q3⟩))
      · simp only [ge_cast hlt, cond_false]
        have hi' : i = ms.length := by omega
        subst hi'
        exact ⟨rows, rfl, hr, hp⟩
  obtain ⟨rows, h1, h2⟩ := key L 0 [] (by omega) (by omega) rfl (fun j hj => by simp at hj)
  refine ⟨rows, hsn, hs, ?_, h2⟩
  show f87.b L N some ⟨ms⟩ b = _
  unfold f87.b f87.b'
  rw [e', Option.bind_some]
  exact h1

theorem Slip.trans {ms : List (List Move)} {X Y : Nat → Prop} {u : Nat} (h : Slip ms Y u) (hX : ∀ t, Y t → Slip ms X t) : Slip ms X u := by
  induction h with
  | base t hy => exact hX t hy
  | step s t _ hl k hk ha ht ih => exact .step s t ih hl k hk ha ht

theorem Slip.lt {ms : List (List Move)} (hm : Leads ms) {X : Nat → Prop} (hX : ∀ t, X t → t < ms.length) {u : Nat} (h : Slip ms X u) : u < ms.length := by
  induction h with
  | base t hx => exact hX t hx
  | step s t _ hl k hk ha ht ih =>
    obtain ⟨t', h1, h2⟩ := hm.nat hl hk
    rw [ht] at h1
    omega

/-- the weak steps of a state -/
def WkS (ms : List (List Move)) (s : Nat) (m : Move) : Prop := ∃ mid, Slip ms (fun x => x = s) mid ∧
  ((m.act = 0 ∧ m.to = (mid : Int)) ∨ ∃ (hs : mid < ms.length) (k : Nat) (hk : k < (ms[mid]).length) (t u : Nat), (ms[mid])[k].act ≠ 0 ∧ m.act = (ms[mid])[k].act ∧ (ms[mid])[k].to = (t : Int) ∧ Slip ms (fun x => x = t) u ∧ m.to = (u : Int))

theorem wk_mem {ms : List (List Move)} (hm : Leads ms) {sl : List (List Int)} (hsn : sl.length = ms.length) (hs : ∀ (j : Nat) (hj : j < sl.length), (sl[j]).length ≤ ms.length ∧ (∀ v ∈ sl[j], 0 ≤ v ∧ v < (ms.length : Int)) ∧ ∀ t : Nat, (t : Int) ∈ sl[j] ↔ Slip ms (fun s => s = j) t)
    (s : Nat) (hsl : s < sl.length) (m : Move) : m ∈ (sl[s]).flatMap (wkF sl ms) ↔ WkS ms s m := by
  obtain ⟨h1, h2, h3⟩ := hs s hsl
  rw [List.mem_flatMap]
  constructor
  · rintro ⟨v, hv, hmv⟩
    obtain ⟨hv0, hvn⟩ := h2 v hv
    obtain ⟨mid, hmid⟩ := Int.eq_ofNat_of_zero_le hv0
    subst hmid
    have hml : mid < ms.length := by omega
    refine ⟨mid, (h3 mid).1 hv, ?_⟩
    unfold wkF at hmv
    rw [Int.toNat_natCast, getD_lt hml] at hmv
    rcases List.mem_cons.1 hmv with e | hmv
    · exact .inl ⟨by rw [e], by rw [e]⟩
    · obtain ⟨q, hq, hmq⟩ := List.mem_flatMap.1 hmv
      obtain ⟨k, hk, rfl⟩ := List.mem_iff_getElem.1 hq
      obtain ⟨t, ht, htl⟩ := hm.nat hml hk
      have htl' : t < sl.length := by omega
      unfold wkG at hmq
      split at hmq
      · rename_i ha
        rw [ht, Int.toNat_natCast, getD_lt htl'] at hmq
        obtain ⟨w, hw, rfl⟩ := List.mem_map.1 hmq
        obtain ⟨hw0, hwn⟩ := (hs t htl').2.1 w hw
        obtain ⟨u, hu⟩ := Int.eq_ofNat_of_zero_le hw0
        subst hu
        exact .inr ⟨hml, k, hk, t, u, ha, rfl, ht, ((hs t htl').2.2 u).1 hw, rfl⟩
      · cases hmq
  · rintro ⟨mid, hsm, h⟩
    have hml : mid < ms.length := hsm.lt hm (fun t ht => by omega)
    refine ⟨(mid : Int), (h3 mid).2 hsm, ?_⟩
    unfold wkF
    rw [Int.toNat_natCast, getD_lt hml]
    rcases h with ⟨ha, ht⟩ | ⟨_, k, hk, t, u, ha, hact, ht, hu, hto⟩
    · refine List.mem_cons.2 (.inl ?_)
      rw [← mv_eta m, ha, ht]
    · obtain ⟨t', ht', htl⟩ := hm.nat hml hk
      rw [ht] at ht'
      obtain rfl : t = t' := by omega
      have htl' : t < sl.length := by omega
      refine List.mem_cons.2 (.inr (List.mem_flatMap.2 ⟨_, List.getElem_mem hk, ?_⟩))
      unfold wkG
      rw [if_pos ha, ht, Int.toNat_natCast, getD_lt htl']
      refine List.mem_map.2 ⟨(u : Int), ((hs t htl').2.2 u).2 hu, ?_⟩
      rw [← mv_eta m, hact, hto]

theorem ws_mem {ms : List (List Move)} (hm : Leads ms) {sl : List (List Bool)} (hsn : sl.length = ms.length) (hs : ∀ (j : Nat) (hj : j < sl.length), (sl[j]).length = ms.length ∧ ∀ t : Nat, Tr sl[j] t ↔ Slip ms (fun s => s = j) t)
    (s : Nat) (hsl : s < sl.length) (m : Move) : m ∈ (List.range ms.length).flatMap (wsF false sl ms s) ↔ WkS ms s m := by
  obtain ⟨h1, h3⟩ := hs s hsl
  rw [List.mem_flatMap]
  constructor
  · rintro ⟨mid, hv, hmv⟩
    have hml := List.mem_range.1 hv
    unfold wsF at hmv
    rw [getD_lt hsl, getD_lt hml] at hmv
    split at hmv
    · rename_i hT
      have hslip := (h3 mid).1 hT
      rcases List.mem_append.1 hmv with e | hmv
      · have e : m ∈ [Move.mk 0 (mid : Int)] := e
        rw [List.mem_singleton] at e
        exact ⟨mid, hslip, .inl ⟨by rw [e], by rw [e]⟩⟩
      · obtain ⟨q, hq, hmq⟩ := List.mem_flatMap.1 hmv
        obtain ⟨k, hk, rfl⟩ := List.mem_iff_getElem.1 hq
        obtain ⟨t, ht, htl⟩ := hm.nat hml hk
        have htl' : t < sl.length := by omega
        unfold wsG at hmq
        rw [ht, Int.toNat_natCast, getD_lt htl'] at hmq
        obtain ⟨u, hu, rfl⟩ := List.mem_map.1 hmq
        have hu2 := (List.mem_filter.1 hu).2
        have hut := ((hs t htl').2 u).1 hu2
        by_cases ha : (ms[mid])[k].act = 0
        · refine ⟨u, hut.trans fun x hx => ?_, .inl ⟨ha, rfl⟩⟩
          subst hx
          exact .step mid x hslip hml k hk ha ht
        · exact ⟨mid, hslip, .inr ⟨hml, k, hk, t, u, ha, rfl, ht, hut, rfl⟩⟩
    · cases hmv
  · rintro ⟨mid, hsm, h⟩
    have hml : mid < ms.length := hsm.lt hm (fun t ht => by omega)
    refine ⟨mid, List.mem_range.2 hml, ?_⟩
    unfold wsF
    have hT : (sl[s]).getD mid false = true := (h3 mid).2 hsm
    rw [getD_lt hsl, getD_lt hml, if_pos hT]
    rcases h with ⟨ha, ht⟩ | ⟨_, k, hk, t, u, ha, hact, ht, hu, hto⟩
    · refine List.mem_append.2 (.inl (List.mem_singleton.2 ?_))
      rw [← mv_eta m, ha, ht]
    · obtain ⟨t', ht', htl⟩ := hm.nat hml hk
      rw [ht] at ht'
      obtain rfl : t = t' := by omega
      have htl' : t < sl.length := by omega
      refine List.mem_append.2 (.inr (List.mem_flatMap.2 ⟨_, List.getElem_mem hk, ?_⟩))
      unfold wsG
      rw [ht, Int.toNat_natCast, getD_lt htl']
      have hul : u < ms.length := hu.lt hm (fun x hx => by omega)
      refine List.mem_map.2 ⟨u, List.mem_filter.2 ⟨List.mem_range.2 hul, ((hs t htl').2 u).2 hu⟩, ?_⟩
      rw [← mv_eta m, hact, hto]

theorem weak_eq (L N : Nat) (ms : List (List Move)) (hm : Leads ms) (hL : 8589934592 ≤ L) :
    ∃ rows, f88 L N ⟨ms⟩ = some rows ∧ f87 L N ⟨ms⟩ false = some ⟨rows⟩ ∧ rows.length = ms.length ∧ ∀ (j : Nat) (hj : j < rows.length), RisesM rows[j] ∧ ∀ m, m ∈ rows[j] ↔ WkS ms j m := by
  obtain ⟨s1, a1, a2, a3⟩ := weakOf_ok L N ms hm (by omega)
  obtain ⟨s2, rows, b1, b2, b3, b4, b5⟩ := l5Weak_ok L N false ms hm hL
  have hmem : ∀ (j : Nat) (hj : j < rows.length), RisesM rows[j] ∧ ∀ m, m ∈ rows[j] ↔ WkS ms j m := fun j hj => ⟨(b5 j hj).1, fun m => ((b5 j hj).2 m).trans (ws_mem hm b1 b2 j (by omega) m)⟩
  have he : (s1.map fun li => tidyM (li.flatMap (wkF s1 ms))) = rows := by
    apply List.ext_getElem
    · rw [List.length_map]; omega
    · intro j h1 h2
      rw [List.getElem_map]
      have hj1 : j < s1.length := by omega
      exact risesM_ext (tidyM_rises _) (hmem j h2).1 fun x => ((tidyM_mem _ x).trans (wk_mem hm a1 a2 j hj1 x)).trans ((hmem j h2).2 x).symm
  rw [he] at a3
  exact ⟨rows, a3, b3, b4, hmem⟩
end Go.Proofs.Ytdfjdbpklbehoaa.Ev
