/- Plain laws of weak steps: impl.weakOf and spec.l5Weak answer the same rows. No conditions but those that each states. -/
import Derived.Test.YtdfjdbpklbehoaaPSlips
import Derived.Test.YtdfjdbpklbehoaaPTidyM
namespace Go.Proofs.Ytdfjdbpklbehoaa.Ev
open Go
set_option linter.unusedVariables false
set_option linter.unusedSimpArgs false

theorem flat_len_le {α β : Type} {f : α → List β} {B : Nat} : ∀ {l : List α}, (∀ x ∈ l, (f x).length ≤ B) → (l.flatMap f).length ≤ l.length * B
  | [], _ => by simp
  | x :: l, h => by
    have h1 := h x (.head _)
    have h2 := flat_len_le (f := f) (B := B) (l := l) fun y hy => h y (.tail _ hy)
    rw [List.flatMap_cons, List.length_append, List.length_cons, Nat.add_mul, Nat.one_mul]
    omega
theorem drop_cons {α : Type} {l : List α} {i : Nat} (h : i < l.length) : l.drop i = l[i] :: l.drop (i + 1) := List.drop_eq_getElem_cons h
theorem drop_end {α : Type} {l : List α} {i : Nat} (h : ¬ i < l.length) : l.drop i = [] := List.drop_eq_nil_of_le (by omega)

/-- what the program lays for a move of a state in between -/
def wkG (sl : List (List Int)) (m : Move) : List Move := if m.act ≠ 0 then (sl.getD m.to.toNat []).map (Move.mk m.act) else []
/-- .. for a state in between -/
def wkF (sl : List (List Int)) (ms : List (List Move)) (v : Int) : List Move := Move.mk 0 v :: (ms.getD v.toNat []).flatMap (wkG sl)

theorem weak3 {R : Type} (L N : Nat) (K : List (List Int) → Int → Int → List Int → Int → Int → List Move → Int → Int → List (List Move) → List Move → List (List Move) → List (List Move) → Option R) (sl : List (List Int)) (n0 i0 : Int) (li : List Int) (lli idx : Int) (row : List Move) (rl k : Int) (ts : List Int) (ms : List (List Move)) (act to : Int) (c5 rows : List (List Move)) (hts : ts.length ≤ 60) :
    ∀ (n j : Nat) (out : List Move), j ≤ ts.length → ts.length - j < n → out.length + (ts.length - j) ≤ lim →
      f88.l3 L N K n sl n0 i0 li lli idx row rl k ts (ts.length : Int) (j : Int) ms act to out c5 rows = K sl n0 i0 li lli idx row rl k ms (out ++ (ts.drop j).map (Move.mk act)) c5 rows := by
  intro n
  induction n with
  | zero => intro j out _ h; omega
  | succ n ih =>
    intro j out hj hn ho
    show f88.s3 L N _ (f88.l3 L N _ n) sl n0 i0 li lli idx row rl k ts (ts.length : Int) (j : Int) ms act to out c5 rows = _
    unfold f88.s3 f88.s3'
    by_cases hlt : j < ts.length
    · have hle : decide (out.length + ([(Move.mk act ts[j])] : (List Move)).length ≤ lim) = true := dt (by simp only [List.length_cons, List.length_nil]; omega)
      simp only [lt_cast hlt, le0, Bool.and_true, cond_true, Int.toNat_natCast, at_lt hlt, hle]
      rw [wi_nat (by omega), ih (j + 1) _ (by omega) (by omega) (by simp only [List.length_append, List.length_cons, List.length_nil]; omega), drop_cons hlt, List.map_cons, List.append_assoc]
      rfl
    · simp only [ge_cast hlt, cond_false, drop_end hlt, List.map_nil, List.append_nil]

theorem weak2 {R : Type} (L N : Nat) (hL : 1048576 < L) (k1_e2 : List (List Int) → Int → Int → List (List Move) → List Move → List (List Move) → List (List Move) → Option R) (m1 : Nat) (sl : List (List Int)) (n0 i0 : Int) (li : List Int) (lli idx : Int) (row : List Move) (ms : List (List Move)) (c5 rows : List (List Move))
    (hsl : ∀ r ∈ sl, r.length ≤ 60) (hrow : row.length ≤ 1048576) (hto : ∀ m ∈ row, 0 ≤ m.to ∧ m.to < (sl.length : Int)) :
    ∀ (n k : Nat) (out : List Move), k ≤ row.length → row.length - k < n → out.length + (row.length - k) * 60 ≤ lim →
      f88.l2 L N (fun z39 z40 z41 z42 z43 z44 z45 z46 z47 z48 => f88.p2_e4 L N k1_e2 (f88.l1 L N k1_e2 m1) z39 z40 z41 z42 z43 z44 z45 z46 z47 z48) n sl n0 i0 li lli idx row (row.length : Int) (k : Int) ms out c5 rows
        = f88.l1 L N k1_e2 m1 sl n0 i0 li lli (wi (idx + 1)) ms (out ++ (row.drop k).flatMap (wkG sl)) c5 rows := by
  intro n
  induction n with
  | zero => intro k out _ h; omega
  | succ n ih =>
    intro k out hk hn ho
    show f88.s2 L N _ (f88.l2 L N _ n) sl n0 i0 li lli idx row (row.length : Int) (k : Int) ms out c5 rows = _
    unfold f88.s2 f88.s2'
    by_cases hlt : k < row.length
    · have hstep : (row.length - k) * 60 = (row.length - (k + 1)) * 60 + 60 := by
        rw [show row.length - k = (row.length - (k + 1)) + 1 by omega, Nat.add_mul]
      obtain ⟨h1, h2⟩ := hto row[k] (List.getElem_mem hlt)
      generalize hm : row[k] = m at h1 h2
      obtain ⟨t, ht⟩ := Int.eq_ofNat_of_zero_le h1
      have htl : t < sl.length := by omega
      simp only [lt_cast hlt, le0, Bool.and_true, cond_true, Int.toNat_natCast, at_lt hlt, hm, ht, lt_cast htl, at_lt htl]
      rw [drop_cons hlt, hm, List.flatMap_cons]
      have hg : m.act ≠ 0 → wkG sl m = (sl[t]).map (Move.mk m.act) := fun h => by
        unfold wkG
        rw [if_pos h, ht, Int.toNat_natCast, getD_lt htl]
      by_cases ha : m.act = 0
      · have hb : (m.act != 0) = false := by simp [ha]
        have hg0 : wkG sl m = [] := by unfold wkG; rw [if_neg (fun h => h ha)]
        rw [hb, cond_false, wi_nat (by omega), ih (k + 1) out (by omega) (by omega) (by omega), hg0]
        rfl
      · have hb : (m.act != 0) = true := by simpa using ha
        have hr := hsl _ (List.getElem_mem htl)
        rw [hb, cond_true]
        refine (weak3 L N _ sl n0 i0 li lli idx row (row.length : Int) (k : Int) sl[t] ms m.act (t : Int) c5 rows hr L 0 out (by omega) (by omega) (by omega)).trans ?_
        rw [List.drop_zero, hg ha]
        show f88.p3_e6' L N _ _ sl n0 i0 li lli idx row (row.length : Int) (k : Int) ms _ c5 rows = _
        unfold f88.p3_e6'
        rw [wi_nat (by omega), ih (k + 1) _ (by omega) (by omega) (by rw [List.length_append, List.length_map]; omega), List.append_assoc]
    · simp only [ge_cast hlt, cond_false, drop_end hlt, List.flatMap_nil, List.append_nil]
      rfl

theorem weak1 {R : Type} (L N : Nat) (hL : 1048576 < L) (K : List (List Int) → Int → Int → List (List Move) → List Move → List (List Move) → List (List Move) → Option R) (sl : List (List Int)) (n0 i0 : Int) (li : List Int) (ms : List (List Move)) (c5 rows : List (List Move))
    (hm : Leads ms) (hsn : sl.length = ms.length) (hsl : ∀ r ∈ sl, r.length ≤ 60) (hli : ∀ v ∈ li, 0 ≤ v ∧ v < (ms.length : Int)) (hll : li.length ≤ 60) :
    ∀ (n idx : Nat) (out : List Move), idx ≤ li.length → li.length - idx < n → out.length + (li.length - idx) * 62914561 ≤ lim →
      f88.l1 L N K n sl n0 i0 li (li.length : Int) (idx : Int) ms out c5 rows = K sl n0 i0 ms (out ++ (li.drop idx).flatMap (wkF sl ms)) c5 rows := by
  intro n
  induction n with
  | zero => intro k out _ h; omega
  | succ n ih =>
    intro idx out hk hn ho
    show f88.s1 L N _ (f88.l1 L N _ n) sl n0 i0 li (li.length : Int) (idx : Int) ms out c5 rows = _
    unfold f88.s1 f88.s1'
    by_cases hlt : idx < li.length
    · have hstep : (li.length - idx) * 62914561 = (li.length - (idx + 1)) * 62914561 + 62914561 := by
        rw [show li.length - idx = (li.length - (idx + 1)) + 1 by omega, Nat.add_mul]
      obtain ⟨h1, h2⟩ := hli li[idx] (List.getElem_mem hlt)
      generalize hv : li[idx] = v at h1 h2
      obtain ⟨t, ht⟩ := Int.eq_ofNat_of_zero_le h1
      subst ht
      have htl : t < ms.length := by omega
      have hrow := hm.2 t htl
      have hle : decide (out.length + ([(Move.mk (0 : Int) (t : Int))] : (List Move)).length ≤ lim) = true := dt (by simp only [List.length_cons, List.length_nil]; omega)
      simp only [lt_cast hlt, le0, Bool.and_true, cond_true, Int.toNat_natCast, at_lt hlt, hv, lt_cast htl, at_lt htl, hle]
      have hto : ∀ m ∈ ms[t], 0 ≤ m.to ∧ m.to < (sl.length : Int) := fun m hm' => by
        obtain ⟨q, hq, rfl⟩ := List.mem_iff_getElem.1 hm'
        rw [hsn]; exact hrow.2 q hq
      refine (weak2 L N hL K n sl n0 i0 li (li.length : Int) (idx : Int) ms[t] ms c5 rows hsl hrow.1 hto L 0 _ (by omega) (by have := hrow.1; omega) (by
        have := hrow.1
        simp only [List.length_append, List.length_cons, List.length_nil]; omega)).trans ?_
      have hfl : ((ms[t]).flatMap (wkG sl)).length ≤ (ms[t]).length * 60 := flat_len_le fun m hm' => by
        unfold wkG
        split
        · rw [List.length_map, List.getD]
          cases he : sl[m.to.toNat]? with
          | none => simp
          | some r => exact hsl r (List.mem_of_getElem? he)
        · simp
      have h2r := hrow.1
      rw [wi_nat (by omega), ih (idx + 1) _ (by omega) (by omega) (by
        simp only [List.length_append, List.length_cons, List.length_nil, List.drop_zero]; omega), drop_cons hlt, hv, List.flatMap_cons, List.drop_zero]
      have hF : wkF sl ms (t : Int) = Move.mk 0 (t : Int) :: (ms[t]).flatMap (wkG sl) := by
        unfold wkF; rw [Int.toNat_natCast, getD_lt htl]
      rw [hF, List.append_assoc, List.append_assoc]
      rfl
    · simp only [ge_cast hlt, cond_false, drop_end hlt, List.flatMap_nil, List.append_nil]

theorem weakF_len {sl : List (List Int)} {ms : List (List Move)} {li : List Int} (hm : Leads ms) (hsl : ∀ r ∈ sl, r.length ≤ 60) (hli : ∀ v ∈ li, 0 ≤ v ∧ v < (ms.length : Int)) (hll : li.length ≤ 60) : (li.flatMap (wkF sl ms)).length ≤ 3774873660 := by
  have h := flat_len_le (l := li) (f := wkF sl ms) (B := 62914561) fun v hv => by
    obtain ⟨h1, h2⟩ := hli v hv
    obtain ⟨t, ht⟩ := Int.eq_ofNat_of_zero_le h1
    subst ht
    have htl : t < ms.length := by omega
    unfold wkF
    rw [Int.toNat_natCast, getD_lt htl, List.length_cons]
    have hrow := hm.2 t htl
    have hfl : ((ms[t]).flatMap (wkG sl)).length ≤ (ms[t]).length * 60 := flat_len_le fun m hm' => by
      unfold wkG
      split
      · rw [List.length_map, List.getD]
        cases he : sl[m.to.toNat]? with
        | none => simp
        | some r => exact hsl r (List.mem_of_getElem? he)
      · simp
    omega
  omega

theorem weakOf_ok (L N : Nat) (ms : List (List Move)) (hm : Leads ms) (hL : 1048576 < L) :
    ∃ sl : List (List Int), sl.length = ms.length ∧ (∀ (j : Nat) (hj : j < sl.length), (sl[j]).length ≤ ms.length ∧ (∀ v ∈ sl[j], 0 ≤ v ∧ v < (ms.length : Int)) ∧ ∀ t : Nat, (t : Int) ∈ sl[j] ↔ Slip ms (fun s => s = j) t) ∧
      f88 L N ⟨ms⟩ = some (sl.map fun li => tidyM (li.flatMap (wkF sl ms))) := by
  have hlim := lim_eq
  have hn := hm.1
  obtain ⟨sl, e, hsn, hs⟩ := slips_ok L N ms hm hL
  refine ⟨sl, hsn, hs, ?_⟩
  have hsl : ∀ r ∈ sl, r.length ≤ 60 := fun r hr => by
    obtain ⟨q, hq, rfl⟩ := List.mem_iff_getElem.1 hr
    have := (hs q hq).1; omega
  show f88.b L N some ⟨ms⟩ = _
  unfold f88.b f88.b'
  have e' : f124 L N (Graph.mk (Graph.mk ms).moves) = some sl := e
  rw [e', Option.bind_some]
  have key : ∀ (n i : Nat) (c5 rows : List (List Move)), i ≤ ms.length → ms.length - i < n → rows.length = i →
      f88.l0 L N (fun z7 z8 => f88.p0_e0 L N some z7 z8) n sl (ms.length : Int) (i : Int) ms c5 rows = some (rows ++ (sl.drop i).map fun li => tidyM (li.flatMap (wkF sl ms))) := by
    intro n
    induction n with
    | zero => intro i c5 rows _ h; omega
    | succ n ih =>
      intro i c5 rows hi hn' hr
      show f88.s0 L N _ (f88.l0 L N _ n) sl (ms.length : Int) (i : Int) ms c5 rows = _
      unfold f88.s0 f88.s0'
      by_cases hlt : i < ms.length
      · have hlt' : i < sl.length := by omega
        obtain ⟨h1, h2, -⟩ := hs i hlt'
        simp only [lt_cast hlt, lt_cast hlt', le0, Bool.and_true, cond_true, Int.toNat_natCast, at_lt hlt']
        refine (weak1 L N hL _ sl (ms.length : Int) (i : Int) sl[i] ms c5 rows hm hsn hsl h2 (by omega) L 0 [] (by omega) (by omega) (by simp only [List.length_nil]; omega)).trans ?_
        show f88.p1_e2' L N _ _ sl (ms.length : Int) (i : Int) ms ([] ++ ((sl[i]).drop 0).flatMap (wkF sl ms)) c5 rows = _
        unfold f88.p1_e2'
        have hfl := weakF_len hm hsl h2 (by omega)
        rw [List.drop_zero, List.nil_append, fsortM_some (by omega), Option.bind_some]
        have hle : decide (rows.length + ([tidyM ((sl[i]).flatMap (wkF sl ms))] : (List (List Move))).length ≤ lim) = true := dt (by simp only [List.length_cons, List.length_nil]; omega)
        rw [hle, cond_true, wi_nat (by omega), ih (i + 1) _ _ (by omega) (by omega) (by simp [hr]), drop_cons hlt', List.map_cons, List.append_assoc]
        rfl
      · simp only [ge_cast hlt, cond_false]
        rw [drop_end (by omega), List.map_nil, List.append_nil]
        rfl
  have := key L 0 [] [] (by omega) (by omega) rfl
  rw [List.drop_zero, List.nil_append] at this
  exact this
end Go.Proofs.Ytdfjdbpklbehoaa.Ev
