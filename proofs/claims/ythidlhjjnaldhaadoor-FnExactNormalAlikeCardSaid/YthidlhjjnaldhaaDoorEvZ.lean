/- What plain laws lean on: numbers, conditions, loops, trees. No conditions but those that each states. -/
import Derived.Test.YthidlhjjnaldhaaDoorEvY
import Derived.IntWalk
namespace Go.Proofs.YthidlhjjnaldhaaDoor.Ev
open Go
theorem wi_id {n : Int} (h : -9223372036854775808 ≤ n) (h' : n ≤ 9223372036854775807) : wi n = n := by
  have h64 : (2 : Int) ^ 64 = 18446744073709551616 := by decide
  have h63 : (2 : Int) ^ (64 - 1) = 9223372036854775808 := by decide
  unfold wi IntKind.wrap
  simp only [IntKind.bits, IntKind.signed, h64, h63, Bool.true_and, decide_eq_true_eq]
  split <;> omega
theorem wi_nat {n : Nat} (h : n < 9223372036854775807) : wi ((n : Int) + 1) = ((n + 1 : Nat) : Int) := by
  rw [wi_id (by omega) (by omega)]; rfl
theorem at_lt {α : Type} {xs : List α} {d : α} {i : Nat} (h : i < xs.length) : listAt xs d i = xs[i] := by
  unfold listAt
  rw [List.getD_eq_getElem?_getD, List.getElem?_eq_getElem h]; rfl
theorem dt {p : Prop} [Decidable p] (h : p) : decide p = true := decide_eq_true h
theorem df {p : Prop} [Decidable p] (h : ¬ p) : decide p = false := decide_eq_false h
theorem lt_cast {i n : Nat} (h : i < n) : decide ((i : Int) < (n : Int)) = true := dt (by omega)
theorem ge_cast {i n : Nat} (h : ¬ i < n) : decide ((i : Int) < (n : Int)) = false := df (by omega)
theorem le0 {i : Nat} : decide ((0 : Int) ≤ (i : Int)) = true := dt (by omega)
theorem bif_t {p : Prop} [Decidable p] {α : Type} {a b : α} (h : p) : (bif decide p then a else b) = a := by rw [dt h]; rfl
theorem bif_f {p : Prop} [Decidable p] {α : Type} {a b : α} (h : ¬ p) : (bif decide p then a else b) = b := by rw [df h]; rfl
theorem bif_t2 {p q : Prop} [Decidable p] [Decidable q] {α : Type} {a b : α} (h : p) (h' : q) : (bif decide p && decide q then a else b) = a := by rw [dt h, dt h']; rfl
theorem mk_eta (t : Tree) : Tree.mk t.op t.n t.parts = t := by cases t; rfl
theorem take_set {α : Type} {x ys : List α} {i : Nat} (hi : i < x.length) (hy : ys.length = x.length) (h : ys.take i = x.take i) : (ys.set i (x[i])).take (i + 1) = x.take (i + 1) := by
  apply List.ext_getElem?
  intro j
  rw [List.getElem?_take, List.getElem?_take]
  by_cases hj : j < i + 1
  · rw [if_pos hj, if_pos hj]
    by_cases he : j = i
    · subst he
      rw [List.getElem?_set_self (by omega), List.getElem?_eq_getElem hi]
    · rw [List.getElem?_set_ne (by omega)]
      have := congrArg (fun l => l[j]?) h
      simpa [List.getElem?_take, show j < i by omega] using this
  · rw [if_neg hj, if_neg hj]
theorem act_range {n : Int} (h : -4 ≤ n ∧ n ≤ 4) : n = -4 ∨ n = -3 ∨ n = -2 ∨ n = -1 ∨ n = 0 ∨ n = 1 ∨ n = 2 ∨ n = 3 ∨ n = 4 := by omega
theorem copy_loop {α : Type} {l : Nat → Int → List α → Option (List α)} {x : List α}
    (hstep : ∀ (n i : Nat) (hi : i < x.length) (ys : List α), ys.length = x.length → l (n + 1) i ys = l n ((i + 1 : Nat) : Int) (ys.set i x[i])) (hend : ∀ (n : Nat) (ys : List α), l (n + 1) (x.length : Int) ys = some ys) :
    ∀ (n i : Nat) (ys : List α), x.length - i < n → i ≤ x.length → ys.length = x.length → ys.take i = x.take i → l n (i : Int) ys = some x := by
  intro n
  induction n with
  | zero => intro i ys h; omega
  | succ n ih =>
    intro i ys h hi hy hj
    by_cases hlt : i < x.length
    · rw [hstep n i hlt ys hy]
      exact ih (i + 1) _ (by omega) (by omega) (by simp [hy]) (take_set hlt hy hj)
    · have hi' : i = x.length := by omega
      subst hi'
      rw [List.take_length, ← hy, List.take_length] at hj
      rw [hend, hj]
def allN (q : Nat → Bool) : Nat → Nat → Bool
  | 0, _ => true
  | k + 1, i => q i && allN q k (i + 1)
theorem all_loop {R : Type} {l : Nat → Int → Option R} {len : Nat} {q : Nat → Bool} {rt rf : Option R}
    (hstep : ∀ n i : Nat, i < len → l (n + 1) i = bif q i then l n ((i + 1 : Nat) : Int) else rf) (hend : ∀ n : Nat, l (n + 1) (len : Int) = rt) :
    ∀ n i : Nat, len - i < n → i ≤ len → l n (i : Int) = bif allN q (len - i) i then rt else rf := by
  intro n
  induction n with
  | zero => intro i h; omega
  | succ n ih =>
    intro i h hi
    by_cases hlt : i < len
    · rw [hstep n i hlt, show len - i = (len - (i + 1)) + 1 by omega]
      unfold allN
      cases q i
      · rfl
      · simp only [cond_true, Bool.true_and]
        exact ih (i + 1) (by omega) (by omega)
    · have hi' : i = len := by omega
      subst hi'
      rw [hend, Nat.sub_self]; rfl
theorem find_loop {α : Type} {l : Nat → Int → Option Int} {x : List α} {p : α → Bool}
    (hstep : ∀ (n i : Nat) (hi : i < x.length), l (n + 1) i = bif p x[i] then some (i : Int) else l n ((i + 1 : Nat) : Int)) (hend : ∀ n : Nat, l (n + 1) (x.length : Int) = some (-1)) :
    ∀ n i : Nat, x.length - i < n → i ≤ x.length → ∃ r : Int, l n (i : Int) = some r ∧ decide (r ≥ 0) = (x.drop i).any p := by
  intro n
  induction n with
  | zero => intro i h; omega
  | succ n ih =>
    intro i h hi
    by_cases hlt : i < x.length
    · rw [hstep n i hlt, List.drop_eq_getElem_cons hlt, List.any_cons]
      cases p x[i]
      · simp only [cond_false, Bool.false_or]
        exact ih (i + 1) (by omega) (by omega)
      · exact ⟨i, rfl, by simp⟩
    · have hi' : i = x.length := by omega
      subst hi'
      rw [hend, List.drop_length]
      exact ⟨-1, rfl, rfl⟩
def foldN {σ : Type} (F : Nat → σ → σ) : Nat → Nat → σ → σ
  | 0, _, s => s
  | k + 1, i, s => foldN F k (i + 1) (F i s)
theorem fold_loop {R σ : Type} {l : Nat → Int → σ → Option R} {len : Nat} {F : Nat → σ → σ} {K : σ → Option R} (P : Nat → σ → Prop)
    (hstep : ∀ (n i : Nat) (s : σ), i < len → P i s → l (n + 1) i s = l n ((i + 1 : Nat) : Int) (F i s) ∧ P (i + 1) (F i s)) (hend : ∀ (n : Nat) (s : σ), P len s → l (n + 1) (len : Int) s = K s) :
    ∀ (n i : Nat) (s : σ), len - i < n → i ≤ len → P i s → l n (i : Int) s = K (foldN F (len - i) i s) ∧ P len (foldN F (len - i) i s) := by
  intro n
  induction n with
  | zero => intro i s h; omega
  | succ n ih =>
    intro i s h hi hP
    by_cases hlt : i < len
    · obtain ⟨h1, h2⟩ := hstep n i s hlt hP
      rw [h1, show len - i = (len - (i + 1)) + 1 by omega]
      exact ih (i + 1) _ (by omega) (by omega) h2
    · have hi' : i = len := by omega
      subst hi'
      rw [Nat.sub_self]
      exact ⟨hend n s hP, hP⟩
theorem inv_loop {R σ : Type} {l : Nat → Int → σ → Option R} {len : Nat} {K : σ → Option R} (P : Nat → σ → Prop)
    (hstep : ∀ (n i : Nat) (s : σ), i < len → P i s → ∃ s', l (n + 1) i s = l n ((i + 1 : Nat) : Int) s' ∧ P (i + 1) s') (hend : ∀ (n : Nat) (s : σ), P len s → l (n + 1) (len : Int) s = K s) :
    ∀ (n i : Nat) (s : σ), len - i < n → i ≤ len → P i s → ∃ s', l n (i : Int) s = K s' ∧ P len s' := by
  intro n
  induction n with
  | zero => intro i s h; omega
  | succ n ih =>
    intro i s h hi hP
    by_cases hlt : i < len
    · obtain ⟨s', h1, h2⟩ := hstep n i s hlt hP
      rw [h1]
      exact ih (i + 1) s' (by omega) (by omega) h2
    · have hi' : i = len := by omega
      subst hi'
      exact ⟨s, hend n s hP, hP⟩
theorem allN_get {q : Nat → Bool} : ∀ (k i : Nat), allN q k i = true → ∀ j, i ≤ j → j < i + k → q j = true
  | 0, i, _, j, h1, h2 => by omega
  | k + 1, i, h, j, h1, h2 => by
    unfold allN at h
    simp only [Bool.and_eq_true] at h
    by_cases e : j = i
    · subst e; exact h.1
    · exact allN_get k (i + 1) h.2 j (by omega) (by omega)
theorem allN_eq {q q' : Nat → Bool} : ∀ (k i : Nat), (∀ j, i ≤ j → j < i + k → q j = q' j) → allN q k i = allN q' k i
  | 0, _, _ => rfl
  | k + 1, i, h => by
    unfold allN
    rw [h i (by omega) (by omega), allN_eq k (i + 1) fun j h1 h2 => h j (by omega) (by omega)]
def atP {α : Type} (p : α → Bool) (x : List α) (j : Nat) : Bool := match x[j]? with | some a => p a | none => true
theorem atP_lt {α : Type} {p : α → Bool} {x : List α} {j : Nat} (h : j < x.length) : atP p x j = p x[j] := by
  unfold atP; rw [List.getElem?_eq_getElem h]
theorem allN_list {α : Type} {p : α → Bool} (x : List α) : ∀ i : Nat, i ≤ x.length → allN (atP p x) (x.length - i) i = (x.drop i).all p := by
  have key : ∀ k i : Nat, k = x.length - i → i ≤ x.length → allN (atP p x) k i = (x.drop i).all p := by
    intro k
    induction k with
    | zero => intro i hk hi; rw [List.drop_eq_nil_of_le (by omega)]; rfl
    | succ k ih =>
      intro i hk hi
      have hlt : i < x.length := by omega
      rw [List.drop_eq_getElem_cons hlt, List.all_cons, ← ih (i + 1) (by omega) (by omega)]
      show (atP p x i && _) = _
      rw [atP_lt hlt]
  intro i hi
  exact key _ i rfl hi
def IOk (n : Int) : Prop := -9223372036854775808 ≤ n ∧ n ≤ 9223372036854775807
theorem iok_of {n : Int} (h : PVok (.int .i64 n)) : IOk n := by
  cases h with | int _ _ h =>
  simp only [Lit.wf, Bool.and_eq_true, decide_eq_true_eq] at h
  exact h
theorem maxLen_eq : maxLen = 9223372036854775807 := rfl
theorem lim_eq : lim = 1099511627776 := rfl
theorem ints_ok {x : List Int} (h : DatOk (.sl i64) x) : x.length ≤ maxLen ∧ ∀ n ∈ x, IOk n := by
  have h1 := h (.sl (x.map fun n => [.int .i64 n])) (by simp only [enc, List.mem_cons, List.not_mem_nil, or_false])
  cases h1 with | sl _ h1 h2 =>
  exact ⟨by simpa using h1, fun n hn => iok_of (h2 [.int .i64 n] (List.mem_map.2 ⟨n, hn, rfl⟩) _ (.head _))⟩
theorem bools_ok {x : List Bool} (h : DatOk (.sl .bool) x) : x.length ≤ maxLen := by
  have h1 := h (.sl (x.map fun n => [.bool n])) (by simp only [enc, List.mem_cons, List.not_mem_nil, or_false])
  cases h1 with | sl _ h1 h2 =>
  simpa using h1
def MOk (m : Move) : Prop := IOk m.act ∧ IOk m.to
theorem graph_ok {g : Graph} (h : DatOk (.st 2) g) : g.moves.length ≤ maxLen ∧ ∀ r ∈ g.moves, r.length ≤ maxLen ∧ ∀ m ∈ r, MOk m := by
  have h1 := h (.sl (g.moves.map fun r => [.sl (r.map fun m : Move => [.int .i64 m.act, .int .i64 m.to])])) (by simp only [enc, List.mem_cons, List.not_mem_nil, or_false])
  cases h1 with | sl _ h1 h2 =>
  refine ⟨by simpa using h1, fun r hr => ?_⟩
  have h3 := h2 [.sl (r.map fun m : Move => [.int .i64 m.act, .int .i64 m.to])] (List.mem_map.2 ⟨r, hr, rfl⟩) _ (.head _)
  cases h3 with | sl _ h3 h4 =>
  refine ⟨by simpa using h3, fun m hm => ?_⟩
  have h5 := h4 [.int .i64 m.act, .int .i64 m.to] (List.mem_map.2 ⟨m, hm, rfl⟩)
  exact ⟨iok_of (h5 _ (.head _)), iok_of (h5 _ (.tail _ (.head _)))⟩
end Go.Proofs.YthidlhjjnaldhaaDoor.Ev
