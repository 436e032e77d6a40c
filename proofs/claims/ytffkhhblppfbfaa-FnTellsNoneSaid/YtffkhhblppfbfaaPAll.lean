/- Plain laws, in one text. -/
import Derived.Test.YtffkhhblppfbfaaGT4b
import Derived.Test.YtffkhhblppfbfaaEvZ
import Derived.Test.YtffkhhblppfbfaaEvSort
import Derived.Test.YtffkhhblppfbfaaPAll0
namespace Go.Proofs.Ytffkhhblppfbfaa.Ev
open Go
set_option linter.unusedVariables false
set_option linter.unusedSimpArgs false
def Fwd (r : List Move) : Prop := ∀ m ∈ r, 0 ≤ m.to
def SlimR (r : List Move) : Prop := r.length ≤ 540 ∧ Fwd r
def Slim (g : Graph) : Prop := g.moves.length ≤ 60 ∧ ∀ r ∈ g.moves, SlimR r
theorem Slim.size {g : Graph} (h : Slim g) : g.moves.length + gsize g.moves ≤ 1048576 := by
  have := gsize_le fun r hr => (h.2 r hr).1
  have := h.1
  omega
def Mv60 (row : List Move) : Prop := ∀ m ∈ row, -4 ≤ m.act ∧ m.act ≤ 4 ∧ 0 ≤ m.to ∧ m.to < 60
theorem sorted_slim (L N : Nat) {row : List Move} (hl : row.length ≤ 1000000) (hm : Mv60 row) (hL : 1000002 < L) : ∃ ys, f81 L N row = some ys ∧ SlimR ys := by
  obtain ⟨ys, e, h1, h2, -⟩ := l3Sorted_ok L N row (by omega) (by omega)
  exact ⟨ys, e, risesM_len h1 fun m hmm => hm m ((h2 m).1 hmm), fun m hmm => (hm m ((h2 m).1 hmm)).2.2.1⟩
def FinG (r : Option (Graph × Bool)) : Prop := ∃ g ok, r = some (g, ok) ∧ Slim g
def InvT (n : Int) (terms : List Tree) (keys : List ByteArray) : Prop := terms.length = keys.length ∧ terms.length ≤ 60 ∧ ∀ t ∈ terms, ∃ k, k ≤ 24 ∧ WT t k ∧ CL n false t
theorem search2 {R : Type} (L N : Nat) (K : List Tree → Int → Int → ByteArray → Int → List Tree → List ByteArray → List Step → List Move → List (List Move) → Option R) (ds : List Tree) (i j : Int) (key : ByteArray) (terms : List Tree) (keys : List ByteArray) (st : List Step) (row : List Move) (rows : List (List Move)) (hk : keys.length ≤ 60) :
    ∀ (n q : Nat), q ≤ keys.length → keys.length - q < n → ∃ q' : Nat, q' ≤ keys.length ∧ f79.l2 L N K n ds i j key (q : Int) terms keys st row rows = K ds i j key (q' : Int) terms keys st row rows := by
  intro n
  induction n with
  | zero => intro q _ h; omega
  | succ n ih =>
    intro q hq hn
    show ∃ q' : Nat, _ ∧ f79.s2 L N _ (f79.l2 L N _ n) ds i j key (q : Int) terms keys st row rows = _
    unfold f79.s2 f79.s2'
    by_cases hlt : q < keys.length
    · simp only [lt_cast hlt, le0, Bool.and_true, cond_true, Int.toNat_natCast]
      cases hc : (!((listAt keys ByteArray.empty q).toList == key.toList)) with
      | true => rw [cond_true, wi_nat (by omega)]; exact ih (q + 1) (by omega) (by omega)
      | false => rw [cond_false]; exact ⟨q, hq, rfl⟩
    · rw [ge_cast hlt, cond_false]; exact ⟨q, hq, rfl⟩
theorem inner1 (L N : Nat) (hN : 1000 ≤ N) (hL : 1000002 < L) (ds : List Tree) (nn : Int) (i : Int) (st : List Step) (rows : List (List Move))
    (Ke : List Tree → Int → List Tree → List ByteArray → List Move → List (List Move) → Option (Graph × Bool)) (Kr : List Tree → Bool → Int → List Tree → List ByteArray → List Move → List (List Move) → Option (Graph × Bool))
    (hst : ∀ s ∈ st, SOk nn 576 s) (hsl : st.length ≤ 400000)
    (hKe : ∀ terms keys row, InvT nn terms keys → row.length ≤ 400000 → Mv60 row → FinG (Ke ds i terms keys row rows)) (hKr : ∀ terms keys row, FinG (Kr ds false i terms keys row rows)) :
    ∀ (n j : Nat) (terms : List Tree) (keys : List ByteArray) (row : List Move), j ≤ st.length → st.length - j < n → InvT nn terms keys → row.length ≤ j → Mv60 row →
      FinG (f79.l1 L N Ke Kr n ds i (j : Int) terms keys st row rows) := by
  have hlim := lim_eq
  intro n
  induction n with
  | zero => intro j terms keys row _ h; omega
  | succ n ih =>
    intro j terms keys row hj hn hI hrl hrow
    obtain ⟨hk1, hk2, hk3⟩ := id hI
    show FinG (f79.s1 L N _ _ (f79.l1 L N _ _ n) ds i (j : Int) terms keys st row rows)
    unfold f79.s1 f79.s1'
    by_cases hlt : j < st.length
    · obtain ⟨hact, k', hw, hk', hcl⟩ := hst st[j] (List.getElem_mem hlt)
      have hnd := hw.nodes_eq
      obtain ⟨key, e, hks⟩ := l2Text_ok L N (by omega) (by omega) (st[j]).thn k' hw (by omega) N (by omega)
      simp only [lt_cast hlt, le0, Bool.and_true, cond_true, Int.toNat_natCast, at_lt hlt, tree_eta, e, Option.bind_some]
      obtain ⟨q, hq, e2⟩ := search2 L N (fun z44 z45 z46 z47 z48 z49 z50 z51 z52 z53 => f79.p2_e4 L N Ke Kr (f79.l1 L N Ke Kr n) z44 z45 z46 z47 z48 z49 z50 z51 z52 z53) ds i (j : Int) key terms keys st row rows (by omega) L 0 (by omega) (by omega)
      refine (fun h => by rw [show f79.l2 L N (fun z44 z45 z46 z47 z48 z49 z50 z51 z52 z53 => f79.p2_e4 L N Ke Kr (f79.l1 L N Ke Kr n) z44 z45 z46 z47 z48 z49 z50 z51 z52 z53) L ds i (j : Int) key (0 : Int) terms keys st row rows = _ from e2]; exact h : FinG (f79.p2_e4' L N Ke Kr (f79.l1 L N Ke Kr n) ds i (j : Int) key (q : Int) terms keys st row rows) → _) ?_
    
      have put : ∀ (terms' : List Tree) (keys' : List ByteArray), InvT nn terms' keys' → q < 60 → FinG (f79.j1' L N Ke Kr (f79.l1 L N Ke Kr n) ds i (j : Int) (q : Int) terms' keys' st row rows) := by
        intro terms' keys' hI' hq60
        unfold f79.j1'
        have hle : decide (row.length + ([Move.mk (st[j]).act (q : Int)] : List Move).length ≤ lim) = true := dt (by simp only [List.length_cons, List.length_nil]; omega)
        simp only [lt_cast hlt, le0, Bool.and_true, cond_true, Int.toNat_natCast, at_lt hlt, hle]
        rw [wi_nat (by omega)]
        refine ih (j + 1) terms' keys' _ (by omega) (by omega) hI' (by simp only [List.length_append, List.length_cons, List.length_nil]; omega) fun m hm => ?_
        rcases List.mem_append.1 hm with h | h
        · exact hrow m h
        · rw [List.mem_singleton.1 h]; exact ⟨hact.1, hact.2, by show (0 : Int) ≤ (q : Int); omega, by show (q : Int) < 60; omega⟩
      unfold f79.p2_e4'
      by_cases hqe : q = keys.length
      · rw [show ((q : Int) == (keys.length : Int)) = true by rw [hqe]; simp, cond_true]
        by_cases h60 : q = 60
        · rw [show ((q : Int) == 60) = true by rw [h60]; rfl, cond_true]
          exact hKr terms keys row
        · rw [show ((q : Int) == 60) = false by simp; omega, cond_false]
          obtain ⟨r, f, r0, r1, hr⟩ := l2Nodes_ok L N N (st[j]).thn (by omega) (by omega)
          simp only [lt_cast hlt, le0, Bool.and_true, cond_true, Int.toNat_natCast, at_lt hlt, tree_eta, f, Option.bind_some]
          by_cases h24 : r > 24
          · rw [dt h24, cond_true]; exact hKr terms keys row
          · rw [df h24, cond_false]
            unfold f79.j0'
            have hle1 : decide (terms.length + ([(st[j]).thn] : List Tree).length ≤ lim) = true := dt (by simp only [List.length_cons, List.length_nil]; omega)
            have hle2 : decide (keys.length + ([key] : List ByteArray).length ≤ lim) = true := dt (by simp only [List.length_cons, List.length_nil]; omega)
            simp only [lt_cast hlt, le0, Bool.and_true, cond_true, Int.toNat_natCast, at_lt hlt, tree_eta, hle1, hle2]
            have hk24 : k' ≤ 24 := by
              have h1 := l2Nodes_wt L N (by omega) (st[j]).thn k' hw (by omega) N (by omega)
              rw [f] at h1
              have h1 := Option.some.inj h1
              omega
            refine put _ _ ⟨by simp [hk1], by simp; omega, fun t ht => ?_⟩ (by omega)
            rcases List.mem_append.1 ht with h | h
            · exact hk3 t h
            · rw [List.mem_singleton.1 h]; exact ⟨k', hk24, hw, hcl⟩
      · rw [show ((q : Int) == (keys.length : Int)) = false by simp; omega, cond_false]
        exact put terms keys hI (by omega)
    · rw [ge_cast hlt, cond_false]
      exact hKe terms keys row hI (by omega) hrow
theorem l3Graph_ok (L N : Nat) (hN : 1000 ≤ N) (hL : 1000002 < L) (ds : List Tree) (hd : DefsW ds) (t : Tree) (k : Nat) (hk : k ≤ 24) (hw : WT t k) (hcl : CL (ds.length : Int) false t) : FinG (f79 L N t ds) := by
  have hlim := lim_eq
  obtain ⟨key, e, hks⟩ := l2Text_ok L N (by omega) (by omega) t k hw (by omega) N (by omega)
  show FinG (f79.b L N (fun a0 a1 => some (a0, a1)) t ds)
  unfold f79.b f79.b'
  simp only [tree_eta, e, Option.bind_some]
  have key0 : ∀ (n i : Nat) (terms : List Tree) (keys : List ByteArray) (rows : List (List Move)), i ≤ terms.length → 60 - i < n → InvT (ds.length : Int) terms keys → rows.length = i → (∀ r ∈ rows, SlimR r) →
      FinG (f79.l0 L N (fun z6 => f79.p0_e0 L N (fun a0 a1 => some (a0, a1)) z6) (fun z102 z103 => f79.p0_r L N (fun a0 a1 => some (a0, a1)) z102 z103) n ds (i : Int) terms keys rows) := by
    intro n
    induction n with
    | zero => intro i terms keys rows hi h hI; omega
    | succ n ih =>
      intro i terms keys rows hi hn hI hrl hrr
      obtain ⟨hk1, hk2, hk3⟩ := id hI
      show FinG (f79.s0 L N _ _ (f79.l0 L N _ _ n) ds (i : Int) terms keys rows)
      unfold f79.s0 f79.s0'
      by_cases hlt : i < terms.length
      · obtain ⟨k', hk', hw', hcl'⟩ := hk3 terms[i] (List.getElem_mem hlt)
        obtain ⟨st, f, hs, hv, ht⟩ := steps_ok L N (by omega) ds hd terms[i] k' hw' hk' hcl' N (by omega)
        have hsl := len_vt st
        simp only [lt_cast hlt, le0, Bool.and_true, cond_true, Int.toNat_natCast, at_lt hlt, f, Option.bind_some]
        refine inner1 L N hN hL ds (ds.length : Int) (i : Int) st rows _ _ hs (by omega) (fun terms' keys' row hI' hrow' hmv => ?_) (fun terms' keys' row => ?_) L 0 terms keys [] (by omega) (by omega) hI (by simp) (fun m hm => by cases hm)
        · show FinG (f79.p1_e2' L N _ _ _ ds (i : Int) terms' keys' row rows)
          unfold f79.p1_e2'
          obtain ⟨ys, g, hys⟩ := sorted_slim L N (by omega) hmv hL
          have hle : decide (rows.length + ([ys] : List (List Move)).length ≤ lim) = true := dt (by simp only [List.length_cons, List.length_nil]; omega)
          rw [g, Option.bind_some, hle, cond_true, wi_nat (by omega)]
          by_cases hgt : i + 1 ≤ terms'.length
          · refine ih (i + 1) terms' keys' _ hgt (by omega) hI' (by simp [hrl]) fun r hr => ?_
            rcases List.mem_append.1 hr with h | h
            · exact hrr r h
            · rw [List.mem_singleton.1 h]; exact hys
          · -- no terms are left: the loop ends at once
            obtain ⟨n', rfl⟩ : ∃ n', n = n' + 1 := ⟨n - 1, by omega⟩
            show FinG (f79.s0 L N _ _ (f79.l0 L N _ _ n') ds ((i + 1 : Nat) : Int) terms' keys' _)
            unfold f79.s0 f79.s0'
            rw [ge_cast (by omega), cond_false]
            refine ⟨_, _, rfl, by simp [hrl]; omega, fun r hr => ?_⟩
            rcases List.mem_append.1 hr with h | h
            · exact hrr r h
            · rw [List.mem_singleton.1 h]; exact hys
        · exact ⟨⟨[]⟩, false, rfl, by simp, fun r hr => by cases hr⟩
      · rw [ge_cast hlt, cond_false]
        exact ⟨⟨rows⟩, true, rfl, by show rows.length ≤ 60; omega, hrr⟩
  exact key0 L 0 [t] [key] [] (by simp) (by omega) ⟨rfl, by simp, fun x hx => by rw [List.mem_singleton.1 hx]; exact ⟨k, hk, hw, hcl⟩⟩ rfl (fun r hr => by cases hr)
theorem graphOf_ok (L N : Nat) (hN : 1000 ≤ N) (hL : 1000002 < L) (t : Tree) (ds : List Tree) (ht : nodes t ≤ 1000) (hd : ∀ d ∈ ds, nodes d ≤ 1000) (hdl : ds.length ≤ 1000) : FinG (f64 L N t ds) := by
  obtain ⟨r1, e1, h1⟩ := defsOk_ok L N ds hd hdl hN (by omega)
  obtain ⟨r2, e2, h2⟩ := fits_ok L N t (ds.length : Int) ht hN (by omega)
  have hask : f78 L N t ds = some (r1 && r2) := by
    show f78.b' L N some t ds = _
    unfold f78.b'
    rw [e1, Option.bind_some, tree_eta]
    cases r1 with
    | true => rw [cond_true, e2, Option.bind_some, Bool.true_and]
    | false => rfl
  show FinG (f64.b' L N (fun a0 a1 => some (a0, a1)) t ds)
  unfold f64.b'
  rw [tree_eta, hask, Option.bind_some]
  cases hr : (r1 && r2) with
  | false => rw [Bool.not_false, cond_true]; exact ⟨⟨[]⟩, false, rfl, by simp, fun r hr => by cases hr⟩
  | true =>
    rw [Bool.and_eq_true] at hr
    obtain ⟨k, hk, hw, -, hcl⟩ := h2 hr.2
    obtain ⟨g, ok, e, hg⟩ := l3Graph_ok L N hN hL ds (h1 hr.1) t k hk hw hcl
    rw [Bool.not_true, cond_false, e, Option.bind_some]
    exact ⟨_, _, rfl, hg⟩
theorem wild_draw (L N : Nat) (hL : 1000002 < L) {c : List Int} (hb : BOk c) {p : Int} (p0 : 0 ≤ p) (pb : p ≤ 1000000000) :
    ∃ g p', f65 L N c p (6 : Int) = some (g, c, p') ∧ p ≤ p' ∧ p' ≤ p + 1000 ∧ Slim g := by
  have hlim := lim_eq
  show ∃ g p', f65.b L N (fun a0 a1 a2 => some (a0, a1, a2)) c p (6 : Int) = _ ∧ _
  unfold f65.b f65.b'
  obtain ⟨r, hr, r0, r1⟩ := pick_ok L N hb (p := p) (n := 6) p0 (by omega) (by omega)
  obtain ⟨u, hu, u0, u1⟩ := pick_ok L N hb (p := p + 1) (n := 2) (by omega) (by omega) (by omega)
  rw [hr]
  simp only [Option.bind_some, hu]
  obtain ⟨k, rfl⟩ := Int.eq_ofNat_of_zero_le r0
  have hw : wi (1 + (k : Int)) = ((k + 1 : Nat) : Int) := by rw [wi_id (by omega) (by omega)]; omega
  rw [hw]
  generalize (u == 0) = bb
  generalize hnn : k + 1 = nn
  have hnn6 : 1 ≤ nn ∧ nn ≤ 6 := by omega
  have fin : ∀ (q : Int) (s7 rows : List (List Move)), p ≤ q → q ≤ p + 900 → rows.length = nn → (∀ r ∈ rows, r.length ≤ 3 ∧ Fwd r) →
      ∃ g p', f65.p0_e0' L N (fun a0 a1 a2 => some (a0, a1, a2)) (nn : Int) c q s7 rows = some (g, c, p') ∧ p ≤ p' ∧ p' ≤ p + 1000 ∧ Slim g := by
    intro q s7 rows q0 q1 hl hrr
    unfold f65.p0_e0'
    obtain ⟨v, hv, v0, v1⟩ := pick_ok L N hb (p := q) (n := 30) (by omega) (by omega) (by omega)
    rw [hv]
    simp only [Option.bind_some]
    have h0 : 0 < rows.length := by omega
    have g0 : (decide ((0 : Int) ≤ 0) && decide ((0 : Int) < (rows.length : Int))) = true := by rw [dt (show (0 : Int) < (rows.length : Int) by omega)]; rfl
    have hl0 : listAt rows [] (0 : Int).toNat = rows[0] := at_lt h0
    obtain ⟨hr0, hf0⟩ := hrr rows[0] (List.getElem_mem h0)
    have put : ∀ m : Move, 0 ≤ m.to → Slim ⟨rows.set ((0 : Int).toNat) (rows[0] ++ [m])⟩ := fun m hm0 => by
      refine ⟨by show (rows.set _ _).length ≤ 60; rw [List.length_set]; omega, fun r hr => ?_⟩
      rcases List.mem_or_eq_of_mem_set hr with h | h
      · obtain ⟨a1, a2⟩ := hrr r h; exact ⟨by omega, a2⟩
      · rw [h]
        refine ⟨by rw [List.length_append, List.length_cons, List.length_nil]; omega, fun x hx => ?_⟩
        rcases List.mem_append.1 hx with hx | hx
        · exact hf0 x hx
        · rw [List.mem_singleton.1 hx]; exact hm0
    by_cases e0 : v = 0
    · have hle : decide ((rows[0]).length + ([Move.mk (9 : Int) (0 : Int)] : List Move).length ≤ lim) = true := dt (by simp only [List.length_cons, List.length_nil]; omega)
      rw [show (v == 0) = true by simpa using e0, cond_true, g0, cond_true, hl0, hle, cond_true, cond_true]
      exact ⟨_, _, rfl, by omega, by omega, put _ (by show (0 : Int) ≤ 0; omega)⟩
    · rw [show (v == 0) = false by simpa using e0, cond_false]
      by_cases e1 : v = 1
      · have hle : decide ((rows[0]).length + ([Move.mk (0 : Int) (nn : Int)] : List Move).length ≤ lim) = true := dt (by simp only [List.length_cons, List.length_nil]; omega)
        rw [show (v == 1) = true by simpa using e1, cond_true, g0, cond_true, hl0, hle, cond_true, cond_true]
        exact ⟨_, _, rfl, by omega, by omega, put _ (by show (0 : Int) ≤ (nn : Int); omega)⟩
      · rw [show (v == 1) = false by simpa using e1, cond_false]
        by_cases e2 : v = 2
        · rw [show (v == 2) = true by simpa using e2, cond_true]
          exact ⟨_, _, rfl, by omega, by omega, by simp, fun r hr => by cases hr⟩
        · rw [show (v == 2) = false by simpa using e2, cond_false]
          exact ⟨_, _, rfl, by omega, by omega, by show rows.length ≤ 60; omega, fun r hr => ⟨by have := (hrr r hr).1; omega, (hrr r hr).2⟩⟩
  have row1 : ∀ (K : Int → Bool → Int → List Int → Int → List Move → List (List Move) → List (List Move) → Option (Graph × List Int × Int)) (i : Int) (s22 rows : List (List Move)) (m : Nat) (j : Nat) (q : Int) (row : List Move), j < m → j ≤ 3 → row.length + j ≤ 3 → Fwd row → p ≤ q → q ≤ p + 900 - 5 * (j : Int) →
      ∃ q' row', q ≤ q' ∧ q' ≤ q + 5 * (j : Int) ∧ (row'.length ≤ 3 ∧ Fwd row') ∧ f65.l1 L N K m (nn : Int) bb i (j : Int) c q row s22 rows = K (nn : Int) bb i c q' row' s22 rows := by
    intro K i s22 rows m
    induction m with
    | zero => intro j q row h; omega
    | succ m ih =>
      intro j q row hj hj3 hrl hfw q0 q1
      show ∃ q' row', _ ∧ _ ∧ _ ∧ f65.s1 L N _ (f65.l1 L N _ m) (nn : Int) bb i (j : Int) c q row s22 rows = _
      unfold f65.s1 f65.s1'
      by_cases hj0 : j = 0
      · subst hj0
        rw [show decide (((0 : Nat) : Int) > 0) = false from rfl, cond_false]
        exact ⟨q, row, by omega, by omega, ⟨by omega, hfw⟩, rfl⟩
      · obtain ⟨j', rfl⟩ : ∃ j', j = j' + 1 := ⟨j - 1, by omega⟩
        have hwj : wi (((j' + 1 : Nat) : Int) - 1) = (j' : Int) := by rw [wi_id (by omega) (by omega)]; omega
        have put : ∀ (act z : Int), q ≤ z → z ≤ q + 4 → ∃ q' row', q ≤ q' ∧ q' ≤ q + 5 * ((j' + 1 : Nat) : Int) ∧ (row'.length ≤ 3 ∧ Fwd row') ∧ f65.j0' L N K (f65.l1 L N K m) (nn : Int) bb i ((j' + 1 : Nat) : Int) act c z row s22 rows = K (nn : Int) bb i c q' row' s22 rows := by
          intro act z z0 z1
          unfold f65.j0'
          obtain ⟨v, hv, v0, v1⟩ := pick_ok L N hb (p := z) (n := (nn : Int)) (by omega) (by omega) (by omega)
          have hle : decide (row.length + ([Move.mk act v] : List Move).length ≤ lim) = true := dt (by simp only [List.length_cons, List.length_nil]; omega)
          simp only [hv, Option.bind_some, hle, cond_true, hwj]
          obtain ⟨q', row', a1, a2, a3, a4⟩ := ih j' (z + 1) (row ++ [Move.mk act v]) (by omega) (by omega) (by simp only [List.length_append, List.length_cons, List.length_nil]; omega) (fun x hx => by
            rcases List.mem_append.1 hx with hx | hx
            · exact hfw x hx
            · rw [List.mem_singleton.1 hx]; exact v0) (by omega) (by omega)
          exact ⟨q', row', by omega, by omega, a3, a4⟩
        obtain ⟨v, hv, v0, v1⟩ := pick_ok L N hb (p := q) (n := 3) (by omega) (by omega) (by omega)
        rw [dt (show ((j' + 1 : Nat) : Int) > 0 by omega), cond_true, hv]
        simp only [Option.bind_some]
        cases bb with
        | true => exact put _ _ (by omega) (by omega)
        | false =>
          obtain ⟨w, hw', w0, w1⟩ := do_ok L N hb (p := q + 1) (by omega) (by omega)
          rw [Bool.not_false, cond_true, hw']
          simp only [Option.bind_some]
          exact put _ _ (by omega) (by omega)
  have key : ∀ (n i : Nat) (q : Int) (s7 rows : List (List Move)), i ≤ nn → nn - i < n → rows.length = i → (∀ r ∈ rows, r.length ≤ 3 ∧ Fwd r) → p ≤ q → q ≤ p + 10 + 20 * (i : Int) →
      ∃ g p', f65.l0 L N (fun z9 z10 z11 z12 z13 => f65.p0_e0 L N (fun a0 a1 a2 => some (a0, a1, a2)) z9 z10 z11 z12 z13) n (nn : Int) bb (i : Int) c q s7 rows = some (g, c, p') ∧ p ≤ p' ∧ p' ≤ p + 1000 ∧ Slim g := by
    intro n
    induction n with
    | zero => intro i q s7 rows _ h; omega
    | succ n ih =>
      intro i q s7 rows hi hn hl hrr q0 q1
      show ∃ g p', f65.s0 L N _ (f65.l0 L N _ n) (nn : Int) bb (i : Int) c q s7 rows = _ ∧ _
      unfold f65.s0 f65.s0'
      by_cases hlt : i < nn
      · obtain ⟨v, hv, v0, v1⟩ := pick_ok L N hb (p := q) (n := 4) (by omega) (by omega) (by omega)
        obtain ⟨j, rfl⟩ := Int.eq_ofNat_of_zero_le v0
        rw [lt_cast hlt, cond_true, hv]
        simp only [Option.bind_some]
        obtain ⟨q', row', a1, a2, a3, a4⟩ := row1 (fun z24 z25 z26 z27 z28 z29 z30 z31 => f65.p1_e2 L N (fun z9 z10 z11 z12 z13 => f65.p0_e0 L N (fun a0 a1 a2 => some (a0, a1, a2)) z9 z10 z11 z12 z13) (f65.l0 L N (fun z9 z10 z11 z12 z13 => f65.p0_e0 L N (fun a0 a1 a2 => some (a0, a1, a2)) z9 z10 z11 z12 z13) n) z24 z25 z26 z27 z28 z29 z30 z31) (i : Int) s7 rows L j (q + 1) [] (by omega) (by omega) (by simp; omega) (fun x hx => by cases hx) (by omega) (by omega)
        rw [a4]
        show ∃ g p', f65.p1_e2' L N _ _ (nn : Int) bb (i : Int) c q' row' s7 rows = _ ∧ _
        unfold f65.p1_e2'
        obtain ⟨a3, a3'⟩ := a3
        obtain ⟨ys, e, h1, h2, h3⟩ := l3Sorted_ok L N row' (by omega) (by omega)
        have hle : decide (rows.length + ([ys] : List (List Move)).length ≤ lim) = true := dt (by simp only [List.length_cons, List.length_nil]; omega)
        rw [e, Option.bind_some, hle, cond_true, wi_nat (by omega)]
        refine ih (i + 1) q' s7 _ (by omega) (by omega) (by simp [hl]) (fun r hr => ?_) (by omega) (by omega)
        rcases List.mem_append.1 hr with h | h
        · exact hrr r h
        · rw [List.mem_singleton.1 h]; exact ⟨by omega, fun x hx => a3' x ((h2 x).1 hx)⟩
      · rw [ge_cast hlt, cond_false]
        exact fin q s7 rows q0 (by omega) (by omega) hrr
  exact key L 0 (p + 1 + 1) [] [] (by omega) (by omega) rfl (fun r hr => by cases hr) (by omega) (by omega)
theorem graph_draw (L N : Nat) (hN : 1000 ≤ N) (hL : 1000002 < L) {c : List Int} (hb : BOk c) {p : Int} (p0 : 0 ≤ p) (pb : p ≤ 1000000) :
    ∃ g p', f40 L N c p = some (g, c, p') ∧ p ≤ p' ∧ p' ≤ p + 40000 ∧ Slim g := by
  show ∃ g p', f40.b' L N (fun a0 a1 a2 => some (a0, a1, a2)) c p = _ ∧ _
  unfold f40.b'
  obtain ⟨r, hr, r0, r1⟩ := pick_ok L N hb (p := p) (n := 2) p0 (by omega) (by omega)
  rw [hr]
  simp only [Option.bind_some]
  by_cases h0 : r = 0
  · obtain ⟨t, ds, p1, e, e1, e2, e3, e4, e5⟩ := called_draw L N (by omega) (by omega) hb (p := p + 1) (by omega) (by omega)
    obtain ⟨g, ok, f, hg⟩ := graphOf_ok L N hN hL t ds (by omega) (fun d hd => by have := e5 d hd; omega) (by omega)
    rw [show (r == 0) = true by simpa using h0, cond_true, e]
    simp only [Option.bind_some, tree_eta, f]
    cases ok with
    | true => rw [cond_true]; exact ⟨_, _, rfl, by omega, by omega, hg⟩
    | false =>
      obtain ⟨g2, p2, f2, f3, f4, f5⟩ := wild_draw L N hL hb (p := p1) (by omega) (by omega)
      rw [cond_false, f2]
      simp only [Option.bind_some]
      exact ⟨_, _, rfl, by omega, by omega, f5⟩
  · obtain ⟨g2, p2, f2, f3, f4, f5⟩ := wild_draw L N hL hb (p := p + 1) (by omega) (by omega)
    rw [show (r == 0) = false by simpa using h0, cond_false, f2]
    simp only [Option.bind_some]
    exact ⟨_, _, rfl, by omega, by omega, f5⟩
end Go.Proofs.Ytffkhhblppfbfaa.Ev
namespace Go.Proofs.Ytffkhhblppfbfaa.Ev
open Go
set_option linter.unusedVariables false
set_option linter.unusedSimpArgs false
theorem state_draw (L N : Nat) {c : List Int} (hb : BOk c) {p : Int} (p0 : 0 ≤ p) (pb : p ≤ 1000000) (g : Graph) (hg : Slim g) : ∃ s p', f41 L N c p g = some (s, c, p') ∧ p ≤ p' ∧ p' ≤ p + 2 := by
  have hgl := hg.1
  show ∃ s p', f41.b L N (fun a0 a1 a2 => some (a0, a1, a2)) c p g = _ ∧ _
  unfold f41.b f41.b'
  obtain ⟨r, hr, r0, r1⟩ := pick_ok L N hb (p := p) (n := 20) p0 (by omega) (by omega)
  rw [hr]
  simp only [Option.bind_some]
  have key : ∀ v : Bool, (v = false → g.moves.length ≠ 0) → ∃ s p', f41.j0' L N (fun a0 a1 a2 => some (a0, a1, a2)) v c (p + 1) g.moves = some (s, c, p') ∧ p ≤ p' ∧ p' ≤ p + 2 := by
    intro v hv
    unfold f41.j0'
    cases v with
    | true =>
      obtain ⟨u, hu, -, -⟩ := pick_ok L N hb (p := p + 1) (n := 8) (by omega) (by omega) (by omega)
      rw [cond_true, hu]
      exact ⟨_, p + 1 + 1, rfl, by omega, by omega⟩
    | false =>
      have := hv rfl
      obtain ⟨u, hu, -, -⟩ := pick_ok L N hb (p := p + 1) (n := (g.moves.length : Int)) (by omega) (by omega) (by omega)
      rw [cond_false, hu]
      exact ⟨_, p + 1 + 1, rfl, by omega, by omega⟩
  cases hc : (r == 0) with
  | true => rw [cond_true]; exact key true (fun h => by cases h)
  | false =>
    rw [cond_false]
    refine key _ fun h => ?_
    rw [beq_eq_false_iff_ne] at h
    omega
end Go.Proofs.Ytffkhhblppfbfaa.Ev
namespace Go.Proofs.Ytffkhhblppfbfaa.Ev
open Go
set_option linter.unusedVariables false
set_option linter.unusedSimpArgs false
theorem mnForm_same (L N : Nat) : ∀ (m : Nat) (t : Tree), nodes t ≤ m → nodes t < L → nodes t ≤ lim → f16 L N m t t = some true := by
  intro m
  induction m with
  | zero => intro t h; have := nodes_pos t; omega
  | succ m ih =>
    intro t h hL hl
    obtain ⟨o, a, ps⟩ := t
    have hlim := lim_eq
    simp only [nodes] at h hL hl
    have hll := nodess_len ps
    show f16.b L N (f16 L N m) some (.mk o a ps) (.mk o a ps) = _
    unfold f16.b f16.b' f16.j0'
    have ht : ∀ x : Int, (x != x) = false := fun x => by simp
    simp only [ht, cond_false]
    have key : ∀ (n i : Nat), i ≤ ps.length → ps.length - i < n → f16.l0 L N (f16 L N m) (f16.p0_e0 L N (f16 L N m) some) (fun z21 => f16.p0_r L N (f16 L N m) some z21) n (i : Int) o a ps o a ps = some true := by
      intro n
      induction n with
      | zero => intro i _ h; omega
      | succ n ihn =>
        intro i hi hn
        show f16.s0 L N _ _ _ (f16.l0 L N _ _ _ n) (i : Int) o a ps o a ps = _
        unfold f16.s0 f16.s0'
        by_cases hlt : i < ps.length
        · have hg := nodes_get hlt
          simp only [lt_cast hlt, le0, cond_true, Bool.and_true, Int.toNat_natCast, at_lt hlt]
          rw [ih ps[i] (by omega) (by omega) (by omega), Option.bind_some, Bool.not_true, cond_false, wi_nat (by omega)]
          exact ihn (i + 1) (by omega) (by omega)
        · rw [ge_cast hlt, cond_false]; rfl
    exact key L 0 (by omega) (by omega)
theorem tells_draw (L N : Nat) (hL : 8589934592 ≤ L) (hN : 1000 ≤ N) {x : List Int} (hx : DatOk (.sl (.int .u8)) x) : ∃ g s t, f15 L N x = some (g, s, t) ∧ g.moves.length + gsize g.moves ≤ 1048576 := by
  have hlim := lim_eq
  obtain ⟨c, o1, o2⟩ := open_ok L N hx
  obtain ⟨g, p', d1, dp0, dp1, d2⟩ := graph_draw L N (by omega) (by omega) o2 (p := 0) (by omega) (by omega)
  obtain ⟨s, p2, s1, s2, s3⟩ := state_draw L N o2 (p := p') (by omega) (by omega) g d2
  obtain ⟨t, p3, t1, t2, t3⟩ := state_draw L N o2 (p := p2) (by omega) (by omega) g d2
  have hge : ∀ g : Graph, Graph.mk g.moves = g := fun g => by cases g; rfl
  refine ⟨g, s, t, ?_, d2.size⟩
  show f15.b' L N (fun a0 a1 a2 => some (a0, a1, a2)) x = _
  unfold f15.b'
  rw [o1]
  simp only [Option.bind_some, d1, hge, s1, t1]
theorem Chain.back {ms : List (List Move)} {pre : List (List Int)} {q : List Int} (hc : Chain (Akin ms) ms.length pre q) {s t : Nat} (hs : s < ms.length) (ht : t < ms.length) (e : q.getD s 0 = q.getD t 0) : ∀ r, r < (pre ++ [q]).length → ((pre ++ [q]).getD r []).getD s 0 = ((pre ++ [q]).getD r []).getD t 0 := by
  have hlast : (pre ++ [q]).getD pre.length [] = q := by
    rw [getD_lt (by simp), List.getElem_append_right (by simp)]; simp
  have key : ∀ d, d ≤ pre.length → ((pre ++ [q]).getD (pre.length - d) []).getD s 0 = ((pre ++ [q]).getD (pre.length - d) []).getD t 0 := by
    intro d
    induction d with
    | zero => intro _; rw [Nat.sub_zero, hlast]; exact e
    | succ d ih =>
      intro hd
      have h1 := ih (by omega)
      have h2 := hc.next (pre.length - (d + 1)) (by omega)
      rw [show pre.length - (d + 1) + 1 = pre.length - d by omega] at h2
      exact (akinEq ms).fine _ _ _ ((h2.same ((akinEq ms).symm _) ((akinEq ms).trans _) hs ht).1 h1)
  intro r hr
  have hr' : r ≤ pre.length := by simp at hr; omega
  have := key (pre.length - r) (by omega)
  rw [show pre.length - (pre.length - r) = r by omega] at this
  exact this
def Told (g : Graph) (s t : Int) (F : Tree) : Prop :=
  ∃ (i j : Nat), s = (i : Int) ∧ t = (j : Int) ∧ i < g.moves.length ∧ j < g.moves.length ∧ graphOk g = true ∧ hold g.moves F i = true ∧ hold g.moves F j = false ∧
    ∀ (pre : List (List Int)) (q : List Int), f32 8589934592 20000 g = some (pre ++ [q]) → ∃ r, RD (pre ++ [q]) i j r ∧ depth F ≤ r
theorem tellsC (L N : Nat) (hL : L = 8589934592) (hN : N = 20000) (g : Graph) (s t : Int) (hg : g.moves.length + gsize g.moves ≤ 1048576) :
    ∃ F c, f9 L N g s t = some (F, c) ∧ f7 L N g s t = some (F, c) ∧ nodes F ≤ 60 ∧ shape F = true ∧ (c = true → Told g s t F) := by
  have hge : Graph.mk g.moves = g := by cases g; rfl
  have h1 := gok1_ok L N g (by omega) hg
  have h2 := gok2_ok L N g (by omega) hg
  have none' : nodes (.mk 0 0 []) ≤ 60 ∧ shape (.mk 0 0 []) = true := by
    refine ⟨by simp [nodes, nodess], rfl⟩
  show ∃ F c, f9.b' L N (fun a0 a1 => some (a0, a1)) g s t = _ ∧ f7.b' L N (fun a0 a1 => some (a0, a1)) g s t = _ ∧ _
  unfold f9.b' f7.b'
  rw [hge, h1, h2]
  simp only [Option.bind_some, in_ok]
  cases hok : graphOk g with
  | false =>
    rw [Bool.not_false, cond_true, cond_true]
    exact ⟨_, _, rfl, rfl, none'.1, none'.2, fun h => by cases h⟩
  | true =>
    have hm := leads_of hok hg
    obtain ⟨hn1, hn2, hmv⟩ := graphOk_mv hok
    have hwl : wi ((g.moves.length : Int) - 1) = (g.moves.length : Int) - 1 := wi_id (by omega) (by omega)
    rw [Bool.not_true, cond_false, cond_false, hwl]
    have nos : ∀ v : Int, (v < 0 ∨ v ≥ (g.moves.length : Int)) → decide (0 ≤ v ∧ v ≤ (g.moves.length : Int) - 1) = false := fun v h => df (by omega)
    have yes : ∀ v : Int, ¬ (v < 0) → ¬ (v ≥ (g.moves.length : Int)) → decide (0 ≤ v ∧ v ≤ (g.moves.length : Int) - 1) = true := fun v h h' => dt (by omega)
    by_cases s0 : s < 0
    · rw [dt s0, cond_true, nos s (.inl s0), Bool.not_false, cond_true]
      exact ⟨_, _, rfl, rfl, none'.1, none'.2, fun h => by cases h⟩
    by_cases s1 : s ≥ (g.moves.length : Int)
    · rw [df s0, cond_false, dt s1, cond_true, nos s (.inr s1), Bool.not_false, cond_true]
      exact ⟨_, _, rfl, rfl, none'.1, none'.2, fun h => by cases h⟩
    rw [df s0, cond_false, df s1, cond_false, yes s s0 s1, Bool.not_true, cond_false]
    by_cases t0 : t < 0
    · rw [dt t0, cond_true, nos t (.inl t0), Bool.not_false, cond_true]
      exact ⟨_, _, rfl, rfl, none'.1, none'.2, fun h => by cases h⟩
    by_cases t1 : t ≥ (g.moves.length : Int)
    · rw [df t0, cond_false, dt t1, cond_true, nos t (.inr t1), Bool.not_false, cond_true]
      exact ⟨_, _, rfl, rfl, none'.1, none'.2, fun h => by cases h⟩
    rw [df t0, cond_false, df t1, cond_false, yes t t0 t1, Bool.not_true, cond_false]
    obtain ⟨i, rfl⟩ := Int.eq_ofNat_of_zero_le (show (0 : Int) ≤ s by omega)
    obtain ⟨j, rfl⟩ := Int.eq_ofNat_of_zero_le (show (0 : Int) ≤ t by omega)
    have hi : i < g.moves.length := by omega
    have hj : j < g.moves.length := by omega
    obtain ⟨pre, q, c1, c2, c3, c4⟩ := chainI L N g.moves hm (by omega)
    have c5 := chainS L N g.moves hm (by omega) c1
    have hql := c4.1
    unfold f9.j0' f7.j0'
    rw [c1, c5]
    simp only [Option.bind_some]
    have hrok : RoundsOk g.moves (pre ++ [q]) := ⟨by simp; omega, fun r h => c3.lens _ (List.getElem_mem h)⟩
    have hlen : (pre ++ [q]).length = pre.length + 1 := by simp
    have hwp : wi (((pre ++ [q]).length : Int) - 1) = (pre.length : Int) := by rw [wi_id (by omega) (by omega)]; omega
    have hpl : pre.length < (pre ++ [q]).length := by omega
    have hlast : (pre ++ [q]).getD pre.length [] = q := by
      rw [getD_lt hpl, List.getElem_append_right (by simp)]; simp
    have hiq : i < q.length := by omega
    have hjq : j < q.length := by omega
    have hro := round_ok L N g.moves (pre ++ [q]) hrok i j hi hj (by omega)
    simp only [hwp, le0, lt_cast hpl, Bool.and_true, cond_true, Int.toNat_natCast, atD, hlast, lt_cast hiq, lt_cast hjq]
    by_cases e : q.getD i 0 = q.getD j 0
    · have hb : (q.getD i 0 == q.getD j 0) = true := beq_iff_eq.2 e
      rw [hb, cond_true, hro.2 (c3.back hi hj e)]
      simp only [Option.bind_some]
      exact ⟨_, _, rfl, rfl, none'.1, none'.2, fun h => by cases h⟩
    · have hb : (q.getD i 0 == q.getD j 0) = false := beq_eq_false_iff_ne.2 e
      obtain ⟨r, hr, hd⟩ := RD.exists (s := i) (t := j) pre.length hpl (by rw [hlast]; exact e)
      obtain ⟨F, f1, f2, f3, f4, ⟨x, c, x1, x2, x3, x4⟩, y, d, y1, y2, y3⟩ := tells_both L N (by omega) (by omega) g.moves hm (fun i hi m hm' => by
        obtain ⟨k, hk, rfl⟩ := List.mem_iff_getElem.1 hm'
        have := hmv i hi k hk; exact ⟨this.1, this.2.1⟩) pre q c3 c2 N i j r hi hj hd (by split <;> omega)
      rw [hb, cond_false, hro.1 r hd, x1]
      have hrn : decide ((r : Int) < 0) = false := df (by omega)
      simp only [Option.bind_some, hrn, cond_false, y1, mk_parts]
      have hlim := lim_eq
      cases hc : c with
      | true =>
        have hF := x2.1 hc
        have hx := x3 hc
        subst hx
        have hdt : d = true := by
          cases hdd : d with
          | true => rfl
          | false => have := y3 hdd; omega
        obtain ⟨hy, -⟩ := y2 hdt
        subst hy
        rw [hdt, Bool.not_true, cond_false, cond_false, formOk2_ok L N y (by omega) (by omega) (shape_tok _ _ (Nat.le_refl _) f1), f1, dt hF]
        refine ⟨y, true, rfl, ?_, hF, f1, fun _ => ⟨i, j, rfl, rfl, hi, hj, hok, f3, f4, fun pre' q' h' => ?_⟩⟩
        · rfl
        · subst hL; subst hN
          have hp : pre ++ [q] = pre' ++ [q'] := by
            have h2 : some (pre ++ [q]) = some (pre' ++ [q']) := by rw [← c1, hge]; exact h'
            exact Option.some.inj h2
          rw [← hp]
          exact ⟨r, hd, f2⟩
      | false =>
        have hF : ¬ nodes F ≤ 60 := fun h => by rw [x2.2 h] at hc; cases hc
        rw [Bool.not_false, cond_true]
        refine ⟨.mk 0 0 [], false, rfl, ?_, none'.1, none'.2, fun h => by cases h⟩
        cases hdd : d with
        | false => rw [Bool.not_false, cond_true]
        | true =>
          obtain ⟨hy, hy2⟩ := y2 hdd
          subst hy
          rw [Bool.not_true, cond_false, formOk2_ok L N y (by split at hy2 <;> omega) (by split at hy2 <;> omega) (shape_tok _ _ (Nat.le_refl _) f1), df hF]
          rfl
end Go.Proofs.Ytffkhhblppfbfaa.Ev
namespace Go.Proofs.Ytffkhhblppfbfaa.Ev
open Go
set_option linter.unusedVariables false
set_option linter.unusedSimpArgs false
theorem lawTellsNone (x0 : List Int) (hx0 : DatOk (.sl (.int .u8)) x0) : ∃ L N, f4 L N x0 = some true := by
  generalize hLL : 8589934592 = L
  generalize hNN : 20000 = N
  refine ⟨L, N, ?_⟩
  have hlim := lim_eq
  obtain ⟨g, s, t, hd, hg⟩ := tells_draw L N (by omega) (by omega) hx0
  obtain ⟨F, c, e1, e2, hF, hsh, htold⟩ := tellsC L N hLL.symm hNN.symm g s t hg
  have hge : ∀ g : Graph, Graph.mk g.moves = g := fun g => by cases g; rfl
  have hms := mnForm_same L N N F (by omega) (by omega) (by omega)
  obtain ⟨q, al1, al2, al3, al4⟩ := alikeC L N g hg (by omega)
  show f4.b L N some x0 = _
  unfold f4.b f4.b'
  by_cases hl : (x0.length : Int) > 1048576
  · rw [dt hl, cond_true]
  · rw [df hl, cond_false, hd]
    simp only [Option.bind_some, hge, e1, e2, mk_parts, hms, beq_self_eq_true, Bool.not_true, cond_false]
    unfold f4.j0'
    rw [hge, al1, Option.bind_some]
    cases hc : c with
    | false => rfl
    | true =>
      obtain ⟨i, j, rfl, rfl, hi, hj, hok, hs, ht, hr⟩ := htold hc
      have hm := leads_of hok hg
      obtain ⟨pre, -, hq⟩ := al4 hok
      have hql := hq.1
      have hi1 : i < q.length := by omega
      have hj1 : j < q.length := by omega
      rw [Bool.not_true, cond_false]
      simp only [lt_cast hi1, lt_cast hj1, le0, Bool.and_true, cond_true, Int.toNat_natCast, atD]
      have : (q.getD i 0 != q.getD j 0) = true := by
        rw [bne_iff_ne]
        intro e
        rw [hold_class hm hq _ F (Nat.le_refl _) hsh i j hi hj e, ht] at hs
        cases hs
      rw [this]
end Go.Proofs.Ytffkhhblppfbfaa.Ev
