/- Plain laws, in one text. -/
import Derived.Test.YtdfjdbpklbehoaaGD14b
import Derived.Test.YtdfjdbpklbehoaaEvZ
import Derived.Test.YtdfjdbpklbehoaaEvSort
import Derived.Test.YtdfjdbpklbehoaaPAll0
namespace Go.Proofs.Ytdfjdbpklbehoaa.Ev
open Go
set_option linter.unusedVariables false
set_option linter.unusedSimpArgs false
theorem l2Calls_ok (L N : Nat) : ∀ (m : Nat) (t : Tree) (b : Bool), nodes t ≤ m → nodes t < L → nodes t ≤ 1048576 → ∃ c : Int, f158 L N m t b = some c ∧ ∀ n : Int, c < n → CL n b t := by
  intro m
  induction m with
  | zero => intro t b h; have := nodes_pos t; omega
  | succ m ih =>
    intro t b ht hL hsz
    obtain ⟨o, x, ps⟩ := t
    simp only [nodes] at ht hL hsz
    have hpl := nodess_len ps
    show ∃ c, f158.b L N (f158 L N m) some (.mk o x ps) b = some c ∧ _
    unfold f158.b f158.b'
    simp only [Tree.op, Tree.n, Tree.parts]
    by_cases h5 : o = 5
    · subst h5
      rw [show ((5 : Int) == 5) = true from rfl, cond_true]
      exact ⟨x, rfl, fun n h => .call b x ps h⟩
    · rw [show (o == 5) = false by simpa using h5, cond_false]
      by_cases hb : b = true ∧ o = 1
      · obtain ⟨rfl, rfl⟩ := hb
        refine ⟨-1, ?_, fun n _ => .stop x ps⟩
        obtain ⟨L', rfl⟩ : ∃ L', L = L' + 1 := ⟨L - 1, by omega⟩
        show f158.s0 _ N _ _ _ _ _ _ _ _ ps = _
        unfold f158.s0 f158.s0'
        by_cases h0 : (0 : Int) < (ps.length : Int)
        · rw [dt h0]; rfl
        · rw [df h0]; rfl
      · have key : ∀ (n i : Nat) (c : Int), i ≤ ps.length → ps.length - i < n → (∀ (j : Nat) (hj : j < ps.length), j < i → ∀ q : Int, c < q → CL q b ps[j]) →
            ∃ c' : Int, f158.l0 L N (f158 L N m) (fun z13 => f158.p0_e0 L N (f158 L N m) some z13) n b c (i : Int) o x ps = some c' ∧ ∀ q : Int, c' < q → ∀ p ∈ ps, CL q b p := by
          intro n
          induction n with
          | zero => intro i c _ h; omega
          | succ n ihn =>
            intro i c hi hn hc
            show ∃ c', f158.s0 L N _ _ (f158.l0 L N _ _ n) b c (i : Int) o x ps = some c' ∧ _
            unfold f158.s0 f158.s0'
            by_cases hlt : i < ps.length
            · have hg := nodes_get hlt
              obtain ⟨c2, e, hc2⟩ := ih ps[i] b (by omega) (by omega) (by omega)
              have go : ∃ c', f158.j0' L N (f158 L N m) (fun z13 => f158.p0_e0 L N (f158 L N m) some z13) (f158.l0 L N (f158 L N m) (fun z13 => f158.p0_e0 L N (f158 L N m) some z13) n) b c (i : Int) o x ps = some c' ∧ ∀ q : Int, c' < q → ∀ p ∈ ps, CL q b p := by
                unfold f158.j0'
                simp only [le0, lt_cast hlt, Bool.and_true, cond_true, Int.toNat_natCast, at_lt hlt, e, Option.bind_some]
                rw [wi_nat (by omega)]
                refine ihn (i + 1) _ (by omega) (by omega) fun j hj hji q hq => ?_
                by_cases hgt : c2 > c
                · rw [dt hgt, cond_true] at hq
                  by_cases e : j = i
                  · subst e; exact hc2 q hq
                  · exact hc j hj (by omega) q (by omega)
                · rw [df hgt, cond_false] at hq
                  by_cases e : j = i
                  · subst e; exact hc2 q (by omega)
                  · exact hc j hj (by omega) q hq
              rw [lt_cast hlt, cond_true]
              cases b with
              | true =>
                have h1 : o ≠ 1 := fun h => hb ⟨rfl, h⟩
                rw [cond_true, show (o == 1) = false by simpa using h1, Bool.not_false, cond_true]
                exact go
              | false => exact go
            · rw [ge_cast hlt, cond_false]
              exact ⟨c, rfl, fun q hq p hp => by
                obtain ⟨j, hj, rfl⟩ := List.mem_iff_getElem.1 hp
                exact hc j hj (by omega) q hq⟩
        obtain ⟨c, e, hc⟩ := key L 0 (-1) (by omega) (by omega) (fun j hj h => by omega)
        exact ⟨c, e, fun n hn => .node b o x ps h5 (hc n hn)⟩
theorem fits_ok (L N : Nat) (t : Tree) (n : Int) (h : nodes t ≤ 1000) (hN : 1000 ≤ N) (hL : 1000 < L) : ∃ r, f149 L N t n = some r ∧ (r = true → ∃ k, k ≤ 24 ∧ WT t k ∧ (0 ≤ n ∧ n ≤ 3) ∧ CL n false t) := by
  obtain ⟨r, e, r0, r1, hw⟩ := l2Nodes_ok L N N t (by omega) (by omega)
  obtain ⟨c, f, hc⟩ := l2Calls_ok L N N t false (by omega) (by omega) (by omega)
  have hok : f159 L N t = some (decide (1 ≤ r ∧ r ≤ 24)) := by
    show f159.b' L N some t = _
    unfold f159.b'
    rw [tree_eta, e, Option.bind_some, in_ok, Option.bind_some]
  show ∃ r, f149.b' L N some t n = some r ∧ _
  unfold f149.b'
  rw [tree_eta, hok, Option.bind_some]
  by_cases h1 : 1 ≤ r ∧ r ≤ 24
  · rw [dt h1, cond_true, in_ok, Option.bind_some]
    by_cases h2 : 0 ≤ n ∧ n ≤ 3
    · rw [dt h2, cond_true, f, Option.bind_some]
      refine ⟨_, rfl, fun h3 => ⟨r.toNat, by omega, hw (by omega) (by omega), h2, hc n (of_decide_eq_true h3)⟩⟩
    · rw [df h2, cond_false]
      exact ⟨false, rfl, fun h => by cases h⟩
  · rw [df h1, cond_false]
    exact ⟨false, rfl, fun h => by cases h⟩
def DefsW (ds : List Tree) : Prop := ds.length ≤ 3 ∧ ∀ d ∈ ds, ∃ k, k ≤ 24 ∧ WT d k ∧ CL (ds.length : Int) false d ∧ CL 0 true d
theorem defsOk_ok (L N : Nat) (ds : List Tree) (h : ∀ d ∈ ds, nodes d ≤ 1000) (hl : ds.length ≤ 1000) (hN : 1000 ≤ N) (hL : 1001 < L) : ∃ r, f148 L N ds = some r ∧ (r = true → DefsW ds) := by
  show ∃ r, f148.b L N some ds = some r ∧ _
  unfold f148.b f148.b'
  have key : ∀ (n i : Nat), i ≤ ds.length → ds.length - i < n → (∀ (j : Nat) (hj : j < ds.length), j < i → ∃ k, k ≤ 24 ∧ WT ds[j] k ∧ CL (ds.length : Int) false ds[j] ∧ CL 0 true ds[j]) →
      ∃ r, f148.l0 L N (fun z2 => f148.p0_e0 L N some z2) (fun z8 z9 => f148.p0_r L N some z8 z9) n ds (i : Int) = some r ∧ (r = true → DefsW ds) := by
    intro n
    induction n with
    | zero => intro i _ h; omega
    | succ n ih =>
      intro i hi hn hd
      show ∃ r, f148.s0 L N _ _ (f148.l0 L N _ _ n) ds (i : Int) = some r ∧ _
      unfold f148.s0 f148.s0'
      by_cases hlt : i < ds.length
      · have hdn := h ds[i] (List.getElem_mem hlt)
        obtain ⟨r, e, hr⟩ := fits_ok L N ds[i] (ds.length : Int) hdn hN (by omega)
        obtain ⟨c, f, hc⟩ := l2Calls_ok L N N ds[i] true (by omega) (by omega) (by omega)
        simp only [lt_cast hlt, le0, Bool.and_true, cond_true, Int.toNat_natCast, at_lt hlt, e, f, Option.bind_some]
        cases r with
        | false => exact ⟨false, rfl, fun h => by cases h⟩
        | true =>
          rw [Bool.not_true, cond_false]
          by_cases h0 : c ≥ 0
          · rw [dt h0, cond_true]; exact ⟨false, rfl, fun h => by cases h⟩
          · rw [df h0, cond_false, wi_nat (by omega)]
            refine ih (i + 1) (by omega) (by omega) fun j hj hji => ?_
            by_cases e : j = i
            · subst e
              obtain ⟨k, a1, a2, a3, a4⟩ := hr rfl
              exact ⟨k, a1, a2, a4, hc 0 (by omega)⟩
            · exact hd j hj (by omega)
      · rw [ge_cast hlt, cond_false]
        refine ⟨_, rfl, fun h3 => ⟨?_, fun d hd' => ?_⟩⟩
        · have h3 : ((ds.length : Int) ≤ 3) := of_decide_eq_true h3
          omega
        · obtain ⟨j, hj, rfl⟩ := List.mem_iff_getElem.1 hd'
          exact hd j hj (by omega)
  exact key L 0 (by omega) (by omega) (fun j hj h => by omega)
theorem l1t_ok (L N : Nat) {n : Int} (h : -4 ≤ n ∧ n ≤ 4) : ∃ s, f162 L N n = some s ∧ s.size ≤ 3 := by
  have hc : n = -4 ∨ n = -3 ∨ n = -2 ∨ n = -1 ∨ n = 0 ∨ n = 1 ∨ n = 2 ∨ n = 3 ∨ n = 4 := by omega
  rcases hc with rfl | rfl | rfl | rfl | rfl | rfl | rfl | rfl | rfl <;> exact ⟨_, rfl, by decide⟩
theorem l6dec_ok (L N m : Nat) {n : Int} (h : 0 ≤ n ∧ n ≤ 2) : ∃ s, f160 L N (m + 1) n = some s ∧ s.size ≤ 3 := by
  have hc : n = 0 ∨ n = 1 ∨ n = 2 := by omega
  rcases hc with rfl | rfl | rfl <;> exact ⟨_, rfl, by decide⟩
theorem bif_y {c : Bool} {α : Type} {a b : α} (h : c = true) : (bif c then a else b) = a := by rw [h]; rfl
theorem text1 (L' N' m : Nat) (a : Tree) (s : ByteArray) (e : f150 (L' + 3) (N' + 1) m a = some s) (b0 : ByteArray) (o n : Int) (k : Nat) (hb : b0.size ≤ 9) (hs : s.size ≤ 20 * k) (hk : k ≤ 100000) :
    ∃ r, f150.l0 (L' + 3) (N' + 1) (f150 (L' + 3) (N' + 1) m) (fun z17 => f150.p0_e1 (L' + 3) (N' + 1) (f150 (L' + 3) (N' + 1) m) some z17) (L' + 3) b0 (0 : Int) o n [a] = some r ∧ r.size ≤ 20 * (k + 1) := by
  have hsz : ∀ a b : ByteArray, (a ++ b).size = a.size + b.size := fun a b => ByteArray.size_append
  have z1 : (ByteArray.mk #[32]).size = 1 := rfl
  have z2 : (ByteArray.mk #[41]).size = 1 := rfl
  show ∃ r, f150.s0 _ _ _ _ _ b0 (0 : Int) o n [a] = some r ∧ _
  unfold f150.s0 f150.s0'
  rw [show decide ((0 : Int) < (([a] : List Tree).length : Int)) = true from rfl, cond_true, bif_y (dt (by omega)), show (decide ((0 : Int) ≤ 0) && true) = true from rfl, cond_true, show listAt [a] (Ty.dflt (.st 1)) (0 : Int).toNat = a from rfl, e, Option.bind_some, bif_y (dt (by rw [hsz]; omega))]
  show ∃ r, f150.s0 _ _ _ _ _ ((b0 ++ ByteArray.mk #[32]) ++ s) (wi ((0 : Int) + 1)) o n [a] = some r ∧ _
  unfold f150.s0 f150.s0'
  rw [show decide (wi ((0 : Int) + 1) < (([a] : List Tree).length : Int)) = false from rfl, cond_false]
  show ∃ r, f150.p0_e1' _ _ _ some ((b0 ++ ByteArray.mk #[32]) ++ s) = some r ∧ _
  unfold f150.p0_e1'
  rw [bif_y (dt (by rw [hsz, hsz]; omega))]
  exact ⟨_, rfl, by rw [hsz, hsz, hsz]; omega⟩
theorem text2 (L' N' m : Nat) (a b : Tree) (s u : ByteArray) (e : f150 (L' + 3) (N' + 1) m a = some s) (f : f150 (L' + 3) (N' + 1) m b = some u) (b0 : ByteArray) (o n : Int) (i j : Nat) (hb : b0.size ≤ 9) (hs : s.size ≤ 20 * i) (hu : u.size ≤ 20 * j) (hk : i + j ≤ 100000) :
    ∃ r, f150.l0 (L' + 3) (N' + 1) (f150 (L' + 3) (N' + 1) m) (fun z17 => f150.p0_e1 (L' + 3) (N' + 1) (f150 (L' + 3) (N' + 1) m) some z17) (L' + 3) b0 (0 : Int) o n [a, b] = some r ∧ r.size ≤ 20 * (i + j + 1) := by
  have hsz : ∀ a b : ByteArray, (a ++ b).size = a.size + b.size := fun a b => ByteArray.size_append
  have z1 : (ByteArray.mk #[32]).size = 1 := rfl
  have z2 : (ByteArray.mk #[41]).size = 1 := rfl
  show ∃ r, f150.s0 _ _ _ _ _ b0 (0 : Int) o n [a, b] = some r ∧ _
  unfold f150.s0 f150.s0'
  rw [show decide ((0 : Int) < (([a, b] : List Tree).length : Int)) = true from rfl, cond_true, bif_y (dt (by omega)), show (decide ((0 : Int) ≤ 0) && true) = true from rfl, cond_true, show listAt [a, b] (Ty.dflt (.st 1)) (0 : Int).toNat = a from rfl, e, Option.bind_some, bif_y (dt (by rw [hsz]; omega))]
  show ∃ r, f150.s0 _ _ _ _ _ ((b0 ++ ByteArray.mk #[32]) ++ s) (wi ((0 : Int) + 1)) o n [a, b] = some r ∧ _
  unfold f150.s0 f150.s0'
  rw [show decide (wi ((0 : Int) + 1) < (([a, b] : List Tree).length : Int)) = true from rfl, cond_true, bif_y (dt (by rw [hsz, hsz]; omega)), show (decide ((0 : Int) ≤ wi ((0 : Int) + 1)) && true) = true from rfl, cond_true, show listAt [a, b] (Ty.dflt (.st 1)) (wi ((0 : Int) + 1)).toNat = b from rfl, f, Option.bind_some, bif_y (dt (by rw [hsz, hsz, hsz]; omega))]
  show ∃ r, f150.s0 _ _ _ _ _ _ (wi (wi ((0 : Int) + 1) + 1)) o n [a, b] = some r ∧ _
  unfold f150.s0 f150.s0'
  rw [show decide (wi (wi ((0 : Int) + 1) + 1) < (([a, b] : List Tree).length : Int)) = false from rfl, cond_false]
  show ∃ r, f150.p0_e1' _ _ _ some _ = some r ∧ _
  unfold f150.p0_e1'
  rw [bif_y (dt (by rw [hsz, hsz, hsz, hsz]; omega))]
  exact ⟨_, rfl, by rw [hsz, hsz, hsz, hsz, hsz]; omega⟩
theorem l2Text_ok (L N : Nat) (hN : 1 ≤ N) (hL : 8 ≤ L) : ∀ (t : Tree) (k : Nat), WT t k → k ≤ 100000 → ∀ m, k ≤ m → ∃ s, f150 L N m t = some s ∧ s.size ≤ 20 * k := by
  obtain ⟨N', rfl⟩ : ∃ N', N = N' + 1 := ⟨N - 1, by omega⟩
  obtain ⟨L', rfl⟩ : ∃ L', L = L' + 3 := ⟨L - 3, by omega⟩
  have hsz : ∀ a b : ByteArray, (a ++ b).size = a.size + b.size := fun a b => ByteArray.size_append
  intro t k h
  induction h with
  | nil =>
    intro _ m hm
    obtain ⟨m, rfl⟩ : ∃ m', m = m' + 1 := ⟨m - 1, by omega⟩
    exact ⟨_, rfl, by decide⟩
  | call n hn =>
    intro _ m hm
    obtain ⟨m, rfl⟩ : ∃ m', m = m' + 1 := ⟨m - 1, by omega⟩
    obtain ⟨s, e, hs⟩ := l6dec_ok (L' + 3) (N' + 1) N' hn
    show ∃ s, f150.b _ _ (f150 (L' + 3) (N' + 1) m) some (.mk 5 n []) = some s ∧ _
    unfold f150.b f150.b'
    simp only [Tree.op, Tree.n, Tree.parts]
    rw [show ((5 : Int) == 0) = false from rfl, cond_false, show ((5 : Int) == 5) = true from rfl, cond_true, e, Option.bind_some]
    rw [dt (show (ByteArray.mk #[88]).size + s.size ≤ 4611686018427387904 by have : (ByteArray.mk #[88]).size = 1 := rfl; omega), cond_true]
    exact ⟨_, rfl, by rw [hsz]; have : (ByteArray.mk #[88]).size = 1 := rfl; omega⟩
  | act n a k hn ha ih =>
    intro hk m hm
    obtain ⟨m, rfl⟩ : ∃ m', m = m' + 1 := ⟨m - 1, by omega⟩
    obtain ⟨s, e, hs⟩ := ih (by omega) m (by omega)
    obtain ⟨u, f, hu⟩ := l1t_ok (L' + 3) (N' + 1) hn
    show ∃ s, f150.b _ _ (f150 (L' + 3) (N' + 1) m) some (.mk 1 n [a]) = some s ∧ _
    unfold f150.b f150.b'
    have z1 : ((ByteArray.mk #[40]) ++ (ByteArray.mk #[97, 99, 116])).size = 4 := rfl
    have z2 : (ByteArray.mk #[32]).size = 1 := rfl
    have z3 : (ByteArray.mk #[41]).size = 1 := rfl
    have z4 : (((ByteArray.mk #[40]) ++ (ByteArray.mk #[97, 99, 116])) ++ (ByteArray.mk #[32])).size = 5 := rfl
    have w : f161 (L' + 3) (N' + 1) = some [(ByteArray.mk #[]), (ByteArray.mk #[97, 99, 116]), (ByteArray.mk #[115, 117, 109]), (ByteArray.mk #[112, 97, 114]), (ByteArray.mk #[104, 105, 100, 101])] := rfl
    simp only [Tree.op, Tree.n, Tree.parts, w, Option.bind_some]
    rw [show ((1 : Int) == 0) = false from rfl, cond_false, show ((1 : Int) == 5) = false from rfl, cond_false, show ((1 : Int) == 1) = true from rfl]
    simp only [show listAt [(ByteArray.mk #[]), (ByteArray.mk #[97, 99, 116]), (ByteArray.mk #[115, 117, 109]), (ByteArray.mk #[112, 97, 114]), (ByteArray.mk #[104, 105, 100, 101])] ByteArray.empty (1 : Int).toNat = ByteArray.mk #[97, 99, 116] from rfl, f, Option.bind_some, cond_true]
    rw [bif_y (by rfl), bif_y (by rfl), bif_y (by rw [z1, z2]; rfl), bif_y (by rw [z4]; exact dt (by omega))]
    unfold f150.j1' f150.j0'
    rw [show ((1 : Int) == 4) = false from rfl, cond_false]
    generalize hb0 : (((ByteArray.mk #[40]) ++ (ByteArray.mk #[97, 99, 116])) ++ (ByteArray.mk #[32])) ++ u = b0
    have hb0s : b0.size ≤ 8 := by rw [← hb0, hsz, z4]; omega
    exact text1 L' N' m a s e b0 1 n k (by omega) hs (by omega)
  | hide n a k hn ha ih =>
    intro hk m hm
    obtain ⟨m, rfl⟩ : ∃ m', m = m' + 1 := ⟨m - 1, by omega⟩
    obtain ⟨s, e, hs⟩ := ih (by omega) m (by omega)
    have hw : wi (n + 1) = n + 1 := wi_id (by omega) (by omega)
    obtain ⟨u, f, hu⟩ := l1t_ok (L' + 3) (N' + 1) (n := n + 1) (by omega)
    show ∃ s, f150.b _ _ (f150 (L' + 3) (N' + 1) m) some (.mk 4 n [a]) = some s ∧ _
    unfold f150.b f150.b'
    have z1 : ((ByteArray.mk #[40]) ++ (ByteArray.mk #[104, 105, 100, 101])).size = 5 := rfl
    have z2 : (ByteArray.mk #[32]).size = 1 := rfl
    have z4 : (((ByteArray.mk #[40]) ++ (ByteArray.mk #[104, 105, 100, 101])) ++ (ByteArray.mk #[32])).size = 6 := rfl
    have w : f161 (L' + 3) (N' + 1) = some [(ByteArray.mk #[]), (ByteArray.mk #[97, 99, 116]), (ByteArray.mk #[115, 117, 109]), (ByteArray.mk #[112, 97, 114]), (ByteArray.mk #[104, 105, 100, 101])] := rfl
    simp only [Tree.op, Tree.n, Tree.parts, w, Option.bind_some]
    rw [show ((4 : Int) == 0) = false from rfl, cond_false, show ((4 : Int) == 5) = false from rfl, cond_false, show ((4 : Int) == 1) = false from rfl]
    simp only [show listAt [(ByteArray.mk #[]), (ByteArray.mk #[97, 99, 116]), (ByteArray.mk #[115, 117, 109]), (ByteArray.mk #[112, 97, 114]), (ByteArray.mk #[104, 105, 100, 101])] ByteArray.empty (4 : Int).toNat = ByteArray.mk #[104, 105, 100, 101] from rfl, cond_false]
    rw [bif_y (by rfl), bif_y (by rfl)]
    unfold f150.j1' f150.j0'
    rw [show ((4 : Int) == 4) = true from rfl, cond_true, bif_y (by rw [z1, z2]; rfl), hw, f, Option.bind_some, bif_y (by rw [z4]; exact dt (by omega))]
    generalize hb0 : (((ByteArray.mk #[40]) ++ (ByteArray.mk #[104, 105, 100, 101])) ++ (ByteArray.mk #[32])) ++ u = b0
    have hb0s : b0.size ≤ 9 := by rw [← hb0, hsz, z4]; omega
    exact text1 L' N' m a s e b0 4 n k (by omega) hs (by omega)
  | sum a b i j ha hb iha ihb =>
    intro hk m hm
    obtain ⟨m, rfl⟩ : ∃ m', m = m' + 1 := ⟨m - 1, by omega⟩
    obtain ⟨s, e, hs⟩ := iha (by omega) m (by omega)
    obtain ⟨u, f, hu⟩ := ihb (by omega) m (by omega)
    show ∃ s, f150.b _ _ (f150 (L' + 3) (N' + 1) m) some (.mk 2 0 [a, b]) = some s ∧ _
    unfold f150.b f150.b'
    have w : f161 (L' + 3) (N' + 1) = some [(ByteArray.mk #[]), (ByteArray.mk #[97, 99, 116]), (ByteArray.mk #[115, 117, 109]), (ByteArray.mk #[112, 97, 114]), (ByteArray.mk #[104, 105, 100, 101])] := rfl
    simp only [Tree.op, Tree.n, Tree.parts, w, Option.bind_some]
    rw [show ((2 : Int) == 0) = false from rfl, cond_false, show ((2 : Int) == 5) = false from rfl, cond_false, show ((2 : Int) == 1) = false from rfl]
    simp only [show listAt [(ByteArray.mk #[]), (ByteArray.mk #[97, 99, 116]), (ByteArray.mk #[115, 117, 109]), (ByteArray.mk #[112, 97, 114]), (ByteArray.mk #[104, 105, 100, 101])] ByteArray.empty (2 : Int).toNat = ByteArray.mk #[115, 117, 109] from rfl, cond_false]
    rw [bif_y (by rfl), bif_y (by rfl)]
    unfold f150.j1' f150.j0'
    rw [show ((2 : Int) == 4) = false from rfl, cond_false]
    exact text2 L' N' m a b s u e f _ 2 0 i j (by decide) hs hu (by omega)
  | par a b i j ha hb iha ihb =>
    intro hk m hm
    obtain ⟨m, rfl⟩ : ∃ m', m = m' + 1 := ⟨m - 1, by omega⟩
    obtain ⟨s, e, hs⟩ := iha (by omega) m (by omega)
    obtain ⟨u, f, hu⟩ := ihb (by omega) m (by omega)
    show ∃ s, f150.b _ _ (f150 (L' + 3) (N' + 1) m) some (.mk 3 0 [a, b]) = some s ∧ _
    unfold f150.b f150.b'
    have w : f161 (L' + 3) (N' + 1) = some [(ByteArray.mk #[]), (ByteArray.mk #[97, 99, 116]), (ByteArray.mk #[115, 117, 109]), (ByteArray.mk #[112, 97, 114]), (ByteArray.mk #[104, 105, 100, 101])] := rfl
    simp only [Tree.op, Tree.n, Tree.parts, w, Option.bind_some]
    rw [show ((3 : Int) == 0) = false from rfl, cond_false, show ((3 : Int) == 5) = false from rfl, cond_false, show ((3 : Int) == 1) = false from rfl]
    simp only [show listAt [(ByteArray.mk #[]), (ByteArray.mk #[97, 99, 116]), (ByteArray.mk #[115, 117, 109]), (ByteArray.mk #[112, 97, 114]), (ByteArray.mk #[104, 105, 100, 101])] ByteArray.empty (3 : Int).toNat = ByteArray.mk #[112, 97, 114] from rfl, cond_false]
    rw [bif_y (by rfl), bif_y (by rfl)]
    unfold f150.j1' f150.j0'
    rw [show ((3 : Int) == 4) = false from rfl, cond_false]
    exact text2 L' N' m a b s u e f _ 3 0 i j (by decide) hs hu (by omega)
end Go.Proofs.Ytdfjdbpklbehoaa.Ev
namespace Go.Proofs.Ytdfjdbpklbehoaa.Ev
open Go
set_option linter.unusedVariables false
set_option linter.unusedSimpArgs false
theorem bif_n {c : Bool} {α : Type} {a b : α} (h : c = false) : (bif c then a else b) = b := by rw [h]; rfl
def visS (l : List Step) : Nat := (l.filter fun s => s.act != 0).length
def tauS (l : List Step) : Nat := (l.filter fun s => s.act == 0).length
theorem len_vt : ∀ l : List Step, l.length = visS l + tauS l
  | [] => rfl
  | s :: l => by
    have ih := len_vt l
    unfold visS tauS at *
    by_cases h : s.act = 0
    · simp [h]; omega
    · simp [h]; omega
theorem visS_app (a b : List Step) : visS (a ++ b) = visS a + visS b := by unfold visS; rw [List.filter_append, List.length_append]
theorem tauS_app (a b : List Step) : tauS (a ++ b) = tauS a + tauS b := by unfold tauS; rw [List.filter_append, List.length_append]
theorem visS_map {f : Step → Step} (h : ∀ s, (f s).act = s.act) : ∀ l : List Step, visS (l.map f) = visS l
  | [] => rfl
  | s :: l => by
    have ih := visS_map h l
    unfold visS at *
    rw [List.map_cons, List.filter_cons, List.filter_cons, h s]
    split <;> simp [ih]
theorem tauS_map {f : Step → Step} (h : ∀ s, (f s).act = s.act) : ∀ l : List Step, tauS (l.map f) = tauS l
  | [] => rfl
  | s :: l => by
    have ih := tauS_map h l
    unfold tauS at *
    rw [List.map_cons, List.filter_cons, List.filter_cons, h s]
    split <;> simp [ih]
theorem visS_sub {p : Step → Bool} (l : List Step) : visS (l.filter p) ≤ visS l := by
  unfold visS
  rw [List.filter_filter]
  have h := List.length_filter_le p (l.filter fun s => s.act != 0)
  rw [List.filter_filter] at h
  refine Nat.le_trans (Nat.le_of_eq ?_) h
  congr 1
  apply List.filter_congr
  intro x _
  exact Bool.and_comm _ _
theorem tauS_sub {p : Step → Bool} (l : List Step) : tauS (l.filter p) ≤ tauS l := by
  unfold tauS
  rw [List.filter_filter]
  have h := List.length_filter_le p (l.filter fun s => s.act == 0)
  rw [List.filter_filter] at h
  refine Nat.le_trans (Nat.le_of_eq ?_) h
  congr 1
  apply List.filter_congr
  intro x _
  exact Bool.and_comm _ _
def leftS (b : Tree) (s : Step) : Step := ⟨s.act, .mk 3 0 [s.thn, b]⟩
def rightS (a : Tree) (s : Step) : Step := ⟨s.act, .mk 3 0 [a, s.thn]⟩
def tauRow (x : Step) (right : List Step) : List Step := if x.act ≠ 0 then (right.filter fun y => x.act == wi (0 - y.act)).map fun y => ⟨0, .mk 3 0 [x.thn, y.thn]⟩ else []
theorem tauRow_vis (x : Step) (right : List Step) : visS (tauRow x right) = 0 := by
  unfold tauRow visS
  split
  · rw [List.length_eq_zero_iff, List.filter_eq_nil_iff]
    intro s hs
    obtain ⟨y, -, rfl⟩ := List.mem_map.1 hs
    simp
  · rfl
theorem tauRow_len (x : Step) (right : List Step) : (tauRow x right).length ≤ if x.act ≠ 0 then visS right else 0 := by
  unfold tauRow
  by_cases h : x.act ≠ 0
  · rw [if_pos h, if_pos h, List.length_map]
    unfold visS
    have e : (right.filter fun y => x.act == wi (0 - y.act)) = ((right.filter fun y => y.act != 0).filter fun y => x.act == wi (0 - y.act)) := by
      rw [List.filter_filter]
      apply List.filter_congr
      intro y _
      by_cases hy : y.act = 0
      · have : (x.act == wi (0 - y.act)) = false := by
          rw [hy]
          have : wi (0 - 0) = 0 := by rw [wi_id (by omega) (by omega)]; omega
          rw [this]; simpa using h
        rw [this]; rfl
      · have : (y.act != 0) = true := by simpa using hy
        rw [this, Bool.and_true]
    rw [e]
    exact List.length_filter_le _ _
  · rw [if_neg h, if_neg h]; simp
theorem taus_len (right : List Step) : ∀ left : List Step, (left.flatMap fun x => tauRow x right).length ≤ visS left * visS right
  | [] => by simp
  | x :: l => by
    have ih := taus_len right l
    have h := tauRow_len x right
    rw [List.flatMap_cons, List.length_append]
    have hv : visS (x :: l) = (if x.act ≠ 0 then 1 else 0) + visS l := by
      unfold visS
      rw [List.filter_cons]
      by_cases hx : x.act = 0
      · simp [hx]
      · have : (x.act != 0) = true := by simpa using hx
        simp [hx]; omega
    rw [hv, Nat.add_mul]
    by_cases hx : x.act ≠ 0
    · rw [if_pos hx] at h; rw [if_pos hx, Nat.one_mul]; omega
    · rw [if_neg hx] at h; rw [if_neg hx, Nat.zero_mul]; omega
theorem taus_vis (right : List Step) : ∀ left : List Step, visS (left.flatMap fun x => tauRow x right) = 0
  | [] => rfl
  | x :: l => by rw [List.flatMap_cons, visS_app, tauRow_vis, taus_vis right l]
theorem nloop1 (L' N : Nat) (self : Tree → Option Int) (a : Tree) (r1 : Int) (e : self a = some r1) (h1 : 1 ≤ r1) (h2 : r1 ≤ 998) (o x : Int) :
    f152.l0 (L' + 3) N self (fun z30 => f152.p0_e1 (L' + 3) N self some z30) (fun z32 z33 => f152.p0_r (L' + 3) N self some z32 z33) (L' + 3) (1 : Int) (1 : Int) (0 : Int) o x [a] = some (1 + r1) := by
  have hw : wi (1 + r1) = 1 + r1 := wi_id (by omega) (by omega)
  show f152.s0 _ N _ _ _ _ (1 : Int) (1 : Int) (0 : Int) o x [a] = _
  unfold f152.s0 f152.s0'
  rw [bif_y (by rfl), bif_y (by rfl)]
  show ((self a).bind _) = _
  rw [e, Option.bind_some, show (r1 == 0) = false by simp; omega, cond_false]
  show f152.s0 _ N _ _ _ _ (1 : Int) _ (wi ((0 : Int) + 1)) o x [a] = _
  unfold f152.s0 f152.s0'
  rw [bif_n (by rfl), hw, dt (show 1 + r1 < 1000 by omega), cond_true]
  rfl
theorem nloop2 (L' N : Nat) (self : Tree → Option Int) (a b : Tree) (r1 r2 : Int) (e : self a = some r1) (f : self b = some r2) (h1 : 1 ≤ r1) (h2 : 1 ≤ r2) (h3 : r1 + r2 ≤ 998) (o x : Int) :
    f152.l0 (L' + 3) N self (fun z30 => f152.p0_e1 (L' + 3) N self some z30) (fun z32 z33 => f152.p0_r (L' + 3) N self some z32 z33) (L' + 3) (2 : Int) (1 : Int) (0 : Int) o x [a, b] = some (1 + r1 + r2) := by
  have hw : wi (1 + r1) = 1 + r1 := wi_id (by omega) (by omega)
  have hw2 : wi (1 + r1 + r2) = 1 + r1 + r2 := wi_id (by omega) (by omega)
  show f152.s0 _ N _ _ _ _ (2 : Int) (1 : Int) (0 : Int) o x [a, b] = _
  unfold f152.s0 f152.s0'
  rw [bif_y (by rfl), bif_y (by rfl)]
  show ((self a).bind _) = _
  rw [e, Option.bind_some, show (r1 == 0) = false by simp; omega, cond_false]
  show f152.s0 _ N _ _ _ _ (2 : Int) _ (wi ((0 : Int) + 1)) o x [a, b] = _
  unfold f152.s0 f152.s0'
  rw [bif_y (by rfl), bif_y (by rfl)]
  show ((self b).bind _) = _
  rw [f, Option.bind_some, show (r2 == 0) = false by simp; omega, cond_false]
  show f152.s0 _ N _ _ _ _ (2 : Int) _ (wi (wi ((0 : Int) + 1) + 1)) o x [a, b] = _
  unfold f152.s0 f152.s0'
  rw [bif_n (by rfl), hw, dt (show 1 + r1 < 1000 by omega), cond_true, hw2, dt (show 1 + r1 + r2 < 1000 by omega), cond_true]
  rfl
theorem l2Nodes_wt (L N : Nat) (hL : 3 ≤ L) : ∀ (t : Tree) (k : Nat), WT t k → k ≤ 999 → ∀ m, k ≤ m → f152 L N m t = some (k : Int) := by
  obtain ⟨L', rfl⟩ : ∃ L', L = L' + 3 := ⟨L - 3, by omega⟩
  intro t k h
  induction h with
  | nil =>
    intro _ m hm
    obtain ⟨m, rfl⟩ : ∃ m', m = m' + 1 := ⟨m - 1, by omega⟩
    rfl
  | call x hx =>
    intro _ m hm
    obtain ⟨m, rfl⟩ : ∃ m', m = m' + 1 := ⟨m - 1, by omega⟩
    have hc : x = 0 ∨ x = 1 ∨ x = 2 := by omega
    rcases hc with rfl | rfl | rfl <;> rfl
  | act n a k hn ha ih =>
    intro hk m hm
    obtain ⟨m, rfl⟩ : ∃ m', m = m' + 1 := ⟨m - 1, by omega⟩
    have hp := ha.pos
    have e := ih (by omega) m (by omega)
    show f152.b (L' + 3) N (f152 (L' + 3) N m) some (.mk 1 n [a]) = _
    unfold f152.b f152.b'
    rw [bif_n (by rfl), bif_y (by rfl)]
    show ((f97 (L' + 3) N n).bind _) = _
    rw [act2_ok, Option.bind_some, dt hn]
    unfold f152.j2'
    rw [bif_n (by rfl), bif_n (by rfl)]
    unfold f152.j1'
    refine (nloop1 L' N _ a (k : Int) e (by omega) (by omega) 1 n).trans ?_
    rw [show ((k + 1 : Nat) : Int) = 1 + (k : Int) by omega]
  | hide n a k hn ha ih =>
    intro hk m hm
    obtain ⟨m, rfl⟩ : ∃ m', m = m' + 1 := ⟨m - 1, by omega⟩
    have hp := ha.pos
    have e := ih (by omega) m (by omega)
    show f152.b (L' + 3) N (f152 (L' + 3) N m) some (.mk 4 n [a]) = _
    unfold f152.b f152.b'
    rw [bif_n (by rfl), bif_n (by rfl), bif_n (by rfl)]
    unfold f152.j0'
    rw [bif_n (by rfl), bif_y (by rfl)]
    show ((f96 (L' + 3) N n 0 3).bind _) = _
    rw [in_ok, Option.bind_some, dt hn]
    unfold f152.j2'
    rw [bif_n (by rfl), bif_n (by rfl)]
    unfold f152.j1'
    refine (nloop1 L' N _ a (k : Int) e (by omega) (by omega) 4 n).trans ?_
    rw [show ((k + 1 : Nat) : Int) = 1 + (k : Int) by omega]
  | sum a b i j ha hb iha ihb =>
    intro hk m hm
    obtain ⟨m, rfl⟩ : ∃ m', m = m' + 1 := ⟨m - 1, by omega⟩
    have hpa := ha.pos
    have hpb := hb.pos
    have e := iha (by omega) m (by omega)
    have f := ihb (by omega) m (by omega)
    show f152.b (L' + 3) N (f152 (L' + 3) N m) some (.mk 2 0 [a, b]) = _
    unfold f152.b f152.b'
    rw [bif_n (by rfl), bif_n (by rfl), bif_y (by rfl)]
    unfold f152.j0'
    rw [bif_y (by rfl)]
    unfold f152.j2'
    rw [bif_n (by rfl), bif_n (by rfl)]
    unfold f152.j1'
    refine (nloop2 L' N _ a b (i : Int) (j : Int) e f (by omega) (by omega) (by omega) 2 0).trans ?_
    rw [show ((i + j + 1 : Nat) : Int) = 1 + (i : Int) + (j : Int) by omega]
  | par a b i j ha hb iha ihb =>
    intro hk m hm
    obtain ⟨m, rfl⟩ : ∃ m', m = m' + 1 := ⟨m - 1, by omega⟩
    have hpa := ha.pos
    have hpb := hb.pos
    have e := iha (by omega) m (by omega)
    have f := ihb (by omega) m (by omega)
    show f152.b (L' + 3) N (f152 (L' + 3) N m) some (.mk 3 0 [a, b]) = _
    unfold f152.b f152.b'
    rw [bif_n (by rfl), bif_n (by rfl), bif_n (by rfl)]
    unfold f152.j0'
    rw [bif_y (by rfl)]
    unfold f152.j2'
    rw [bif_n (by rfl), bif_n (by rfl)]
    unfold f152.j1'
    refine (nloop2 L' N _ a b (i : Int) (j : Int) e f (by omega) (by omega) (by omega) 3 0).trans ?_
    rw [show ((i + j + 1 : Nat) : Int) = 1 + (i : Int) + (j : Int) by omega]
section
variable {R : Type} (L N : Nat) (self : Tree → List Tree → Option (List Step))
theorem par0 (K : Int → Int → List Tree → List Step → List Step → List Step → Option R) (o x : Int) (a b : Tree) (left right : List Step) (hl : left.length ≤ 1000000) :
    ∀ (n i : Nat) (out : List Step), i ≤ left.length → left.length - i < n → out.length + (left.length - i) ≤ lim →
      f151.l0 L N self K n (i : Int) o x [a, b] out left right = K o x [a, b] (out ++ (left.drop i).map (leftS b)) left right := by
  intro n
  induction n with
  | zero => intro i out _ h; omega
  | succ n ih =>
    intro i out hi hn ho
    show f151.s0 L N self _ (f151.l0 L N self _ n) (i : Int) o x [a, b] out left right = _
    unfold f151.s0 f151.s0'
    by_cases hlt : i < left.length
    · have g1 : (decide ((0 : Int) ≤ 1) && decide ((1 : Int) < (([a, b] : List Tree).length : Int))) = true := rfl
      have g2 : listAt [a, b] (Ty.dflt (.st 1)) (1 : Int).toNat = b := rfl
      have hle : decide (out.length + ([Step.mk (left[i]).act (Tree.mk 3 0 [(left[i]).thn, b])] : List Step).length ≤ lim) = true := dt (by simp only [List.length_cons, List.length_nil]; omega)
      simp only [lt_cast hlt, le0, Bool.and_true, cond_true, Int.toNat_natCast, at_lt hlt, g1, g2, tree_eta, hle]
      rw [wi_nat (by omega), ih (i + 1) _ (by omega) (by omega) (by simp only [List.length_append, List.length_cons, List.length_nil]; omega), List.drop_eq_getElem_cons hlt, List.map_cons, List.append_assoc]
      rfl
    · simp only [ge_cast hlt, cond_false]
      rw [List.drop_eq_nil_of_le (by omega), List.map_nil, List.append_nil]
theorem par1 (K : List Step → List Step → List Step → Option R) (o x : Int) (a b : Tree) (left right : List Step) (hl : right.length ≤ 1000000) :
    ∀ (n i : Nat) (out : List Step), i ≤ right.length → right.length - i < n → out.length + (right.length - i) ≤ lim →
      f151.l1 L N self K n (i : Int) o x [a, b] out left right = K (out ++ (right.drop i).map (rightS a)) left right := by
  intro n
  induction n with
  | zero => intro i out _ h; omega
  | succ n ih =>
    intro i out hi hn ho
    show f151.s1 L N self _ (f151.l1 L N self _ n) (i : Int) o x [a, b] out left right = _
    unfold f151.s1 f151.s1'
    by_cases hlt : i < right.length
    · have g1 : (decide ((0 : Int) ≤ 0) && decide ((0 : Int) < (([a, b] : List Tree).length : Int))) = true := rfl
      have g2 : listAt [a, b] (Ty.dflt (.st 1)) (0 : Int).toNat = a := rfl
      have hle : decide (out.length + ([Step.mk (right[i]).act (Tree.mk 3 0 [a, (right[i]).thn])] : List Step).length ≤ lim) = true := dt (by simp only [List.length_cons, List.length_nil]; omega)
      rw [g1, g2]
      simp only [lt_cast hlt, le0, Bool.and_true, cond_true, Int.toNat_natCast, at_lt hlt, tree_eta, hle]
      rw [wi_nat (by omega), ih (i + 1) _ (by omega) (by omega) (by simp only [List.length_append, List.length_cons, List.length_nil]; omega), List.drop_eq_getElem_cons hlt, List.map_cons, List.append_assoc]
      rfl
    · simp only [ge_cast hlt, cond_false]
      rw [List.drop_eq_nil_of_le (by omega), List.map_nil, List.append_nil]
theorem par3 (K : Int → List Step → List Step → List Step → Option R) (left right : List Step) (hl : right.length ≤ 1000000) (i : Nat) (hi : i < left.length) :
    ∀ (n j : Nat) (out : List Step), j ≤ right.length → right.length - j < n → out.length + (right.length - j) ≤ lim →
      f151.l3 L N self K n (i : Int) (j : Int) out left right = K (i : Int) (out ++ tauRow left[i] (right.drop j)) left right := by
  intro n
  induction n with
  | zero => intro j out _ h; omega
  | succ n ih =>
    intro j out hj hn ho
    show f151.s3 L N self _ (f151.l3 L N self _ n) (i : Int) (j : Int) out left right = _
    unfold f151.s3 f151.s3'
    by_cases hlt : j < right.length
    · rw [List.drop_eq_getElem_cons hlt]
      have hle : decide (out.length + ([Step.mk 0 (Tree.mk 3 0 [(left[i]).thn, (right[j]).thn])] : List Step).length ≤ lim) = true := dt (by simp only [List.length_cons, List.length_nil]; omega)
      simp only [lt_cast hlt, lt_cast hi, le0, Bool.and_true, cond_true, Int.toNat_natCast, at_lt hlt, at_lt hi]
      by_cases h0 : (left[i]).act = 0
      · rw [show ((left[i]).act != 0) = false by simpa using h0, cond_false]
        unfold f151.j0'
        rw [cond_false, wi_nat (by omega), ih (j + 1) _ (by omega) (by omega) (by omega)]
        unfold tauRow
        rw [if_neg (fun h => h h0), if_neg (fun h => h h0)]
      · rw [show ((left[i]).act != 0) = true by simpa using h0, cond_true]
        unfold f151.j0'
        cases hc : ((left[i]).act == wi (0 - (right[j]).act)) with
        | false =>
          rw [cond_false, wi_nat (by omega), ih (j + 1) _ (by omega) (by omega) (by omega)]
          unfold tauRow
          rw [if_pos h0, if_pos h0, List.filter_cons, hc]
          rfl
        | true =>
          simp only [lt_cast hlt, lt_cast hi, le0, Bool.and_true, cond_true, Int.toNat_natCast, at_lt hlt, at_lt hi, tree_eta, hle]
          rw [wi_nat (by omega), ih (j + 1) _ (by omega) (by omega) (by simp only [List.length_append, List.length_cons, List.length_nil]; omega)]
          unfold tauRow
          rw [if_pos h0, if_pos h0, List.filter_cons, hc, if_pos rfl, List.map_cons, List.append_assoc]
          rfl
    · simp only [ge_cast hlt, cond_false]
      rw [List.drop_eq_nil_of_le (by omega)]
      have : tauRow left[i] [] = [] := by unfold tauRow; split <;> rfl
      rw [this, List.append_nil]
theorem par2 (hL : 1000001 < L) (k : List Step → Option R) (left right : List Step) (hl : left.length ≤ 1000000) (hr : right.length ≤ 1000000) :
    ∀ (n i : Nat) (out : List Step), i ≤ left.length → left.length - i < n → out.length + (left.length - i) * right.length ≤ lim →
      f151.l2 L N self (fun z31 => f151.p2_e5 L N self k z31) n (i : Int) out left right = k (out ++ (left.drop i).flatMap fun x => tauRow x right) := by
  intro n
  induction n with
  | zero => intro i out _ h; omega
  | succ n ih =>
    intro i out hi hn ho
    show f151.s2 L N self _ (f151.l2 L N self _ n) (i : Int) out left right = _
    unfold f151.s2 f151.s2'
    by_cases hlt : i < left.length
    · have hstep : (left.length - i) * right.length = (left.length - (i + 1)) * right.length + right.length := by
        rw [show left.length - i = (left.length - (i + 1)) + 1 by omega, Nat.add_mul, Nat.one_mul]
      rw [lt_cast hlt, cond_true]
      refine (par3 L N self _ left right hr i hlt L 0 out (by omega) (by omega) (by omega)).trans ?_
      show f151.l2 L N self _ n (wi ((i : Int) + 1)) (out ++ tauRow left[i] (right.drop 0)) left right = _
      have htl : (tauRow left[i] right).length ≤ right.length := by
        have h1 := tauRow_len left[i] right
        have h2 := len_vt right
        split at h1 <;> omega
      rw [List.drop_zero, wi_nat (by omega), ih (i + 1) _ (by omega) (by omega) (by rw [List.length_append]; omega), List.drop_eq_getElem_cons hlt, List.flatMap_cons, List.append_assoc]
    · rw [ge_cast hlt, cond_false, List.drop_eq_nil_of_le (by omega), List.flatMap_nil, List.append_nil]
      rfl
def nmS (x : Int) : Int := wi ((bif decide ((wi (0 - x)) > x) then (wi (0 - x)) else x) - 1)
def keepH' (x : Int) (s : Step) : Bool := s.act == 0 || nmS s.act != x
theorem hide4 (k : List Step → Option R) (o x : Int) (ps : List Tree) (st : List Step) (hl : st.length ≤ 1000000) :
    ∀ (n i : Nat) (out : List Step), i ≤ st.length → st.length - i < n → out.length + (st.length - i) ≤ lim →
      f151.l4 L N self (fun z59 => f151.p4_e9 L N self k z59) n (i : Int) o x ps out st = k (out ++ ((st.drop i).filter (keepH' x)).map fun s => ⟨s.act, .mk 4 x [s.thn]⟩) := by
  intro n
  induction n with
  | zero => intro i out _ h; omega
  | succ n ih =>
    intro i out hi hn ho
    show f151.s4 L N self _ (f151.l4 L N self _ n) (i : Int) o x ps out st = _
    unfold f151.s4 f151.s4'
    by_cases hlt : i < st.length
    · rw [List.drop_eq_getElem_cons hlt, List.filter_cons]
      have hnm : f163 L N (st[i]).act = some (nmS (st[i]).act) := rfl
      have hle : decide (out.length + ([Step.mk (st[i]).act (Tree.mk 4 x [(st[i]).thn])] : List Step).length ≤ lim) = true := dt (by simp only [List.length_cons, List.length_nil]; omega)
      simp only [lt_cast hlt, le0, Bool.and_true, cond_true, Int.toNat_natCast, at_lt hlt, hnm, Option.bind_some]
      have go : ∀ c : Bool, c = keepH' x st[i] → f151.j1' L N self (fun z59 => f151.p4_e9 L N self k z59) (f151.l4 L N self (fun z59 => f151.p4_e9 L N self k z59) n) (i : Int) c o x ps out st
          = k (out ++ (if keepH' x st[i] = true then st[i] :: (st.drop (i + 1)).filter (keepH' x) else (st.drop (i + 1)).filter (keepH' x)).map fun s => ⟨s.act, .mk 4 x [s.thn]⟩) := by
        intro c hc
        subst hc
        unfold f151.j1'
        cases hk : keepH' x st[i] with
        | true =>
          simp only [lt_cast hlt, le0, Bool.and_true, cond_true, Int.toNat_natCast, at_lt hlt, tree_eta, hle]
          rw [wi_nat (by omega), ih (i + 1) _ (by omega) (by omega) (by simp only [List.length_append, List.length_cons, List.length_nil]; omega), if_pos trivial, List.map_cons, List.append_assoc]
          rfl
        | false =>
          rw [cond_false, wi_nat (by omega), ih (i + 1) _ (by omega) (by omega) (by omega), if_neg (by simp)]
      cases h0 : ((st[i]).act == 0) with
      | true => rw [cond_true]; exact go true (by unfold keepH'; rw [h0]; rfl)
      | false => rw [cond_false]; exact go _ (by unfold keepH'; rw [h0]; rfl)
    · rw [ge_cast hlt, cond_false, List.drop_eq_nil_of_le (by omega), List.filter_nil, List.map_nil, List.append_nil]
      rfl
end
def SOk (n : Int) (u : Nat) (s : Step) : Prop := (-4 ≤ s.act ∧ s.act ≤ 4) ∧ ∃ k', WT s.thn k' ∧ k' ≤ u ∧ CL n false s.thn
def Res (n : Int) (u : Nat) (r : Option (List Step)) : Prop := ∃ st, r = some st ∧ (∀ s ∈ st, SOk n u s) ∧ visS st ≤ u ∧ tauS st ≤ u * u
theorem steps_gen (L N : Nat) (hL : 1000001 < L) (ds : List Tree) (c e : Nat) (hc : 1 ≤ c ∧ c ≤ 24) (Q : Tree → Prop)
    (hQ2 : ∀ a b, Q (.mk 2 0 [a, b]) → Q a ∧ Q b) (hQ3 : ∀ a b, Q (.mk 3 0 [a, b]) → Q a ∧ Q b) (hQ4 : ∀ x a, Q (.mk 4 x [a]) → Q a)
    (hcall : ∀ m x, 0 ≤ x → x < (ds.length : Int) → Q (.mk 5 x []) → e ≤ m → Res (ds.length : Int) c (f151 L N (m + 1) (.mk 5 x []) ds)) :
    ∀ (t : Tree) (k : Nat), WT t k → k ≤ 24 → CL (ds.length : Int) false t → Q t → ∀ m, k + e ≤ m → Res (ds.length : Int) (c * k) (f151 L N m t ds) := by
  have hlim := lim_eq
  have hck : ∀ k, k ≤ 24 → c * k ≤ 576 := fun k hk => Nat.le_trans (Nat.mul_le_mul hc.2 hk) (by omega)
  have hlen : ∀ (st : List Step) (u : Nat), u ≤ 576 → visS st ≤ u → tauS st ≤ u * u → st.length ≤ 332352 := fun st u hu h1 h2 => by
    have h3 := len_vt st
    have h4 : u * u ≤ 576 * 576 := Nat.mul_le_mul hu hu
    omega
  intro t k h
  induction h with
  | nil =>
    intro _ _ _ m hm
    obtain ⟨m, rfl⟩ : ∃ m', m = m' + 1 := ⟨m - 1, by omega⟩
    have e0 : f151 L N (m + 1) (.mk 0 0 []) ds = some ([] : List Step) := rfl
    exact ⟨([] : List Step), e0, (fun s hs => by cases hs), Nat.zero_le _, Nat.zero_le _⟩
  | call x hx =>
    intro _ hcl hq m hm
    obtain ⟨m, rfl⟩ : ∃ m', m = m' + 1 := ⟨m - 1, by omega⟩
    rw [Nat.mul_one]
    exact hcall m x hx.1 hcl.lt hq (by omega)
  | act n a k hn ha ih =>
    intro hk hcl hq m hm
    obtain ⟨m, rfl⟩ : ∃ m', m = m' + 1 := ⟨m - 1, by omega⟩
    refine ⟨[⟨n, a⟩], ?_, fun s hs => ?_, ?_, ?_⟩
    · show f151.b L N (f151 L N m) some (.mk 1 n [a]) ds = _
      unfold f151.b f151.b'
      rw [bif_y (by rfl), bif_y (by rfl), bif_y (by rfl)]
      show some ([] ++ [Step.mk n (Tree.mk a.op a.n a.parts)]) = _
      rw [tree_eta]
      rfl
    · rw [List.mem_singleton.1 hs]
      have h1 : 1 * k ≤ c * (k + 1) := Nat.mul_le_mul hc.1 (by omega)
      exact ⟨hn, k, ha, by omega, hcl.sub (by decide) a (.head _)⟩
    · have h1 : 1 * 1 ≤ c * (k + 1) := Nat.mul_le_mul hc.1 (by omega)
      have h2 := List.length_filter_le (fun s : Step => s.act != 0) [⟨n, a⟩]
      unfold visS
      simp only [List.length_cons, List.length_nil] at h2 ⊢
      omega
    · have h1 : 1 * 1 ≤ c * (k + 1) := Nat.mul_le_mul hc.1 (by omega)
      have h3 : 1 * 1 ≤ (c * (k + 1)) * (c * (k + 1)) := Nat.mul_le_mul (by omega) (by omega)
      have h2 := List.length_filter_le (fun s : Step => s.act == 0) [⟨n, a⟩]
      unfold tauS
      simp only [List.length_cons, List.length_nil] at h2 ⊢
      omega
  | sum a b i j ha hb iha ihb =>
    intro hk hcl hq m hm
    obtain ⟨m, rfl⟩ : ∃ m', m = m' + 1 := ⟨m - 1, by omega⟩
    obtain ⟨qa, qb⟩ := hQ2 a b hq
    have hs := hcl.sub (by decide)
    obtain ⟨sa, ea, pa, va, ta⟩ := iha (by omega) (hs a (.head _)) qa m (by omega)
    obtain ⟨sb, eb, pb, vb, tb⟩ := ihb (by omega) (hs b (.tail _ (.head _))) qb m (by omega)
    have hu : c * (i + j + 1) = c * i + c * j + c := by rw [Nat.mul_add, Nat.mul_add, Nat.mul_one]
    have hla := hlen sa _ (hck i (by omega)) va ta
    have hlb := hlen sb _ (hck j (by omega)) vb tb
    refine ⟨sa ++ sb, ?_, fun s hs' => ?_, ?_, ?_⟩
    · show f151.b L N (f151 L N m) some (.mk 2 0 [a, b]) ds = _
      unfold f151.b f151.b'
      rw [bif_n (by rfl), bif_y (by rfl), bif_y (by rfl)]
      show ((f151 L N m a ds).bind _) = _
      rw [ea, Option.bind_some, bif_y (by rfl)]
      show ((f151 L N m b ds).bind _) = _
      rw [eb, Option.bind_some, dt (show sa.length + sb.length ≤ lim by omega), cond_true]
    · rcases List.mem_append.1 hs' with h | h
      · obtain ⟨h1, k', h2, h3, h4⟩ := pa s h; exact ⟨h1, k', h2, by omega, h4⟩
      · obtain ⟨h1, k', h2, h3, h4⟩ := pb s h; exact ⟨h1, k', h2, by omega, h4⟩
    · rw [visS_app]; omega
    · rw [tauS_app]
      generalize c * i = u at *
      generalize c * j = v at *
      generalize c * (i + j + 1) = w at *
      have h1 : (u + v) * (u + v) ≤ w * w := Nat.mul_le_mul (by omega) (by omega)
      have h2 : (u + v) * (u + v) = u * u + v * v + 2 * (u * v) := by rw [Nat.add_mul, Nat.mul_add, Nat.mul_add, Nat.mul_comm v u]; omega
      omega
  | par a b i j ha hb iha ihb =>
    intro hk hcl hq m hm
    obtain ⟨m, rfl⟩ : ∃ m', m = m' + 1 := ⟨m - 1, by omega⟩
    obtain ⟨qa, qb⟩ := hQ3 a b hq
    have hs := hcl.sub (by decide)
    have cla := hs a (.head _)
    have clb := hs b (.tail _ (.head _))
    obtain ⟨sa, ea, pa, va, ta⟩ := iha (by omega) cla qa m (by omega)
    obtain ⟨sb, eb, pb, vb, tb⟩ := ihb (by omega) clb qb m (by omega)
    have hu : c * (i + j + 1) = c * i + c * j + c := by rw [Nat.mul_add, Nat.mul_add, Nat.mul_one]
    have hui : i ≤ c * i := by have := Nat.mul_le_mul_right i hc.1; omega
    have huj : j ≤ c * j := by have := Nat.mul_le_mul_right j hc.1; omega
    have hla := hlen sa _ (hck i (by omega)) va ta
    have hlb := hlen sb _ (hck j (by omega)) vb tb
    have hti := taus_len sb sa
    have htv := taus_vis sb sa
    have hmul : sa.length * sb.length ≤ 332352 * 332352 := Nat.mul_le_mul hla hlb
    have mkp : ∀ (p q : Tree) (i' j' : Nat), WT p i' → WT q j' → CL (ds.length : Int) false p → CL (ds.length : Int) false q → i' ≤ c * i → j' ≤ c * j → ∃ k', WT (.mk 3 0 [p, q]) k' ∧ k' ≤ c * (i + j + 1) ∧ CL (ds.length : Int) false (.mk 3 0 [p, q]) := fun p q i' j' h1 h2 h3 h4 h5 h6 =>
      ⟨i' + j' + 1, .par p q i' j' h1 h2, by omega, .node false 3 0 [p, q] (by decide) fun x hx => by
        rcases List.mem_cons.1 hx with rfl | hx
        · exact h3
        · rw [List.mem_singleton.1 hx]; exact h4⟩
    refine ⟨(sa.map (leftS b) ++ sb.map (rightS a)) ++ sa.flatMap fun x => tauRow x sb, ?_, fun s hs' => ?_, ?_, ?_⟩
    · show f151.b L N (f151 L N m) some (.mk 3 0 [a, b]) ds = _
      unfold f151.b f151.b'
      rw [bif_n (by rfl), bif_n (by rfl), bif_y (by rfl), bif_y (by rfl)]
      show ((f151 L N m a ds).bind _) = _
      rw [ea, Option.bind_some, bif_y (by rfl)]
      show ((f151 L N m b ds).bind _) = _
      rw [eb, Option.bind_some]
      refine (par0 L N (f151 L N m) _ 3 0 a b sa sb (by omega) L 0 [] (by omega) (by omega) (by simp only [List.length_nil]; omega)).trans ?_
      refine (par1 L N (f151 L N m) _ 3 0 a b sa sb (by omega) L 0 _ (by omega) (by omega) (by simp only [List.length_append, List.length_map, List.length_nil, List.length_drop]; omega)).trans ?_
      refine (par2 L N (f151 L N m) hL some sa sb (by omega) (by omega) L 0 _ (by omega) (by omega) (by simp only [List.length_append, List.length_map, List.length_nil, List.length_drop, Nat.sub_zero]; omega)).trans ?_
      simp only [List.drop_zero, List.nil_append]
    · rcases List.mem_append.1 hs' with h | h
      · rcases List.mem_append.1 h with h | h
        · obtain ⟨y, hy, rfl⟩ := List.mem_map.1 h
          obtain ⟨h1, k', h2, h3, h4⟩ := pa y hy
          exact ⟨h1, mkp y.thn b k' j h2 hb h4 clb h3 huj⟩
        · obtain ⟨y, hy, rfl⟩ := List.mem_map.1 h
          obtain ⟨h1, k', h2, h3, h4⟩ := pb y hy
          exact ⟨h1, mkp a y.thn i k' ha h2 cla h4 hui h3⟩
      · obtain ⟨x, hx, h⟩ := List.mem_flatMap.1 h
        unfold tauRow at h
        split at h
        · obtain ⟨y, hy, rfl⟩ := List.mem_map.1 h
          obtain ⟨-, k1, h2, h3, h4⟩ := pa x hx
          obtain ⟨-, k2, g2, g3, g4⟩ := pb y (List.mem_filter.1 hy).1
          exact ⟨(show -4 ≤ (0 : Int) ∧ (0 : Int) ≤ 4 by omega), mkp x.thn y.thn k1 k2 h2 g2 h4 g4 h3 g3⟩
        · cases h
    · rw [visS_app, visS_app, htv, visS_map (f := leftS b) (fun _ => rfl), visS_map (f := rightS a) (fun _ => rfl)]; omega
    · have ht3 : tauS (sa.flatMap fun x => tauRow x sb) ≤ visS sa * visS sb := by
        have := len_vt (sa.flatMap fun x => tauRow x sb); omega
      have hvv : visS sa * visS sb ≤ (c * i) * (c * j) := Nat.mul_le_mul va vb
      rw [tauS_app, tauS_app, tauS_map (f := leftS b) (fun _ => rfl), tauS_map (f := rightS a) (fun _ => rfl)]
      generalize c * i = u at *
      generalize c * j = v at *
      generalize c * (i + j + 1) = w at *
      have h1 : (u + v) * (u + v) ≤ w * w := Nat.mul_le_mul (by omega) (by omega)
      have h2 : (u + v) * (u + v) = u * u + v * v + 2 * (u * v) := by rw [Nat.add_mul, Nat.mul_add, Nat.mul_add, Nat.mul_comm v u]; omega
      omega
  | hide x a k hx ha ih =>
    intro hk hcl hq m hm
    obtain ⟨m, rfl⟩ : ∃ m', m = m' + 1 := ⟨m - 1, by omega⟩
    have hs := hcl.sub (by decide)
    obtain ⟨sa, ea, pa, va, ta⟩ := ih (by omega) (hs a (.head _)) (hQ4 x a hq) m (by omega)
    have hu : c * (k + 1) = c * k + c := by rw [Nat.mul_add, Nat.mul_one]
    have hla := hlen sa _ (hck k (by omega)) va ta
    refine ⟨(sa.filter (keepH' x)).map fun s => ⟨s.act, .mk 4 x [s.thn]⟩, ?_, fun s hs' => ?_, ?_, ?_⟩
    · show f151.b L N (f151 L N m) some (.mk 4 x [a]) ds = _
      unfold f151.b f151.b'
      rw [bif_n (by rfl), bif_n (by rfl), bif_n (by rfl), bif_y (by rfl), bif_y (by rfl)]
      show ((f151 L N m a ds).bind _) = _
      rw [ea, Option.bind_some]
      refine (hide4 L N (f151 L N m) some 4 x [a] sa (by omega) L 0 [] (by omega) (by omega) (by simp only [List.length_nil]; omega)).trans ?_
      simp only [List.drop_zero, List.nil_append]
    · obtain ⟨y, hy, rfl⟩ := List.mem_map.1 hs'
      obtain ⟨h1, k', h2, h3, h4⟩ := pa y (List.mem_filter.1 hy).1
      exact ⟨h1, k' + 1, .hide x y.thn k' hx h2, by omega, .node false 4 x [y.thn] (by decide) fun p hp => by rw [List.mem_singleton.1 hp]; exact h4⟩
    · rw [visS_map (f := fun s => ⟨s.act, .mk 4 x [s.thn]⟩) (fun _ => rfl)]
      have := visS_sub (p := keepH' x) sa
      omega
    · rw [tauS_map (f := fun s => ⟨s.act, .mk 4 x [s.thn]⟩) (fun _ => rfl)]
      have := tauS_sub (p := keepH' x) sa
      have h3 : (c * k) * (c * k) ≤ (c * (k + 1)) * (c * (k + 1)) := Nat.mul_le_mul (by omega) (by omega)
      omega
theorem steps_ok (L N : Nat) (hL : 1000001 < L) (ds : List Tree) (hd : DefsW ds) (t : Tree) (k : Nat) (h : WT t k) (hk : k ≤ 24) (hcl : CL (ds.length : Int) false t) (m : Nat) (hm : 60 ≤ m) :
    Res (ds.length : Int) 576 (f151 L N m t ds) := by
  have guarded : ∀ (t : Tree) (k : Nat), WT t k → k ≤ 24 → CL (ds.length : Int) false t → CL 0 true t → ∀ m, k + 0 ≤ m → Res (ds.length : Int) (1 * k) (f151 L N m t ds) :=
    steps_gen L N hL ds 1 0 ⟨by omega, by omega⟩ (fun t => CL 0 true t)
      (fun a b h => ⟨h.sub2 (by decide) (by decide) a (.head _), h.sub2 (by decide) (by decide) b (.tail _ (.head _))⟩)
      (fun a b h => ⟨h.sub2 (by decide) (by decide) a (.head _), h.sub2 (by decide) (by decide) b (.tail _ (.head _))⟩)
      (fun x a h => h.sub2 (by decide) (by decide) a (.head _))
      (fun m x h0 h1 hq _ => by have := hq.lt; omega)
  have all := steps_gen L N hL ds 24 25 ⟨by omega, by omega⟩ (fun _ => True) (fun _ _ _ => ⟨trivial, trivial⟩) (fun _ _ _ => ⟨trivial, trivial⟩) (fun _ _ _ => trivial)
      (fun m x h0 h1 _ hm => by
        obtain ⟨i, rfl⟩ := Int.eq_ofNat_of_zero_le h0
        have hi : i < ds.length := by omega
        obtain ⟨kd, k1, k2, k3, k4⟩ := hd.2 ds[i] (List.getElem_mem hi)
        obtain ⟨st, e, p, v, tt⟩ := guarded ds[i] kd k2 k1 k3 k4 m (by omega)
        refine ⟨st, ?_, fun s hs => ?_, by omega, ?_⟩
        · show f151.b L N (f151 L N m) some (.mk 5 (i : Int) []) ds = _
          unfold f151.b f151.b'
          rw [bif_n (by rfl), bif_n (by rfl), bif_n (by rfl), bif_n (by rfl), bif_y (by rfl)]
          show (bif decide ((0 : Int) ≤ (i : Int)) && decide ((i : Int) < (ds.length : Int)) then ((f151 L N m (listAt ds (Ty.dflt (.st 1)) (i : Int).toNat) ds).bind _) else none) = _
          simp only [le0, lt_cast hi, Bool.and_true, cond_true, Int.toNat_natCast, at_lt hi, e, Option.bind_some]
        · obtain ⟨h1, k', h2, h3, h4⟩ := p s hs
          exact ⟨h1, k', h2, by omega, h4⟩
        · have : (1 * kd) * (1 * kd) ≤ 24 * 24 := Nat.mul_le_mul (by omega) (by omega)
          omega)
  obtain ⟨st, e, p, v, tt⟩ := all t k h hk hcl trivial m (by omega)
  have hb : 24 * k ≤ 576 := by omega
  refine ⟨st, e, fun s hs => ?_, by omega, ?_⟩
  · obtain ⟨h1, k', h2, h3, h4⟩ := p s hs
    exact ⟨h1, k', h2, by omega, h4⟩
  · have : (24 * k) * (24 * k) ≤ 576 * 576 := Nat.mul_le_mul hb hb
    omega
end Go.Proofs.Ytdfjdbpklbehoaa.Ev
namespace Go.Proofs.Ytdfjdbpklbehoaa.Ev
open Go
set_option linter.unusedVariables false
set_option linter.unusedSimpArgs false
def Fwd (r : List Move) : Prop := ∀ m ∈ r, 0 ≤ m.to
def SlimR (r : List Move) : Prop := r.length ≤ 540 ∧ Fwd r
def Slim (g : Graph) : Prop := g.moves.length ≤ 60 ∧ ∀ r ∈ g.moves, SlimR r
theorem Slim.size {g : Graph} (h : Slim g) : g.moves.length + gsize g.moves ≤ 1048576 := by
  have := gsize_le fun r hr => (h.2 r hr).1
  have := h.1
  omega
def Mv60 (row : List Move) : Prop := ∀ m ∈ row, -4 ≤ m.act ∧ m.act ≤ 4 ∧ 0 ≤ m.to ∧ m.to < 60
theorem sorted_slim (L N : Nat) {row : List Move} (hl : row.length ≤ 1000000) (hm : Mv60 row) (hL : 1000002 < L) : ∃ ys, f123 L N row = some ys ∧ SlimR ys := by
  obtain ⟨ys, e, h1, h2, -⟩ := l3Sorted_ok L N row (by omega) (by omega)
  exact ⟨ys, e, risesM_len h1 fun m hmm => hm m ((h2 m).1 hmm), fun m hmm => (hm m ((h2 m).1 hmm)).2.2.1⟩
def FinG (r : Option (Graph × Bool)) : Prop := ∃ g ok, r = some (g, ok) ∧ Slim g
def InvT (n : Int) (terms : List Tree) (keys : List ByteArray) : Prop := terms.length = keys.length ∧ terms.length ≤ 60 ∧ ∀ t ∈ terms, ∃ k, k ≤ 24 ∧ WT t k ∧ CL n false t
theorem search2 {R : Type} (L N : Nat) (K : List Tree → Int → Int → ByteArray → Int → List Tree → List ByteArray → List Step → List Move → List (List Move) → Option R) (ds : List Tree) (i j : Int) (key : ByteArray) (terms : List Tree) (keys : List ByteArray) (st : List Step) (row : List Move) (rows : List (List Move)) (hk : keys.length ≤ 60) :
    ∀ (n q : Nat), q ≤ keys.length → keys.length - q < n → ∃ q' : Nat, q' ≤ keys.length ∧ f133.l2 L N K n ds i j key (q : Int) terms keys st row rows = K ds i j key (q' : Int) terms keys st row rows := by
  intro n
  induction n with
  | zero => intro q _ h; omega
  | succ n ih =>
    intro q hq hn
    show ∃ q' : Nat, _ ∧ f133.s2 L N _ (f133.l2 L N _ n) ds i j key (q : Int) terms keys st row rows = _
    unfold f133.s2 f133.s2'
    by_cases hlt : q < keys.length
    · simp only [lt_cast hlt, le0, Bool.and_true, cond_true, Int.toNat_natCast]
      cases hc : (!((listAt keys ByteArray.empty q).toList == key.toList)) with
      | true => rw [cond_true, wi_nat (by omega)]; exact ih (q + 1) (by omega) (by omega)
      | false => rw [cond_false]; exact ⟨q, hq, rfl⟩
    · rw [ge_cast hlt, cond_false]; exact ⟨q, hq, rfl⟩
theorem inner1 (L N : Nat) (hN : 1000 ≤ N) (hL : 1000002 < L) (ds : List Tree) (nn : Int) (i : Int) (st : List Step) (rows : List (List Move))
    (Ke : List Tree → Int → List Tree → List ByteArray → List Move → List (List Move) → Option (Graph × Bool)) (Kr : List Tree → Bool → Int → List Tree → List ByteArray → List Move → List (List Move) → Option (Graph × Bool))
    (hst : ∀ s ∈ st, SOk nn 576 s) (hsl : st.length ≤ 400000)
    (hKe : ∀ terms keys row, InvT nn terms keys → row.length ≤ 400000 → Mv60 row → FinG (Ke ds i terms keys row rows)) (hKr : ∀ terms keys row, FinG (Kr ds false i terms keys row rows)) :
    ∀ (n j : Nat) (terms : List Tree) (keys : List ByteArray) (row : List Move), j ≤ st.length → st.length - j < n → InvT nn terms keys → row.length ≤ j → Mv60 row →
      FinG (f133.l1 L N Ke Kr n ds i (j : Int) terms keys st row rows) := by
  have hlim := lim_eq
  intro n
  induction n with
  | zero => intro j terms keys row _ h; omega
  | succ n ih =>
    intro j terms keys row hj hn hI hrl hrow
    obtain ⟨hk1, hk2, hk3⟩ := id hI
    show FinG (f133.s1 L N _ _ (f133.l1 L N _ _ n) ds i (j : Int) terms keys st row rows)
    unfold f133.s1 f133.s1'
    by_cases hlt : j < st.length
    · obtain ⟨hact, k', hw, hk', hcl⟩ := hst st[j] (List.getElem_mem hlt)
      have hnd := hw.nodes_eq
      obtain ⟨key, e, hks⟩ := l2Text_ok L N (by omega) (by omega) (st[j]).thn k' hw (by omega) N (by omega)
      simp only [lt_cast hlt, le0, Bool.and_true, cond_true, Int.toNat_natCast, at_lt hlt, tree_eta, e, Option.bind_some]
      obtain ⟨q, hq, e2⟩ := search2 L N (fun z44 z45 z46 z47 z48 z49 z50 z51 z52 z53 => f133.p2_e4 L N Ke Kr (f133.l1 L N Ke Kr n) z44 z45 z46 z47 z48 z49 z50 z51 z52 z53) ds i (j : Int) key terms keys st row rows (by omega) L 0 (by omega) (by omega)
      refine (fun h => by rw [show f133.l2 L N (fun z44 z45 z46 z47 z48 z49 z50 z51 z52 z53 => f133.p2_e4 L N Ke Kr (f133.l1 L N Ke Kr n) z44 z45 z46 z47 z48 z49 z50 z51 z52 z53) L ds i (j : Int) key (0 : Int) terms keys st row rows = _ from e2]; exact h : FinG (f133.p2_e4' L N Ke Kr (f133.l1 L N Ke Kr n) ds i (j : Int) key (q : Int) terms keys st row rows) → _) ?_
    
      have put : ∀ (terms' : List Tree) (keys' : List ByteArray), InvT nn terms' keys' → q < 60 → FinG (f133.j1' L N Ke Kr (f133.l1 L N Ke Kr n) ds i (j : Int) (q : Int) terms' keys' st row rows) := by
        intro terms' keys' hI' hq60
        unfold f133.j1'
        have hle : decide (row.length + ([Move.mk (st[j]).act (q : Int)] : List Move).length ≤ lim) = true := dt (by simp only [List.length_cons, List.length_nil]; omega)
        simp only [lt_cast hlt, le0, Bool.and_true, cond_true, Int.toNat_natCast, at_lt hlt, hle]
        rw [wi_nat (by omega)]
        refine ih (j + 1) terms' keys' _ (by omega) (by omega) hI' (by simp only [List.length_append, List.length_cons, List.length_nil]; omega) fun m hm => ?_
        rcases List.mem_append.1 hm with h | h
        · exact hrow m h
        · rw [List.mem_singleton.1 h]; exact ⟨hact.1, hact.2, by show (0 : Int) ≤ (q : Int); omega, by show (q : Int) < 60; omega⟩
      unfold f133.p2_e4'
      by_cases hqe : q = keys.length
      · rw [show ((q : Int) == (keys.length : Int)) = true by rw [hqe]; simp, cond_true]
        by_cases h60 : q = 60
        · rw [show ((q : Int) == 60) = true by rw [h60]; rfl, cond_true]
          exact hKr terms keys row
        · rw [show ((q : Int) == 60) = false by simp; omega, cond_false]
          obtain ⟨r, f, r0, r1, hr⟩ := l2Nodes_ok L N N (st[j]).thn (by omega) (by omega)
          simp only [lt_cast hlt, le0, Bool.and_true, cond_true, Int.toNat_natCast, at_lt hlt, tree_eta, f, Option.bind_some]
          by_cases h24 : r > 24
          · rw [dt h24, cond_true]; exact hKr terms keys row
          · rw [df h24, cond_false]
            unfold f133.j0'
            have hle1 : decide (terms.length + ([(st[j]).thn] : List Tree).length ≤ lim) = true := dt (by simp only [List.length_cons, List.length_nil]; omega)
            have hle2 : decide (keys.length + ([key] : List ByteArray).length ≤ lim) = true := dt (by simp only [List.length_cons, List.length_nil]; omega)
            simp only [lt_cast hlt, le0, Bool.and_true, cond_true, Int.toNat_natCast, at_lt hlt, tree_eta, hle1, hle2]
            have hk24 : k' ≤ 24 := by
              have h1 := l2Nodes_wt L N (by omega) (st[j]).thn k' hw (by omega) N (by omega)
              rw [f] at h1
              have h1 := Option.some.inj h1
              omega
            refine put _ _ ⟨by simp [hk1], by simp; omega, fun t ht => ?_⟩ (by omega)
            rcases List.mem_append.1 ht with h | h
            · exact hk3 t h
            · rw [List.mem_singleton.1 h]; exact ⟨k', hk24, hw, hcl⟩
      · rw [show ((q : Int) == (keys.length : Int)) = false by simp; omega, cond_false]
        exact put terms keys hI (by omega)
    · rw [ge_cast hlt, cond_false]
      exact hKe terms keys row hI (by omega) hrow
theorem l3Graph_ok (L N : Nat) (hN : 1000 ≤ N) (hL : 1000002 < L) (ds : List Tree) (hd : DefsW ds) (t : Tree) (k : Nat) (hk : k ≤ 24) (hw : WT t k) (hcl : CL (ds.length : Int) false t) : FinG (f133 L N t ds) := by
  have hlim := lim_eq
  obtain ⟨key, e, hks⟩ := l2Text_ok L N (by omega) (by omega) t k hw (by omega) N (by omega)
  show FinG (f133.b L N (fun a0 a1 => some (a0, a1)) t ds)
  unfold f133.b f133.b'
  simp only [tree_eta, e, Option.bind_some]
  have key0 : ∀ (n i : Nat) (terms : List Tree) (keys : List ByteArray) (rows : List (List Move)), i ≤ terms.length → 60 - i < n → InvT (ds.length : Int) terms keys → rows.length = i → (∀ r ∈ rows, SlimR r) →
      FinG (f133.l0 L N (fun z6 => f133.p0_e0 L N (fun a0 a1 => some (a0, a1)) z6) (fun z102 z103 => f133.p0_r L N (fun a0 a1 => some (a0, a1)) z102 z103) n ds (i : Int) terms keys rows) := by
    intro n
    induction n with
    | zero => intro i terms keys rows hi h hI; omega
    | succ n ih =>
      intro i terms keys rows hi hn hI hrl hrr
      obtain ⟨hk1, hk2, hk3⟩ := id hI
      show FinG (f133.s0 L N _ _ (f133.l0 L N _ _ n) ds (i : Int) terms keys rows)
      unfold f133.s0 f133.s0'
      by_cases hlt : i < terms.length
      · obtain ⟨k', hk', hw', hcl'⟩ := hk3 terms[i] (List.getElem_mem hlt)
        obtain ⟨st, f, hs, hv, ht⟩ := steps_ok L N (by omega) ds hd terms[i] k' hw' hk' hcl' N (by omega)
        have hsl := len_vt st
        simp only [lt_cast hlt, le0, Bool.and_true, cond_true, Int.toNat_natCast, at_lt hlt, f, Option.bind_some]
        refine inner1 L N hN hL ds (ds.length : Int) (i : Int) st rows _ _ hs (by omega) (fun terms' keys' row hI' hrow' hmv => ?_) (fun terms' keys' row => ?_) L 0 terms keys [] (by omega) (by omega) hI (by simp) (fun m hm => by cases hm)
        · show FinG (f133.p1_e2' L N _ _ _ ds (i : Int) terms' keys' row rows)
          unfold f133.p1_e2'
          obtain ⟨ys, g, hys⟩ := sorted_slim L N (by omega) hmv hL
          have hle : decide (rows.length + ([ys] : List (List Move)).length ≤ lim) = true := dt (by simp only [List.length_cons, List.length_nil]; omega)
          rw [g, Option.bind_some, hle, cond_true, wi_nat (by omega)]
          by_cases hgt : i + 1 ≤ terms'.length
          · refine ih (i + 1) terms' keys' _ hgt (by omega) hI' (by simp [hrl]) fun r hr => ?_
            rcases List.mem_append.1 hr with h | h
            · exact hrr r h
            · rw [List.mem_singleton.1 h]; exact hys
          · -- no terms are left: the loop ends at once
            obtain ⟨n', rfl⟩ : ∃ n', n = n' + 1 := ⟨n - 1, by omega⟩
            show FinG (f133.s0 L N _ _ (f133.l0 L N _ _ n') ds ((i + 1 : Nat) : Int) terms' keys' _)
            unfold f133.s0 f133.s0'
            rw [ge_cast (by omega), cond_false]
            refine ⟨_, _, rfl, by simp [hrl]; omega, fun r hr => ?_⟩
            rcases List.mem_append.1 hr with h | h
            · exact hrr r h
            · rw [List.mem_singleton.1 h]; exact hys
        · exact ⟨⟨[]⟩, false, rfl, by simp, fun r hr => by cases hr⟩
      · rw [ge_cast hlt, cond_false]
        exact ⟨⟨rows⟩, true, rfl, by show rows.length ≤ 60; omega, hrr⟩
  exact key0 L 0 [t] [key] [] (by simp) (by omega) ⟨rfl, by simp, fun x hx => by rw [List.mem_singleton.1 hx]; exact ⟨k, hk, hw, hcl⟩⟩ rfl (fun r hr => by cases hr)
theorem graphOf_ok (L N : Nat) (hN : 1000 ≤ N) (hL : 1000002 < L) (t : Tree) (ds : List Tree) (ht : nodes t ≤ 1000) (hd : ∀ d ∈ ds, nodes d ≤ 1000) (hdl : ds.length ≤ 1000) : FinG (f104 L N t ds) := by
  obtain ⟨r1, e1, h1⟩ := defsOk_ok L N ds hd hdl hN (by omega)
  obtain ⟨r2, e2, h2⟩ := fits_ok L N t (ds.length : Int) ht hN (by omega)
  have hask : f132 L N t ds = some (r1 && r2) := by
    show f132.b' L N some t ds = _
    unfold f132.b'
    rw [e1, Option.bind_some, tree_eta]
    cases r1 with
    | true => rw [cond_true, e2, Option.bind_some, Bool.true_and]
    | false => rfl
  show FinG (f104.b' L N (fun a0 a1 => some (a0, a1)) t ds)
  unfold f104.b'
  rw [tree_eta, hask, Option.bind_some]
  cases hr : (r1 && r2) with
  | false => rw [Bool.not_false, cond_true]; exact ⟨⟨[]⟩, false, rfl, by simp, fun r hr => by cases hr⟩
  | true =>
    rw [Bool.and_eq_true] at hr
    obtain ⟨k, hk, hw, -, hcl⟩ := h2 hr.2
    obtain ⟨g, ok, e, hg⟩ := l3Graph_ok L N hN hL ds (h1 hr.1) t k hk hw hcl
    rw [Bool.not_true, cond_false, e, Option.bind_some]
    exact ⟨_, _, rfl, hg⟩
theorem wild_draw (L N : Nat) (hL : 1000002 < L) {c : List Int} (hb : BOk c) {p : Int} (p0 : 0 ≤ p) (pb : p ≤ 1000000000) :
    ∃ g p', f105 L N c p (6 : Int) = some (g, c, p') ∧ p ≤ p' ∧ p' ≤ p + 1000 ∧ Slim g := by
  have hlim := lim_eq
  show ∃ g p', f105.b L N (fun a0 a1 a2 => some (a0, a1, a2)) c p (6 : Int) = _ ∧ _
  unfold f105.b f105.b'
  obtain ⟨r, hr, r0, r1⟩ := pick_ok L N hb (p := p) (n := 6) p0 (by omega) (by omega)
  obtain ⟨u, hu, u0, u1⟩ := pick_ok L N hb (p := p + 1) (n := 2) (by omega) (by omega) (by omega)
  rw [hr]
  simp only [Option.bind_some, hu]
  obtain ⟨k, rfl⟩ := Int.eq_ofNat_of_zero_le r0
  have hw : wi (1 + (k : Int)) = ((k + 1 : Nat) : Int) := by rw [wi_id (by omega) (by omega)]; omega
  rw [hw]
  generalize (u == 0) = bb
  generalize hnn : k + 1 = nn
  have hnn6 : 1 ≤ nn ∧ nn ≤ 6 := by omega
  have fin : ∀ (q : Int) (s7 rows : List (List Move)), p ≤ q → q ≤ p + 900 → rows.length = nn → (∀ r ∈ rows, r.length ≤ 3 ∧ Fwd r) →
      ∃ g p', f105.p0_e0' L N (fun a0 a1 a2 => some (a0, a1, a2)) (nn : Int) c q s7 rows = some (g, c, p') ∧ p ≤ p' ∧ p' ≤ p + 1000 ∧ Slim g := by
    intro q s7 rows q0 q1 hl hrr
    unfold f105.p0_e0'
    obtain ⟨v, hv, v0, v1⟩ := pick_ok L N hb (p := q) (n := 30) (by omega) (by omega) (by omega)
    rw [hv]
    simp only [Option.bind_some]
    have h0 : 0 < rows.length := by omega
    have g0 : (decide ((0 : Int) ≤ 0) && decide ((0 : Int) < (rows.length : Int))) = true := by rw [dt (show (0 : Int) < (rows.length : Int) by omega)]; rfl
    have hl0 : listAt rows [] (0 : Int).toNat = rows[0] := at_lt h0
    obtain ⟨hr0, hf0⟩ := hrr rows[0] (List.getElem_mem h0)
    have put : ∀ m : Move, 0 ≤ m.to → Slim ⟨rows.set ((0 : Int).toNat) (rows[0] ++ [m])⟩ := fun m hm0 => by
      refine ⟨by show (rows.set _ _).length ≤ 60; rw [List.length_set]; omega, fun r hr => ?_⟩
      rcases List.mem_or_eq_of_mem_set hr with h | h
      · obtain ⟨a1, a2⟩ := hrr r h; exact ⟨by omega, a2⟩
      · rw [h]
        refine ⟨by rw [List.length_append, List.length_cons, List.length_nil]; omega, fun x hx => ?_⟩
        rcases List.mem_append.1 hx with hx | hx
        · exact hf0 x hx
        · rw [List.mem_singleton.1 hx]; exact hm0
    by_cases e0 : v = 0
    · have hle : decide ((rows[0]).length + ([Move.mk (9 : Int) (0 : Int)] : List Move).length ≤ lim) = true := dt (by simp only [List.length_cons, List.length_nil]; omega)
      rw [show (v == 0) = true by simpa using e0, cond_true, g0, cond_true, hl0, hle, cond_true, cond_true]
      exact ⟨_, _, rfl, by omega, by omega, put _ (by show (0 : Int) ≤ 0; omega)⟩
    · rw [show (v == 0) = false by simpa using e0, cond_false]
      by_cases e1 : v = 1
      · have hle : decide ((rows[0]).length + ([Move.mk (0 : Int) (nn : Int)] : List Move).length ≤ lim) = true := dt (by simp only [List.length_cons, List.length_nil]; omega)
        rw [show (v == 1) = true by simpa using e1, cond_true, g0, cond_true, hl0, hle, cond_true, cond_true]
        exact ⟨_, _, rfl, by omega, by omega, put _ (by show (0 : Int) ≤ (nn : Int); omega)⟩
      · rw [show (v == 1) = false by simpa using e1, cond_false]
        by_cases e2 : v = 2
        · rw [show (v == 2) = true by simpa using e2, cond_true]
          exact ⟨_, _, rfl, by omega, by omega, by simp, fun r hr => by cases hr⟩
        · rw [show (v == 2) = false by simpa using e2, cond_false]
          exact ⟨_, _, rfl, by omega, by omega, by show rows.length ≤ 60; omega, fun r hr => ⟨by have := (hrr r hr).1; omega, (hrr r hr).2⟩⟩
  have row1 : ∀ (K : Int → Bool → Int → List Int → Int → List Move → List (List Move) → List (List Move) → Option (Graph × List Int × Int)) (i : Int) (s22 rows : List (List Move)) (m : Nat) (j : Nat) (q : Int) (row : List Move), j < m → j ≤ 3 → row.length + j ≤ 3 → Fwd row → p ≤ q → q ≤ p + 900 - 5 * (j : Int) →
      ∃ q' row', q ≤ q' ∧ q' ≤ q + 5 * (j : Int) ∧ (row'.length ≤ 3 ∧ Fwd row') ∧ f105.l1 L N K m (nn : Int) bb i (j : Int) c q row s22 rows = K (nn : Int) bb i c q' row' s22 rows := by
    intro K i s22 rows m
    induction m with
    | zero => intro j q row h; omega
    | succ m ih =>
      intro j q row hj hj3 hrl hfw q0 q1
      show ∃ q' row', _ ∧ _ ∧ _ ∧ f105.s1 L N _ (f105.l1 L N _ m) (nn : Int) bb i (j : Int) c q row s22 rows = _
      unfold f105.s1 f105.s1'
      by_cases hj0 : j = 0
      · subst hj0
        rw [show decide (((0 : Nat) : Int) > 0) = false from rfl, cond_false]
        exact ⟨q, row, by omega, by omega, ⟨by omega, hfw⟩, rfl⟩
      · obtain ⟨j', rfl⟩ : ∃ j', j = j' + 1 := ⟨j - 1, by omega⟩
        have hwj : wi (((j' + 1 : Nat) : Int) - 1) = (j' : Int) := by rw [wi_id (by omega) (by omega)]; omega
        have put : ∀ (act z : Int), q ≤ z → z ≤ q + 4 → ∃ q' row', q ≤ q' ∧ q' ≤ q + 5 * ((j' + 1 : Nat) : Int) ∧ (row'.length ≤ 3 ∧ Fwd row') ∧ f105.j0' L N K (f105.l1 L N K m) (nn : Int) bb i ((j' + 1 : Nat) : Int) act c z row s22 rows = K (nn : Int) bb i c q' row' s22 rows := by
          intro act z z0 z1
          unfold f105.j0'
          obtain ⟨v, hv, v0, v1⟩ := pick_ok L N hb (p := z) (n := (nn : Int)) (by omega) (by omega) (by omega)
          have hle : decide (row.length + ([Move.mk act v] : List Move).length ≤ lim) = true := dt (by simp only [List.length_cons, List.length_nil]; omega)
          simp only [hv, Option.bind_some, hle, cond_true, hwj]
          obtain ⟨q', row', a1, a2, a3, a4⟩ := ih j' (z + 1) (row ++ [Move.mk act v]) (by omega) (by omega) (by simp only [List.length_append, List.length_cons, List.length_nil]; omega) (fun x hx => by
            rcases List.mem_append.1 hx with hx | hx
            · exact hfw x hx
            · rw [List.mem_singleton.1 hx]; exact v0) (by omega) (by omega)
          exact ⟨q', row', by omega, by omega, a3, a4⟩
        obtain ⟨v, hv, v0, v1⟩ := pick_ok L N hb (p := q) (n := 3) (by omega) (by omega) (by omega)
        rw [dt (show ((j' + 1 : Nat) : Int) > 0 by omega), cond_true, hv]
        simp only [Option.bind_some]
        cases bb with
        | true => exact put _ _ (by omega) (by omega)
        | false =>
          obtain ⟨w, hw', w0, w1⟩ := do_ok L N hb (p := q + 1) (by omega) (by omega)
          rw [Bool.not_false, cond_true, hw']
          simp only [Option.bind_some]
          exact put _ _ (by omega) (by omega)
  have key : ∀ (n i : Nat) (q : Int) (s7 rows : List (List Move)), i ≤ nn → nn - i < n → rows.length = i → (∀ r ∈ rows, r.length ≤ 3 ∧ Fwd r) → p ≤ q → q ≤ p + 10 + 20 * (i : Int) →
      ∃ g p', f105.l0 L N (fun z9 z10 z11 z12 z13 => f105.p0_e0 L N (fun a0 a1 a2 => some (a0, a1, a2)) z9 z10 z11 z12 z13) n (nn : Int) bb (i : Int) c q s7 rows = some (g, c, p') ∧ p ≤ p' ∧ p' ≤ p + 1000 ∧ Slim g := by
    intro n
    induction n with
    | zero => intro i q s7 rows _ h; omega
    | succ n ih =>
      intro i q s7 rows hi hn hl hrr q0 q1
      show ∃ g p', f105.s0 L N _ (f105.l0 L N _ n) (nn : Int) bb (i : Int) c q s7 rows = _ ∧ _
      unfold f105.s0 f105.s0'
      by_cases hlt : i < nn
      · obtain ⟨v, hv, v0, v1⟩ := pick_ok L N hb (p := q) (n := 4) (by omega) (by omega) (by omega)
        obtain ⟨j, rfl⟩ := Int.eq_ofNat_of_zero_le v0
        rw [lt_cast hlt, cond_true, hv]
        simp only [Option.bind_some]
        obtain ⟨q', row', a1, a2, a3, a4⟩ := row1 (fun z24 z25 z26 z27 z28 z29 z30 z31 => f105.p1_e2 L N (fun z9 z10 z11 z12 z13 => f105.p0_e0 L N (fun a0 a1 a2 => some (a0, a1, a2)) z9 z10 z11 z12 z13) (f105.l0 L N (fun z9 z10 z11 z12 z13 => f105.p0_e0 L N (fun a0 a1 a2 => some (a0, a1, a2)) z9 z10 z11 z12 z13) n) z24 z25 z26 z27 z28 z29 z30 z31) (i : Int) s7 rows L j (q + 1) [] (by omega) (by omega) (by simp; omega) (fun x hx => by cases hx) (by omega) (by omega)
        rw [a4]
        show ∃ g p', f105.p1_e2' L N _ _ (nn : Int) bb (i : Int) c q' row' s7 rows = _ ∧ _
        unfold f105.p1_e2'
        obtain ⟨a3, a3'⟩ := a3
        obtain ⟨ys, e, h1, h2, h3⟩ := l3Sorted_ok L N row' (by omega) (by omega)
        have hle : decide (rows.length + ([ys] : List (List Move)).length ≤ lim) = true := dt (by simp only [List.length_cons, List.length_nil]; omega)
        rw [e, Option.bind_some, hle, cond_true, wi_nat (by omega)]
        refine ih (i + 1) q' s7 _ (by omega) (by omega) (by simp [hl]) (fun r hr => ?_) (by omega) (by omega)
        rcases List.mem_append.1 hr with h | h
        · exact hrr r h
        · rw [List.mem_singleton.1 h]; exact ⟨by omega, fun x hx => a3' x ((h2 x).1 hx)⟩
      · rw [ge_cast hlt, cond_false]
        exact fin q s7 rows q0 (by omega) (by omega) hrr
  exact key L 0 (p + 1 + 1) [] [] (by omega) (by omega) rfl (fun r hr => by cases hr) (by omega) (by omega)
theorem graph_draw (L N : Nat) (hN : 1000 ≤ N) (hL : 1000002 < L) {c : List Int} (hb : BOk c) {p : Int} (p0 : 0 ≤ p) (pb : p ≤ 1000000) :
    ∃ g p', f69 L N c p = some (g, c, p') ∧ p ≤ p' ∧ p' ≤ p + 40000 ∧ Slim g := by
  show ∃ g p', f69.b' L N (fun a0 a1 a2 => some (a0, a1, a2)) c p = _ ∧ _
  unfold f69.b'
  obtain ⟨r, hr, r0, r1⟩ := pick_ok L N hb (p := p) (n := 2) p0 (by omega) (by omega)
  rw [hr]
  simp only [Option.bind_some]
  by_cases h0 : r = 0
  · obtain ⟨t, ds, p1, e, e1, e2, e3, e4, e5⟩ := called_draw L N (by omega) (by omega) hb (p := p + 1) (by omega) (by omega)
    obtain ⟨g, ok, f, hg⟩ := graphOf_ok L N hN hL t ds (by omega) (fun d hd => by have := e5 d hd; omega) (by omega)
    rw [show (r == 0) = true by simpa using h0, cond_true, e]
    simp only [Option.bind_some, tree_eta, f]
    cases ok with
    | true => rw [cond_true]; exact ⟨_, _, rfl, by omega, by omega, hg⟩
    | false =>
      obtain ⟨g2, p2, f2, f3, f4, f5⟩ := wild_draw L N hL hb (p := p1) (by omega) (by omega)
      rw [cond_false, f2]
      simp only [Option.bind_some]
      exact ⟨_, _, rfl, by omega, by omega, f5⟩
  · obtain ⟨g2, p2, f2, f3, f4, f5⟩ := wild_draw L N hL hb (p := p + 1) (by omega) (by omega)
    rw [show (r == 0) = false by simpa using h0, cond_false, f2]
    simp only [Option.bind_some]
    exact ⟨_, _, rfl, by omega, by omega, f5⟩
end Go.Proofs.Ytdfjdbpklbehoaa.Ev
namespace Go.Proofs.Ytdfjdbpklbehoaa.Ev
open Go
set_option linter.unusedVariables false
set_option linter.unusedSimpArgs false
theorem lawWeakClasses (x0 : List Int) (hx0 : DatOk (.sl (.int .u8)) x0) : ∃ L N, f14 L N x0 = some true := by
  generalize hLL : 8589934592 = L
  refine ⟨L, 1000, ?_⟩
  have hlim := lim_eq
  obtain ⟨c, o1, o2⟩ := open_ok L 1000 hx0
  obtain ⟨g, p', d1, -, -, d2⟩ := graph_draw L 1000 (by omega) (by omega) o2 (p := 0) (by omega) (by omega)
  have hge : ∀ g : Graph, Graph.mk g.moves = g := fun g => by cases g; rfl
  have hd : f55 L 1000 x0 = some g := by
    show f55.b' L 1000 some x0 = _
    unfold f55.b'
    rw [o1]
    simp only [Option.bind_some, d1, hge]
  have hsz := d2.size
  obtain ⟨w, e1, e2, e3, e4, e5⟩ := weakClassesC L 1000 g hsz (by omega)
  obtain ⟨b, b2, b3, b4, b5⟩ := branchClassesI L 1000 g hsz (by omega)
  obtain ⟨rows, g1, g2⟩ := weakGraphN L 1000 g hsz (by omega)
  show f14.b' L 1000 some x0 = _
  unfold f14.b'
  by_cases hl : (x0.length : Int) > 1048576
  · rw [dt hl, cond_true]
  · rw [df hl, cond_false, hd]
    have hlen : b.length = w.length := by
      cases hk : graphOk g with
      | false => rw [e4 hk, b4 hk]
      | true =>
        obtain ⟨rows', _, -, h3, -, h1⟩ := e5 hk
        obtain ⟨_, -, h2⟩ := b5 hk
        have := h3.weak.1
        rw [h1.1, h2.1, this]
    have hfine : f45 L 1000 b w = some true := by
      refine mnFiner_ok L 1000 b w hlen (fun i j hi hj e => ?_) (by omega) (by omega)
      cases hk : graphOk g with
      | false => rw [b4 hk] at hi; simp at hi
      | true =>
        obtain ⟨rows', _, -, h3, h4, h5⟩ := e5 hk
        obtain ⟨_, -, h2⟩ := b5 hk
        have := h2.1
        exact branch_weak (leads_of hk hsz) h3.weak.1 h3.weak.2 h2 h4 (by omega) (by omega) e
    simp only [Option.bind_some, hge, e1, e2, b2, g1, hfine, mnInts_same L 1000 w (by omega) (by omega), Bool.not_true, cond_false, cond_true]
    cases hk : graphOk g with
    | false => rw [Bool.not_false, cond_true]
    | true =>
      rw [Bool.not_true, cond_false]
      obtain ⟨h1, h2⟩ := g2 hk
      obtain ⟨rows', pre, i1, i2, i3, i4⟩ := e5 hk
      have e : rows' = rows := by rw [h1] at i1; exact (Option.some.inj i1).symm
      subst e
      have hw : f44 L 1000 ⟨rows'⟩ = some w := by
        obtain ⟨q, k1, k2, k3, k4⟩ := alikeC L 1000 ⟨rows'⟩ h2.size (by omega)
        obtain ⟨pre', q', c3, c5, c6, c7⟩ := chainI L 1000 rows' h2.lead (by omega)
        have hql := c7.1
        have hn := h2.lead.1
        have c4 := classesI L 1000 rows' c3 c5 (by omega)
        have k5 : f44 L 1000 ⟨rows'⟩ = some q' := by
          show f44.b' L 1000 some ⟨rows'⟩ = _
          unfold f44.b'
          have := gok1_ok L 1000 ⟨rows'⟩ (by omega) h2.size
          rw [show (Graph.mk (Graph.mk rows').moves) = Graph.mk rows' from rfl, this, Option.bind_some, h2.ok, Bool.not_true, cond_false, c4, Option.bind_some]
        have e2' : f52 L 1000 g = some q' := by
          show f52.b' L 1000 some g = _
          unfold f52.b'
          rw [hge, gok1_ok L 1000 g (by omega) hsz, Option.bind_some, hk, Bool.not_true, cond_false, h1, Option.bind_some, c4, Option.bind_some]
        rw [e2] at e2'
        rw [k5, Option.some.inj e2']
      rw [hw, Option.bind_some, mnInts_same L 1000 w (by omega) (by omega), Option.bind_some]
end Go.Proofs.Ytdfjdbpklbehoaa.Ev
