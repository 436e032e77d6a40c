/- Plain law of impl.tidy: the one list that rises and bears the same moves. No condition. -/
import Derived.Test.YtdfjdbpklbehoaaPSortM
namespace Go.Proofs.Ytdfjdbpklbehoaa.Ev
open Go
set_option linter.unusedVariables false
set_option linter.unusedSimpArgs false

theorem leM_iff (x y : Move) : leM x y = true ↔ lessM x y = true ∨ x = y := by
  unfold leM lessM
  obtain ⟨a, b⟩ := x
  obtain ⟨c, d⟩ := y
  simp only [decide_eq_true_eq, Move.mk.injEq]
  omega
theorem sortM_le (xs : List Move) : (sortM xs).Pairwise fun a b => leM a b = true := by
  refine List.pairwise_mergeSort (fun a b c h1 h2 => ?_) (fun a b => ?_) xs
  · rw [leM_iff] at *
    rcases h1 with h1 | rfl
    · rcases h2 with h2 | rfl
      · exact .inl (less_trans h1 h2)
      · exact .inl h1
    · exact h2
  · unfold leM
    simp only [Bool.or_eq_true, decide_eq_true_eq]
    omega

theorem getM {zs : List Move} {i : Nat} (h : i < zs.length) : (zs.toArray)[i]! = zs[i] := by simp [getElem!_pos, h]

theorem compact_rises {zs : List Move} (hs : zs.Pairwise fun a b => leM a b = true) : RisesM (Go.Lib.compact zs) := by
  unfold RisesM Go.Lib.compact Go.Lib.compactUpTo
  rw [List.pairwise_map]
  refine List.Pairwise.imp_of_mem ?_ (List.Pairwise.filter _ List.pairwise_lt_range)
  intro i j hi hj hij
  rw [List.mem_filter, List.mem_range] at hi hj
  have hjl := hj.1
  rw [getM hi.1, getM hj.1]
  have hk := hj.2
  unfold Go.Lib.keeps at hk
  have hk := of_decide_eq_true hk
  have hne : zs[j] ≠ zs[j - 1] := by
    rcases hk with h | h
    · omega
    · rwa [getM hj.1, getM (show j - 1 < zs.length by omega)] at h
  have hlast : lessM zs[j - 1] zs[j] = true := by
    rcases (leM_iff _ _).1 (List.pairwise_iff_getElem.1 hs (j - 1) j (by omega) (by omega) (by omega)) with h | h
    · exact h
    · exact absurd h.symm hne
  by_cases e : i = j - 1
  · subst e; exact hlast
  · rcases (leM_iff _ _).1 (List.pairwise_iff_getElem.1 hs i (j - 1) (by omega) (by omega) (by omega)) with h | h
    · exact less_trans h hlast
    · rw [h]; exact hlast
theorem compact_mem (zs : List Move) (v : Move) : v ∈ Go.Lib.compact zs ↔ v ∈ zs := by
  unfold Go.Lib.compact Go.Lib.compactUpTo
  rw [List.mem_map]
  constructor
  · rintro ⟨i, hi, rfl⟩
    rw [List.mem_filter, List.mem_range] at hi
    rw [getM hi.1]; exact List.getElem_mem hi.1
  · intro hv
    obtain ⟨i, hi, rfl⟩ := List.mem_iff_getElem.1 hv
    clear hv
    induction i with
    | zero => exact ⟨0, by rw [List.mem_filter, List.mem_range]; exact ⟨hi, by simp [Go.Lib.keeps]⟩, getM hi⟩
    | succ i ih =>
      by_cases hk : Go.Lib.keeps zs.toArray (i + 1) = true
      · exact ⟨i + 1, by rw [List.mem_filter, List.mem_range]; exact ⟨hi, hk⟩, getM hi⟩
      · have : zs[i + 1] = zs[i] := by
          unfold Go.Lib.keeps at hk
          have hk : ¬ (i + 1 = 0 ∨ zs.toArray[i + 1]! ≠ zs.toArray[i + 1 - 1]!) := fun h => hk (decide_eq_true h)
          have h2 := Classical.not_not.1 (fun h => hk (.inr h))
          rw [getM hi, Nat.add_sub_cancel, getM (show i < zs.length by omega)] at h2
          exact h2
        rw [this]
        exact ih (by omega)
theorem tidyM_rises (xs : List Move) : RisesM (tidyM xs) := compact_rises (sortM_le xs)
theorem tidyM_mem (xs : List Move) (v : Move) : v ∈ tidyM xs ↔ v ∈ xs := (compact_mem _ v).trans (sortM_mem xs v)
theorem fsortM_some {xs : List Move} (h : xs.length ≤ 1099511627776) : fsortM xs = some () := by
  unfold fsortM; rw [show decide (xs.length ≤ lim) = true from decide_eq_true (by rw [lim_eq]; exact h)]; rfl
end Go.Proofs.Ytdfjdbpklbehoaa.Ev
