/- slices.Sort at []int on a row of the caller's own: what it tells, out of the library's contract. Condition: the contract. -/
import Derived.Test.YtffkhhblppfbfaaEvY
import Derived.Sort.Row
import Derived.Sort.Grow
namespace Go.Proofs.Ytffkhhblppfbfaa.Ev
open Go
theorem ints_cells {fz : Nat → Prop} {w : World} : ∀ (l : List Int) (vs : List Value), RepPs fz w (l.flatMap (enc i64)) vs → vs = l.map (Value.int .i64)
  | [], [], _ => rfl
  | [], _ :: _, r => r.elim
  | n :: l, [], r => r.elim
  | n :: l, c :: vs, r => by
    obtain ⟨r1, r2⟩ := r
    cases r1
    rw [ints_cells l vs r2]; rfl
theorem ints_rep {fz : Nat → Prop} {w : World} : ∀ (l : List Int), RepPs fz w (l.flatMap (enc i64)) (l.map (Value.int .i64))
  | [] => trivial
  | n :: l => ⟨.int _ n, ints_rep l⟩
end Go.Proofs.Ytffkhhblppfbfaa.Ev
