/- The seat's functions as plain functions, continued: made by program (wip/gen/gen.py). -/
import Derived.Test.YthkonljgjjlloaaG1a
namespace Go.Proofs.Ythkonljgjjlloaa.Ev
open Go
set_option linter.unusedVariables false
set_option maxRecDepth 20000
theorem f34.b_nat {R R' : Type} (j : R → Option R') (L N : Nat) (k : Tree → Option R) (x0 : (List Int)) :
    f34.b L N (fun a0 => (k a0).bind j) x0 = (f34.b L N k x0).bind j := by
  unfold f34.b
  exact f34.b'_nat ..
theorem f34.ok (L N : Nat) (hΦ : TellsOk Try.prog ((Φ9 L N))) : EntOk Try.prog 34 (f34.ent L N) := by
  intro args vw site h
  unfold f34.ent
  split
  · rename_i d u ha
    intro y hy hs
    refine call_data (dep := 1000) (E := (E34 L N)) (rs := (.one (.st 1))) (v' := (.tv (.st 1) y)) (sound_of hΦ) okP (callI_sound (sound_of hΦ) okP 0 1000) (f := Try.f34) rfl hs ha ?_ site
    refine (f34.b_eq L N some d.1).trans ?_
    refine ((f34.b_nat (fun y => (some (.tv (.st 1) y) : Option AV)) L N some d.1)).trans ?_
    rw [show f34.b L N some d.1 = some y from hy]
    rfl
  · intro y hy
    cases hy
def Φ34 (L N : Nat) : Tells := (addT (Φ9 L N) 34 (f34.ent L N))
theorem Φ34_ok (L N : Nat) : TellsOk Try.prog (Φ34 L N) := addT_ok (Φ9_ok L N) (f34.ok L N (Φ9_ok L N))
def f95.b' {R : Type} (L N : Nat) (k : Int → Option R) (x0 : Int) : Option R :=
  k (wi ((bif decide ((wi (0 - x0)) > x0) then (wi (0 - x0)) else x0) - (1 : Int)))
def f95.b {R : Type} (L N : Nat) (k : Int → Option R) (x0 : Int) : Option R :=
  f95.b' L N k x0
def f95 (L N : Nat) (x0 : Int) : Option (Int) := f95.b L N some x0
def f95.ent (L N : Nat) (args : List AV) (vw : View) (site : Nat) : Ans := match roD [i64] vw args with
  | some d => ⟨Int, f95 L N d.1, fun y => ((.tv i64 y), [], [])⟩
  | none => Ans.no
noncomputable def E95 (L N : Nat) : Env := { P := Try.prog, ty := tyOf, Φ := (Φ34 L N), inl := fun _ => false, live := lives, liveX := livesX, L := L }
theorem f95.b_pre {R : Type} (L N : Nat) (κ : AV → Option R) (x0 : Int) :
    evBody (E95 L N) (evCallI (E95 L N) 0 1000) 1000 95 Try.f95 [(.tv i64 x0)] [] [] (finC (.one i64) κ)
    = f95.b' L N (fun a0 => κ (.tv i64 a0)) x0 := by kernel_rfl
theorem f95.b_eq {R : Type} (L N : Nat) (κ : AV → Option R) (x0 : Int) :
    evBody (E95 L N) (evCallI (E95 L N) 0 1000) 1000 95 Try.f95 [(.tv i64 x0)] [] [] (finC (.one i64) κ)
    = f95.b L N (fun a0 => κ (.tv i64 a0)) x0 := by
  rw [f95.b_pre]
  unfold f95.b
  rfl
theorem f95.b'_nat {R R' : Type} (j : R → Option R') (L N : Nat) (k : Int → Option R) (x0 : Int) :
    f95.b' L N (fun a0 => (k a0).bind j) x0 = (f95.b' L N k x0).bind j := by
  unfold f95.b'
  repeat' (first | (with_reducible refine cond_nat ?_ ?_) | (with_reducible refine bind_nat fun _ => ?_) | rfl)
theorem f95.b_nat {R R' : Type} (j : R → Option R') (L N : Nat) (k : Int → Option R) (x0 : Int) :
    f95.b L N (fun a0 => (k a0).bind j) x0 = (f95.b L N k x0).bind j := by
  unfold f95.b
  exact f95.b'_nat ..
theorem f95.ok (L N : Nat) (hΦ : TellsOk Try.prog ((Φ34 L N))) : EntOk Try.prog 95 (f95.ent L N) := by
  intro args vw site h
  unfold f95.ent
  split
  · rename_i d ha
    intro y hy hs
    refine call_ro (dep := 1000) (E := (E95 L N)) (rs := (.one i64)) (v := (.tv i64 y)) (sound_of hΦ) okP (callI_sound (sound_of hΦ) okP 0 1000) (f := Try.f95) rfl hs ha ?_ rfl site
    refine (f95.b_eq L N some d.1).trans ?_
    refine ((f95.b_nat (fun y => (some (.tv i64 y) : Option AV)) L N some d.1)).trans ?_
    rw [show f95.b L N some d.1 = some y from hy]
    rfl
  · intro y hy
    cases hy
def Φ95 (L N : Nat) : Tells := (addT (Φ34 L N) 95 (f95.ent L N))
theorem Φ95_ok (L N : Nat) : TellsOk Try.prog (Φ95 L N) := addT_ok (Φ34_ok L N) (f95.ok L N (Φ34_ok L N))
def f77.b' {R : Type} (L N : Nat) (k : ByteArray → Option R) (x0 : Int) : Option R :=
  bif (x0 == (0 : Int)) then
    k (ByteArray.mk #[116, 97, 117])
  else bif (decide (x0 < (0 : Int))) then
    (f95 L N x0).bind fun y0 =>
    (f95 L N x0).bind fun y1 =>
    bif (slB y0 (wi (y1 + (1 : Int))) (ByteArray.mk #[97, 98, 99, 100]).size) then
      bif (decide ((ByteArray.mk #[33]).size + ((ByteArray.mk #[97, 98, 99, 100]).extract y0.toNat (wi (y1 + (1 : Int))).toNat).size ≤ 4611686018427387904)) then
        k ((ByteArray.mk #[33]) ++ ((ByteArray.mk #[97, 98, 99, 100]).extract y0.toNat (wi (y1 + (1 : Int))).toNat))
      else none
    else none
  else (f95 L N x0).bind fun y2 =>
  (f95 L N x0).bind fun y3 =>
  bif (slB y2 (wi (y3 + (1 : Int))) (ByteArray.mk #[97, 98, 99, 100]).size) then
    k ((ByteArray.mk #[97, 98, 99, 100]).extract y2.toNat (wi (y3 + (1 : Int))).toNat)
  else none
def f77.b {R : Type} (L N : Nat) (k : ByteArray → Option R) (x0 : Int) : Option R :=
  f77.b' L N k x0
def f77 (L N : Nat) (x0 : Int) : Option (ByteArray) := f77.b L N some x0
def f77.ent (L N : Nat) (args : List AV) (vw : View) (site : Nat) : Ans := match roD [i64] vw args with
  | some d => ⟨ByteArray, f77 L N d.1, fun y => ((.tv .str y), [], [])⟩
  | none => Ans.no
noncomputable def E77 (L N : Nat) : Env := { P := Try.prog, ty := tyOf, Φ := (Φ95 L N), inl := fun _ => false, live := lives, liveX := livesX, L := L }
theorem f77.b_pre {R : Type} (L N : Nat) (κ : AV → Option R) (x0 : Int) :
    evBody (E77 L N) (evCallI (E77 L N) 0 1000) 1000 77 Try.f77 [(.tv i64 x0)] [] [] (finC (.one .str) κ)
    = f77.b' L N (fun a0 => κ (.tv .str a0)) x0 := by kernel_rfl
theorem f77.b_eq {R : Type} (L N : Nat) (κ : AV → Option R) (x0 : Int) :
    evBody (E77 L N) (evCallI (E77 L N) 0 1000) 1000 77 Try.f77 [(.tv i64 x0)] [] [] (finC (.one .str) κ)
    = f77.b L N (fun a0 => κ (.tv .str a0)) x0 := by
  rw [f77.b_pre]
  unfold f77.b
  rfl
theorem f77.b'_nat {R R' : Type} (j : R → Option R') (L N : Nat) (k : ByteArray → Option R) (x0 : Int) :
    f77.b' L N (fun a0 => (k a0).bind j) x0 = (f77.b' L N k x0).bind j := by
  unfold f77.b'
  repeat' (first | (with_reducible refine cond_nat ?_ ?_) | (with_reducible refine bind_nat fun _ => ?_) | rfl)
theorem f77.b_nat {R R' : Type} (j : R → Option R') (L N : Nat) (k : ByteArray → Option R) (x0 : Int) :
    f77.b L N (fun a0 => (k a0).bind j) x0 = (f77.b L N k x0).bind j := by
  unfold f77.b
  exact f77.b'_nat ..
theorem f77.ok (L N : Nat) (hΦ : TellsOk Try.prog ((Φ95 L N))) : EntOk Try.prog 77 (f77.ent L N) := by
  intro args vw site h
  unfold f77.ent
  split
  · rename_i d ha
    intro y hy hs
    refine call_ro (dep := 1000) (E := (E77 L N)) (rs := (.one .str)) (v := (.tv .str y)) (sound_of hΦ) okP (callI_sound (sound_of hΦ) okP 0 1000) (f := Try.f77) rfl hs ha ?_ rfl site
    refine (f77.b_eq L N some d.1).trans ?_
    refine ((f77.b_nat (fun y => (some (.tv .str y) : Option AV)) L N some d.1)).trans ?_
    rw [show f77.b L N some d.1 = some y from hy]
    rfl
  · intro y hy
    cases hy
def Φ77 (L N : Nat) : Tells := (addT (Φ95 L N) 77 (f77.ent L N))
theorem Φ77_ok (L N : Nat) : TellsOk Try.prog (Φ77 L N) := addT_ok (Φ95_ok L N) (f77.ok L N (Φ95_ok L N))
def f60.b' {R : Type} (L N : Nat) (self60 : Tree → Option (ByteArray)) (k : ByteArray → Option R) (x0 : Tree) : Option R :=
  bif (x0.op == (0 : Int)) then
    k (ByteArray.mk #[84])
  else bif (x0.op == (1 : Int)) then
    bif (decide (0 ≤ (0 : Int)) && decide ((0 : Int) < (x0.parts.length : Int))) then
      (self60 (listAt x0.parts (Ty.dflt (.st 1)) (0 : Int).toNat)).bind fun y0 =>
      bif (decide ((ByteArray.mk #[40, 110, 111, 116, 32]).size + y0.size ≤ 4611686018427387904)) then
        bif (decide (((ByteArray.mk #[40, 110, 111, 116, 32]) ++ y0).size + (ByteArray.mk #[41]).size ≤ 4611686018427387904)) then
          k (((ByteArray.mk #[40, 110, 111, 116, 32]) ++ y0) ++ (ByteArray.mk #[41]))
        else none
      else none
    else none
  else bif (x0.op == (2 : Int)) then
    bif (decide (0 ≤ (0 : Int)) && decide ((0 : Int) < (x0.parts.length : Int))) then
      (self60 (listAt x0.parts (Ty.dflt (.st 1)) (0 : Int).toNat)).bind fun y1 =>
      bif (decide ((ByteArray.mk #[40, 97, 110, 100, 32]).size + y1.size ≤ 4611686018427387904)) then
        bif (decide (((ByteArray.mk #[40, 97, 110, 100, 32]) ++ y1).size + (ByteArray.mk #[32]).size ≤ 4611686018427387904)) then
          bif (decide (0 ≤ (1 : Int)) && decide ((1 : Int) < (x0.parts.length : Int))) then
            (self60 (listAt x0.parts (Ty.dflt (.st 1)) (1 : Int).toNat)).bind fun y2 =>
            bif (decide ((((ByteArray.mk #[40, 97, 110, 100, 32]) ++ y1) ++ (ByteArray.mk #[32])).size + y2.size ≤ 4611686018427387904)) then
              bif (decide (((((ByteArray.mk #[40, 97, 110, 100, 32]) ++ y1) ++ (ByteArray.mk #[32])) ++ y2).size + (ByteArray.mk #[41]).size ≤ 4611686018427387904)) then
                k (((((ByteArray.mk #[40, 97, 110, 100, 32]) ++ y1) ++ (ByteArray.mk #[32])) ++ y2) ++ (ByteArray.mk #[41]))
              else none
            else none
          else none
        else none
      else none
    else none
  else (f77 L N x0.n).bind fun y3 =>
  bif (decide ((ByteArray.mk #[40, 109, 97, 121, 32]).size + y3.size ≤ 4611686018427387904)) then
    bif (decide (((ByteArray.mk #[40, 109, 97, 121, 32]) ++ y3).size + (ByteArray.mk #[32]).size ≤ 4611686018427387904)) then
      bif (decide (0 ≤ (0 : Int)) && decide ((0 : Int) < (x0.parts.length : Int))) then
        (self60 (listAt x0.parts (Ty.dflt (.st 1)) (0 : Int).toNat)).bind fun y4 =>
        bif (decide ((((ByteArray.mk #[40, 109, 97, 121, 32]) ++ y3) ++ (ByteArray.mk #[32])).size + y4.size ≤ 4611686018427387904)) then
          bif (decide (((((ByteArray.mk #[40, 109, 97, 121, 32]) ++ y3) ++ (ByteArray.mk #[32])) ++ y4).size + (ByteArray.mk #[41]).size ≤ 4611686018427387904)) then
            k (((((ByteArray.mk #[40, 109, 97, 121, 32]) ++ y3) ++ (ByteArray.mk #[32])) ++ y4) ++ (ByteArray.mk #[41]))
          else none
        else none
      else none
    else none
  else none
def f60.b {R : Type} (L N : Nat) (self60 : Tree → Option (ByteArray)) (k : ByteArray → Option R) (x0 : Tree) : Option R :=
  f60.b' L N self60 k x0
def f60 (L N : Nat) : Nat → Tree → Option (ByteArray)
  | 0, _ => none
  | n + 1, x0 => f60.b L N (f60 L N n) some x0
def f60.ent (L N m : Nat) (args : List AV) (vw : View) (site : Nat) : Ans := match roD [(.st 1)] vw args with
  | some d => ⟨ByteArray, f60 L N m d.1, fun y => ((.tv .str y), [], [])⟩
  | none => Ans.no
def Φ60s (L N m : Nat) : Tells := (addT (Φ77 L N) 60 (f60.ent L N m))
noncomputable def E60 (L N m : Nat) : Env := { P := Try.prog, ty := tyOf, Φ := Φ60s L N m, inl := fun _ => false, live := lives, liveX := livesX, L := L }
theorem f60.b_pre {R : Type} (L N m : Nat) (κ : AV → Option R) (x0 : Tree) :
    evBody (E60 L N m) (evCallI (E60 L N m) 0 1000) 1000 60 Try.f60 [(.tv (.st 1) x0)] [] [] (finC (.one .str) κ)
    = f60.b' L N (f60 L N m) (fun a0 => κ (.tv .str a0)) x0 := by kernel_rfl
theorem f60.b_eq {R : Type} (L N m : Nat) (κ : AV → Option R) (x0 : Tree) :
    evBody (E60 L N m) (evCallI (E60 L N m) 0 1000) 1000 60 Try.f60 [(.tv (.st 1) x0)] [] [] (finC (.one .str) κ)
    = f60.b L N (f60 L N m) (fun a0 => κ (.tv .str a0)) x0 := by
  rw [f60.b_pre]
  unfold f60.b
  rfl
theorem f60.b'_nat {R R' : Type} (j : R → Option R') (L N : Nat) (self60 : Tree → Option (ByteArray)) (k : ByteArray → Option R) (x0 : Tree) :
    f60.b' L N self60 (fun a0 => (k a0).bind j) x0 = (f60.b' L N self60 k x0).bind j := by
  unfold f60.b'
  repeat' (first | (with_reducible refine cond_nat ?_ ?_) | (with_reducible refine bind_nat fun _ => ?_) | rfl)
theorem f60.b_nat {R R' : Type} (j : R → Option R') (L N : Nat) (self60 : Tree → Option (ByteArray)) (k : ByteArray → Option R) (x0 : Tree) :
    f60.b L N self60 (fun a0 => (k a0).bind j) x0 = (f60.b L N self60 k x0).bind j := by
  unfold f60.b
  exact f60.b'_nat ..
theorem f60.ok (L N m : Nat) (hΦ : TellsOk Try.prog (Φ60s L N m)) : EntOk Try.prog 60 (f60.ent L N (m + 1)) := by
  intro args vw site h
  unfold f60.ent
  split
  · rename_i d ha
    intro y hy hs
    refine call_ro (dep := 1000) (E := (E60 L N m)) (rs := (.one .str)) (v := (.tv .str y)) (sound_of hΦ) okP (callI_sound (sound_of hΦ) okP 0 1000) (f := Try.f60) rfl hs ha ?_ rfl site
    refine (f60.b_eq L N m some d.1).trans ?_
    refine ((f60.b_nat (fun y => (some (.tv .str y) : Option AV)) L N (f60 L N m) some d.1)).trans ?_
    rw [show f60.b L N (f60 L N m) some d.1 = some y from hy]
    rfl
  · intro y hy
    cases hy
theorem Φ60s_ok (L N : Nat) : ∀ m, TellsOk Try.prog (Φ60s L N m) := by
  intro m
  induction m with
  | zero => exact (addT_ok (Φ77_ok L N) (fun args vw site h => by unfold f60.ent; split <;> (intro y hy; cases hy)))
  | succ m ih => exact (addT_ok (Φ77_ok L N) (f60.ok L N m ih))
def Φ60 (L N : Nat) : Tells := (addT (Φ77 L N) 60 (f60.ent L N N))
theorem Φ60_ok (L N : Nat) : TellsOk Try.prog (Φ60 L N) := Φ60s_ok L N N
def f35.b' {R : Type} (L N : Nat) (k : ByteArray → Option R) (x0 : Tree) : Option R :=
  (f25 L N (Tree.mk x0.op x0.n x0.parts)).bind fun y0 =>
  bif (!y0) then
    k (ByteArray.mk #[])
  else (f60 L N N (Tree.mk x0.op x0.n x0.parts)).bind fun y1 =>
  k y1
def f35.b {R : Type} (L N : Nat) (k : ByteArray → Option R) (x0 : Tree) : Option R :=
  f35.b' L N k x0
def f35 (L N : Nat) (x0 : Tree) : Option (ByteArray) := f35.b L N some x0
def f35.ent (L N : Nat) (args : List AV) (vw : View) (site : Nat) : Ans := match roD [(.st 1)] vw args with
  | some d => ⟨ByteArray, f35 L N d.1, fun y => ((.tv .str y), [], [])⟩
  | none => Ans.no
noncomputable def E35 (L N : Nat) : Env := { P := Try.prog, ty := tyOf, Φ := (Φ60 L N), inl := fun _ => false, live := lives, liveX := livesX, L := L }
theorem f35.b_pre {R : Type} (L N : Nat) (κ : AV → Option R) (x0 : Tree) :
    evBody (E35 L N) (evCallI (E35 L N) 0 1000) 1000 35 Try.f35 [(.tv (.st 1) x0)] [] [] (finC (.one .str) κ)
    = f35.b' L N (fun a0 => κ (.tv .str a0)) x0 := by kernel_rfl
theorem f35.b_eq {R : Type} (L N : Nat) (κ : AV → Option R) (x0 : Tree) :
    evBody (E35 L N) (evCallI (E35 L N) 0 1000) 1000 35 Try.f35 [(.tv (.st 1) x0)] [] [] (finC (.one .str) κ)
    = f35.b L N (fun a0 => κ (.tv .str a0)) x0 := by
  rw [f35.b_pre]
  unfold f35.b
  rfl
theorem f35.b'_nat {R R' : Type} (j : R → Option R') (L N : Nat) (k : ByteArray → Option R) (x0 : Tree) :
    f35.b' L N (fun a0 => (k a0).bind j) x0 = (f35.b' L N k x0).bind j := by
  unfold f35.b'
  repeat' (first | (with_reducible refine cond_nat ?_ ?_) | (with_reducible refine bind_nat fun _ => ?_) | rfl)
theorem f35.b_nat {R R' : Type} (j : R → Option R') (L N : Nat) (k : ByteArray → Option R) (x0 : Tree) :
    f35.b L N (fun a0 => (k a0).bind j) x0 = (f35.b L N k x0).bind j := by
  unfold f35.b
  exact f35.b'_nat ..
theorem f35.ok (L N : Nat) (hΦ : TellsOk Try.prog ((Φ60 L N))) : EntOk Try.prog 35 (f35.ent L N) := by
  intro args vw site h
  unfold f35.ent
  split
  · rename_i d ha
    intro y hy hs
    refine call_ro (dep := 1000) (E := (E35 L N)) (rs := (.one .str)) (v := (.tv .str y)) (sound_of hΦ) okP (callI_sound (sound_of hΦ) okP 0 1000) (f := Try.f35) rfl hs ha ?_ rfl site
    refine (f35.b_eq L N some d.1).trans ?_
    refine ((f35.b_nat (fun y => (some (.tv .str y) : Option AV)) L N some d.1)).trans ?_
    rw [show f35.b L N some d.1 = some y from hy]
    rfl
  · intro y hy
    cases hy
def Φ35 (L N : Nat) : Tells := (addT (Φ60 L N) 35 (f35.ent L N))
theorem Φ35_ok (L N : Nat) : TellsOk Try.prog (Φ35 L N) := addT_ok (Φ60_ok L N) (f35.ok L N (Φ60_ok L N))
def f10.b' {R : Type} (L N : Nat) (k : Bool → Option R) (x0 : (List Int)) : Option R :=
  bif (decide ((x0.length : Int) > (1048576 : Int))) then
    k true
  else (f34 L N x0).bind fun y0 =>
  (f33 L N (Tree.mk y0.op y0.n y0.parts)).bind fun y1 =>
  (f35 L N (Tree.mk y0.op y0.n y0.parts)).bind fun y2 =>
  bif (!(y1.toList == y2.toList)) then
    k false
  else (f27 L N (Tree.mk (2 : Int) (0 : Int) ([(Tree.mk y0.op y0.n y0.parts), (Tree.mk y0.op y0.n y0.parts)] : (List Tree)))).bind fun y3 =>
  bif (!y3) then
    k true
  else (f33 L N (Tree.mk (2 : Int) (0 : Int) ([(Tree.mk y0.op y0.n y0.parts), (Tree.mk y0.op y0.n y0.parts)] : (List Tree)))).bind fun y4 =>
  bif (decide ((ByteArray.mk #[40, 97, 110, 100, 32]).size + y1.size ≤ 4611686018427387904)) then
    bif (decide (((ByteArray.mk #[40, 97, 110, 100, 32]) ++ y1).size + (ByteArray.mk #[32]).size ≤ 4611686018427387904)) then
      bif (decide ((((ByteArray.mk #[40, 97, 110, 100, 32]) ++ y1) ++ (ByteArray.mk #[32])).size + y1.size ≤ 4611686018427387904)) then
        bif (decide (((((ByteArray.mk #[40, 97, 110, 100, 32]) ++ y1) ++ (ByteArray.mk #[32])) ++ y1).size + (ByteArray.mk #[41]).size ≤ 4611686018427387904)) then
          k (y4.toList == (((((ByteArray.mk #[40, 97, 110, 100, 32]) ++ y1) ++ (ByteArray.mk #[32])) ++ y1) ++ (ByteArray.mk #[41])).toList)
        else none
      else none
    else none
  else none
def f10.b {R : Type} (L N : Nat) (k : Bool → Option R) (x0 : (List Int)) : Option R :=
  f10.b' L N k x0
def f10 (L N : Nat) (x0 : (List Int)) : Option (Bool) := f10.b L N some x0
def f10.ent (L N : Nat) (args : List AV) (vw : View) (site : Nat) : Ans := match roD [(.sl (.int .u8))] vw args with
  | some d => ⟨Bool, f10 L N d.1, fun y => ((.tv .bool y), [], [])⟩
  | none => Ans.no
noncomputable def E10 (L N : Nat) : Env := { P := Try.prog, ty := tyOf, Φ := (Φ35 L N), inl := fun _ => false, live := lives, liveX := livesX, L := L }
theorem f10.b_pre {R : Type} (L N : Nat) (κ : AV → Option R) (x0 : (List Int)) :
    evBody (E10 L N) (evCallI (E10 L N) 0 1000) 1000 10 Try.f10 [(.tv (.sl (.int .u8)) x0)] [] [] (finC (.one .bool) κ)
    = f10.b' L N (fun a0 => κ (.tv .bool a0)) x0 := by kernel_rfl
theorem f10.b_eq {R : Type} (L N : Nat) (κ : AV → Option R) (x0 : (List Int)) :
    evBody (E10 L N) (evCallI (E10 L N) 0 1000) 1000 10 Try.f10 [(.tv (.sl (.int .u8)) x0)] [] [] (finC (.one .bool) κ)
    = f10.b L N (fun a0 => κ (.tv .bool a0)) x0 := by
  rw [f10.b_pre]
  unfold f10.b
  rfl
theorem f10.b'_nat {R R' : Type} (j : R → Option R') (L N : Nat) (k : Bool → Option R) (x0 : (List Int)) :
    f10.b' L N (fun a0 => (k a0).bind j) x0 = (f10.b' L N k x0).bind j := by
  unfold f10.b'
  repeat' (first | (with_reducible refine cond_nat ?_ ?_) | (with_reducible refine bind_nat fun _ => ?_) | rfl)
theorem f10.b_nat {R R' : Type} (j : R → Option R') (L N : Nat) (k : Bool → Option R) (x0 : (List Int)) :
    f10.b L N (fun a0 => (k a0).bind j) x0 = (f10.b L N k x0).bind j := by
  unfold f10.b
  exact f10.b'_nat ..
theorem f10.ok (L N : Nat) (hΦ : TellsOk Try.prog ((Φ35 L N))) : EntOk Try.prog 10 (f10.ent L N) := by
  intro args vw site h
  unfold f10.ent
  split
  · rename_i d ha
    intro y hy hs
    refine call_ro (dep := 1000) (E := (E10 L N)) (rs := (.one .bool)) (v := (.tv .bool y)) (sound_of hΦ) okP (callI_sound (sound_of hΦ) okP 0 1000) (f := Try.f10) rfl hs ha ?_ rfl site
    refine (f10.b_eq L N some d.1).trans ?_
    refine ((f10.b_nat (fun y => (some (.tv .bool y) : Option AV)) L N some d.1)).trans ?_
    rw [show f10.b L N some d.1 = some y from hy]
    rfl
  · intro y hy
    cases hy
def Φ10 (L N : Nat) : Tells := (addT (Φ35 L N) 10 (f10.ent L N))
theorem Φ10_ok (L N : Nat) : TellsOk Try.prog (Φ10 L N) := addT_ok (Φ35_ok L N) (f10.ok L N (Φ35_ok L N))
def f11.b' {R : Type} (L N : Nat) (k : Bool → Option R) (x0 : Tree) : Option R :=
  (f24 L N N (Tree.mk x0.op x0.n x0.parts) (1048576 : Int)).bind fun y0 =>
  bif (decide (y0 < (0 : Int))) then
    k true
  else (f26 L N N (Tree.mk x0.op x0.n x0.parts)).bind fun y1 =>
  (f35 L N y1).bind fun y2 =>
  (f26 L N N (Tree.mk x0.op x0.n x0.parts)).bind fun y3 =>
  (f33 L N (Tree.mk y3.op y3.n y3.parts)).bind fun y4 =>
  bif (!(y4.toList == y2.toList)) then
    k false
  else (f26 L N N (Tree.mk x0.op x0.n x0.parts)).bind fun y5 =>
  (f28 L N N (Tree.mk y3.op y3.n y3.parts) y5).bind fun y6 =>
  bif (!y6) then
    k false
  else k true
def f11.b {R : Type} (L N : Nat) (k : Bool → Option R) (x0 : Tree) : Option R :=
  f11.b' L N k x0
def f11 (L N : Nat) (x0 : Tree) : Option (Bool) := f11.b L N some x0
def f11.ent (L N : Nat) (args : List AV) (vw : View) (site : Nat) : Ans := match roD [(.st 1)] vw args with
  | some d => ⟨Bool, f11 L N d.1, fun y => ((.tv .bool y), [], [])⟩
  | none => Ans.no
noncomputable def E11 (L N : Nat) : Env := { P := Try.prog, ty := tyOf, Φ := (Φ10 L N), inl := fun _ => false, live := lives, liveX := livesX, L := L }
theorem f11.b_pre {R : Type} (L N : Nat) (κ : AV → Option R) (x0 : Tree) :
    evBody (E11 L N) (evCallI (E11 L N) 0 1000) 1000 11 Try.f11 [(.tv (.st 1) x0)] [] [] (finC (.one .bool) κ)
    = f11.b' L N (fun a0 => κ (.tv .bool a0)) x0 := by kernel_rfl
theorem f11.b_eq {R : Type} (L N : Nat) (κ : AV → Option R) (x0 : Tree) :
    evBody (E11 L N) (evCallI (E11 L N) 0 1000) 1000 11 Try.f11 [(.tv (.st 1) x0)] [] [] (finC (.one .bool) κ)
    = f11.b L N (fun a0 => κ (.tv .bool a0)) x0 := by
  rw [f11.b_pre]
  unfold f11.b
  rfl
theorem f11.b'_nat {R R' : Type} (j : R → Option R') (L N : Nat) (k : Bool → Option R) (x0 : Tree) :
    f11.b' L N (fun a0 => (k a0).bind j) x0 = (f11.b' L N k x0).bind j := by
  unfold f11.b'
  repeat' (first | (with_reducible refine cond_nat ?_ ?_) | (with_reducible refine bind_nat fun _ => ?_) | rfl)
theorem f11.b_nat {R R' : Type} (j : R → Option R') (L N : Nat) (k : Bool → Option R) (x0 : Tree) :
    f11.b L N (fun a0 => (k a0).bind j) x0 = (f11.b L N k x0).bind j := by
  unfold f11.b
  exact f11.b'_nat ..
theorem f11.ok (L N : Nat) (hΦ : TellsOk Try.prog ((Φ10 L N))) : EntOk Try.prog 11 (f11.ent L N) := by
  intro args vw site h
  unfold f11.ent
  split
  · rename_i d ha
    intro y hy hs
    refine call_ro (dep := 1000) (E := (E11 L N)) (rs := (.one .bool)) (v := (.tv .bool y)) (sound_of hΦ) okP (callI_sound (sound_of hΦ) okP 0 1000) (f := Try.f11) rfl hs ha ?_ rfl site
    refine (f11.b_eq L N some d.1).trans ?_
    refine ((f11.b_nat (fun y => (some (.tv .bool y) : Option AV)) L N some d.1)).trans ?_
    rw [show f11.b L N some d.1 = some y from hy]
    rfl
  · intro y hy
    cases hy
def Φ11 (L N : Nat) : Tells := (addT (Φ10 L N) 11 (f11.ent L N))
theorem Φ11_ok (L N : Nat) : TellsOk Try.prog (Φ11 L N) := addT_ok (Φ10_ok L N) (f11.ok L N (Φ10_ok L N))
end Go.Proofs.Ythkonljgjjlloaa.Ev
