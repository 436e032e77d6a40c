/- Functions that are handed functions: how their arguments look. Condition: what functions tell is sound. -/
import Derived.Test.YtdfjdbpklbehoaaEvX
namespace Go.Proofs.Ytdfjdbpklbehoaa.Ev
open Go

/-- how an argument looks: a datum, a pointer to a datum in memory that nobody writes, a function with what it holds -/
inductive Sh where
  | dat (t : Ty) | imp (t : Ty) (off : Nat) | fn (f : Nat) (cs : List Sh)
mutual
@[reducible] def Sh.den : Sh → Type
  | .dat t => t.den
  | .imp t _ => t.den
  | .fn _ cs => Shs.den cs
@[reducible] def Shs.den : List Sh → Type
  | [] => Unit
  | s :: r => Sh.den s × Shs.den r
end
def datOf (t : Ty) (v : AV) : Option t.den := match asPK (.dat t) v with
  | some a => toTy t a
  | none => none
mutual
def shOf : (s : Sh) → AV → Option (Sh.den s)
  | .dat t, v => datOf t v
  | .imp t off, v => match v with
    | .imp t' x off' => if h : t' = t then bif Nat.beq off' off then some (h ▸ x) else none else none
    | _ => none
  | .fn f cs, v => match v with
    | .fn f' vs => bif Nat.beq f' f then shsOf cs vs else none
    | _ => none
def shsOf : (cs : List Sh) → List AV → Option (Shs.den cs)
  | [], vs => match vs with
    | [] => some ()
    | _ => none
  | s :: r, vs => match vs with
    | v :: vs => match shOf s v with
      | some x => match shsOf r vs with
        | some xs => some (x, xs)
        | none => none
      | none => none
    | [] => none
end
mutual
def shAV : (s : Sh) → Sh.den s → AV
  | .dat t, x => .tv t x
  | .imp t off, x => .imp t x off
  | .fn f cs, d => .fn f (shAVs cs d)
def shAVs : (cs : List Sh) → Shs.den cs → List AV
  | [], _ => []
  | s :: r, d => shAV s d.1 :: shAVs r d.2
end
def shD (ss : List Sh) (vw : View) (vs : List AV) : Option (Shs.den ss) := match roL vw vs with
  | some l => shsOf ss l
  | none => none

theorem datOf_rep {t : Ty} {v : AV} {x : t.den} {σ : Sg} {h : H} {w : World} {c : Value} (e : datOf t v = some x) (hn : AV.ids v = []) (r : RepA σ h w v c) : RepA σ h w (.tv t x) c := by
  unfold datOf at e
  split at e
  · rename_i a ha
    have h1 : asPKs [.dat t] [v] = some [a] := by simp [asPKs, ha]
    have h2 := (asPKs_rep h1 (by simp [AV.idsL, hn]) (cs := [c]) ⟨r, trivial⟩).1.1
    exact toTy_rep e h2
  · cases e

mutual
theorem shOf_rep {σ : Sg} {h : H} {w : World} : ∀ (s : Sh) (v : AV) (d : Sh.den s) (c : Value), shOf s v = some d → AV.ids v = [] → RepA σ h w v c → RepA σ h w (shAV s d) c
  | .dat t, v, d, c, e, hn, r => datOf_rep e hn r
  | .imp t off, v, d, c, e, hn, r => by
    unfold shOf at e
    split at e
    · rename_i t' x off'
      split at e
      · rename_i ht
        subst ht
        replace e := cond_some e
        obtain ⟨hb, e⟩ := e
        obtain rfl := nbeq_eq.1 hb
        obtain rfl := Option.some.inj e
        exact r
      · cases e
    · cases e
  | .fn f cs, v, d, c, e, hn, r => by
    unfold shOf at e
    split at e
    · rename_i f' vs
      replace e := cond_some e
      obtain ⟨hb, e⟩ := e
      obtain rfl := nbeq_eq.1 hb
      obtain ⟨cv, hcv, hr⟩ := r
      exact ⟨cv, hcv, shsOf_rep cs vs d cv.toList e hn hr⟩
    · cases e
theorem shsOf_rep {σ : Sg} {h : H} {w : World} : ∀ (ss : List Sh) (vs : List AV) (d : Shs.den ss) (cs : List Value), shsOf ss vs = some d → AV.idsL vs = [] → RepAs σ h w vs cs → RepAs σ h w (shAVs ss d) cs
  | [], vs, d, cs, e, hn, r => by
    unfold shsOf at e
    split at e
    · exact r
    · cases e
  | s :: ss, vs, d, cs, e, hn, r => by
    unfold shsOf at e
    split at e
    · rename_i v vs'
      split at e
      · rename_i x hx
        split at e
        · rename_i xs hxs
          obtain rfl := Option.some.inj e
          simp only [AV.idsL, List.append_eq_nil_iff] at hn
          match cs, r with
          | c :: cs, r => exact ⟨shOf_rep s v x c hx hn.1 r.1, shsOf_rep ss vs' xs cs hxs hn.2 r.2⟩
        · cases e
      · cases e
    · cases e
end

section
variable {E : Env} {dep : Nat}
/-- a function that writes nothing and hands back no memory; functions may be among what it is handed -/
theorem call_rof {callI : CallI AV} (hΦ : SoundΦ E) (hP : OkP E.P) (hI : CallISound E.P callI) {k : Nat} {f : Func} (hf : E.P.funcs[k]? = some f) {vw : View} {h : H} (hs : Shows vw h) {ss : List Sh} {args : List AV} {d : Shs.den ss} (ha : shD ss vw args = some d) {v : AV} {rs : RS}
    (e : evBody E callI dep k f (shAVs ss d) [] [] (finC rs some) = some v) (hv : flatRS rs = true) (site : Nat) : Callable E.P k ∧ CallSim E.P k args site h v [] [] := by
  refine ⟨⟨f, hf, hP.names k f hf, by obtain ⟨c, hc⟩ := body_some e; rw [hc]; rfl⟩, ?_⟩
  intro _ σ w cargs inv r
  unfold shD at ha
  split at ha
  · rename_i l hl
    obtain ⟨r0, hn⟩ := roL_rep hs inv args l cargs.toList hl r
    replace r0 := shsOf_rep ss l d cargs.toList ha hn r0
    have h2 := (body_sound hΦ hP hI hf e (σ := ⟨σ.val, allFz σ h⟩) (nil_inv (allFz_lt inv)) r0 (vals := []) trivial).2
    refine h2.mono ?_
    rintro e' w' ⟨cv, σ', v', t', h', rfl, hk, hext, hinv, hrep, -⟩
    obtain ⟨v₂, hc, hk⟩ := finC_some hk
    obtain rfl := Option.some.inj hk
    have hg := grown_of_ext hext
    refine ⟨cv, σ, rfl, ext_grown hg, inv_grown inv hg, ?_, fun a c _ r => keep_grown inv hg r⟩
    obtain ⟨F, -, -, -, -, hr⟩ := coeRes_sound hinv hc hrep
    exact (flat_rep (σ := ⟨σ.val, F⟩) (h := []) (coeRes_flat hv hc) (hr _ _)).1
  · cases ha
end

/-! ### Tables with several entries for one function -/
def EntOkO (P : Program) (k : Nat) (e : List AV → View → Nat → Option Ans) : Prop :=
  ∀ (args : List AV) (vw : View) (site : Nat) (h : H) (a : Ans), e args vw site = some a → ∀ y : a.α, a.x = some y → Shows vw h →
    Callable P k ∧ CallSim P k args site h (a.g y).1 (a.g y).2.1 (a.g y).2.2
def addO (Φ : Tells) (k : Nat) (e : List AV → View → Nat → Option Ans) : Tells := fun f args vw s => bif Nat.beq f k then (match e args vw s with
  | some a => a
  | none => Φ f args vw s) else Φ f args vw s
theorem addO_ok {P : Program} {Φ : Tells} {k : Nat} {e : List AV → View → Nat → Option Ans} (h1 : TellsOk P Φ) (h2 : EntOkO P k e) : TellsOk P (addO Φ k e) := by
  intro f args vw site h
  unfold addO
  cases hb : Nat.beq f k
  · exact h1 f args vw site h
  · obtain rfl := nbeq_eq.1 hb
    simp only [cond_true]
    cases he : e args vw site with
    | none => exact h1 f args vw site h
    | some a => exact h2 args vw site h a he
end Go.Proofs.Ytdfjdbpklbehoaa.Ev
