/- What changes memory: new objects, writes, rows that become data. No conditions. -/
import Derived.Test.YtdfjdbpklbehoaaEvG
namespace Go.Proofs.Ytdfjdbpklbehoaa.Ev
open Go

section
variable {σ σ' : Sg} {h h' : H} {w w' : World}

theorem sameO_eq {o : Nat} (e : H.get o h' = H.get o h) (ev : σ'.val o = σ.val o) : SameO σ σ' h h' o := by
  cases g : H.get o h with
  | none => exact .inl (e.trans g)
  | some x => exact .inr ⟨live_of g, ev, fun el t xs hg => ⟨xs, by rw [← e, hg], rfl⟩⟩

theorem blk_own {v : Value} {n c : Nat} {a : Option Addr} (hv : v = .slice a n c) : blk v = v.ownBlock := by
  subst hv; cases a <;> rfl

theorem own_slice {e z n : Nat} {v : Value} {cs : List Value} (ho : w.ownsRow 0 e z v n cs) : ∃ a c, v = .slice a n c := by
  rcases ho.2 with ⟨hv, hl⟩ | ⟨b, cap, cur, hv, -⟩
  · exact ⟨none, 0, by rw [hv, hl]⟩
  · exact ⟨_, _, hv⟩

theorem change (inv : Inv σ h w) (o0 : Nat) (obj' : Obj) (row : Option Nat)
    (hget : ∀ o, o ≠ o0 → H.get o h' = H.get o h) (hget0 : H.get o0 h' = some obj') (hval : ∀ o, o ≠ o0 → σ'.val o = σ.val o) (hfz : σ'.fz = σ.fz)
    (hnd : (h'.map (·.1)).Nodup) (hg : w.grownBy w' row) (hrow : ∀ b, row = some b → Own h o0 ∧ blk (σ.val o0) = some b)
    (hblk : ∀ b, blk (σ'.val o0) = some b → ((Own h o0 ∧ blk (σ.val o0) = some b) ∨ w.heap.size ≤ b) ∧ b < w'.heap.size)
    (hmen : ∀ o x, H.get o h = some x → o ≠ o0 → o0 ∈ x.ids → SameO σ σ' h h' o0)
    (hobj : ObjRep σ' h' w' o0 obj') :
    Ext σ h w σ' h' w' ∧ Inv σ' h' w' ∧ (∀ a c, (o0 ∈ AV.ids a → SameO σ σ' h h' o0) → RepA σ h w a c → RepA σ' h' w' a c) := by
  have same : ∀ i, i ≠ o0 → SameO σ σ' h h' i := fun i hi => sameO_eq (hget i hi) (hval i hi)
  have live : ∀ o, o ≠ o0 → (Own h' o ↔ Own h o) := fun o ho => own_eq (hget o ho)
  have fzh : ∀ b, σ.fz b → w'.heap[b]? = w.heap[b]? := fun b hb => hg.block b (inv.fzlt b hb) fun e => by
    have := hrow b e.symm
    exact inv.nofz o0 this.1 b this.2 hb
  have fz1 : ∀ b, σ.fz b → σ'.fz b := fun b hb => by rw [hfz]; exact hb
  have keep : ∀ a c, (o0 ∈ AV.ids a → SameO σ σ' h h' o0) → RepA σ h w a c → RepA σ' h' w' a c := fun a c hm r =>
    RepA.mono fz1 fzh a c (fun i hi => by by_cases e : i = o0; (subst e; exact hm hi); exact same i e) r
  have keeps : ∀ a c, (o0 ∈ AV.idsL a → SameO σ σ' h h' o0) → RepAs σ h w a c → RepAs σ' h' w' a c := fun a c hm r =>
    RepAs.mono fz1 fzh a c (fun i hi => by by_cases e : i = o0; (subst e; exact hm hi); exact same i e) r
  have offrow : ∀ o, o ≠ o0 → Own h o → ∀ b, blk (σ.val o) = some b → some b ≠ row := fun o ho l b hb e => by
    have := hrow b e.symm
    exact inv.inj o o0 l this.1 ho b hb this.2
  refine ⟨⟨hg.os, hg.tape, hg.output, hg.size, fz1, fun b hb hn => hg.block b hb fun e => ?_, fun b hb => ?_, fun o b l hb => ?_⟩, ⟨fun o x g => ?_, fun o l b hb => ?_, fun o o' l l' hne b hb => ?_, fun b hb => ?_, hnd⟩, keep⟩
  · have := hrow b e.symm
    exact hn o0 this.1 this.2
  · rw [hfz] at hb; exact .inl hb
  · by_cases e : o = o0
    · subst e
      rcases (hblk b hb).1 with hh | hh
      · exact .inl ⟨o, hh.1, hh.2⟩
      · exact .inr hh
    · rw [hval o e] at hb; exact .inl ⟨o, (live o e).1 l, hb⟩
  · by_cases e : o = o0
    · subst e
      rw [hget0] at g
      obtain rfl := Option.some.inj g
      exact hobj
    · rw [hget o e] at g
      have hr := inv.objs o x g
      cases x with
      | box cs =>
        obtain ⟨b, vs, ty, hv, hb, hc⟩ := hr
        refine ⟨b, vs, ty, by rw [hval o e, hv], ?_, keeps _ _ (fun hi => hmen o _ g e hi) hc⟩
        rw [hg.block b (Array.getElem?_eq_some_iff.1 hb).1 (offrow o e (own_box g) b (by rw [hv]; rfl))]; exact hb
      | row el t xs =>
        obtain ⟨cs, ho, hc⟩ := hr
        refine ⟨cs, ?_, RepPs.mono fz1 fzh hc⟩
        rw [hval o e]
        refine ho.kept hg ?_
        cases hk : (σ.val o).ownBlock with
        | none => exact .inl rfl
        | some b =>
          obtain ⟨a, c, hv⟩ := own_slice ho
          exact .inr (offrow o e (own_row g) b (by rw [blk_own hv]; exact hk))
      | map => exact hr.elim
      | ice t xs =>
        show RepP σ'.fz w' _ (σ'.val o)
        rw [hval o e]
        exact RepP.mono fz1 fzh hr
  · rw [hfz]
    by_cases e : o = o0
    · subst e
      rcases (hblk b hb).1 with hh | hh
      · exact inv.nofz o hh.1 b hh.2
      · intro hf; have := inv.fzlt b hf; omega
    · rw [hval o e] at hb; exact inv.nofz o ((live o e).1 l) b hb
  · by_cases e : o = o0
    · subst e
      have e' : o' ≠ o := Ne.symm hne
      rw [hval o' e']
      intro hb'
      rcases (hblk b hb).1 with hh | hh
      · exact inv.inj o o' hh.1 ((live o' e').1 l') hne b hh.2 hb'
      · have lo := (live o' e').1 l'
        obtain ⟨x, g, hice⟩ := lo
        · have hr := inv.objs o' x g
          cases x with
          | box cs =>
            obtain ⟨b', vs, ty, hv, hbb, -⟩ := hr
            rw [hv] at hb'
            obtain rfl : b' = b := by simpa [blk] using hb'
            have := (Array.getElem?_eq_some_iff.1 hbb).1
            omega
          | row el t xs =>
            obtain ⟨cs, ho, hc⟩ := hr
            obtain ⟨a, c, hv⟩ := own_slice ho
            rw [blk_own hv] at hb'
            have := ho.lt b hb'
            omega
          | map => exact hr.elim
          | ice => cases hice
    · rw [hval o e] at hb
      by_cases e' : o' = o0
      · subst e'
        intro hb'
        rcases (hblk b hb').1 with hh | hh
        · exact inv.inj o o' ((live o e).1 l) hh.1 hne b hb hh.2
        · have lo := (live o e).1 l
          obtain ⟨x, g, hice⟩ := lo
          · have hr := inv.objs o x g
            cases x with
            | box cs =>
              obtain ⟨b', vs, ty, hv, hbb, -⟩ := hr
              rw [hv] at hb
              obtain rfl : b' = b := by simpa [blk] using hb
              have := (Array.getElem?_eq_some_iff.1 hbb).1
              omega
            | row el t xs =>
              obtain ⟨cs, ho, hc⟩ := hr
              obtain ⟨a, c, hv⟩ := own_slice ho
              rw [blk_own hv] at hb
              have := ho.lt b hb
              omega
            | map => exact hr.elim
            | ice => cases hice
      · rw [hval o' e']
        exact inv.inj o o' ((live o e).1 l) ((live o' e').1 l') hne b hb
  · rw [hfz] at hb; exact Nat.lt_of_lt_of_le (inv.fzlt b hb) hg.size

/-- a row becomes a datum -/
theorem frozen {σ : Sg} {h : H} {w : World} (inv : Inv σ h w) {o : Nat} {el0 : Nat} {k : Ty} {xs : List k.den} (g : H.get o h = some (.row el0 k xs)) {F : Nat → Prop} (fz1 : ∀ b, σ.fz b → F b) (hFb : ∀ b, blk (σ.val o) = some b → F b) :
    RepP F w (.sl (xs.map (enc k))) (σ.val o) := by
  obtain ⟨cs, ho, hc⟩ := inv.objs o _ g
  rcases ho.2 with ⟨hv, hl⟩ | ⟨b, cap, cur, hv, -, hh, hle, hcm, hcs, htk⟩
  · obtain rfl := List.eq_nil_of_length_eq_zero hl
    rw [hv]; exact .sl0 none 0
  · have hcell : ∀ j c, cs[j]? = some c → w.cell? ⟨b, j, none⟩ = some c := by rw [hv] at ho; exact rowCells ho
    have hcl : cs.length = xs.length * nCells k := ho.1
    have hFb : F b := hFb b (by rw [hv]; rfl)
    rw [hv, ← List.length_map (f := enc k)]
    refine .sl (xs.map (enc k)) b 0 (nCells k) cap (fun i j => cs.getD (i * nCells k + j) undef) (by rw [List.length_map]; exact hle) hFb (fun e he => ?_) (fun i j hi hj => ?_) (fun i hi j hj => ?_)
    · obtain ⟨x, -, rfl⟩ := List.mem_map.1 he; exact enc_length k x
    · rw [List.length_map] at hi
      have hlt : i * nCells k + j < cs.length := by
        rw [hcl]
        calc i * nCells k + j < i * nCells k + nCells k := by omega
          _ = (i + 1) * nCells k := by rw [Nat.add_mul, Nat.one_mul]
          _ ≤ xs.length * nCells k := Nat.mul_le_mul_right _ hi
      rw [Nat.zero_add]
      apply hcell
      rw [List.getD_eq_getElem?_getD, List.getElem?_eq_getElem hlt]; rfl
    · rw [List.length_map] at hi
      simp only [List.getElem_map] at hj ⊢
      have hx : xs[i]? = some xs[i] := List.getElem?_eq_getElem hi
      have hd := (hc.drop (i * nCells k)).take (nCells k)
      rw [flatMap_drop (enc k) (nCells k) xs (fun x _ => enc_length k x) i _ hx] at hd
      have hj' : j < nCells k := by rw [enc_length] at hj; exact hj
      have hlt : i * nCells k + j < cs.length := by
        rw [hcl]
        calc i * nCells k + j < i * nCells k + nCells k := by omega
          _ = (i + 1) * nCells k := by rw [Nat.add_mul, Nat.one_mul]
          _ ≤ xs.length * nCells k := Nat.mul_le_mul_right _ hi
      refine RepP.mono fz1 (fun _ _ => rfl) (hd.at j _ _ (List.getElem?_eq_getElem hj) ?_)
      rw [List.getElem?_take, if_pos hj', List.getElem?_drop, List.getD_eq_getElem?_getD, List.getElem?_eq_getElem hlt]; rfl

theorem freeze (inv : Inv σ h w) {o : Nat} {el0 : Nat} {k : Ty} {xs : List k.den} (g : H.get o h = some (.row el0 k xs)) :
    ∃ fz' : Nat → Prop, Ext σ h w ⟨σ.val, fz'⟩ (H.put o (.ice k xs) h) w ∧ Inv ⟨σ.val, fz'⟩ (H.put o (.ice k xs) h) w ∧ RepP fz' w (.sl (xs.map (enc k))) (σ.val o) ∧ (∀ b, σ.fz b → fz' b) ∧
      (∀ a c, RepA σ h w a c → RepA ⟨σ.val, fz'⟩ (H.put o (.ice k xs) h) w a c) := by
  have hlt : ∀ b, blk (σ.val o) = some b → b < w.heap.size := by
    intro b hb
    obtain ⟨cs, ho, hc⟩ := inv.objs o _ g
    obtain ⟨a, c, hv⟩ := own_slice ho
    rw [blk_own hv] at hb
    exact (ho.lt b hb).2
  refine ⟨fun b => σ.fz b ∨ blk (σ.val o) = some b, ?_⟩
  have fz1 : ∀ b, σ.fz b → (σ.fz b ∨ blk (σ.val o) = some b) := fun b hb => .inl hb
  have hput : ∀ i, i ≠ o → H.get i (H.put o (.ice k xs) h) = H.get i h := fun i hi => H.get_put_ne _ hi h
  have hput0 : H.get o (H.put o (.ice k xs) h) = some (.ice k xs) := H.get_put_same o _ h
  have hrep := frozen inv g fz1 (fun b hb => .inr hb)
  have same : ∀ i, SameO σ ⟨σ.val, fun b => σ.fz b ∨ blk (σ.val o) = some b⟩ h (H.put o (.ice k xs) h) i := fun i => by
    by_cases e : i = o
    · subst e; exact .inr ⟨live_of g, rfl, fun el t xs hx => by rw [hput0] at hx; cases hx⟩
    · exact sameO_eq (hput i e) rfl
  have live : ∀ i, Own (H.put o (.ice k xs) h) i → Own h i ∧ i ≠ o := fun i l => by
    by_cases e : i = o
    · subst e
      obtain ⟨x, gx, hx⟩ := l
      rw [hput0] at gx
      obtain rfl := Option.some.inj gx
      cases hx
    · exact ⟨(own_eq (hput i e)).1 l, e⟩
  have keep : ∀ a c, RepA σ h w a c → RepA ⟨σ.val, fun b => σ.fz b ∨ blk (σ.val o) = some b⟩ (H.put o (.ice k xs) h) w a c := fun a c r =>
    RepA.mono fz1 (fun _ _ => rfl) a c (fun i _ => same i) r
  refine ⟨⟨rfl, rfl, rfl, Nat.le_refl _, fz1, fun _ _ _ => rfl, fun b hb => ?_, fun i b l hb => .inl ⟨i, (live i l).1, hb⟩⟩, ⟨fun i x gi => ?_, fun i l b hb hf => ?_, fun i i' l l' hne b hb => inv.inj i i' (live i l).1 (live i' l').1 hne b hb, fun b hb => ?_, H.nodup_put o _ h inv.nodup⟩, hrep, fz1, keep⟩
  · rcases hb with hb | hb
    · exact .inl hb
    · exact .inr (.inl ⟨o, own_row g, hb⟩)
  · by_cases ie : i = o
    · subst ie
      rw [hput0] at gi
      obtain rfl := Option.some.inj gi
      exact hrep
    · rw [hput i ie] at gi
      have hr := inv.objs i x gi
      cases x with
      | box cs =>
        obtain ⟨b, vs, ty, hv, hb, hc⟩ := hr
        exact ⟨b, vs, ty, hv, hb, RepAs.mono fz1 (fun _ _ => rfl) _ _ (fun i _ => same i) hc⟩
      | row el t xs =>
        obtain ⟨cs, ho, hc⟩ := hr
        exact ⟨cs, ho, RepPs.mono fz1 (fun _ _ => rfl) hc⟩
      | map => exact hr.elim
      | ice t xs => exact RepP.mono fz1 (fun _ _ => rfl) hr
  · rcases hf with hf | hf
    · exact inv.nofz i (live i l).1 b hb hf
    · exact inv.inj i o (live i l).1 (own_row g) (live i l).2 b hb hf
  · rcases hb with hb | hb
    · exact inv.fzlt b hb
    · exact hlt b hb
end
end Go.Proofs.Ytdfjdbpklbehoaa.Ev
