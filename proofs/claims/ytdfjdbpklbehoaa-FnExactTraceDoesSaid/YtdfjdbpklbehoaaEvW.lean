/- What functions tell, out of their bodies: functions that write a box of the caller's. Conditions as in the text before. -/
import Derived.Test.YtdfjdbpklbehoaaEvV
namespace Go.Proofs.Ytdfjdbpklbehoaa.Ev
open Go

theorem finM_some {R : Type} {rs : RS} {ts : List Ty} {κ : AV → Dens ts → Option R} {v : AV} {t : T} {h : H} {r : R} (e : finM rs ts κ v t h = some r) :
    ∃ cs d v', t = [.ptr 0 0] ∧ H.get 0 h = some (.box cs) ∧ densOf ts cs = some d ∧ coeRes (getV (H.del 0 h)) rs v = some v' ∧ κ v' d = some r := by
  unfold finM at e
  split at e
  · split at e
    · rename_i o off
      obtain ⟨hb, e⟩ := cond_some e
      simp only [Bool.and_eq_true] at hb
      obtain rfl := nbeq_eq.1 hb.1
      obtain rfl := nbeq_eq.1 hb.2
      split at e
      · rename_i cs hg
        split at e
        · rename_i d hd
          split at e
          · rename_i v' hv
            exact ⟨cs, d, v', rfl, hg, hd, hv, e⟩
          · cases e
        · cases e
      · cases e
    · cases e
  · cases e

theorem del_less {h : H} (n : NoD h) (o : Nat) : Less (H.del o h) h :=
  ⟨H.nodup_del o h n, fun i => by
    by_cases e : i = o
    · subst e; exact .inl (H.get_del_same i h n)
    · exact .inr (H.get_del_ne e h)⟩

section
variable {E : Env} {dep : Nat}

theorem call_box {ts tr : List Ty} {callI : CallI (AV × Dens ts)} (hΦ : SoundΦ E) (hP : OkP E.P) (hI : CallISound E.P callI) {k : Nat} {f : Func} (hf : E.P.funcs[k]? = some f) {vw : View} {h : H} (hs : Shows vw h)
    {o : Nat} {rest : List AV} {cs : List AV} (ho : vw o = some (.box cs)) {d0 : Dens ts} (hd0 : densOf ts cs = some d0) {d : Dens tr} {u : Upd} (hr : coeD tr vw rest = some (d, u)) (hu : u.any (fun p => Nat.beq p.1 o) = false)
    {v' : AV} {d1 : Dens ts} {rs : RS} (e : evBody E callI dep k f (.ptr 0 0 :: avs tr d) [.ptr 0 0] [(0, .box (avs ts d0))] (finM rs ts fun v d => some (v, d)) = some (v', d1)) (site : Nat) :
    Callable E.P k ∧ CallSim E.P k (.ptr o 0 :: rest) site h v' (u ++ [(o, some (.box (avs ts d1)))]) [] := by
  refine ⟨⟨f, hf, hP.names k f hf, by obtain ⟨c, hc⟩ := body_some e; rw [hc]; rfl⟩, ?_⟩
  intro _ σ w cargs inv r
  have hgo := hs _ _ ho
  obtain ⟨l, hl, hd⟩ := coeD_some hr
  match hca : cargs.toList, r with
  | c0 :: crest, r =>
  obtain ⟨ra, rr⟩ := r
  obtain ⟨fz', co, r0, -⟩ := coeArgs_sound hl hs inv rr
  have hgo1 : H.get o (H.apply h u) = some (.box cs) := by rw [get_dels co.dels h o hu]; exact hgo
  obtain ⟨b, hb, hc0⟩ := ra.2 (live_of hgo)
  obtain ⟨b', vs, ty, hb', hh, hrep⟩ := co.inv.objs _ _ hgo1
  have hb'' : σ.val o = .pointer (some ⟨b', 0, none⟩) := hb'
  rw [hb] at hb''
  obtain rfl : b = b' := by simpa using hb''
  have hblt : b < w.heap.size := (Array.getElem?_eq_some_iff.1 hh).1
  -- the callee's own view
  let σ₀ : Sg := ⟨fun _ => .pointer (some ⟨b, 0, none⟩), fz'⟩
  have g0 : H.get 0 [(0, Obj.box (avs ts d0))] = some (.box (avs ts d0)) := rfl
  have hcells : RepAs σ₀ [(0, .box (avs ts d0))] w (avs ts d0) vs.toList := repAs_noids (σ := ⟨σ.val, fz'⟩) (σ' := σ₀) (fun _ h => h) (fun _ _ => rfl) (avs_ids _ _) (densOf_rep hd0 hrep)
  have own0 : ∀ i, Own [(0, Obj.box (avs ts d0))] i → i = 0 := fun i l => by
    obtain ⟨x, gx, -⟩ := l
    by_cases hi : i = 0
    · exact hi
    · simp [H.get, nbeq_ne.2 (Ne.symm hi)] at gx
  have inv0 : Inv σ₀ [(0, .box (avs ts d0))] w := by
    refine ⟨fun i x gx => ?_, fun i l b1 hb1 hf1 => ?_, fun i i' l l' hne => absurd ((own0 i l).trans (own0 i' l').symm) hne, co.inv.fzlt, by simp⟩
    · by_cases hi : i = 0
      · subst hi
        rw [g0] at gx
        obtain rfl := Option.some.inj gx
        exact ⟨b, vs, ty, rfl, hh, hcells⟩
      · simp [H.get, nbeq_ne.2 (Ne.symm hi)] at gx
    · have : b1 = b := by simp [σ₀, blk] at hb1; exact hb1.symm
      subst this
      exact co.inv.nofz o (own_box hgo1) b1 (by show blk (σ.val o) = _; rw [hb]; rfl) hf1
  have rep0 : RepA σ₀ [(0, .box (avs ts d0))] w (.ptr 0 0) c0 := ⟨ra.1, fun _ => ⟨b, rfl, hc0⟩⟩
  have h2 := (body_sound hΦ hP hI hf e (σ := σ₀) (cargs := cargs) inv0 (by rw [hca]; exact ⟨rep0, repAs_noids (σ := ⟨σ.val, fz'⟩) (σ' := σ₀) (fun _ h => h) (fun _ _ => rfl) (avs_ids _ _) (densOf_rep hd r0)⟩) (vals := [c0]) ⟨rep0, trivial⟩).2
  refine h2.mono ?_
  rintro e' w' ⟨cv, σ₁, v₁, t₁, h₁, rfl, hk, hext, hinv, hrv, hrt⟩
  obtain ⟨cs1, d1', v₂, rfl, hg1, hd1, hv, hk⟩ := finM_some hk
  obtain ⟨hk1, hk2⟩ := Prod.mk.inj (Option.some.inj hk)
  subst hk1
  rw [hk2] at hd1
  have hc0' := hrt.1.2 (live_of hg1)
  obtain ⟨b2, hv2, hcc⟩ := hc0'
  rw [hc0] at hcc
  obtain rfl : b = b2 := by simpa using hcc
  obtain ⟨b3, vs1, ty1, hv3, hh1, hrep1⟩ := hinv.objs _ _ hg1
  rw [hv2] at hv3
  obtain rfl : b = b3 := by simpa using hv3
  have hless := del_less hinv.nodup 0
  obtain ⟨F, f1, f2, f3, hn2, f4⟩ := coeRes_sound (hless.inv hinv) hv (hless.rep hrv)
  have ownD : ∀ i, Own (H.del 0 h₁) i → i ≠ 0 := fun i l hi => by
    subst hi
    obtain ⟨x, gx, -⟩ := l
    rw [H.get_del_same 0 h₁ hinv.nodup] at gx; cases gx
  have hFb : ¬ F b := fun hF => by
    rcases f2 b hF with hF | ⟨i, l, eb⟩
    · exact hinv.nofz 0 (own_box hg1) b (by rw [hv2]; rfl) hF
    · exact hinv.inj i 0 (hless.own l) (own_box hg1) (ownD i l) b eb (by rw [hv2]; rfl)
  have blk0 : ∀ i b1, Own [(0, Obj.box (avs ts d0))] i → blk (σ₀.val i) = some b1 → b1 = b := fun i b1 _ hb1 => by simp [σ₀, blk] at hb1; exact hb1.symm
  have hFnew : ∀ b1, F b1 → fz' b1 ∨ w.heap.size ≤ b1 := fun b1 hF => by
    have hne : b1 ≠ b := fun e => hFb (e ▸ hF)
    rcases f2 b1 hF with hF | ⟨i, l, eb⟩
    · rcases hext.fznew b1 hF with h3 | ⟨i, l, eb⟩ | h3
      · exact .inl h3
      · exact absurd (blk0 i b1 l eb) hne
      · exact .inr h3
    · rcases hext.live i b1 (hless.own l) eb with ⟨i', l', eb'⟩ | h3
      · exact absurd (blk0 i' b1 l' eb') hne
      · exact .inr h3
  have hgr : w.grownBy w' (some b) := ⟨hext.os, hext.tape, hext.output, hext.size, fun b1 hb1 hne => hext.blocks b1 hb1 fun i l hb2 => hne (by rw [blk0 i b1 l hb2])⟩
  have hbo : blk (σ.val o) = some b := by rw [hb]; rfl
  have fzF : ∀ b1, fz' b1 → F b1 := fun b1 h3 => f1 b1 (hext.fz b1 h3)
  have fzh : ∀ b1, fz' b1 → w'.heap[b1]? = w.heap[b1]? := fun b1 h3 => hgr.block b1 (co.inv.fzlt b1 h3) fun e => by
    obtain rfl := Option.some.inj e
    exact co.inv.nofz o (own_box hgo1) b1 hbo h3
  have hget : ∀ i, i ≠ o → H.get i (H.put o (.box (avs ts d1)) (H.apply h u)) = H.get i (H.apply h u) := fun i hi => H.get_put_ne _ hi _
  have hget0 : H.get o (H.put o (.box (avs ts d1)) (H.apply h u)) = some (.box (avs ts d1)) := H.get_put_same o _ _
  have own : ∀ i, Own (H.put o (.box (avs ts d1)) (H.apply h u)) i → Own (H.apply h u) i := fun i l => by
    by_cases e : i = o
    · subst e; exact own_box hgo1
    · exact (own_eq (hget i e)).1 l
  have same : ∀ i, SameO ⟨σ.val, fz'⟩ ⟨σ.val, F⟩ (H.apply h u) (H.put o (.box (avs ts d1)) (H.apply h u)) i := fun i => by
    by_cases e : i = o
    · subst e
      exact .inr ⟨live_of hgo1, rfl, fun el t xs hx => by rw [hget0] at hx; cases hx⟩
    · exact sameO_eq (hget i e) rfl
  have off : ∀ i, i ≠ o → Own (H.apply h u) i → ∀ b1, blk (σ.val i) = some b1 → some b1 ≠ some b := fun i hi l b1 hb1 e => by
    obtain rfl := Option.some.inj e
    exact co.inv.inj i o l (own_box hgo1) hi b1 hb1 hbo
  have happ : H.apply h (u ++ [(o, some (.box (avs ts d1)))]) = H.put o (.box (avs ts d1)) (H.apply h u) := by rw [apply_append]; rfl
  have inv2 : Inv ⟨σ.val, F⟩ (H.put o (.box (avs ts d1)) (H.apply h u)) w' := by
    refine ⟨fun i x g => ?_, fun i l b1 hb1 hF => ?_, fun i i' l l' hne b1 hb1 => co.inv.inj i i' (own i l) (own i' l') hne b1 hb1, f3, H.nodup_put _ _ _ co.inv.nodup⟩
    · by_cases e : i = o
      · subst e
        rw [hget0] at g
        obtain rfl := Option.some.inj g
        exact ⟨b, vs1, ty1, hb, hh1, repAs_noids (σ := σ₁) (σ' := ⟨σ.val, F⟩) f1 (fun _ _ => rfl) (avs_ids _ _) (densOf_rep hd1 hrep1)⟩
      · rw [hget i e] at g
        have h3 := co.inv.objs i x g
        cases x with
        | box cs' =>
          obtain ⟨b1, vs', ty', q1, q2, q3⟩ := h3
          refine ⟨b1, vs', ty', q1, ?_, RepAs.mono fzF fzh _ _ (fun i _ => same i) q3⟩
          rw [hgr.block b1 (Array.getElem?_eq_some_iff.1 q2).1 (off i e (own_box g) b1 (by show blk (σ.val i) = _; rw [show σ.val i = _ from q1]; rfl))]; exact q2
        | row el t xs =>
          obtain ⟨cs', q1, q2⟩ := h3
          refine ⟨cs', q1.kept hgr ?_, RepPs.mono fzF fzh q2⟩
          cases hk : (σ.val i).ownBlock with
          | none => exact .inl rfl
          | some b1 =>
            obtain ⟨av, cc, hv'⟩ := own_slice q1
            exact .inr (off i e (own_row g) b1 (by rw [blk_own hv']; exact hk))
        | map _ _ _ => exact h3
        | ice t xs => exact RepP.mono fzF fzh h3
    · by_cases e : i = o
      · subst e
        have hb1 : blk (σ.val i) = some b1 := hb1
        rw [hbo] at hb1
        obtain rfl := Option.some.inj hb1
        exact hFb hF
      · rcases hFnew b1 hF with h3 | h3
        · exact co.inv.nofz i (own i l) b1 hb1 h3
        · have := live_lt co.inv (own i l) hb1
          omega
  refine ⟨cv, ⟨σ.val, F⟩, rfl, ?_, ?_, ?_, ?_⟩
  · show Ext σ h w _ (H.apply h (u ++ _)) w'
    rw [happ]
    refine co.ext.trans ⟨hgr.os, hgr.tape, hgr.output, hgr.size, fzF, fun b1 hb1 hn => hgr.block b1 hb1 fun e => ?_, fun b1 hF => ?_, fun i b1 l eb => .inl ⟨i, own i l, eb⟩⟩
    · obtain rfl := Option.some.inj e
      exact hn o (own_box hgo1) hbo
    · rcases hFnew b1 hF with h3 | h3
      · exact .inl h3
      · exact .inr (.inr h3)
  · show Inv _ (H.apply h (u ++ _)) w'
    rw [happ]; exact inv2
  · exact f4 _ _
  · intro a c _ ra
    show RepA _ (H.apply h (u ++ _)) w' _ _
    rw [happ]
    exact RepA.mono (σ := ⟨σ.val, fz'⟩) (σ' := ⟨σ.val, F⟩) fzF fzh a c (fun i _ => same i) (co.keep a c ra)
end

theorem boxD_some {ts tr : List Ty} {vw : View} {args : List AV} {o : Nat} {d0 : Dens ts} {d : Dens tr} {u : Upd} (e : boxD ts tr vw args = some (o, d0, d, u)) :
    ∃ rest cs, args = .ptr o 0 :: rest ∧ vw o = some (.box cs) ∧ densOf ts cs = some d0 ∧ coeD tr vw rest = some (d, u) ∧ u.any (fun p => Nat.beq p.1 o) = false := by
  unfold boxD at e
  split at e
  · split at e
    · rename_i rest a o' off
      replace e := cond_some e
      obtain ⟨hb, e⟩ := e
      obtain rfl := nbeq_eq.1 hb
      split at e
      · rename_i cs hg
        split at e
        · rename_i d0' hd0
          split at e
          · rename_i d' u' hd
            replace e := cond_none e
            obtain ⟨hu, e⟩ := e
            replace e := Option.some.inj e
            obtain ⟨rfl, rfl, rfl, rfl⟩ : o' = o ∧ d0' = d0 ∧ d' = d ∧ u' = u := by simpa using e
            exact ⟨rest, cs, rfl, hg, hd0, hd, hu⟩
          · cases e
        · cases e
      · cases e
    · cases e
  · cases e

theorem finB_some {ts : List Ty} {v : AV} {t : T} {h : H} {d : Dens ts} (e : finB ts some v t h = some d) : ∃ s0 cs, v = .ptr s0 0 ∧ H.get s0 h = some (.box cs) ∧ densOf ts cs = some d := by
  unfold finB at e
  split at e
  · rename_i s off
    obtain ⟨hb, e⟩ := cond_some e
    obtain rfl := nbeq_eq.1 hb
    split at e
    · rename_i cs hg
      split at e
      · rename_i d' hd
        obtain rfl := Option.some.inj e
        exact ⟨s, cs, rfl, hg, hd⟩
      · cases e
    · cases e
  · cases e

section
variable {E : Env} {dep : Nat}
/-- a function of data that hands back a new box -/
theorem call_newbox {ts tb : List Ty} {callI : CallI (Dens tb)} (hΦ : SoundΦ E) (hP : OkP E.P) (hI : CallISound E.P callI) {k : Nat} {f : Func} (hf : E.P.funcs[k]? = some f) {vw : View} {h : H} (hs : Shows vw h) {args : List AV} {d : Dens ts} {u : Upd} (ha : coeD ts vw args = some (d, u))
    {d1 : Dens tb} (e : evBody E callI dep k f (avs ts d) [] [] (finB tb some) = some d1) (site : Nat) :
    Callable E.P k ∧ CallSim E.P k args site h (.ptr site 0) (u ++ [(site, some (.box (avs tb d1)))]) [] := by
  refine ⟨⟨f, hf, hP.names k f hf, by obtain ⟨c, hc⟩ := body_some e; rw [hc]; rfl⟩, ?_⟩
  intro hsite σ w cargs inv r
  have hsite := hsite ⟨_, List.mem_append_right _ (List.mem_singleton.2 rfl)⟩
  obtain ⟨l, hl, hd⟩ := coeD_some ha
  obtain ⟨fz', co, r0, hn⟩ := coeArgs_sound hl hs inv r
  have r0 : RepAs ⟨σ.val, fz'⟩ [] w (avs ts d) cargs.toList := repAs_noids (fun _ h => h) (fun _ _ => rfl) (avs_ids _ _) (densOf_rep hd r0)
  have h2 := (body_sound hΦ hP hI hf e (σ := ⟨σ.val, fz'⟩) (nil_inv co.inv.fzlt) r0 (vals := []) trivial).2
  refine h2.mono ?_
  rintro e' w' ⟨cv, σ₁, v₁, t₁, h₁, rfl, hk, hext, hinv, hrep, -⟩
  obtain ⟨s0, cs1, rfl, hv, hd1⟩ := finB_some hk
  obtain ⟨g1, g2, g3, g4⟩ := data_post inv co hext hinv (F := σ₁.fz) (fun _ h => h) (fun _ h => .inl h) hinv.fzlt
  obtain ⟨b, hval, hcv⟩ := hrep.2 (live_of hv)
  obtain ⟨b', vs, ty, hval', hheap, hreps⟩ := hinv.objs _ _ hv
  have hvv := hval'
  rw [hval] at hvv
  obtain rfl : b = b' := by simpa using hvv
  have hcv' : cv = σ₁.val s0 := by rw [hval, hcv]
  have happ : H.apply h (u ++ [(site, some (.box (avs tb d1)))]) = H.put site (.box (avs tb d1)) (H.apply h u) := by rw [apply_append]; rfl
  have hnew : ∀ b, blk cv = some b → w.heap.size ≤ b := by
    intro b hb
    rcases hext.live s0 b (own_box hv) (by rw [← hcv']; exact hb) with ⟨o', l', -⟩ | hb
    · exact (nil_own l').elim
    · exact hb
  have hsn : site ∉ H.ids (H.apply h u) := fun hi => hsite.1 (co.ids site hi)
  obtain ⟨k1, k2⟩ := add_obj g2 hsn (.box (avs tb d1)) cv ⟨b, vs, ty, by rw [Sg.set_same, hcv], hheap, repAs_noids (σ := σ₁) (σ' := Sg.set ⟨σ.val, σ₁.fz⟩ site cv) (fun _ h => h) (fun _ _ => rfl) (avs_ids _ _) (densOf_rep hd1 hreps)⟩ (fun b hb => ⟨hinv.nofz s0 (own_box hv) b (by rw [← hcv']; exact hb), fun o l hb' => by
    have h1 := live_lt co.inv l hb'
    have h2 := hnew b hb
    omega⟩)
  refine ⟨cv, Sg.set ⟨σ.val, σ₁.fz⟩ site cv, rfl, ?_, ?_, ?_, ?_⟩
  · show Ext σ h w _ (H.apply h (u ++ _)) w'
    rw [happ]
    refine ⟨g1.os, g1.tape, g1.output, g1.size, g1.fz, g1.blocks, g1.fznew, fun o b l hb => ?_⟩
    by_cases e : o = site
    · subst e
      rw [Sg.set_same] at hb
      exact .inr (hnew b hb)
    · rw [Sg.set_ne _ _ e] at hb
      exact g1.live o b ((own_eq (H.get_put_ne _ e _)).1 l) hb
  · show Inv _ (H.apply h (u ++ _)) w'
    rw [happ]; exact k1
  · show RepA _ (H.apply h (u ++ _)) w' _ _
    rw [happ]
    exact ⟨hrep.1, fun _ => ⟨b, by rw [Sg.set_same, hcv], hcv⟩⟩
  · intro b c hbn r
    show RepA _ (H.apply h (u ++ _)) w' _ _
    rw [happ]
    exact k2 b c (fun hi => (hbn site hi).2 rfl _ (List.mem_append_right _ (List.mem_singleton.2 rfl))) (g3 b c r)
end
end Go.Proofs.Ytdfjdbpklbehoaa.Ev
