/-
  The worker's turns; no condition but what each law names.
  The worker's select; the meeting; no condition but what each law names.
  Goroutine 0's turns; no condition but what each law names.
-/
import Derived.Test.YtcdhmnefmbcmaaaJam
namespace Go.Proofs.Ytcdhmnefmbcmaaa
open Go Go.Conc
open Go.ConcN (sumTo upd sumTo_upd upd_ne upd_same)

/-- from wherever the two stand so -/
def All (C : Cx) (Fin : Nat → Goroutine → Own C.SR → Prop) (ms : MS) (ws : WS) (k kW : Nat) (a0 b0 : Goroutine) (oM oW : Own C.SR) : Prop :=
  ∀ {gs : Array Goroutine} {w : World} {sl : Option (Nat × Nat)} {t : Trace} {q : Nat → Nat} {a b : Goroutine} {OW : Nat → Prop} {dW : Nat}, St C ms ws k kW a0 b0 oM oW gs w t q a b OW dW → Reach C Fin gs w sl t

theorem PW.run {C : Cx} {ws : WS} {k : Nat} {b : Goroutine} {o : Own C.SR} (h : PW C ws k b o) (hq : ws ≠ .quit) : b.status = .running := by
  cases h <;> first | assumption | exact absurd rfl hq

section
variable {C : Cx} {Fin : Nat → Goroutine → Own C.SR → Prop} {ms : MS} {ws : WS} {k kW : Nat} {a0 b0 b0' : Goroutine} {oM oW oW' : Own C.SR} {gs : Array Goroutine} {w w' : World} {sl' : Option (Nat × Nat)} {t : Trace} {q : Nat → Nat} {a b : Goroutine} {OW : Nat → Prop} {dW : Nat}

theorem St.sy_keep (h : St C ms ws k kW a0 b0 oM oW gs w t q a b OW dW) {x : Nat} (hx : C.SY x) : x < w.heap.size ∧ ¬ OW x ∧ ¬ oM.O x ∧ ¬ C.SR x :=
  ⟨(h.cf.sy x hx).1, fun y => (h.cf.ow x y).2.2.1 hx, fun y => (h.cf.om x y).2.2.2.1 hx, fun y => (h.cf.sr x y).2.1 hx⟩

theorem tj_priv {s : Bool} (h : St C ms (.work s) k kW a0 b0 oM oW gs w t q a b OW dW) (hb : b.status = .running) {o' : Own C.SR} {es : Array Event} (hs : stepG C.P false b0 w = .go b0' w' es) (hp : PStep oW o' w w' es) (hr : b0'.status = .running)
    (ih : All C Fin ms (.work s) k kW a0 b0' oM o') : Turn C Fin gs w sl' t C.j := by
  have hbk := h.bok (by simp)
  have kp : ∀ x, C.SY x → w'.heap[x]? = w.heap[x]? := fun x hx => hp.keep x (h.sy_keep hx).1 fun y => (h.sy_keep hx).2.1 (h.ow x y)
  obtain ⟨gs', t', a', dW', h1, h2, h3⟩ := st_moveJ (sl' := sl') (OW' := fun x => OW x ∨ (w.heap.size ≤ x ∧ x < w'.heap.size)) (oW' := o') (ws' := .work s) (kW' := kW) h (hbk.sm hb) hs (fun _ => hr) hp.sz (fun x hx hO hS => hp.keep x hx fun y => hO (h.ow x y)) hp.same
    (fun _ => Iff.rfl) (hp.evJ h.cf h.ow) (fun x hx => ((hp.O' x).1 hx).imp (h.ow x) id) (fun _ => hp.I') (fun e => by rw [deaf_pstep hp]; exact h.dw e) (fun e => by cases e) (h.c1.keep (kp _ (sy_bc C))) (h.c2.keep (kp _ (sy_bs C))) (h.wg.keep (kp _ (sy_wg C))) h.kk (fun e => by cases e)
    (aok_wake h.aok fun _ _ => h.c1.keep (kp _ (sy_bc C))).1 (.inr hr)
  exact ⟨gs', w', t', h1, h2, ih h3⟩

theorem closeCh_of {c : Nat} (h : ChAt w c false) : ∃ w', closeCh w c w' := by obtain ⟨s, hs⟩ := h; exact ⟨_, s, hs, rfl⟩
theorem closeCh_facts {c : Nat} (h : closeCh w c w') : ChAt w' c true ∧ w'.heap.size = w.heap.size ∧ (∀ x, x ≠ c → w'.heap[x]? = w.heap[x]?) ∧ w'.tape = w.tape ∧ w'.os = w.os ∧ w'.output = w.output := by
  obtain ⟨s, hs, rfl⟩ := h
  have hlt := (Array.getElem?_eq_some_iff.1 hs).1
  exact ⟨⟨s, by simp [hlt]⟩, by simp, fun x hx => by simp only; rw [Array.getElem?_setIfInBounds_ne (Ne.symm hx)], rfl, rfl, rfl⟩
theorem mayWake_sm {P : Program} (h : Sm b b0) : mayWake P b = mayWake P b0 := by unfold mayWake; rw [h.1]
theorem deaf_close {c : Nat} {es : Array Event} (h : CloseEv c es) (d : Nat) : deafBehind d es = d := deafBehind_still (fun e he => by rcases h e he with rfl | rfl <;> simp) d

theorem tj_clo {s : Bool} (h : St C ms (.work s) k kW a0 b0 oM oW gs w t q a b OW dW) (hb : b.status = .running) {es : Array Event} (hr : b0'.status = .running) (hmw : mayWake C.P b0 = true) (hk : s = true ∨ kW = C.N) (hce : CloseEv C.bc es)
    (hs : ∀ w w', oW.I w → closeCh w C.bc w' → stepG C.P false b0 w = .go b0' w' es) (ih : All C Fin ms .fin0 k kW a0 b0' oM oW) : Turn C Fin gs w sl' t C.j := by
  have hbk := h.bok (by simp)
  have hsm := hbk.sm hb
  obtain ⟨w', hw'⟩ := closeCh_of h.c1
  obtain ⟨f1, f2, f3, f4, f5, f6⟩ := closeCh_facts hw'
  have hwk : woken C.P b b0' w' a = a.again w' := by
    unfold woken
    rw [mayWake_sm hsm, hmw, hr]; rfl
  have haok : AOk C ms .fin0 oM (woken C.P b b0' w' a) a0 := by
    rcases h.aok with ⟨h1, h2⟩ | ⟨h1, h2, z, rfl, h3⟩ | ⟨h1, h2, h3, h4, h5⟩
    · rw [woken_run h1]; exact .inl ⟨h1, h2⟩
    · rw [hwk]
      obtain ⟨s', hs'⟩ := f1
      rw [again_recv_closed hs']
      exact .inl ⟨rfl, rfl, rfl, rfl⟩
    · rcases woken_off (P := C.P) (g := b) (g' := b0') (w' := w') h3 h4 with e | e
      · rw [e]; exact .inr (.inr ⟨h1, by simp, h3, h4, h5⟩)
      · rw [e]; exact .inl ⟨rfl, h5⟩
  obtain ⟨gs', t', a', dW', h1, h2, h3⟩ := st_moveJ (sl' := sl') (OW' := OW) (oW' := oW) (ws' := .fin0) (kW' := kW) h hsm (hs w w' (h.iw (by simp)) hw') (fun _ => hr) (by rw [f2]; exact Nat.le_refl _) (fun x hx hO hS => f3 x fun e => hS (by rw [e]; exact sy_bc C)) ⟨f4, f5, f6⟩
    (fun x => ⟨.inl, fun y => y.elim id fun z => by omega⟩) (fun e he => evJ_sync (sy_bc C) (h.sy_keep (sy_bc C)).2.1 (h.sy_keep (sy_bc C)).2.2.2 (by rw [f2]; exact (h.sy_keep (sy_bc C)).1) ((hce e he).elim (fun x => .inr (.inl x)) (fun x => .inr (.inr x)))) h.ow
    (fun _ => oW.st w w' (h.iw (by simp)) (fun x hx => f3 x fun e => by
      rcases hx with hx | hx
      · exact (h.sy_keep (sy_bc C)).2.1 (by rw [← e]; exact h.ow x hx)
      · exact (h.sy_keep (sy_bc C)).2.2.2 (by rw [← e]; exact hx)) (by rw [f2]; exact Nat.le_refl _) f4 f5)
    (fun e => by rw [deaf_close hce]; exact h.dw (by simp)) (fun e => by cases e) f1 (h.c2.keep (f3 _ (Ne.symm h.ne.1))) (by have := h.wg.keep (f3 _ h.ne.2.1); exact this)
    (fun e => ⟨fun s e => (by cases e), fun _ => by
      obtain ⟨q1, q2⟩ := (h.kk e).1 s rfl
      rcases hk with hk | hk
      · rw [q2] at hk; cases hk
      · rw [← q1]; exact hk⟩) (fun e => by cases e) haok (.inr hr)
  exact ⟨gs', w', t', h1, h2, ih h3⟩

/-- a step of the worker's that lists nothing -/
theorem tj_free (hf : ws.free = true) (h : St C ms ws k kW a0 b0 oM oW gs w t q a b OW dW) (hb : b.status = .running) (hr : b0'.status = .running) (hs : stepG C.P false b0 w = .go b0' w #[]) (ih : All C Fin ms ws k kW a0 b0' oM oW) : Turn C Fin gs w sl' t C.j := by
  have hq : ws ≠ .quit := fun e => by rw [e] at hf; cases hf
  have hnw : ∀ s, ws ≠ .work s := fun s e => by rw [e] at hf; cases hf
  have hsm := (h.bok hq).sm hb
  obtain ⟨gs', t', a', dW', h1, h2, h3⟩ := st_moveJ (sl' := sl') (OW' := OW) (oW' := oW) (ws' := ws) (kW' := kW) h hsm hs (fun _ => hr) (Nat.le_refl _) (fun _ _ _ _ => rfl) ⟨rfl, rfl, rfl⟩ (fun x => ⟨.inl, fun y => y.elim id fun z => by omega⟩) (fun e he => by simp at he) h.ow h.iw
    (fun e => h.dw e) (fun e => absurd e hq) h.c1 h.c2 h.wg h.kk (rel_other h.rel fun op hop => by obtain ⟨e, he, _⟩ := Go.Conc.mem_ofEvents hop; simp at he) (aok_wake h.aok fun _ e => h.c1.keep rfl |> fun x => by rw [e] at x; exact x).1 (.inr hr)
  exact ⟨gs', w, t', h1, h2, ih h3⟩

/-- a step of the worker's that lists one mark -/
theorem tj_mark {ws' : WS} {m : Mark} (hf : ws.free = true) (hf' : ws'.free = true) (h : St C ms ws k kW a0 b0 oM oW gs w t q a b OW dW) (hb : b.status = .running) (hr : b0'.status = .running) (hs : ∀ w, Live C w → stepG C.P false b0 w = .go b0' w #[mkS m])
    (hm : (MemAct.mark m).touch? = none ∧ m ≠ .release (stC C.wg) ∧ (MemAct.mark m).low w.heap.size) (hd : deafBehind ws.deaf #[mkS m] = ws'.deaf) (hw : ∀ w, WgOk C ms ws w → WgOk C ms ws' w)
    (hrel : ws'.rel = true → ∃ r, RelAt C (t ++ MemOp.ofEvents C.j b.frame.fn b.frame.place #[mkS m]) r) (ih : All C Fin ms ws' k kW a0 b0' oM oW) : Turn C Fin gs w sl' t C.j := by
  have hq : ws ≠ .quit := fun e => by rw [e] at hf; cases hf
  have hq' : ws' ≠ .quit := fun e => by rw [e] at hf'; cases hf'
  have hw1 : ws.isWork = false := by cases ws <;> first | rfl | cases hf
  have hw2 : ws'.isWork = false := by cases ws' <;> first | rfl | cases hf'
  have hsm := (h.bok hq).sm hb
  have haok : AOk C ms ws' oM (woken C.P b b0' w a) a0 := by
    rcases h.aok with ⟨h1, h2⟩ | ⟨_, h2, _⟩ | ⟨h1, h2, h3, h4, h5⟩
    · rw [woken_run h1]; exact .inl ⟨h1, h2⟩
    · rw [hw1] at h2; cases h2
    · rcases woken_off (P := C.P) (g := b) (g' := b0') (w' := w) h3 h4 with e | e
      · rw [e]; exact .inr (.inr ⟨h1, hq', h3, h4, h5⟩)
      · rw [e]; exact .inl ⟨rfl, h5⟩
  obtain ⟨gs', t', a', dW', h1, h2, h3⟩ := st_moveJ (sl' := sl') (OW' := OW) (oW' := oW) (ws' := ws') (kW' := kW) h hsm (hs w h.wg.live) (fun _ => hr) (Nat.le_refl _) (fun _ _ _ _ => rfl) ⟨rfl, rfl, rfl⟩ (fun x => ⟨.inl, fun y => y.elim id fun z => by omega⟩)
    (fun e he => by simp at he; subst he; exact evJ_mark hm.1 hm.2.1 hm.2.2) h.ow (fun _ => h.iw (.inr trivial)) (fun _ => by rw [h.dw hq]; exact hd) (fun e => absurd e hq') (by have := h.c1; rw [hw1] at this; rw [hw2]; exact this) h.c2 (hw w h.wg)
    (fun e => ⟨fun s e2 => (by rw [e2] at hf'; cases hf'), fun _ => (h.kk e).2 hw1⟩) hrel haok (.inr hr)
  exact ⟨gs', w, t', h1, h2, ih h3⟩

/-- a step of the worker's on the group's cells -/
theorem tj_wg {ws' : WS} {es : Array Event} (hf : ws.free = true) (hf2 : ws.deaf = 1) (hrl : ws.rel = true) (hf' : ws'.isWork = false) (_ : ws'.rel = true) (h : St C ms ws k kW a0 b0 oM oW gs w t q a b OW dW) (hb : b.status = .running) (hs : stepG C.P false b0 w = .go b0' w' es)
    (hw' : (∀ x, x ≠ C.wg → w'.heap[x]? = w.heap[x]?) ∧ w'.heap.size = w.heap.size ∧ w'.tape = w.tape ∧ w'.os = w.os ∧ w'.output = w.output)
    (hes : ∀ e ∈ es, (∃ o x, e = ⟨.cell ⟨C.wg, o, none⟩, x, true⟩) ∨ e = mkS .disable ∨ e = mkS .enable) (hr : ws' ≠ .quit → b0'.status = .running) (hd : ws' ≠ .quit → deafBehind ws.deaf es = ws'.deaf)
    (hqu : ws' = .quit → ∃ n, QuitsD C.P n (deafBehind 1 es) b0') (hwg : WgOk C ms ws' w') (hdf : ∀ m e, es[m]? = some e → (MemAct.ofEvent e).touch? ≠ none → deafBehind 1 (es.extract 0 m) ≠ 0)
    (haok : AOk C ms ws' oM (woken C.P b b0' w' a) a0) (hnb : (woken C.P b b0' w' a).status = .running ∨ b0'.status = .running) (ih : All C Fin ms ws' k kW a0 b0' oM oW) : Turn C Fin gs w sl' t C.j := by
  have hq : ws ≠ .quit := fun e => by rw [e] at hf; cases hf
  have hw1 : ws.isWork = false := by cases ws <;> first | rfl | cases hf
  have hsm := (h.bok hq).sm hb
  have hdw : dW = 1 := (h.dw hq).trans hf2
  obtain ⟨f1, f2, f3, f4, f5⟩ := hw'
  obtain ⟨gs', t', a', dW', h1, h2, h3⟩ := st_moveJ (sl' := sl') (OW' := OW) (oW' := oW) (ws' := ws') (kW' := kW) h hsm hs hr (by rw [f2]; exact Nat.le_refl _) (fun x hx hO hS => f1 x fun e => hS (by rw [e]; exact sy_wg C)) ⟨f3, f4, f5⟩ (fun x => ⟨.inl, fun y => y.elim id fun z => by omega⟩)
    (fun e he => by
      rcases hes e he with h1 | h1 | h1
      · exact evJ_sync (sy_wg C) (h.sy_keep (sy_wg C)).2.1 (h.sy_keep (sy_wg C)).2.2.2 (by rw [f2]; exact (h.sy_keep (sy_wg C)).1) (.inl h1)
      · subst h1; exact evJ_mark rfl (by simp) trivial
      · subst h1; exact evJ_mark rfl (by simp) trivial) h.ow
    (fun _ => oW.st w w' (h.iw (.inr trivial)) (fun x hx => f1 x fun e => by
      rcases hx with hx | hx
      · exact (h.sy_keep (sy_wg C)).2.1 (by rw [← e]; exact h.ow x hx)
      · exact (h.sy_keep (sy_wg C)).2.2.2 (by rw [← e]; exact hx)) (by rw [f2]; exact Nat.le_refl _) f3 f4)
    (fun e => by rw [h.dw hq]; exact hd e) (fun e => by rw [hdw]; exact hqu e) (by have := h.c1.keep (f1 _ (Ne.symm h.ne.2.1)); rw [hw1] at this; rw [hf']; exact this) (h.c2.keep (f1 _ (Ne.symm h.ne.2.2))) hwg
    (fun e => ⟨fun s e2 => (by rw [e2] at hf'; cases hf'), fun _ => (h.kk e).2 hw1⟩)
    (fun _ => by
      obtain ⟨r, hr⟩ := h.rel hrl
      refine ⟨r, hr.appDeaf fun m e hm => ⟨fun x hx hxm => ?_, fun hx => ?_⟩⟩
      · rcases hes e (Array.mem_of_getElem? hm) with ⟨o, y, rfl⟩ | rfl | rfl
        · simp only [ofEvent_cell0, MemAct.touch?, Option.some.injEq] at hx
          subst hx
          exact ⟨rfl, rfl⟩
        · simp [mkS, MemAct.ofEvent, MemAct.touch?] at hx
        · simp [mkS, MemAct.ofEvent, MemAct.touch?] at hx
      · rw [h.cf.dw, hdw]; exact hdf m e hm hx) haok hnb
  exact ⟨gs', w', t', h1, h2, ih h3⟩

theorem deaf_two (x y : Event) (hx : x.loc ≠ .mark .disable ∧ x.loc ≠ .mark .enable) (hy : y.loc ≠ .mark .disable ∧ y.loc ≠ .mark .enable) : ∀ m e, (#[x, y] : Array Event)[m]? = some e → (MemAct.ofEvent e).touch? ≠ none → deafBehind 1 ((#[x, y] : Array Event).extract 0 m) ≠ 0 := by
  intro m e _ _
  rw [deafBehind_still]
  · simp
  · intro z hz
    have : z ∈ (#[x, y] : Array Event) := by
      obtain ⟨i, hi, rfl⟩ := Array.mem_iff_getElem.1 hz
      rw [Array.getElem_extract]
      exact Array.getElem_mem _
    simp only [List.mem_toArray, List.mem_cons, List.not_mem_nil, or_false] at this
    rcases this with rfl | rfl
    · exact hx
    · exact hy
theorem deaf_one (x : Event) (hx : x.loc ≠ .mark .disable ∧ x.loc ≠ .mark .enable) : ∀ m e, (#[x] : Array Event)[m]? = some e → (MemAct.ofEvent e).touch? ≠ none → deafBehind 1 ((#[x] : Array Event).extract 0 m) ≠ 0 := by
  intro m e _ _
  rw [deafBehind_still]
  · simp
  · intro z hz
    have : z ∈ (#[x] : Array Event) := by
      obtain ⟨i, hi, rfl⟩ := Array.mem_iff_getElem.1 hz
      rw [Array.getElem_extract]
      exact Array.getElem_mem _
    simp only [List.mem_toArray, List.mem_cons, List.not_mem_nil, or_false] at this
    subst this
    exact hx
theorem deaf_sem (c : Nat) : ∀ m e, (semEvents (smC c))[m]? = some e → (MemAct.ofEvent e).touch? ≠ none → deafBehind 1 ((semEvents (smC c)).extract 0 m) ≠ 0 := by
  intro m e hm ht
  rcases m with _ | _ | _ | _ | m
  · simp [semEvents] at hm; subst hm; simp [MemAct.ofEvent, MemAct.touch?] at ht
  · simp [semEvents, deafBehind]
  · simp [semEvents, deafBehind]
  · simp [semEvents] at hm; subst hm; simp [MemAct.ofEvent, MemAct.touch?] at ht
  · simp [semEvents] at hm

theorem aok_first (h : AOk C ms ws oM a a0) (hw : ws.isWork = false) (hm : ms ≠ .ws2) : a.status = .running ∧ Sm a a0 := by
  rcases h with h | ⟨_, h2, _⟩ | ⟨h1, _⟩
  · exact h
  · rw [hw] at h2; cases h2
  · exact absurd h1 hm

theorem tj_d1 {n : Nat} {b1 b2 : Goroutine} (h : St C ms .fin2 k kW a0 b0 oM oW gs w t q a b OW dW) (hb : b.status = .running) (h1 : ∀ w, WA C w KQ 0 → stepG C.P false b0 w = .go b1 (w.setCell (stC C.wg) (.int .u64 0)) #[rdS C, wrS C]) (hq : QuitsD C.P n 1 b1)
    (hr2 : b2.status = .running) (h2 : ∀ w, WA C w (KQ + 1) 0 → stepG C.P false b0 w = .go b2 (w.setCell (stC C.wg) (.int .u64 1)) #[rdS C, wrS C]) (ih1 : All C Fin ms .quit k kW a0 b1 oM oW) (ih2 : All C Fin ms .fin3 k kW a0 b2 oM oW) : Turn C Fin gs w sl' t C.j := by
  have hes : ∀ e ∈ (#[rdS C, wrS C] : Array Event), (∃ o x, e = ⟨.cell ⟨C.wg, o, none⟩, x, true⟩) ∨ e = mkS .disable ∨ e = mkS .enable := fun e he => by
    simp only [List.mem_toArray, List.mem_cons, List.not_mem_nil, or_false] at he
    rcases he with rfl | rfl
    · exact .inl ⟨0, false, rfl⟩
    · exact .inl ⟨0, true, rfl⟩
  have hds : deafBehind 1 #[rdS C, wrS C] = 1 := deafBehind_still (fun e he => by
    simp only [List.mem_toArray, List.mem_cons, List.not_mem_nil, or_false] at he
    rcases he with rfl | rfl <;> simp [rdS, wrS]) 1
  have hdf := deaf_two (rdS C) (wrS C) (by simp [rdS]) (by simp [wrS])
  have hwf : ∀ v : Value, _ := fun v => wa_block w (stC C.wg) v
  rcases h.wg with ⟨hm, hw⟩ | ⟨hm, hw⟩
  · have hm2 : ms ≠ .ws2 := by rcases hm with e | e | e <;> rw [e] <;> simp
    obtain ⟨har, hasm⟩ := aok_first h.aok rfl hm2
    refine tj_wg (ws' := .quit) rfl rfl rfl rfl rfl h hb (h1 w hw) (hwf _) hes (fun e => absurd rfl e) (fun e => absurd rfl e) (fun _ => ⟨n, by rw [hds]; exact hq⟩) (.inr ⟨hm2, hw.setSt 0⟩) hdf (.inl ?_) ?_ ih1
    · rw [woken_run har]; exact ⟨har, hasm⟩
    · rw [woken_run har]; exact .inl har
  · refine tj_wg (ws' := .fin3) rfl rfl rfl rfl rfl h hb (h2 w hw) (hwf _) hes (fun _ => hr2) (fun _ => hds) (fun e => by cases e) ⟨hm, hw.setSt 1⟩ hdf ?_ (.inr hr2) ih2
    have := (aok_wake (P := C.P) (g := b) (g' := b2) (w' := w.setCell (stC C.wg) (.int .u64 1)) h.aok (fun _ e => by cases e)).1
    rcases this with q1 | ⟨_, q2, _⟩ | ⟨q1, _, q3⟩
    · exact .inl q1
    · cases q2
    · exact .inr (.inr ⟨q1, by simp, q3⟩)

theorem tj_d2 (h : St C ms .fin3 k kW a0 b0 oM oW gs w t q a b OW dW) (hb : b.status = .running) (hr : b0'.status = .running) (h1 : ∀ w, WA C w 1 0 → stepG C.P false b0 w = .go b0' w #[rdS C]) (ih : All C Fin ms .fin3 k kW a0 b0' oM oW) : Turn C Fin gs w sl' t C.j := by
  refine tj_wg (ws' := .fin3) rfl rfl rfl rfl rfl h hb (h1 w h.wg.2) ⟨fun _ _ => rfl, rfl, rfl, rfl, rfl⟩ (fun e he => ?_) (fun _ => hr) (fun _ => deafBehind_still (fun e he => ?_) 1) (fun e => by cases e) h.wg (deaf_one _ (by simp [rdS])) ?_ (.inr hr) ih
  · simp at he; subst he; exact .inl ⟨0, false, rfl⟩
  · simp at he; subst he; simp [rdS]
  · exact (aok_wake h.aok (fun _ e => by cases e)).1
theorem tj_d3 (h : St C ms .fin3 k kW a0 b0 oM oW gs w t q a b OW dW) (hb : b.status = .running) (hr : b0'.status = .running) (h1 : ∀ w, WA C w 1 0 → stepG C.P false b0 w = .go b0' (w.setCell (stC C.wg) (.int .u64 0)) #[wrS C]) (ih : All C Fin ms .fin4 k kW a0 b0' oM oW) : Turn C Fin gs w sl' t C.j := by
  refine tj_wg (ws' := .fin4) rfl rfl rfl rfl rfl h hb (h1 w h.wg.2) (wa_block w (stC C.wg) _) (fun e he => ?_) (fun _ => hr) (fun _ => deafBehind_still (fun e he => ?_) 1) (fun e => by cases e) ⟨h.wg.1, h.wg.2.setSt 0⟩ (deaf_one _ (by simp [wrS])) ?_ (.inr hr) ih
  · simp at he; subst he; exact .inl ⟨0, true, rfl⟩
  · simp at he; subst he; simp [wrS]
  · have := (aok_wake (P := C.P) (g := b) (g' := b0') (w' := w.setCell (stC C.wg) (.int .u64 0)) h.aok (fun _ e => by cases e)).1
    rcases this with q1 | ⟨_, q2, _⟩ | ⟨q1, _, q3⟩
    · exact .inl q1
    · cases q2
    · exact .inr (.inr ⟨q1, by simp, q3⟩)
theorem tj_d4 {n : Nat} (h : St C ms .fin4 k kW a0 b0 oM oW gs w t q a b OW dW) (hb : b.status = .running) (hmw : mayWake C.P b0 = true) (h1 : ∀ w, WA C w 0 0 → stepG C.P false b0 w = .go b0' (w.setCell (smC C.wg) (.int .u32 1)) (semEvents (smC C.wg))) (hq : QuitsD C.P n 1 b0')
    (ih : All C Fin ms .quit k kW a0 b0' oM oW) : Turn C Fin gs w sl' t C.j := by
  have hwk : woken C.P b b0' (w.setCell (smC C.wg) (.int .u32 1)) a = a.again (w.setCell (smC C.wg) (.int .u32 1)) := by
    unfold woken
    rw [mayWake_sm ((h.bok (by simp)).sm hb), hmw]
    rcases hq.status with e | e <;> rw [e] <;> rfl
  have ha : (woken C.P b b0' (w.setCell (smC C.wg) (.int .u32 1)) a).status = .running ∧ Sm (woken C.P b b0' (w.setCell (smC C.wg) (.int .u32 1)) a) a0 := by
    rcases h.aok with ⟨q1, q2⟩ | ⟨_, q2, _⟩ | ⟨_, _, q3, q4, q5⟩
    · rw [woken_run q1]; exact ⟨q1, q2⟩
    · cases q2
    · rw [hwk]
      have : a.again (w.setCell (smC C.wg) (.int .u32 1)) = { a with status := .running } := by simp [Goroutine.again, q3, q4]
      rw [this]; exact ⟨rfl, q5⟩
  refine tj_wg (ws' := .quit) rfl rfl rfl rfl rfl h hb (h1 w h.wg.2) (wa_block w (smC C.wg) _) (fun e he => ?_) (fun e => absurd rfl e) (fun e => absurd rfl e) (fun _ => ⟨n, ?_⟩) (.inl ⟨h.wg.1, h.wg.2.setSm 1⟩) (deaf_sem _) (.inl ha) (.inl ha.1) ih
  · simp only [semEvents, List.mem_toArray, List.mem_cons, List.not_mem_nil, or_false] at he
    rcases he with rfl | rfl | rfl | rfl
    · exact .inr (.inl rfl)
    · exact .inl ⟨1, false, rfl⟩
    · exact .inl ⟨1, true, rfl⟩
    · exact .inr (.inr rfl)
  · have : deafBehind 1 (semEvents (smC C.wg)) = 1 := by simp [semEvents, deafBehind]
    rw [this]; exact hq
end

end Go.Proofs.Ytcdhmnefmbcmaaa

namespace Go.Proofs.Ytcdhmnefmbcmaaa
open Go Go.Conc
open Go.ConcN (sumTo upd sumTo_upd upd_ne upd_same)

/-- what goroutine 0 has in hand where it waits for a chunk -/
def Hand (C : Cx) (Fin : Nat → Goroutine → Own C.SR → Prop) (ms : MS) (k : Nat) (a0 : Goroutine) (oM : Own C.SR) : Prop :=
  ms = .work → ∀ z w, oM.I w → ChAt w C.bs false → stepG C.P true a0 w = .comm a0 #[rcase C.bc z] true (.recv true) w #[] → ∀ xv bk ob, C.Cs k xv bk ob →
    ∃ o' : Own C.SR, (∀ x, o'.O x ↔ oM.O x ∨ x = bk) ∧ (∀ w, oM.I w → ¬ oM.O bk → w.heap[bk]? = some ob → o'.I w) ∧
      ∀ {ws kW b0 oW}, PW C ws kW b0 oW → All C Fin .work ws (k + 1) kW (a0.finishComm C.P #[rcase C.bc z] (.recv true) 0 xv true) b0 o' oW

section
variable {C : Cx} {Fin : Nat → Goroutine → Own C.SR → Prop} {ms : MS} {ws : WS} {k kW : Nat} {a0 b0 b0' : Goroutine} {oM oM' oW oW' : Own C.SR} {gs : Array Goroutine} {w w' : World} {sl' : Option (Nat × Nat)} {t : Trace} {q : Nat → Nat} {a b : Goroutine} {OW : Nat → Prop} {dW : Nat}

theorem ofEvents_nil (g : Nat) (fn : FuncId) (pos : String) : MemOp.ofEvents g fn pos #[] = #[] := rfl

theorem off_leaver (h : St C ms ws k kW a0 b0 oM oW gs w t q a b OW dW) {i : Nat} {g : Goroutine} (hi : gs[i]? = some g) (h0 : 0 < i) (hj : i ≠ C.j) (c : Nat) (sd : Bool) : offersAt g c sd = [] := by
  refine offersAt_of_not_blocked ?_ c sd
  rcases (h.cf.old i g h0 hj hi).status with e | e <;> rw [e] <;> simp

/-- who offers what, seen from the worker -/
theorem part_J (h : St C ms ws k kW a0 b0 oM oW gs w t q a b OW dW) (c : Nat) (sd : Bool) : partners (gs.setIfInBounds C.j ph) c sd = (offersAt a c sd).map fun n => (0, n) := by
  have hjp := h.cf.hj
  refine partners_one (j := 0) (g := a) (by rw [Array.getElem?_setIfInBounds_ne (by omega)]; exact h.cf.at0) fun i x hi hx => ?_
  rcases getElem?_stand gs C.j i x hx with ⟨_, rfl⟩ | ⟨h1, h2⟩
  · rfl
  · exact off_leaver h h2 (by omega) h1 c sd
theorem part_0 (h : St C ms ws k kW a0 b0 oM oW gs w t q a b OW dW) (c : Nat) (sd : Bool) : partners (gs.setIfInBounds 0 ph) c sd = (offersAt b c sd).map fun n => (C.j, n) := by
  have hjp := h.cf.hj
  refine partners_one (j := C.j) (g := b) (by rw [Array.getElem?_setIfInBounds_ne (by omega)]; exact h.cf.atj) fun i x hi hx => ?_
  rcases getElem?_stand gs 0 i x hx with ⟨_, rfl⟩ | ⟨h1, h2⟩
  · rfl
  · exact off_leaver h h2 (by omega) hi c sd

theorem off_off {g : Goroutine} (h : g.offers = none) (c : Nat) (sd : Bool) : offersAt g c sd = [] := by
  unfold offersAt
  cases g.status <;> simp [h]

theorem st_meet (h : St C .work (.work false) k kW a0 b0 oM oW gs w t q a b OW dW) {z xv z1 z2 : Value} {bk : Nat} {ob : Obj} {s : Nat} {gs' : Array Goroutine} {f0 fj : FuncId} {p0 pj : String} (hc : w.heap[C.bc]? = some (.chan 0 #[] false s s false)) (hbk : oW.O bk) (hob : ∀ w, oW.I w → w.heap[bk]? = some ob)
    (hO : ∀ x, oM'.O x ↔ oM.O x ∨ x = bk) (hI : ∀ w, oM.I w → ¬ oM.O bk → w.heap[bk]? = some ob → oM'.I w) (hO2 : ∀ x, oW'.O x → oW.O x ∧ x ≠ bk) (hI2 : ∀ w, oW.I w → oW'.I w)
    (hgs : gs' = (gs.setIfInBounds C.j (b0.finishComm C.P (sel2 C.bc C.bs xv z1 z2) .select 0 undef false)).setIfInBounds 0 (a0.finishComm C.P #[rcase C.bc z] (.recv true) 0 xv true)) :
    St C .work (.work false) (k + 1) (kW + 1) (a0.finishComm C.P #[rcase C.bc z] (.recv true) 0 xv true) (b0.finishComm C.P (sel2 C.bc C.bs xv z1 z2) .select 0 undef false) oM' oW' gs' (w.setChan C.bc 0 #[] false (s + 1) (s + 1) false)
      (t ++ meetOps C.j C.bc s s f0 fj p0 pj) q (a0.finishComm C.P #[rcase C.bc z] (.recv true) 0 xv true) (b0.finishComm C.P (sel2 C.bc C.bs xv z1 z2) .select 0 undef false) (fun x => OW x ∧ x ≠ bk) 0 := by
  have hd : dW = 0 := h.dw (by simp)
  subst hd
  have hcf := cf_meet (f0 := f0) (fj := fj) (p0 := p0) (pj := pj) h.cf hc rfl (h.ow bk hbk) (hob w (h.iw (by simp))) hO hI hgs
  have hbc : C.bc < w.heap.size := (Array.getElem?_eq_some_iff.1 hc).1
  have hheap : ∀ x, x ≠ C.bc → (w.setChan C.bc 0 #[] false (s + 1) (s + 1) false).heap[x]? = w.heap[x]? := fun x hx => by
    simp only [World.setChan]; rw [Array.getElem?_setIfInBounds_ne (Ne.symm hx)]
  have hsz : (w.setChan C.bc 0 #[] false (s + 1) (s + 1) false).heap.size = w.heap.size := by simp [World.setChan]
  refine ⟨hcf, h.ne, .inl ⟨rfl, .refl _⟩, fun _ => .inl ⟨rfl, .refl _⟩, fun e => (by cases e), .inl rfl, fun _ => hI2 _ (oW.st w _ (h.iw (by simp)) (fun x hx => hheap x fun e => ?_) (by rw [hsz]; exact Nat.le_refl _) rfl rfl), fun x hx => ⟨h.ow x (hO2 x hx).1, (hO2 x hx).2⟩, ⟨s + 1, by simp [World.setChan, hbc, WS.isWork]⟩,
    h.c2.keep (hheap _ (Ne.symm h.ne.1)), h.wg.keep (hheap _ h.ne.2.1), fun _ => rfl, fun _ => ⟨fun s' e => ?_, fun e => (by simp [WS.isWork] at e)⟩, fun e => (by cases e)⟩
  · rcases hx with hx | hx
    · exact (h.sy_keep (sy_bc C)).2.1 (by rw [← e]; exact h.ow x hx)
    · exact (h.sy_keep (sy_bc C)).2.2.2 (by rw [← e]; exact hx)
  · cases e
    exact ⟨by rw [((h.kk rfl).1 false rfl).1], rfl⟩

theorem tj_sel (h : St C ms (.work false) k kW a0 b0 oM oW gs w t q a b OW dW) (hb : b.status = .running) (hsl : a.status = .running → SleepsJ C Fin ms (.work false) k kW a0 b0 oM oW gs.size q) {xv z1 z2 : Value} {bk : Nat} {ob : Obj} (hoff : b0.offers = none) (_ : b0.status = .running)
    (hcs : C.Cs kW xv bk ob) (hbk : oW.O bk) (hob : ∀ w, oW.I w → w.heap[bk]? = some ob) (hs : ∀ w, oW.I w → stepG C.P false b0 w = .comm b0 (sel2 C.bc C.bs xv z1 z2) true .select w #[])
    (hO2 : ∀ x, oW'.O x → oW.O x ∧ x ≠ bk) (hI2 : ∀ w, oW.I w → oW'.I w) (hand : Hand C Fin ms k a0 oM) (hpw : PW C (.work false) (kW + 1) (b0.finishComm C.P (sel2 C.bc C.bs xv z1 z2) .select 0 undef false) oW')
    (ihs : All C Fin ms (.work true) k kW a0 (b0.finishComm C.P (sel2 C.bc C.bs xv z1 z2) .select 1 z2 false) oM oW) : Turn C Fin gs w sl' t C.j := by
  have hjp := h.cf.hj
  have hj0 : (C.j == 0) = false := by simp; omega
  have hsm := (h.bok (by simp)).sm hb
  have hst : stepG C.P (C.j == 0) b w = .comm b0 (sel2 C.bc C.bs xv z1 z2) true .select w #[] := by rw [hj0, hsm.step]; exact hs w (h.iw (by simp))
  obtain ⟨s, hc⟩ := h.c1
  obtain ⟨s2, hc2⟩ := h.c2
  have hc : w.heap[C.bc]? = some (.chan 0 #[] false s s false) := hc
  have hp1 := part_J h C.bc false
  have hp2 := part_J h C.bs true
  have hdw : dW = 0 := h.dw (by simp)
  by_cases hm : ms = .work
  · subst hm
    have hc2 : w.heap[C.bs]? = some (.chan 0 #[] false s2 s2 false) := by simpa using hc2
    rcases h.aok with ⟨ha, hasm⟩ | ⟨_, _, z, rfl, hcm⟩ | ⟨e, _⟩
    · -- nobody waits for it: it sleeps
      rw [offersAt_of_not_blocked (by rw [ha]; simp)] at hp1 hp2
      have hr := sel_waits (sl := sl') h.ne.1 h.cf.atj hst hc hc2 hp1 hp2
      rw [ofEvents_nil] at hr
      have hcf := cf_setJ (b' := parked b0 (sel2 C.bc C.bs xv z1 z2) .select) (u := #[]) h.cf (fun op hop => by simp at hop) (dW' := dW) (by simp; exact h.cf.dw)
      refine ⟨_, w, #[], hr, by simp, hsl ha (by simp) ⟨hcf, h.ne, h.aok, fun _ => .inr ⟨rfl, rfl, xv, z1, z2, rfl, hs⟩, fun e => (by cases e), .inl ha, h.iw, h.ow, h.c1, h.c2, h.wg, h.dw, h.kk, fun e => (by cases e)⟩ rfl⟩
    · -- the meeting
      have ho1 := offersAt_parked_recv a0 C.bc z (.recv true) C.bc
      have ho2 := offersAt_parked_recv' a0 C.bc z (.recv true) C.bs
      rw [ho1] at hp1
      rw [ho2] at hp2
      simp only [if_true, List.map_cons, List.map_nil] at hp1 hp2
      have hr := sel_meets (sl := sl') h.ne.1 h.cf.atj hst hc hc2 (by omega) h.cf.at0 hp1 hp2
      rw [ofEvents_nil] at hr
      obtain ⟨q1, q2⟩ := (h.kk rfl).1 false rfl
      obtain ⟨o', h1, h2, h3⟩ := hand rfl z w h.cf.im ⟨s2, hc2⟩ (hcm w h.cf.im) xv bk ob (by rw [← q1]; exact hcs)
      have hcomm : (gs.setIfInBounds 0 (a0.finishComm C.P #[rcase C.bc z] (.recv true) 0 xv true)).setIfInBounds C.j (b0.finishComm C.P (sel2 C.bc C.bs xv z1 z2) .select 0 undef false) = (gs.setIfInBounds C.j (b0.finishComm C.P (sel2 C.bc C.bs xv z1 z2) .select 0 undef false)).setIfInBounds 0 (a0.finishComm C.P #[rcase C.bc z] (.recv true) 0 xv true) := by
        rw [Array.setIfInBounds_comm]; omega
      have hS := st_meet (s := s) (z := z) (xv := xv) (z1 := z1) (z2 := z2) (f0 := a0.frame.fn) (fj := b0.frame.fn) (p0 := a0.frame.place) (pj := b0.frame.place) h hc hbk hob h1 h2 hO2 hI2 hcomm
      exact ⟨_, _, _, hr, by simp, h3 hpw hS⟩
    · cases e
  · have hc2 : w.heap[C.bs]? = some (.chan 0 #[] true s2 s2 false) := by simpa [hm] using hc2
    have hao : offersAt a C.bc false = [] ∧ offersAt a C.bs true = [] := by
      rcases h.aok with ⟨ha, _⟩ | ⟨e, _⟩ | ⟨_, _, _, ho, _⟩
      · exact ⟨offersAt_of_not_blocked (by rw [ha]; simp) _ _, offersAt_of_not_blocked (by rw [ha]; simp) _ _⟩
      · exact absurd e hm
      · exact ⟨off_off ho _ _, off_off ho _ _⟩
    rw [hao.1] at hp1
    rw [hao.2] at hp2
    have hr := sel_stopped (sl := sl') h.ne.1 h.cf.atj hst hc hc2 hp1 hp2
    rw [ofEvents_nil] at hr
    have hcf := cf_setJ (b' := b0.finishComm C.P (sel2 C.bc C.bs xv z1 z2) .select 1 z2 false) (u := #[{ g := C.j, fn := b0.frame.fn, pos := b0.frame.place, act := .recvClosed C.bs }]) h.cf (fun op hop => by
      simp at hop; subst hop; exact ⟨rfl, rfl, (h.sy_keep (sy_bs C)).1, by simp⟩) (dW' := dW) (by rw [Deaf_push]; exact h.cf.dw)
    exact ⟨_, w, _, by simpa using hr, by simp, ihs ⟨hcf, h.ne, by
        rcases h.aok with x | ⟨e, _⟩ | ⟨e1, e2, e3⟩
        · exact .inl x
        · exact absurd e hm
        · exact .inr (.inr ⟨e1, by simp, e3⟩), fun _ => .inl ⟨rfl, .refl _⟩, fun e => (by cases e), .inr rfl, fun _ => h.iw (by simp), h.ow, ⟨s, hc⟩, ⟨s2, by simpa [hm] using hc2⟩, h.wg, fun _ => hdw, fun e => absurd e hm, fun e => (by cases e)⟩⟩
end

end Go.Proofs.Ytcdhmnefmbcmaaa

namespace Go.Proofs.Ytcdhmnefmbcmaaa
open Go Go.Conc
open Go.ConcN (sumTo upd sumTo_upd upd_ne upd_same)

section
variable {C : Cx} {Fin : Nat → Goroutine → Own C.SR → Prop} {ms ms' : MS} {ws : WS} {k kW : Nat} {a0 a0' b0 b0' : Goroutine} {oM oM' oW oW' : Own C.SR} {gs : Array Goroutine} {w w' : World} {sl' : Option (Nat × Nat)} {t : Trace} {q : Nat → Nat} {a b : Goroutine} {OW : Nat → Prop} {dW : Nat}

theorem t0_priv (h : St C .work ws k kW a0 b0 oM oW gs w t q a b OW dW) (ha : a.status = .running) {o' : Own C.SR} {es : Array Event} (hs : stepG C.P true a0 w = .go a0' w' es) (hp : PStep oM o' w w' es) (hr : a0'.status = .running)
    (ih : All C Fin .work ws k kW a0' b0 o' oW) : Turn C Fin gs w sl' t 0 := by
  have kp : ∀ x, C.SY x → w'.heap[x]? = w.heap[x]? := fun x hx => hp.keep x (h.sy_keep hx).1 (h.sy_keep hx).2.2.1
  obtain ⟨gs', t', b', h1, h2, h3⟩ := st_move0 (sl' := sl') (ms' := .work) (k' := k) (oM' := o') h (h.aok.sm ha) hs hr hp.sz (fun x hx hO _ => hp.keep x hx hO) hp.same hp.O' hp.I' (hp.ev0 h.cf) (by rw [deaf_pstep hp]) (h.c1.keep (kp _ (sy_bc C))) (h.c2.keep (kp _ (sy_bs C))) (h.wg.keep (kp _ (sy_wg C)))
    (fun e => (bok_wake (h.bok e) fun _ e2 => ⟨by have := h.c1.keep (kp _ (sy_bc C)); rw [e2] at this; exact this, by have := h.c2.keep (kp _ (sy_bs C)); simpa using this⟩).1) h.kk
  exact ⟨gs', w', t', h1, h2, ih h3⟩

/-- where the worker sleeps, its plan is the select -/
theorem pw_at_sel (h : PW C (.work false) kW b0 oW) {w : World} (hI : oW.I w) (hc : ChAt w C.bc false) {xv z1 z2 : Value} (hs : stepG C.P false b0 w = .comm b0 (sel2 C.bc C.bs xv z1 z2) true .select w #[]) :
    ∃ bk ob o', C.Cs kW xv bk ob ∧ oW.O bk ∧ (∀ w, oW.I w → w.heap[bk]? = some ob) ∧ (∀ x, o'.O x → oW.O x ∧ x ≠ bk) ∧ (∀ w, oW.I w → o'.I w) ∧ PW C (.work false) (kW + 1) (b0.finishComm C.P (sel2 C.bc C.bs xv z1 z2) .select 0 undef false) o' := by
  cases h with
  | priv nx no hr hst _ =>
    obtain ⟨w', es, h1, _⟩ := hst w hI
    rw [h1] at hs; cases hs
  | @sel _ _ _ o' xv' bk ob z1' z2' hr ho h1 h2 h3 h4 h5 h6 h7 _ =>
    have h8 := h4 w hI
    rw [hs] at h8
    simp only [GStep.comm.injEq, sel2, scase, rcase, Array.mk.injEq, List.cons.injEq, CommCase.mk.injEq, Option.some.injEq, and_true, true_and] at h8
    obtain ⟨⟨e1, e2⟩, e3⟩ := h8
    subst e1 e2 e3
    exact ⟨bk, ob, o', h1, h2, h3, h5, h6, h7⟩
  | clo hr _ _ _ _ hst _ =>
    obtain ⟨w', hw'⟩ := closeCh_of hc
    rw [hst w w' hI hw'] at hs; cases hs
  | free _ hf _ _ _ => cases hf

theorem t0_recv (hpw : PW C ws kW b0 oW) (h : St C .work ws k kW a0 b0 oM oW gs w t q a b OW dW) (ha : a.status = .running) (hsl : b.status ≠ .blocked → Sleeps0 C Fin .work ws k kW a0 b0 oM oW gs.size q) {z : Value} {go : Value → Nat → Obj → Own C.SR}
    (hs : ∀ w, oM.I w → stepG C.P true a0 w = .comm a0 #[rcase C.bc z] true (.recv true) w #[]) (hO : ∀ xv bk ob, C.Cs k xv bk ob → ∀ x, (go xv bk ob).O x ↔ oM.O x ∨ x = bk) (hI : ∀ xv bk ob, C.Cs k xv bk ob → ∀ w, oM.I w → ¬ oM.O bk → w.heap[bk]? = some ob → (go xv bk ob).I w)
    (ihg : ∀ xv bk ob, C.Cs k xv bk ob → ∀ {ws kW b0 oW}, PW C ws kW b0 oW → All C Fin .work ws (k + 1) kW (a0.finishComm C.P #[rcase C.bc z] (.recv true) 0 xv true) b0 (go xv bk ob) oW)
    (ihc : k = C.N → All C Fin .work ws k kW (a0.finishComm C.P #[rcase C.bc z] (.recv true) 0 z false) b0 oM oW) : Turn C Fin gs w sl' t 0 := by
  have hjp := h.cf.hj
  have hst : stepG C.P (0 == 0) a w = .comm a0 #[rcase C.bc z] true (.recv true) w #[] := by rw [show ((0 : Nat) == 0) = true from rfl, (h.aok.sm ha).step]; exact hs w h.cf.im
  obtain ⟨s, hc⟩ := h.c1
  have hp := part_0 h C.bc true
  cases hw : ws.isWork with
  | true =>
    have hwq : ws ≠ .quit := fun e => by rw [e] at hw; cases hw
    rw [hw] at hc
    have hc : w.heap[C.bc]? = some (.chan 0 #[] false s s false) := hc
    rcases h.bok hwq with ⟨hb, hbsm⟩ | ⟨_, e2, xv, z1, z2, rfl, hcm⟩
    · -- it sleeps
      rw [offersAt_of_not_blocked (by rw [hb]; simp)] at hp
      have hr := recv_waits (sl := sl') h.cf.at0 hst hc hp
      rw [ofEvents_nil] at hr
      have hcf := cf_set0 (a' := parked a0 #[rcase C.bc z] (.recv true)) (u := #[]) h.cf (fun op hop => by simp at hop) (by simp; exact h.cf.dm)
      exact ⟨_, w, #[], hr, by simp, hsl (by rw [hb]; simp) (by simp) ⟨hcf, h.ne, .inr (.inl ⟨rfl, hw, z, rfl, hs⟩), h.bok, h.qu, .inr hb, h.iw, h.ow, h.c1, h.c2, h.wg, h.dw, h.kk, rel_other (u := #[]) h.rel fun op hop => by simp at hop⟩ rfl⟩
    · -- the meeting
      subst e2
      have ho := (offersAt_sel2 (v := xv) (z1 := z1) (z2 := z2) h.ne.1 b0 .select).1
      rw [ho] at hp
      simp only [List.map_cons, List.map_nil] at hp
      have hr := recv_meets_sel (sl := sl') h.ne.1 h.cf.at0 hst hc (by omega) h.cf.atj hp
      rw [ofEvents_nil] at hr
      obtain ⟨bk, ob, o', g1, g2, g3, g4, g5, g6⟩ := pw_at_sel hpw (h.iw (by simp)) ⟨s, hc⟩ (hcm w (h.iw (by simp)))
      obtain ⟨q1, q2⟩ := (h.kk rfl).1 false rfl
      have g1' : C.Cs k xv bk ob := by rw [← q1]; exact g1
      have hS := st_meet (s := s) (z := z) (xv := xv) (z1 := z1) (z2 := z2) (f0 := a0.frame.fn) (fj := b0.frame.fn) (p0 := a0.frame.place) (pj := b0.frame.place) h hc g2 g3 (hO xv bk ob g1') (hI xv bk ob g1') g4 g5 rfl
      exact ⟨_, _, _, hr, by simp, ihg xv bk ob g1' g6 hS⟩
  | false =>
    rw [hw] at hc
    have hc : w.heap[C.bc]? = some (.chan 0 #[] true s s false) := hc
    have hbo : offersAt b C.bc true = [] := by
      by_cases hq : ws = .quit
      · obtain ⟨n, hn⟩ := h.qu hq
        exact offersAt_of_not_blocked (by rcases hn.status with e | e <;> rw [e] <;> simp) _ _
      · rcases h.bok hq with ⟨hb, _⟩ | ⟨_, e2, _⟩
        · exact offersAt_of_not_blocked (by rw [hb]; simp) _ _
        · rw [e2] at hw; cases hw
    rw [hbo] at hp
    have hr := crowd_recv_closed (sl := sl') h.cf.at0 hst hc hp
    rw [ofEvents_nil] at hr
    have hcf := cf_set0 (a' := a0.finishComm C.P #[rcase C.bc z] (.recv true) 0 z false) (u := #[{ g := 0, fn := a0.frame.fn, pos := a0.frame.place, act := .recvClosed C.bc }]) h.cf (fun op hop => by
      simp at hop; subst hop; exact ⟨rfl, rfl, (h.sy_keep (sy_bc C)).1, by simp⟩) (by rw [Deaf_push]; exact h.cf.dm)
    exact ⟨_, w, _, by simpa using hr, by simp, ihc ((h.kk rfl).2 hw) ⟨hcf, h.ne, .inl ⟨rfl, .refl _⟩, h.bok, h.qu, .inl rfl, h.iw, h.ow, h.c1, h.c2, h.wg, h.dw, h.kk, rel_other h.rel fun op hop => by simp at hop; subst hop; exact .inr rfl⟩⟩

theorem wg_pre (h : WgOk C ms ws w) (hm : ms ≠ .ws2) : ((ws ≠ .quit ∧ ws ≠ .fin3 ∧ ws ≠ .fin4 ∧ (ms = .work ∨ ms = .ws0 ∨ ms = .ws1)) ∧ WA C w KQ 0) ∨ (ws = .quit ∧ WA C w 0 0) := by
  unfold WgOk at h
  cases ws <;> simp only at h
  · rcases h with ⟨a, b⟩ | ⟨a, _⟩
    · exact .inl ⟨⟨by simp, by simp, by simp, a⟩, b⟩
    · exact absurd a hm
  · rcases h with ⟨a, b⟩ | ⟨a, _⟩
    · exact .inl ⟨⟨by simp, by simp, by simp, a⟩, b⟩
    · exact absurd a hm
  · rcases h with ⟨a, b⟩ | ⟨a, _⟩
    · exact .inl ⟨⟨by simp, by simp, by simp, a⟩, b⟩
    · exact absurd a hm
  · rcases h with ⟨a, b⟩ | ⟨a, _⟩
    · exact .inl ⟨⟨by simp, by simp, by simp, a⟩, b⟩
    · exact absurd a hm
  · exact absurd h.1 hm
  · exact absurd h.1 hm
  · rcases h with ⟨a, _⟩ | ⟨_, b⟩
    · exact absurd a hm
    · exact .inr ⟨rfl, b⟩
theorem wg_pre' {w' : World} (h : (ws ≠ .quit ∧ ws ≠ .fin3 ∧ ws ≠ .fin4) ∧ WA C w' KQ 0) (hm : ms = .work ∨ ms = .ws0 ∨ ms = .ws1) : WgOk C ms ws w' := by
  unfold WgOk
  cases ws <;> simp only
  · exact .inl ⟨hm, h.2⟩
  · exact .inl ⟨hm, h.2⟩
  · exact .inl ⟨hm, h.2⟩
  · exact .inl ⟨hm, h.2⟩
  · exact absurd rfl h.1.2.1
  · exact absurd rfl h.1.2.2
  · exact absurd rfl h.1.1

theorem t0_clo (h : St C .work ws k kW a0 b0 oM oW gs w t q a b OW dW) (ha : a.status = .running) {es : Array Event} (hr : a0'.status = .running) (hmw : mayWake C.P a0 = true) (hce : CloseEv C.bs es)
    (hs : ∀ w w', oM.I w → closeCh w C.bs w' → stepG C.P true a0 w = .go a0' w' es) (ih : All C Fin .ws0 ws k kW a0' b0 oM oW) : Turn C Fin gs w sl' t 0 := by
  have hsm := h.aok.sm ha
  obtain ⟨w', hw'⟩ := closeCh_of (show ChAt w C.bs false from h.c2)
  obtain ⟨f1, f2, f3, f4, f5, f6⟩ := closeCh_facts hw'
  have hwk : woken C.P a a0' w' b = b.again w' := by
    unfold woken
    rw [mayWake_sm hsm, hmw, hr]; rfl
  have hwg : WgOk C .ws0 ws w' := by
    rcases wg_pre h.wg (by simp) with ⟨h1, h2⟩ | ⟨rfl, h2⟩
    · exact wg_pre' ⟨⟨h1.1, h1.2.1, h1.2.2.1⟩, h2.keep (f3 _ h.ne.2.2)⟩ (.inr (.inl rfl))
    · exact .inr ⟨by simp, h2.keep (f3 _ h.ne.2.2)⟩
  obtain ⟨gs', t', b', h1, h2, h3⟩ := st_move0 (sl' := sl') (ms' := .ws0) (k' := k) (oM' := oM) h hsm (hs w w' h.cf.im hw') hr (by rw [f2]; exact Nat.le_refl _) (fun x hx hO hS => f3 x fun e => hS (by rw [e]; exact sy_bs C)) ⟨f4, f5, f6⟩ (fun x => ⟨.inl, fun y => y.elim id fun z => by omega⟩)
    (oM.st w w' h.cf.im (fun x hx => f3 x fun e => by
      rcases hx with hx | hx
      · exact (h.sy_keep (sy_bs C)).2.2.1 (by rw [← e]; exact hx)
      · exact (h.sy_keep (sy_bs C)).2.2.2 (by rw [← e]; exact hx)) (by rw [f2]; exact Nat.le_refl _) f4 f5)
    (fun e he => ev0_sync (sy_bs C) (h.sy_keep (sy_bs C)).2.1 (h.sy_keep (sy_bs C)).2.2.2 (by rw [f2]; exact (h.sy_keep (sy_bs C)).1) ((hce e he).elim (fun x => .inr (.inl x)) (fun x => .inr (.inr x)))) (by rw [deaf_close hce]; rfl)
    (h.c1.keep (f3 _ h.ne.1)) f1 hwg
    (fun e => by
      rcases h.bok e with ⟨hb, hbsm⟩ | ⟨_, e2, xv, z1, z2, rfl, _⟩
      · rw [woken_run hb]; exact .inl ⟨hb, hbsm⟩
      · rw [hwk]
        obtain ⟨s1, hs1⟩ := f1
        have hc1 : ChAt w' C.bc false := by have := h.c1.keep (f3 _ h.ne.1); rw [e2] at this; exact this
        obtain ⟨s2, hs2⟩ := hc1
        rw [again_sel_stop hs2 hs1]
        exact .inl ⟨rfl, rfl, rfl, rfl⟩) (fun e => by cases e)
  exact ⟨gs', w', t', h1, h2, ih h3⟩

/-- behind the closing of 'stop' the worker does not sleep -/
theorem bok_run (h : St C ms ws k kW a0 b0 oM oW gs w t q a b OW dW) (hm : ms ≠ .work) (hq : ws ≠ .quit) : b.status = .running ∧ Sm b b0 := by
  rcases h.bok hq with x | ⟨e, _⟩
  · exact x
  · exact absurd e hm

/-- a step of goroutine 0's that allots nothing, behind the closing of 'stop' -/
theorem t0_wg {es : Array Event} (hm : ms ≠ .work) (hm' : ms' ≠ .work) (h : St C ms ws k kW a0 b0 oM oW gs w t q a b OW dW) (ha : a.status = .running) (hs : stepG C.P true a0 w = .go a0' w' es) (hr : a0'.status = .running)
    (hw' : (∀ x, x ≠ C.wg → w'.heap[x]? = w.heap[x]?) ∧ w'.heap.size = w.heap.size ∧ w'.tape = w.tape ∧ w'.os = w.os ∧ w'.output = w.output)
    (hes : ∀ e ∈ es, Ev0 C OW w'.heap.size e) (hd : deafBehind ms.deaf es = ms'.deaf) (hwg : WgOk C ms' ws w') (ih : All C Fin ms' ws k kW a0' b0 oM oW) : Turn C Fin gs w sl' t 0 := by
  obtain ⟨f1, f2, f3, f4, f5⟩ := hw'
  obtain ⟨gs', t', b', h1, h2, h3⟩ := st_move0 (sl' := sl') (ms' := ms') (k' := k) (oM' := oM) h (h.aok.sm ha) hs hr (by rw [f2]; exact Nat.le_refl _) (fun x hx hO hS => f1 x fun e => hS (by rw [e]; exact sy_wg C)) ⟨f3, f4, f5⟩ (fun x => ⟨.inl, fun y => y.elim id fun z => by omega⟩)
    (oM.st w w' h.cf.im (fun x hx => f1 x fun e => by
      rcases hx with hx | hx
      · exact (h.sy_keep (sy_wg C)).2.2.1 (by rw [← e]; exact hx)
      · exact (h.sy_keep (sy_wg C)).2.2.2 (by rw [← e]; exact hx)) (by rw [f2]; exact Nat.le_refl _) f3 f4) hes hd
    (h.c1.keep (f1 _ (Ne.symm h.ne.2.1))) (by have := h.c2.keep (f1 _ (Ne.symm h.ne.2.2)); simpa [hm, hm'] using this) hwg
    (fun e => by obtain ⟨x, y⟩ := bok_run h hm e; rw [woken_run x]; exact .inl ⟨x, y⟩) (fun e => absurd e hm')
  exact ⟨gs', w', t', h1, h2, ih h3⟩

theorem ev0_wg (h : St C ms ws k kW a0 b0 oM oW gs w t q a b OW dW) (hsz : w'.heap.size = w.heap.size) {e : Event} (he : (∃ o x, e = ⟨.cell ⟨C.wg, o, none⟩, x, true⟩) ∨ e = mkS .disable ∨ e = mkS .enable) : Ev0 C OW w'.heap.size e := by
  rcases he with he | rfl | rfl
  · exact ev0_sync (sy_wg C) (h.sy_keep (sy_wg C)).2.1 (h.sy_keep (sy_wg C)).2.2.2 (by rw [hsz]; exact (h.sy_keep (sy_wg C)).1) (.inl he)
  · exact ev0_mark rfl (by simp) trivial
  · exact ev0_mark rfl (by simp) trivial
theorem same_world (w : World) : (∀ x, x ≠ C.wg → w.heap[x]? = w.heap[x]?) ∧ w.heap.size = w.heap.size ∧ w.tape = w.tape ∧ w.os = w.os ∧ w.output = w.output := ⟨fun _ _ => rfl, rfl, rfl, rfl, rfl⟩

theorem t0_free (hf : ms.free = true) (h : St C ms ws k kW a0 b0 oM oW gs w t q a b OW dW) (ha : a.status = .running) (hr : a0'.status = .running) {es : Array Event} (hs : stepG C.P true a0 w = .go a0' w es) (hes : ∀ e ∈ es, e = mkS (.write (smC C.wg))) (ih : All C Fin ms ws k kW a0' b0 oM oW) : Turn C Fin gs w sl' t 0 := by
  have hm : ms ≠ .work := fun e => by rw [e] at hf; cases hf
  refine t0_wg hm hm h ha hs hr (same_world w) (fun e he => ?_) (deafBehind_still (fun e he => by rw [hes e he]; simp [mkS]) _) h.wg ih
  rw [hes e he]
  refine ⟨fun x hx => ?_, by simp [mkS], (h.sy_keep (sy_wg C)).1⟩
  simp only [mkS, MemAct.ofEvent, MemAct.touch?, Option.some.injEq] at hx
  subst hx
  intro b hb
  simp only [Loc.blk, Option.some.injEq, smC] at hb
  subst hb
  exact .inr (.inr ⟨sy_wg C, (h.sy_keep (sy_wg C)).2.1, (h.sy_keep (sy_wg C)).2.2.2, by simp⟩)

end

end Go.Proofs.Ytcdhmnefmbcmaaa
