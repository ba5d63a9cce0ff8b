/-
  Goroutine 0's turns at the WaitGroup, and the end: both plans are carried out; no condition but what each law names.
  The two plans side by side: goroutine 0 comes to its end; no condition but what each law names.
  The numbers under which the program holds the library's WaitGroup; no condition.
  The worker's last steps: (*WaitGroup).Done, in company; whoever calls it; no condition but what each law names.
-/
import Derived.Test.YtcdhmnefmbcmaaaJan
import Derived.Test.YtcdhmnefmbcmaaaChecked
import Derived.Conc.FxGenDone
import Derived.Conc.FxGenWait
import Derived.Conc.FxGenLone
import Derived.Conc.CompanyWords
namespace Go.Proofs.Ytcdhmnefmbcmaaa
open Go Go.Conc
open Go.ConcN (sumTo upd sumTo_upd upd_ne upd_same)

section
variable {C : Cx} {Fin : Nat → Goroutine → Own C.SR → Prop} {ms ms' : MS} {ws : WS} {k kW : Nat} {a0 a0' b0 b0' : Goroutine} {oM oM' oW oW' : Own C.SR} {gs : Array Goroutine} {w w' : World} {sl' : Option (Nat × Nat)} {t : Trace} {q : Nat → Nat} {a b : Goroutine} {OW : Nat → Prop} {dW : Nat}

theorem t0_kd (h : St C .ws0 ws k kW a0 b0 oM oW gs w t q a b OW dW) (ha : a.status = .running) (hr : a0'.status = .running) (hs : ∀ w, Live C w → stepG C.P true a0 w = .go a0' w #[mkS .disable]) (ih : All C Fin .ws1 ws k kW a0' b0 oM oW) : Turn C Fin gs w sl' t 0 := by
  refine t0_wg (ms' := .ws1) (by simp) (by simp) h ha (hs w h.wg.live) hr (same_world w) (fun e he => ev0_wg h rfl (by simp at he; exact .inr (.inl he))) rfl ?_ ih
  rcases wg_pre h.wg (by simp) with ⟨h1, h2⟩ | ⟨rfl, h2⟩
  · exact wg_pre' ⟨⟨h1.1, h1.2.1, h1.2.2.1⟩, h2⟩ (.inr (.inr rfl))
  · exact .inr ⟨by simp, h2⟩
theorem t0_w1 {a1 a2 : Goroutine} (h : St C .ws1 ws k kW a0 b0 oM oW gs w t q a b OW dW) (ha : a.status = .running) (hr1 : a1.status = .running) (hr2 : a2.status = .running) (h1 : ∀ w, WA C w KQ 0 → stepG C.P true a0 w = .go a1 w #[rdS C]) (h2 : ∀ w, WA C w 0 0 → stepG C.P true a0 w = .go a2 w #[rdS C])
    (ih1 : All C Fin .ws1 ws k kW a1 b0 oM oW) (ih2 : All C Fin .ws4 ws k kW a2 b0 oM oW) : Turn C Fin gs w sl' t 0 := by
  have hev : ∀ e ∈ (#[rdS C] : Array Event), Ev0 C OW w.heap.size e := fun e he => ev0_wg h rfl (by simp at he; subst he; exact .inl ⟨0, false, rfl⟩)
  have hd : deafBehind 1 #[rdS C] = 1 := deafBehind_still (fun e he => by simp at he; subst he; simp [rdS]) 1
  rcases wg_pre h.wg (by simp) with ⟨g1, g2⟩ | ⟨rfl, g2⟩
  · exact t0_wg (ms' := .ws1) (by simp) (by simp) h ha (h1 w g2) hr1 (same_world w) hev hd h.wg ih1
  · exact t0_wg (ms' := .ws4) (by simp) (by simp) h ha (h2 w g2) hr2 (same_world w) hev hd (.inr ⟨by simp, g2⟩) ih2
theorem t0_w2 {a1 a2 : Goroutine} (h : St C .ws1 ws k kW a0 b0 oM oW gs w t q a b OW dW) (ha : a.status = .running) (hr1 : a1.status = .running) (hr2 : a2.status = .running) (h1 : ∀ w, WA C w KQ 0 → stepG C.P true a0 w = .go a1 (w.setCell (stC C.wg) (.int .u64 (KQ + 1))) #[rdS C, wrS C])
    (h2 : ∀ w, WA C w 0 0 → stepG C.P true a0 w = .go a2 w #[rdS C]) (ih1 : All C Fin .ws2 ws k kW a1 b0 oM oW) (ih2 : All C Fin .ws4 ws k kW a2 b0 oM oW) : Turn C Fin gs w sl' t 0 := by
  have hev : ∀ e ∈ (#[rdS C] : Array Event), Ev0 C OW w.heap.size e := fun e he => ev0_wg h rfl (by simp at he; subst he; exact .inl ⟨0, false, rfl⟩)
  have hd : deafBehind 1 #[rdS C] = 1 := deafBehind_still (fun e he => by simp at he; subst he; simp [rdS]) 1
  rcases wg_pre h.wg (by simp) with ⟨g1, g2⟩ | ⟨rfl, g2⟩
  · have hwf := wa_block w (stC C.wg) (.int .u64 (KQ + 1))
    refine t0_wg (ms' := .ws2) (by simp) (by simp) h ha (h1 w g2) hr1 hwf (fun e he => ev0_wg h hwf.2.1 ?_) (deafBehind_still (fun e he => ?_) 1) ?_ ih1
    · simp only [List.mem_toArray, List.mem_cons, List.not_mem_nil, or_false] at he
      rcases he with rfl | rfl
      · exact .inl ⟨0, false, rfl⟩
      · exact .inl ⟨0, true, rfl⟩
    · simp only [List.mem_toArray, List.mem_cons, List.not_mem_nil, or_false] at he
      rcases he with rfl | rfl <;> simp [rdS, wrS]
    · have hW := g2.setSt (KQ + 1)
      unfold WgOk
      cases ws <;> simp only
      · exact .inr ⟨trivial, hW⟩
      · exact .inr ⟨trivial, hW⟩
      · exact .inr ⟨trivial, hW⟩
      · exact .inr ⟨trivial, hW⟩
      · exact absurd rfl g1.2.1
      · exact absurd rfl g1.2.2.1
      · exact absurd rfl g1.1
  · exact t0_wg (ms' := .ws4) (by simp) (by simp) h ha (h2 w g2) hr2 (same_world w) hev hd (.inr ⟨by simp, g2⟩) ih2

/-- past the join the worker only leaves -/
theorem wg_past (h : WgOk C ms ws w) (hm : ms = .ws3 ∨ ms = .ws4 ∨ ms = .ws5) : ws = .quit ∧ WA C w 0 0 := by
  rcases wg_pre h (by rcases hm with e | e | e <;> rw [e] <;> simp) with ⟨⟨_, _, _, h1⟩, _⟩ | h1
  · rcases hm with rfl | rfl | rfl <;> rcases h1 with e | e | e <;> cases e
  · exact h1

theorem t0_w1z (h : St C .ws4 ws k kW a0 b0 oM oW gs w t q a b OW dW) (ha : a.status = .running) (hr : a0'.status = .running) (hs : ∀ w, WA C w 0 0 → stepG C.P true a0 w = .go a0' w #[rdS C]) (ih : All C Fin .ws4 ws k kW a0' b0 oM oW) : Turn C Fin gs w sl' t 0 :=
  t0_wg (ms' := .ws4) (by simp) (by simp) h ha (hs w (wg_past h.wg (.inr (.inl rfl))).2) hr (same_world w) (fun e he => ev0_wg h rfl (by simp at he; subst he; exact .inl ⟨0, false, rfl⟩)) (deafBehind_still (fun e he => by simp at he; subst he; simp [rdS]) 1) h.wg ih
theorem t0_w4 (h : St C .ws3 ws k kW a0 b0 oM oW gs w t q a b OW dW) (ha : a.status = .running) (hr : a0'.status = .running) (hs : ∀ w, WA C w 0 0 → stepG C.P true a0 w = .go a0' w #[rdS C]) (ih : All C Fin .ws4 ws k kW a0' b0 oM oW) : Turn C Fin gs w sl' t 0 := by
  obtain ⟨rfl, hW⟩ := wg_past h.wg (.inl rfl)
  exact t0_wg (ms' := .ws4) (by simp) (by simp) h ha (hs w hW) hr (same_world w) (fun e he => ev0_wg h rfl (by simp at he; subst he; exact .inl ⟨0, false, rfl⟩)) (deafBehind_still (fun e he => by simp at he; subst he; simp [rdS]) 1) (.inr ⟨by simp, hW⟩) ih
theorem t0_ke (h : St C .ws4 ws k kW a0 b0 oM oW gs w t q a b OW dW) (ha : a.status = .running) (hr : a0'.status = .running) (hs : ∀ w, Live C w → stepG C.P true a0 w = .go a0' w #[mkS .enable]) (ih : All C Fin .ws5 ws k kW a0' b0 oM oW) : Turn C Fin gs w sl' t 0 := by
  obtain ⟨rfl, hW⟩ := wg_past h.wg (.inr (.inl rfl))
  exact t0_wg (ms' := .ws5) (by simp) (by simp) h ha (hs w h.wg.live) hr (same_world w) (fun e he => ev0_wg h rfl (by simp at he; exact .inr (.inr he))) rfl (.inr ⟨by simp, hW⟩) ih

theorem t0_w3 (h : St C .ws2 ws k kW a0 b0 oM oW gs w t q a b OW dW) (ha : a.status = .running) (hsl : b.status ≠ .blocked → Sleeps0 C Fin .ws2 ws k kW a0 b0 oM oW gs.size q) (ho : a0.offers = none) (hr : a0'.status = .running)
    (h0 : ∀ w st, WA C w st 0 → stepG C.P true a0 w = .go { a0 with status := .blocked } w #[]) (h1 : ∀ w, WA C w 0 1 → stepG C.P true a0 w = .go a0' (w.setCell (smC C.wg) (.int .u32 0)) (semEvents (smC C.wg))) (ih : All C Fin .ws3 ws k kW a0' b0 oM oW) : Turn C Fin gs w sl' t 0 := by
  have hcase : (ws ≠ .quit ∧ ∃ st, WA C w st 0) ∨ (ws = .quit ∧ WA C w 0 1) := by
    have hw := h.wg
    unfold WgOk at hw
    cases ws <;> simp only at hw
    · exact .inl ⟨by simp, hw.elim (fun x => ⟨_, x.2⟩) fun x => ⟨_, x.2⟩⟩
    · exact .inl ⟨by simp, hw.elim (fun x => ⟨_, x.2⟩) fun x => ⟨_, x.2⟩⟩
    · exact .inl ⟨by simp, hw.elim (fun x => ⟨_, x.2⟩) fun x => ⟨_, x.2⟩⟩
    · exact .inl ⟨by simp, hw.elim (fun x => ⟨_, x.2⟩) fun x => ⟨_, x.2⟩⟩
    · exact .inl ⟨by simp, _, hw.2⟩
    · exact .inl ⟨by simp, _, hw.2⟩
    · exact .inr ⟨rfl, hw.elim (fun x => x.2) fun x => absurd rfl x.1⟩
  have hsm := h.aok.sm ha
  rcases hcase with ⟨hq, st, hW⟩ | ⟨rfl, hW⟩
  · obtain ⟨hb, hbsm⟩ := bok_run h (by simp) hq
    obtain ⟨g1, g2, g3⟩ := cf_step0 (sl' := sl') (oM' := oM) h.cf (by rw [hsm.step]; exact h0 w st hW) (Nat.le_refl _) (fun _ _ _ _ => rfl) ⟨rfl, rfl, rfl⟩ (fun x => ⟨.inl, fun y => y.elim id fun z => by omega⟩) h.cf.im (fun e he => by simp at he)
    rw [woken_run hb] at g3
    refine ⟨_, w, _, g1, g2, hsl (by rw [hb]; simp) g2 ⟨g3, h.ne, .inr (.inr ⟨rfl, hq, rfl, ho, rfl, rfl, rfl⟩), h.bok, h.qu, .inr hb, h.iw, h.ow, h.c1, h.c2, h.wg, h.dw, h.kk, rel_other h.rel fun op hop => ?_⟩ rfl⟩
    obtain ⟨e, he, _⟩ := Go.Conc.mem_ofEvents hop
    simp at he
  · have hwf := wa_block w (smC C.wg) (.int .u32 0)
    refine t0_wg (ms' := .ws3) (by simp) (by simp) h ha (h1 w hW) hr hwf (fun e he => ev0_wg h hwf.2.1 ?_) ?_ (.inr ⟨by simp, hW.setSm 0⟩) ih
    · simp only [semEvents, List.mem_toArray, List.mem_cons, List.not_mem_nil, or_false] at he
      rcases he with rfl | rfl | rfl | rfl
      · exact .inr (.inl rfl)
      · exact .inl ⟨1, false, rfl⟩
      · exact .inl ⟨1, true, rfl⟩
      · exact .inr (.inr rfl)
    · simp [semEvents, deafBehind, MS.deaf]

/-- THE END: goroutine 0 hears all that the worker did. -/
theorem t0_acq (h : St C .ws5 ws k kW a0 b0 oM oW gs w t q a b OW dW) (ha : a.status = .running) (_ : a0'.status = .running) (hs : ∀ w, Live C w → stepG C.P true a0 w = .go a0' w #[mkS (.acquire (stC C.wg))]) (hfin : Fin k a0' oM) (hfw : ws = .quit → C.FW oW) : Turn C Fin gs w sl' t 0 := by
  obtain ⟨rfl, hW⟩ := wg_past h.wg (.inr (.inr rfl))
  obtain ⟨n, hn⟩ := h.qu rfl
  have hwgl := (h.sy_keep (sy_wg C)).1
  obtain ⟨g1, g2, g3⟩ := cf_step0 (sl' := sl') (oM' := oM) h.cf (by rw [(h.aok.sm ha).step]; exact hs w h.wg.live) (Nat.le_refl _) (fun _ _ _ _ => rfl) ⟨rfl, rfl, rfl⟩ (fun x => ⟨.inl, fun y => y.elim id fun z => by omega⟩) h.cf.im (fun e he => by
    simp at he; subst he; exact ev0_mark rfl (by simp) hwgl)
  rw [woken_quitsD hn] at g3
  have hu : MemOp.ofEvents 0 a.frame.fn a.frame.place #[mkS (.acquire (stC C.wg))] = #[{ g := 0, fn := a.frame.fn, pos := a.frame.place, act := .mark (.acquire (stC C.wg)) }] := by simp [MemOp.ofEvents, mkS, MemAct.ofEvent]
  rw [hu] at g1 g3
  have hd0 : deafBehind MS.ws5.deaf #[mkS (.acquire (stC C.wg))] = 0 := rfl
  rw [hd0] at g3
  obtain ⟨r, hrel⟩ := h.rel rfl
  generalize hT : t ++ #[({ g := 0, fn := a.frame.fn, pos := a.frame.place, act := .mark (.acquire (stC C.wg)) } : MemOp)] = T at g3 ⊢
  have hlast : T[t.size]? = some { g := 0, fn := a.frame.fn, pos := a.frame.place, act := .mark (.acquire (stC C.wg)) } := by rw [← hT, Array.getElem?_append_right (Nat.le_refl _)]; simp
  have hrelT : RelAt C T r := by rw [← hT]; exact hrel.app' fun op hop => by simp at hop; subst hop; exact .inr rfl
  have hkr : Knows T 0 r := by
    refine ⟨t.size, _, hlast, rfl, .inr (.single (.inr ⟨.marked hrel.lt (.inr hrelT.act) (act?_of hlast) (fun x _ _ => g3.norel x), hrelT.heard, ⟨0, g?_of hlast, ?_⟩⟩))⟩
    rw [← hT, deaf_old (Nat.le_refl _)]
    exact h.cf.dm
  have hj0 : C.j ≠ 0 := by have := h.cf.hj; omega
  refine ⟨_, w, _, g1, g2, ⟨0, _, w, sl', T, fun i => if i = C.j then n else q i, a0', k, oM, by rw [hT]; rfl, rfl, ⟨g3.at0, ⟨fun i g hi hg => ?_, g3.above⟩, ⟨g3.ti.clean, fun i x hx hm => ?_, ?_, g3.dm, g3.low⟩⟩, hfin, h.cf.im, fun x hx => ?_, fun x hx => ?_, h.cf.sz, h.cf.keep.1, h.cf.same.1, h.cf.same.2.1, h.cf.same.2.2, ⟨oW, hfw rfl, h.iw (.inr trivial)⟩, fun b hb => h.cf.keep.2 b (.inl hb)⟩⟩
  · by_cases hij : i = C.j
    · subst hij
      rw [g3.atj] at hg
      obtain rfl := Option.some.inj hg
      simp only [if_true]
      rw [g3.dw]
      exact hn
    · simp only [hij, if_false]
      exact g3.old i g hi hij hg
  · rcases g3.ti.all i x hx hm with h1 | h1 | ⟨h1, h2⟩
    · exact .inl h1
    · rcases hrelT.all i x hx hm h1 with h2 | ⟨h2, h3, _⟩
      · exact .inl (Knows.of_before h2 hkr)
      · refine .inr ⟨?_, h3⟩
        cases hl : x.loc <;> rw [hl] at h2 <;> simp only [Loc.blk, Option.some.injEq] at h2 <;> first | exact .inr h2 | cases h2
    · refine .inr ⟨?_, h2⟩
      cases hl : x.loc <;> rw [hl] at h1 <;> first | exact .inl h1 | exact h1.elim
  · intro i g hg hg0 hc
    by_cases hgj : g = C.j
    · subst hgj
      obtain ⟨x, hx, hm, hk⟩ := hc
      have hb : Before T i r := by
        rcases hrelT.all i x hx hm hg with h2 | ⟨_, h3, h4⟩
        · exact h2
        · rcases hk with hk | hk
          · exact absurd h3 hk
          · exact absurd hk h4
      obtain ⟨y, z, hy, hz, hby⟩ := Knows.of_before hb hkr
      refine ⟨y, by rw [g?_of hy, hz], ?_⟩
      rcases hby with rfl | hby
      · rw [g?_of hy] at hg
        have := Option.some.inj hg
        rw [hz] at this
        exact absurd this.symm hj0
      · exact hby
    · exact g3.over i g hg hg0 hgj hc
  · have h1 := h.cf.om x hx
    exact ⟨h1.1, fun e => e.elim h1.2.2.2.2 fun e => h1.2.2.2.1 (by rw [e]; exact sy_wg C)⟩
  · rcases hx with e | rfl
    · exact h.cf.z x e
    · exact hwgl

/-- the worker's plan, goroutine 0's being given -/
theorem inner (hand : Hand C Fin ms k a0 oM)
    (t0 : ∀ {ws kW b0 oW}, PW C ws kW b0 oW → ∀ {gs w sl' t q a b OW dW}, St C ms ws k kW a0 b0 oM oW gs w t q a b OW dW → a.status = .running → (b.status ≠ .blocked → Sleeps0 C Fin ms ws k kW a0 b0 oM oW gs.size q) → Turn C Fin gs w sl' t 0) :
    ∀ {ws kW b0 oW}, PW C ws kW b0 oW → All C Fin ms ws k kW a0 b0 oM oW := by
  intro ws kW b0 oW hW
  induction hW with
  | @priv s kW b o nx no hr hst hpw ih =>
    intro gs w sl t q a b OW dW h
    refine by_turns (by simp) (t0 (.priv nx no hr hst hpw)) (fun {gs w sl' t q a b OW dW} h hb _ => ?_) h
    have hI := h.iw (by simp)
    obtain ⟨w', es, h1, h2⟩ := hst w hI
    exact tj_priv h hb h1 h2 ((hpw w hI).run (by simp)) (ih w hI)
  | @sel kW b o o' xv bk ob z1 z2 hr ho hcs hbk hob hst hO2 hI2 hp1 hp2 ih1 ih2 =>
    intro gs w sl t q a b OW dW h
    exact by_turns (by simp) (t0 (.sel hr ho hcs hbk hob hst hO2 hI2 hp1 hp2)) (fun h hb hsl => tj_sel h hb hsl ho hr hcs hbk hob hst hO2 hI2 hand hp1 ih2) h
  | @clo s kW b b' o es hr hr' hmw hk hce hst hp ih =>
    intro gs w sl t q a b OW dW h
    exact by_turns (by simp) (t0 (.clo hr hr' hmw hk hce hst hp)) (fun h hb _ => tj_clo h hb hr' hmw hk hce hst ih) h
  | @free s kW b o nx hf hr hst hp ih =>
    intro gs w sl t q a b OW dW h
    exact by_turns (fun e => by rw [e] at hf; cases hf) (t0 (.free nx hf hr hst hp)) (fun h hb _ => tj_free hf h hb (hst _ h.wg.live).1 (hst _ h.wg.live).2 (ih _ h.wg.live)) h
  | @r0 kW b b' o hr hr' hst hp ih =>
    intro gs w sl t q a b OW dW h
    refine by_turns (by simp) (t0 (.r0 hr hr' hst hp)) (fun {gs w sl' t q a b OW dW} h hb _ => ?_) h
    have hdw : dW = 0 := h.dw (by simp)
    refine tj_mark (ws' := .fin1) rfl rfl h hb hr' hst ⟨rfl, by simp, (h.sy_keep (sy_wg C)).1⟩ rfl (fun w x => x) (fun _ => ?_) ih
    have hu : MemOp.ofEvents C.j b.frame.fn b.frame.place #[mkS (.releaseMerge (stC C.wg))] = #[{ g := C.j, fn := b.frame.fn, pos := b.frame.place, act := .mark (.releaseMerge (stC C.wg)) }] := by simp [MemOp.ofEvents, mkS, MemAct.ofEvent]
    rw [hu]
    have hlast : (t ++ #[({ g := C.j, fn := b.frame.fn, pos := b.frame.place, act := .mark (.releaseMerge (stC C.wg)) } : MemOp)])[t.size]? = some { g := C.j, fn := b.frame.fn, pos := b.frame.place, act := .mark (.releaseMerge (stC C.wg)) } := by rw [Array.getElem?_append_right (Nat.le_refl _)]; simp
    refine ⟨t.size, act?_of hlast, g?_of hlast, ⟨C.j, g?_of hlast, ?_⟩, fun i x hx _ hg => .inl ?_⟩
    · rw [deaf_old (Nat.le_refl _)]
      have := h.cf.dw
      rw [hdw] at this
      exact this
    · rcases touch_cases hx with ⟨hi, h'⟩ | ⟨op, hop, _, hop'⟩
      · rw [g?_old hi] at hg
        exact .inr ((knows_g hg).hb_new (Nat.le_refl _) hlast rfl)
      · simp at hop; subst hop; cases hop'
  | @k1 kW b b' o hr hr' hst hp ih =>
    intro gs w sl t q a b OW dW h
    refine by_turns (by simp) (t0 (.k1 hr hr' hst hp)) (fun {gs w sl' t q a b OW dW} h hb _ => ?_) h
    refine tj_mark (ws' := .fin2) rfl rfl h hb hr' hst ⟨rfl, by simp, trivial⟩ rfl (fun w x => x) (rel_other (fun _ => h.rel rfl) fun op hop => ?_) ih
    obtain ⟨e, he, rfl⟩ := Go.Conc.mem_ofEvents hop
    simp at he; subst he; exact .inr rfl
  | @d1 kW n b b1 b2 o hr hr2 h1 hq hfw h2 hp ih =>
    intro gs w sl t q a b OW dW h
    exact by_turns (by simp) (t0 (.d1 hr hr2 h1 hq hfw h2 hp)) (fun h hb _ => tj_d1 h hb h1 hq hr2 h2 (by_turns_quit (b0 := b1) (fun h ha hsl => t0 (.quit hfw) h ha fun _ => fun _ hS hbl => by rw [aok_quit hS.aok] at hbl; cases hbl)) ih) h
  | @d2 kW b b' o hr hr' hst hp ih =>
    intro gs w sl t q a b OW dW h
    exact by_turns (by simp) (t0 (.d2 hr hr' hst hp)) (fun h hb _ => tj_d2 h hb hr' hst ih) h
  | @d3 kW b b' o hr hr' hst hp ih =>
    intro gs w sl t q a b OW dW h
    exact by_turns (by simp) (t0 (.d3 hr hr' hst hp)) (fun h hb _ => tj_d3 h hb hr' hst ih) h
  | @d4 kW n b b' o hr hmw hst hq hfw =>
    intro gs w sl t q a b OW dW h
    exact by_turns (by simp) (t0 (.d4 hr hmw hst hq hfw)) (fun h hb _ => tj_d4 h hb hmw hst hq (by_turns_quit (b0 := b') (fun h ha hsl => t0 (.quit hfw) h ha fun _ => fun _ hS hbl => by rw [aok_quit hS.aok] at hbl; cases hbl))) h
  | @quit kW b o hfw =>
    intro gs w sl t q a b' OW dW h
    exact by_turns_quit (b0 := b) (fun h ha hsl => t0 (.quit hfw) h ha fun _ => fun _ hS hbl => by rw [aok_quit hS.aok] at hbl; cases hbl) h
end

end Go.Proofs.Ytcdhmnefmbcmaaa

namespace Go.Proofs.Ytcdhmnefmbcmaaa
open Go Go.Conc
open Go.ConcN (sumTo upd sumTo_upd upd_ne upd_same)

theorem hand_none {C : Cx} {Fin : Nat → Goroutine → Own C.SR → Prop} {ms : MS} {k : Nat} {a0 : Goroutine} {oM : Own C.SR} (h : ms ≠ .work) : Hand C Fin ms k a0 oM := fun e => absurd e h

theorem phase {C : Cx} {Fin : Nat → Goroutine → Own C.SR → Prop} {ms : MS} {k : Nat} {a0 : Goroutine} {oM : Own C.SR} (hM : PM C Fin ms k a0 oM) :
    ∀ {ws kW b0 oW}, PW C ws kW b0 oW → All C Fin ms ws k kW a0 b0 oM oW := by
  induction hM with
  | @priv k a o nx no hr hst hpm ih =>
    refine inner (fun _ z w hI _ hc => ?_) fun {ws kW b0 oW} hpw {gs w sl' t q a b OW dW} h ha _ => ?_
    · obtain ⟨w', es, h1, _⟩ := hst w hI
      rw [h1] at hc; cases hc
    · have hI := h.cf.im
      obtain ⟨w', es, h1, h2⟩ := hst w hI
      have hr' : (nx w).status = .running := by
        have := hpm w hI
        cases this <;> assumption
      exact t0_priv h ha h1 h2 hr' (ih w hI hpw)
  | @recv k a o z go hr ho hst hO hI hgo hcl ihg ihc =>
    refine inner (fun _ z' w hI' _ hc => ?_) fun {ws kW b0 oW} hpw {gs w sl' t q a b OW dW} h ha hsl => t0_recv hpw h ha hsl hst hO hI (fun xv bk ob hcs {ws kW b0 oW} hp => ihg xv bk ob hcs hp) (fun e => ihc e hpw)
    rw [hst w hI'] at hc
    simp only [GStep.comm.injEq, rcase, Array.mk.injEq, List.cons.injEq, CommCase.mk.injEq, and_true, true_and] at hc
    subst hc
    intro xv bk ob hcs
    exact ⟨go xv bk ob, hO xv bk ob hcs, hI xv bk ob hcs, fun hp => ihg xv bk ob hcs hp⟩
  | @clo k a a' o es hr hr' hmw hce hst hpm ih =>
    refine inner (fun _ z w hI hc1 hc => ?_) fun {ws kW b0 oW} hpw {gs w sl' t q a b OW dW} h ha _ => t0_clo h ha hr' hmw hce hst (ih hpw)
    obtain ⟨w', hw'⟩ := closeCh_of hc1
    rw [hst w w' hI hw'] at hc; cases hc
  | @free s k a o nx es hf hr hst hpm ih =>
    exact inner (hand_none (fun e => by rw [e] at hf; cases hf)) fun {ws kW b0 oW} hpw {gs w sl' t q a b OW dW} h ha _ => t0_free hf h ha (hst w h.wg.live).1 (hst w h.wg.live).2.1 (hst w h.wg.live).2.2 (ih w h.wg.live hpw)
  | @kd k a a' o hr hr' hst hpm ih =>
    exact inner (hand_none (by simp)) fun {ws kW b0 oW} hpw {gs w sl' t q a b OW dW} h ha _ => t0_kd h ha hr' hst (ih hpw)
  | @w1 k a a1 a2 o hr hr1 hr2 h1 hp1 h2 hp2 ih1 ih2 =>
    exact inner (hand_none (by simp)) fun {ws kW b0 oW} hpw {gs w sl' t q a b OW dW} h ha _ => t0_w1 h ha hr1 hr2 h1 h2 (ih1 hpw) (ih2 hpw)
  | @w2 k a a1 a2 o hr hr1 hr2 h1 hp1 h2 hp2 ih1 ih2 =>
    exact inner (hand_none (by simp)) fun {ws kW b0 oW} hpw {gs w sl' t q a b OW dW} h ha _ => t0_w2 h ha hr1 hr2 h1 h2 (ih1 hpw) (ih2 hpw)
  | @w1z k a a2 o hr hr2 hst hpm ih =>
    exact inner (hand_none (by simp)) fun {ws kW b0 oW} hpw {gs w sl' t q a b OW dW} h ha _ => t0_w1z h ha hr2 hst (ih hpw)
  | @w3 k a a' o hr hr' ho h0 h1 hpm ih =>
    exact inner (hand_none (by simp)) fun {ws kW b0 oW} hpw {gs w sl' t q a b OW dW} h ha hsl => t0_w3 h ha hsl ho hr' h0 h1 (ih hpw)
  | @w4 k a a' o hr hr' hst hpm ih =>
    exact inner (hand_none (by simp)) fun {ws kW b0 oW} hpw {gs w sl' t q a b OW dW} h ha _ => t0_w4 h ha hr' hst (ih hpw)
  | @ke k a a' o hr hr' hst hpm ih =>
    exact inner (hand_none (by simp)) fun {ws kW b0 oW} hpw {gs w sl' t q a b OW dW} h ha _ => t0_ke h ha hr' hst (ih hpw)
  | @acq k a a' o hr hr' hst hfin =>
    exact inner (hand_none (by simp)) fun {ws kW b0 oW} hpw {gs w sl' t q a b OW dW} h ha _ => t0_acq h ha hr' hst hfin (fun e => by subst e; cases hpw with | free _ hf _ _ _ => cases hf | quit hfw => exact hfw)

end Go.Proofs.Ytcdhmnefmbcmaaa

namespace Go.Proofs.Ytcdhmnefmbcmaaa
open Go Go.Conc
abbrev link : Go.Conc.Lib.WgLink := { add := 24, done := 26, wait := 27, relMerge := 30, disable := 31, enable := 32, inBubble := 33, associate := 34, fatal := 35, uOr := 36, uAdd := 37, raceRead := 38, uLoad := 39, uStore := 40, disassociate := 41, semrelease := 42, acquire := 43, isAssociated := 44, uCas := 45, raceWrite := 46, semacquire := 47, orU64 := 48, addU64 := 49, loadU64 := 50, storeU64 := 51, casU64 := 52, tWgP := 72, tUP := 74, tAssoc := 75, tWg := 67, tAU := 64, tU64 := 62, tUint := 79, tU32 := 65, tPU32 := 80, tPAU := 88, tPU64 := 90, tNoCopy := 59, tANoCopy := 60, tAlign64 := 61 }
theorem wgLib : Go.Conc.Lib.WgLib Try.prog link :=
  ⟨Try.func24, Try.func26, Try.func27, Try.func30, Try.func31, Try.func32, Try.func33, Try.func34, Try.func35, Try.func36, Try.func37, Try.func38, Try.func39, Try.func40, Try.func41, Try.func42, Try.func43, Try.func44, Try.func45, Try.func46, Try.func47, Try.func48, Try.func49, Try.func50, Try.func51, Try.func52, Try.underlying72, Try.runUnderlying72, Try.sizeOf72, Try.isAgg72, Try.zeroValue72, Try.underlying74, Try.runUnderlying74, Try.sizeOf74, Try.isAgg74, Try.zeroValue74, Try.underlying75, Try.runUnderlying75, Try.sizeOf75, Try.isAgg75, Try.zeroValue75, Try.underlying67, Try.runUnderlying67, Try.sizeOf67, Try.isAgg67, Try.zeroValue67, Try.underlying64, Try.runUnderlying64, Try.sizeOf64, Try.isAgg64, Try.zeroValue64, Try.underlying62, Try.runUnderlying62, Try.sizeOf62, Try.isAgg62, Try.zeroValue62, Try.underlying79, Try.runUnderlying79, Try.sizeOf79, Try.isAgg79, Try.zeroValue79, Try.underlying65, Try.runUnderlying65, Try.sizeOf65, Try.isAgg65, Try.zeroValue65, Try.underlying80, Try.runUnderlying80, Try.sizeOf80, Try.isAgg80, Try.zeroValue80, Try.underlying88, Try.runUnderlying88, Try.sizeOf88, Try.isAgg88, Try.zeroValue88, Try.underlying90, Try.runUnderlying90, Try.sizeOf90, Try.isAgg90, Try.zeroValue90, Try.underlying0, Try.runUnderlying0, Try.sizeOf0, Try.isAgg0, Try.zeroValue0, Try.underlying3, Try.runUnderlying3, Try.sizeOf3, Try.isAgg3, Try.zeroValue3, Try.underlying4, Try.runUnderlying4, Try.sizeOf4, Try.isAgg4, Try.zeroValue4, Try.underlying9, Try.runUnderlying9, Try.sizeOf9, Try.isAgg9, Try.zeroValue9, Try.underlying20, Try.runUnderlying20, Try.sizeOf20, Try.isAgg20, Try.zeroValue20, Try.underlying21, Try.runUnderlying21, Try.sizeOf21, Try.isAgg21, Try.zeroValue21, by kernel_rfl, by kernel_rfl⟩
instance : Go.ConcX.Payload := ⟨3⟩

end Go.Proofs.Ytcdhmnefmbcmaaa

namespace Go.Proofs.Ytcdhmnefmbcmaaa
open Go Go.Conc Go.RowKit Go.Conc.Lib Go.ConcX Go.ConcX.Gen

/-- the others may have done what they like: the group is there -/
def RL (C : Cx) (_ w : World) : Prop := Live C w

theorem pw_goes {C : Cx} {P : Program} (hP : C.P = P) {s : WS} {k : Nat} {o : Own C.SR} (hs : s.free = true) :
    ∀ {n : Nat} {g : Goroutine} {w : World}, Live C w → Goes P false (RL C) DC0 (fun g _ => g.status = .running ∧ PW C s k g o) n g w → g.status = .running ∧ PW C s k g o := by
  intro n
  induction n with
  | zero => intro g w hl h; exact h w hl
  | succ n ih =>
    intro g w hl h
    rcases h with h | ⟨hr, h⟩
    · exact h w hl
    refine ⟨hr, ?_⟩
    have key : ∀ w₁ : World, ∃ g', Live C w₁ → g'.status = .running ∧ stepG P false g w₁ = .go g' w₁ #[] ∧ PW C s k g' o := fun w₁ => by
      by_cases hl₁ : Live C w₁
      · have h1 := h w₁ hl₁
        cases hst : stepG P false g w₁ with
        | go g' w' es =>
          rw [hst, goes_go] at h1
          obtain ⟨⟨rfl, rfl⟩, h2⟩ := h1
          have := ih hl₁ h2
          exact ⟨g', fun _ => ⟨this.1, rfl, this.2⟩⟩
        | _ => rw [hst] at h1; exact h1.elim
      · exact ⟨g, fun x => absurd x hl₁⟩
    obtain ⟨nx, hnx⟩ := Classical.axiomOfChoice key
    exact .free nx hs hr (fun w hw => ⟨(hnx w hw).1, by rw [hP]; exact (hnx w hw).2.1⟩) fun w hw => (hnx w hw).2.2

section
variable {C : Cx} {P : Program} (hP : C.P = P) {k n : Nat} {b b' b1 b2 : Goroutine} {o : Own C.SR}
 include hP
theorem pw_r0 (h1 : ∀ w, Live C w → stepG P false b w = .go b' w #[mkS (.releaseMerge (stC C.wg))]) (hr : b.status = .running) (hr' : b'.status = .running) (h : PW C .fin1 k b' o) : PW C .fin0 k b o := by subst hP; exact .r0 hr hr' h1 h
theorem pw_k1 (h1 : ∀ w, Live C w → stepG P false b w = .go b' w #[mkS .disable]) (hr : b.status = .running) (hr' : b'.status = .running) (h : PW C .fin2 k b' o) : PW C .fin1 k b o := by subst hP; exact .k1 hr hr' h1 h
theorem pw_d1 (h1 : ∀ w, WA C w KQ 0 → stepG P false b w = .go b1 (w.setCell (stC C.wg) (.int .u64 0)) #[rdS C, wrS C]) (h2 : ∀ w, WA C w (KQ + 1) 0 → stepG P false b w = .go b2 (w.setCell (stC C.wg) (.int .u64 1)) #[rdS C, wrS C])
    (hr : b.status = .running) (hr2 : b2.status = .running) (hfw : C.FW o) (hq : QuitsD P n 1 b1) (h : PW C .fin3 k b2 o) : PW C .fin2 k b o := by subst hP; exact .d1 hr hr2 h1 hq hfw h2 h
theorem pw_d2 (h1 : ∀ w, WA C w 1 0 → stepG P false b w = .go b' w #[rdS C]) (hr : b.status = .running) (hr' : b'.status = .running) (h : PW C .fin3 k b' o) : PW C .fin3 k b o := by subst hP; exact .d2 hr hr' h1 h
theorem pw_d3 (h1 : ∀ w, WA C w 1 0 → stepG P false b w = .go b' (w.setCell (stC C.wg) (.int .u64 0)) #[wrS C]) (hr : b.status = .running) (hr' : b'.status = .running) (h : PW C .fin4 k b' o) : PW C .fin3 k b o := by subst hP; exact .d3 hr hr' h1 h
theorem pw_d4 (h1 : ∀ w, WA C w 0 0 → stepG P false b w = .go b' (w.setCell (smC C.wg) (.int .u32 1)) (semEvents (smC C.wg))) (hr : b.status = .running) (hmw : mayWake P b = true) (hfw : C.FW o) (hq : QuitsD P n 1 b') : PW C .fin4 k b o := by subst hP; exact .d4 hr hmw h1 hq hfw
end

theorem q_value {P : Program} {b : Frame} {a : Act} {kk : List Item} {cs : List Frame} {n d : Nat} {ops : Array Oper} {i : Nat} {rest : List Nat} {o : Oper} {v : Value} (ho : ops[i]? = some o) (hw : Region.wanted o (yielded ops a.tmps) = true) (hk : b.kind ≠ .early)
    (hr : ∀ w, (execOp a.eval o).run P w = .ok (.value v) w) (he : ∀ w, (execOp a.eval o).events P w #[] = #[])
    (hq : QuitsD P n d (G (b.at (a.put o.dst v) (.inRegion ops rest :: kk)) cs)) : QuitsD P (n + 1) d (G (b.at a (.inRegion ops (i :: rest) :: kk)) cs) := QuitsD.value v ho hw hk hr he hq

theorem q_at {P : Program} {b : Frame} {a : Act} {kk : List Item} {cs : List Frame} {n d : Nat} {ops : Array Oper} {i : Nat} {rest : List Nat} (h : QuitsD P n d (G (b.at a (.inRegion ops (i :: rest) :: kk)) cs)) : QuitsD P n d (G (b.at a (.inRegion ops (i :: rest) :: kk)) cs) := h
theorem q_code {P : Program} {b : Frame} {a : Act} {kk : List Item} {cs : List Frame} {n d : Nat} {c : Code} (h : QuitsD P n d (G (b.at a (.code c :: kk)) cs)) : QuitsD P n d (G (b.at a (.code c :: kk)) cs) := h
theorem q_end {P : Program} {b : Frame} {a : Act} {kk : List Item} {cs : List Frame} {n d : Nat} {ops : Array Oper} (h : QuitsD P n d (G (b.at a (.inRegion ops [] :: kk)) cs)) : QuitsD P n d (G (b.at a (.inRegion ops [] :: kk)) cs) := h
theorem q_ib {P : Program} {b : Frame} {a : Act} {kk : List Item} {cs : List Frame} {n d : Nat} {id : Nat} (h : QuitsD P n d (G (b.at a (.inBlock id :: kk)) cs)) : QuitsD P n d (G (b.at a (.inBlock id :: kk)) cs) := h
theorem q_il {P : Program} {b : Frame} {a : Act} {kk : List Item} {cs : List Frame} {n d : Nat} {c : Code} (h : QuitsD P n d (G (b.at a (.inLoop c :: kk)) cs)) : QuitsD P n d (G (b.at a (.inLoop c :: kk)) cs) := h
theorem rl_live {C : Cx} {w w₁ : World} (_ : Live C w) (h : RL C w w₁) : Live C w₁ := h
theorem Live.cell {C : Cx} {w : World} (h : Live C w) : ∃ v, w.cell? ⟨C.wg, 0, none⟩ = some v := by
  obtain ⟨st, sm, h⟩ := h
  exact ⟨_, WgAt.cellSt (Wg := C.wg) (ty := C.ty) h⟩

set_option maxRecDepth 100000 in
set_option maxHeartbeats 4000000 in
theorem done_fin {P : Program} {L : WgLink} (H : WgLib P L) {C : Cx} (hP : C.P = P) {k : Nat} {o : Own C.SR} (hfw : C.FW o) {c : Frame} {cs : List Frame} {qt : Nat} {w : World} (hK : Live C w)
    (hcm : c.mode = .returning) (hT : QuitsD P qt 0 (G c cs)) :
    PW C .fin0 k (G ((baseD L.done).at ⟨#[.pointer (some ⟨C.wg, 0, none⟩), undef, undef, undef], []⟩ [.code (body_done L)]) (c :: cs)) o := by
  have hl0 := hK
  lib_facts
  simp only [body_done, body_add, doneFn, Option.getD_some]
  refine (pw_goes hP rfl (n := 150) hl0 ?_).2
  u_reg rl_live hK
  u_op rl_live hK
  u_call H.f_add (nm_add L) addFn rl_live hK
  u_c stepG_seq rl_live hK
  u_cond true rl_live hK
  u_c stepG_seq rl_live hK
  u_c stepG_seq rl_live hK
  u_reg rl_live hK
  u_op rl_live hK
  u_op rl_live hK
  u_c stepG_region_end rl_live hK
  u_cond true rl_live hK
  u_reg rl_live hK
  u_op rl_live hK
  u_conv H.underlying_tWgP H.room_tWg hK.cell.choose_spec rl_live hK
  refine Goes.stop (fun _ _ => ⟨rfl, pw_r0 hP (fun _ _ => stepG_markAt .releaseMerge (by simp) rfl rfl (by k_ne) rfl H.f_relMerge (x_relMerge_n L) (x_relMerge_b L) (x_relMerge_x L) (x_relMerge_f L) (by simp [Act.eval, stC])) rfl rfl ?_⟩)
  walk_nrm
  refine (pw_goes hP rfl (n := 150) hl0 ?_).2
  replace hK := hl0
  u_c stepG_region_end rl_live hK
  u_c stepG_seq rl_live hK
  u_reg rl_live hK
  refine Goes.stop (fun _ _ => ⟨rfl, pw_k1 hP (fun _ _ => stepG_mark0 .disable (by simp) rfl rfl (by k_ne) rfl H.f_disable (x_disable_n L) (x_disable_b L) (x_disable_x L) (x_disable_f L)) rfl rfl ?_⟩)
  walk_nrm
  refine (pw_goes hP rfl (n := 150) hl0 ?_).2
  replace hK := hl0
  u_c stepG_region_end rl_live hK
  u_reg rl_live hK
  u_defer rl_live hK
  u_c stepG_region_end rl_live hK
  u_c stepG_seq rl_live hK
  u_reg rl_live hK
  u_op rl_live hK
  u_c stepG_region_end rl_live hK
  u_c stepG_seq rl_live hK
  u_c stepG_seq rl_live hK
  u_reg rl_live hK
  u_bub rl_live hK
  u_c stepG_region_end rl_live hK
  u_cond false rl_live hK
  u_c stepG_skip rl_live hK
  u_c stepG_seq rl_live hK
  u_reg rl_live hK
  u_op rl_live hK
  u_op rl_live hK
  u_op rl_live hK
  u_op rl_live hK
  u_op rl_live hK
  u_op rl_live hK
  u_call H.f_uAdd (nm_uAdd L) uAddFn rl_live hK
  u_c stepG_seq rl_live hK
  u_reg rl_live hK
  u_op rl_live hK
  u_c stepG_region_end rl_live hK
  u_c stepG_seq rl_live hK
  u_reg rl_live hK
  u_op rl_live hK
  u_op rl_live hK
  u_op rl_live hK
  u_op rl_live hK
  have e0 : IntKind.u64.wrap (KQ + 18446744069414584320) = 0 := by decide
  have e1 : IntKind.u64.wrap (KQ + 1 + 18446744069414584320) = 1 := by decide
  refine Goes.stop (fun _ _ => ⟨rfl, pw_d1 (n := qt + 92) hP
    (fun w hw => (stepG_add_atomic rfl rfl (by k_ne) rfl H.f_addU64 (x_addU64_n L) (x_addU64_b L) (x_addU64_x L) .u64 (x_addU64_f L) rfl rfl (WgAt.cellSt (ty := C.ty) hw) (WgAt.thaw (ty := C.ty) hw 0)).trans (by rw [e0]; rfl))
    (fun w hw => (stepG_add_atomic rfl rfl (by k_ne) rfl H.f_addU64 (x_addU64_n L) (x_addU64_b L) (x_addU64_x L) .u64 (x_addU64_f L) rfl rfl (WgAt.cellSt (ty := C.ty) hw) (WgAt.thaw (ty := C.ty) hw 0)).trans (by rw [e1]; rfl)) rfl rfl hfw ?_ ?_⟩)
  · -- nobody waits: it only leaves
    clear hK hl0
    walk_nrm
    q_val (.int .u64 0)
    q_c stepG_region_end
    q_c stepG_ret'
    q_leave1 H.f_uAdd
    q_val (.int .u64 0)
    q_c stepG_region_end
    q_c stepG_seq
    q_c stepG_seq
    q_reg
    q_val (.int .u64 0)
    q_val (.int .u64 0)
    q_val (.bool false)
    q_val (.bool false)
    q_skip
    q_skip
    q_val (.bool false)
    q_c stepG_region_end
    q_cond false
    q_c stepG_skip
    q_c stepG_seq
    q_reg
    q_val (.int .u64 0)
    q_val (.int .u64 0)
    q_val (.int .i32 0)
    q_val (.int .i32 0)
    q_c stepG_region_end
    q_c stepG_seq
    q_reg
    q_val (.int .u64 0)
    q_val (.int .u64 0)
    q_val (.int .u32 0)
    q_val (.int .u32 0)
    q_c stepG_region_end
    q_c stepG_seq
    q_c stepG_seq
    q_reg
    q_val (.bool true)
    q_val (.int .i64 (-1))
    q_val (.bool false)
    q_val (.bool false)
    q_val (.bool false)
    q_skip
    q_skip
    q_skip
    q_skip
    q_val (.bool false)
    q_c stepG_region_end
    q_cond false
    q_c stepG_skip
    q_c stepG_seq
    q_c stepG_seq
    q_reg
    q_val (.int .i32 0)
    q_val (.bool false)
    q_c stepG_region_end
    q_cond false
    q_c stepG_skip
    q_c stepG_seq
    q_c stepG_seq
    q_reg
    q_val (.int .u32 0)
    q_val (.bool false)
    q_val (.bool false)
    q_skip
    q_skip
    q_val (.bool false)
    q_val (.bool false)
    q_skip
    q_skip
    q_skip
    q_skip
    q_val (.bool false)
    q_c stepG_region_end
    q_cond false
    q_c stepG_skip
    q_c stepG_seq
    q_c stepG_seq
    q_reg
    q_val (.int .i32 0)
    q_val (.bool false)
    q_val (.bool false)
    q_val (.int .u32 0)
    q_val (.bool true)
    q_val (.bool true)
    q_c stepG_region_end
    q_cond true
    q_c stepG_ret'
    q_enable
    q_leave0 H.f_add
    q_c stepG_region_end
    q_c stepG_end
    exact QuitsD.leaveD rfl rfl H.f_done rfl hcm hT
  · walk_nrm
    refine (pw_goes hP rfl (n := 150) hl0 ?_).2
    replace hK := hl0
    u_op rl_live hK
    u_c stepG_region_end rl_live hK
    u_c stepG_ret' rl_live hK
    u_leave1 H.f_uAdd rl_live hK
    u_op rl_live hK
    u_c stepG_region_end rl_live hK
    u_c stepG_seq rl_live hK
    u_c stepG_seq rl_live hK
    u_reg rl_live hK
    u_op rl_live hK
    u_op rl_live hK
    u_op rl_live hK
    u_op rl_live hK
    u_skip rl_live hK
    u_skip rl_live hK
    u_op rl_live hK
    u_c stepG_region_end rl_live hK
    u_cond false rl_live hK
    u_c stepG_skip rl_live hK
    u_c stepG_seq rl_live hK
    u_reg rl_live hK
    u_op rl_live hK
    u_op rl_live hK
    u_op rl_live hK
    u_op rl_live hK
    u_c stepG_region_end rl_live hK
    u_c stepG_seq rl_live hK
    u_reg rl_live hK
    u_op rl_live hK
    u_op rl_live hK
    u_op rl_live hK
    u_op rl_live hK
    u_c stepG_region_end rl_live hK
    u_c stepG_seq rl_live hK
    u_c stepG_seq rl_live hK
    u_reg rl_live hK
    u_op rl_live hK
    u_op rl_live hK
    u_op rl_live hK
    u_op rl_live hK
    u_op rl_live hK
    u_skip rl_live hK
    u_skip rl_live hK
    u_skip rl_live hK
    u_skip rl_live hK
    u_op rl_live hK
    u_c stepG_region_end rl_live hK
    u_cond false rl_live hK
    u_c stepG_skip rl_live hK
    u_c stepG_seq rl_live hK
    u_c stepG_seq rl_live hK
    u_reg rl_live hK
    u_op rl_live hK
    u_op rl_live hK
    u_c stepG_region_end rl_live hK
    u_cond false rl_live hK
    u_c stepG_skip rl_live hK
    u_c stepG_seq rl_live hK
    u_c stepG_seq rl_live hK
    u_reg rl_live hK
    u_op rl_live hK
    u_op rl_live hK
    u_op rl_live hK
    u_op rl_live hK
    u_op rl_live hK
    u_op rl_live hK
    u_op rl_live hK
    u_skip rl_live hK
    u_skip rl_live hK
    u_skip rl_live hK
    u_skip rl_live hK
    u_op rl_live hK
    u_c stepG_region_end rl_live hK
    u_cond false rl_live hK
    u_c stepG_skip rl_live hK
    u_c stepG_seq rl_live hK
    u_c stepG_seq rl_live hK
    u_reg rl_live hK
    u_op rl_live hK
    u_op rl_live hK
    u_op rl_live hK
    u_op rl_live hK
    u_op rl_live hK
    u_op rl_live hK
    u_c stepG_region_end rl_live hK
    u_cond false rl_live hK
    u_c stepG_skip rl_live hK
    u_c stepG_seq rl_live hK
    u_c stepG_seq rl_live hK
    u_reg rl_live hK
    u_op rl_live hK
    u_op rl_live hK
    u_op rl_live hK
    u_call H.f_uLoad (nm_uLoad L) uLoadFn rl_live hK
    u_c stepG_seq rl_live hK
    u_reg rl_live hK
    u_op rl_live hK
    u_c stepG_region_end rl_live hK
    u_c stepG_seq rl_live hK
    u_reg rl_live hK
    u_op rl_live hK
    u_op rl_live hK
    u_op rl_live hK
    refine Goes.stop (fun _ _ => ⟨rfl, pw_d2 hP (fun w hw => stepG_load_atomic rfl rfl (by k_ne) rfl H.f_loadU64 (x_loadU64_n L) (x_loadU64_b L) (x_loadU64_x L) .u64 (x_loadU64_f L) rfl (WgAt.cellSt (ty := C.ty) hw)) rfl rfl ?_⟩)
    walk_nrm
    refine (pw_goes hP rfl (n := 150) hl0 ?_).2
    replace hK := hl0
    u_op rl_live hK
    u_c stepG_region_end rl_live hK
    u_c stepG_ret' rl_live hK
    u_leave1 H.f_uLoad rl_live hK
    u_op rl_live hK
    u_op rl_live hK
    u_c stepG_region_end rl_live hK
    u_cond false rl_live hK
    u_c stepG_skip rl_live hK
    u_c stepG_seq rl_live hK
    u_reg rl_live hK
    u_op rl_live hK
    u_op rl_live hK
    u_op rl_live hK
    u_call H.f_uStore (nm_uStore L) uStoreFn rl_live hK
    u_reg rl_live hK
    u_op rl_live hK
    u_op rl_live hK
    u_op rl_live hK
    u_op rl_live hK
    refine Goes.stop (fun _ _ => ⟨rfl, pw_d3 hP (fun w hw => stepG_store_atomic rfl rfl (by k_ne) rfl H.f_storeU64 (x_storeU64_n L) (x_storeU64_b L) (x_storeU64_x L) (x_storeU64_f L) rfl rfl (WgAt.cellSt (ty := C.ty) hw) (WgAt.thaw (ty := C.ty) hw 0)) rfl rfl ?_⟩)
    walk_nrm
    refine (pw_goes hP rfl (n := 150) hl0 ?_).2
    replace hK := hl0
    u_c stepG_region_end rl_live hK
    u_c stepG_end rl_live hK
    u_leave0 H.f_uStore rl_live hK
    u_c stepG_region_end rl_live hK
    u_c stepG_seq rl_live hK
    u_c stepG_seq rl_live hK
    u_reg rl_live hK
    u_op rl_live hK
    u_c stepG_region_end rl_live hK
    u_cond false rl_live hK
    u_c stepG_skip rl_live hK
    u_c stepG_block rl_live hK
    u_c stepG_loop rl_live hK
    u_c stepG_seq rl_live hK
    u_c stepG_seq rl_live hK
    u_reg rl_live hK
    u_op rl_live hK
    u_op rl_live hK
    u_c stepG_region_end rl_live hK
    u_cond true rl_live hK
    u_c stepG_skip rl_live hK
    u_c stepG_seq rl_live hK
    u_c stepG_block rl_live hK
    u_reg rl_live hK
    u_op rl_live hK
    u_op rl_live hK
    u_op rl_live hK
    refine Goes.stop (fun _ _ => ⟨rfl, pw_d4 (n := qt + 22) hP (fun w hw => (stepG_semrelease rfl rfl (by k_ne) rfl H.f_semrelease (x_semrelease_n L) (x_semrelease_b L) (x_semrelease_x L) (x_semrelease_f L) (by simp [Act.eval, smA]) (WgAt.cellSm (ty := C.ty) hw) (WgAt.thaw (ty := C.ty) hw 1)).trans (by rfl)) rfl (mayWake_entry rfl rfl H.f_semrelease (x_semrelease_b L)) hfw ?_⟩)
    clear hK hl0
    walk_nrm
    q_c stepG_region_end
    q_c stepG_inBlock
    q_reg
    q_val (.int .u32 1)
    q_val (.int .u32 0)
    q_val (.int .u32 0)
    q_c stepG_region_end
    q_c stepG_inLoop
    q_c stepG_seq
    q_c stepG_seq
    q_reg
    q_val (.int .u32 0)
    q_val (.bool false)
    q_c stepG_region_end
    q_cond false
    q_exit
    q_c stepG_end
    q_enable
    q_leave0 H.f_add
    q_c stepG_region_end
    q_c stepG_end
    exact QuitsD.leaveD rfl rfl H.f_done rfl hcm hT

end Go.Proofs.Ytcdhmnefmbcmaaa
