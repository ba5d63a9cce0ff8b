/-
  A chunk passes from the worker to goroutine 0: what the machine keeps; no condition but what each law names.
  The two plans side by side: each one's step; no condition but what each law names.
  The two plans side by side: turns; no condition but what each law names.
-/
import Derived.Test.YtcdhmnefmbcmaaaJal
namespace Go.Proofs.Ytcdhmnefmbcmaaa
open Go Go.Conc
open Go.ConcN (sumTo upd sumTo_upd upd_ne upd_same)

/-- the four operations of a meeting -/
def meetOps (j c s r : Nat) (f0 fj : FuncId) (p0 pj : String) : Array MemOp :=
  #[{ g := j, fn := fj, pos := pj, act := .send c s }, { g := 0, fn := f0, pos := p0, act := .recv c r 0 }, { g := j, fn := fj, pos := pj, act := .sendDone c s }, { g := 0, fn := f0, pos := p0, act := .recvDone c r }]

section
variable {j c s r : Nat} {f0 fj : FuncId} {p0 pj : String} {t : Trace}

theorem meet_no_touch : ∀ op ∈ meetOps j c s r f0 fj p0 pj, op.act.touch? = none := by
  intro op h
  simp only [meetOps, List.mem_toArray, List.mem_cons, List.not_mem_nil, or_false] at h
  rcases h with rfl | rfl | rfl | rfl <;> rfl

theorem meet_get : (t ++ meetOps j c s r f0 fj p0 pj)[t.size]? = some { g := j, fn := fj, pos := pj, act := .send c s } ∧ (t ++ meetOps j c s r f0 fj p0 pj)[t.size + 1]? = some { g := 0, fn := f0, pos := p0, act := .recv c r 0 } ∧
    (t ++ meetOps j c s r f0 fj p0 pj)[t.size + 2]? = some { g := j, fn := fj, pos := pj, act := .sendDone c s } ∧ (t ++ meetOps j c s r f0 fj p0 pj)[t.size + 3]? = some { g := 0, fn := f0, pos := p0, act := .recvDone c r } := by
  refine ⟨?_, ?_, ?_, ?_⟩ <;> (rw [Array.getElem?_append_right (by omega)]; simp [meetOps])

theorem meet_deaf (g : Nat) : (t ++ meetOps j c s r f0 fj p0 pj).deaf g (t.size + 3) = Deaf t g ∧ Deaf (t ++ meetOps j c s r f0 fj p0 pj) g = Deaf t g := by
  obtain ⟨h0, h1, h2, h3⟩ := meet_get (j := j) (c := c) (s := s) (r := r) (f0 := f0) (fj := fj) (p0 := p0) (pj := pj) (t := t)
  have e0 : (t ++ meetOps j c s r f0 fj p0 pj).deaf g t.size = Deaf t g := deaf_old (Nat.le_refl _)
  have e1 := deaf_succ (g := g) h0
  have e2 := deaf_succ (g := g) h1
  have e3 := deaf_succ (g := g) h2
  have e4 := deaf_succ (g := g) h3
  simp only [deafStep] at e1 e2 e3 e4
  have hsz : (t ++ meetOps j c s r f0 fj p0 pj).size = t.size + 3 + 1 := by simp [meetOps]
  refine ⟨by rw [e3, e2, e1, e0], ?_⟩
  unfold Deaf
  rw [hsz, e4, e3, e2, e1, e0]
  rfl

/-- what the worker knew, goroutine 0 knows behind the meeting (the numbers of the sends and the receives go in step) -/
theorem meet_knows (h0 : Deaf t 0 = 0) (hj : Deaf t j = 0) (hsr : s = r) {i : Nat} (hk : Knows t j i) : Knows (t ++ meetOps j c s r f0 fj p0 pj) 0 i := by
  obtain ⟨g0, g1, g2, g3⟩ := meet_get (j := j) (c := c) (s := s) (r := r) (f0 := f0) (fj := fj) (p0 := p0) (pj := pj) (t := t)
  subst hsr
  refine ⟨t.size + 3, _, g3, rfl, .inr ?_⟩
  have e1 := hk.hb_new (u := meetOps j c s s f0 fj p0 pj) (Nat.le_refl _) g0 rfl
  refine e1.trans (.single (.inr ⟨.handOver (c := c) (k := s) (act?_of g0) (act?_of g3), ⟨j, by simp [Trace.g?, g0], ?_⟩, ⟨0, by simp [Trace.g?, g3], ?_⟩⟩))
  · rw [deaf_old (Nat.le_refl _)]; exact hj
  · rw [(meet_deaf 0).1]; exact h0
end

section
variable {C : Cx} {gs gs' : Array Goroutine} {w : World} {t : Trace} {q : Nat → Nat} {a b a' b' : Goroutine} {oM oM' oW : Own C.SR} {OW : Nat → Prop} {s r bk : Nat} {ob : Obj} {f0 fj : FuncId} {p0 pj : String}

theorem cf_meet (h : Cf C gs w t q a b 0 0 oM OW) (hc : w.heap[C.bc]? = some (.chan 0 #[] false s r false)) (hsr : s = r) (hbk : OW bk) (hob : w.heap[bk]? = some ob) (hO : ∀ x, oM'.O x ↔ oM.O x ∨ x = bk)
    (hI : ∀ w, oM.I w → ¬ oM.O bk → w.heap[bk]? = some ob → oM'.I w) (hgs : gs' = (gs.setIfInBounds C.j b').setIfInBounds 0 a') :
    Cf C gs' (w.setChan C.bc 0 #[] false (s + 1) (r + 1) false) (t ++ meetOps C.j C.bc s r f0 fj p0 pj) q a' b' 0 0 oM' (fun x => OW x ∧ x ≠ bk) := by
  have hjp := h.hj
  have hjl : C.j < gs.size := (Array.getElem?_eq_some_iff.1 h.atj).1
  have h0l : 0 < gs.size := by omega
  have hbc : C.bc < w.heap.size := (Array.getElem?_eq_some_iff.1 hc).1
  have hsz : (w.setChan C.bc 0 #[] false (s + 1) (r + 1) false).heap.size = w.heap.size := by simp [World.setChan]
  have hheap : ∀ x, x ≠ C.bc → (w.setChan C.bc 0 #[] false (s + 1) (r + 1) false).heap[x]? = w.heap[x]? := fun x hx => by
    simp only [World.setChan]; rw [Array.getElem?_setIfInBounds_ne (Ne.symm hx)]
  have hbkf := h.ow bk hbk
  have hbkbc : bk ≠ C.bc := fun e => hbkf.2.2.1 (by rw [e]; exact .inr (.inl rfl))
  have hbko : ¬ oM.O bk := fun x => (h.om bk x).2.1 hbk
  have hnt := meet_no_touch (j := C.j) (c := C.bc) (s := s) (r := r) (f0 := f0) (fj := fj) (p0 := p0) (pj := pj)
  have hold : ∀ {i x}, touchAt (t ++ meetOps C.j C.bc s r f0 fj p0 pj) i = some x → touchAt t i = some x := fun {i x} ht => by
    rcases touch_cases ht with h' | ⟨op, hop, _, hop'⟩
    · exact h'.2
    · rw [hnt op hop] at hop'; cases hop'
  have hti : TI C.j C.SY C.SR OW C.Z (t ++ meetOps C.j C.bc s r f0 fj p0 pj) := by
    have e : t ++ meetOps C.j C.bc s r f0 fj p0 pj = (((t ++ #[{ g := C.j, fn := fj, pos := pj, act := .send C.bc s }]) ++ #[{ g := 0, fn := f0, pos := p0, act := .recv C.bc r 0 }]) ++ #[{ g := C.j, fn := fj, pos := pj, act := .sendDone C.bc s }]) ++ #[{ g := 0, fn := f0, pos := p0, act := .recvDone C.bc r }] := by
      apply Array.ext'; simp [meetOps]
    rw [e]
    refine TI.mute (TI.mute (TI.mute (TI.mute h.ti (g := C.j) ?_ ?_) (g := 0) ?_ ?_) (g := C.j) ?_ ?_) (g := 0) ?_ ?_ <;>
      (intro op hop; simp only [List.mem_toArray, List.mem_cons, List.not_mem_nil, or_false] at hop; subst hop; rfl)
  subst hgs
  refine ⟨h.hj, ?_, ?_, fun i g hi hij hg => ?_, fun i hi => ?_, by rw [(meet_deaf 0).2, h.dm], by rw [(meet_deaf C.j).2, h.dw], ?_, ?_, ?_, fun x hx => ?_, fun x hx => ?_, fun x hx => ?_, fun x hx => ?_, fun x hx => ?_, ?_, ⟨fun x hx ht => ?_, fun x hx hl => ?_⟩, ?_, ?_, ?_⟩
  · simp [h0l]
  · rw [Array.getElem?_setIfInBounds_ne (by omega)]; simp [hjl]
  · rw [Array.getElem?_setIfInBounds_ne (by omega), Array.getElem?_setIfInBounds_ne (Ne.symm hij)] at hg
    rw [(meet_deaf i).2]; exact h.old i g hi hij hg
  · rw [(meet_deaf i).2]; exact h.above i (by simpa using hi)
  · exact hti.pass (fun i x b ht hb ho => meet_knows h.dm h.dw hsr (h.ti.ow i x b (hold ht) hb ho)) fun b hb => hb.1
  · intro op hop
    rw [hsz]
    rcases Array.mem_append.1 hop with h1 | h1
    · exact h.low op h1
    · simp only [meetOps, List.mem_toArray, List.mem_cons, List.not_mem_nil, or_false] at h1
      rcases h1 with rfl | rfl | rfl | rfl <;> exact hbc
  · refine norel_app h.norel fun op hop => ?_
    simp only [meetOps, List.mem_toArray, List.mem_cons, List.not_mem_nil, or_false] at hop
    rcases hop with rfl | rfl | rfl | rfl <;> simp
  · rw [hsz]
    rcases (hO x).1 hx with h1 | rfl
    · have := h.om x h1; exact ⟨this.1, fun y => this.2.1 y.1, this.2.2⟩
    · exact ⟨hbkf.1, fun y => y.2 rfl, hbkf.2⟩
  · rw [hsz]; exact h.ow x hx.1
  · rw [hsz]; exact h.sr x hx
  · rw [hsz]; exact h.sy x hx
  · rw [hsz]; exact h.z x hx
  · refine hI _ (oM.st w _ h.im (fun x hx => hheap x fun e => ?_) (by rw [hsz]; exact Nat.le_refl _) rfl rfl) hbko (by rw [hheap bk hbkbc]; exact hob)
    rcases hx with hx | hx
    · exact (h.om x hx).2.2.2.1 (by rw [e]; exact .inr (.inl rfl))
    · exact (h.sr x hx).2.1 (by rw [e]; exact .inr (.inl rfl))
  · rw [hheap x fun e => ht (h.keep.2 x (.inr (.inr (by rw [e]; exact .inr (.inl rfl)))) hx)]
    exact h.keep.1 x hx ht
  · rcases hx with h1 | h1 | h1
    · rcases (hO x).1 h1 with h2 | rfl
      · exact h.keep.2 x (.inl h2) hl
      · exact h.keep.2 _ (.inr (.inl hbk)) hl
    · exact h.keep.2 x (.inr (.inl h1.1)) hl
    · exact h.keep.2 x (.inr (.inr h1)) hl
  · rw [hsz]; exact h.sz
  · exact h.same
  · exact over_app h.over fun op hop => .inr (.inr (hnt op hop))
end

end Go.Proofs.Ytcdhmnefmbcmaaa

namespace Go.Proofs.Ytcdhmnefmbcmaaa
open Go Go.Conc
open Go.ConcN (sumTo upd sumTo_upd upd_ne upd_same)

section
variable {C : Cx} {w : World} {st sm : Int}
theorem wa_block (w : World) (a : Addr) (x : Value) : (∀ b, b ≠ a.block → (w.setCell a x).heap[b]? = w.heap[b]?) ∧ (w.setCell a x).heap.size = w.heap.size ∧ (w.setCell a x).tape = w.tape ∧ (w.setCell a x).os = w.os ∧ (w.setCell a x).output = w.output := by
  refine ⟨fun b hb => ?_, by simp [World.setCell], rfl, rfl, rfl⟩
  simp only [World.setCell]
  rw [modify_get?, if_neg (Ne.symm hb)]
theorem WA.setSt (h : WA C w st sm) (x : Int) : WA C (w.setCell (stC C.wg) (.int .u64 x)) x sm := by
  unfold WA at h ⊢
  simp only [World.setCell, stC]
  rw [modify_get?, if_pos rfl, h]
  simp
theorem WA.setSm (h : WA C w st sm) (x : Int) : WA C (w.setCell (smC C.wg) (.int .u32 x)) st x := by
  unfold WA at h ⊢
  simp only [World.setCell, smC]
  rw [modify_get?, if_pos rfl, h]
  simp
theorem WA.keep {w' : World} (h : WA C w st sm) (e : w'.heap[C.wg]? = w.heap[C.wg]?) : WA C w' st sm := by unfold WA; rw [e]; exact h
theorem WgOk.keep {ms : MS} {ws : WS} {w' : World} (h : WgOk C ms ws w) (e : w'.heap[C.wg]? = w.heap[C.wg]?) : WgOk C ms ws w' := by
  unfold WgOk at h ⊢
  cases ws <;> simp only at h ⊢
  · exact h.imp (fun x => ⟨x.1, x.2.keep e⟩) (fun x => ⟨x.1, x.2.keep e⟩)
  · exact h.imp (fun x => ⟨x.1, x.2.keep e⟩) (fun x => ⟨x.1, x.2.keep e⟩)
  · exact h.imp (fun x => ⟨x.1, x.2.keep e⟩) (fun x => ⟨x.1, x.2.keep e⟩)
  · exact h.imp (fun x => ⟨x.1, x.2.keep e⟩) (fun x => ⟨x.1, x.2.keep e⟩)
  · exact ⟨h.1, h.2.keep e⟩
  · exact ⟨h.1, h.2.keep e⟩
  · exact h.imp (fun x => ⟨x.1, x.2.keep e⟩) (fun x => ⟨x.1, x.2.keep e⟩)
theorem ChAt.keep {w' : World} {c : Nat} {cl : Bool} (h : ChAt w c cl) (e : w'.heap[c]? = w.heap[c]?) : ChAt w' c cl := by obtain ⟨s, h⟩ := h; exact ⟨s, by rw [e]; exact h⟩
theorem WgOk.live {ms : MS} {ws : WS} (h : WgOk C ms ws w) : Live C w := by
  unfold WgOk at h
  cases ws <;> simp only at h <;> first
    | exact ⟨_, _, h.2⟩
    | (rcases h with ⟨_, h⟩ | ⟨_, h⟩ <;> exact ⟨_, _, h⟩)
end

section
variable {C : Cx} {ms ms' : MS} {ws ws' : WS} {k k' kW kW' : Nat} {a0 a0' b0 b0' : Goroutine} {oM oM' oW oW' : Own C.SR} {gs : Array Goroutine} {w w' : World} {t : Trace} {q : Nat → Nat} {a b : Goroutine} {OW OW' : Nat → Prop} {dW d : Nat} {es : Array Event} {sl' : Option (Nat × Nat)}

theorem Own.at {SR : Nat → Prop} (o : Own SR) {w : World} (h : o.I w) (d : Nat) : o.I (w.at d) := o.st w (w.at d) h (fun _ _ => rfl) (Nat.le_refl _) rfl rfl
theorem St.at (h : St C ms ws k kW a0 b0 oM oW gs w t q a b OW dW) (d : Nat) : St C ms ws k kW a0 b0 oM oW gs (w.at d) t q a b OW dW :=
  ⟨h.cf.at d, h.ne, h.aok, h.bok, h.qu, h.nb, fun x => oW.at (h.iw x) d, h.ow, h.c1, h.c2, h.wg, h.dw, h.kk, h.rel⟩

theorem sy_bc (C : Cx) : C.SY C.bc := .inr (.inl rfl)
theorem sy_bs (C : Cx) : C.SY C.bs := .inr (.inr rfl)
theorem sy_wg (C : Cx) : C.SY C.wg := .inl rfl

theorem rel_other {u : Trace} (h : ws.rel = true → ∃ r, RelAt C t r) (hu : ∀ op ∈ u, op.g ≠ C.j ∨ op.act.touch? = none) : ws.rel = true → ∃ r, RelAt C (t ++ u) r := fun x => let ⟨r, hr⟩ := h x; ⟨r, hr.app' hu⟩

/-- goroutine 0's step -/
theorem st_move0 (h : St C ms ws k kW a0 b0 oM oW gs w t q a b OW dW) (hsm : Sm a a0) (hs : stepG C.P true a0 w = .go a0' w' es) (hr : a0'.status = .running) (hsz : w.heap.size ≤ w'.heap.size)
    (hkeep : ∀ x, x < w.heap.size → ¬ oM.O x → ¬ C.SY x → w'.heap[x]? = w.heap[x]?) (hsame : w'.tape = w.tape ∧ w'.os = w.os ∧ w'.output = w.output)
    (hown : ∀ x, oM'.O x ↔ oM.O x ∨ (w.heap.size ≤ x ∧ x < w'.heap.size)) (hI : oM'.I w') (hev : ∀ e ∈ es, Ev0 C OW w'.heap.size e) (hd : deafBehind ms.deaf es = ms'.deaf)
    (c1 : ChAt w' C.bc (!ws.isWork)) (c2 : ChAt w' C.bs (decide (ms' ≠ .work))) (wg : WgOk C ms' ws w') (hbok : ws ≠ .quit → BOk C ms' ws oW (woken C.P a a0' w' b) b0)
    (kk : ms' = .work → (∀ s, ws = .work s → kW = k' ∧ s = false) ∧ (ws.isWork = false → k' = C.N)) :
    ∃ gs' t' b', runT C.P (crowd gs w sl') 0 = (.next (crowd gs' w' sl'), t') ∧ gs'.size = gs.size ∧ St C ms' ws k' kW a0' b0 oM' oW gs' w' (t ++ t') q a0' b' OW dW := by
  obtain ⟨h1, h2, h3⟩ := cf_step0 (sl' := sl') h.cf (by rw [hsm.step]; exact hs) hsz hkeep hsame hown hI hev
  rw [hd] at h3
  refine ⟨_, _, _, h1, h2, ⟨h3, h.ne, .inl ⟨hr, .refl _⟩, hbok, fun e => ?_, .inl hr, fun e => ?_, h.ow, c1, c2, wg, h.dw, kk, rel_other h.rel fun op hop => .inl ?_⟩⟩
  · obtain ⟨n, hn⟩ := h.qu e
    exact ⟨n, by rw [woken_quitsD hn]; exact hn⟩
  · refine oW.st w w' (h.iw e) (fun x hx => ?_) hsz hsame.1 hsame.2.1
    rcases hx with hx | hx
    · have h4 := h.cf.ow x (h.ow x hx); exact hkeep x h4.1 (fun y => (h.cf.om x y).2.1 (h.ow x hx)) h4.2.2.1
    · have h4 := h.cf.sr x hx; exact hkeep x h4.1 (fun y => (h.cf.om x y).2.2.1 hx) h4.2.1
  · rw [ofEvents_g hop]; have := h.cf.hj; omega

/-- the worker's step -/
theorem st_moveJ (h : St C ms ws k kW a0 b0 oM oW gs w t q a b OW dW) (hsm : Sm b b0) (hs : stepG C.P false b0 w = .go b0' w' es) (hr : ws' ≠ .quit → b0'.status = .running) (hsz : w.heap.size ≤ w'.heap.size)
    (hkeep : ∀ x, x < w.heap.size → ¬ OW x → ¬ C.SY x → w'.heap[x]? = w.heap[x]?) (hsame : w'.tape = w.tape ∧ w'.os = w.os ∧ w'.output = w.output)
    (hown : ∀ x, OW' x ↔ OW x ∨ (w.heap.size ≤ x ∧ x < w'.heap.size)) (hev : ∀ e ∈ es, EvJ C OW' w'.heap.size e) (hoW : ∀ x, oW'.O x → OW' x) (hI : (ws' ≠ .quit ∨ True) → oW'.I w')
    (hd : ws' ≠ .quit → deafBehind dW es = ws'.deaf) (hqu : ws' = .quit → ∃ n, QuitsD C.P n (deafBehind dW es) b0') (c1 : ChAt w' C.bc (!ws'.isWork)) (c2 : ChAt w' C.bs (decide (ms ≠ .work))) (wg : WgOk C ms ws' w')
    (kk : ms = .work → (∀ s, ws' = .work s → kW' = k ∧ s = false) ∧ (ws'.isWork = false → k = C.N)) (hrel : ws'.rel = true → ∃ r, RelAt C (t ++ MemOp.ofEvents C.j b.frame.fn b.frame.place es) r)
    (haok : AOk C ms ws' oM (woken C.P b b0' w' a) a0) (hnb : (woken C.P b b0' w' a).status = .running ∨ b0'.status = .running) :
    ∃ gs' t' a' dW', runT C.P (crowd gs w sl') C.j = (.next (crowd gs' w' sl'), t') ∧ gs'.size = gs.size ∧ St C ms ws' k kW' a0 b0' oM oW' gs' w' (t ++ t') q a' b0' OW' dW' := by
  obtain ⟨h1, h2, h3⟩ := cf_stepJ (sl' := sl') h.cf (by rw [hsm.step]; exact hs) hsz hkeep hsame hown hev
  exact ⟨_, _, _, _, h1, h2, ⟨h3, h.ne, haok, fun e => .inl ⟨hr e, .refl _⟩, hqu, hnb, hI, hoW, c1, c2, wg, hd, kk, hrel⟩⟩

/-- a leaver's step -/
theorem st_leaver (h : St C ms ws k kW a0 b0 oM oW gs w t q a b OW dW) {i : Nat} {g : Goroutine} (hpos : 0 < i) (hij : i ≠ C.j) (hi : gs[i]? = some g) (hg : g.status = .running) :
    ∃ gs' t' a' b' q', runT C.P (crowd gs (w.at d) sl') i = (.next (crowd gs' (w.at d) sl'), t') ∧ gs'.size = gs.size ∧ St C ms ws k kW a0 b0 oM oW gs' (w.at d) (t ++ t') q' a' b' OW dW ∧ sumTo gs'.size q' < sumTo gs.size q ∧ (∀ n, QuitsD C.P n dW b → b' = b) ∧ (ws ≠ .quit → b.status = .blocked → b' = b) := by
  obtain ⟨n, g', es, h1, h2, h3, h4, h5⟩ := cf_leaver (d := d) (sl' := sl') h.cf hpos hij hi hg
  have ha := aok_wake (P := C.P) (g := g) (g' := g') (w' := w.at d) h.aok (fun e1 e2 => by have := h.c1; rw [e2] at this; exact this)
  have hb := fun e => bok_wake (P := C.P) (g := g) (g' := g') (w' := w.at d) (h.bok e) (fun e1 e2 => by have h6 := h.c1; have h7 := h.c2; rw [e2] at h6; simp only [e1, ne_eq, not_true, decide_false] at h7; exact ⟨h6, h7⟩)
  refine ⟨_, _, _, _, _, h2, h3, ⟨h4, h.ne, ha.1, fun e => (hb e).1, fun e => ?_, ?_, fun x => oW.at (h.iw x) d, h.ow, h.c1, h.c2, h.wg, h.dw, h.kk, rel_other h.rel fun op hop => .inl ?_⟩, by rw [h3]; exact h5, fun n hn => woken_quitsD hn, fun hq hbl => ?_⟩
  · obtain ⟨n, hn⟩ := h.qu e
    exact ⟨n, by rw [woken_quitsD hn]; exact hn⟩
  · rcases h.nb with e | e
    · exact .inl (ha.2 e)
    · right; rw [woken_run e]; exact e
  · rw [ofEvents_g hop]; exact hij
  · rcases h.bok hq with ⟨e, _⟩ | ⟨e1, e2, xv, z1, z2, rfl, _⟩
    · rw [e] at hbl; cases hbl
    · have h6 := h.c1
      have h7 := h.c2
      rw [e2] at h6
      simp only [e1, ne_eq, not_true, decide_false] at h7
      exact woken_parked_sel h6 h7

/-- what goroutine 0 lists beside its own step, without a touch -/
theorem cf_set0 {dM : Nat} {a' : Goroutine} {u : Trace} (h : Cf C gs w t q a b dM dW oM OW) (hu : ∀ op ∈ u, op.g = 0 ∧ op.act.touch? = none ∧ op.act.low w.heap.size ∧ op.act ≠ .mark (.release (stC C.wg))) (hd : Deaf (t ++ u) 0 = dM) :
    Cf C (gs.setIfInBounds 0 a') w (t ++ u) q a' b dM dW oM OW := by
  have hjp := h.hj
  have h0l : 0 < gs.size := (Array.getElem?_eq_some_iff.1 h.at0).1
  have hother : ∀ {i : Nat}, 0 ≠ i → Deaf (t ++ u) i = Deaf t i := fun hi => Deaf_other t hi _ (fun op hop => (hu op hop).1)
  refine ⟨h.hj, by simp [h0l], by rw [Array.getElem?_setIfInBounds_ne (by omega)]; exact h.atj, fun i g hi hij hg => ?_, fun i hi => ?_, hd, by rw [hother (by omega)]; exact h.dw, h.ti.mute (fun op hop => (hu op hop).1) (fun op hop => (hu op hop).2.1), fun op hop => ?_, norel_app h.norel fun op hop => (hu op hop).2.2.2,
    h.om, h.ow, h.sr, h.sy, h.z, h.im, h.keep, h.sz, h.same, over_app h.over fun op hop => .inl (hu op hop).1⟩
  · rw [Array.getElem?_setIfInBounds_ne (by omega)] at hg
    rw [hother (by omega)]; exact h.old i g hi hij hg
  · rw [hother (by simp at hi; omega)]; exact h.above i (by simpa using hi)
  · rcases Array.mem_append.1 hop with h1 | h1
    · exact h.low op h1
    · exact (hu op h1).2.2.1
theorem cf_setJ {dM dW' : Nat} {b' : Goroutine} {u : Trace} (h : Cf C gs w t q a b dM dW oM OW) (hu : ∀ op ∈ u, op.g = C.j ∧ op.act.touch? = none ∧ op.act.low w.heap.size ∧ op.act ≠ .mark (.release (stC C.wg))) (hd : Deaf (t ++ u) C.j = dW') :
    Cf C (gs.setIfInBounds C.j b') w (t ++ u) q a b' dM dW' oM OW := by
  have hjp := h.hj
  have hjl : C.j < gs.size := (Array.getElem?_eq_some_iff.1 h.atj).1
  have hother : ∀ {i : Nat}, C.j ≠ i → Deaf (t ++ u) i = Deaf t i := fun hi => Deaf_other t hi _ (fun op hop => (hu op hop).1)
  refine ⟨h.hj, by rw [Array.getElem?_setIfInBounds_ne (by omega)]; exact h.at0, by simp [hjl], fun i g hi hij hg => ?_, fun i hi => ?_, by rw [hother (by omega)]; exact h.dm, hd, h.ti.mute (fun op hop => (hu op hop).1) (fun op hop => (hu op hop).2.1), fun op hop => ?_, norel_app h.norel fun op hop => (hu op hop).2.2.2,
    h.om, h.ow, h.sr, h.sy, h.z, h.im, h.keep, h.sz, h.same, over_app h.over fun op hop => .inr (.inl (hu op hop).1)⟩
  · rw [Array.getElem?_setIfInBounds_ne (Ne.symm hij)] at hg
    rw [hother (Ne.symm hij)]; exact h.old i g hi hij hg
  · rw [hother (by simp at hi; omega)]; exact h.above i (by simpa using hi)
  · rcases Array.mem_append.1 hop with h1 | h1
    · exact h.low op h1
    · exact (hu op h1).2.2.1
end

end Go.Proofs.Ytcdhmnefmbcmaaa

namespace Go.Proofs.Ytcdhmnefmbcmaaa
open Go Go.Conc
open Go.ConcN (sumTo upd sumTo_upd upd_ne upd_same)

/-- blocks that nobody may touch any more but atomically -/
def Cx.Z' (C : Cx) (b : Nat) : Prop := C.Z b ∨ b = C.wg

/-- goroutine 0 comes to its end; the worker only leaves -/
def Reach (C : Cx) (Fin : Nat → Goroutine → Own C.SR → Prop) (gs : Array Goroutine) (w : World) (sl : Option (Nat × Nat)) (t : Trace) : Prop :=
  ∃ n gs' w' sl' t' q' a' k oM, runNT C.P n (crowd gs w sl) t = (.next (crowd gs' w' sl'), t') ∧ gs'.size = gs.size ∧ Sit C.P C.Z' gs' w' t' a' q' ∧ Fin k a' oM ∧ oM.I w' ∧
    (∀ b, oM.O b → b < w'.heap.size ∧ ¬ C.Z' b) ∧ (∀ b, C.Z' b → b < w'.heap.size) ∧ C.w0.heap.size ≤ w'.heap.size ∧ (∀ b, b < C.w0.heap.size → ¬ C.T0 b → w'.heap[b]? = C.w0.heap[b]?) ∧ w'.tape = C.w0.tape ∧ w'.os = C.w0.os ∧ w'.output = C.w0.output ∧ (∃ oW, C.FW oW ∧ oW.I w') ∧ ∀ b, oM.O b → b < C.w0.heap.size → C.T0 b

section
variable {C : Cx} {Fin : Nat → Goroutine → Own C.SR → Prop}

theorem Reach.step {gs gs' : Array Goroutine} {w w' wd : World} {sl sl' : Option (Nat × Nat)} {t ops : Trace} {i : Nat} (hst : stepT C.P (crowd gs w sl) = runT C.P (crowd gs wd sl') i) (hr : runT C.P (crowd gs wd sl') i = (.next (crowd gs' w' sl'), ops)) (hz : gs'.size = gs.size) (h : Reach C Fin gs' w' sl' (t ++ ops)) : Reach C Fin gs w sl t := by
  obtain ⟨n, gs1, w1, sl1, t1, q1, a1, k, oM, h1, h2, h3⟩ := h
  exact ⟨n + 1, gs1, w1, sl1, t1, q1, a1, k, oM, by simp only [runNT, hst, hr]; exact h1, h2.trans hz, h3⟩

/-- a turn of goroutine i's, and what comes of it -/
def Turn (C : Cx) (Fin : Nat → Goroutine → Own C.SR → Prop) (gs : Array Goroutine) (w : World) (sl' : Option (Nat × Nat)) (t : Trace) (i : Nat) : Prop :=
  ∃ gs' w' ops, runT C.P (crowd gs w sl') i = (.next (crowd gs' w' sl'), ops) ∧ gs'.size = gs.size ∧ Reach C Fin gs' w' sl' (t ++ ops)

variable {ms : MS} {ws : WS} {k kW : Nat} {a0 b0 : Goroutine} {oM oW : Own C.SR}

theorem AOk.status {a : Goroutine} (h : AOk C ms ws oM a a0) : a.status = .running ∨ a.status = .blocked := by
  rcases h with ⟨h, _⟩ | ⟨_, _, z, rfl, _⟩ | ⟨_, _, h, _⟩
  · exact .inl h
  · exact .inr rfl
  · exact .inr h
theorem BOk.status {b : Goroutine} (h : BOk C ms ws oW b b0) : b.status = .running ∨ b.status = .blocked := by
  rcases h with ⟨h, _⟩ | ⟨_, _, xv, z1, z2, rfl, _⟩
  · exact .inl h
  · exact .inr rfl
theorem AOk.sm {a : Goroutine} (h : AOk C ms ws oM a a0) (hr : a.status = .running) : Sm a a0 := by
  rcases h with ⟨_, h⟩ | ⟨_, _, z, rfl, _⟩ | ⟨_, _, h, _⟩
  · exact h
  · cases hr
  · rw [h] at hr; cases hr
theorem BOk.sm {b : Goroutine} (h : BOk C ms ws oW b b0) (hr : b.status = .running) : Sm b b0 := by
  rcases h with ⟨_, h⟩ | ⟨_, _, xv, z1, z2, rfl, _⟩
  · exact h
  · cases hr

/-- what is owed where goroutine 0 goes to sleep -/
def Sleeps0 (C : Cx) (Fin : Nat → Goroutine → Own C.SR → Prop) (ms : MS) (ws : WS) (k kW : Nat) (a0 b0 : Goroutine) (oM oW : Own C.SR) (sz : Nat) (q : Nat → Nat) : Prop :=
  ∀ {gs : Array Goroutine} {w : World} {sl : Option (Nat × Nat)} {t : Trace} {a b : Goroutine} {OW : Nat → Prop} {dW : Nat}, gs.size = sz → St C ms ws k kW a0 b0 oM oW gs w t q a b OW dW → a.status = .blocked → Reach C Fin gs w sl t
def SleepsJ (C : Cx) (Fin : Nat → Goroutine → Own C.SR → Prop) (ms : MS) (ws : WS) (k kW : Nat) (a0 b0 : Goroutine) (oM oW : Own C.SR) (sz : Nat) (q : Nat → Nat) : Prop :=
  ∀ {gs : Array Goroutine} {w : World} {sl : Option (Nat × Nat)} {t : Trace} {a b : Goroutine} {OW : Nat → Prop} {dW : Nat}, gs.size = sz → St C ms ws k kW a0 b0 oM oW gs w t q a b OW dW → b.status = .blocked → Reach C Fin gs w sl t

theorem by_turns (hq : ws ≠ .quit)
    (t0 : ∀ {gs w sl' t q a b OW dW}, St C ms ws k kW a0 b0 oM oW gs w t q a b OW dW → a.status = .running → (b.status ≠ .blocked → Sleeps0 C Fin ms ws k kW a0 b0 oM oW gs.size q) → Turn C Fin gs w sl' t 0)
    (tJ : ∀ {gs w sl' t q a b OW dW}, St C ms ws k kW a0 b0 oM oW gs w t q a b OW dW → b.status = .running → (a.status = .running → SleepsJ C Fin ms ws k kW a0 b0 oM oW gs.size q) → Turn C Fin gs w sl' t C.j) :
    ∀ {gs w sl t q a b OW dW}, St C ms ws k kW a0 b0 oM oW gs w t q a b OW dW → Reach C Fin gs w sl t := by
  have key : ∀ (M : Nat) {gs w sl t q a b OW dW}, sumTo gs.size q = M → St C ms ws k kW a0 b0 oM oW gs w t q a b OW dW → Reach C Fin gs w sl t := by
    intro M
    induction M using Nat.strongRecOn with
    | _ M ih =>
      -- one of them sleeps
      have RA : ∀ {gs w sl t q a b OW dW}, sumTo gs.size q = M → St C ms ws k kW a0 b0 oM oW gs w t q a b OW dW → a.status = .blocked → Reach C Fin gs w sl t := by
        intro gs w sl t q a b OW dW hM h ha
        obtain ⟨i, g, d, sl', hi, hg, hst⟩ := cf_pick h.cf h.aok.status ((h.bok hq).status.imp id .inl) h.nb sl
        rcases Nat.eq_zero_or_pos i with rfl | hpos
        · have e : g = a := by have := h.cf.at0; rw [this] at hi; exact (Option.some.inj hi).symm
          rw [e, ha] at hg; cases hg
        · by_cases hij : i = C.j
          · subst hij
            have e : g = b := by have := h.cf.atj; rw [this] at hi; exact (Option.some.inj hi).symm
            subst e
            obtain ⟨gs', w', ops, h1, h2, h3⟩ := tJ (sl' := sl') (h.at d) hg (fun e => by rw [ha] at e; cases e)
            exact .step hst h1 h2 h3
          · obtain ⟨gs', t', a', b', q', h1, h2, h3, h4, _⟩ := st_leaver (d := d) (sl' := sl') h hpos hij hi hg
            exact .step hst h1 h2 (ih _ (by rw [← hM]; exact h4) rfl h3)
      have RB : ∀ {gs w sl t q a b OW dW}, sumTo gs.size q = M → St C ms ws k kW a0 b0 oM oW gs w t q a b OW dW → b.status = .blocked → Reach C Fin gs w sl t := by
        intro gs w sl t q a b OW dW hM h hb
        obtain ⟨i, g, d, sl', hi, hg, hst⟩ := cf_pick h.cf h.aok.status ((h.bok hq).status.imp id .inl) h.nb sl
        rcases Nat.eq_zero_or_pos i with rfl | hpos
        · have e : g = a := by have := h.cf.at0; rw [this] at hi; exact (Option.some.inj hi).symm
          subst e
          obtain ⟨gs', w', ops, h1, h2, h3⟩ := t0 (sl' := sl') (h.at d) hg (fun e => absurd hb e)
          exact .step hst h1 h2 h3
        · by_cases hij : i = C.j
          · subst hij
            have e : g = b := by have := h.cf.atj; rw [this] at hi; exact (Option.some.inj hi).symm
            rw [e, hb] at hg; cases hg
          · obtain ⟨gs', t', a', b', q', h1, h2, h3, h4, _⟩ := st_leaver (d := d) (sl' := sl') h hpos hij hi hg
            exact .step hst h1 h2 (ih _ (by rw [← hM]; exact h4) rfl h3)
      intro gs w sl t q a b OW dW hM h
      obtain ⟨i, g, d, sl', hi, hg, hst⟩ := cf_pick h.cf h.aok.status ((h.bok hq).status.imp id .inl) h.nb sl
      rcases Nat.eq_zero_or_pos i with rfl | hpos
      · have e : g = a := by have := h.cf.at0; rw [this] at hi; exact (Option.some.inj hi).symm
        subst e
        obtain ⟨gs', w', ops, h1, h2, h3⟩ := t0 (sl' := sl') (h.at d) hg (fun _ => fun hz hS hbl => RA (by rw [hz]; exact hM) hS hbl)
        exact .step hst h1 h2 h3
      · by_cases hij : i = C.j
        · subst hij
          have e : g = b := by have := h.cf.atj; rw [this] at hi; exact (Option.some.inj hi).symm
          subst e
          obtain ⟨gs', w', ops, h1, h2, h3⟩ := tJ (sl' := sl') (h.at d) hg (fun _ => fun hz hS hbl => RB (by rw [hz]; exact hM) hS hbl)
          exact .step hst h1 h2 h3
        · obtain ⟨gs', t', a', b', q', h1, h2, h3, h4, _⟩ := st_leaver (d := d) (sl' := sl') h hpos hij hi hg
          exact .step hst h1 h2 (ih _ (by rw [← hM]; exact h4) rfl h3)
  intro gs w sl t q a b OW dW h
  exact key _ rfl h

theorem aok_quit {a : Goroutine} (h : AOk C ms .quit oM a a0) : a.status = .running := by
  rcases h with ⟨e, _⟩ | ⟨_, e, _⟩ | ⟨_, e, _⟩
  · exact e
  · cases e
  · exact absurd rfl e

/-- the worker only leaves -/
theorem by_turns_quit (t0 : ∀ {gs w sl' t q a b OW dW}, St C ms .quit k kW a0 b0 oM oW gs w t q a b OW dW → a.status = .running → (b.status ≠ .blocked → Sleeps0 C Fin ms .quit k kW a0 b0 oM oW gs.size q) → Turn C Fin gs w sl' t 0) :
    ∀ {gs w sl t q a b OW dW}, St C ms .quit k kW a0 b0 oM oW gs w t q a b OW dW → Reach C Fin gs w sl t := by
  have key : ∀ (M : Nat) {gs w sl t q a b OW dW n}, sumTo gs.size q + n = M → QuitsD C.P n dW b → St C ms .quit k kW a0 b0 oM oW gs w t q a b OW dW → Reach C Fin gs w sl t := by
    intro M
    induction M using Nat.strongRecOn with
    | _ M ih =>
      intro gs w sl t q a b OW dW n hM hn h
      have har := aok_quit h.aok
      obtain ⟨i, g, d, sl', hi, hg, hst⟩ := cf_pick h.cf h.aok.status (hn.status.imp id .inr) (.inl har) sl
      rcases Nat.eq_zero_or_pos i with rfl | hpos
      · have e : g = a := by have := h.cf.at0; rw [this] at hi; exact (Option.some.inj hi).symm
        subst e
        obtain ⟨gs', w', ops, h1, h2, h3⟩ := t0 (sl' := sl') (h.at d) hg (fun _ => fun _ hS hbl => by rw [aok_quit hS.aok] at hbl; cases hbl)
        exact .step hst h1 h2 h3
      · by_cases hij : i = C.j
        · subst hij
          have e : g = b := by have := h.cf.atj; rw [this] at hi; exact (Option.some.inj hi).symm
          subst e
          cases n with
          | zero => rw [hn.1] at hg; cases hg
          | succ n =>
            rcases hn with ⟨hf, _⟩ | ⟨_, g', es, hm, hstp, hq'⟩
            · rw [hf] at hg; cases hg
            have hd := h.at d
            obtain ⟨h1, h2, h3⟩ := cf_stepJ (sl' := sl') (OW' := OW) hd.cf (hstp (w.at d)) (Nat.le_refl _) (fun _ _ _ _ => rfl) ⟨rfl, rfl, rfl⟩ (fun x => ⟨.inl, fun y => y.elim id fun z => by omega⟩)
              (fun e he => ⟨fun x hx _ => (by rw [touch_mute (hm e he)] at hx; cases hx), fun hl => by
                have := hm e he
                obtain ⟨l, x, s⟩ := e
                simp only at hl
                subst hl
                simp [Event.mute] at this, low_mute (hm e he) _⟩)
            have hw : woken C.P g g' (w.at d) a = a := woken_run har
            rw [hw] at h3
            refine .step hst h1 h2 (ih (sumTo gs.size q + n) (by omega) (by rw [h2]) hq' ⟨h3, h.ne, h.aok, fun e => absurd rfl e, fun _ => ⟨n, hq'⟩, .inl har, hd.iw, h.ow, h.c1, h.c2, h.wg, fun e => absurd rfl e, h.kk, rel_other h.rel fun op hop => by obtain ⟨e, he, rfl⟩ := Go.Conc.mem_ofEvents hop; exact .inr (touch_mute (hm e he))⟩)
        · obtain ⟨gs', t', a', b', q', h1, h2, h3, h4, h5, _⟩ := st_leaver (d := d) (sl' := sl') h hpos hij hi hg
          exact .step hst h1 h2 (ih (sumTo gs'.size q' + n) (by omega) rfl (by rw [h5 n hn]; exact hn) h3)
  intro gs w sl t q a b OW dW h
  obtain ⟨n, hn⟩ := h.qu rfl
  exact key _ rfl hn h
end

end Go.Proofs.Ytcdhmnefmbcmaaa
