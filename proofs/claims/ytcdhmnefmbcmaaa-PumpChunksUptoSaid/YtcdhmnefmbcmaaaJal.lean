/-
  Goroutine 0 and one worker, both under way: what holds of the machine between two steps, and how each step keeps it; no condition but what each law names.
  What goroutine 0 and the worker are to do, step by step ('plans'); what holds where each stands; no condition but what each law names.
  The two plans side by side: what holds between two steps; no condition but what each law names.
  The two plans side by side: small laws; no condition but what each law names.
-/
import Derived.Test.YtcdhmnefmbcmaaaJak
namespace Go.Proofs.Ytcdhmnefmbcmaaa
open Go Go.Conc
open Go.ConcN (sumTo upd sumTo_upd upd_ne upd_same)

/-- what a goroutine holds: blocks of its own, and what it knows of them -/
structure Own (SR : Nat → Prop) where
  O : Nat → Prop
  I : World → Prop
  st : ∀ w w1 : World, I w → (∀ b, O b ∨ SR b → w1.heap[b]? = w.heap[b]?) → w.heap.size ≤ w1.heap.size → w1.tape = w.tape → w1.os = w.os → I w1

structure Cx where
  P : Program
  j : Nat
  bc : Nat
  bs : Nat
  wg : Nat
  ty : TypeId
  N : Nat
  Cs : Nat → Value → Nat → Obj → Prop
  SR : Nat → Prop
  Z : Nat → Prop
  w0 : World
  T0 : Nat → Prop
  /-- how the worker's own is left -/
  FW : Own SR → Prop
def Cx.SY (C : Cx) (b : Nat) : Prop := b = C.wg ∨ b = C.bc ∨ b = C.bs

def stC (wg : Nat) : Addr := ⟨wg, 0, none⟩
def smC (wg : Nat) : Addr := ⟨wg, 1, none⟩

structure Cf (C : Cx) (gs : Array Goroutine) (w : World) (t : Trace) (q : Nat → Nat) (a b : Goroutine) (dM dW : Nat) (oM : Own C.SR) (OW : Nat → Prop) : Prop where
  hj : 0 < C.j
  at0 : gs[0]? = some a
  atj : gs[C.j]? = some b
  old : ∀ i g, 0 < i → i ≠ C.j → gs[i]? = some g → QuitsD C.P (q i) (Deaf t i) g
  above : ∀ i, gs.size ≤ i → Deaf t i = 0
  dm : Deaf t 0 = dM
  dw : Deaf t C.j = dW
  ti : TI C.j C.SY C.SR OW C.Z t
  low : ∀ op ∈ t, op.act.low w.heap.size
  norel : ∀ i, t.act? i ≠ some (.mark (.release (stC C.wg)))
  om : ∀ b, oM.O b → b < w.heap.size ∧ ¬ OW b ∧ ¬ C.SR b ∧ ¬ C.SY b ∧ ¬ C.Z b
  ow : ∀ b, OW b → b < w.heap.size ∧ ¬ C.SR b ∧ ¬ C.SY b ∧ ¬ C.Z b
  sr : ∀ b, C.SR b → b < w.heap.size ∧ ¬ C.SY b ∧ ¬ C.Z b
  sy : ∀ b, C.SY b → b < w.heap.size ∧ ¬ C.Z b
  z : ∀ b, C.Z b → b < w.heap.size
  im : oM.I w
  keep : (∀ b, b < C.w0.heap.size → ¬ C.T0 b → w.heap[b]? = C.w0.heap[b]?) ∧ (∀ b, (oM.O b ∨ OW b ∨ C.SY b) → b < C.w0.heap.size → C.T0 b)
  sz : C.w0.heap.size ≤ w.heap.size
  same : w.tape = C.w0.tape ∧ w.os = C.w0.os ∧ w.output = C.w0.output
  over : ∀ i g, t.g? i = some g → g ≠ 0 → g ≠ C.j → t.counts i → ∃ x, t.g? x = some 0 ∧ HappensBefore t i x

theorem over_app {j : Nat} {t u : Trace} (h : ∀ i g, t.g? i = some g → g ≠ 0 → g ≠ j → t.counts i → ∃ x, t.g? x = some 0 ∧ HappensBefore t i x) (hu : ∀ op ∈ u, op.g = 0 ∨ op.g = j ∨ op.act.touch? = none) :
    ∀ i g, (t ++ u).g? i = some g → g ≠ 0 → g ≠ j → (t ++ u).counts i → ∃ x, (t ++ u).g? x = some 0 ∧ HappensBefore (t ++ u) i x := by
  intro i g hg h0 hj hc
  obtain ⟨x, hx, _⟩ := hc
  obtain ⟨op, hop, hox⟩ := touch_of hx
  rcases getElem?_append_cases hop with ⟨hi, hop'⟩ | ⟨_, hopu⟩
  · obtain ⟨y, hy, hb⟩ := h i g (by rw [← g?_old (u := u) hi]; exact hg) h0 hj ((counts_old hi).1 ⟨x, hx, ‹_›⟩)
    have hyl : y < t.size := by
      unfold Trace.g? at hy
      obtain ⟨z, hz, _⟩ := Option.map_eq_some_iff.1 hy
      exact lt_size_of_getElem? hz
    exact ⟨y, by rw [g?_old hyl]; exact hy, hb_app u hb⟩
  · have hgg : op.g = g := by simpa [Trace.g?, hop] using hg
    rcases hu op hopu with h1 | h1 | h1
    · exact absurd (hgg.symm.trans h1) h0
    · exact absurd (hgg.symm.trans h1) hj
    · rw [h1] at hox; cases hox

/-- an entry of goroutine 0's list -/
def Ev0 (C : Cx) (OW : Nat → Prop) (B : Nat) (e : Event) : Prop :=
  (∀ x, (MemAct.ofEvent e).touch? = some x → Ok0 C.SY C.SR OW C.Z x) ∧ e.loc ≠ .mark (.release (stC C.wg)) ∧ (MemAct.ofEvent e).low B
def EvJ (C : Cx) (OW : Nat → Prop) (B : Nat) (e : Event) : Prop :=
  (∀ x, (MemAct.ofEvent e).touch? = some x → x.loc.isMemory = true → OkJ C.SY C.SR OW x) ∧ e.loc ≠ .mark (.release (stC C.wg)) ∧ (MemAct.ofEvent e).low B

theorem norel_app {C : Cx} {t u : Trace} (h : ∀ i, t.act? i ≠ some (.mark (.release (stC C.wg)))) (hu : ∀ op ∈ u, op.act ≠ .mark (.release (stC C.wg))) : ∀ i, (t ++ u).act? i ≠ some (.mark (.release (stC C.wg))) := by
  intro i hi
  obtain ⟨op, ho, hoa⟩ := Option.map_eq_some_iff.1 hi
  rcases getElem?_append_cases ho with ⟨_, ho'⟩ | ⟨_, hou⟩
  · exact h i (by rw [act?_of ho', hoa])
  · exact hu op hou hoa

theorem ofEvent_norel {e : Event} {a : Addr} (h : e.loc ≠ .mark (.release a)) : MemAct.ofEvent e ≠ .mark (.release a) := by
  obtain ⟨l, x, s⟩ := e
  simp only at h
  intro hh
  cases l with
  | mark m => simp only [MemAct.ofEvent, MemAct.mark.injEq] at hh; exact h (by rw [hh])
  | obj c => cases x <;> cases s <;> simp [MemAct.ofEvent] at hh
  | _ => simp [MemAct.ofEvent] at hh

section
variable {C : Cx} {gs : Array Goroutine} {w w' : World} {t : Trace} {q : Nat → Nat} {a b a' b' : Goroutine} {dM dW d : Nat} {oM oM' : Own C.SR} {OW OW' : Nat → Prop} {sl' : Option (Nat × Nat)} {es : Array Event}

theorem Cf.at (h : Cf C gs w t q a b dM dW oM OW) (d : Nat) : Cf C gs (w.at d) t q a b dM dW oM OW :=
  ⟨h.hj, h.at0, h.atj, h.old, h.above, h.dm, h.dw, h.ti, h.low, h.norel, h.om, h.ow, h.sr, h.sy, h.z, oM.st w (w.at d) h.im (fun _ _ => rfl) (Nat.le_refl _) rfl rfl, h.keep, h.sz, h.same, h.over⟩

/-- A step of goroutine 0's. -/
theorem cf_step0 (h : Cf C gs w t q a b dM dW oM OW) (hs : stepG C.P true a w = .go a' w' es) (hsz : w.heap.size ≤ w'.heap.size)
    (hkeep : ∀ b, b < w.heap.size → ¬ oM.O b → ¬ C.SY b → w'.heap[b]? = w.heap[b]?) (hsame : w'.tape = w.tape ∧ w'.os = w.os ∧ w'.output = w.output)
    (hown : ∀ b, oM'.O b ↔ oM.O b ∨ (w.heap.size ≤ b ∧ b < w'.heap.size)) (hI : oM'.I w') (hev : ∀ e ∈ es, Ev0 C OW w'.heap.size e) :
    runT C.P (crowd gs w sl') 0 = (.next (crowd ((gs.map (woken C.P a a' w')).setIfInBounds 0 a') w' sl'), MemOp.ofEvents 0 a.frame.fn a.frame.place es) ∧
    ((gs.map (woken C.P a a' w')).setIfInBounds 0 a').size = gs.size ∧
    Cf C ((gs.map (woken C.P a a' w')).setIfInBounds 0 a') w' (t ++ MemOp.ofEvents 0 a.frame.fn a.frame.place es) q a' (woken C.P a a' w' b) (deafBehind dM es) dW oM' OW := by
  have h0 : 0 < gs.size := (Array.getElem?_eq_some_iff.1 h.at0).1
  have hother : ∀ {i : Nat}, 0 ≠ i → Deaf (t ++ MemOp.ofEvents 0 a.frame.fn a.frame.place es) i = Deaf t i := fun hi => Deaf_other t hi _ (fun op hop => ofEvents_g hop)
  refine ⟨runT_crowd_go (P := C.P) (sl := sl') (i := 0) h.at0 (show stepG C.P (0 == 0) a w = _ from hs), by simp, ⟨h.hj, by simp [h0], ?_, fun i g hi hij hg => ?_, fun i hi => ?_, by rw [Deaf_own, h.dm], by rw [hother (by have := h.hj; omega), h.dw], ?_, ?_, ?_, fun b hb => ?_, fun b hb => ?_, fun b hb => ?_, fun b hb => ?_, fun b hb => ?_, hI, ⟨fun b hb ht => ?_, fun b hb hl => ?_⟩, Nat.le_trans h.sz hsz, ?_, over_app h.over fun op hop => .inl (ofEvents_g hop)⟩⟩
  · have := h.hj
    rw [Array.getElem?_setIfInBounds_ne (by omega), Array.getElem?_map, h.atj]; rfl
  · rw [Array.getElem?_setIfInBounds_ne (by omega), Array.getElem?_map] at hg
    obtain ⟨y, hy, rfl⟩ := Option.map_eq_some_iff.1 hg
    have hq := h.old i y hi hij hy
    rw [woken_quitsD hq, hother (by omega)]
    exact hq
  · rw [hother (by simp at hi; omega)]; exact h.above i (by simpa using hi)
  · refine h.ti.app0 (fun op hop => ofEvents_g hop) fun op hop x hx => ?_
    obtain ⟨e, he, rfl⟩ := Go.Conc.mem_ofEvents hop
    exact (hev e he).1 x hx
  · intro op hop
    rcases Array.mem_append.1 hop with h1 | h1
    · exact MemAct.low_mono hsz (h.low op h1)
    · obtain ⟨e, he, rfl⟩ := Go.Conc.mem_ofEvents h1
      exact (hev e he).2.2
  · refine norel_app h.norel fun op hop => ?_
    obtain ⟨e, he, rfl⟩ := Go.Conc.mem_ofEvents hop
    exact ofEvent_norel (hev e he).2.1
  · rcases (hown b).1 hb with h1 | h1
    · have := h.om b h1; exact ⟨by omega, this.2⟩
    · refine ⟨h1.2, fun x => ?_, fun x => ?_, fun x => ?_, fun x => ?_⟩
      · have := (h.ow b x).1; omega
      · have := (h.sr b x).1; omega
      · have := (h.sy b x).1; omega
      · have := h.z b x; omega
  · have := h.ow b hb; exact ⟨by omega, this.2⟩
  · have := h.sr b hb; exact ⟨by omega, this.2⟩
  · have := h.sy b hb; exact ⟨by omega, this.2⟩
  · have := h.z b hb; omega
  · have hl := h.sz
    rw [← h.keep.1 b hb ht]
    exact hkeep b (by omega) (fun x => ht (h.keep.2 b (.inl x) hb)) (fun x => ht (h.keep.2 b (.inr (.inr x)) hb))
  · rcases hb with h1 | h1 | h1
    · rcases (hown b).1 h1 with h2 | h2
      · exact h.keep.2 b (.inl h2) hl
      · have := h.sz; omega
    · exact h.keep.2 b (.inr (.inl h1)) hl
    · exact h.keep.2 b (.inr (.inr h1)) hl
  · exact ⟨hsame.1.trans h.same.1, hsame.2.1.trans h.same.2.1, hsame.2.2.trans h.same.2.2⟩

/-- A step of the worker's. -/
theorem cf_stepJ (h : Cf C gs w t q a b dM dW oM OW) (hs : stepG C.P false b w = .go b' w' es) (hsz : w.heap.size ≤ w'.heap.size)
    (hkeep : ∀ b, b < w.heap.size → ¬ OW b → ¬ C.SY b → w'.heap[b]? = w.heap[b]?) (hsame : w'.tape = w.tape ∧ w'.os = w.os ∧ w'.output = w.output)
    (hown : ∀ b, OW' b ↔ OW b ∨ (w.heap.size ≤ b ∧ b < w'.heap.size)) (hev : ∀ e ∈ es, EvJ C OW' w'.heap.size e) :
    runT C.P (crowd gs w sl') C.j = (.next (crowd ((gs.map (woken C.P b b' w')).setIfInBounds C.j b') w' sl'), MemOp.ofEvents C.j b.frame.fn b.frame.place es) ∧
    ((gs.map (woken C.P b b' w')).setIfInBounds C.j b').size = gs.size ∧
    Cf C ((gs.map (woken C.P b b' w')).setIfInBounds C.j b') w' (t ++ MemOp.ofEvents C.j b.frame.fn b.frame.place es) q (woken C.P b b' w' a) b' dM (deafBehind dW es) oM OW' := by
  have hjp := h.hj
  have hjl : C.j < gs.size := (Array.getElem?_eq_some_iff.1 h.atj).1
  have hj0 : (C.j == 0) = false := by simp; omega
  have hother : ∀ {i : Nat}, C.j ≠ i → Deaf (t ++ MemOp.ofEvents C.j b.frame.fn b.frame.place es) i = Deaf t i := fun hi => Deaf_other t hi _ (fun op hop => ofEvents_g hop)
  have hnew : TI C.j C.SY C.SR OW' C.Z t := h.ti.new h.low fun b => ⟨fun x => ((hown b).1 x).imp id fun y => ⟨y.1, x⟩, fun x => x.elim (fun y => (hown b).2 (.inl y)) (fun y => y.2)⟩
  have how : ∀ b, OW' b → b < w'.heap.size ∧ ¬ C.SR b ∧ ¬ C.SY b ∧ ¬ C.Z b := fun b hb => by
    rcases (hown b).1 hb with h1 | h1
    · have := h.ow b h1; exact ⟨by omega, this.2⟩
    · refine ⟨h1.2, fun x => ?_, fun x => ?_, fun x => ?_⟩
      · have := (h.sr b x).1; omega
      · have := (h.sy b x).1; omega
      · have := h.z b x; omega
  refine ⟨runT_crowd_go (P := C.P) (sl := sl') (i := C.j) h.atj (by rw [hj0]; exact hs), by simp, ⟨h.hj, ?_, by simp [hjl], fun i g hi hij hg => ?_, fun i hi => ?_, by rw [hother (by omega), h.dm], by rw [Deaf_own, h.dw], ?_, ?_, ?_, fun b hb => ?_, how, fun b hb => ?_, fun b hb => ?_, fun b hb => ?_, ?_, ⟨fun b hb ht => ?_, fun b hb hl => ?_⟩, Nat.le_trans h.sz hsz, ?_, over_app h.over fun op hop => .inr (.inl (ofEvents_g hop))⟩⟩
  · rw [Array.getElem?_setIfInBounds_ne (by omega), Array.getElem?_map, h.at0]; rfl
  · rw [Array.getElem?_setIfInBounds_ne (Ne.symm hij), Array.getElem?_map] at hg
    obtain ⟨y, hy, rfl⟩ := Option.map_eq_some_iff.1 hg
    have hq := h.old i y hi hij hy
    rw [woken_quitsD hq, hother (Ne.symm hij)]
    exact hq
  · rw [hother (by simp at hi; omega)]; exact h.above i (by simpa using hi)
  · refine hnew.appJ (fun op hop => ofEvents_g hop) (fun op hop x hx hm => ?_) fun b hb => (how b hb).2.2.2
    obtain ⟨e, he, rfl⟩ := Go.Conc.mem_ofEvents hop
    exact (hev e he).1 x hx hm
  · intro op hop
    rcases Array.mem_append.1 hop with h1 | h1
    · exact MemAct.low_mono hsz (h.low op h1)
    · obtain ⟨e, he, rfl⟩ := Go.Conc.mem_ofEvents h1
      exact (hev e he).2.2
  · refine norel_app h.norel fun op hop => ?_
    obtain ⟨e, he, rfl⟩ := Go.Conc.mem_ofEvents hop
    exact ofEvent_norel (hev e he).2.1
  · have h1 := h.om b hb
    refine ⟨by omega, fun x => ?_, h1.2.2⟩
    rcases (hown b).1 x with y | y
    · exact h1.2.1 y
    · omega
  · have := h.sr b hb; exact ⟨by omega, this.2⟩
  · have := h.sy b hb; exact ⟨by omega, this.2⟩
  · have := h.z b hb; omega
  · refine oM.st w w' h.im (fun b hb => ?_) hsz hsame.1 hsame.2.1
    rcases hb with hb | hb
    · have h1 := h.om b hb; exact hkeep b h1.1 h1.2.1 h1.2.2.2.1
    · have h1 := h.sr b hb; exact hkeep b h1.1 (fun x => (h.ow b x).2.1 hb) h1.2.1
  · have hl := h.sz
    rw [← h.keep.1 b hb ht]
    exact hkeep b (by omega) (fun x => ht (h.keep.2 b (.inr (.inl x)) hb)) (fun x => ht (h.keep.2 b (.inr (.inr x)) hb))
  · rcases hb with h1 | h1 | h1
    · exact h.keep.2 b (.inl h1) hl
    · rcases (hown b).1 h1 with h2 | h2
      · exact h.keep.2 b (.inr (.inl h2)) hl
      · have := h.sz; omega
    · exact h.keep.2 b (.inr (.inr h1)) hl
  · exact ⟨hsame.1.trans h.same.1, hsame.2.1.trans h.same.2.1, hsame.2.2.trans h.same.2.2⟩

/-- A leaver's step. -/
theorem cf_leaver (h : Cf C gs w t q a b dM dW oM OW) {i : Nat} {g : Goroutine} (hpos : 0 < i) (hij : i ≠ C.j) (hi : gs[i]? = some g) (hg : g.status = .running) :
    ∃ k g' es, q i = k + 1 ∧ runT C.P (crowd gs (w.at d) sl') i = (.next (crowd ((gs.map (woken C.P g g' (w.at d))).setIfInBounds i g') (w.at d) sl'), MemOp.ofEvents i g.frame.fn g.frame.place es) ∧
      ((gs.map (woken C.P g g' (w.at d))).setIfInBounds i g').size = gs.size ∧
      Cf C ((gs.map (woken C.P g g' (w.at d))).setIfInBounds i g') (w.at d) (t ++ MemOp.ofEvents i g.frame.fn g.frame.place es) (upd q i k) (woken C.P g g' (w.at d) a) (woken C.P g g' (w.at d) b) dM dW oM OW ∧
      sumTo gs.size (upd q i k) < sumTo gs.size q := by
  have hq := h.old i g hpos hij hi
  have hi0 : (i == 0) = false := by simp; omega
  have hlt : i < gs.size := (Array.getElem?_eq_some_iff.1 hi).1
  have hjp := h.hj
  cases hqi : q i with
  | zero => rw [hqi] at hq; rw [hq.1] at hg; cases hg
  | succ k =>
    rw [hqi] at hq
    rcases hq with ⟨hf, _⟩ | ⟨_, g', es, hm, hstp, hq'⟩
    · rw [hf] at hg; cases hg
    have hother : ∀ {x : Nat}, i ≠ x → Deaf (t ++ MemOp.ofEvents i g.frame.fn g.frame.place es) x = Deaf t x := fun hi => Deaf_other t hi _ (fun op hop => ofEvents_g hop)
    have hd := h.at d
    refine ⟨k, g', es, rfl, runT_crowd_go (P := C.P) (sl := sl') (i := i) hi (by rw [hi0]; exact hstp (w.at d)), by simp, ⟨h.hj, ?_, ?_, fun x y hx hxj hy => ?_, fun x hx => ?_, by rw [hother (by omega), h.dm], by rw [hother hij, h.dw], ?_, ?_, ?_, h.om, h.ow, h.sr, h.sy, h.z, hd.im, h.keep, h.sz, h.same, over_app h.over fun op hop => .inr (.inr (by obtain ⟨e, he, rfl⟩ := Go.Conc.mem_ofEvents hop; exact touch_mute (hm e he)))⟩, ?_⟩
    · rw [Array.getElem?_setIfInBounds_ne (by omega), Array.getElem?_map, h.at0]; rfl
    · rw [Array.getElem?_setIfInBounds_ne hij, Array.getElem?_map, h.atj]; rfl
    · by_cases hji : i = x
      · subst hji
        rw [Array.getElem?_setIfInBounds_self_of_lt (by simpa using hlt)] at hy
        obtain rfl := Option.some.inj hy
        rw [upd_same, Deaf_own]
        exact hq'
      · rw [Array.getElem?_setIfInBounds_ne hji, Array.getElem?_map] at hy
        obtain ⟨z, hz, rfl⟩ := Option.map_eq_some_iff.1 hy
        have hqj := h.old x z hx hxj hz
        rw [woken_quitsD hqj, upd_ne q k (Ne.symm hji), hother hji]
        exact hqj
    · rw [hother (by simp at hx; omega)]; exact h.above x (by simpa using hx)
    · refine h.ti.mute (fun op hop => ofEvents_g hop) fun op hop => ?_
      obtain ⟨e, he, rfl⟩ := Go.Conc.mem_ofEvents hop
      exact touch_mute (hm e he)
    · intro op hop
      rcases Array.mem_append.1 hop with h1 | h1
      · exact h.low op h1
      · obtain ⟨e, he, rfl⟩ := Go.Conc.mem_ofEvents h1
        exact low_mute (hm e he) _
    · refine norel_app h.norel fun op hop => ?_
      obtain ⟨e, he, rfl⟩ := Go.Conc.mem_ofEvents hop
      have hme := hm e he
      obtain ⟨l, x, s⟩ := e
      intro hh
      cases l with
      | mark m => simp only [MemAct.ofEvent, MemAct.mark.injEq] at hh; subst hh; simp [Event.mute] at hme
      | obj c => cases x <;> cases s <;> simp [MemAct.ofEvent] at hh
      | _ => simp [MemAct.ofEvent] at hh
    · have hsum : sumTo gs.size (upd q i k) + (k + 1) = sumTo gs.size q + k := by
        have := sumTo_upd q k id hlt
        simpa [hqi] using this
      omega

/-- Whose turn it is. -/
theorem cf_pick (h : Cf C gs w t q a b dM dW oM OW) (ha : a.status = .running ∨ a.status = .blocked) (hb : b.status = .running ∨ b.status = .blocked ∨ b.status = .finished) (hr : a.status = .running ∨ b.status = .running) (sl : Option (Nat × Nat)) :
    ∃ i g d sl', gs[i]? = some g ∧ g.status = .running ∧ stepT C.P (crowd gs w sl) = runT C.P (crowd gs (w.at d) sl') i := by
  refine crowd_pick (P := C.P) (w := w) (sl := sl) (fun g hg => ?_) (hr.elim (fun x => ⟨0, a, h.at0, x⟩) (fun x => ⟨C.j, b, h.atj, x⟩))
  obtain ⟨i, hi, rfl⟩ := Array.mem_iff_getElem.1 hg
  have hgi : gs[i]? = some gs[i] := Array.getElem?_eq_getElem hi
  rcases Nat.eq_zero_or_pos i with rfl | hpos
  · have h0 := h.at0
    rw [hgi] at h0
    rw [Option.some.inj h0]
    exact awake_of (ha.imp id .inl)
  · by_cases hij : i = C.j
    · subst hij
      have h0 := h.atj
      rw [hgi] at h0
      rw [Option.some.inj h0]
      exact awake_of hb
    · exact awake_of ((h.old i _ hpos hij hgi).status.elim .inl fun x => .inr (.inr x))
end

end Go.Proofs.Ytcdhmnefmbcmaaa

namespace Go.Proofs.Ytcdhmnefmbcmaaa
open Go Go.Conc
open Go.ConcN (sumTo upd sumTo_upd upd_ne upd_same)

def KQ : Int := 4294967296
def WA (C : Cx) (w : World) (st sm : Int) : Prop := w.heap[C.wg]? = some (.cells #[.int .u64 st, .int .u32 sm] C.ty)
def Live (C : Cx) (w : World) : Prop := ∃ st sm, WA C w st sm
def rdS (C : Cx) : Event := ⟨.cell (stC C.wg), false, true⟩
def wrS (C : Cx) : Event := ⟨.cell (stC C.wg), true, true⟩
def mkS (m : Mark) : Event := ⟨.mark m, false, true⟩

/-- an own step on memory of one's own -/
structure PStep {SR : Nat → Prop} (o o' : Own SR) (w w' : World) (es : Array Event) : Prop where
  I' : o'.I w'
  sz : w.heap.size ≤ w'.heap.size
  O' : ∀ b, o'.O b ↔ o.O b ∨ (w.heap.size ≤ b ∧ b < w'.heap.size)
  keep : ∀ b, b < w.heap.size → ¬ o.O b → w'.heap[b]? = w.heap[b]?
  same : w'.tape = w.tape ∧ w'.os = w.os ∧ w'.output = w.output
  evs : ∀ e ∈ es, match e.loc with
    | .cell a => o'.O a.block ∨ (SR a.block ∧ e.write = false)
    | .obj c => o'.O c ∧ ¬ (e.write = true ∧ e.sync = true)
    | .mark m => MarkOk m
    | .output => True
    | _ => False

inductive WS where
  | work (stp : Bool) | fin0 | fin1 | fin2 | fin3 | fin4 | quit
inductive MS where
  | work | ws0 | ws1 | ws2 | ws3 | ws4 | ws5 | done
  deriving DecidableEq

def WS.isWork : WS → Bool | .work _ => true | _ => false
def WS.free : WS → Bool | .fin0 | .fin1 | .fin2 | .fin3 | .fin4 => true | _ => false
def MS.free : MS → Bool | .ws0 | .ws1 | .ws2 | .ws3 | .ws4 | .ws5 => true | _ => false
def WS.deaf : WS → Nat | .fin2 | .fin3 | .fin4 => 1 | _ => 0
def MS.deaf : MS → Nat | .ws1 | .ws2 | .ws3 | .ws4 => 1 | _ => 0

def ChAt (w : World) (c : Nat) (closed : Bool) : Prop := ∃ s, w.heap[c]? = some (.chan 0 #[] closed s s false)
def closeCh (w : World) (c : Nat) (w' : World) : Prop := ∃ s, w.heap[c]? = some (.chan 0 #[] false s s false) ∧ w' = { w with heap := w.heap.setIfInBounds c (.chan 0 #[] true s s false) }
def CloseEv (c : Nat) (es : Array Event) : Prop := ∀ e ∈ es, e = ⟨.obj c, false, true⟩ ∨ e = ⟨.obj c, true, true⟩

/-- the worker's plan -/
inductive PW (C : Cx) : WS → Nat → Goroutine → Own C.SR → Prop
  | priv {s : Bool} {k : Nat} {b : Goroutine} {o : Own C.SR} (nx : World → Goroutine) (no : World → Own C.SR) : b.status = .running →
      (∀ w, o.I w → ∃ w' es, stepG C.P false b w = .go (nx w) w' es ∧ PStep o (no w) w w' es) → (∀ w, o.I w → PW C (.work s) k (nx w) (no w)) → PW C (.work s) k b o
  | sel {k : Nat} {b : Goroutine} {o o' : Own C.SR} {xv : Value} {bk : Nat} {ob : Obj} {z1 z2 : Value} : b.status = .running → b.offers = none → C.Cs k xv bk ob → o.O bk → (∀ w, o.I w → w.heap[bk]? = some ob) →
      (∀ w, o.I w → stepG C.P false b w = .comm b (sel2 C.bc C.bs xv z1 z2) true .select w #[]) → (∀ x, o'.O x → o.O x ∧ x ≠ bk) → (∀ w, o.I w → o'.I w) →
      PW C (.work false) (k + 1) (b.finishComm C.P (sel2 C.bc C.bs xv z1 z2) .select 0 undef false) o' → PW C (.work true) k (b.finishComm C.P (sel2 C.bc C.bs xv z1 z2) .select 1 z2 false) o → PW C (.work false) k b o
  | clo {s : Bool} {k : Nat} {b b' : Goroutine} {o : Own C.SR} {es : Array Event} : b.status = .running → b'.status = .running → mayWake C.P b = true → (s = true ∨ k = C.N) → CloseEv C.bc es →
      (∀ w w', o.I w → closeCh w C.bc w' → stepG C.P false b w = .go b' w' es) → PW C .fin0 k b' o → PW C (.work s) k b o
  | free {s : WS} {k : Nat} {b : Goroutine} {o : Own C.SR} (nx : World → Goroutine) : s.free = true → b.status = .running → (∀ w, Live C w → (nx w).status = .running ∧ stepG C.P false b w = .go (nx w) w #[]) → (∀ w, Live C w → PW C s k (nx w) o) → PW C s k b o
  | r0 {k : Nat} {b b' : Goroutine} {o : Own C.SR} : b.status = .running → b'.status = .running → (∀ w, Live C w → stepG C.P false b w = .go b' w #[mkS (.releaseMerge (stC C.wg))]) → PW C .fin1 k b' o → PW C .fin0 k b o
  | k1 {k : Nat} {b b' : Goroutine} {o : Own C.SR} : b.status = .running → b'.status = .running → (∀ w, Live C w → stepG C.P false b w = .go b' w #[mkS .disable]) → PW C .fin2 k b' o → PW C .fin1 k b o
  | d1 {k n : Nat} {b b1 b2 : Goroutine} {o : Own C.SR} : b.status = .running → b2.status = .running → (∀ w, WA C w KQ 0 → stepG C.P false b w = .go b1 (w.setCell (stC C.wg) (.int .u64 0)) #[rdS C, wrS C]) → QuitsD C.P n 1 b1 → C.FW o →
      (∀ w, WA C w (KQ + 1) 0 → stepG C.P false b w = .go b2 (w.setCell (stC C.wg) (.int .u64 1)) #[rdS C, wrS C]) → PW C .fin3 k b2 o → PW C .fin2 k b o
  | d2 {k : Nat} {b b' : Goroutine} {o : Own C.SR} : b.status = .running → b'.status = .running → (∀ w, WA C w 1 0 → stepG C.P false b w = .go b' w #[rdS C]) → PW C .fin3 k b' o → PW C .fin3 k b o
  | d3 {k : Nat} {b b' : Goroutine} {o : Own C.SR} : b.status = .running → b'.status = .running → (∀ w, WA C w 1 0 → stepG C.P false b w = .go b' (w.setCell (stC C.wg) (.int .u64 0)) #[wrS C]) → PW C .fin4 k b' o → PW C .fin3 k b o
  | d4 {k n : Nat} {b b' : Goroutine} {o : Own C.SR} : b.status = .running → mayWake C.P b = true → (∀ w, WA C w 0 0 → stepG C.P false b w = .go b' (w.setCell (smC C.wg) (.int .u32 1)) (semEvents (smC C.wg))) → QuitsD C.P n 1 b' → C.FW o → PW C .fin4 k b o
  | quit {k : Nat} {b : Goroutine} {o : Own C.SR} : C.FW o → PW C .quit k b o

/-- goroutine 0's plan -/
inductive PM (C : Cx) (Fin : Nat → Goroutine → Own C.SR → Prop) : MS → Nat → Goroutine → Own C.SR → Prop
  | priv {k : Nat} {a : Goroutine} {o : Own C.SR} (nx : World → Goroutine) (no : World → Own C.SR) : a.status = .running →
      (∀ w, o.I w → ∃ w' es, stepG C.P true a w = .go (nx w) w' es ∧ PStep o (no w) w w' es) → (∀ w, o.I w → PM C Fin .work k (nx w) (no w)) → PM C Fin .work k a o
  | recv {k : Nat} {a : Goroutine} {o : Own C.SR} {z : Value} (go : Value → Nat → Obj → Own C.SR) : a.status = .running → a.offers = none → (∀ w, o.I w → stepG C.P true a w = .comm a #[rcase C.bc z] true (.recv true) w #[]) →
      (∀ xv bk ob, C.Cs k xv bk ob → ∀ x, (go xv bk ob).O x ↔ o.O x ∨ x = bk) → (∀ xv bk ob, C.Cs k xv bk ob → ∀ w, o.I w → ¬ o.O bk → w.heap[bk]? = some ob → (go xv bk ob).I w) →
      (∀ xv bk ob, C.Cs k xv bk ob → PM C Fin .work (k + 1) (a.finishComm C.P #[rcase C.bc z] (.recv true) 0 xv true) (go xv bk ob)) →
      (k = C.N → PM C Fin .work k (a.finishComm C.P #[rcase C.bc z] (.recv true) 0 z false) o) → PM C Fin .work k a o
  | clo {k : Nat} {a a' : Goroutine} {o : Own C.SR} {es : Array Event} : a.status = .running → a'.status = .running → mayWake C.P a = true → CloseEv C.bs es → (∀ w w', o.I w → closeCh w C.bs w' → stepG C.P true a w = .go a' w' es) →
      PM C Fin .ws0 k a' o → PM C Fin .work k a o
  | free {s : MS} {k : Nat} {a : Goroutine} {o : Own C.SR} (nx : World → Goroutine) (es : World → Array Event) : s.free = true → a.status = .running → (∀ w, Live C w → (nx w).status = .running ∧ stepG C.P true a w = .go (nx w) w (es w) ∧ ∀ e ∈ es w, e = mkS (.write (smC C.wg))) → (∀ w, Live C w → PM C Fin s k (nx w) o) → PM C Fin s k a o
  | kd {k : Nat} {a a' : Goroutine} {o : Own C.SR} : a.status = .running → a'.status = .running → (∀ w, Live C w → stepG C.P true a w = .go a' w #[mkS .disable]) → PM C Fin .ws1 k a' o → PM C Fin .ws0 k a o
  | w1 {k : Nat} {a a1 a2 : Goroutine} {o : Own C.SR} : a.status = .running → a1.status = .running → a2.status = .running → (∀ w, WA C w KQ 0 → stepG C.P true a w = .go a1 w #[rdS C]) → PM C Fin .ws1 k a1 o →
      (∀ w, WA C w 0 0 → stepG C.P true a w = .go a2 w #[rdS C]) → PM C Fin .ws4 k a2 o → PM C Fin .ws1 k a o
  | w2 {k : Nat} {a a1 a2 : Goroutine} {o : Own C.SR} : a.status = .running → a1.status = .running → a2.status = .running → (∀ w, WA C w KQ 0 → stepG C.P true a w = .go a1 (w.setCell (stC C.wg) (.int .u64 (KQ + 1))) #[rdS C, wrS C]) → PM C Fin .ws2 k a1 o →
      (∀ w, WA C w 0 0 → stepG C.P true a w = .go a2 w #[rdS C]) → PM C Fin .ws4 k a2 o → PM C Fin .ws1 k a o
  /-- the counter is known to be 0 -/
  | w1z {k : Nat} {a a2 : Goroutine} {o : Own C.SR} : a.status = .running → a2.status = .running → (∀ w, WA C w 0 0 → stepG C.P true a w = .go a2 w #[rdS C]) → PM C Fin .ws4 k a2 o → PM C Fin .ws4 k a o
  | w3 {k : Nat} {a a' : Goroutine} {o : Own C.SR} : a.status = .running → a'.status = .running → a.offers = none → (∀ w st, WA C w st 0 → stepG C.P true a w = .go { a with status := .blocked } w #[]) →
      (∀ w, WA C w 0 1 → stepG C.P true a w = .go a' (w.setCell (smC C.wg) (.int .u32 0)) (semEvents (smC C.wg))) → PM C Fin .ws3 k a' o → PM C Fin .ws2 k a o
  | w4 {k : Nat} {a a' : Goroutine} {o : Own C.SR} : a.status = .running → a'.status = .running → (∀ w, WA C w 0 0 → stepG C.P true a w = .go a' w #[rdS C]) → PM C Fin .ws4 k a' o → PM C Fin .ws3 k a o
  | ke {k : Nat} {a a' : Goroutine} {o : Own C.SR} : a.status = .running → a'.status = .running → (∀ w, Live C w → stepG C.P true a w = .go a' w #[mkS .enable]) → PM C Fin .ws5 k a' o → PM C Fin .ws4 k a o
  | acq {k : Nat} {a a' : Goroutine} {o : Own C.SR} : a.status = .running → a'.status = .running → (∀ w, Live C w → stepG C.P true a w = .go a' w #[mkS (.acquire (stC C.wg))]) → Fin k a' o → PM C Fin .ws5 k a o

end Go.Proofs.Ytcdhmnefmbcmaaa

namespace Go.Proofs.Ytcdhmnefmbcmaaa
open Go Go.Conc
open Go.ConcN (sumTo upd sumTo_upd upd_ne upd_same)

def WgOk (C : Cx) (ms : MS) (ws : WS) (w : World) : Prop :=
  match ws with
  | .work _ | .fin0 | .fin1 | .fin2 => ((ms = .work ∨ ms = .ws0 ∨ ms = .ws1) ∧ WA C w KQ 0) ∨ (ms = .ws2 ∧ WA C w (KQ + 1) 0)
  | .fin3 => ms = .ws2 ∧ WA C w 1 0
  | .fin4 => ms = .ws2 ∧ WA C w 0 0
  | .quit => (ms = .ws2 ∧ WA C w 0 1) ∨ (ms ≠ .ws2 ∧ WA C w 0 0)

/-- all that the worker has done counts ahead of its release -/
structure RelAt (C : Cx) (t : Trace) (r : Nat) : Prop where
  act : t.act? r = some (.mark (.releaseMerge (stC C.wg)))
  g : t.g? r = some C.j
  heard : t.heard r
  all : ∀ i x, touchAt t i = some x → x.loc.isMemory = true → t.g? i = some C.j → Before t i r ∨ (x.loc.blk = some C.wg ∧ x.kind = .atomic ∧ ¬ t.heard i)
def WS.rel : WS → Bool | .fin1 | .fin2 | .fin3 | .fin4 | .quit => true | _ => false

def Sm (a a0 : Goroutine) : Prop := a.frame = a0.frame ∧ a.callers = a0.callers ∧ a.dying = a0.dying

def AOk (C : Cx) (ms : MS) (ws : WS) (oM : Own C.SR) (a a0 : Goroutine) : Prop :=
  (a.status = .running ∧ Sm a a0) ∨
  (ms = .work ∧ ws.isWork = true ∧ ∃ z, a = parked a0 #[rcase C.bc z] (.recv true) ∧ ∀ w, oM.I w → stepG C.P true a0 w = .comm a0 #[rcase C.bc z] true (.recv true) w #[]) ∨
  (ms = .ws2 ∧ ws ≠ .quit ∧ a.status = .blocked ∧ a.offers = none ∧ Sm a a0)
def BOk (C : Cx) (ms : MS) (ws : WS) (oW : Own C.SR) (b b0 : Goroutine) : Prop :=
  (b.status = .running ∧ Sm b b0) ∨
  (ms = .work ∧ ws = .work false ∧ ∃ xv z1 z2, b = parked b0 (sel2 C.bc C.bs xv z1 z2) .select ∧ ∀ w, oW.I w → stepG C.P false b0 w = .comm b0 (sel2 C.bc C.bs xv z1 z2) true .select w #[])

structure St (C : Cx) (ms : MS) (ws : WS) (k kW : Nat) (a0 b0 : Goroutine) (oM oW : Own C.SR) (gs : Array Goroutine) (w : World) (t : Trace) (q : Nat → Nat) (a b : Goroutine) (OW : Nat → Prop) (dW : Nat) : Prop where
  cf : Cf C gs w t q a b ms.deaf dW oM OW
  ne : C.bc ≠ C.bs ∧ C.wg ≠ C.bc ∧ C.wg ≠ C.bs
  aok : AOk C ms ws oM a a0
  bok : ws ≠ .quit → BOk C ms ws oW b b0
  qu : ws = .quit → ∃ n, QuitsD C.P n dW b
  nb : a.status = .running ∨ b.status = .running
  iw : (ws ≠ .quit ∨ True) → oW.I w
  ow : ∀ x, oW.O x → OW x
  c1 : ChAt w C.bc (!ws.isWork)
  c2 : ChAt w C.bs (decide (ms ≠ .work))
  wg : WgOk C ms ws w
  dw : ws ≠ .quit → dW = ws.deaf
  kk : ms = .work → (∀ s, ws = .work s → kW = k ∧ s = false) ∧ (ws.isWork = false → k = C.N)
  rel : ws.rel = true → ∃ r, RelAt C t r

end Go.Proofs.Ytcdhmnefmbcmaaa

namespace Go.Proofs.Ytcdhmnefmbcmaaa
open Go Go.Conc
open Go.ConcN (sumTo upd sumTo_upd upd_ne upd_same)

section
variable {C : Cx} {P : Program} {ms : MS} {ws : WS} {oM oW : Own C.SR} {a a0 b b0 g g' x : Goroutine} {w w' : World}

theorem woken_off (h : x.status = .blocked) (ho : x.offers = none) : woken P g g' w' x = x ∨ woken P g g' w' x = { x with status := .running } := by
  unfold woken
  split
  · right; simp [Goroutine.again, h, ho]
  · exact .inl rfl
theorem woken_parked_recv {c : Nat} {z : Value} {sh : CommShape} (hc : ChAt w' c false) : woken P g g' w' (parked x #[rcase c z] sh) = parked x #[rcase c z] sh := by
  obtain ⟨s, hc⟩ := hc
  exact woken_recv_open _ _ hc
theorem woken_parked_sel {bc bs : Nat} {xv z1 z2 : Value} {sh : CommShape} (hc : ChAt w' bc false) (hs : ChAt w' bs false) : woken P g g' w' (parked x (sel2 bc bs xv z1 z2) sh) = parked x (sel2 bc bs xv z1 z2) sh := by
  obtain ⟨s, hc⟩ := hc
  obtain ⟨s2, hs⟩ := hs
  unfold woken
  split
  · exact again_sel_open hc hs sh
  · rfl

theorem aok_wake (h : AOk C ms ws oM a a0) (hc : ms = .work → ws.isWork = true → ChAt w' C.bc false) : AOk C ms ws oM (woken P g g' w' a) a0 ∧ (a.status = .running → (woken P g g' w' a).status = .running) := by
  rcases h with ⟨h1, h2⟩ | ⟨h1, h2, z, rfl, h3⟩ | ⟨h1, h2, h3, h4, h5⟩
  · rw [woken_run h1]; exact ⟨.inl ⟨h1, h2⟩, id⟩
  · rw [woken_parked_recv (hc h1 h2)]; exact ⟨.inr (.inl ⟨h1, h2, z, rfl, h3⟩), id⟩
  · refine ⟨?_, fun e => by rw [h3] at e; cases e⟩
    rcases woken_off (P := P) (g := g) (g' := g') (w' := w') h3 h4 with e | e
    · rw [e]; exact .inr (.inr ⟨h1, h2, h3, h4, h5⟩)
    · rw [e]; exact .inl ⟨rfl, h5⟩
theorem bok_wake (h : BOk C ms ws oW b b0) (hc : ms = .work → ws = .work false → ChAt w' C.bc false ∧ ChAt w' C.bs false) : BOk C ms ws oW (woken P g g' w' b) b0 ∧ (b.status = .running → (woken P g g' w' b).status = .running) := by
  rcases h with ⟨h1, h2⟩ | ⟨h1, h2, xv, z1, z2, rfl, h3⟩
  · rw [woken_run h1]; exact ⟨.inl ⟨h1, h2⟩, id⟩
  · rw [woken_parked_sel (hc h1 h2).1 (hc h1 h2).2]; exact ⟨.inr ⟨h1, h2, xv, z1, z2, rfl, h3⟩, id⟩

theorem Sm.step {mn : Bool} (h : Sm a a0) (w : World) : stepG P mn a w = stepG P mn a0 w := stepG_same h.1 h.2.1 h.2.2 w
theorem Sm.fin {cs : Array CommCase} {sh : CommShape} {k : Int} {v : Value} {ok : Bool} (h : Sm a a0) : Sm (a.finishComm P cs sh k v ok) (a0.finishComm P cs sh k v ok) := ⟨by simp only [Goroutine.finishComm]; rw [h.1], h.2.1, h.2.2⟩
theorem Sm.refl (a : Goroutine) : Sm a a := ⟨rfl, rfl, rfl⟩
end

/-! ### entries -/
section
variable {C : Cx} {OW : Nat → Prop} {B : Nat}

theorem ev0_sync {e : Event} {c : Nat} (hS : C.SY c) (h1 : ¬ OW c) (h2 : ¬ C.SR c) (hB : c < B) (he : (∃ o x, e = ⟨.cell ⟨c, o, none⟩, x, true⟩) ∨ e = ⟨.obj c, false, true⟩ ∨ e = ⟨.obj c, true, true⟩) : Ev0 C OW B e := by
  rcases he with ⟨o, x, rfl⟩ | rfl | rfl
  · refine ⟨fun y hy b hb => ?_, by simp, ?_⟩
    · simp only [ofEvent_cell0, MemAct.touch?, Option.some.injEq] at hy
      subst hy
      simp only [Loc.blk, Option.some.injEq] at hb
      subst hb
      exact .inr (.inr ⟨hS, h1, h2, by simp⟩)
    · rw [ofEvent_cell0]; exact hB
  · refine ⟨fun y hy b hb => ?_, by simp, hB⟩
    simp only [MemAct.ofEvent, MemAct.touch?, Option.some.injEq] at hy
    subst hy
    simp only [Loc.blk, Option.some.injEq] at hb
    subst hb
    exact .inr (.inr ⟨hS, h1, h2, by simp⟩)
  · exact ⟨fun y hy => by simp [MemAct.ofEvent, MemAct.touch?] at hy, by simp, hB⟩
theorem evJ_sync {e : Event} {c : Nat} (hS : C.SY c) (h1 : ¬ OW c) (h2 : ¬ C.SR c) (hB : c < B) (he : (∃ o x, e = ⟨.cell ⟨c, o, none⟩, x, true⟩) ∨ e = ⟨.obj c, false, true⟩ ∨ e = ⟨.obj c, true, true⟩) : EvJ C OW B e := by
  rcases he with ⟨o, x, rfl⟩ | rfl | rfl
  · refine ⟨fun y hy _ => ?_, by simp, ?_⟩
    · simp only [ofEvent_cell0, MemAct.touch?, Option.some.injEq] at hy
      subst hy
      exact ⟨c, rfl, .inr (.inr ⟨hS, h1, h2, rfl⟩)⟩
    · rw [ofEvent_cell0]; exact hB
  · refine ⟨fun y hy _ => ?_, by simp, hB⟩
    simp only [MemAct.ofEvent, MemAct.touch?, Option.some.injEq] at hy
    subst hy
    exact ⟨c, rfl, .inr (.inr ⟨hS, h1, h2, rfl⟩)⟩
  · exact ⟨fun y hy => by simp [MemAct.ofEvent, MemAct.touch?] at hy, by simp, hB⟩
theorem ev0_mark {m : Mark} (h : (MemAct.mark m).touch? = none) (hr : m ≠ .release (stC C.wg)) (hl : (MemAct.mark m).low B) : Ev0 C OW B (mkS m) :=
  ⟨fun y hy => (by simp only [mkS, MemAct.ofEvent] at hy; rw [h] at hy; cases hy), by simpa [mkS] using hr, hl⟩
theorem evJ_mark {m : Mark} (h : (MemAct.mark m).touch? = none) (hr : m ≠ .release (stC C.wg)) (hl : (MemAct.mark m).low B) : EvJ C OW B (mkS m) :=
  ⟨fun y hy => (by simp only [mkS, MemAct.ofEvent] at hy; rw [h] at hy; cases hy), by simpa [mkS] using hr, hl⟩

theorem PStep.ev0 {o o' : Own C.SR} {w w' : World} {es : Array Event} (h : PStep o o' w w' es) {q : Nat → Nat} {gs : Array Goroutine} {t : Trace} {a b : Goroutine} {dM dW : Nat} (hc : Cf C gs w t q a b dM dW o OW) : ∀ e ∈ es, Ev0 C OW w'.heap.size e := by
  intro e he
  have hev := h.evs e he
  have hown : ∀ x, o'.O x → x < w'.heap.size ∧ ¬ OW x ∧ ¬ C.SR x ∧ ¬ C.SY x ∧ ¬ C.Z x := fun x hx => by
    rcases (h.O' x).1 hx with h1 | h1
    · have := hc.om x h1; have := h.sz; exact ⟨by omega, (hc.om x h1).2⟩
    · refine ⟨h1.2, fun y => ?_, fun y => ?_, fun y => ?_, fun y => ?_⟩
      · have := (hc.ow x y).1; omega
      · have := (hc.sr x y).1; omega
      · have := (hc.sy x y).1; omega
      · have := hc.z x y; omega
  obtain ⟨loc, wr, sy⟩ := e
  cases loc with
  | cell ad =>
    simp only at hev
    refine ⟨fun y hy b hb => ?_, by simp, ?_⟩
    · simp only [ofEvent_cell0, MemAct.touch?, Option.some.injEq] at hy
      subst hy
      simp only [Loc.blk, Option.some.injEq] at hb
      subst hb
      rcases hev with h1 | ⟨h1, h2⟩
      · have := hown _ h1; exact .inl ⟨this.2.1, this.2.2.1, this.2.2.2.1, this.2.2.2.2⟩
      · exact .inr (.inl ⟨h1, fun y => (hc.ow _ y).2.1 h1, (hc.sr _ h1).2.1, h2⟩)
    · rw [ofEvent_cell0]
      rcases hev with h1 | ⟨h1, _⟩
      · exact (hown _ h1).1
      · exact Nat.lt_of_lt_of_le (hc.sr _ h1).1 h.sz
  | obj c =>
    simp only at hev
    have e2 : MemAct.ofEvent ⟨.obj c, wr, sy⟩ = .access ⟨.obj c, wr, sy⟩ := by cases wr <;> cases sy <;> first | rfl | exact absurd ⟨rfl, rfl⟩ hev.2
    refine ⟨fun y hy b hb => ?_, by simp, ?_⟩
    · rw [e2] at hy
      simp only [MemAct.touch?, Option.some.injEq] at hy
      subst hy
      simp only [Loc.blk, Option.some.injEq] at hb
      subst hb
      have := hown _ hev.1; exact .inl ⟨this.2.1, this.2.2.1, this.2.2.2.1, this.2.2.2.2⟩
    · rw [e2]; exact (hown _ hev.1).1
  | mark m =>
    simp only at hev
    cases m with
    | extern f => exact ⟨fun y hy => by simp [MemAct.ofEvent, MemAct.touch?] at hy, by simp, trivial⟩
    | noRoom => exact ⟨fun y hy => by simp [MemAct.ofEvent, MemAct.touch?] at hy, by simp, trivial⟩
    | _ => exact hev.elim
  | output =>
    refine ⟨fun y hy b hb => ?_, by simp, trivial⟩
    simp only [MemAct.ofEvent, MemAct.touch?, Option.some.injEq] at hy
    subst hy
    cases hb
  | goroutines => exact hev.elim

theorem PStep.evJ {oM : Own C.SR} {o o' : Own C.SR} {w w' : World} {es : Array Event} (h : PStep o o' w w' es) {q : Nat → Nat} {gs : Array Goroutine} {t : Trace} {a b : Goroutine} {dM dW : Nat} (hc : Cf C gs w t q a b dM dW oM OW) (ho : ∀ x, o.O x → OW x) :
    ∀ e ∈ es, EvJ C (fun x => OW x ∨ (w.heap.size ≤ x ∧ x < w'.heap.size)) w'.heap.size e := by
  intro e he
  have hev := h.evs e he
  have hown : ∀ x, o'.O x → (OW x ∨ (w.heap.size ≤ x ∧ x < w'.heap.size)) := fun x hx => ((h.O' x).1 hx).imp (ho x) id
  have hall : ∀ x, (OW x ∨ (w.heap.size ≤ x ∧ x < w'.heap.size)) → x < w'.heap.size ∧ ¬ C.SR x ∧ ¬ C.SY x := fun x hx => by
    rcases hx with h1 | h1
    · have := h.sz; have h2 := hc.ow x h1; exact ⟨by omega, h2.2.1, h2.2.2.1⟩
    · refine ⟨h1.2, fun y => ?_, fun y => ?_⟩
      · have := (hc.sr x y).1; omega
      · have := (hc.sy x y).1; omega
  have hsr : ∀ x, C.SR x → ¬ (OW x ∨ (w.heap.size ≤ x ∧ x < w'.heap.size)) := fun x hx hy => (hall x hy).2.1 hx
  obtain ⟨loc, wr, sy⟩ := e
  cases loc with
  | cell ad =>
    simp only at hev
    refine ⟨fun y hy _ => ?_, by simp, ?_⟩
    · simp only [ofEvent_cell0, MemAct.touch?, Option.some.injEq] at hy
      subst hy
      refine ⟨ad.block, rfl, ?_⟩
      rcases hev with h1 | ⟨h1, h2⟩
      · have := hall _ (hown _ h1); exact .inl ⟨hown _ h1, this.2.1, this.2.2⟩
      · exact .inr (.inl ⟨h1, hsr _ h1, (hc.sr _ h1).2.1, h2⟩)
    · rw [ofEvent_cell0]
      rcases hev with h1 | ⟨h1, _⟩
      · exact (hall _ (hown _ h1)).1
      · exact Nat.lt_of_lt_of_le (hc.sr _ h1).1 h.sz
  | obj c =>
    simp only at hev
    have e2 : MemAct.ofEvent ⟨.obj c, wr, sy⟩ = .access ⟨.obj c, wr, sy⟩ := by cases wr <;> cases sy <;> first | rfl | exact absurd ⟨rfl, rfl⟩ hev.2
    refine ⟨fun y hy _ => ?_, by simp, ?_⟩
    · rw [e2] at hy
      simp only [MemAct.touch?, Option.some.injEq] at hy
      subst hy
      have := hall _ (hown _ hev.1); exact ⟨c, rfl, .inl ⟨hown _ hev.1, this.2.1, this.2.2⟩⟩
    · rw [e2]; exact (hall _ (hown _ hev.1)).1
  | mark m =>
    simp only at hev
    cases m with
    | extern f => exact ⟨fun y hy => by simp [MemAct.ofEvent, MemAct.touch?] at hy, by simp, trivial⟩
    | noRoom => exact ⟨fun y hy => by simp [MemAct.ofEvent, MemAct.touch?] at hy, by simp, trivial⟩
    | _ => exact hev.elim
  | output =>
    refine ⟨fun y hy hm => ?_, by simp, trivial⟩
    simp only [MemAct.ofEvent, MemAct.touch?, Option.some.injEq] at hy
    subst hy
    cases hm
  | goroutines => exact hev.elim

theorem deaf_pstep {SR : Nat → Prop} {o o' : Own SR} {w w' : World} {es : Array Event} (h : PStep o o' w w' es) (d : Nat) : deafBehind d es = d :=
  deafBehind_still (fun e he => by
    have := h.evs e he
    constructor
    · intro hl; rw [hl] at this; exact this
    · intro hl; rw [hl] at this; exact this) d
end

/-! ### the release -/
section
variable {C : Cx} {t u : Trace} {r : Nat}

theorem before_app {i j : Nat} (h : Before t i j) : Before (t ++ u) i j := h.app u
theorem RelAt.app (h : RelAt C t r) (hr : r < t.size) (hu : ∀ i op x, (t ++ u)[i]? = some op → t.size ≤ i → op.g = C.j → op.act.touch? = some x → x.loc.isMemory = true → x.loc.blk = some C.wg ∧ x.kind = .atomic ∧ ¬ (t ++ u).heard i) : RelAt C (t ++ u) r := by
  refine ⟨by rw [act?_old hr]; exact h.act, by rw [g?_old hr]; exact h.g, (heard_old hr).2 h.heard, fun i x hx hm hg => ?_⟩
  obtain ⟨op, hop, hox⟩ := touch_of hx
  by_cases hi : i < t.size
  · rw [touchAt_old hi] at hx
    rw [g?_old hi] at hg
    rcases h.all i x hx hm hg with h1 | ⟨h1, h2, h3⟩
    · exact .inl (h1.app u)
    · exact .inr ⟨h1, h2, fun hh => h3 ((heard_old hi).1 hh)⟩
  · have hgo : op.g = C.j := by simpa [Trace.g?, hop] using hg
    exact .inr (hu i op x hop (by omega) hgo hox hm)
theorem RelAt.lt (h : RelAt C t r) : r < t.size := lt_of_act? h.act
/-- what others do, and what touches nothing -/
theorem RelAt.app' (h : RelAt C t r) (hu : ∀ op ∈ u, op.g ≠ C.j ∨ op.act.touch? = none) : RelAt C (t ++ u) r :=
  h.app h.lt fun i op x hop hi hg hx _ => by
    rcases getElem?_append_cases hop with ⟨h1, _⟩ | ⟨_, h1⟩
    · omega
    · rcases hu op h1 with h2 | h2
      · exact absurd hg h2
      · rw [h2] at hx; cases hx
/-- what the worker does deaf -/
theorem RelAt.appDeaf (h : RelAt C t r) {fn : FuncId} {pos : String} {es : Array Event} (hd : ∀ m e, es[m]? = some e → (∀ x, (MemAct.ofEvent e).touch? = some x → x.loc.isMemory = true → x.loc.blk = some C.wg ∧ x.kind = .atomic) ∧ ((MemAct.ofEvent e).touch? ≠ none → deafBehind (Deaf t C.j) (es.extract 0 m) ≠ 0)) :
    RelAt C (t ++ MemOp.ofEvents C.j fn pos es) r := by
  refine h.app h.lt fun i op x hop hi hg hx hm => ?_
  have hop2 : (MemOp.ofEvents C.j fn pos es)[i - t.size]? = some op := by rw [Array.getElem?_append_right hi] at hop; exact hop
  rw [ofEvents_eq, Array.getElem?_map] at hop2
  obtain ⟨e, he, rfl⟩ := Option.map_eq_some_iff.1 hop2
  obtain ⟨h1, h2⟩ := hd _ _ he
  refine ⟨(h1 x hx hm).1, (h1 x hx hm).2, ?_⟩
  rintro ⟨g, hgg, hdf⟩
  have : g = C.j := by simp [Trace.g?, hop] at hgg; exact hgg.symm
  subst this
  refine h2 (by simp only at hx; rw [hx]; simp) ?_
  have hsplit : t ++ MemOp.ofEvents C.j fn pos es = (t ++ MemOp.ofEvents C.j fn pos (es.extract 0 (i - t.size))) ++ MemOp.ofEvents C.j fn pos (es.extract (i - t.size) es.size) := by
    rw [Array.append_assoc, ofEvents_eq, ofEvents_eq, ofEvents_eq, ← Array.map_append]
    congr 2
    have hlt := (Array.getElem?_eq_some_iff.1 he).1
    apply Array.ext_getElem?
    intro y
    simp only [Array.getElem?_append, Array.getElem?_extract, Array.size_extract]
    by_cases hy : y < i - t.size
    · rw [if_pos (by omega), if_pos (by omega)]; simp
    · rw [if_neg (by omega)]
      by_cases hy2 : y < es.size
      · rw [if_pos (by omega)]; congr 1; omega
      · rw [if_neg (by omega), Array.getElem?_eq_none (by omega)]
  have hlt := (Array.getElem?_eq_some_iff.1 he).1
  have hsz : (t ++ MemOp.ofEvents C.j fn pos (es.extract 0 (i - t.size))).size = i := by
    rw [Array.size_append, ofEvents_eq]; simp; omega
  rw [hsplit, deaf_old (by rw [hsz]; exact Nat.le_refl _)] at hdf
  have hD := Deaf_own t C.j fn pos (es.extract 0 (i - t.size))
  unfold Deaf at hD
  rw [hsz] at hD
  rw [hD] at hdf
  exact hdf
end

end Go.Proofs.Ytcdhmnefmbcmaaa
