/-
  Goroutine 0 beside goroutines that only leave, whether it hears or not: whose turn it is, a walk whose world is known, a plan; no condition but what each law names.
  Steps of a plan, of whatever kind; no condition but what each law names.
-/
import Derived.Test.YtcdhmnefmbcmaaaJaw
import Derived.Conc.FxGenLone
namespace Go.Proofs.Ytcdhmnefmbcmaaa
open Go Go.Conc
open Go.ConcN (sumTo upd sumTo_upd upd_ne upd_same)

/-- what is held of the trace, whether goroutine 0 hears or not -/
structure PastD (Shun : Loc → Prop) (B L : Nat) (t : Trace) (d : Nat) : Prop where
  clean : ∀ said, ¬ Race said t
  known : ∀ i a, touchAt t i = some a → a.loc.isMemory = true → Knows t 0 i ∨ (Shun a.loc ∧ a.kind = .atomic)
  over : t.HandedOver
  deaf : Deaf t 0 = d
  seen : ∀ op ∈ t, op.act.low B
  nor : ∀ op ∈ t, ∀ a, op.act = .mark (.release a) → a.block < L
/-- an entry of goroutine 0's list -/
def EvG (Shun : Loc → Prop) (B : Nat) (e : Event) : Prop := (∀ x, (MemAct.ofEvent e).touch? = some x → Shun x.loc → x.kind ≠ .plain) ∧ (MemAct.ofEvent e).low B ∧ ∀ a, MemAct.ofEvent e ≠ .mark (.release a)

theorem mem_evs {g : Nat} {fn : FuncId} {pos : String} {es : Array Event} {op : MemOp} (h : op ∈ MemOp.ofEvents g fn pos es) : ∃ e ∈ es, op = { g, fn, pos, act := .ofEvent e } := by
  rw [ofEvents_eq] at h
  obtain ⟨e, he, rfl⟩ := Array.mem_map.1 h
  exact ⟨e, he, rfl⟩
section
variable {Shun : Loc → Prop} {B B' L d : Nat} {t u : Trace}
theorem PastD.past (h : PastD Shun B L t 0) : Past Shun B t := ⟨h.clean, h.known, h.over, h.deaf, h.seen⟩
theorem pastD_of (h : Past Shun B t) : PastD Shun B B t 0 := ⟨h.clean, h.known, h.over, h.hears, h.seen, fun op hop a ha => by have := h.seen op hop; rw [ha] at this; exact this⟩
theorem PastD.mono (h : PastD Shun B L t d) (hB : B ≤ B') : PastD Shun B' L t d := ⟨h.clean, h.known, h.over, h.deaf, fun op hop => MemAct.low_mono hB (h.seen op hop), h.nor⟩
theorem PastD.app0 (h : PastD Shun B L t d) (hu : ∀ op ∈ u, op.g = 0) (hs : ∀ op ∈ u, ∀ b, op.act.touch? = some b → Shun b.loc → b.kind ≠ .plain) (hl : ∀ op ∈ u, op.act.low B) (hn : ∀ op ∈ u, ∀ a, op.act ≠ .mark (.release a)) : PastD Shun B L (t ++ u) (Deaf (t ++ u) 0) := by
  refine ⟨fun said => noRace_append (h.clean said) hu fun i a ha op hop b hb hc => ?_, fun i a ha hm => ?_, handedOver_app h.over fun op hop => .inl (hu op hop), rfl, seen_app h.seen hl, fun op hop a ha => (Array.mem_append.1 hop).elim (fun x => h.nor op x a ha) fun x => absurd ha (hn op x a)⟩
  · rcases h.known i a ha hc.2.1 with hk | ⟨hsa, hka⟩
    · exact hk
    · have hkb := hs op hop b hb (hc.1 ▸ hsa)
      obtain ⟨_, _, _, hcase⟩ := hc
      rw [hka] at hcase
      rcases hcase with x | x | ⟨_, x, _⟩
      · cases x
      · exact absurd x hkb
      · cases x
  · obtain ⟨x, hx, hxa⟩ := touch_of ha
    rcases getElem?_append_cases hx with ⟨_, hx'⟩ | ⟨_, hxu⟩
    · exact (h.known i a (by rw [touchAt_of hx']; exact hxa) hm).imp (·.app u) id
    · have := knows_own hx
      rw [hu x hxu] at this
      exact .inl this
theorem PastD.own (h : PastD Shun B L t d) {fn : FuncId} {pos : String} {es : Array Event} (hes : ∀ e ∈ es, EvG Shun B e) : PastD Shun B L (t ++ MemOp.ofEvents 0 fn pos es) (deafBehind d es) := by
  have := h.app0 (u := MemOp.ofEvents 0 fn pos es) (fun op hop => by obtain ⟨e, _, rfl⟩ := mem_evs hop; rfl) (fun op hop b hb => by obtain ⟨e, he, rfl⟩ := mem_evs hop; exact (hes e he).1 b hb)
    (fun op hop => by obtain ⟨e, he, rfl⟩ := mem_evs hop; exact (hes e he).2.1) (fun op hop => by obtain ⟨e, he, rfl⟩ := mem_evs hop; exact (hes e he).2.2)
  rw [Deaf_own, h.deaf] at this
  exact this
theorem PastD.mute (h : PastD Shun B L t d) {g : Nat} (hg : g ≠ 0) {fn : FuncId} {pos : String} {es : Array Event} (hm : ∀ e ∈ es, e.mute = true) : PastD Shun B L (t ++ MemOp.ofEvents g fn pos es) d := by
  have hu : ∀ op ∈ MemOp.ofEvents g fn pos es, op.g = g := fun op hop => by obtain ⟨e, _, rfl⟩ := mem_evs hop; rfl
  have hn : ∀ op ∈ MemOp.ofEvents g fn pos es, op.act.touch? = none := fun op hop => by obtain ⟨e, he, rfl⟩ := mem_evs hop; exact touch_mute (hm e he)
  refine ⟨fun said => noRace_append (h.clean said) hu fun i a _ op hop b hb _ => (by rw [hn op hop] at hb; cases hb), fun i a ha hmm => ?_, handedOver_app h.over fun op hop => .inr (hn op hop), (Deaf_other t hg _ hu).trans h.deaf,
    seen_app h.seen fun op hop => (by obtain ⟨e, he, rfl⟩ := mem_evs hop; exact low_mute (hm e he) B), fun op hop a ha => (Array.mem_append.1 hop).elim (fun x => h.nor op x a ha) fun x => by
      obtain ⟨⟨l, wr, sy⟩, he, rfl⟩ := mem_evs x
      have := hm _ he
      cases l <;> simp [Event.mute] at this
      rename_i m
      cases m <;> simp [MemAct.ofEvent] at this ha⟩
  obtain ⟨x, hx, hxa⟩ := touch_of ha
  rcases getElem?_append_cases hx with ⟨_, hx'⟩ | ⟨_, hxu⟩
  · exact (h.known i a (by rw [touchAt_of hx']; exact hxa) hmm).imp (·.app _) id
  · rw [hn x hxu] at hxa; cases hxa
end

/-- goroutine 0 beside leavers; every address that the trace names lies below B -/
structure SitD (P : Program) (Z : Nat → Prop) (B L : Nat) (gs : Array Goroutine) (t : Trace) (a : Goroutine) (q : Nat → Nat) (d : Nat) : Prop where
  at0 : gs[0]? = some a
  leavers : Leavers P t gs q
  past : PastD (ShunZ Z) B L t d
section
variable {P : Program} {Z : Nat → Prop} {B B' L d : Nat} {gs : Array Goroutine} {w w' : World} {t : Trace} {a a' g : Goroutine} {q : Nat → Nat} {sl sl' : Option (Nat × Nat)} {es : Array Event}
theorem SitD.sit (h : SitD P Z B L gs t a q 0) (hB : B ≤ w.heap.size) : Sit P Z gs w t a q := ⟨h.at0, h.leavers, (h.past.mono hB).past⟩
theorem Sit.sitD (h : Sit P Z gs w t a q) : SitD P Z w.heap.size w.heap.size gs t a q 0 := ⟨h.at0, h.leavers, pastD_of h.past⟩
theorem SitD.mono (h : SitD P Z B L gs t a q d) (hB : B ≤ B') : SitD P Z B' L gs t a q d := ⟨h.at0, h.leavers, h.past.mono hB⟩

/-- goroutine 0's step -/
theorem sitD_step (h : SitD P Z B L gs t a q d) (hs : stepG P true a w = .go a' w' es) (hB : B ≤ B') (he : ∀ e ∈ es, EvG (ShunZ Z) B' e) :
    runT P (crowd gs w sl') 0 = (.next (crowd ((gs.map (woken P a a' w')).setIfInBounds 0 a') w' sl'), MemOp.ofEvents 0 a.frame.fn a.frame.place es) ∧
    ((gs.map (woken P a a' w')).setIfInBounds 0 a').size = gs.size ∧ SitD P Z B' L ((gs.map (woken P a a' w')).setIfInBounds 0 a') (t ++ MemOp.ofEvents 0 a.frame.fn a.frame.place es) a' q (deafBehind d es) := by
  refine ⟨runT_crowd_go (P := P) (sl := sl') (i := 0) h.at0 (show stepG P (0 == 0) a w = _ from hs), by simp, ?_, ?_, ?_⟩
  · have hlt : 0 < gs.size := (Array.getElem?_eq_some_iff.1 h.at0).1
    simp [hlt]
  · refine ⟨fun j x hj hx => ?_, fun j hj => ?_⟩
    · have hne : 0 ≠ j := by omega
      rw [Array.getElem?_setIfInBounds_ne hne, Array.getElem?_map] at hx
      obtain ⟨y, hy, rfl⟩ := Option.map_eq_some_iff.1 hx
      have hq := h.leavers.old j y hj hy
      rw [woken_quitsD hq, Deaf_other t (by omega) _ (fun op hop => ofEvents_g hop)]
      exact hq
    · have hlt : 0 < gs.size := (Array.getElem?_eq_some_iff.1 h.at0).1
      rw [Deaf_other t (g' := 0) (by simp at hj; omega) _ (fun op hop => ofEvents_g hop)]
      exact h.leavers.above j (by simpa using hj)
  · exact (h.past.mono hB).own he

/-- a leaver's step -/
theorem sitD_leaver {dd i : Nat} (h : SitD P Z B L gs t a q d) (ha : a.status = .running) (hpos : 0 < i) (hi : gs[i]? = some g) (hg : g.status = .running) :
    ∃ k g' es, q i = k + 1 ∧ runT P (crowd gs (w.at dd) sl') i = (.next (crowd ((gs.map (woken P g g' (w.at dd))).setIfInBounds i g') (w.at dd) sl'), MemOp.ofEvents i g.frame.fn g.frame.place es) ∧
      ((gs.map (woken P g g' (w.at dd))).setIfInBounds i g').size = gs.size ∧ SitD P Z B L ((gs.map (woken P g g' (w.at dd))).setIfInBounds i g') (t ++ MemOp.ofEvents i g.frame.fn g.frame.place es) a (upd q i k) d ∧
      sumTo gs.size (upd q i k) < sumTo gs.size q := by
  have hq := h.leavers.old i g hpos hi
  have hi0 : (i == 0) = false := by simp; omega
  have hlt : i < gs.size := (Array.getElem?_eq_some_iff.1 hi).1
  cases hqi : q i with
  | zero => rw [hqi] at hq; rw [hq.1] at hg; cases hg
  | succ k =>
    rw [hqi] at hq
    rcases hq with ⟨hf, _⟩ | ⟨_, g', es, hm, hstp, hq'⟩
    · rw [hf] at hg; cases hg
    refine ⟨k, g', es, rfl, runT_crowd_go (P := P) (sl := sl') (i := i) hi (by rw [hi0]; exact hstp (w.at dd)), by simp, ⟨?_, ⟨fun j x hj hx => ?_, fun j hj => ?_⟩, h.past.mute (by omega) hm⟩, ?_⟩
    · have hne : i ≠ 0 := by omega
      rw [Array.getElem?_setIfInBounds_ne hne, Array.getElem?_map, h.at0]
      simp [woken_run ha]
    · by_cases hji : i = j
      · subst hji
        rw [Array.getElem?_setIfInBounds_self_of_lt (by simpa using hlt)] at hx
        obtain rfl := Option.some.inj hx
        rw [upd_same, Deaf_own]
        exact hq'
      · rw [Array.getElem?_setIfInBounds_ne hji, Array.getElem?_map] at hx
        obtain ⟨y, hy, rfl⟩ := Option.map_eq_some_iff.1 hx
        have hqj := h.leavers.old j y hj hy
        rw [woken_quitsD hqj, upd_ne q k (Ne.symm hji), Deaf_other t hji _ (fun op hop => ofEvents_g hop)]
        exact hqj
    · rw [Deaf_other t (g' := i) (by simp at hj; omega) _ (fun op hop => ofEvents_g hop)]
      exact h.leavers.above j (by simpa using hj)
    · have hsum : sumTo gs.size (upd q i k) + (k + 1) = sumTo gs.size q + k := by
        have := sumTo_upd q k id hlt
        simpa [hqi] using this
      omega

/-- goroutine 0's turn comes -/
theorem turn0 (h : SitD P Z B L gs t a q d) (ha : a.status = .running) :
    ∃ N gs1 w1 sl1 t1 q1 dd sx, runNT P N (crowd gs w sl) t = (.next (crowd gs1 w1 sl1), t1) ∧ gs1.size = gs.size ∧ SitD P Z B L gs1 t1 a q1 d ∧ (∃ d1, w1 = w.at d1) ∧ stepT P (crowd gs1 w1 sl1) = runT P (crowd gs1 (w.at dd) sx) 0 := by
  obtain ⟨M, hM⟩ : ∃ M, sumTo gs.size q = M := ⟨_, rfl⟩
  induction M using Nat.strongRecOn generalizing gs w sl t q with
  | _ M ih =>
    have haw : ∀ g ∈ gs, awake g := fun g hg => by
      obtain ⟨i, hi, rfl⟩ := Array.mem_iff_getElem.1 hg
      rcases Nat.eq_zero_or_pos i with rfl | hpos
      · have h0 := h.at0
        have : gs[0] = a := by simpa [Array.getElem?_eq_getElem hi] using h0
        rw [this]; exact awake_of (.inl ha)
      · exact awake_of ((h.leavers.old i _ hpos (Array.getElem?_eq_getElem hi)).status.elim .inl fun x => .inr (.inr x))
    obtain ⟨i, g, dd, sx, hi, hg, hst⟩ := crowd_pick (P := P) (w := w) (sl := sl) haw ⟨0, a, h.at0, ha⟩
    rcases Nat.eq_zero_or_pos i with rfl | hpos
    · exact ⟨0, gs, w, sl, t, q, dd, sx, rfl, rfl, h, ⟨w.drawn, rfl⟩, hst⟩
    · obtain ⟨k, g', es, hq, hr, hz, hS, hlt⟩ := sitD_leaver (w := w) (dd := dd) (sl' := sx) h ha hpos hi hg
      obtain ⟨N, gs1, w1, sl1, t1, q1, d2, sx2, h1, h2, h3, ⟨d1, h4⟩, h5⟩ := ih _ (by rw [hz, ← hM]; exact hlt) (w := w.at dd) (sl := sx) hS rfl
      exact ⟨N + 1, gs1, w1, sl1, t1, q1, d2, sx2, by simp only [runNT, hst, hr]; exact h1, h2.trans hz, h3, ⟨d1, h4⟩, h5⟩

theorem runNT_join {m m' m'' : Machine} {t t' t'' : Trace} {N K : Nat} (h : runNT P N m t = (.next m', t')) (hk : runNT P K m' t' = (.next m'', t'')) : runNT P (N + K) m t = (.next m'', t'') := by
  rw [runNT_add, h]; exact hk
theorem runNT_one {m m' m'' : Machine} {t t' : Trace} {ops : Array MemOp} {N : Nat} (h : runNT P N m t = (.next m', t')) (hs : stepT P m' = (.next m'', ops)) : runNT P (N + 1) m t = (.next m'', t' ++ ops) := by
  rw [runNT_add, h]; simp only [runNT, hs]

/-- a step of goroutine 0's, taken where its turn comes -/
theorem turnD {R : Goroutine → World → Array Event → Nat → Prop} (h : SitD P Z B L gs t a q d) (ha : a.status = .running)
    (hstep : ∀ dd, ∃ a' w' es B', stepG P true a (w.at dd) = .go a' w' es ∧ B ≤ B' ∧ (∀ e ∈ es, EvG (ShunZ Z) B' e) ∧ R a' w' es B') :
    ∃ N gs1 w' sl1 t1 q1 a' es B', runNT P N (crowd gs w sl) t = (.next (crowd gs1 w' sl1), t1) ∧ gs1.size = gs.size ∧ SitD P Z B' L gs1 t1 a' q1 (deafBehind d es) ∧ R a' w' es B' := by
  obtain ⟨N, gs1, w1, sl1, t1, q1, dd, sx, h1, h2, h3, ⟨d1, rfl⟩, h5⟩ := turn0 (w := w) (sl := sl) h ha
  obtain ⟨a', w', es, B', k1, k2, k3, k4⟩ := hstep dd
  obtain ⟨r1, r2, r3⟩ := sitD_step (sl' := sx) h3 k1 k2 k3
  exact ⟨N + 1, _, w', sx, _, q1, a', es, B', runNT_one h1 (h5.trans r1), r2.trans h2, r3, k4⟩

/-- A WALK WHOSE WORLD IS KNOWN. -/
theorem walkD {D : World → World → Array Event → Prop} {Stop : Goroutine → World → Prop} (hD : ∀ w w' es, D w w' es → ∀ e ∈ es, EvG (ShunZ Z) B e ∧ e.loc ≠ .mark .disable ∧ e.loc ≠ .mark .enable) :
    ∀ {n : Nat} {gs : Array Goroutine} {a : Goroutine} {w : World} {sl : Option (Nat × Nat)} {t : Trace} {q : Nat → Nat}, SitD P Z B L gs t a q d → Goes P true AtRel D Stop n a w →
      ∃ N gs1 w1 sl1 t1 q1 a1, runNT P N (crowd gs w sl) t = (.next (crowd gs1 w1 sl1), t1) ∧ gs1.size = gs.size ∧ SitD P Z B L gs1 t1 a1 q1 d ∧ ∀ dd, Stop a1 (w1.at dd) := by
  intro n
  induction n with
  | zero => intro gs a w sl t q h hG; exact ⟨0, gs, w, sl, t, q, a, rfl, rfl, h, fun dd => hG _ ⟨dd, rfl⟩⟩
  | succ n ih =>
    intro gs a w sl t q h hG
    rcases hG with hG | ⟨ha, hG⟩
    · exact ⟨0, gs, w, sl, t, q, a, rfl, rfl, h, fun dd => hG _ ⟨dd, rfl⟩⟩
    obtain ⟨N, gs1, w1, sl1, t1, q1, a1, es, B1, h1, h2, h3, rfl, h4, h5⟩ := turnD (w := w) (sl := sl) (R := fun a' w' es B' => B' = B ∧ Goes P true AtRel D Stop n a' w' ∧ ∀ e ∈ es, e.loc ≠ .mark .disable ∧ e.loc ≠ .mark .enable) h ha (fun dd => by
      have hs := hG (w.at dd) ⟨dd, rfl⟩
      cases hgo : stepG P true a (w.at dd) with
      | go a' w' es =>
        rw [hgo] at hs
        exact ⟨a', w', es, B, rfl, Nat.le_refl _, fun e he => (hD _ _ _ hs.1 e he).1, rfl, hs.2, fun e he => (hD _ _ _ hs.1 e he).2⟩
      | _ => rw [hgo] at hs; exact hs.elim)
    rw [deafBehind_still h5] at h3
    obtain ⟨N2, gs2, w2, sl2, t2, q2, a2, k1, k2, k3, k4⟩ := ih (sl := sl1) h3 h4
    exact ⟨N + N2, gs2, w2, sl2, t2, q2, a2, runNT_join h1 k1, k2.trans h2, k3, k4⟩
end

/-! ### plans -/
/-- a judgement that holds ahead of an own step where it holds behind it -/
structure Pln (P : Program) (mn : Bool) {SR : Nat → Prop} (J : Goroutine → Own SR → Prop) : Prop where
  priv : ∀ {a : Goroutine} {o : Own SR} (nx : World → Goroutine) (no : World → Own SR), a.status = .running → (∀ w, o.I w → ∃ w' es, stepG P mn a w = .go (nx w) w' es ∧ PStep o (no w) w w' es) → (∀ w, o.I w → J (nx w) (no w)) → J a o

/-- what a stretch of goroutine 0's leaves -/
structure Since {SR : Nat → Prop} (Z : Nat → Prop) (o o' : Own SR) (w w' : World) : Prop where
  own : ∀ b, o'.O b → b < w'.heap.size ∧ ¬ Z b
  new : ∀ b, o'.O b → o.O b ∨ w.heap.size ≤ b
  old : ∀ b, o.O b → o'.O b
  keep : ∀ b, b < w.heap.size → ¬ o.O b → w'.heap[b]? = w.heap[b]?
  sz : w.heap.size ≤ w'.heap.size
  same : w'.tape = w.tape ∧ w'.os = w.os ∧ w'.output = w.output
/-- goroutine 0, beside leavers, comes to Fin -/
def Ps (P : Program) {SR : Nat → Prop} (Fin : Goroutine → Own SR → Prop) (a : Goroutine) (o : Own SR) : Prop :=
  ∀ {Z : Nat → Prop} {L : Nat} {gs : Array Goroutine} {w : World} {sl : Option (Nat × Nat)} {t : Trace} {q : Nat → Nat}, SitD P Z w.heap.size L gs t a q 0 → o.I w → (∀ b, o.O b → b < w.heap.size ∧ ¬ Z b) → (∀ b, SR b → b < w.heap.size ∧ ¬ Z b) → (∀ b, Z b → b < w.heap.size) →
    ∃ N gs' w' sl' t' q' a' o', runNT P N (crowd gs w sl) t = (.next (crowd gs' w' sl'), t') ∧ gs'.size = gs.size ∧ SitD P Z w'.heap.size L gs' t' a' q' 0 ∧ Fin a' o' ∧ o'.I w' ∧ Since Z o o' w w'
section
variable {P : Program} {SR : Nat → Prop} {Fin : Goroutine → Own SR → Prop}
theorem Ps.fin {a : Goroutine} {o : Own SR} (h : Fin a o) : Ps P Fin a o := fun {_ _ gs w sl t q} h1 h2 h3 _ _ =>
  ⟨0, gs, w, sl, t, q, a, o, rfl, rfl, h1, h, h2, h3, fun _ h => .inl h, fun _ h => h, fun _ _ _ => rfl, Nat.le_refl _, rfl, rfl, rfl⟩
theorem evG_of {SR : Nat → Prop} {o o' : Own SR} {w w' : World} {es : Array Event} {Z : Nat → Prop} (h : PStep o o' w w' es) (ho : ∀ b, o'.O b → b < w'.heap.size ∧ ¬ Z b) (hS : ∀ b, SR b → b < w'.heap.size ∧ ¬ Z b) : (∀ e ∈ es, EvG (ShunZ Z) w'.heap.size e) ∧ ∀ d, deafBehind d es = d := by
  refine ⟨fun e he => ?_, fun d => deafBehind_still (fun e he => ?_) d⟩
  · have hk := h.evs e he
    obtain ⟨l, wr, sy⟩ := e
    cases l with
    | cell ad =>
      have hb : ad.block < w'.heap.size ∧ ¬ Z ad.block := by
        rcases hk with hk | hk
        · exact ho _ hk
        · exact hS _ hk.1
      refine ⟨fun x hx hz => ?_, hb.1, fun a h => by rw [ofEvent_cell0] at h; cases h⟩
      simp only [ofEvent_cell0, MemAct.touch?, Option.some.injEq] at hx
      subst hx
      exact absurd hz hb.2
    | obj c =>
      have hb := ho _ hk.1
      refine ⟨fun x hx hz => ?_, ?_, fun a h => by cases wr <;> cases sy <;> cases h⟩
      · have hl : x.loc = .obj c := by
          cases wr <;> cases sy <;> simp [MemAct.ofEvent, MemAct.touch?] at hx <;> first | (subst hx; rfl) | exact absurd ⟨rfl, rfl⟩ hk.2
        rw [hl] at hz
        exact absurd hz hb.2
      · cases wr <;> cases sy <;> first | exact absurd ⟨rfl, rfl⟩ hk.2 | exact hb.1
    | mark m =>
      cases m with
      | extern _ => exact ⟨fun x hx => by simp [MemAct.ofEvent, MemAct.touch?] at hx, trivial, fun a h => by cases h⟩
      | noRoom => exact ⟨fun x hx => by simp [MemAct.ofEvent, MemAct.touch?] at hx, trivial, fun a h => by cases h⟩
      | _ => exact hk.elim
    | output => exact ⟨fun x hx hz => by
        have hl : x.loc = .output := by
          cases wr <;> cases sy <;> simp [MemAct.ofEvent, MemAct.touch?] at hx <;> (subst hx; rfl)
        rw [hl] at hz; exact hz.elim, by cases wr <;> cases sy <;> trivial, fun a h => by cases wr <;> cases sy <;> cases h⟩
    | _ => exact hk.elim
  · have hk := h.evs e he
    constructor
    · intro hl; rw [hl] at hk; exact hk.elim
    · intro hl; rw [hl] at hk; exact hk.elim

theorem ps_pln : Pln P true (Ps P Fin) where
  priv := fun {a o} nx no hr hstep hnext {Z L gs w sl t q} h1 h2 h3 h4 h5 => by
    obtain ⟨N, gs1, w1, sl1, t1, q1, a1, es, B1, k1, k2, k3, ⟨dd, ra, rB⟩, hp⟩ := turnD (w := w) (sl := sl) (R := fun a' w' es B' => (∃ dd, a' = nx (w.at dd) ∧ B' = w'.heap.size ∧ PStep o (no (w.at dd)) (w.at dd) w' es) ∧ ∀ d, deafBehind d es = d) h1 hr (fun dd => by
      obtain ⟨w', es, e1, e2⟩ := hstep (w.at dd) (o.at h2 dd)
      have hsz : w.heap.size ≤ w'.heap.size := e2.sz
      have ho' : ∀ b, (no (w.at dd)).O b → b < w'.heap.size ∧ ¬ Z b := fun b hb => by
        rcases (e2.O' b).1 hb with x | x
        · exact ⟨Nat.lt_of_lt_of_le (h3 b x).1 hsz, (h3 b x).2⟩
        · exact ⟨x.2, fun hz => by have := h5 b hz; have : w.heap.size ≤ b := x.1; omega⟩
      have hev := evG_of (Z := Z) e2 ho' (fun b hb => ⟨Nat.lt_of_lt_of_le (h4 b hb).1 hsz, (h4 b hb).2⟩)
      exact ⟨nx (w.at dd), w', es, w'.heap.size, e1, hsz, hev.1, ⟨dd, rfl, rfl, e2⟩, hev.2⟩)
    obtain ⟨rB, e2⟩ := rB
    subst ra rB
    rw [hp] at k3
    have hsz : w.heap.size ≤ w1.heap.size := e2.sz
    obtain ⟨N2, gs2, w2, sl2, t2, q2, a2, o2, j1, j2, j3, j4, j5, j6⟩ := hnext (w.at dd) (o.at h2 dd) (sl := sl1) k3 e2.I' (fun b hb => by
        rcases (e2.O' b).1 hb with x | x
        · exact ⟨Nat.lt_of_lt_of_le (h3 b x).1 hsz, (h3 b x).2⟩
        · exact ⟨x.2, fun hz => by have := h5 b hz; have : w.heap.size ≤ b := x.1; omega⟩) (fun b hb => ⟨Nat.lt_of_lt_of_le (h4 b hb).1 hsz, (h4 b hb).2⟩) (fun b hb => Nat.lt_of_lt_of_le (h5 b hb) hsz)
    refine ⟨N + N2, gs2, w2, sl2, t2, q2, a2, o2, runNT_join k1 j1, j2.trans k2, j3, j4, j5, j6.own, fun b hb => ?_, fun b hb => j6.old b ((e2.O' b).2 (.inl hb)), fun b hb hn => ?_, Nat.le_trans hsz j6.sz, j6.same.1.trans e2.same.1, j6.same.2.1.trans e2.same.2.1, j6.same.2.2.trans e2.same.2.2⟩
    · rcases j6.new b hb with x | x
      · rcases (e2.O' b).1 x with y | y
        · exact .inl y
        · exact .inr y.1
      · exact .inr (Nat.le_trans hsz x)
    · rw [j6.keep b (Nat.lt_of_lt_of_le hb hsz) (fun hx => by
        rcases (e2.O' b).1 hx with y | y
        · exact hn y
        · have : w.heap.size ≤ b := y.1; omega)]
      exact e2.keep b hb hn
end

end Go.Proofs.Ytcdhmnefmbcmaaa

namespace Go.Proofs.Ytcdhmnefmbcmaaa
open Go Go.Conc Go.RowKit
section
variable {P : Program} {mn : Bool} {SR : Nat → Prop} {J : Goroutine → Own SR → Prop} (hJ : Pln P mn J) {R : RF SR} {Gb : Nat → Prop} {L : List (Nat × Obj)}
  {fn : FuncId} {T : Array Value} {k : List Item} {D : List Deferred} {ro : Option Nat} {cs : List Frame} {ops : Array Oper} {i : Nat} {rest : List Nat} {op : Oper} {o : Own SR}
 include hJ
theorem pj_q {g g' : Goroutine} (h : ∀ w, stepG P mn g w = .go g' w #[]) (hr : g.status = .running) (next : J g' o) : J g o := by
  exact hJ.priv (fun _ => g') (fun _ => o) hr (fun w hw => ⟨w, #[], h w, ⟨hw, Nat.le_refl _, fun b => ⟨.inl, fun x => x.elim id fun y => by omega⟩, fun _ _ _ => rfl, ⟨rfl, rfl, rfl⟩, by simp⟩⟩) fun _ _ => next
theorem pj_rd {g g' : Goroutine} (h : ∀ w, o.I w → ∃ es, stepG P mn g w = .go g' w es ∧ ∀ e ∈ es, RdEv o e) (hr : g.status = .running) (next : J g' o) : J g o := by
  refine hJ.priv (fun _ => g') (fun _ => o) hr (fun w hw => ?_) fun _ _ => next
  obtain ⟨es, h1, h2⟩ := h w hw
  refine ⟨w, es, h1, ⟨hw, Nat.le_refl _, fun b => ⟨.inl, fun x => x.elim id fun y => by omega⟩, fun _ _ _ => rfl, ⟨rfl, rfl, rfl⟩, fun e he => ?_⟩⟩
  have := h2 e he
  unfold RdEv at this
  cases hl : e.loc with
  | cell a => rw [hl] at this; exact this.1.imp id fun x => ⟨x, this.2⟩
  | mark m => rw [hl] at this; exact this
  | obj c => rw [hl] at this; exact ⟨this.1, fun x => by rw [this.2] at x; cases x.1⟩
  | _ => rw [hl] at this; exact this.elim
theorem pj_val (v : Value) (ho : ops[i]? = some op) (hw : Region.wanted op (yielded ops T) = true) (hd : ro = none ∨ ∀ c, op.op ≠ .defer c) (hr : ∀ w, o.I w → (execOp (ev T) op).run P w = .ok (.value v) w)
    (he : ∀ w, o.I w → ∀ e ∈ (execOp (ev T) op).events P w #[], RdEv o e) (next : J (G (fr fn (put T op.dst v) (.inRegion ops rest :: k) D ro) cs) o) :
    J (G (fr fn T (.inRegion ops (i :: rest) :: k) D ro) cs) o :=
  pj_rd hJ (fun w hw' => ⟨_, s_val ho hw hd (hr w hw'), fun e h => he w hw' e (seen_sub h)⟩) rfl next
theorem pj_enter {f : FuncId} {args : Array Value} (ho : ops[i]? = some op) (hw : Region.wanted op (yielded ops T) = true) (hd : ro = none ∨ ∀ c, op.op ≠ .defer c) (hr : ∀ w, o.I w → (execOp (ev T) op).run P w = .ok (.enter f args) w)
    (he : ∀ w, o.I w → ∀ e ∈ (execOp (ev T) op).events P w #[], RdEv o e) (next : J (G (Frame.enter P f args .normal) (fr fn T (.inRegion ops (i :: rest) :: k) D ro :: cs)) o) :
    J (G (fr fn T (.inRegion ops (i :: rest) :: k) D ro) cs) o :=
  pj_rd hJ (fun w hw' => ⟨_, s_call ho hw hd (hr w hw'), fun e h => he w hw' e (seen_sub h)⟩) rfl next
theorem pj_vl {l : List Oper} (v : Value) (ho : l[i]? = some op) (hw : Region.wanted op (yielded l.toArray T) = true) (hd : ro = none ∨ ∀ c, op.op ≠ .defer c) (hr : ∀ w, o.I w → (execOp (ev T) op).run P w = .ok (.value v) w)
    (he : ∀ w, o.I w → ∀ e ∈ (execOp (ev T) op).events P w #[], RdEv o e) (next : J (G (fr fn (put T op.dst v) (.inRegion l.toArray rest :: k) D ro) cs) o) :
    J (G (fr fn T (.inRegion l.toArray (i :: rest) :: k) D ro) cs) o := pj_val hJ v (by simpa using ho) hw hd hr he next
theorem pj_news {g : Goroutine} (obs : Nat → List Obj) (_ : ∀ n m, (obs n).length = (obs m).length) (g' : Nat → Goroutine) (h : ∀ w, (ow R Gb L).I w → stepG P mn g w = .go (g' w.heap.size) { w with heap := w.heap ++ (obs w.heap.size).toArray } #[]) (hr : g.status = .running)
    (next : ∀ n, (∃ w, (ow R Gb L).I w ∧ w.heap.size = n) → J (g' n) (ow R Gb ((List.range (obs n).length).map (fun j => (n + j, (obs n)[j]?.getD default)) ++ L))) : J g (ow R Gb L) := by
  refine hJ.priv (fun w => g' w.heap.size) (fun w => ow R Gb ((List.range (obs w.heap.size).length).map (fun j => (w.heap.size + j, (obs w.heap.size)[j]?.getD default)) ++ L)) hr (fun w hw => ⟨_, _, h w hw, ?_⟩) fun w hw => next _ ⟨w, hw, rfl⟩
  have hold : ∀ b, b < w.heap.size → (w.heap ++ (obs w.heap.size).toArray)[b]? = w.heap[b]? := fun b hb => Array.getElem?_append_left hb
  refine ⟨⟨fun p hp => ?_, ?_⟩, by simp, fun b => ?_, fun b hb _ => hold b hb, ⟨rfl, rfl, rfl⟩, by simp⟩
  · rcases List.mem_append.1 hp with hp | hp
    · obtain ⟨j, hj, rfl⟩ := List.mem_map.1 hp
      have hj := List.mem_range.1 hj
      show (w.heap ++ (obs w.heap.size).toArray)[w.heap.size + j]? = _
      rw [Array.getElem?_append_right (by omega), show w.heap.size + j - w.heap.size = j by omega, List.getElem?_toArray, List.getElem?_eq_getElem hj]
      rfl
    · have h1 := hw.1 p hp
      show (w.heap ++ (obs w.heap.size).toArray)[p.1]? = _
      rw [hold _ (Array.getElem?_eq_some_iff.1 h1).1]
      exact h1
  · exact R.st w _ hw.2 (fun b hb => hold b (R.lt w hw.2 b hb)) (by simp)
  · simp only [ow, List.map_append, List.map_map, List.mem_append, List.mem_map, List.mem_range, Function.comp]
    constructor
    · rintro (x | ⟨j, hj, rfl⟩ | x)
      · exact .inl (.inl x)
      · refine .inr ⟨by omega, ?_⟩
        show w.heap.size + j < (w.heap ++ (obs w.heap.size).toArray).size
        simp; exact hj
      · exact .inl (.inr x)
    · rintro ((x | x) | ⟨x1, x2⟩)
      · exact .inl x
      · exact .inr (.inr x)
      · refine .inr (.inl ⟨b - w.heap.size, ?_, by omega⟩)
        have x2 : b < (w.heap ++ (obs w.heap.size).toArray).size := x2
        simp at x2
        omega
theorem pj_draw {rid : Nat} (orders : List (List Nat)) (h1 : Region.departs ops = false ∨ P.follows .mixedOrders = true) (h2 : ordsGo .any ops ops.size (Array.replicate ops.size false) [] = orders) (next : ∀ l ∈ orders, J (G (fr fn T (.inRegion ops l :: k) D ro) cs) o) :
    J (G (fr fn T (.code (.region rid ops true) :: k) D ro) cs) o := by
  refine hJ.priv (fun w => G (fr fn T (.inRegion ops (Region.schedule (P.follows .mixedOrders) ops ((Question.order fn rid).cut (w.tape w.drawn (.order fn rid)))) :: k) D ro) cs) (fun _ => o) rfl (fun w hw => ⟨_, _, s_draw, ⟨?_, Nat.le_refl _, fun b => ⟨.inl, fun x => x.elim id fun y => ?_⟩, fun _ _ _ => rfl, ⟨rfl, rfl, rfl⟩, by simp⟩⟩) fun w _ => next _ ?_
  · exact o.st w _ hw (fun _ _ => rfl) (Nat.le_refl _) rfl rfl
  · have : w.heap.size ≤ b ∧ b < w.heap.size := y
    omega
  · rw [← h2]
    unfold Region.schedule
    have h3 : (P.follows .mixedOrders || !Region.departs ops) = true := by rcases h1 with h | h <;> rw [h] <;> simp
    rw [if_pos h3]
    exact go_mem _ _ _ _
theorem pj_leave {f : Func} {v : Value} {c : Frame} (hf : P.funcs[fn]? = some f) (hr : ∀ w, (results f T).runT P w #[] = (.ok v w, #[])) (next : J (G (c.finish v) cs) o) : J (G { fr fn T k [] none with mode := .returning } (c :: cs)) o :=
  pj_q hJ (fun w => s_leave hf (hr w)) rfl next
theorem pj_new1 (v : Nat → Value) (ob : Obj) (ho : ops[i]? = some op) (hw : Region.wanted op (yielded ops T) = true) (hd : ro = none ∨ ∀ c, op.op ≠ .defer c) (hr : ∀ w, (ow R Gb L).I w → (execOp (ev T) op).run P w = .ok (.value (v w.heap.size)) (w.alloc ob)) (he : ∀ w, (ow R Gb L).I w → (execOp (ev T) op).events P w #[] = #[])
    (next : ∀ n, (∃ w, (ow R Gb L).I w ∧ w.heap.size = n) → J (G (fr fn (put T op.dst (v n)) (.inRegion ops rest :: k) D ro) cs) (ow R Gb ((n, ob) :: L))) :
    J (G (fr fn T (.inRegion ops (i :: rest) :: k) D ro) cs) (ow R Gb L) := by
  refine pj_news hJ (fun _ => [ob]) (fun _ _ => rfl) (fun n => G (fr fn (put T op.dst (v n)) (.inRegion ops rest :: k) D ro) cs) (fun w hw' => ?_) rfl fun n hn => ?_
  · rw [s_val ho hw hd (hr w hw'), he w hw']
    have : w.alloc ob = { w with heap := w.heap ++ [ob].toArray } := by
      show ({ w with heap := w.heap.push ob } : World) = _
      congr 1
    rw [this]
    rfl
  · simpa using next n hn
theorem pj_app {t e : TypeId} {ie : TypeInfo} {z : Value} (si xi : Operand) (hop : op.op = .call { callee := .builtin .append, args := #[si, xi], argTypes := #[t, t] }) (ht : P.underlying t = some (.slice e)) (hi : P.info? e = some ie) (hz : ie.zero = some z) (hsz : ie.size = 1) (hby : ie.bytes = 1) (hzc : z.cells = #[.int .u8 0])
    {b0 : Nat} (hs : ev T si = .slice (some ⟨b0, 0, none⟩) 0 0) (hb0 : (b0, .cells #[] e) ∈ L) {a : Addr} {n c : Nat} (hx : ev T xi = .slice (some a) n c) {news : List Value} (hl : news.length = n) (hn : 0 < n) (hle : n ≤ 1073741824) (hones : ∀ u ∈ news, u.oneCell' = true)
    (hnews : ∀ w, R.R w → ∀ j v, news[j]? = some v → w.cell? (a.add j) = some v) (haS : SR a.block)
    (ho : ops[i]? = some op) (hw : Region.wanted op (yielded ops T) = true) (hd : ro = none)
    (next : ∀ m cap, n ≤ cap → CapOk n e cap → (∃ w, (ow R Gb L).I w ∧ w.heap.size = m) → J (G (fr fn (put T op.dst (.slice (some ⟨m, 0, none⟩) n cap)) (.inRegion ops rest :: k) D ro) cs) (ow R Gb ((m, .cells (news.toArray ++ Array.replicate (cap - n) (.int .u8 0)) e) :: L))) :
    J (G (fr fn T (.inRegion ops (i :: rest) :: k) D ro) cs) (ow R Gb L) := by
  subst hd
  have hrun : ∀ w, (ow R Gb L).I w → (execOp (ev T) op).run P w = .ok (.value (.slice (some ⟨w.heap.size, 0, none⟩) n (grownCap w n 0 e))) { w with heap := w.heap.push (.cells (news.toArray ++ Array.replicate (grownCap w n 0 e - n) (.int .u8 0)) e), drawn := w.drawn + 1 } := by
    intro w hw'
    have h1 := run_append_grow (P := P) w t op.type e ie z ht hi hz ⟨b0, 0, none⟩ 0 0 [] (by simp) (by simp) a n c news (by rw [hl, hsz, Nat.mul_one]) (hnews w hw'.2) (by omega) (by simp; omega) (by
      rw [hby]
      have : Builtin.nextslicecap (0 + n) 0 = n := by unfold Builtin.nextslicecap; simp; omega
      omega)
    unfold execOp
    simp only [hop, resolve, invoke, builtin, Sem.run_bind, Sem.run_pure, Result.andThen_ok, List.map_toArray, List.map_cons, List.map_nil, hs, hx, h1]
    have hzz : ∀ m, Builtin.zeroCells z.cells m = Array.replicate m (.int .u8 0) := by
      intro m
      unfold Builtin.zeroCells
      rw [hzc]
      apply Array.ext
      · simp
      · intro j h1 h2
        simp [Nat.mod_one]
    rw [hzz]
    simp only [Array.empty_append, Nat.zero_add]
    rfl
  have hcap : ∀ w : World, n ≤ grownCap w n 0 e ∧ grownCap w n 0 e ≤ maxLen := fun w => ⟨grownCap_ge w n 0 e, grownCap_le_maxLen w n 0 e (by simp only [maxLen]; omega)⟩
  refine hJ.priv (fun w => G (fr fn (put T op.dst (.slice (some ⟨w.heap.size, 0, none⟩) n (grownCap w n 0 e))) (.inRegion ops rest :: k) D none) cs) (fun w => ow R Gb ((w.heap.size, .cells (news.toArray ++ Array.replicate (grownCap w n 0 e - n) (.int .u8 0)) e) :: L)) rfl (fun w hw' => ⟨_, _, s_val ho hw (.inl rfl) (hrun w hw'), ?_⟩) fun w hw' => next _ _ (hcap w).1 ⟨(hcap w).2, _, rfl⟩ ⟨w, hw', rfl⟩
  have hold : ∀ b, b < w.heap.size → (w.heap.push (.cells (news.toArray ++ Array.replicate (grownCap w n 0 e - n) (.int .u8 0)) e))[b]? = w.heap[b]? := fun b hb => by rw [Array.getElem?_push_lt hb, Array.getElem?_eq_getElem hb]
  refine ⟨⟨fun p hp => ?_, ?_⟩, by simp, fun b => ?_, fun b hb _ => hold b hb, ⟨rfl, rfl, rfl⟩, fun x hx' => ?_⟩
  · rcases List.mem_cons.1 hp with rfl | hp
    · simp
    · show (w.heap.push _)[p.1]? = _
      have h1 := hw'.1 p hp
      rw [hold _ (Array.getElem?_eq_some_iff.1 h1).1]
      exact h1
  · exact R.st w _ hw'.2 (fun b hb => hold b (R.lt w hw'.2 b hb)) (by simp)
  · simp only [ow, List.map_cons, List.mem_cons, Array.size_push]
    constructor
    · rintro (x | x | x)
      · exact .inl (.inl x)
      · exact .inr (by omega)
      · exact .inl (.inr x)
    · rintro ((x | x) | x)
      · exact .inl x
      · exact .inr (.inr x)
      · exact .inr (.inl (by omega))
  · have hx' := seen_sub hx'
    rw [show (execOp (ev T) op).events P w #[] = (Builtin.append_ #[t, t] op.type #[.slice (some ⟨b0, 0, none⟩) 0 0, .slice (some a) n c]).events P w #[] from events_append_op (a := ⟨T, []⟩) si xi t hop hs hx #[]] at hx'
    have hown : w.ownsRow 0 e 1 (.slice (some ⟨b0, 0, none⟩) 0 0) 0 [] := ⟨by simp, .inr ⟨b0, 0, #[], rfl, Nat.zero_le _, hw'.1 _ hb0, Nat.le_refl _, Nat.zero_le _, by simp, by simp⟩⟩
    rcases events_append_where (P := P) w 0 t op.type e ie z 1 1 ht hi hz hsz hby _ 0 [] hown a n c news (by rw [hl, Nat.mul_one]) (hnews w hw'.2) hones (by simp only [maxLen]; omega) (by omega) x hx' with ⟨ad, h1, h2⟩ | ⟨m, rfl, h2⟩
    · rw [h1]
      rcases h2 with ⟨h2, h3⟩ | h2
      · exact .inr ⟨by rw [h3]; exact haS, h2⟩
      · refine .inl (.inr ?_)
        simp only [Value.ownBlock, Option.some.injEq] at h2
        rw [h2]
        simp only [List.map_cons, List.mem_cons]
        exact .inr (List.mem_map_of_mem hb0)
    · unfold Neutral at h2
      subst h2
      trivial
/-- (the new block lies behind all own ones) -/
theorem pj_new (v : Nat → Value) (ob : Obj) (ho : ops[i]? = some op) (hw : Region.wanted op (yielded ops T) = true) (hd : ro = none ∨ ∀ c, op.op ≠ .defer c) (hr : ∀ w : World, (execOp (ev T) op).run P w = .ok (.value (v w.heap.size)) (w.alloc ob)) (he : ∀ w : World, (execOp (ev T) op).events P w #[] = #[])
    (next : ∀ n, (∀ y ∈ L.map Prod.fst, y < n) → ¬ SR n → J (G (fr fn (put T op.dst (v n)) (.inRegion ops rest :: k) D ro) cs) (ow R Gb ((n, ob) :: L))) :
    J (G (fr fn T (.inRegion ops (i :: rest) :: k) D ro) cs) (ow R Gb L) := by
  refine pj_new1 hJ v ob ho hw hd (fun w _ => hr w) (fun w _ => he w) fun n hn => next n (fun y hy => ?_) fun hs => ?_
  · obtain ⟨w, hw', rfl⟩ := hn
    obtain ⟨p, hp, rfl⟩ := List.mem_map.1 hy
    exact (Array.getElem?_eq_some_iff.1 (hw'.1 p hp)).1
  · obtain ⟨w, hw', rfl⟩ := hn
    exact Nat.lt_irrefl _ (R.lt w hw'.2 _ hs)
/-- an own block is turned, all else stands -/
theorem pj_turn {g g' : Goroutine} {L' : List (Nat × Obj)} {b : Nat} {ob ob' : Obj} (hb : (b, ob) ∈ L) (hS : ¬ SR b) (hfst : ∀ y, y ∈ L'.map Prod.fst ↔ y ∈ L.map Prod.fst) (hL : ∀ p ∈ L', p = (b, ob') ∨ (p ∈ L ∧ p.1 ≠ b))
    (h : ∀ w : World, w.heap[b]? = some ob → ∃ es, stepG P mn g w = .go g' { w with heap := w.heap.setIfInBounds b ob' } es ∧ ∀ e ∈ es, ∃ a x, e = ⟨.cell a, x, false⟩ ∧ a.block = b) (hr : g.status = .running)
    (next : J g' (ow R Gb L')) : J g (ow R Gb L) := by
  refine hJ.priv (fun _ => g') (fun _ => ow R Gb L') hr (fun w hw => ?_) fun _ _ => next
  have h1 : w.heap[b]? = some ob := hw.1 _ hb
  obtain ⟨es, h2, h3⟩ := h w h1
  have hlt : b < w.heap.size := (Array.getElem?_eq_some_iff.1 h1).1
  have hmem : b ∈ L.map Prod.fst := List.mem_map_of_mem hb
  refine ⟨_, es, h2, ⟨fun p hp => ?_, ?_⟩, by simp, fun c => ?_, fun c hc hn => ?_, ⟨rfl, rfl, rfl⟩, fun e he => ?_⟩
  · show (w.heap.setIfInBounds b ob')[p.1]? = _
    rcases hL p hp with rfl | ⟨hp, hne⟩
    · simp [hlt]
    · rw [Array.getElem?_setIfInBounds_ne (fun e => hne e.symm)]; exact hw.1 p hp
  · exact R.st w _ hw.2 (fun c hc => Array.getElem?_setIfInBounds_ne (fun e => hS (by rw [e]; exact hc))) (by simp)
  · simp only [ow, hfst]
    constructor
    · exact .inl
    · rintro (x | ⟨x1, x2⟩)
      · exact x
      · have : c < (w.heap.setIfInBounds b ob').size := x2
        simp at this; omega
  · exact Array.getElem?_setIfInBounds_ne (fun e => hn (.inr (by rw [← e]; exact hmem)))
  · obtain ⟨a, x, rfl, ha⟩ := h3 e he
    exact .inl (.inr (by rw [ha]; exact (hfst b).2 hmem))
 omit hJ in
theorem setCell_one (w : World) {b : Nat} {x v : Value} {t : TypeId} {fr : Nat × Nat} (h : w.heap[b]? = some (.cells #[x] t fr)) : w.setCell ⟨b, 0, none⟩ v = { w with heap := w.heap.setIfInBounds b (.cells #[v] t fr) } := by
  have hlt : b < w.heap.size := (Array.getElem?_eq_some_iff.1 h).1
  have : (w.setCell ⟨b, 0, none⟩ v).heap = w.heap.setIfInBounds b (.cells #[v] t fr) := by
    unfold World.setCell
    apply Array.ext_getElem?
    intro i
    simp only [Array.getElem?_modify]
    by_cases e : b = i
    · subst e
      rw [h]
      simp [hlt]
    · rw [Array.getElem?_setIfInBounds_ne e, if_neg e]
  have e : w.setCell ⟨b, 0, none⟩ v = { w with heap := (w.setCell ⟨b, 0, none⟩ v).heap } := rfl
  rw [e, this]
/-- a store into an own box -/
theorem pj_st {L' : List (Nat × Obj)} {b : Nat} {x v : Value} {t : TypeId} (hb : (b, .cells #[x] t) ∈ L) (hS : ¬ SR b) (hfst : ∀ y, y ∈ L'.map Prod.fst ↔ y ∈ L.map Prod.fst) (hL : ∀ p ∈ L', p = (b, .cells #[v] t) ∨ (p ∈ L ∧ p.1 ≠ b))
    (ho : ops[i]? = some op) (hw : Region.wanted op (yielded ops T) = true) (hd : ro = none ∨ ∀ c, op.op ≠ .defer c)
    (hr : ∀ w : World, w.cell? ⟨b, 0, none⟩ = some x → w.frozen? ⟨b, 0, none⟩ = false → (execOp (ev T) op).run P w = .ok .skip (w.setCell ⟨b, 0, none⟩ v)) (he : ∀ w : World, w.cell? ⟨b, 0, none⟩ = some x → w.frozen? ⟨b, 0, none⟩ = false → ∀ e ∈ (execOp (ev T) op).events P w #[], e = ⟨.cell ⟨b, 0, none⟩, true, false⟩)
    (next : J (G (fr fn (put T op.dst undef) (.inRegion ops rest :: k) D ro) cs) (ow R Gb L')) : J (G (fr fn T (.inRegion ops (i :: rest) :: k) D ro) cs) (ow R Gb L) := by
  refine pj_turn hJ (ob' := .cells #[v] t) hb hS hfst hL (fun w h => ?_) rfl next
  have h1 : w.cell? ⟨b, 0, none⟩ = some x := by simp [World.cell?, h]
  have h2 : w.frozen? ⟨b, 0, none⟩ = false := by simp [World.frozen?, h]
  refine ⟨seen P fn ((execOp (ev T) op).events P w #[]), ?_, fun e hx => ⟨⟨b, 0, none⟩, true, he w h1 h2 e (seen_sub hx), rfl⟩⟩
  rw [s_none ho hw hd (hr w h1 h2), setCell_one w h]
 omit hJ in
/-- what comes behind is out of sight -/
theorem gen_tailj {x : Item} (h : ∀ k', Go.RowKit.Hid (k' = k) → J (G (fr fn T (x :: k') D ro) cs) o) : J (G (fr fn T (x :: k) D ro) cs) o := h k rfl
end

end Go.Proofs.Ytcdhmnefmbcmaaa
