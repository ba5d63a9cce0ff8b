/-
  A game that is won alone is won beside goroutines that only leave; no condition but what each law names.
  What a trace keeps while goroutine 0 and one worker both go on: who knows which touches; no condition but what each law names.
  A select of two cases beside a receiver: the machine's steps; no condition but what each law names.
-/
import Derived.Test.YtcdhmnefmbcmaaaJaj
import Derived.Conc.CrowdComm
import Derived.Conc.MarkLaws
import Derived.Conc.FxTrace
namespace Go.Proofs.Ytcdhmnefmbcmaaa
open Go Go.Conc
open Go.ConcN (sumTo upd sumTo_upd upd_ne upd_same)

/-- what a stretch of the goroutine's run leaves on both sides -/
structure Mv (F : Fs) (N : Nat) (ρ ρ' : Rn) (v w v' w' : World) : Prop where
  le : ρ.le ρ'
  rel : RelW F N ρ' v' w'
  sv : v.heap.size ≤ v'.heap.size
  sw : v'.heap.size + w.heap.size = v.heap.size + w'.heap.size
  new : ∀ a b, ρ'.r a b ↔ ρ.r a b ∨ (v.heap.size ≤ a ∧ a < v'.heap.size ∧ a + w.heap.size = b + v.heap.size)
  tok : ρ'.c = ρ.c ∧ ρ'.q = ρ.q
  keepv : ∀ a, a < v.heap.size → (∀ b, ¬ ρ.r a b) → v'.heap[a]? = v.heap[a]?
  keepw : ∀ b, b < w.heap.size → (∀ a, ¬ ρ.r a b) → w'.heap[b]? = w.heap[b]?
  tv : v'.os = v.os ∧ v'.output = v.output
  tw : w'.tape = w.tape ∧ w'.os = w.os ∧ w'.output = w.output

section
variable {F : Fs} {N : Nat} {ρ ρ' ρ'' : Rn} {v w v' w' v'' w'' : World} {u : Array Event}
theorem Mv.refl (h : RelW F N ρ v w) : Mv F N ρ ρ v w v w :=
  ⟨.refl _, h, Nat.le_refl _, rfl, fun a b => ⟨.inl, fun x => x.elim id fun y => by omega⟩, ⟨rfl, rfl⟩, fun _ _ _ => rfl, fun _ _ _ => rfl, ⟨rfl, rfl⟩, ⟨rfl, rfl, rfl⟩⟩
theorem Stp.mv (h : Stp F N ρ ρ' v w v' w' u) : Mv F N ρ ρ' v w v' w' := ⟨h.le, h.rel, h.sv, h.sw, h.new, h.tok, h.keepv, h.keepw, h.tv.2, h.tw⟩
theorem Mv.trans (h : Mv F N ρ ρ' v w v' w') (k : Mv F N ρ' ρ'' v' w' v'' w'') : Mv F N ρ ρ'' v w v'' w'' := by
  refine ⟨h.le.trans k.le, k.rel, Nat.le_trans h.sv k.sv, ?_, fun a b => ?_, ⟨k.tok.1.trans h.tok.1, k.tok.2.trans h.tok.2⟩, fun a ha hn => ?_, fun b hb hn => ?_, ⟨k.tv.1.trans h.tv.1, k.tv.2.trans h.tv.2⟩, ⟨k.tw.1.trans h.tw.1, k.tw.2.1.trans h.tw.2.1, k.tw.2.2.trans h.tw.2.2⟩⟩
  · have := h.sw; have := k.sw; omega
  · rw [k.new, h.new]
    have h1 := h.sw; have h2 := h.sv; have h3 := k.sv
    constructor
    · rintro ((x | x) | x)
      · exact .inl x
      · exact .inr (by omega)
      · exact .inr (by omega)
    · rintro (x | x)
      · exact .inl (.inl x)
      · by_cases hlt : a < v'.heap.size
        · exact .inl (.inr (by omega))
        · exact .inr (by omega)
  · rw [k.keepv a (Nat.lt_of_lt_of_le ha h.sv) fun b hb => ?_, h.keepv a ha hn]
    rw [h.new] at hb
    rcases hb with hb | hb
    · exact hn b hb
    · omega
  · have h1 := h.sw; have h2 := h.sv
    rw [k.keepw b (by omega) fun a ha => ?_, h.keepw b hb hn]
    rw [h.new] at ha
    rcases ha with ha | ha
    · exact hn a ha
    · omega
/-- other tapes, other counts of draws: no matter -/
theorem Mv.pre {v0 w0 : World} (h : Mv F N ρ ρ' v w v' w') (hv : v.heap = v0.heap ∧ v.os = v0.os ∧ v.output = v0.output) (hw : w.heap = w0.heap ∧ w.tape = w0.tape ∧ w.os = w0.os ∧ w.output = w0.output) : Mv F N ρ ρ' v0 w0 v' w' := by
  obtain ⟨h1, h2, h3, h4, h5, h6, h7, h8, h9, h10⟩ := h
  rw [hv.1] at h3 h4 h5 h7
  rw [hw.1] at h4 h5 h8
  rw [hv.2.1, hv.2.2] at h9
  rw [hw.2.1, hw.2.2.1, hw.2.2.2] at h10
  exact ⟨h1, h2, h3, h4, h5, h6, h7, h8, h9, h10⟩
theorem RelW.pre {v0 w0 : World} (h : RelW F N ρ v w) (hv : v.heap = v0.heap ∧ v.os = v0.os) (hw : w.heap = w0.heap ∧ w.os = w0.os) : RelW F N ρ v0 w0 := by
  have h7 := seq_keep (ρ' := ρ) (w₁ := w0) h.seq (by rw [hw.1]; exact Nat.le_refl _) (fun _ _ _ => by rw [hw.1]) (fun _ _ => .inl) rfl
  obtain ⟨h1, h2, h3, h4, h5, h6, _⟩ := h
  rw [hv.1] at h2 h3 h4
  rw [hw.1] at h2 h5
  rw [hw.2, hv.2] at h6
  exact ⟨h1, h2, h3, h4, h5, h6, h7⟩
end

/-- blocks that are shunned -/
def ShunZ (Z : Nat → Prop) : Loc → Prop
  | .cell a => Z a.block
  | .obj b => Z b
  | _ => False

theorem evL_of {ρ : Rn} {Z : Nat → Prop} {B : Nat} (hZ : ∀ a b, ρ.r a b → ¬ Z b ∧ b < B) {e : Event} (h : EvIn ρ e) : EvL (ShunZ Z) B e := by
  obtain ⟨loc, wr, sy⟩ := e
  cases loc with
  | cell a =>
    obtain ⟨b, hb⟩ := h
    obtain ⟨h1, h2⟩ := hZ _ _ hb
    refine ⟨fun x hx hs => ?_, by simp, by simp, ?_⟩
    · simp only [ofEvent_cell0, MemAct.touch?, Option.some.injEq] at hx
      subst hx
      exact absurd hs h1
    · rw [ofEvent_cell0]; exact h2
  | obj c =>
    obtain ⟨⟨b, hb⟩, h3⟩ := h
    obtain ⟨h1, h2⟩ := hZ _ _ hb
    simp only at h3
    have e : MemAct.ofEvent ⟨.obj c, wr, sy⟩ = .access ⟨.obj c, wr, sy⟩ := by
      cases wr <;> cases sy <;> first | rfl | exact absurd ⟨rfl, rfl⟩ h3
    refine ⟨fun x hx hs => ?_, by simp, by simp, ?_⟩
    · rw [e] at hx
      simp only [MemAct.touch?, Option.some.injEq] at hx
      subst hx
      exact absurd hs h1
    · rw [e]; exact h2
  | mark m =>
    cases m with
    | extern f => exact ⟨fun x hx hs => (by simp [MemAct.ofEvent, MemAct.touch?] at hx), by simp, by simp, trivial⟩
    | noRoom => exact ⟨fun x hx hs => (by simp [MemAct.ofEvent, MemAct.touch?] at hx), by simp, by simp, trivial⟩
    | _ => exact h.elim
  | output =>
    refine ⟨fun x hx hs => ?_, by simp, by simp, trivial⟩
    simp only [MemAct.ofEvent, MemAct.touch?, Option.some.injEq] at hx
    subst hx
    exact hs.elim
  | goroutines => exact h.elim

/-- goroutine 0 beside leavers, between two stretches -/
structure Sit (P : Program) (Z : Nat → Prop) (gs : Array Goroutine) (w : World) (t : Trace) (a : Goroutine) (q : Nat → Nat) : Prop where
  at0 : gs[0]? = some a
  leavers : Leavers P t gs q
  past : Past (ShunZ Z) w.heap.size t

/-- what is asked of the relation beside shunned blocks -/
structure Apart (Z : Nat → Prop) (ρ : Rn) (w : World) : Prop where
  r : ∀ a b, ρ.r a b → ¬ Z b
  z : ∀ b, Z b → b < w.heap.size

/-- where a stretch ends: at Kp, or at the door of a function that has another form -/
def Comes1 (K : Kit) (T : Twin) (Kp : Frame → List Frame → World → Prop) (cs' : List Frame) (s : VS) (ρ1 : Rn) (v1 : World) (a1 : Goroutine) : Prop :=
  (∃ f1 ts1 f1' ts1', Kp f1 ts1 v1 ∧ a1 = G f1' (ts1' ++ cs') ∧ RelFr K T ρ1 f1 f1' ∧ All2 (RelFr K T ρ1) ts1 ts1') ∨
  (∃ X p p' k f1 ts1 f1' ts1', K.fb X = true ∧ (K.X X = true ∧ arOk K.fb X p.size = true) ∧ (k = .normal ∨ (k = .deferred ∧ K.fb.d = true)) ∧ NxP T.v Kp ⟨Frame.enter T.v X p k, f1 :: ts1, v1⟩ s ∧ a1 = G (Frame.enter T.P X p' k) (f1' :: (ts1' ++ cs')) ∧ RelVs K.F ρ1 p p' ∧ RelFr K T ρ1 f1 f1' ∧ All2 (RelFr K T ρ1) ts1 ts1')

theorem ofEvents_g {g : Nat} {fn : FuncId} {pos : String} {es : Array Event} {op : MemOp} (h : op ∈ MemOp.ofEvents g fn pos es) : op.g = g := by
  obtain ⟨e, _, rfl⟩ := Go.Conc.mem_ofEvents h
  rfl

/-- goroutine 0's step, the others leavers -/
theorem sit_step {P : Program} {Z : Nat → Prop} {gs : Array Goroutine} {w w' : World} {t : Trace} {a a' : Goroutine} {q : Nat → Nat} {d : Nat} {sl' : Option (Nat × Nat)} {es : Array Event} (h : Sit P Z gs (w.at d) t a q)
    (hs : stepG P true a (w.at d) = .go a' w' es) (hw : w.heap.size ≤ w'.heap.size) (he : ∀ e ∈ es, EvL (ShunZ Z) w'.heap.size e) :
    runT P (crowd gs (w.at d) sl') 0 = (.next (crowd ((gs.map (woken P a a' w')).setIfInBounds 0 a') w' sl'), MemOp.ofEvents 0 a.frame.fn a.frame.place es) ∧
    ((gs.map (woken P a a' w')).setIfInBounds 0 a').size = gs.size ∧ Sit P Z ((gs.map (woken P a a' w')).setIfInBounds 0 a') w' (t ++ MemOp.ofEvents 0 a.frame.fn a.frame.place es) a' q := by
  refine ⟨runT_crowd_go (P := P) (sl := sl') (i := 0) h.at0 (show stepG P (0 == 0) a (w.at d) = _ from hs), by simp, ?_, ?_, ?_⟩
  · have hlt : 0 < gs.size := (Array.getElem?_eq_some_iff.1 h.at0).1
    simp [hlt]
  · refine ⟨fun j x hj hx => ?_, fun j hj => ?_⟩
    · have hne : 0 ≠ j := by omega
      rw [Array.getElem?_setIfInBounds_ne hne, Array.getElem?_map] at hx
      obtain ⟨y, hy, rfl⟩ := Option.map_eq_some_iff.1 hx
      have hq := h.leavers.old j y hj hy
      rw [woken_quitsD hq, Deaf_other t (by omega) _ (fun op hop => ofEvents_g hop)]
      exact hq
    · have hlt : 0 < gs.size := (Array.getElem?_eq_some_iff.1 h.at0).1
      rw [Deaf_other t (g' := 0) (by simp at hj; omega) _ (fun op hop => ofEvents_g hop)]
      exact h.leavers.above j (by simpa using hj)
  · exact (h.past.mono (by exact hw)).own he

/-- a leaver's step -/
theorem sit_leaver {P : Program} {Z : Nat → Prop} {gs : Array Goroutine} {w : World} {t : Trace} {a g : Goroutine} {q : Nat → Nat} {d i : Nat} {sl' : Option (Nat × Nat)} (h : Sit P Z gs w t a q) (ha : a.status = .running) (hpos : 0 < i) (hi : gs[i]? = some g) (hg : g.status = .running) :
    ∃ k g' es, q i = k + 1 ∧ runT P (crowd gs (w.at d) sl') i = (.next (crowd ((gs.map (woken P g g' (w.at d))).setIfInBounds i g') (w.at d) sl'), MemOp.ofEvents i g.frame.fn g.frame.place es) ∧
      ((gs.map (woken P g g' (w.at d))).setIfInBounds i g').size = gs.size ∧ Sit P Z ((gs.map (woken P g g' (w.at d))).setIfInBounds i g') (w.at d) (t ++ MemOp.ofEvents i g.frame.fn g.frame.place es) a (upd q i k) ∧
      sumTo gs.size (upd q i k) < sumTo gs.size q := by
  have hq := h.leavers.old i g hpos hi
  have hi0 : (i == 0) = false := by simp; omega
  have hlt : i < gs.size := (Array.getElem?_eq_some_iff.1 hi).1
  cases hqi : q i with
  | zero => rw [hqi] at hq; rw [hq.1] at hg; cases hg
  | succ k =>
    rw [hqi] at hq
    rcases hq with ⟨hf, _⟩ | ⟨_, g', es, hm, hstp, hq'⟩
    · rw [hf] at hg; cases hg
    refine ⟨k, g', es, rfl, runT_crowd_go (P := P) (sl := sl') (i := i) hi (by rw [hi0]; exact hstp (w.at d)), by simp, ⟨?_, ⟨fun j x hj hx => ?_, fun j hj => ?_⟩, h.past.mute (by omega) hm⟩, ?_⟩
    · have hne : i ≠ 0 := by omega
      rw [Array.getElem?_setIfInBounds_ne hne, Array.getElem?_map, h.at0]
      simp [woken_run ha]
    · by_cases hji : i = j
      · subst hji
        rw [Array.getElem?_setIfInBounds_self_of_lt (by simpa using hlt)] at hx
        obtain rfl := Option.some.inj hx
        rw [upd_same, Deaf_own]
        exact hq'
      · rw [Array.getElem?_setIfInBounds_ne hji, Array.getElem?_map] at hx
        obtain ⟨y, hy, rfl⟩ := Option.map_eq_some_iff.1 hx
        have hqj := h.leavers.old j y hj hy
        rw [woken_quitsD hqj, upd_ne q k (Ne.symm hji), Deaf_other t hji _ (fun op hop => ofEvents_g hop)]
        exact hqj
    · rw [Deaf_other t (g' := i) (by simp at hj; omega) _ (fun op hop => ofEvents_g hop)]
      exact h.leavers.above j (by simpa using hj)
    · have hsum : sumTo gs.size (upd q i k) + (k + 1) = sumTo gs.size q + k := by
        have := sumTo_upd q k id hlt
        simpa [hqi] using this
      omega

/-- whose turn it is -/
theorem sit_pick {P : Program} {Z : Nat → Prop} {gs : Array Goroutine} {w : World} {t : Trace} {a : Goroutine} {q : Nat → Nat} (h : Sit P Z gs w t a q) (ha : a.status = .running) (sl : Option (Nat × Nat)) :
    ∃ i g d sl', gs[i]? = some g ∧ g.status = .running ∧ stepT P (crowd gs w sl) = runT P (crowd gs (w.at d) sl') i := by
  refine crowd_pick (P := P) (w := w) (sl := sl) (fun g hg => ?_) ⟨0, a, h.at0, ha⟩
  obtain ⟨i, hi, rfl⟩ := Array.mem_iff_getElem.1 hg
  rcases Nat.eq_zero_or_pos i with rfl | hpos
  · have h0 := h.at0
    have : gs[0] = a := by simpa [Array.getElem?_eq_getElem hi] using h0
    rw [this]; exact awake_of (.inl ha)
  · exact awake_of ((h.leavers.old i _ hpos (Array.getElem?_eq_getElem hi)).status.elim .inl fun x => .inr (.inr x))

/-- BESIDE LEAVERS. -/
theorem lift {K : Kit} {T : Twin} {N : Nat} {Kp : Frame → List Frame → World → Prop} {Z : Nat → Prop} (hK : Fits K T N) (hzz : ∀ p k f1 ts1 v, p.size ≤ K.fb.m + 2 → ¬ Ev T.v Kp (Frame.enter T.v K.z p k) (f1 :: ts1) v) {f : Frame} {ts : List Frame} {v : World} (hev : Ev T.v Kp f ts v) :
    ∀ {ρ : Rn} {f' : Frame} {ts' cs' : List Frame} {w : World} {gs : Array Goroutine} {sl : Option (Nat × Nat)} {t : Trace} {q : Nat → Nat}, RelFr K T ρ f f' → All2 (RelFr K T ρ) ts ts' → RelW K.F N ρ v w → (∀ g, g < K.G → ρ.r g g) → Apart Z ρ w →
      Sit T.P Z gs w t (G f' (ts' ++ cs')) q →
      ∃ n gs1 w1 sl1 t1 q1 a1 ρ1 v1, runNT T.P n (crowd gs w sl) t = (.next (crowd gs1 w1 sl1), t1) ∧ gs1.size = gs.size ∧ Sit T.P Z gs1 w1 t1 a1 q1 ∧ Mv K.F N ρ ρ1 v w v1 w1 ∧ Comes1 K T Kp cs' ⟨f, ts, v⟩ ρ1 v1 a1 := by
  induction hev with
  | @stop f ts v hk =>
    intro ρ f' ts' cs' w gs sl t q hf hts hW hG hA hS
    exact ⟨0, gs, w, sl, t, q, _, ρ, v, rfl, rfl, hS, .refl hW, .inl ⟨f, ts, f', ts', hk, rfl, hf, hts⟩⟩
  | @step f ts v Fx Sx Wx hstep hev ih =>
    intro ρ f' ts' cs' w gs sl t q
    by_cases hkp : Kp f ts v
    · intro hf hts hW hG hA hS
      exact ⟨0, gs, w, sl, t, q, _, ρ, v, rfl, rfl, hS, .refl hW, .inl ⟨f, ts, f', ts', hkp, rfl, hf, hts⟩⟩
    have key : ∀ (M : Nat) (w : World) (gs : Array Goroutine) (sl : Option (Nat × Nat)) (t : Trace) (q : Nat → Nat), sumTo gs.size q = M → RelFr K T ρ f f' → All2 (RelFr K T ρ) ts ts' → RelW K.F N ρ v w → (∀ g, g < K.G → ρ.r g g) → Apart Z ρ w →
        Sit T.P Z gs w t (G f' (ts' ++ cs')) q →
        ∃ n gs1 w1 sl1 t1 q1 a1 ρ1 v1, runNT T.P n (crowd gs w sl) t = (.next (crowd gs1 w1 sl1), t1) ∧ gs1.size = gs.size ∧ Sit T.P Z gs1 w1 t1 a1 q1 ∧ Mv K.F N ρ ρ1 v w v1 w1 ∧ Comes1 K T Kp cs' ⟨f, ts, v⟩ ρ1 v1 a1 := by
      intro M
      induction M using Nat.strongRecOn with
      | _ M ihM =>
        intro w gs sl t q hM hf hts hW hG hA hS
        obtain ⟨i, g, d, sl', hi, hg, hst⟩ := sit_pick hS (by rfl) sl
        rcases Nat.eq_zero_or_pos i with rfl | hpos
        · -- its own step
          have hg0 : g = G f' (ts' ++ cs') := by have := hS.at0; rw [this] at hi; exact (Option.some.inj hi).symm
          subst hg0
          have hSd : Sit T.P Z gs (w.at d) t (G f' (ts' ++ cs')) q := ⟨hS.at0, hS.leavers, hS.past⟩
          have hWd : ∀ τ : Nat → Question → Nat, RelW K.F N ρ (v.taped τ) (w.at d) := fun τ => hW.pre ⟨rfl, rfl⟩ ⟨rfl, rfl⟩
          let τ : Nat → Question → Nat := fun j => if j < v.drawn then v.tape j else w.tape (d + (j - v.drawn))
          have hτ : ∀ j, j < v.drawn → τ j = v.tape j := fun j hj => by simp only [τ, hj, if_true]
          obtain ⟨es, hs⟩ := hstep τ hτ
          have hsim := sim_step (mn := true) (dr := door T.v) (ds := []) (cs' := cs') hK (hWd τ) hG hf hts (fun g1 v1 es _ i _ q => by
            show τ (v.drawn + i) q = w.tape (d + i) q
            have h1 : ¬ v.drawn + i < v.drawn := by omega
            simp only [τ, h1, if_false]
            congr 2; omega)
          rw [hs] at hsim
          rcases hsim with ⟨f1, ts1, f1', ts1', ρ1, w1, es', h1, h2, h3, h4, h5⟩ | ⟨X, p, p', k, f1, ts1, f1', ts1', ρ1, w1, es', hX, hX', h1, h2, h3, h4, h5, h6, hk⟩ | ⟨c, h1, _⟩ | ⟨p, k, f1, ts1, _, hp, _, h1⟩
          · simp only [G, Goroutine.mk.injEq] at h1
            obtain ⟨r1, r2, _⟩ := h1
            have r2 := List.append_cancel_right r2
            have hsz : w.heap.size ≤ w1.heap.size := by have a1 := h5.sv; have a2 := h5.sw; have e1 : (v.taped τ).heap.size = v.heap.size := rfl; have e2 : (w.at d).heap.size = w.heap.size := rfl; omega
            have hmv : Mv K.F N ρ ρ1 v w (Wx τ) w1 := h5.mv.pre ⟨rfl, rfl, rfl⟩ ⟨rfl, rfl, rfl, rfl⟩
            have hr1 : ∀ a b, ρ1.r a b → ¬ Z b ∧ b < w1.heap.size := fun a b hab => ⟨fun hz => by
              rcases (hmv.new a b).1 hab with h | h
              · exact hA.r _ _ h hz
              · have := hA.z _ hz; have := hmv.sw; omega, (h5.rel.dom hab).2⟩
            obtain ⟨hr, hz, hS'⟩ := sit_step (sl' := sl') hSd h2 hsz (fun e he => evL_of hr1 (h5.evs e he))
            have hA' : Apart Z ρ1 w1 := ⟨fun a b h => (hr1 a b h).1, fun b hb => Nat.lt_of_lt_of_le (hA.z b hb) hsz⟩
            obtain ⟨n, gs1, w2, sl1, t1, q1, a1, ρ2, v2, g1, g2, g3, g4, g5⟩ := ih τ hτ (sl := sl') (by rw [r1]; exact h3) (by rw [r2]; exact h4) h5.rel (fun g hg => h5.le.r _ _ (hG g hg)) hA' hS'
            have hnx : Nx T.v Kp ⟨Fx τ, Sx τ, Wx τ⟩ ⟨f, ts, v⟩ := ⟨hkp, τ, hτ, _, hs⟩
            refine ⟨n + 1, gs1, w2, sl1, t1, q1, a1, ρ2, v2, by simp only [runNT, hst, hr]; exact g1, g2.trans hz, g3, hmv.trans g4, ?_⟩
            rcases g5 with g5 | ⟨X, p, p', k, f1, ts1, f1', ts1', u1, u2, u3, u4, u5⟩
            · exact .inl g5
            · exact .inr ⟨X, p, p', k, f1, ts1, f1', ts1', u1, u2, u3, .cons hnx u4, u5⟩
          · simp only [G, Goroutine.mk.injEq] at h1
            obtain ⟨r1, r2, _⟩ := h1
            rw [← List.cons_append] at r2
            have r2 := List.append_cancel_right r2
            have hsz : w.heap.size ≤ w1.heap.size := by have a1 := h6.sv; have a2 := h6.sw; have e1 : (v.taped τ).heap.size = v.heap.size := rfl; have e2 : (w.at d).heap.size = w.heap.size := rfl; omega
            have hmv : Mv K.F N ρ ρ1 v w (Wx τ) w1 := h6.mv.pre ⟨rfl, rfl, rfl⟩ ⟨rfl, rfl, rfl, rfl⟩
            have hr1 : ∀ a b, ρ1.r a b → ¬ Z b ∧ b < w1.heap.size := fun a b hab => ⟨fun hz => by
              rcases (hmv.new a b).1 hab with h | h
              · exact hA.r _ _ h hz
              · have := hA.z _ hz; have := hmv.sw; omega, (h6.rel.dom hab).2⟩
            obtain ⟨hr, hz, hS'⟩ := sit_step (sl' := sl') hSd h2 hsz (fun e he => evL_of hr1 (h6.evs e he))
            refine ⟨1, _, w1, sl', _, q, _, ρ1, Wx τ, by simp only [runNT, hst, hr], hz, hS', hmv, .inr ⟨X, p, p', k, f1, ts1, f1', ts1', hX, hX', hk, .one ⟨hkp, τ, hτ, es, ?_⟩, rfl, h3, h4, h5⟩⟩
            show stepG T.v true (G f (ts ++ [door T.v])) (v.taped τ) = _
            rw [hs, r1, r2]
          · simp only [G, Goroutine.mk.injEq] at h1
            have := h1.2.1
            simp at this
          · exfalso
            simp only [G, Goroutine.mk.injEq] at h1
            obtain ⟨r1, r2, _⟩ := h1
            rw [← List.cons_append] at r2
            have r2 := List.append_cancel_right r2
            have := hev τ hτ
            rw [r1, r2] at this
            exact hzz _ _ _ _ _ hp this
        · obtain ⟨k, g', es, hq, hr, hz, hS', hlt⟩ := sit_leaver (d := d) (sl' := sl') hS (by rfl) hpos hi hg
          obtain ⟨n, gs1, w2, sl1, t1, q1, a1, ρ2, v2, g1, g2, g3, g4, g5⟩ := ihM _ (by rw [hz, ← hM]; exact hlt) (w.at d) _ sl' _ _ rfl hf hts (hW.pre ⟨rfl, rfl⟩ ⟨rfl, rfl⟩) hG ⟨hA.r, hA.z⟩ hS'
          exact ⟨n + 1, gs1, w2, sl1, t1, q1, a1, ρ2, v2, by simp only [runNT, hst, hr]; exact g1, g2.trans hz, g3, g4.pre ⟨rfl, rfl, rfl⟩ ⟨rfl, rfl, rfl, rfl⟩, g5⟩
    intro hf hts hW hG hA hS
    exact key _ w gs sl t q rfl hf hts hW hG hA hS

end Go.Proofs.Ytcdhmnefmbcmaaa

namespace Go.Proofs.Ytcdhmnefmbcmaaa
open Go Go.Conc

def _root_.Go.Loc.blk : Loc → Option Nat
  | .cell a => some a.block
  | .obj b => some b
  | _ => none

theorem mem_blk {l : Loc} (h : l.isMemory = true) : ∃ b, l.blk = some b := by
  cases l <;> first | exact ⟨_, rfl⟩ | cases h

/-- OW: the worker's blocks; SR: nobody writes them; SY: touched by whoever, never plainly; Z: shunned. -/
structure TI (j : Nat) (SY SR OW Z : Nat → Prop) (t : Trace) : Prop where
  clean : ∀ said, ¬ Race said t
  ow : ∀ i x b, touchAt t i = some x → x.loc.blk = some b → OW b → Knows t j i
  sr : ∀ i x b, touchAt t i = some x → x.loc.blk = some b → SR b → x.write = true → Knows t 0 i ∧ Knows t j i
  sy : ∀ i x b, touchAt t i = some x → x.loc.blk = some b → SY b → (x.kind ≠ .plain ∧ (x.kind = .said → t.g? i = some 0)) ∨ (Knows t 0 i ∧ Knows t j i)
  main : ∀ i x b, touchAt t i = some x → x.loc.blk = some b → ¬ OW b → ¬ SR b → ¬ SY b → ¬ Z b → Knows t 0 i
  all : ∀ i x, touchAt t i = some x → x.loc.isMemory = true → Knows t 0 i ∨ t.g? i = some j ∨ (ShunZ Z x.loc ∧ x.kind = .atomic)

/-- what goroutine 0 may touch -/
def Ok0 (SY SR OW Z : Nat → Prop) (x : Touch) : Prop :=
  ∀ b, x.loc.blk = some b → (¬ OW b ∧ ¬ SR b ∧ ¬ SY b ∧ ¬ Z b) ∨ (SR b ∧ ¬ OW b ∧ ¬ SY b ∧ x.write = false) ∨ (SY b ∧ ¬ OW b ∧ ¬ SR b ∧ x.kind ≠ .plain)
/-- what the worker may touch -/
def OkJ (SY SR OW : Nat → Prop) (x : Touch) : Prop :=
  ∃ b, x.loc.blk = some b ∧ ((OW b ∧ ¬ SR b ∧ ¬ SY b) ∨ (SR b ∧ ¬ OW b ∧ ¬ SY b ∧ x.write = false) ∨ (SY b ∧ ¬ OW b ∧ ¬ SR b ∧ x.kind = .atomic))

section
variable {j : Nat} {SY SR OW Z : Nat → Prop} {t u : Trace}

theorem g?_of {i : Nat} {op : MemOp} (h : t[i]? = some op) : t.g? i = some op.g := by simp [Trace.g?, h]

theorem knows_g {i g : Nat} (h : t.g? i = some g) : Knows t g i := by
  unfold Trace.g? at h
  obtain ⟨z, hz, rfl⟩ := Option.map_eq_some_iff.1 h
  exact knows_own hz

theorem touch_cases {i : Nat} {x : Touch} (h : touchAt (t ++ u) i = some x) : (i < t.size ∧ touchAt t i = some x) ∨ ∃ op ∈ u, (t ++ u)[i]? = some op ∧ op.act.touch? = some x := by
  obtain ⟨op, hop, hx⟩ := touch_of h
  rcases getElem?_append_cases hop with ⟨hi, h'⟩ | ⟨_, hu⟩
  · exact .inl ⟨hi, by rw [touchAt_of h']; exact hx⟩
  · exact .inr ⟨op, hu, hop, hx⟩

theorem TI.app0 (h : TI j SY SR OW Z t) (hu : ∀ op ∈ u, op.g = 0) (hx : ∀ op ∈ u, ∀ x, op.act.touch? = some x → Ok0 SY SR OW Z x) : TI j SY SR OW Z (t ++ u) := by
  have own : ∀ {i : Nat} {op : MemOp}, op ∈ u → (t ++ u)[i]? = some op → Knows (t ++ u) 0 i := fun {i op} h1 h2 => by
    have := knows_own h2; rwa [hu op h1] at this
  refine ⟨fun said => noRace_append (h.clean said) hu fun i a ha op hop b hb hc => ?_, fun i x b ht hb ho => ?_, fun i x b ht hb ho hw => ?_, fun i x b ht hb ho => ?_, fun i x b ht hb h1 h2 h3 h4 => ?_, fun i x ht hm => ?_⟩
  · obtain ⟨hl, hm, hw, hk⟩ := hc
    obtain ⟨bb, hbb⟩ := mem_blk hm
    rcases hx op hop b hb bb (by rw [← hl]; exact hbb) with ⟨h1, h2, h3, h4⟩ | ⟨h1, _, _, h2⟩ | ⟨h1, _, _, h2⟩
    · exact h.main i a bb ha hbb h1 h2 h3 h4
    · rw [h2] at hw; simp at hw; exact (h.sr i a bb ha hbb h1 hw).1
    · rcases h.sy i a bb ha hbb h1 with ⟨h3, h4⟩ | h5
      rotate_left
      · exact h5.1
      rcases hk with hk | hk | ⟨_, hk, _⟩
      · exact absurd hk h3
      · exact absurd hk h2
      · exact knows_g (h4 hk)
  · rcases touch_cases ht with ⟨_, h'⟩ | ⟨op, hop, hg, hop'⟩
    · exact (h.ow i x b h' hb ho).app u
    · rcases hx op hop x hop' b hb with ⟨h1, _⟩ | ⟨_, h1, _⟩ | ⟨_, h1, _⟩ <;> exact absurd ho h1
  · rcases touch_cases ht with ⟨_, h'⟩ | ⟨op, hop, hg, hop'⟩
    · exact ⟨(h.sr i x b h' hb ho hw).1.app u, (h.sr i x b h' hb ho hw).2.app u⟩
    · rcases hx op hop x hop' b hb with ⟨_, h1, _⟩ | ⟨_, _, _, h1⟩ | ⟨_, _, h1, _⟩
      · exact absurd ho h1
      · rw [hw] at h1; cases h1
      · exact absurd ho h1
  · rcases touch_cases ht with ⟨hi, h'⟩ | ⟨op, hop, hg, hop'⟩
    · rw [g?_old hi]; exact (h.sy i x b h' hb ho).imp id fun y => ⟨y.1.app u, y.2.app u⟩
    · rcases hx op hop x hop' b hb with ⟨_, _, h1, _⟩ | ⟨_, _, h1, _⟩ | ⟨_, _, _, h1⟩
      · exact absurd ho h1
      · exact absurd ho h1
      · exact .inl ⟨h1, fun _ => by rw [g?_of hg, hu op hop]⟩
  · rcases touch_cases ht with ⟨_, h'⟩ | ⟨op, hop, hg, hop'⟩
    · exact (h.main i x b h' hb h1 h2 h3 h4).app u
    · exact own hop hg
  · rcases touch_cases ht with ⟨hi, h'⟩ | ⟨op, hop, hg, hop'⟩
    · rw [g?_old hi]; exact (h.all i x h' hm).imp (·.app u) id
    · exact .inl (own hop hg)

theorem TI.appJ (h : TI j SY SR OW Z t) (hu : ∀ op ∈ u, op.g = j) (hx : ∀ op ∈ u, ∀ x, op.act.touch? = some x → x.loc.isMemory = true → OkJ SY SR OW x) (_ : ∀ b, OW b → ¬ Z b) : TI j SY SR OW Z (t ++ u) := by
  have own : ∀ {i : Nat} {op : MemOp}, op ∈ u → (t ++ u)[i]? = some op → Knows (t ++ u) j i := fun {i op} h1 h2 => by
    have := knows_own h2; rwa [hu op h1] at this
  have memOf : ∀ {x : Touch} {b : Nat}, x.loc.blk = some b → x.loc.isMemory = true := fun {x b} hb => by
    cases hl : x.loc <;> rw [hl] at hb <;> first | rfl | cases hb
  refine ⟨fun said => noRace_append (h.clean said) hu fun i a ha op hop b hb hc => ?_, fun i x b ht hb ho => ?_, fun i x b ht hb ho hw => ?_, fun i x b ht hb ho => ?_, fun i x b ht hb h1 h2 h3 h4 => ?_, fun i x ht hm => ?_⟩
  · obtain ⟨hl, hm, hw, hk⟩ := hc
    obtain ⟨bb, hbb, hcase⟩ := hx op hop b hb (by rw [← hl]; exact hm)
    rw [← hl] at hbb
    rcases hcase with ⟨h1, h2, h3⟩ | ⟨h1, _, _, h2⟩ | ⟨h1, _, _, h2⟩
    · exact h.ow i a bb ha hbb h1
    · rw [h2] at hw; simp at hw; exact (h.sr i a bb ha hbb h1 hw).2
    · rcases h.sy i a bb ha hbb h1 with ⟨h3, h4⟩ | h5
      rotate_left
      · exact h5.2
      rcases hk with hk | hk | ⟨_, _, hk⟩
      · exact absurd hk h3
      · rw [h2] at hk; cases hk
      · rw [h2] at hk; cases hk
  · rcases touch_cases ht with ⟨_, h'⟩ | ⟨op, hop, hg, hop'⟩
    · exact (h.ow i x b h' hb ho).app u
    · exact own hop hg
  · rcases touch_cases ht with ⟨_, h'⟩ | ⟨op, hop, hg, hop'⟩
    · exact ⟨(h.sr i x b h' hb ho hw).1.app u, (h.sr i x b h' hb ho hw).2.app u⟩
    · obtain ⟨bb, hbb, hcase⟩ := hx op hop x hop' (memOf hb)
      rw [hb] at hbb; cases hbb
      rcases hcase with ⟨_, h1, _⟩ | ⟨_, _, _, h1⟩ | ⟨_, _, h1, _⟩
      · exact absurd ho h1
      · rw [hw] at h1; cases h1
      · exact absurd ho h1
  · rcases touch_cases ht with ⟨hi, h'⟩ | ⟨op, hop, hg, hop'⟩
    · rw [g?_old hi]; exact (h.sy i x b h' hb ho).imp id fun y => ⟨y.1.app u, y.2.app u⟩
    · obtain ⟨bb, hbb, hcase⟩ := hx op hop x hop' (memOf hb)
      rw [hb] at hbb; cases hbb
      rcases hcase with ⟨_, _, h1⟩ | ⟨_, _, h1, _⟩ | ⟨_, _, _, h1⟩
      · exact absurd ho h1
      · exact absurd ho h1
      · rw [h1]; exact .inl ⟨by simp, by simp⟩
  · rcases touch_cases ht with ⟨_, h'⟩ | ⟨op, hop, hg, hop'⟩
    · exact (h.main i x b h' hb h1 h2 h3 h4).app u
    · obtain ⟨bb, hbb, hcase⟩ := hx op hop x hop' (memOf hb)
      rw [hb] at hbb; cases hbb
      rcases hcase with ⟨q, _⟩ | ⟨q, _⟩ | ⟨q, _⟩
      · exact absurd q h1
      · exact absurd q h2
      · exact absurd q h3
  · rcases touch_cases ht with ⟨hi, h'⟩ | ⟨op, hop, hg, hop'⟩
    · rw [g?_old hi]; exact (h.all i x h' hm).imp (·.app u) id
    · exact .inr (.inl (by rw [g?_of hg, hu op hop]))

/-- operations of one goroutine that touch nothing -/
theorem TI.mute (h : TI j SY SR OW Z t) {g : Nat} (hu : ∀ op ∈ u, op.g = g) (hn : ∀ op ∈ u, op.act.touch? = none) : TI j SY SR OW Z (t ++ u) := by
  have old : ∀ {i : Nat} {x : Touch}, touchAt (t ++ u) i = some x → i < t.size ∧ touchAt t i = some x := fun {i x} ht => by
    rcases touch_cases ht with h' | ⟨op, hop, _, hop'⟩
    · exact h'
    · rw [hn op hop] at hop'; cases hop'
  refine ⟨fun said => noRace_append (h.clean said) hu fun i a ha op hop b hb hc => (by rw [hn op hop] at hb; cases hb), fun i x b ht hb ho => (h.ow i x b (old ht).2 hb ho).app u, fun i x b ht hb ho hw => ?_, fun i x b ht hb ho => ?_, fun i x b ht hb h1 h2 h3 h4 => (h.main i x b (old ht).2 hb h1 h2 h3 h4).app u, fun i x ht hm => ?_⟩
  · have := h.sr i x b (old ht).2 hb ho hw; exact ⟨this.1.app u, this.2.app u⟩
  · rw [g?_old (old ht).1]; exact (h.sy i x b (old ht).2 hb ho).imp id fun y => ⟨y.1.app u, y.2.app u⟩
  · rw [g?_old (old ht).1]; exact (h.all i x (old ht).2 hm).imp (·.app u) id

/-- blocks pass from the worker to goroutine 0 -/
theorem TI.pass {OW' : Nat → Prop} (h : TI j SY SR OW Z t) (hk : ∀ i x b, touchAt t i = some x → x.loc.blk = some b → OW b → Knows t 0 i) (hs : ∀ b, OW' b → OW b) : TI j SY SR OW' Z t :=
  ⟨h.clean, fun i x b ht hb ho => h.ow i x b ht hb (hs b ho), h.sr, h.sy, fun i x b ht hb _ h2 h3 h4 => by
    by_cases ho : OW b
    · exact hk i x b ht hb ho
    · exact h.main i x b ht hb ho h2 h3 h4, h.all⟩

/-- new blocks of the worker's -/
theorem TI.new {OW' : Nat → Prop} {B : Nat} (h : TI j SY SR OW Z t) (hl : ∀ op ∈ t, op.act.low B) (hs : ∀ b, OW' b ↔ OW b ∨ (B ≤ b ∧ OW' b)) : TI j SY SR OW' Z t := by
  have low : ∀ {i : Nat} {x : Touch} {b : Nat}, touchAt t i = some x → x.loc.blk = some b → b < B := fun {i x b} ht hb => by
    obtain ⟨op, hop, hx⟩ := touch_of ht
    have h1 := hl op (mem_of_getElem? hop)
    cases ha : op.act with
    | access e =>
      rw [ha] at h1 hx
      simp only [MemAct.touch?, Option.some.injEq] at hx
      subst hx
      obtain ⟨l, w, s⟩ := e
      cases l <;> simp_all [Loc.blk, MemAct.low, Loc.low]
    | mark m =>
      rw [ha] at h1 hx
      cases m <;> simp [MemAct.touch?] at hx
      · subst hx; simp only [Loc.blk, Option.some.injEq] at hb; subst hb; exact h1
      · subst hx; simp only [Loc.blk, Option.some.injEq] at hb; subst hb; exact h1
    | _ => rw [ha] at hx; simp [MemAct.touch?] at hx
  refine ⟨h.clean, fun i x b ht hb ho => ?_, h.sr, h.sy, fun i x b ht hb h1 => h.main i x b ht hb fun ho => h1 ((hs b).2 (.inl ho)), h.all⟩
  rcases (hs b).1 ho with h1 | h1
  · exact h.ow i x b ht hb h1
  · have := low ht hb; omega
end

end Go.Proofs.Ytcdhmnefmbcmaaa

namespace Go.Proofs.Ytcdhmnefmbcmaaa
open Go Go.Conc

/-- what the worker offers: a chunk, or to hear 'stop' -/
def sel2 (bc bs : Nat) (v z1 z2 : Value) : Array CommCase := #[scase bc v z1, rcase bs z2]

section
variable {P : Program} {gs : Array Goroutine} {w w₁ : World} {sl : Option (Nat × Nat)} {i j : Nat} {g g₂ gj : Goroutine} {es : Array Event} {shj : CommShape}
  {bc bs s r s2 r2 : Nat} {v z z1 z2 : Value} {tm : Bool}

theorem offersAt_sel2 (h : bc ≠ bs) (g : Goroutine) (sh : CommShape) : offersAt (parked g (sel2 bc bs v z1 z2) sh) bc true = [0] ∧ offersAt (parked g (sel2 bc bs v z1 z2) sh) bc false = [] ∧ offersAt (parked g (sel2 bc bs v z1 z2) sh) bs true = [] := by
  refine ⟨?_, ?_, ?_⟩ <;> simp [offersAt, parked, sel2, scase, rcase, h, Ne.symm h]

/-- the select finds the receiver parked -/
theorem sel_meets (_ : bc ≠ bs) (hi : gs[i]? = some g) (h : stepG P (i == 0) g w = .comm g₂ (sel2 bc bs v z1 z2) true .select w₁ es) (hc : w₁.heap[bc]? = some (.chan 0 #[] false s r tm)) (hs : w₁.heap[bs]? = some (.chan 0 #[] false s2 r2 tm))
    (hij : j ≠ i) (hj : gs[j]? = some (parked gj #[rcase bc z] shj)) (hp : partners (gs.setIfInBounds i ph) bc false = [(j, 0)]) (hp2 : partners (gs.setIfInBounds i ph) bs true = []) :
    runT P (crowd gs w sl) i = (.next (crowd ((gs.setIfInBounds j (gj.finishComm P #[rcase bc z] shj 0 v true)).setIfInBounds i (g₂.finishComm P (sel2 bc bs v z1 z2) .select 0 undef false)) (w₁.setChan bc 0 #[] false (s + 1) (r + 1) tm) sl),
      MemOp.ofEvents i g.frame.fn g.frame.place es ++ #[{ g := i, fn := g₂.frame.fn, pos := g₂.frame.place, act := .send bc s }, { g := j, fn := gj.frame.fn, pos := gj.frame.place, act := .recv bc r 0 },
        { g := i, fn := g₂.frame.fn, pos := g₂.frame.place, act := .sendDone bc s }, { g := j, fn := gj.frame.fn, pos := gj.frame.place, act := .recvDone bc r }]) := by
  rw [runT_crowd_comm hi h]
  have hj' := stand_get (i := i) hij hj
  have hfp := finishPartner_at P (gs.setIfInBounds i ph) hj' (cs := #[rcase bc z]) (sh := shj) rfl 0 v
  have hgd : (gs.setIfInBounds i ph).getD j default = parked gj #[rcase bc z] shj := by rw [Array.getD_eq_getD_getElem?, hj']; rfl
  simp [communicate, ways, sel2, scase, rcase, hc, hs, hp, hp2, choose, Sem.run, Question.forced, bind, Sem.bind, pure, World.setChan, crowd, set_stand2, parked] at hfp hgd ⊢
  simp [hfp, hgd, set_stand2]
  rfl

/-- a receive finds the select parked -/
theorem recv_meets_sel (_ : bc ≠ bs) (hi : gs[i]? = some g) (h : stepG P (i == 0) g w = .comm g₂ #[rcase bc z] true (.recv true) w₁ es) (hc : w₁.heap[bc]? = some (.chan 0 #[] false s r tm))
    (hij : j ≠ i) (hj : gs[j]? = some (parked gj (sel2 bc bs v z1 z2) .select)) (hp : partners (gs.setIfInBounds i ph) bc true = [(j, 0)]) :
    runT P (crowd gs w sl) i = (.next (crowd ((gs.setIfInBounds j (gj.finishComm P (sel2 bc bs v z1 z2) .select 0 undef false)).setIfInBounds i (g₂.finishComm P #[rcase bc z] (.recv true) 0 v true)) (w₁.setChan bc 0 #[] false (s + 1) (r + 1) tm) sl),
      MemOp.ofEvents i g.frame.fn g.frame.place es ++ #[{ g := j, fn := gj.frame.fn, pos := gj.frame.place, act := .send bc s }, { g := i, fn := g₂.frame.fn, pos := g₂.frame.place, act := .recv bc r 0 },
        { g := j, fn := gj.frame.fn, pos := gj.frame.place, act := .sendDone bc s }, { g := i, fn := g₂.frame.fn, pos := g₂.frame.place, act := .recvDone bc r }]) := by
  rw [runT_crowd_comm hi h]
  have hj' := stand_get (i := i) hij hj
  have hfp := finishPartner_at P (gs.setIfInBounds i ph) hj' (cs := sel2 bc bs v z1 z2) (sh := .select) rfl 0 undef
  have hgd : (gs.setIfInBounds i ph).getD j default = parked gj (sel2 bc bs v z1 z2) .select := by rw [Array.getD_eq_getD_getElem?, hj']; rfl
  have hov : offeredValue (gs.setIfInBounds i ph) j 0 = v := by simp [offeredValue, hj', parked, sel2, scase]
  simp [communicate, ways, sel2, scase, rcase, hc, hp, choose, Sem.run, Question.forced, bind, Sem.bind, pure, World.setChan, crowd, set_stand2, parked] at hfp hgd hov ⊢
  simp [hfp, hgd, hov, set_stand2]
  rfl

/-- the select hears 'stop' -/
theorem sel_stopped (_ : bc ≠ bs) (hi : gs[i]? = some g) (h : stepG P (i == 0) g w = .comm g₂ (sel2 bc bs v z1 z2) true .select w₁ es) (hc : w₁.heap[bc]? = some (.chan 0 #[] false s r tm)) (hs : w₁.heap[bs]? = some (.chan 0 #[] true s2 r2 tm))
    (hp : partners (gs.setIfInBounds i ph) bc false = []) (hp2 : partners (gs.setIfInBounds i ph) bs true = []) :
    runT P (crowd gs w sl) i = (.next (crowd (gs.setIfInBounds i (g₂.finishComm P (sel2 bc bs v z1 z2) .select 1 z2 false)) w₁ sl),
      MemOp.ofEvents i g.frame.fn g.frame.place es ++ #[{ g := i, fn := g₂.frame.fn, pos := g₂.frame.place, act := .recvClosed bs }]) := by
  rw [runT_crowd_comm hi h]
  simp [communicate, ways, sel2, scase, rcase, hc, hs, hp, hp2, choose, Sem.run, Question.forced, bind, Sem.bind, pure, crowd]

/-- the select waits -/
theorem sel_waits (_ : bc ≠ bs) (hi : gs[i]? = some g) (h : stepG P (i == 0) g w = .comm g₂ (sel2 bc bs v z1 z2) true .select w₁ es) (hc : w₁.heap[bc]? = some (.chan 0 #[] false s r tm)) (hs : w₁.heap[bs]? = some (.chan 0 #[] false s2 r2 tm))
    (hp : partners (gs.setIfInBounds i ph) bc false = []) (hp2 : partners (gs.setIfInBounds i ph) bs true = []) :
    runT P (crowd gs w sl) i = (.next (crowd (gs.setIfInBounds i (parked g₂ (sel2 bc bs v z1 z2) .select)) w₁ sl), MemOp.ofEvents i g.frame.fn g.frame.place es) := by
  refine crowd_waits hi h fun cc hcc => ?_
  simp only [sel2, List.mem_toArray, List.mem_cons, List.not_mem_nil, or_false] at hcc
  rcases hcc with rfl | rfl
  · exact ⟨made_send v z1 hc, by simp [ways, scase, hc, hp]⟩
  · exact ⟨made_recv z2 hs, by simp [ways, rcase, hs, hp2]⟩
/-- a receive waits -/
theorem recv_waits (hi : gs[i]? = some g) (h : stepG P (i == 0) g w = .comm g₂ #[rcase bc z] true (.recv true) w₁ es) (hc : w₁.heap[bc]? = some (.chan 0 #[] false s r tm)) (hp : partners (gs.setIfInBounds i ph) bc true = []) :
    runT P (crowd gs w sl) i = (.next (crowd (gs.setIfInBounds i (parked g₂ #[rcase bc z] (.recv true))) w₁ sl), MemOp.ofEvents i g.frame.fn g.frame.place es) := by
  refine crowd_waits hi h fun cc hcc => ?_
  simp only [List.mem_toArray, List.mem_cons, List.not_mem_nil, or_false] at hcc
  subst hcc
  exact ⟨made_recv z hc, by simp [ways, rcase, hc, hp]⟩

/-- who sleeps at an open select stays asleep; a closed 'stop' wakes it -/
theorem again_sel_open (hc : w.heap[bc]? = some (.chan 0 #[] false s r tm)) (hs : w.heap[bs]? = some (.chan 0 #[] false s2 r2 tm)) (sh : CommShape) : (parked g (sel2 bc bs v z1 z2) sh).again w = parked g (sel2 bc bs v z1 z2) sh := by
  simp [Goroutine.again, parked, sel2, scase, rcase, hc, hs]
theorem again_sel_stop (hc : w.heap[bc]? = some (.chan 0 #[] false s r tm)) (hs : w.heap[bs]? = some (.chan 0 #[] true s2 r2 tm)) (sh : CommShape) : (parked g (sel2 bc bs v z1 z2) sh).again w = { parked g (sel2 bc bs v z1 z2) sh with status := .running } := by
  simp [Goroutine.again, parked, sel2, scase, rcase, hc, hs]
end

end Go.Proofs.Ytcdhmnefmbcmaaa
