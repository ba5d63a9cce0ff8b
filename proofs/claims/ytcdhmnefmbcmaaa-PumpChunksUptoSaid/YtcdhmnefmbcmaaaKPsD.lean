/-
  A law's call beside what it starts, from its lone contract over the second virtual program; its result lies in a cell; no condition but what each law names.
-/
import Derived.Test.YtcdhmnefmbcmaaaKPsC
namespace Go.Proofs.Ytcdhmnefmbcmaaa
open Go Go.Conc Go.RowKit
theorem load_same {P : Program} {a : Addr} {m : Mode} {w w' : World} {b : Value} (h : (load a m).run P w = .ok b w') : w' = w := by
  unfold load at h
  simp only [Sem.run] at h
  split at h
  · simp only [Result.ok.injEq] at h; exact h.2.symm
  · split at h <;> first | (simp only [Sem.run, Result.ok.injEq] at h; exact h.2.symm) | cases h
theorem loadVar_same {P : Program} {t : TypeId} (hb : P.underlying t = some .bool) {a : Addr} {w w' : World} {b : Value} (h : (loadVar t a).run P w = .ok b w') : w' = w := by
  have e : (isAgg t).run P w = .ok false w := by
    unfold isAgg
    simp only [Sem.run_bind, run_underlying hb]
    rfl
  unfold loadVar at h
  simp only [Sem.run_bind, e, Result.andThen, Bool.false_eq_true, if_false] at h
  exact load_same h
theorem load_taped {P : Program} {a : Addr} {m : Mode} {w : World} {b : Value} (τ : Nat → Question → Nat) (h : (load a m).run P w = .ok b w) : (load a m).run P (w.taped τ) = .ok b (w.taped τ) := by
  unfold load at h ⊢
  simp only [Sem.run] at h ⊢
  rw [show (w.taped τ).cell? a = w.cell? a from rfl, show (w.taped τ).farLoad P a = w.farLoad P a from rfl]
  split at h
  · simp only [Result.ok.injEq] at h; rw [h.1]
  · split at h <;> first | (simp only [Sem.run, Result.ok.injEq] at h; rw [h.1]) | cases h
theorem loadVar_taped {P : Program} {t : TypeId} (hb : P.underlying t = some .bool) {a : Addr} {w : World} {b : Value} (τ : Nat → Question → Nat) (h : (loadVar t a).run P w = .ok b w) : (loadVar t a).run P (w.taped τ) = .ok b (w.taped τ) := by
  have e : ∀ w, (isAgg t).run P w = .ok false w := fun w => by
    unfold isAgg
    simp only [Sem.run_bind, run_underlying hb]
    rfl
  unfold loadVar at h ⊢
  simp only [Sem.run_bind, e, Result.andThen, Bool.false_eq_true, if_false] at h ⊢
  exact load_taped τ h
theorem results_run {P : Program} {fn : Func} {p : Tmp} {t : TypeId} (hres : fn.results = #[.cell p t]) {T : Array Value} {w : World} : (results fn T).run P w = ((asAddr (T.getD p undef)).run P w).andThen fun a w₁ => (loadVar t a).run P w₁ := by
  simp only [results, hres]
  simp [Sem.run_bind, Result.andThen]
theorem results_taped {P : Program} {fn : Func} {p : Tmp} {t : TypeId} (hb : P.underlying t = some .bool) (hres : fn.results = #[.cell p t]) {T : Array Value} {w : World} {b : Value} (τ : Nat → Question → Nat) (h : (results fn T).run P w = .ok b w) : (results fn T).run P (w.taped τ) = .ok b (w.taped τ) := by
  rw [results_run hres] at h ⊢
  unfold asAddr at h ⊢
  split at h <;> first | (simp only [Sem.run_pure, Result.andThen] at h ⊢; exact loadVar_taped hb τ h) | cases h
theorem results_same {P : Program} {fn : Func} {p : Tmp} {t : TypeId} (hb : P.underlying t = some .bool) (hres : fn.results = #[.cell p t]) {T : Array Value} {w w' : World} {b : Value} (h : (results fn T).run P w = .ok b w') : w' = w := by
  rw [results_run hres] at h
  cases hv : (asAddr (T.getD p undef)).run P w with
  | halt x v => rw [hv] at h; cases h
  | ok a v =>
    have : v = w := by
      unfold asAddr at hv
      split at hv <;> first | (simp only [Sem.run_pure, Result.ok.injEq] at hv; exact hv.2.symm) | cases hv
    rw [hv] at h
    subst this
    exact loadVar_same hb h
/-- goroutine 0 returns beside leavers, its result read out of a cell: the claim's run ends well -/
theorem ends_sit2 {P : Program} {Z : Nat → Prop} {gs0 gs : Array Goroutine} {w0 w : World} {sl0 sl : Option (Nat × Nat)} {t0 t : Trace} {f : Frame} {q : Nat → Nat} {N0 : Nat} {x : Value} {Post : Value → World → Prop} (r : runNT P N0 (crowd gs0 w0 sl0) t0 = (.next (crowd gs w sl), t)) (h : Sit P Z gs w t (G f []) q)
    (hst : ∀ dd, ∃ es, stepG P true (G f []) (w.at dd) = .ended (.done x) (w.at dd) es ∧ ∀ e ∈ es, EvL (ShunZ Z) w.heap.size e) (hPost : ∀ dd, Post x (w.at dd)) :
    ∃ N last o w' t', runNT P (N + 1) (crowd gs0 w0 sl0) t0 = (.ended o w', t') ∧ runN P N (crowd gs0 w0 sl0) = .next last ∧ step P last = .ended o w' ∧ Conc.Good P Post last o w' t' := by
  have hG : Goes P true AtRel (fun _ _ _ => False) (AtEnd P (ShunZ Z) w.heap.size Post) 0 (G f []) w := by
    intro w1 hw1
    obtain ⟨dd, rfl⟩ := hw1
    obtain ⟨es, h1, h2⟩ := hst dd
    exact ⟨rfl, x, es, h1, h2, hPost dd⟩
  obtain ⟨N, last, o, w', t', h1, h2, h3, h4⟩ := beside_ends (sl := sl) (fun _ _ _ h => h.elim) h.at0 h.leavers h.past hG
  refine ⟨N0 + N, last, o, w', t', ?_, ?_, h3, h4⟩
  · rw [Nat.add_assoc, runNT_add, r]; exact h1
  · rw [runN_add, runN_of r]; exact h2

theorem ret_ends2 {P : Program} {f : Frame} {fn : Func} {x : Value} {w : World} {u : Array Event} (hm : f.mode = .returning) (hd : f.defers = []) (hf : P.funcs[f.fn]? = some fn) (h2 : (results fn f.tmps).run P w = .ok x w) (h3 : (results fn f.tmps).events P w #[] = u) (hk : f.kind = .normal ∨ f.kind = .deferred) (hi : P.inits.idxOf? f.fn = none) :
    stepG P true (G f []) w = .ended (.done x) w (seen P f.fn u) := by
  rcases hk with hk | hk <;> simp [stepG, unwind, G, hm, hd, hf, h2, h3, doReturn, hk, hi, GStep.after]
/-- where the law's virtual run is to come to -/
def KpC (X : FuncId) (fn : Func) (H : Array Obj) (f : Frame) (ts : List Frame) (v : World) : Prop :=
  ts = [] ∧ f.mode = .returning ∧ f.defers = [] ∧ f.fn = X ∧ (results fn f.tmps).run Tryw.prog v = .ok (.bool true) v ∧ ∀ a, a < H.size → v.heap[a]? = H[a]?

section
variable {X : FuncId} (hX : SW.contains X = true) (hXn : KW.X X = false) {fn : Func} (hfn : Try.prog.funcs[X]? = some fn) (hfnV : Tryw.prog.funcs[X]? = some fn) {r : Tmp} (hres : fn.results = #[.cell r 4]) (hin : Try.prog.inits.idxOf? X = none)
  {args : Array Value} {W : World} {Bs : Nat → Prop} (hBs : ∀ b, Bs b → ∃ p t f, W.heap[b]? = some (.cells p t f)) (hargs : ∀ (i : Nat) (x : Value), args[i]? = some x → flat x = true ∨ (∃ a k c, x = .slice (some a) k c ∧ Bs a.block) ∨ ∃ p, x = .agg p ∧ ∀ v ∈ p, flat v = true)
 include hX hXn hfn hfnV hres hin hBs hargs
/-- A LAW'S CALL. -/
theorem law_calls2 {Post : Value → World → Prop} (hPost : ∀ w' : World, W.heap.size ≤ w'.heap.size → (∀ b, b < W.heap.size → w'.heap[b]? = W.heap[b]?) → w'.tape = W.tape → w'.os = W.os → w'.output = W.output → Post (.bool true) w')
    (hcalls : ∀ (H : Array Obj) (ts : List Value), W.heap.size ≤ H.size → (∀ b, Bs b → ∀ p t f, W.heap[b]? = some (.cells p t f) → ∃ p', H[b]? = some (.cells p' t f) ∧ RowOk KW.F (rid Bs) W.heap.size ts p' p) →
      ∀ t : Nat → Question → Nat, Calls Tryw.prog X args (({ W with heap := H } : World).taped t) fun | .returned v, w' => v = .bool true ∧ ∀ a, a < H.size → w'.heap[a]? = H[a]? | _, _ => False) :
    ∃ M last o w' t', runNT Try.prog (M + 1) (solo (G (Frame.enter Try.prog X args .normal) []) W) #[] = (.ended o w', t') ∧ runN Try.prog M (solo (G (Frame.enter Try.prog X args .normal) []) W) = .next last ∧ step Try.prog last = .ended o w' ∧ Conc.Good Try.prog Post last o w' t' := by
  obtain ⟨ts, H, hW, hHs, _, hrow⟩ := first_world (F := KW.F) Bs W hBs
  obtain ⟨ρ0, hρ⟩ : ∃ ρ0, ρ0 = rtk (rid Bs) W.heap.size ts := ⟨_, rfl⟩
  rw [← hρ] at hW
  have hq0 : ∀ s n a b, ¬ ρ0.q s n a b := fun s n a b h => by rw [hρ] at h; exact h
  have hr0 : ∀ a b, ρ0.r a b ↔ a = b ∧ Bs a := fun a b => by rw [hρ]; exact Iff.rfl
  have ha : RelVs KW.F ρ0 args args := ⟨rfl, fun i v v' h1 h2 => by
    rw [h1] at h2
    obtain rfl := Option.some.inj h2
    rcases hargs i v h1 with h | ⟨a, k, c, rfl, h⟩ | ⟨p, rfl, h⟩
    · exact .flat h
    · exact .slice ⟨(hr0 _ _).2 ⟨rfl, h⟩, rfl, rfl⟩
    · exact .agg rfl fun j y y' h3 h4 => by
        rw [h3] at h4
        obtain rfl := Option.some.inj h4
        exact .flat (h y (Array.mem_of_getElem? h3))⟩
  have hev : Ev Tryw.prog (KpC X fn H) (Frame.enter Tryw.prog X args .normal) [] { W with heap := H } := by
    refine bar (K := KWV) (T := TWV) (N := 0) fitsWV rfl (fun _ => rfl) (fun f ts v t h => ?_) ⟨ρ0.left, ρ0.left_id, relFr_enter (K := KWV) (T := TWV) fitsWV hX rfl (ha.left leW hzW) (.inl rfl), .nil, hW.left leW hzW, fun g hg => absurd hg (by simp)⟩ (fun t ht => ?_)
    · obtain ⟨h1, h2, h3, h4, h5, h6⟩ := h
      refine ⟨h1, h2, h3, h4, ?_, h6⟩
      exact results_taped (P := Tryw.prog) (w := v.taped t) (show Tryw.prog.underlying 4 = some .bool from Try.underlying4) hres v.tape h5
    · obtain ⟨e, w', f, hR, hcomes, hff, hl⟩ := hcalls H ts (by omega) hrow t [door Tryw.prog]
      cases e with
      | panicked chain => exact hR.elim
      | outgrown => exact hR.elim
      | returned v =>
        obtain ⟨rfl, hh⟩ := hR
        obtain ⟨n, hn⟩ := hcomes
        obtain ⟨hm, hd, hk, fn', hf', hr⟩ := hl
        rw [hff, hfnV] at hf'
        obtain rfl := Option.some.inj hf'
        exact ⟨n, f, [], w', hn, rfl, hm, hd, hff, hr, hh⟩
  have hKp : ∀ f ts v, KpC X fn H f ts v → ts = [] := fun f ts v h => h.1
  obtain ⟨N, gs1, w1, sl1, t1, q1, Z1, ρ1, v1, f1, f1', r1, S1, ⟨_, km, kd, kf, kr, kh⟩, hf1, dv⟩ := drive2 hKp (s := ⟨_, _, _⟩) hev ρ0 (Frame.enter Try.prog X args .normal) [] [] W #[G (Frame.enter Try.prog X args .normal) []] none #[] (fun _ => 0) (fun _ => False) (relFr_enter (K := KW) (T := TW) fitsW hX hXn ha (.inl rfl)) .nil hW ⟨fun _ _ _ h => h, fun _ h => h.elim⟩ (sit_first _ _ _)
  have hm' : f1'.mode = .returning := by
    have := hf1.mode
    rw [km] at this
    generalize f1'.mode = m at this
    cases this
    rfl
  have hd' : f1'.defers = [] := by
    have h1 := hf1.defers
    rw [kd] at h1
    generalize f1'.defers = l at h1
    cases h1
    rfl
  have hfn' : f1'.fn = X := hf1.fn.trans kf
  have hk' : f1'.kind = .normal ∨ f1'.kind = .deferred := by rw [hf1.kind.1]; exact hf1.kind.2
  have hold : ∀ b, b < W.heap.size → w1.heap[b]? = W.heap[b]? := fun b hb => by
    by_cases hB : Bs b
    · obtain ⟨p, t, f, hp⟩ := hBs b hB
      rw [hp]
      exact row_det hW dv.rel dv.le hq0 (fun _ s n a b => by rw [dv.q]; exact hq0 s n a b) ((hr0 b b).2 ⟨rfl, hB⟩) (kh b (by omega)) hp
    · exact dv.keep b hb fun a h => hB (by have := (hr0 a b).1 h; rw [← this.1]; exact this.2)
  refine ends_sit2 (sl0 := none) r1 S1 (fun dd => ?_) (fun dd => hPost (w1.at dd) dv.sz hold dv.same.1 dv.same.2.1 dv.same.2.2)
  have hs := (rel_results (T := TW) (N := 0) fn hf1.tmps).sound (dv.rel.pre (v0 := v1) (w0 := w1.at dd) ⟨rfl, rfl⟩ ⟨rfl, rfl⟩) (by rw [show (results fn f1.tmps).run TW.v v1 = _ from kr]; exact fun i hi _ => absurd hi (by simp [rworld]))
  rw [show (results fn f1.tmps).run TW.v v1 = _ from kr] at hs
  obtain ⟨ρ2, b, w2, u, e1, hb, hst⟩ := hs
  obtain rfl := rel_flat_eq hb rfl
  have e1' := e1
  rw [Sem.runT_eq] at e1'
  have h2 : (results fn f1'.tmps).run Try.prog (w1.at dd) = .ok (.bool true) w2 := congrArg Prod.fst e1'
  have h3 : (results fn f1'.tmps).events Try.prog (w1.at dd) #[] = u := congrArg Prod.snd e1'
  obtain rfl : w2 = w1.at dd := results_same (P := Try.prog) Try.underlying4 hres h2
  have hfx : Try.prog.funcs[f1'.fn]? = some fn := by rw [hfn']; exact hfn
  have hix : Try.prog.inits.idxOf? f1'.fn = none := by rw [hfn']; exact hin
  refine ⟨seen Try.prog f1'.fn u, ?_, fun e he => evL_of (ρ := ρ2) (fun a b hab => ?_) (hst.evs e (seen_sub he))⟩
  · exact ret_ends2 hm' hd' hfx h2 h3 hk' hix
  · have h5 := (hst.rel.dom hab).2
    rcases (hst.new a b).1 hab with h | ⟨h6, h7, _⟩
    · exact ⟨dv.apart.r a b h, h5⟩
    · omega
end
end Go.Proofs.Ytcdhmnefmbcmaaa
