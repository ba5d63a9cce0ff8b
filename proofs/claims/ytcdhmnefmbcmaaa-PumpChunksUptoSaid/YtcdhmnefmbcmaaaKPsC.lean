/-
  THE SECOND DRIVER: a game over the second virtual program is won beside goroutines that only leave; no condition but what each law names.
-/
import Derived.Test.YtcdhmnefmbcmaaaKPsA
import Derived.Test.YtcdhmnefmbcmaaaKPsB
namespace Go.Proofs.Ytcdhmnefmbcmaaa
open Go Go.Conc Go.RowKit
section
variable {Kp : Frame → List Frame → World → Prop} (hKp : ∀ f ts v, Kp f ts v → ts = [])
 include hKp
/-- the virtual speaks, from its call to its return -/
theorem nx_speaks {f1 : Frame} {ts : List Frame} {v : World} : NxP Tryw.prog Kp ⟨f1.finish (.bool true), ts, v⟩ ⟨Frame.enter Tryw.prog 11 #[] .normal, f1 :: ts, v⟩ := by
  have hno : ∀ f g ts v, ¬ Kp f (g :: ts) v := fun f g ts v h => by cases hKp _ _ _ h
  have hvr : VrP Tryw.prog Kp (fun s' => s' = ⟨f1.finish (.bool true), ts, v⟩) ⟨Frame.enter Tryw.prog 11 #[] .normal, f1 :: ts, v⟩ := by
    rw [enter_fr Tryw.func11 rfl]
    simp only [List.size_toArray, List.length_cons, List.length_nil, Nat.reduceAdd, Nat.reduceSub, Array.replicate_succ, Array.replicate_zero, List.push_toArray, List.append_toArray, List.nil_append, List.cons_append]
    refine vrp_at (hno _ _ _ _) s_seq ?_
    refine vr_q hKp (fun w => s_region) ?_
    simp only [List.size_toArray, List.length_cons, List.length_nil, Nat.reduceAdd, Nat.zero_add, List.range, List.range.loop]
    refine vr_v hKp (.bool true) rfl rfl (fun w => rfl) ?_
    simp only [put]; walk_nrm
    refine vr_q hKp (fun w => s_region_end) ?_
    refine vr_q hKp (fun w => s_ret) ?_
    exact vr_leave hKp Tryw.func11 (fun w => res_tmp (t := 0) rfl w) (.fin rfl)
  obtain ⟨s', rfl, h⟩ := hvr
  exact h
end
theorem RelW.older {F : Fs} {N : Nat} {ρ : Rn} {v w w1 : World} (h : RelW F N ρ v w) {Z Z1 : Nat → Prop} (l : Lf Z w Z1 w1) : RelW F N ρ v w1 := h.kept l.keep l.sz l.same.2.1

/-- what a stretch of goroutine 0's leaves, by the second kit -/
structure Dw (Z : Nat → Prop) (ρ : Rn) (w : World) (Z' : Nat → Prop) (ρ1 : Rn) (v1 w' : World) : Prop where
  le : ρ.le ρ1
  rel : RelW KW.F 0 ρ1 v1 w'
  apart : Apart Z' ρ1 w'
  low : ∀ a b, ρ1.r a b → b < w.heap.size → ∃ a', ρ.r a' b
  sz : w.heap.size ≤ w'.heap.size
  keep : ∀ b, b < w.heap.size → (∀ a, ¬ ρ.r a b) → w'.heap[b]? = w.heap[b]?
  same : w'.tape = w.tape ∧ w'.os = w.os ∧ w'.output = w.output
  q : ρ1.q = ρ.q
theorem Dw.trans {Z Z' Z'' : Nat → Prop} {ρ ρ1 ρ2 : Rn} {v1 v2 w w1 w2 : World} (h : Dw Z ρ w Z' ρ1 v1 w1) (k : Dw Z' ρ1 w1 Z'' ρ2 v2 w2) : Dw Z ρ w Z'' ρ2 v2 w2 where
  le := h.le.trans k.le
  rel := k.rel
  apart := k.apart
  low := fun a b hab hb => by
    obtain ⟨a', h1⟩ := k.low a b hab (Nat.lt_of_lt_of_le hb h.sz)
    exact h.low a' b h1 hb
  sz := Nat.le_trans h.sz k.sz
  keep := fun b hb hn => (k.keep b (Nat.lt_of_lt_of_le hb h.sz) fun a hab => by
    obtain ⟨a', h1⟩ := h.low a b hab hb
    exact hn a' h1).trans (h.keep b hb hn)
  same := ⟨k.same.1.trans h.same.1, k.same.2.1.trans h.same.2.1, k.same.2.2.trans h.same.2.2⟩
  q := k.q.trans h.q
section
variable {Kp : Frame → List Frame → World → Prop} (hKp : ∀ f ts v, Kp f ts v → ts = [])
 include hKp
/-- THE SECOND DRIVER. -/
theorem drive2 {s : VS} (hev : Ev Tryw.prog Kp s.f s.ts s.v) : ∀ (ρ : Rn) (f' : Frame) (ts' cs' : List Frame) (w : World) (gs : Array Goroutine) (sl : Option (Nat × Nat)) (t : Trace) (q : Nat → Nat) (Z : Nat → Prop),
    RelFr KW TW ρ s.f f' → All2 (RelFr KW TW ρ) s.ts ts' → RelW KW.F 0 ρ s.v w → Apart Z ρ w → Sit Try.prog Z gs w t (G f' (ts' ++ cs')) q →
    ∃ (N : Nat) (gs1 : Array Goroutine) (w1 : World) (sl1 : Option (Nat × Nat)) (t1 : Trace) (q1 : Nat → Nat) (Z1 : Nat → Prop) (ρ1 : Rn) (v1 : World) (f1 f1' : Frame),
      runNT Try.prog N (crowd gs w sl) t = (.next (crowd gs1 w1 sl1), t1) ∧ Sit Try.prog Z1 gs1 w1 t1 (G f1' cs') q1 ∧ Kp f1 [] v1 ∧ RelFr KW TW ρ1 f1 f1' ∧ Dw Z ρ w Z1 ρ1 v1 w1 := by
  refine Ev.strong (M := fun s => ∀ (ρ : Rn) (f' : Frame) (ts' cs' : List Frame) (w : World) (gs : Array Goroutine) (sl : Option (Nat × Nat)) (t : Trace) (q : Nat → Nat) (Z : Nat → Prop),
    RelFr KW TW ρ s.f f' → All2 (RelFr KW TW ρ) s.ts ts' → RelW KW.F 0 ρ s.v w → Apart Z ρ w → Sit Try.prog Z gs w t (G f' (ts' ++ cs')) q →
    ∃ (N : Nat) (gs1 : Array Goroutine) (w1 : World) (sl1 : Option (Nat × Nat)) (t1 : Trace) (q1 : Nat → Nat) (Z1 : Nat → Prop) (ρ1 : Rn) (v1 : World) (f1 f1' : Frame),
      runNT Try.prog N (crowd gs w sl) t = (.next (crowd gs1 w1 sl1), t1) ∧ Sit Try.prog Z1 gs1 w1 t1 (G f1' cs') q1 ∧ Kp f1 [] v1 ∧ RelFr KW TW ρ1 f1 f1' ∧ Dw Z ρ w Z1 ρ1 v1 w1) (fun s hev ih => ?_) hev
  intro ρ f' ts' cs' w gs sl t q Z hf hts hW hZ hS
  obtain ⟨N, gs1, w1, sl1, t1, q1, a1, ρ1, v1, r1, z1, S1, mv, hc⟩ := lift (sl := sl) fitsW (fun p k f1 ts1 v _ => zw_dead hKp p k f1 ts1 v) hev hf hts hW (fun g hg => absurd hg (by simp)) hZ hS
  have hsz : w.heap.size ≤ w1.heap.size := by have a1 := mv.sv; have a2 := mv.sw; omega
  have hr1 : ∀ a b, ρ1.r a b → (∃ a', ρ.r a' b) ∨ w.heap.size ≤ b := fun a b hab => by
    rcases (mv.new a b).1 hab with h | h
    · exact .inl ⟨a, h⟩
    · have := mv.sw; exact .inr (by omega)
  have hA1 : Apart Z ρ1 w1 := ⟨fun a b hab hz => by
    rcases hr1 a b hab with ⟨a', h⟩ | h
    · exact hZ.r a' b h hz
    · have := hZ.z b hz; omega, fun b hb => Nat.lt_of_lt_of_le (hZ.z b hb) hsz⟩
  have hDw : Dw Z ρ w Z ρ1 v1 w1 := ⟨mv.le, mv.rel, hA1, fun a b hab hb => by
    rcases hr1 a b hab with h | h
    · exact h
    · omega, hsz, mv.keepw, mv.tw, mv.tok.2⟩
  rcases hc with ⟨f1, ts1, f1', ts1', hk, rfl, hf1, hts1⟩ | ⟨X, p, p', k, f1, ts1, f1', ts1', hX, hX', hk, hnx, rfl, hp, hf1, hts1⟩
  · have e := hKp _ _ _ hk
    subst e
    cases hts1
    exact ⟨N, gs1, w1, sl1, t1, q1, Z, ρ1, v1, f1, f1', r1, S1, hk, hf1, hDw⟩
  · have hk : k = .normal := hk.elim id fun h => by cases h.2
    subst hk
    have hev1 := Ev.nextP hev hnx
    simp only at hev1
    have hX2 : X = 11 ∨ X = 19 := by
      have h := hX'.1
      simpa using h
    rcases hX2 with rfl | rfl
    · have hp0 : p = #[] := by
        have h := hX'.2
        unfold arOk at h
        exact Array.eq_empty_of_size_eq_zero (by simpa using h)
      subst hp0
      obtain rfl : p' = #[] := Array.eq_empty_of_size_eq_zero (by rw [← hp.1]; rfl)
      obtain ⟨N2, gs2, w2, sl2, t2, q2, Z2, r2, S2, l2⟩ := speaks_sit (sl := sl1) S1 hA1.z
      have hA2 : Apart Z2 ρ1 w2 := ⟨fun a b hab hz => by
        rcases l2.znew b hz with h | h
        · exact hA1.r a b hab h
        · have := (mv.rel.dom hab).2; omega, l2.zlt⟩
      obtain ⟨N3, gs3, w3, sl3, t3, q3, Z3, ρ3, v3, f3, f3', r3, S3, k3, g3, d3⟩ := ih _ ((nx_speaks hKp).trans hnx) ρ1 _ ts1' cs' w2 gs2 sl2 t2 q2 Z2 (hf1.finish .bool) hts1 (mv.rel.older l2) hA2 S2
      have hD2 : Dw Z ρ1 w1 Z2 ρ1 v1 w2 := ⟨Rn.le.refl _, mv.rel.older l2, hA2, fun a b hab _ => ⟨a, hab⟩, l2.sz, fun b hb _ => l2.keep b hb, l2.same, rfl⟩
      exact ⟨_, gs3, w3, sl3, t3, q3, Z3, ρ3, v3, f3, f3', runNT_join (runNT_join r1 r2) r3, S3, k3, g3, (hDw.trans hD2).trans d3⟩
    · exact absurd hev1 (zw_dead hKp _ _ _ _ _)
end
end Go.Proofs.Ytcdhmnefmbcmaaa
