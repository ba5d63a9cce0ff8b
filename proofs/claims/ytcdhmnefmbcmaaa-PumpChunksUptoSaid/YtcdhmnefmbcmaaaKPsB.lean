/-
  Speaks beside goroutines that only leave: from its call to where it returns that it is true; no condition but what each law names.
-/
import Derived.Test.YtcdhmnefmbcmaaaJbe
import Derived.Test.YtcdhmnefmbcmaaaJbh
namespace Go.Proofs.Ytcdhmnefmbcmaaa
open Go Go.Conc Go.RowKit
/-- a stretch of goroutine 0's that leaves all that lay alone -/
structure Lf (Z : Nat → Prop) (w : World) (Z' : Nat → Prop) (w' : World) : Prop where
  zle : ∀ b, Z b → Z' b
  znew : ∀ b, Z' b → Z b ∨ w.heap.size ≤ b
  zlt : ∀ b, Z' b → b < w'.heap.size
  sz : w.heap.size ≤ w'.heap.size
  keep : ∀ b, b < w.heap.size → w'.heap[b]? = w.heap[b]?
  same : w'.tape = w.tape ∧ w'.os = w.os ∧ w'.output = w.output
def rn0 : Rn := { r := fun _ _ => False, c := fun _ _ => False, q := fun _ _ _ _ => False }
theorem rn0_rel (F : Fs) (w : World) : RelW F 0 rn0 ({ w with heap := #[] } : World) w :=
  ⟨⟨fun _ _ _ h => h.elim, fun _ _ _ h => h.elim, fun _ _ _ h => h.elim, fun _ _ _ h => h.elim, fun _ _ h => h.elim⟩, fun _ _ h => h.elim, fun _ _ h => h.elim, Nat.zero_le _, Nat.zero_le _, rfl, fun _ _ _ _ h => h.elim⟩
/-- where its virtual run is to come to -/
def KpS (f : Frame) (ts : List Frame) (v : World) : Prop := KpL 11 0 #[] f ts v ∧ f.kind = .normal
theorem speaks_lone (w : World) (t : Nat → Question → Nat) : ∃ n f' v', runN Tryv.prog n (lone (Frame.enter Tryv.prog 11 #[] .normal) [door Tryv.prog] (w.taped t)) = .next (lone f' [door Tryv.prog] v') ∧ KpS f' [] v' := by
  obtain ⟨e, w', f, hR, hcomes, hff, hl⟩ := Vw.speaks_any (w := w.taped t) [door Tryv.prog]
  obtain ⟨rfl, _⟩ := hR
  obtain ⟨n, hn⟩ := hcomes
  obtain ⟨hm, hd, hk, fn', hf', hr⟩ := hl
  rw [hff, Tryv.func11] at hf'
  obtain rfl := Option.some.inj hf'
  have h1 := res_tmp (P := Tryv.prog) (f := Try.f11) (T := f.tmps) (t := 0) rfl w'
  rw [Sem.runT_eq] at h1
  have h2 : (results Try.f11 f.tmps).run Tryv.prog w' = .ok (f.tmps.getD 0 undef) w' := congrArg Prod.fst h1
  rw [hr] at h2
  simp only [Result.ok.injEq, and_true] at h2
  refine ⟨n, f, w', hn, ⟨rfl, hm, hff, ?_, fun a ha => absurd ha (Nat.not_lt_zero _)⟩, hk⟩
  rw [Array.getD_eq_getD_getElem?] at h2
  cases h3 : f.tmps[0]? with
  | none => rw [h3] at h2; cases h2
  | some y => rw [h3] at h2; rw [h2]; rfl
theorem pop_step {P : Program} {f c : Frame} {cs : List Frame} {fn : Func} {r : Tmp} {x : Value} (hm : f.mode = .returning) (hd : f.defers = []) (hf : P.funcs[f.fn]? = some fn) (hres : fn.results = #[.tmp r]) (hr : f.tmps[r]? = some x) (hk : f.kind = .normal) (w : World) :
    stepG P true (G f (c :: cs)) w = .go (G (c.finish x) cs) w #[] := by
  have h1 : (results fn f.tmps).runT P w #[] = (.ok x w, #[]) := by
    rw [res_tmp hres w, Array.getD_eq_getD_getElem?, hr]
    rfl
  rw [Sem.runT_eq] at h1
  have h2 : (results fn f.tmps).run P w = .ok x w := congrArg Prod.fst h1
  have h3 : (results fn f.tmps).events P w #[] = #[] := congrArg Prod.snd h1
  simp [stepG, unwind, G, hm, hd, hf, h2, h3, doReturn, hk, GStep.after, seen_none]
section
variable {Z : Nat → Prop} {gs : Array Goroutine} {t : Trace} {q : Nat → Nat} {sl : Option (Nat × Nat)} {w : World} {c : Frame} {cs : List Frame}
/-- SPEAKS BESIDE LEAVERS. -/
theorem speaks_sit (hS : Sit Try.prog Z gs w t (G (Frame.enter Try.prog 11 #[] .normal) (c :: cs)) q) (hZ : ∀ b, Z b → b < w.heap.size) :
    ∃ (N : Nat) (gs1 : Array Goroutine) (w1 : World) (sl1 : Option (Nat × Nat)) (t1 : Trace) (q1 : Nat → Nat) (Z1 : Nat → Prop),
      runNT Try.prog N (crowd gs w sl) t = (.next (crowd gs1 w1 sl1), t1) ∧ Sit Try.prog Z1 gs1 w1 t1 (G (c.finish (.bool true)) cs) q1 ∧ Lf Z w Z1 w1 := by
  have hev : Ev Tryv.prog KpS (Frame.enter Tryv.prog 11 #[] .normal) [] { w with heap := #[] } := by
    refine bar (K := KV) (T := TV) (N := 0) fitsV rfl (fun _ => rfl) (fun f ts v t h => h) ⟨rn0, ⟨fun _ _ h => h.elim, fun _ _ h => h.elim, fun _ _ _ _ h => h⟩, relFr_enter (K := KV) (T := TV) fitsV (by decide) rfl RelVs.nil (.inl rfl), .nil, rn0_rel _ ({ w with heap := #[] } : World), fun g hg => absurd hg (by simp)⟩ (fun tp _ => ?_)
    obtain ⟨n, f', v', h1, h2⟩ := speaks_lone { w with heap := #[] } tp
    exact ⟨n, f', [], v', h1, h2⟩
  have hKp : ∀ f ts v, KpS f ts v → ts = [] ∧ f.mode = .returning := fun f ts v h => ⟨h.1.1, h.1.2.1⟩
  obtain ⟨N, gs1, w1, sl1, t1, q1, Z1, ρ1, v1, f1, f1', r1, S1, ⟨⟨_, km, kf, kr, _⟩, kk⟩, hf1, dv⟩ := drive1 hKp (s := ⟨_, _, _⟩) hev rn0 (Frame.enter Try.prog 11 #[] .normal) [] (c :: cs) w gs sl t q Z
    (relFr_enter (K := K1) (T := T1) fits1 (by decide) rfl RelVs.nil (.inl rfl)) .nil (rn0_rel _ _) ⟨fun _ _ h => h.elim, hZ⟩ (fun _ _ _ _ h => h.elim) hS
  have hkeep : ∀ b, b < w.heap.size → w1.heap[b]? = w.heap[b]? := fun b hb => dv.keep b hb fun a h => h.elim
  have hm' : f1'.mode = .returning := by
    have := hf1.mode
    rw [km] at this
    generalize f1'.mode = m at this
    cases this
    rfl
  have hd' : f1'.defers = [] := by
    have h1 := hf1.defers
    rw [hf1.nodef rfl rfl] at h1
    generalize f1'.defers = l at h1
    cases h1
    rfl
  have hfn' : f1'.fn = 11 := hf1.fn.trans kf
  have hr' : f1'.tmps[0]? = some (.bool true) := by
    obtain ⟨y, hy, hyr⟩ := hf1.tmps.get kr
    rw [hy, rel_flat_eq hyr rfl]
  have hk' : f1'.kind = .normal := hf1.kind.1.trans kk
  obtain ⟨N2, gs2, w2, sl2, t2, q2, a2, es, B2, r2, _, S2, ⟨dd, rfl, rfl, rfl, rfl⟩⟩ := turnD (w := w1) (sl := sl1) (R := fun a' w' es B' => ∃ dd, a' = G (c.finish (.bool true)) cs ∧ w' = w1.at dd ∧ es = #[] ∧ B' = w1.heap.size) S1.sitD rfl (fun dd =>
    ⟨_, _, _, w1.heap.size, pop_step hm' hd' (by rw [hfn']; exact Try.func11) rfl hr' hk' _, Nat.le_refl _, fun e he => absurd he (by simp), dd, rfl, rfl, rfl, rfl⟩)
  exact ⟨_, gs2, w1.at dd, sl2, t2, q2, Z1, runNT_join r1 r2, SitD.sit (w := w1.at dd) S2 (Nat.le_refl _), ⟨dv.zle, dv.znew, dv.apart.z, dv.sz, hkeep, dv.same⟩⟩
end
end Go.Proofs.Ytcdhmnefmbcmaaa
