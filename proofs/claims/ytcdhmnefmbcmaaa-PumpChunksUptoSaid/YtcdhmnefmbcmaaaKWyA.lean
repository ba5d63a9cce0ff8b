/-
  A range over a function whose yielded values lie in new memory: what is asked of the function, and the statement's law; no condition but what each law names.
-/
import Derived.Test.YtcdhmnefmbcmaaaKWwX
import Derived.RangeFuncNested
import Derived.RangeFuncBound
namespace Go.Proofs.Ytcdhmnefmbcmaaa.Ww
open Go Go.RowKit
variable {P : Program}
/-- the function gf, holding lb, calls what it is given with N values, one after another: the k-th lies in the world as Pc says, in blocks X; the rounds change L and X alone -/
def Iter (P : Program) (gf : Nat) (lb : Array Value) (Ob : List Nat) (X : Value → List Nat) (N : Nat) (Pc : Nat → Value → World → Prop) (W : World) : Prop :=
  ∀ (l : Nat) (L : List Nat) (J Jx : Nat → World → Prop), (∀ b ∈ L, b < W.heap.size ∧ b ∉ Ob) → (∀ k A A', J k A → Below W.heap.size A A' → J k A') → (∀ k A A', Jx k A → Below W.heap.size A A' → Jx k A') →
    (∀ k x A, k < N → J k A → Chg L W A → Pc k x A → (∀ b ∈ X x, W.heap.size ≤ b ∧ b < A.heap.size) → YieldAt Fence.wide 0 P l #[x] A fun e A' => Chg (L ++ X x) A A' ∧ ((e = .returned (.bool true) ∧ J (k + 1) A') ∨ (e = .returned (.bool false) ∧ Jx (k + 1) A'))) →
    J 0 W → CallsIn Fence.wide 0 P gf (#[.func (.yield l) #[] #[]] ++ lb) W fun e A' => (∃ v, e = .returned v) ∧ Chg L W A' ∧ (J N A' ∨ ∃ k, Jx k A')
theorem Chg.putObj {A : World} (l : Nat) (o : Obj) : Chg [l] A (A.putObj l o) :=
  ⟨rfl, rfl, rfl, by simp, fun k _ hn => World.putObj_heap_other (fun e => hn (by simp [e]))⟩
/-- how a round may be left -/
def bodyOut (L : List Nat) (I : Nat → World → Prop) (Ix : Code → Nat → World → Prop) (k : Nat) (A : World) : Exit → Act → World → Prop
  | .normal, _, A' => Chg L A A' ∧ I k A'
  | .ret, _, A' => Chg L A A' ∧ Ix .ret k A'
  | .exit id, _, A' => Chg L A A' ∧ Ix (.exit id) k A'
  | _, _, _ => False
theorem range_any {g : Operand} {p : Tmp} {assign body : Code} {Q : Exit → Act → World → Prop} {a : Act} {w : World} {gf : Nat} {lb : Array Value} (hg : a.eval g = .func (.func gf) #[] lb) (eg : ∀ args w, (callFunc gf args).run P w = .ok (.enter gf args) w)
    {Ob : List Nat} {X : Value → List Nat} {N : Nat} {Pc : Nat → Value → World → Prop} (hit : ∀ W1, Below w.heap.size w W1 → W1.heap.size = w.heap.size + 2 → Iter P gf lb Ob X N Pc W1) (hOb : ∀ b ∈ Ob, b < w.heap.size)
    (hPc : ∀ k x A A' l, Pc k x A → l ∉ Ob → l ∉ X x → Chg [l] A A' → Pc k x A')
    (L : List Nat) (hL : ∀ b ∈ L, b < w.heap.size ∧ b ∉ Ob) (I : Nat → World → Prop) (Ix : Code → Nat → World → Prop) (hI : ∀ k A A', I k A → Below w.heap.size A A' → I k A') (hIx : ∀ c k A A', Ix c k A → Below w.heap.size A A' → Ix c k A') (h0 : I 0 w)
    (act : Value → Act)
    (hassign : ∀ l x A (K : Act → World → Prop), K (act x) A → assign.wpIn (Fence.wide.inRound l) 0 P (Exit.then K (fun _ _ _ => False)) { tmps := a.tmps.setIfInBounds p x, defers := [] } A)
    (hbody : ∀ l k x A, k < N → I k A → Pc k x A → (∀ b ∈ X x, w.heap.size ≤ b ∧ b < A.heap.size) → Chg L w A → body.wpIn (Fence.wide.inRound l) 0 P (bodyOut (L ++ X x) I Ix (k + 1) A) (act x) A)
    (hdone : ∀ D A', w.heap.size ≤ D → Chg L w A' → I N A' → A'.heap[D]? = some (.deferred (some [])) → Q .normal { a with defers := { target := .collected D, args := #[] } :: a.defers } A')
    (hstop : ∀ D c k A', w.heap.size ≤ D → Chg L w A' → Ix c k A' → A'.heap[D]? = some (.deferred (some [])) → c.wpIn Fence.wide 0 P Q { a with defers := { target := .collected D, args := #[] } :: a.defers } A') :
    (Code.rangeFunc g #[p] assign body).wpIn Fence.wide 0 P Q a w := by
  refine wpIn_rangeFunc fun fn hfn => ?_
  obtain ⟨rec, hrec⟩ : ∃ rec : LoopState → Option Code → Loop, rec = fun st pe => { state := st, pending := pe, fn, tmps := a.tmps, params := #[p], assign, body, defers := w.heap.size } := ⟨_, rfl⟩
  obtain ⟨W1, hW1⟩ : ∃ W1, W1 = (w.alloc (.deferred (some []))).alloc (.loop (rec .ready none)) := ⟨_, rfl⟩
  have hz1 : W1.heap.size = w.heap.size + 2 := by rw [hW1]; simp
  have hb1 : Below w.heap.size w W1 := by rw [hW1]; exact ((Below.refl _ w).alloc (Nat.le_refl _) _).alloc (by simp) _
  have hl1 : W1.heap[w.heap.size + 1]? = some (.loop (rec .ready none)) := by
    rw [hW1]
    have h := World.alloc_heap_new (w.alloc (.deferred (some []))) (.loop (rec .ready none))
    rw [World.size_alloc] at h
    exact h
  have hd1 : W1.heap[w.heap.size]? = some (.deferred (some [])) := by
    rw [hW1]; exact (Below.heap_alloc _ _ _ (by simp)).trans (World.alloc_heap_new w _)
  have hc1 : Chg [] w W1 := Chg.of_below hb1 _
  refine ⟨w.heap.size + 1, [{ target := .collected w.heap.size, args := #[] }], W1, { target := .fn (.func gf) lb, args := #[.func (.yield (w.heap.size + 1)) #[] #[]] }, W1, gf,
    #[.func (.yield (w.heap.size + 1)) #[] #[]] ++ lb, W1, ?_, ?_, fun _ _ => trivial, ?_, fun h => (by cases h), ?_⟩
  · rw [hW1, hrec]; exact run_enterLoop_outer _ _ _ _ _
  · simp only [resolve, hg]
    simp [go_sem]
  · simp [invoke, go_sem, eg]
  · refine (hit W1 hb1 hz1 (w.heap.size + 1) ((w.heap.size + 1) :: L)
      (fun k A => I k A ∧ A.heap[w.heap.size + 1]? = some (.loop (rec .ready none)) ∧ A.heap[w.heap.size]? = some (.deferred (some [])) ∧ Chg L w A)
      (fun k A => ∃ c, Ix c k A ∧ A.heap[w.heap.size + 1]? = some (.loop (rec .done (some c))) ∧ A.heap[w.heap.size]? = some (.deferred (some [])) ∧ Chg L w A)
      (fun b hb => ?_) (fun k A A' h hbl => ?_) (fun k A A' h hbl => ?_) ?_ ⟨hI _ _ _ h0 hb1, hl1, hd1, hc1.nil L⟩).mono ?_
    · rcases List.mem_cons.1 hb with rfl | hb
      · exact ⟨by omega, fun h => by have := hOb _ h; omega⟩
      · exact ⟨by have := (hL b hb).1; omega, (hL b hb).2⟩
    · obtain ⟨h1, h2, h3, h4⟩ := h
      exact ⟨hI _ _ _ h1 (hbl.mono (by omega)), (hbl.block _ (by omega)).trans h2, (hbl.block _ (by omega)).trans h3, ⟨hbl.os.trans h4.os, hbl.tape.trans h4.tape, hbl.output.trans h4.output, Nat.le_trans h4.size hbl.size, fun b hb hn => (hbl.block b (by omega)).trans (h4.block b hb hn)⟩⟩
    · obtain ⟨c, h1, h2, h3, h4⟩ := h
      exact ⟨c, hIx _ _ _ _ h1 (hbl.mono (by omega)), (hbl.block _ (by omega)).trans h2, (hbl.block _ (by omega)).trans h3, ⟨hbl.os.trans h4.os, hbl.tape.trans h4.tape, hbl.output.trans h4.output, Nat.le_trans h4.size hbl.size, fun b hb hn => (hbl.block b (by omega)).trans (h4.block b hb hn)⟩⟩
    · -- a round
      rintro k x A hk ⟨hi, hl, hd, hcw⟩ hcL hpc hx
      have hlt : w.heap.size + 1 < A.heap.size := (Array.getElem?_eq_some_iff.1 hl).1
      have hy := run_yield (P := P) (args := #[x]) hl (by rw [hrec]; rfl)
      rw [hrec] at hy
      have hy : (Instr.yield (w.heap.size + 1) #[x]).run P A = .ok (.round (w.heap.size + 1) fn (a.tmps.setIfInBounds p x) assign body) A := by simpa using hy
      refine ⟨fn, _, assign, body, hy, roundIn_of_wpIn hfn (hassign _ x A _ ?_)⟩
      clear hy
      obtain ⟨A2, hA2⟩ : ∃ A2, A2 = A.putObj (w.heap.size + 1) (.loop { rec .ready none with state := .busy }) := ⟨_, rfl⟩
      have hcA : Chg [w.heap.size + 1] A A2 := by rw [hA2]; exact Chg.putObj _ _
      have hl2 : A2.heap[w.heap.size + 1]? = some (.loop { rec .ready none with state := .busy }) := by rw [hA2]; exact World.putObj_heap_same hlt
      have hd2 : A2.heap[w.heap.size]? = some (.deferred (some [])) := (hcA.block _ (by omega) (by simp)).trans hd
      have hz2 : A2.heap.size = A.heap.size := by rw [hA2]; simp
      refine ⟨A2, by rw [hA2]; exact run_beginRound hl (by rw [hrec]), ?_⟩
      have hbA : Below w.heap.size A A2 := hcA.below (by omega) (by simp)
      refine wpIn_mono (hbody _ k x A2 hk (hI _ _ _ hi hbA) (hPc _ _ _ _ _ hpc (fun h => by have := hOb _ h; omega) (fun h => by have := (hx _ h).1; omega) hcA) (fun b hb => ⟨by have := (hx b hb).1; omega, by rw [hz2]; exact (hx b hb).2⟩) (hcw.trans hcA (fun b hb => .inr (by simp at hb; omega)))) ?_
      have fin : ∀ (jump : Option Code) (A3 : World), Chg (L ++ X x) A2 A3 → ∃ v A4, (Instr.endRound (w.heap.size + 1) jump).run P A3 = .ok v A4 ∧ v = .bool jump.isNone ∧ Chg ((w.heap.size + 1) :: L ++ X x) A A4 ∧ Below w.heap.size A3 A4 ∧
          A4.heap[w.heap.size + 1]? = some (.loop (rec (if jump.isNone then .ready else .done) jump)) ∧ A4.heap[w.heap.size]? = some (.deferred (some [])) ∧ Chg L w A4 := fun jump A3 hc3 => by
        have nl : w.heap.size + 1 ∉ L ++ X x := fun h => (List.mem_append.1 h).elim (fun h => by have := (hL _ h).1; omega) fun h => by have := (hx _ h).1; omega
        have nd : w.heap.size ∉ L ++ X x := fun h => (List.mem_append.1 h).elim (fun h => by have := (hL _ h).1; omega) fun h => by have := (hx _ h).1; omega
        have hl3 := (hc3.block _ (by omega) nl).trans hl2
        have hd3 := (hc3.block _ (by omega) nd).trans hd2
        have he := run_endRound (P := P) jump hl3
        have hc4 : Chg [w.heap.size + 1] A3 (A3.putObj (w.heap.size + 1) (.loop { { rec .ready none with state := .busy } with state := if jump.isNone then .ready else .done, pending := jump })) := Chg.putObj _ _
        have hc14 := ((hcA.mono (L := (w.heap.size + 1) :: L ++ X x) (fun b hb => .inl (by simp at hb; simp [hb]))).trans hc3 (fun b hb => .inl (by simp at hb ⊢; exact .inr hb))).trans hc4 (fun b hb => .inl (by simp at hb; simp [hb]))
        refine ⟨_, _, he, rfl, hc14, hc4.below (by have := hc3.size; omega) (by simp), ?_, (hc4.block _ (by have := hc3.size; omega) (by simp)).trans hd3, hcw.trans hc14 (fun b hb => ?_)⟩
        · rw [World.putObj_heap_same (by have := hc3.size; omega), hrec]
        · rcases List.mem_append.1 hb with hb | hb
          · rcases List.mem_cons.1 hb with rfl | hb
            · exact .inr (by omega)
            · exact .inl hb
          · exact .inr (by have := (hx b hb).1; omega)
      rintro e a3 A3 hp
      cases e with
      | normal =>
        obtain ⟨hc3, hi3⟩ := hp
        obtain ⟨v, A4, h1, rfl, h3, h4, h5, h6, h7⟩ := fin none A3 hc3
        exact ⟨_, A4, h1, h3, .inl ⟨rfl, hI _ _ _ hi3 h4, h5, h6, h7⟩⟩
      | ret =>
        obtain ⟨hc3, hi3⟩ := hp
        obtain ⟨v, A4, h1, rfl, h3, h4, h5, h6, h7⟩ := fin (some .ret) A3 hc3
        exact ⟨_, A4, h1, h3, .inr ⟨rfl, .ret, hIx _ _ _ _ hi3 h4, h5, h6, h7⟩⟩
      | exit id =>
        obtain ⟨hc3, hi3⟩ := hp
        obtain ⟨v, A4, h1, rfl, h3, h4, h5, h6, h7⟩ := fin (some (.exit id)) A3 hc3
        exact ⟨_, A4, h1, h3, .inr ⟨rfl, .exit id, hIx _ _ _ _ hi3 h4, h5, h6, h7⟩⟩
      | goto t => exact hp.elim
      | panic ch => exact hp.elim
      | outgrown => exact hp.elim
    · -- behind the function
      rintro e A' ⟨⟨v, rfl⟩, _, (⟨hi, hl, hd, hcw⟩ | ⟨k, c, hi, hl, hd, hcw⟩)⟩
      · have hlt := (Array.getElem?_eq_some_iff.1 hl).1
        have he := run_endLoop (P := P) hl (by rw [hrec]; simp)
        have hc : Chg [w.heap.size + 1] A' (A'.putObj (w.heap.size + 1) (.loop { rec .ready none with state := .exhausted })) := Chg.putObj _ _
        exact ⟨none, _, by rw [hrec] at he ⊢; exact he, hdone _ _ (Nat.le_refl _) (hcw.trans hc (fun b hb => .inr (by simp at hb; omega))) (hI _ _ _ hi (hc.below (by omega) (by simp))) ((hc.block _ (by omega) (by simp)).trans hd)⟩
      · have hlt := (Array.getElem?_eq_some_iff.1 hl).1
        have he := run_endLoop (P := P) hl (by rw [hrec]; simp)
        have hc : Chg [w.heap.size + 1] A' (A'.putObj (w.heap.size + 1) (.loop { rec .done (some c) with state := .exhausted })) := Chg.putObj _ _
        exact ⟨some c, _, by rw [hrec] at he ⊢; exact he, hstop _ c k _ (Nat.le_refl _) (hcw.trans hc (fun b hb => .inr (by simp at hb; omega))) (hIx _ _ _ _ hi (hc.below (by omega) (by simp))) ((hc.block _ (by omega) (by simp)).trans hd)⟩
end Go.Proofs.Ytcdhmnefmbcmaaa.Ww
