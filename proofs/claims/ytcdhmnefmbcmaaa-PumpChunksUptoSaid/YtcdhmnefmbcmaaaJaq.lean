/-
  The worker's plan by steps written out: its own memory is a list of objects; no condition but what each law names.
  The worker's loops: their records turn; no condition but what each law names.
-/
import Derived.Test.YtcdhmnefmbcmaaaJap
import Derived.Test.YtcdhmnefmbcmaaaChecked
namespace Go.Proofs.Ytcdhmnefmbcmaaa
open Go Go.Conc

/-- what stands in blocks that nobody writes -/
structure RF (SR : Nat → Prop) where
  R : World → Prop
  st : ∀ w w1 : World, R w → (∀ b, SR b → w1.heap[b]? = w.heap[b]?) → w.heap.size ≤ w1.heap.size → R w1
  lt : ∀ w, R w → ∀ b, SR b → b < w.heap.size

/-- G: own blocks of which nothing is known; L: own blocks and what they hold -/
def ow {SR : Nat → Prop} (R : RF SR) (Gb : Nat → Prop) (L : List (Nat × Obj)) : Own SR where
  O := fun b => Gb b ∨ b ∈ L.map Prod.fst
  I := fun w => (∀ p ∈ L, w.heap[p.1]? = some p.2) ∧ R.R w
  st := fun w w1 h k hz _ _ => ⟨fun p hp => by rw [k p.1 (.inl (.inr (List.mem_map_of_mem hp)))]; exact h.1 p hp, R.st w w1 h.2 (fun b hb => k b (.inr hb)) hz⟩

/-- what a reading step lists -/
def RdEv {SR : Nat → Prop} (o : Own SR) (e : Event) : Prop :=
  match e.loc with
  | .cell a => (o.O a.block ∨ SR a.block) ∧ e.write = false
  | .mark m => MarkOk m
  | .obj c => o.O c ∧ e.write = false
  | _ => False

section
variable {C : Cx} {P : Program} (hP : C.P = P) {s : Bool} {kk : Nat} {R : RF C.SR} {Gb : Nat → Prop} {L : List (Nat × Obj)}
  {fn : FuncId} {T : Array Value} {k : List Item} {D : List Deferred} {ro : Option Nat} {cs : List Frame} {kd : Bool} {ops : Array Oper} {i : Nat} {rest : List Nat} {op : Oper} {o : Own C.SR}
 include hP

/-- a step of control -/
theorem pw_q {g g' : Goroutine} (h : ∀ w, stepG P false g w = .go g' w #[]) (hr : g.status = .running) (next : PW C (.work s) kk g' o) : PW C (.work s) kk g o := by
  subst hP
  exact .priv (fun _ => g') (fun _ => o) hr (fun w hw => ⟨w, #[], h w, ⟨hw, Nat.le_refl _, fun b => ⟨.inl, fun x => x.elim id fun y => by omega⟩, fun _ _ _ => rfl, ⟨rfl, rfl, rfl⟩, by simp⟩⟩) fun _ _ => next

/-- a step that reads -/
theorem pw_rd {g g' : Goroutine} (h : ∀ w, o.I w → ∃ es, stepG P false g w = .go g' w es ∧ ∀ e ∈ es, RdEv o e) (hr : g.status = .running) (next : PW C (.work s) kk g' o) : PW C (.work s) kk g o := by
  subst hP
  refine .priv (fun _ => g') (fun _ => o) hr (fun w hw => ?_) fun _ _ => next
  obtain ⟨es, h1, h2⟩ := h w hw
  refine ⟨w, es, h1, ⟨hw, Nat.le_refl _, fun b => ⟨.inl, fun x => x.elim id fun y => by omega⟩, fun _ _ _ => rfl, ⟨rfl, rfl, rfl⟩, fun e he => ?_⟩⟩
  have := h2 e he
  unfold RdEv at this
  cases hl : e.loc with
  | cell a => rw [hl] at this; exact this.1.imp id fun x => ⟨x, this.2⟩
  | mark m => rw [hl] at this; exact this
  | obj c => rw [hl] at this; exact ⟨this.1, fun x => by rw [this.2] at x; cases x.1⟩
  | _ => rw [hl] at this; exact this.elim

theorem pw_val (v : Value) (ho : ops[i]? = some op) (hw : Region.wanted op (yielded ops T) = true) (hd : ro = none ∨ ∀ c, op.op ≠ .defer c) (hr : ∀ w, o.I w → (execOp (ev T) op).run P w = .ok (.value v) w)
    (he : ∀ w, o.I w → ∀ e ∈ (execOp (ev T) op).events P w #[], RdEv o e) (next : PW C (.work s) kk (G (fr fn (put T op.dst v) (.inRegion ops rest :: k) D ro kd) cs) o) :
    PW C (.work s) kk (G (fr fn T (.inRegion ops (i :: rest) :: k) D ro kd) cs) o :=
  pw_rd hP (fun w hw' => ⟨_, s_val ho hw hd (hr w hw'), fun e h => he w hw' e (seen_sub h)⟩) rfl next
theorem pw_enter {f : FuncId} {args : Array Value} (ho : ops[i]? = some op) (hw : Region.wanted op (yielded ops T) = true) (hd : ro = none ∨ ∀ c, op.op ≠ .defer c) (hr : ∀ w, o.I w → (execOp (ev T) op).run P w = .ok (.enter f args) w)
    (he : ∀ w, o.I w → ∀ e ∈ (execOp (ev T) op).events P w #[], RdEv o e) (next : PW C (.work s) kk (G (Frame.enter P f args .normal) (fr fn T (.inRegion ops (i :: rest) :: k) D ro kd :: cs)) o) :
    PW C (.work s) kk (G (fr fn T (.inRegion ops (i :: rest) :: k) D ro kd) cs) o :=
  pw_rd hP (fun w hw' => ⟨_, s_call ho hw hd (hr w hw'), fun e h => he w hw' e (seen_sub h)⟩) rfl next
theorem pw_round {l : Nat} {f : FuncId} {tm : Array Value} {a b : Code} (ho : ops[i]? = some op) (hw : Region.wanted op (yielded ops T) = true) (hd : ro = none ∨ ∀ c, op.op ≠ .defer c) (hr : ∀ w, o.I w → (execOp (ev T) op).run P w = .ok (.round l f tm a b) w)
    (he : ∀ w, o.I w → ∀ e ∈ (execOp (ev T) op).events P w #[], RdEv o e) (next : PW C (.work s) kk (G (fr f tm [.code a, .beginRound, .code b] [] (some l)) (fr fn T (.inRegion ops (i :: rest) :: k) D ro kd :: cs)) o) :
    PW C (.work s) kk (G (fr fn T (.inRegion ops (i :: rest) :: k) D ro kd) cs) o :=
  pw_rd hP (fun w hw' => ⟨_, s_round ho hw hd (hr w hw'), fun e h => he w hw' e (seen_sub h)⟩) rfl next
theorem pw_defer {d : Deferred} (ho : ops[i]? = some op) (hw : Region.wanted op (yielded ops T) = true) (hr : ∀ w, o.I w → (execOp (ev T) op).run P w = .ok (.defer d) w)
    (he : ∀ w, o.I w → ∀ e ∈ (execOp (ev T) op).events P w #[], RdEv o e) (next : PW C (.work s) kk (G (fr fn (put T op.dst undef) (.inRegion ops rest :: k) (d :: D) none kd) cs) o) :
    PW C (.work s) kk (G (fr fn T (.inRegion ops (i :: rest) :: k) D none kd) cs) o :=
  pw_rd hP (fun w hw' => ⟨_, s_defer ho hw (hr w hw'), fun e h => he w hw' e (seen_sub h)⟩) rfl next

/-- (the operation is picked out of the list) -/
theorem pw_vl {l : List Oper} (v : Value) (ho : l[i]? = some op) (hw : Region.wanted op (yielded l.toArray T) = true) (hd : ro = none ∨ ∀ c, op.op ≠ .defer c) (hr : ∀ w, o.I w → (execOp (ev T) op).run P w = .ok (.value v) w)
    (he : ∀ w, o.I w → ∀ e ∈ (execOp (ev T) op).events P w #[], RdEv o e) (next : PW C (.work s) kk (G (fr fn (put T op.dst v) (.inRegion l.toArray rest :: k) D ro kd) cs) o) :
    PW C (.work s) kk (G (fr fn T (.inRegion l.toArray (i :: rest) :: k) D ro kd) cs) o := pw_val hP v (by simpa using ho) hw hd hr he next

/-- the offer -/
theorem pw_sel {xv z1 z2 : Value} {bk : Nat} {ob : Obj} {o' : Own C.SR} (ho : ops[i]? = some op) (hw : Region.wanted op (yielded ops T) = true) (hd : ro = none ∨ ∀ c, op.op ≠ .defer c)
    (hr : ∀ w, o.I w → (execOp (ev T) op).run P w = .ok (.comm (sel2 C.bc C.bs xv z1 z2) true .select) w) (he : ∀ w, o.I w → (execOp (ev T) op).events P w #[] = #[])
    (hcs : C.Cs kk xv bk ob) (hO : o.O bk) (hob : ∀ w, o.I w → w.heap[bk]? = some ob) (hO' : ∀ x, o'.O x → o.O x ∧ x ≠ bk) (hI' : ∀ w, o.I w → o'.I w)
    (n0 : PW C (.work false) (kk + 1) (G (fr fn (put T op.dst (.tuple #[.int .i64 0, .bool false, z2])) (.inRegion ops rest :: k) D ro kd) cs) o')
    (n1 : PW C (.work true) kk (G (fr fn (put T op.dst (.tuple #[.int .i64 1, .bool false, z2])) (.inRegion ops rest :: k) D ro kd) cs) o) :
    PW C (.work false) kk (G (fr fn T (.inRegion ops (i :: rest) :: k) D ro kd) cs) o := by
  subst hP
  have e : ∀ q v, ((G (fr fn T (.inRegion ops (i :: rest) :: k) D ro kd) cs).finishComm C.P (sel2 C.bc C.bs xv z1 z2) .select q v false) = G (fr fn (put T op.dst (commResult (sel2 C.bc C.bs xv z1 z2) .select q v false)) (.inRegion ops rest :: k) D ro kd) cs := fun q v => by
    unfold Goroutine.finishComm
    rw [show (G (fr fn T (.inRegion ops (i :: rest) :: k) D ro kd) cs).frame = fr fn T (.inRegion ops (i :: rest) :: k) D ro kd from rfl, fr_finish ho]
    rfl
  have r0 : commResult (sel2 C.bc C.bs xv z1 z2) .select 0 undef false = .tuple #[.int .i64 0, .bool false, z2] := by simp [commResult, sel2, scase, rcase, goInt, Array.zipIdx]
  have r1 : commResult (sel2 C.bc C.bs xv z1 z2) .select 1 z2 false = .tuple #[.int .i64 1, .bool false, z2] := by simp [commResult, sel2, scase, rcase, goInt, Array.zipIdx]
  refine .sel (z1 := z1) (z2 := z2) rfl rfl hcs hO hob (fun w hw' => ?_) hO' hI' ?_ ?_
  · rw [s_comm ho hw hd (hr w hw'), he w hw']; rfl
  · rw [e, r0]; exact n0
  · rw [e, r1]; exact n1

/-- a step that makes new blocks -/
theorem pw_news {g : Goroutine} (obs : Nat → List Obj) (_ : ∀ n m, (obs n).length = (obs m).length) (g' : Nat → Goroutine) (h : ∀ w, (ow R Gb L).I w → stepG P false g w = .go (g' w.heap.size) { w with heap := w.heap ++ (obs w.heap.size).toArray } #[]) (hr : g.status = .running)
    (next : ∀ n, (∃ w, (ow R Gb L).I w ∧ w.heap.size = n) → PW C (.work s) kk (g' n) (ow R Gb ((List.range (obs n).length).map (fun j => (n + j, (obs n)[j]?.getD default)) ++ L))) : PW C (.work s) kk g (ow R Gb L) := by
  subst hP
  refine .priv (fun w => g' w.heap.size) (fun w => ow R Gb ((List.range (obs w.heap.size).length).map (fun j => (w.heap.size + j, (obs w.heap.size)[j]?.getD default)) ++ L)) hr (fun w hw => ⟨_, _, h w hw, ?_⟩) fun w hw => next _ ⟨w, hw, rfl⟩
  have hold : ∀ b, b < w.heap.size → (w.heap ++ (obs w.heap.size).toArray)[b]? = w.heap[b]? := fun b hb => Array.getElem?_append_left hb
  refine ⟨⟨fun p hp => ?_, ?_⟩, by simp, fun b => ?_, fun b hb _ => hold b hb, ⟨rfl, rfl, rfl⟩, by simp⟩
  · rcases List.mem_append.1 hp with hp | hp
    · obtain ⟨j, hj, rfl⟩ := List.mem_map.1 hp
      have hj := List.mem_range.1 hj
      show (w.heap ++ (obs w.heap.size).toArray)[w.heap.size + j]? = _
      rw [Array.getElem?_append_right (by omega), show w.heap.size + j - w.heap.size = j by omega, List.getElem?_toArray, List.getElem?_eq_getElem hj]
      rfl
    · have h1 := hw.1 p hp
      show (w.heap ++ (obs w.heap.size).toArray)[p.1]? = _
      rw [hold _ (Array.getElem?_eq_some_iff.1 h1).1]
      exact h1
  · exact R.st w _ hw.2 (fun b hb => hold b (R.lt w hw.2 b hb)) (by simp)
  · simp only [ow, List.map_append, List.map_map, List.mem_append, List.mem_map, List.mem_range, Function.comp]
    constructor
    · rintro (x | ⟨j, hj, rfl⟩ | x)
      · exact .inl (.inl x)
      · refine .inr ⟨by omega, ?_⟩
        show w.heap.size + j < (w.heap ++ (obs w.heap.size).toArray).size
        simp; exact hj
      · exact .inl (.inr x)
    · rintro ((x | x) | ⟨x1, x2⟩)
      · exact .inl x
      · exact .inr (.inr x)
      · refine .inr (.inl ⟨b - w.heap.size, ?_, by omega⟩)
        have x2 : b < (w.heap ++ (obs w.heap.size).toArray).size := x2
        simp at x2
        omega
end

end Go.Proofs.Ytcdhmnefmbcmaaa

namespace Go.Proofs.Ytcdhmnefmbcmaaa
open Go Go.Conc

/-- the range over a function in a function's body, the body of its rounds -/
def rangeOf : Code → Option (Array Tmp × Code × Code)
  | .rangeFunc _ ps a b => some (ps, a, b)
  | .seq a b => (rangeOf a).or (rangeOf b)
  | .block _ c | .loop c | .scope c => rangeOf c
  | _ => none
noncomputable def bodyOf (f : Func) : Code := f.body.getD .skip
noncomputable def rA (f : Func) : Code := ((rangeOf (bodyOf f)).map (·.2.1)).getD .skip
noncomputable def rB (f : Func) : Code := ((rangeOf (bodyOf f)).map (·.2.2)).getD .skip
noncomputable def rP (f : Func) : Array Tmp := ((rangeOf (bodyOf f)).map (·.1)).getD #[]

/-- how a loop stands -/
structure LS where
  st : LoopState
  pd : Option Code
def LS.ready : LS := ⟨.ready, none⟩
def LS.busy : LS := ⟨.busy, none⟩
def LS.left : LS := ⟨.done, some .ret⟩

noncomputable def lp (fn : FuncId) (f : Func) (tm : Array Value) (d : Nat) (s : LS) : Obj := .loop { state := s.st, pending := s.pd, fn := fn, tmps := tm, params := rP f, assign := rA f, body := rB f, defers := d }

/-- the worker's blocks: the two loops' records, the blocks of their deferred calls, and boxes -/
structure WB where
  l1 : Nat
  l2 : Nat
  d1 : Nat
  d2 : Nat
  T1 : Array Value
  T2 : Array Value
  bx : List (Nat × Obj)

noncomputable def Lw (W : WB) (x : List (Nat × Obj)) (s1 s2 : LS) : List (Nat × Obj) :=
  (W.l1, lp 25 Try.f25 W.T1 W.d1 s1) :: (W.l2, lp 22 Try.f22 W.T2 W.d2 s2) :: (W.d1, .deferred (some [])) :: (W.d2, .deferred (some [])) :: (W.bx ++ x)
theorem Lw_l1 {W : WB} {x : List (Nat × Obj)} {s1 s2 : LS} : (W.l1, lp 25 Try.f25 W.T1 W.d1 s1) ∈ Lw W x s1 s2 := List.mem_cons_self ..
theorem Lw_l2 {W : WB} {x : List (Nat × Obj)} {s1 s2 : LS} : (W.l2, lp 22 Try.f22 W.T2 W.d2 s2) ∈ Lw W x s1 s2 := List.mem_cons_of_mem _ (List.mem_cons_self ..)
theorem Lw_d1 {W : WB} {x : List (Nat × Obj)} {s1 s2 : LS} : (W.d1, .deferred (some [])) ∈ Lw W x s1 s2 := List.mem_cons_of_mem _ (List.mem_cons_of_mem _ (List.mem_cons_self ..))
theorem Lw_d2 {W : WB} {x : List (Nat × Obj)} {s1 s2 : LS} : (W.d2, .deferred (some [])) ∈ Lw W x s1 s2 := List.mem_cons_of_mem _ (List.mem_cons_of_mem _ (List.mem_cons_of_mem _ (List.mem_cons_self ..)))
theorem Lw_bx {W : WB} {x : List (Nat × Obj)} {s1 s2 : LS} {p : Nat × Obj} (h : p ∈ W.bx) : p ∈ Lw W x s1 s2 := List.mem_cons_of_mem _ (List.mem_cons_of_mem _ (List.mem_cons_of_mem _ (List.mem_cons_of_mem _ (List.mem_append_left _ h))))
theorem Lw_x {W : WB} {x : List (Nat × Obj)} {s1 s2 : LS} {p : Nat × Obj} (h : p ∈ x) : p ∈ Lw W x s1 s2 := List.mem_cons_of_mem _ (List.mem_cons_of_mem _ (List.mem_cons_of_mem _ (List.mem_cons_of_mem _ (List.mem_append_right _ h))))
def isCells (o : Obj) : Prop := ∃ c t f, o = .cells c t f
structure WB.Ok (W : WB) : Prop where
  bx : ∀ p ∈ W.bx, isCells p.2
  dd : W.d1 ≠ W.d2

structure RF.Ok {SR : Nat → Prop} (R : RF SR) : Prop where
  cl : ∀ w, R.R w → ∀ b, SR b → ∃ o, w.heap[b]? = some o ∧ isCells o

section
variable {C : Cx} {P : Program} (hP : C.P = P) {s : Bool} {kk : Nat} {R : RF C.SR} (hR : R.Ok) {Gb : Nat → Prop} {W : WB} (hW : W.Ok) {x : List (Nat × Obj)} (hx : ∀ p ∈ x, isCells p.2) {g g' : Goroutine} {s1 s2 : LS}

theorem lp_not_cells {fn : FuncId} {f : Func} {tm : Array Value} {d : Nat} {s : LS} : ¬ isCells (lp fn f tm d s) := by rintro ⟨c, t, f, e⟩; cases e
theorem def_not_cells {d : Option (List Deferred)} : ¬ isCells (.deferred d) := by rintro ⟨c, t, f, e⟩; cases e

/-- an own block is turned, all else stands -/
theorem pw_turn (hP : C.P = P) (hR : R.Ok) {L L' : List (Nat × Obj)} {b : Nat} {ob ob' : Obj} (hb : (b, ob) ∈ L) (hnc : ¬ isCells ob) (hfst : ∀ y, y ∈ L'.map Prod.fst ↔ y ∈ L.map Prod.fst) (hL : ∀ p ∈ L', p = (b, ob') ∨ (p ∈ L ∧ (p.2 = ob → p.1 ≠ b))) {es : Array Event}
    (hev : ∀ e ∈ es, e = ⟨.obj b, false, false⟩ ∨ e = ⟨.obj b, true, false⟩)
    (h : ∀ w : World, w.heap[b]? = some ob → ∃ es', stepG P false g w = .go g' { w with heap := w.heap.setIfInBounds b ob' } es' ∧ ∀ e ∈ es', e ∈ es) (hr : g.status = .running)
    (next : PW C (.work s) kk g' (ow R Gb L')) : PW C (.work s) kk g (ow R Gb L) := by
  subst hP
  refine .priv (fun _ => g') (fun _ => ow R Gb L') hr (fun w hw => ?_) fun _ _ => next
  have h0 := hw.1 _ hb
  obtain ⟨es', h1, h2⟩ := h w h0
  have hlt : b < w.heap.size := (Array.getElem?_eq_some_iff.1 h0).1
  have hne : ∀ y, y ≠ b → (w.heap.setIfInBounds b ob')[y]? = w.heap[y]? := fun y hy => Array.getElem?_setIfInBounds_ne (Ne.symm hy)
  refine ⟨_, _, h1, ⟨⟨fun p hp => ?_, ?_⟩, by simp, fun y => ?_, fun y _ hy => hne y fun e => hy (.inr (by rw [e]; exact List.mem_map_of_mem hb)), ⟨rfl, rfl, rfl⟩, fun e he => ?_⟩⟩
  · show (w.heap.setIfInBounds b ob')[p.1]? = _
    rcases hL p hp with rfl | ⟨hp, hn⟩
    · rw [Array.getElem?_setIfInBounds_self_of_lt hlt]
    · have h3 := hw.1 p hp
      rw [hne p.1 fun e => hn (by rw [e, h0] at h3; exact (Option.some.inj h3).symm) e]
      exact h3
  · refine R.st w _ hw.2 (fun y hy => hne y fun e => ?_) (by simp)
    obtain ⟨o, ho, hc⟩ := hR.cl w hw.2 y hy
    rw [e, h0] at ho
    cases ho
    exact hnc hc
  · show (Gb y ∨ y ∈ L'.map Prod.fst) ↔ (Gb y ∨ y ∈ L.map Prod.fst) ∨ _
    rw [hfst]
    constructor
    · exact .inl
    · rintro (x | x)
      · exact x
      · have : ({ w with heap := w.heap.setIfInBounds b ob' } : World).heap.size = w.heap.size := by simp
        omega
  · rcases hev e (h2 e he) with rfl | rfl
    · exact ⟨.inr ((hfst _).2 (List.mem_map_of_mem hb)), by simp⟩
    · exact ⟨.inr ((hfst _).2 (List.mem_map_of_mem hb)), by simp⟩

 include hP hR hW hx
theorem pw_l1 {s1' : LS} {fn : FuncId} (h : ∀ w : World, w.heap[W.l1]? = some (lp 25 Try.f25 W.T1 W.d1 s1) → stepG P false g w = .go g' { w with heap := w.heap.setIfInBounds W.l1 (lp 25 Try.f25 W.T1 W.d1 s1') } (seen P fn #[⟨.obj W.l1, false, false⟩, ⟨.obj W.l1, true, false⟩]))
    (hr : g.status = .running) (next : PW C (.work s) kk g' (ow R Gb (Lw W x s1' s2))) : PW C (.work s) kk g (ow R Gb (Lw W x s1 s2)) := by
  refine pw_turn hP hR (b := W.l1) (List.mem_cons_self ..) lp_not_cells (fun y => by simp [Lw]) (fun p hp => ?_) (es := #[⟨.obj W.l1, false, false⟩, ⟨.obj W.l1, true, false⟩]) (by simp) (fun w hw => ⟨_, h w hw, fun e he => seen_sub he⟩) hr next
  simp only [Lw, List.mem_cons, List.mem_append] at hp
  rcases hp with rfl | rfl | rfl | rfl | hp | hp
  · exact .inl rfl
  · refine .inr ⟨by simp [Lw], fun e => ?_⟩
    simp [lp] at e
  · exact .inr ⟨by simp [Lw], fun e => by cases e⟩
  · exact .inr ⟨by simp [Lw], fun e => by cases e⟩
  · exact .inr ⟨by simp [Lw, hp], fun e => absurd (e ▸ hW.bx p hp) lp_not_cells⟩
  · exact .inr ⟨by simp [Lw, hp], fun e => absurd (e ▸ hx p hp) lp_not_cells⟩
theorem pw_l2 {s2' : LS} {fn : FuncId} (h : ∀ w : World, w.heap[W.l2]? = some (lp 22 Try.f22 W.T2 W.d2 s2) → stepG P false g w = .go g' { w with heap := w.heap.setIfInBounds W.l2 (lp 22 Try.f22 W.T2 W.d2 s2') } (seen P fn #[⟨.obj W.l2, false, false⟩, ⟨.obj W.l2, true, false⟩]))
    (hr : g.status = .running) (next : PW C (.work s) kk g' (ow R Gb (Lw W x s1 s2'))) : PW C (.work s) kk g (ow R Gb (Lw W x s1 s2)) := by
  refine pw_turn hP hR (b := W.l2) (List.mem_cons_of_mem _ (List.mem_cons_self ..)) lp_not_cells (fun y => by simp [Lw]) (fun p hp => ?_) (es := #[⟨.obj W.l2, false, false⟩, ⟨.obj W.l2, true, false⟩]) (by simp) (fun w hw => ⟨_, h w hw, fun e he => seen_sub he⟩) hr next
  simp only [Lw, List.mem_cons, List.mem_append] at hp
  rcases hp with rfl | rfl | rfl | rfl | hp | hp
  · refine .inr ⟨by simp [Lw], fun e => ?_⟩
    simp [lp] at e
  · exact .inl rfl
  · exact .inr ⟨by simp [Lw], fun e => by cases e⟩
  · exact .inr ⟨by simp [Lw], fun e => by cases e⟩
  · exact .inr ⟨by simp [Lw, hp], fun e => absurd (e ▸ hW.bx p hp) lp_not_cells⟩
  · exact .inr ⟨by simp [Lw, hp], fun e => absurd (e ▸ hx p hp) lp_not_cells⟩
end

end Go.Proofs.Ytcdhmnefmbcmaaa
