/-
  The beginning and the end of a range over a function, deferred calls; no condition but what each law names.
  The worker's end: its loops end, its deferred calls are made; no condition but what each law names.
  The worker's end, joined; no condition but what each law names.
  The worker's beginning: boxes, the two ranges over functions; no condition but what each law names.
  The worker's beginning, joined; no condition but what each law names.
  The worker, whole; no condition but what each law names.
-/
import Derived.Test.YtcdhmnefmbcmaaaJau
import Derived.Test.YtcdhmnefmbcmaaaJao
import Derived.Conc.DeferLaws
namespace Go.Proofs.Ytcdhmnefmbcmaaa
open Go Go.Conc Go.RowKit

section
variable {P : Program} {mn : Bool} {fn : FuncId} {T : Array Value} {k : List Item} {D : List Deferred} {cs : List Frame} {w w' : World} {kd : Bool}

/-- a range over a function begins -/
theorem s_range {f : Operand} {g : FuncId} {q : Array Value} {ps : Array Tmp} {a b : Code} {gf : Func} (hf : ev T f = .func (.func g) #[] q) (hg : P.funcs[g]? = some gf) (hb : gf.body.isNone = false) (hn : (gf.name == "runtime.NumGoroutine") = false) :
    stepG P mn (G (fr fn T (.code (.rangeFunc f ps a b) :: k) D none kd) cs) w =
      .go (G (Frame.enter P g (#[.func (.yield (w.heap.size + 1)) #[] #[]] ++ q) .normal) (fr fn T (.inRangeFunc (w.heap.size + 1) :: k) ({ target := .collected w.heap.size, args := #[] } :: D) none kd :: cs))
        { w with heap := (w.heap.push (.deferred (some []))).push (.loop { state := .ready, pending := none, fn := fn, tmps := T, params := ps, assign := a, body := b, defers := w.heap.size }) } #[] := by
  have h1 : (Instr.enterLoop fn T ps a b none).runT P w #[] = (.ok (w.heap.size + 1, [{ target := .collected w.heap.size, args := #[] }]) { w with heap := (w.heap.push (.deferred (some []))).push (.loop { state := .ready, pending := none, fn := fn, tmps := T, params := ps, assign := a, body := b, defers := w.heap.size }) }, #[]) := by
    simp only [Instr.enterLoop, newObj, bind, Sem.bind, pure, Sem.runT, Array.size_push]
  show stepG.exec P mn true (fr fn T (.code (.rangeFunc f ps a b) :: k) D none kd) cs none w = _
  unfold stepG.exec
  simp only [show (fr fn T (.code (.rangeFunc f ps a b) :: k) D none kd).todo = .code (.rangeFunc f ps a b) :: k from rfl, show (fr fn T (.code (.rangeFunc f ps a b) :: k) D none kd).fn = fn from rfl, show (fr fn T (.code (.rangeFunc f ps a b) :: k) D none kd).tmps = T from rfl,
    show (fr fn T (.code (.rangeFunc f ps a b) :: k) D none kd).roundOf = none from rfl, h1]
  generalize ({ w with heap := (w.heap.push (.deferred (some []))).push (.loop { state := .ready, pending := none, fn := fn, tmps := T, params := ps, assign := a, body := b, defers := w.heap.size }) } : World) = w1
  show GStep.after (seen P fn #[]) (stepG.apply P true (fr fn T (.inRangeFunc (w.heap.size + 1) :: k) ({ target := .collected w.heap.size, args := #[] } :: D) none kd) cs none (do let d ← resolve (fr fn T (.inRangeFunc (w.heap.size + 1) :: k) ({ target := .collected w.heap.size, args := #[] } :: D) none kd).eval { callee := .value f, args := #[.const (.func (.yield (w.heap.size + 1)) #[] #[])], argTypes := #[] } 0; invoke d.target d.args : Sem Next) w1) = _
  have h2 : (do let d ← resolve (fr fn T (.inRangeFunc (w.heap.size + 1) :: k) ({ target := .collected w.heap.size, args := #[] } :: D) none kd).eval { callee := .value f, args := #[.const (.func (.yield (w.heap.size + 1)) #[] #[])], argTypes := #[] } 0; invoke d.target d.args : Sem Next) = callFunc g (#[.func (.yield (w.heap.size + 1)) #[] #[]] ++ q) := by
    rw [fr_eval']
    simp only [resolve, hf, List.map_toArray, List.map_cons, List.map_nil]
    rfl
  rw [h2]
  have h3 : (callFunc g (#[.func (.yield (w.heap.size + 1)) #[] #[]] ++ q)).runT P w1 #[] = (.ok (.enter g (#[.func (.yield (w.heap.size + 1)) #[] #[]] ++ q)) w1, #[]) := by
    unfold callFunc
    show Sem.runT P (Sem.program _) w1 #[] = _
    simp only [Sem.runT, Sem.bind]
    rw [hg]
    simp only [hb, hn, Bool.false_eq_true, if_false]
    rfl
  simp only [stepG.apply, if_true, h3]
  cases kd <;> rfl
/-- .. and ends -/
theorem s_endL {l : Nat} {r : Loop} (hl : w.heap[l]? = some (.loop r)) (hs : (r.state == .busy) = false) : stepG P mn (G (fr fn T (.endRangeFunc l :: k) D none kd) cs) w =
    .go (G (fr fn T ((r.pending.map Item.code).toList ++ k) D none kd) cs) { w with heap := w.heap.setIfInBounds l (.loop { r with state := .exhausted }) } (seen P fn #[⟨.obj l, false, false⟩, ⟨.obj l, true, false⟩]) := by
  have h2 : (Instr.endLoop l).runT P w #[] = (.ok r.pending { w with heap := w.heap.setIfInBounds l (.loop { r with state := .exhausted }) }, #[⟨.obj l, false, false⟩, ⟨.obj l, true, false⟩]) := by
    unfold Instr.endLoop
    rw [t_getLoop hl]
    simp only [hs, Bool.false_eq_true, if_false]
    show Sem.runT P (setObj l _ >>= _) w _ = _
    rw [t_setLoop hl]
    rfl
  show stepG.exec P mn true (fr fn T (.endRangeFunc l :: k) D none kd) cs none w = _
  unfold stepG.exec
  simp only [show (fr fn T (.endRangeFunc l :: k) D none kd).todo = .endRangeFunc l :: k from rfl, h2]
  rfl
/-- the loops' deferred calls are taken: there are none -/
theorem s_take {d : Nat} (hl : w.heap[d]? = some (.deferred (some []))) : stepG P mn (G { fr fn T k ({ target := .collected d, args := #[] } :: D) none kd with mode := .returning } cs) w =
    .go (G { fr fn T k D none kd with mode := .returning } cs) { w with heap := w.heap.setIfInBounds d (.deferred none) } (seen P fn #[⟨.obj d, false, false⟩, ⟨.obj d, true, false⟩]) := by
  have h2 : (Instr.takeDeferred d).runT P w #[] = (.ok [] { w with heap := w.heap.setIfInBounds d (.deferred none) }, #[⟨.obj d, false, false⟩, ⟨.obj d, true, false⟩]) := by
    show Sem.runT P (Sem.getObj d _) w #[] = _
    simp only [Sem.runT, hl]
    show Sem.runT P (Sem.setObj d _ _) w _ = _
    simp only [Sem.runT, hl]
    rfl
  show unwind P mn { fr fn T k ({ target := .collected d, args := #[] } :: D) none kd with mode := .returning } cs none w = _
  unfold unwind
  simp only [fr, h2]
  rfl
end

end Go.Proofs.Ytcdhmnefmbcmaaa

namespace Go.Proofs.Ytcdhmnefmbcmaaa
open Go Go.Conc Go.RowKit Go.ConcX Go.ConcX.Gen

/-- the worker's blocks, the deferred lists as they stand -/
noncomputable def Lv (W : WB) (x : List (Nat × Obj)) (s1 s2 : LS) (e1 e2 : Option (List Deferred)) : List (Nat × Obj) :=
  (W.l1, lp 25 Try.f25 W.T1 W.d1 s1) :: (W.l2, lp 22 Try.f22 W.T2 W.d2 s2) :: (W.d1, .deferred e1) :: (W.d2, .deferred e2) :: (W.bx ++ x)
theorem Lv_Lw {W : WB} {x : List (Nat × Obj)} {s1 s2 : LS} : Lw W x s1 s2 = Lv W x s1 s2 (some []) (some []) := rfl

def LS.gone (s : LS) : LS := ⟨.exhausted, s.pd⟩

section
variable {C : Cx} (hP : C.P = Try.prog) {s : Bool} {kk : Nat} {R : RF C.SR} (hR : R.Ok) {Gb : Nat → Prop} {W : WB} (hW : W.Ok) {x : List (Nat × Obj)} (hx : ∀ p ∈ x, isCells p.2) {g g' : Goroutine} {s1 s2 : LS} {e1 e2 : Option (List Deferred)}
 include hP hR hW hx

theorem pv_l1 {s1' : LS} {fn : FuncId} (h : ∀ w : World, w.heap[W.l1]? = some (lp 25 Try.f25 W.T1 W.d1 s1) → stepG Try.prog false g w = .go g' { w with heap := w.heap.setIfInBounds W.l1 (lp 25 Try.f25 W.T1 W.d1 s1') } (seen Try.prog fn #[⟨.obj W.l1, false, false⟩, ⟨.obj W.l1, true, false⟩]))
    (hr : g.status = .running) (next : PW C (.work s) kk g' (ow R Gb (Lv W x s1' s2 e1 e2))) : PW C (.work s) kk g (ow R Gb (Lv W x s1 s2 e1 e2)) := by
  refine pw_turn hP hR (b := W.l1) (List.mem_cons_self ..) lp_not_cells (fun y => by simp [Lv]) (fun p hp => ?_) (es := #[⟨.obj W.l1, false, false⟩, ⟨.obj W.l1, true, false⟩]) (by simp) (fun w hw => ⟨_, h w hw, fun e he => seen_sub he⟩) hr next
  simp only [Lv, List.mem_cons, List.mem_append] at hp
  rcases hp with rfl | rfl | rfl | rfl | hp | hp
  · exact .inl rfl
  · refine .inr ⟨by simp [Lv], fun e => ?_⟩
    simp [lp] at e
  · exact .inr ⟨by simp [Lv], fun e => by cases e⟩
  · exact .inr ⟨by simp [Lv], fun e => by cases e⟩
  · exact .inr ⟨by simp [Lv, hp], fun e => absurd (e ▸ hW.bx p hp) lp_not_cells⟩
  · exact .inr ⟨by simp [Lv, hp], fun e => absurd (e ▸ hx p hp) lp_not_cells⟩
theorem pv_l2 {s2' : LS} {fn : FuncId} (h : ∀ w : World, w.heap[W.l2]? = some (lp 22 Try.f22 W.T2 W.d2 s2) → stepG Try.prog false g w = .go g' { w with heap := w.heap.setIfInBounds W.l2 (lp 22 Try.f22 W.T2 W.d2 s2') } (seen Try.prog fn #[⟨.obj W.l2, false, false⟩, ⟨.obj W.l2, true, false⟩]))
    (hr : g.status = .running) (next : PW C (.work s) kk g' (ow R Gb (Lv W x s1 s2' e1 e2))) : PW C (.work s) kk g (ow R Gb (Lv W x s1 s2 e1 e2)) := by
  refine pw_turn hP hR (b := W.l2) (List.mem_cons_of_mem _ (List.mem_cons_self ..)) lp_not_cells (fun y => by simp [Lv]) (fun p hp => ?_) (es := #[⟨.obj W.l2, false, false⟩, ⟨.obj W.l2, true, false⟩]) (by simp) (fun w hw => ⟨_, h w hw, fun e he => seen_sub he⟩) hr next
  simp only [Lv, List.mem_cons, List.mem_append] at hp
  rcases hp with rfl | rfl | rfl | rfl | hp | hp
  · refine .inr ⟨by simp [Lv], fun e => ?_⟩
    simp [lp] at e
  · exact .inl rfl
  · exact .inr ⟨by simp [Lv], fun e => by cases e⟩
  · exact .inr ⟨by simp [Lv], fun e => by cases e⟩
  · exact .inr ⟨by simp [Lv, hp], fun e => absurd (e ▸ hW.bx p hp) lp_not_cells⟩
  · exact .inr ⟨by simp [Lv, hp], fun e => absurd (e ▸ hx p hp) lp_not_cells⟩
theorem pv_d1 {fn : FuncId} (h : ∀ w : World, w.heap[W.d1]? = some (.deferred (some [])) → stepG Try.prog false g w = .go g' { w with heap := w.heap.setIfInBounds W.d1 (.deferred none) } (seen Try.prog fn #[⟨.obj W.d1, false, false⟩, ⟨.obj W.d1, true, false⟩]))
    (hr : g.status = .running) (next : PW C (.work s) kk g' (ow R Gb (Lv W x s1 s2 none e2))) : PW C (.work s) kk g (ow R Gb (Lv W x s1 s2 (some []) e2)) := by
  refine pw_turn hP hR (b := W.d1) (ob := .deferred (some [])) (ob' := .deferred none) (by simp [Lv]) def_not_cells (fun y => by simp [Lv]) (fun p hp => ?_) (es := #[⟨.obj W.d1, false, false⟩, ⟨.obj W.d1, true, false⟩]) (by simp) (fun w hw => ⟨_, h w hw, fun e he => seen_sub he⟩) hr next
  simp only [Lv, List.mem_cons, List.mem_append] at hp
  rcases hp with rfl | rfl | rfl | rfl | hp | hp
  · exact .inr ⟨by simp [Lv], fun e => by cases e⟩
  · exact .inr ⟨by simp [Lv], fun e => by cases e⟩
  · exact .inl rfl
  · exact .inr ⟨by simp [Lv], fun _ => Ne.symm hW.dd⟩
  · exact .inr ⟨by simp [Lv, hp], fun e => absurd (e ▸ hW.bx p hp) def_not_cells⟩
  · exact .inr ⟨by simp [Lv, hp], fun e => absurd (e ▸ hx p hp) def_not_cells⟩
theorem pv_d2 {fn : FuncId} (h : ∀ w : World, w.heap[W.d2]? = some (.deferred (some [])) → stepG Try.prog false g w = .go g' { w with heap := w.heap.setIfInBounds W.d2 (.deferred none) } (seen Try.prog fn #[⟨.obj W.d2, false, false⟩, ⟨.obj W.d2, true, false⟩]))
    (hr : g.status = .running) (next : PW C (.work s) kk g' (ow R Gb (Lv W x s1 s2 e1 none))) : PW C (.work s) kk g (ow R Gb (Lv W x s1 s2 e1 (some []))) := by
  refine pw_turn hP hR (b := W.d2) (ob := .deferred (some [])) (ob' := .deferred none) (by simp [Lv]) def_not_cells (fun y => by simp [Lv]) (fun p hp => ?_) (es := #[⟨.obj W.d2, false, false⟩, ⟨.obj W.d2, true, false⟩]) (by simp) (fun w hw => ⟨_, h w hw, fun e he => seen_sub he⟩) hr next
  simp only [Lv, List.mem_cons, List.mem_append] at hp
  rcases hp with rfl | rfl | rfl | rfl | hp | hp
  · exact .inr ⟨by simp [Lv], fun e => by cases e⟩
  · exact .inr ⟨by simp [Lv], fun e => by cases e⟩
  · exact .inr ⟨by simp [Lv], fun _ => hW.dd⟩
  · exact .inl rfl
  · exact .inr ⟨by simp [Lv, hp], fun e => absurd (e ▸ hW.bx p hp) def_not_cells⟩
  · exact .inr ⟨by simp [Lv, hp], fun e => absurd (e ▸ hx p hp) def_not_cells⟩
end

/-- a goroutine's bottom frame, its call under way -/
noncomputable def gx : Frame := { (default : Frame) with fn := Try.prog.funcs.size, mode := .panicking [goexitEntry] }
/-- the worker is gone -/
theorem q_out {T : Array Value} {k : List Item} : QuitsD Try.prog 2 0 (G { fr 25 T k [] none true with mode := .returning } [gx]) := by
  refine .inr ⟨rfl, G gx [], #[], by simp, fun w => ?_, .inr ⟨rfl, { G gx [] with status := .finished }, #[], by simp, fun w => ?_, ⟨rfl, rfl⟩⟩⟩
  · show unwind Try.prog false { fr 25 T k [] none true with mode := .returning } [gx] none w = _
    unfold unwind
    simp only [fr, Try.func25, res_none (f := Try.f25) rfl w, doReturn, GStep.after, G]
    rfl
  · show unwind Try.prog false gx [] none w = _
    rfl

def dClose (bc : Nat) : Deferred := { target := .builtin .close #[56] 0 #[false], args := #[.chan (some bc)] }

/-- the channel is closed -/
theorem s_close {T : Array Value} {k : List Item} {D : List Deferred} {bc : Nat} {w w' : World} (h : closeCh w bc w') :
    stepG Try.prog false (G { fr 25 T k (dClose bc :: D) none true with mode := .returning } [gx]) w = .go (G { fr 25 T k D none true with mode := .returning } [gx]) w' #[⟨.obj bc, false, true⟩, ⟨.obj bc, true, true⟩] := by
  obtain ⟨s, hs, rfl⟩ := h
  have hr := run_close_open (P := Try.prog) #[56] 0 hs
  have he := events_close_open (P := Try.prog) (es := #[]) #[56] 0 hs
  show unwind Try.prog false { fr 25 T k (dClose bc :: D) none true with mode := .returning } [gx] none w = _
  unfold unwind
  simp [fr, dClose, callDeferred, invoke, go_sem, hr, he, GStep.after, seen, G]

end Go.Proofs.Ytcdhmnefmbcmaaa

namespace Go.Proofs.Ytcdhmnefmbcmaaa
open Go Go.Conc Go.RowKit Go.Conc.Lib Go.ConcX Go.ConcX.Gen

section
variable {C : Cx} (hP : C.P = Try.prog) {s : Bool} {kk : Nat} {R : RF C.SR} (hR : R.Ok) {Gb : Nat → Prop} {W : WB} (hW : W.Ok) {x : List (Nat × Obj)} (hx : ∀ p ∈ x, isCells p.2) {s1 s2 : LS} {e1 e2 : Option (List Deferred)}
  {L : WgLink} (H : WgLib Try.prog L)
 include hP H

/-- the channel is closed, Done is called -/
theorem w_done {T : Array Value} {k : List Item} {o : Own C.SR} (hfw : C.FW o) (hs : s = true ∨ kk = C.N) (hlive : ∃ w, Live C w) :
    PW C (.work s) kk (G { fr 25 T k [dClose C.bc, dcall L.done #[.pointer (some ⟨C.wg, 0, none⟩)]] none true with mode := .returning } [gx]) o := by
  refine .clo (b' := G { fr 25 T k [dcall L.done #[.pointer (some ⟨C.wg, 0, none⟩)]] none true with mode := .returning } [gx]) (es := #[⟨.obj C.bc, false, true⟩, ⟨.obj C.bc, true, true⟩]) rfl rfl rfl hs (fun e he => by simpa using he) (fun w w' _ h => by rw [hP]; exact s_close h) ?_
  obtain ⟨w0, h0⟩ := hlive
  refine .free (fun _ => G ((baseD L.done).at ⟨#[.pointer (some ⟨C.wg, 0, none⟩), undef, undef, undef], []⟩ [.code (body_done L)]) [{ fr 25 T k [] none true with mode := .returning }, gx]) rfl rfl (fun w _ => ⟨rfl, ?_⟩) fun w _ => ?_
  · rw [hP]
    exact stepG_unwind_enter (b := fr 25 T k [] none true) (a := ⟨T, [dcall L.done #[.pointer (some ⟨C.wg, 0, none⟩)]]⟩) (todo := k) rfl H.f_done rfl rfl
  · exact done_fin H hP hfw h0 rfl q_out

 include hR hW hx
/-- the own loop ends -/
theorem w_tail1 {T : Array Value} (hs : s = true ∨ kk = C.N) (hlive : ∃ w, Live C w) (hst : (s1.st == .busy) = false) (hpd : s1.pd = none ∨ s1.pd = some .ret)
    (hfw : C.FW (ow R Gb (Lv W x s1.gone s2 none none))) :
    PW C (.work s) kk (G (fr 25 T [.endRangeFunc W.l1, .inBlock 0] [{ target := .collected W.d1, args := #[] }, dClose C.bc, dcall L.done #[.pointer (some ⟨C.wg, 0, none⟩)]] none true) [gx]) (ow R Gb (Lv W x s1 s2 (some []) none)) := by
  refine pv_l1 (fn := 25) (s1' := s1.gone) hP hR hW hx (fun w h => s_endL h hst) rfl ?_
  have fin : ∀ k, PW C (.work s) kk (G { fr 25 T k [{ target := .collected W.d1, args := #[] }, dClose C.bc, dcall L.done #[.pointer (some ⟨C.wg, 0, none⟩)]] none true with mode := .returning } [gx]) (ow R Gb (Lv W x s1.gone s2 (some []) none)) := fun k => by
    refine pv_d1 (fn := 25) hP hR hW hx (fun w h => s_take h) rfl ?_
    exact w_done hP H hfw hs hlive
  rcases hpd with h | h
  · simp only [h, Option.map_none, Option.toList_none, List.nil_append]
    refine pw_q hP (fun w => s_inBlock) rfl ?_
    refine pw_q hP (fun w => s_end) rfl ?_
    exact fin _
  · simp only [h, Option.map_some, Option.toList_some, List.cons_append, List.nil_append]
    refine pw_q hP (fun w => s_ret) rfl ?_
    exact fin _

/-- the loop of the sequence's function ends -/
theorem w_tail2 {T T' : Array Value} (hs : s = true ∨ kk = C.N) (hlive : ∃ w, Live C w) (hst : (s1.st == .busy) = false) (hpd : s1.pd = none ∨ s1.pd = some .ret) (hst2 : (s2.st == .busy) = false) (hpd2 : s2.pd = none ∨ s2.pd = some .ret)
    (hfw : C.FW (ow R Gb (Lv W x s1.gone s2.gone none none))) :
    PW C (.work s) kk (G (fr 22 T [.endRangeFunc W.l2, .inBlock 0] [{ target := .collected W.d2, args := #[] }] none)
      [fr 25 T' [.inRangeFunc W.l1, .inBlock 0] [{ target := .collected W.d1, args := #[] }, dClose C.bc, dcall L.done #[.pointer (some ⟨C.wg, 0, none⟩)]] none true, gx]) (ow R Gb (Lw W x s1 s2)) := by
  rw [Lv_Lw]
  refine pv_l2 (fn := 22) (s2' := s2.gone) hP hR hW hx (fun w h => s_endL h hst2) rfl ?_
  have fin : ∀ k, PW C (.work s) kk (G { fr 22 T k [{ target := .collected W.d2, args := #[] }] none with mode := .returning }
      [fr 25 T' [.inRangeFunc W.l1, .inBlock 0] [{ target := .collected W.d1, args := #[] }, dClose C.bc, dcall L.done #[.pointer (some ⟨C.wg, 0, none⟩)]] none true, gx]) (ow R Gb (Lv W x s1 s2.gone (some []) (some []))) := fun k => by
    refine pv_d2 (fn := 22) hP hR hW hx (fun w h => s_take h) rfl ?_
    refine pw_leave hP Try.func22 (fun w => res_none rfl w) ?_
    exact w_tail1 hP hR hW hx H hs hlive hst hpd hfw
  rcases hpd2 with h | h
  · simp only [h, Option.map_none, Option.toList_none, List.nil_append]
    refine pw_q hP (fun w => s_inBlock) rfl ?_
    refine pw_q hP (fun w => s_end) rfl ?_
    exact fin _
  · simp only [h, Option.map_some, Option.toList_some, List.cons_append, List.nil_append]
    refine pw_q hP (fun w => s_ret) rfl ?_
    exact fin _
end

end Go.Proofs.Ytcdhmnefmbcmaaa

namespace Go.Proofs.Ytcdhmnefmbcmaaa
open Go Go.Conc Go.RowKit Go.Conc.Lib Go.ConcX Go.ConcX.Gen

section
variable {C : Cx} {P : Program} (hP : C.P = P) {s : Bool} {kk : Nat} {R : RF C.SR} {Gb : Nat → Prop} {L : List (Nat × Obj)}
  {fn : FuncId} {T : Array Value} {k : List Item} {D : List Deferred} {cs : List Frame} {kd : Bool}
 include hP

theorem pw_range {f : Operand} {g : FuncId} {q : Array Value} {ps : Array Tmp} {a b : Code} {gf : Func} (hf : ev T f = .func (.func g) #[] q) (hg : P.funcs[g]? = some gf) (hb : gf.body.isNone = false) (hn : (gf.name == "runtime.NumGoroutine") = false)
    (next : ∀ d, (∃ w, (ow R Gb L).I w ∧ w.heap.size = d) → PW C (.work s) kk (G (Frame.enter P g (#[.func (.yield (d + 1)) #[] #[]] ++ q) .normal) (fr fn T (.inRangeFunc (d + 1) :: k) ({ target := .collected d, args := #[] } :: D) none kd :: cs))
      (ow R Gb ((d, .deferred (some [])) :: (d + 1, .loop { state := .ready, pending := none, fn := fn, tmps := T, params := ps, assign := a, body := b, defers := d }) :: L))) :
    PW C (.work s) kk (G (fr fn T (.code (.rangeFunc f ps a b) :: k) D none kd) cs) (ow R Gb L) := by
  refine pw_news hP (fun n => [.deferred (some []), .loop { state := .ready, pending := none, fn := fn, tmps := T, params := ps, assign := a, body := b, defers := n }]) (fun _ _ => rfl)
    (fun d => G (Frame.enter P g (#[.func (.yield (d + 1)) #[] #[]] ++ q) .normal) (fr fn T (.inRangeFunc (d + 1) :: k) ({ target := .collected d, args := #[] } :: D) none kd :: cs)) (fun w hw' => ?_) rfl fun n hn => ?_
  · rw [s_range hf hg hb hn]
    congr 1
  · have h := next n hn
    simp only [List.length_cons, List.length_nil, Nat.zero_add, Nat.reduceAdd, List.range, List.range.loop, List.map_cons, List.map_nil, List.cons_append, List.nil_append]
    exact h
end

section
variable {C : Cx} (hP : C.P = Try.prog) {s : Bool} {kk : Nat} {R : RF C.SR} {Gb : Nat → Prop} {L : List (Nat × Obj)} {cs : List Frame}
 include hP
set_option maxRecDepth 10000 in
theorem w23 {D : Option Addr} {n c : Nat} {sz : Nat} (hsz : 1 ≤ sz) {c22 : Frame}
    (next : ∀ A2 B2, PW C (.work s) kk (G (c22.finish (.func (.func 29) #[] #[.pointer (some ⟨A2, 0, none⟩), .pointer (some ⟨B2, 0, none⟩)])) cs) (ow R Gb ((B2, .cells #[.int .i64 (sz : Int)] 3) :: (A2, .cells #[.slice D n c] 22) :: L))) :
    PW C (.work s) kk (G (Frame.enter Try.prog 23 #[.slice D n c, .int .i64 (sz : Int)] .normal) (c22 :: cs)) (ow R Gb L) := by
  rw [enter_fr Try.func23 rfl]
  simp only [Try.f23, List.size_toArray, List.length_cons, List.length_nil, Nat.reduceAdd, Nat.reduceSub, Array.replicate_succ, Array.replicate_zero, List.push_toArray, List.append_toArray, List.nil_append, List.cons_append]
  refine pw_q hP (fun w => s_seq) rfl ?_
  refine pw_q hP (fun w => s_region) rfl ?_
  simp only [List.size_toArray, List.length_cons, List.length_nil, Nat.reduceAdd, Nat.zero_add, List.range, List.range.loop]
  refine pw_new1 hP (fun m => .pointer (some ⟨m, 0, none⟩)) (.cells #[.slice D n c] 22) rfl rfl (.inl rfl) (fun w hw => ?_) (fun w hw => ?_) fun A2 hA => ?_
  · unfold ev; simp [go_sem, execOp, Instr.box]
  · unfold ev; simp [go_sem, execOp, Instr.box]
  simp only [put]; walk_nrm
  refine pw_new1 hP (fun m => .pointer (some ⟨m, 0, none⟩)) (.cells #[.int .i64 (sz : Int)] 3) rfl rfl (.inl rfl) (fun w hw => ?_) (fun w hw => ?_) fun B2 hB => ?_
  · unfold ev; simp [go_sem, execOp, Instr.box]
  · unfold ev; simp [go_sem, execOp, Instr.box]
  simp only [put]; walk_nrm
  have fB : ∀ (w : World), (ow R Gb ((B2, .cells #[.int .i64 (sz : Int)] 3) :: (A2, .cells #[.slice D n c] 22) :: L)).I w → w.cell? ⟨B2, 0, none⟩ = some (.int .i64 (sz : Int)) := fun w hw => by
    have h := hw.1 (B2, .cells #[.int .i64 (sz : Int)] 3) (List.mem_cons_self ..)
    unfold World.cell?
    rw [h]; rfl
  have rB : (ow R Gb ((B2, .cells #[.int .i64 (sz : Int)] 3) :: (A2, .cells #[.slice D n c] 22) :: L)).O B2 := .inr (List.mem_map_of_mem (List.mem_cons_self ..))
  refine pw_vl hP (v := ?_) rfl rfl (by first | exact .inl rfl | exact .inr (fun c h => by cases h)) (fun w hw => ?_) (fun w hw => ?_) ?_
  rotate_left
  · unfold ev; go_simp; try exact rfl
  · unfold ev; simp [go_sem]
  simp only [put]; walk_nrm
  refine pw_q hP (fun w => s_region_end) rfl ?_
  refine pw_q hP (fun w => s_seq) rfl ?_
  refine pw_q hP (fun w => s_seq) rfl ?_
  refine pw_q hP (fun w => s_region) rfl ?_
  simp only [List.size_toArray, List.length_cons, List.length_nil, Nat.reduceAdd, Nat.zero_add, List.range, List.range.loop]
  refine pw_vl hP (v := ?_) rfl rfl (by first | exact .inl rfl | exact .inr (fun c h => by cases h)) (fun w hw => ?_) (fun w hw => ?_) ?_
  rotate_left
  · have f0 := fB w hw; unfold ev; go_simp; exact rfl
  · have f0 := fB w hw; unfold ev; simp [go_sem, f0]; exact ⟨.inl rB,rfl⟩
  simp only [put]; walk_nrm
  refine pw_vl hP (v := ?_) rfl rfl (by first | exact .inl rfl | exact .inr (fun c h => by cases h)) (fun w hw => ?_) (fun w hw => ?_) ?_
  rotate_left
  · unfold ev; go_simp; try exact rfl
  · unfold ev; simp [go_sem]
  simp only [put]; walk_nrm
  have hlt : decide ((sz : Int) < 1) = false := by simp; omega
  simp only [hlt]
  refine pw_q hP (fun w => s_region_end) rfl ?_
  refine pw_q hP (fun w => s_cond (b := false) rfl) rfl ?_
  simp only [if_true, Bool.false_eq_true, ↓reduceIte]
  refine pw_q hP (fun w => s_skip) rfl ?_
  refine pw_q hP (fun w => s_seq) rfl ?_
  refine pw_q hP (fun w => s_region) rfl ?_
  simp only [List.size_toArray, List.length_cons, List.length_nil, Nat.reduceAdd, Nat.zero_add, List.range, List.range.loop]
  refine pw_vl hP (v := ?_) rfl rfl (by first | exact .inl rfl | exact .inr (fun c h => by cases h)) (fun w hw => ?_) (fun w hw => ?_) ?_
  rotate_left
  · unfold ev; go_simp; try exact rfl
  · unfold ev; simp [go_sem, Instr.makeFunc]
  simp only [put]; walk_nrm
  refine pw_vl hP (v := ?_) rfl rfl (by first | exact .inl rfl | exact .inr (fun c h => by cases h)) (fun w hw => ?_) (fun w hw => ?_) ?_
  rotate_left
  · unfold ev; go_simp; try exact rfl
  · unfold ev; simp [go_sem]
  simp only [put]; walk_nrm
  refine pw_q hP (fun w => s_region_end) rfl ?_
  refine pw_q hP (fun w => s_ret) rfl ?_
  exact pw_leave hP Try.func23 (fun w => res_tmp (t := 4) rfl w) (next A2 B2)
end
end Go.Proofs.Ytcdhmnefmbcmaaa

namespace Go.Proofs.Ytcdhmnefmbcmaaa
open Go Go.Conc Go.RowKit Go.Conc.Lib Go.ConcX Go.ConcX.Gen

/-- what the worker reads of the sequence -/
structure SeenP (C : Cx) (R : RF C.SR) (xb p1 p2 : Nat) (D : Option Addr) (n c sz : Nat) : Prop where
  xS : C.SR xb
  s1 : C.SR p1
  s2 : C.SR p2
  x : ∀ w, R.R w → w.cell? ⟨xb, 0, none⟩ = some (.func (.func 22) #[] #[.pointer (some ⟨p1, 0, none⟩), .pointer (some ⟨p2, 0, none⟩)])
  c1 : ∀ w, R.R w → w.cell? ⟨p1, 0, none⟩ = some (.slice D n c)
  c2 : ∀ w, R.R w → w.cell? ⟨p2, 0, none⟩ = some (.int .i64 (sz : Int))

theorem ev_chunk {p : Array Value} {w : World} : (callFunc 23 p).events Try.prog w #[] = #[] := by rfl

section
variable {C : Cx} (hP : C.P = Try.prog) {s : Bool} {kk : Nat} {R : RF C.SR} {Gb : Nat → Prop} {L : List (Nat × Obj)} {cs : List Frame}
 include hP

set_option maxRecDepth 10000 in
theorem w22s {xb p1 p2 : Nat} {D : Option Addr} {n c sz : Nat} (hS : SeenP C R xb p1 p2 D n c sz) (hsz : 1 ≤ sz) {l1 : Nat} {c25 : Frame}
    (next : ∀ yb A2 B2 d2, (∀ z ∈ L.map Prod.fst, z < d2) → PW C (.work s) kk
      (G (Frame.enter Try.prog 29 (#[.func (.yield (d2 + 1)) #[] #[]] ++ #[.pointer (some ⟨A2, 0, none⟩), .pointer (some ⟨B2, 0, none⟩)]) .normal)
        (fr 22 (tm22 (.func (.yield l1) #[] #[]) (.pointer (some ⟨p1, 0, none⟩)) (.pointer (some ⟨p2, 0, none⟩)) yb (.slice D n c) (.int .i64 (sz : Int)) (.func (.func 29) #[] #[.pointer (some ⟨A2, 0, none⟩), .pointer (some ⟨B2, 0, none⟩)]) undef) [.inRangeFunc (d2 + 1), .inBlock 0] [{ target := .collected d2, args := #[] }] none :: c25 :: cs))
      (ow R Gb ((d2, .deferred (some [])) :: (d2 + 1, lp 22 Try.f22 (tm22 (.func (.yield l1) #[] #[]) (.pointer (some ⟨p1, 0, none⟩)) (.pointer (some ⟨p2, 0, none⟩)) yb (.slice D n c) (.int .i64 (sz : Int)) (.func (.func 29) #[] #[.pointer (some ⟨A2, 0, none⟩), .pointer (some ⟨B2, 0, none⟩)]) undef) d2 LS.ready)
        :: (B2, .cells #[.int .i64 (sz : Int)] 3) :: (A2, .cells #[.slice D n c] 22) :: (yb, .cells #[.func (.yield l1) #[] #[]] 53) :: L))) :
    PW C (.work s) kk (G (Frame.enter Try.prog 22 (#[.func (.yield l1) #[] #[]] ++ #[.pointer (some ⟨p1, 0, none⟩), .pointer (some ⟨p2, 0, none⟩)]) .normal) (c25 :: cs)) (ow R Gb L) := by
  rw [enter_fr Try.func22 rfl]
  simp only [Try.f22, List.size_toArray, List.length_cons, List.length_nil, Nat.reduceAdd, Nat.reduceSub, Array.replicate_succ, Array.replicate_zero, List.push_toArray, List.append_toArray, List.nil_append, List.cons_append]
  refine pw_q hP (fun w => s_seq) rfl ?_
  refine pw_q hP (fun w => s_region) rfl ?_
  simp only [List.size_toArray, List.length_cons, List.length_nil, Nat.zero_add, List.range, List.range.loop]
  refine pw_new1 hP (fun m => .pointer (some ⟨m, 0, none⟩)) (.cells #[.func (.yield l1) #[] #[]] 53) rfl rfl (.inl rfl) (fun w hw => ?_) (fun w hw => ?_) fun yb hyb => ?_
  · unfold ev; simp [go_sem, execOp, Instr.box]
  · unfold ev; simp [go_sem, execOp, Instr.box]
  simp only [put]; walk_nrm
  have f1 : ∀ (w : World), (ow R Gb ((yb, .cells #[.func (.yield l1) #[] #[]] 53) :: L)).I w → w.cell? ⟨p1, 0, none⟩ = some (.slice D n c) := fun w hw => hS.c1 w hw.2
  have f2 : ∀ (w : World), (ow R Gb ((yb, .cells #[.func (.yield l1) #[] #[]] 53) :: L)).I w → w.cell? ⟨p2, 0, none⟩ = some (.int .i64 (sz : Int)) := fun w hw => hS.c2 w hw.2
  have r1 := hS.s1
  have r2 := hS.s2
  refine pw_q hP (fun w => s_region_end) rfl ?_
  refine pw_q hP (fun w => s_seq) rfl ?_
  refine pw_q hP (fun w => s_region) rfl ?_
  simp only [List.size_toArray, List.length_cons, List.length_nil, Nat.reduceAdd, Nat.zero_add, List.range, List.range.loop]
  refine pw_vl hP (v := ?_) rfl rfl (by first | exact .inl rfl | exact .inr (fun c h => by cases h)) (fun w hw => ?_) (fun w hw => ?_) ?_
  rotate_left
  · have f0 := f1 w hw; have f1 := f2 w hw; unfold ev; go_simp; exact rfl
  · have f0 := f1 w hw; have f1 := f2 w hw; unfold ev; simp [go_sem, f0]; exact ⟨.inr r1,rfl⟩
  simp only [put]; walk_nrm
  refine pw_vl hP (v := ?_) rfl rfl (by first | exact .inl rfl | exact .inr (fun c h => by cases h)) (fun w hw => ?_) (fun w hw => ?_) ?_
  rotate_left
  · have f0 := f1 w hw; have f1 := f2 w hw; unfold ev; go_simp; exact rfl
  · have f0 := f1 w hw; have f1 := f2 w hw; unfold ev; simp [go_sem, f1]; exact ⟨.inr r2,rfl⟩
  simp only [put]; walk_nrm
  refine pw_enter hP (f := 23) (args := #[.slice D n c, .int .i64 (sz : Int)]) rfl rfl (.inl rfl) (fun w hw => ?_) (fun w hw => ?_) ?_
  · rw [exec_call (op := _) (f := 23) (vs := #[.slice D n c, .int .i64 (sz : Int)]) rfl (by simp only [List.map_toArray, List.map_cons, List.map_nil]; rfl)]; rfl
  · rw [exec_call (op := _) (f := 23) (vs := #[.slice D n c, .int .i64 (sz : Int)]) rfl (by simp only [List.map_toArray, List.map_cons, List.map_nil]; rfl), ev_chunk]; intro e he; simp at he
  refine w23 hP hsz fun A2 B2 => ?_
  rw [fr_finish (o := _) rfl]
  simp only [put]; walk_nrm
  refine pw_q hP (fun w => s_region_end) rfl ?_
  refine pw_q hP (fun w => s_block) rfl ?_
  refine pw_range hP (g := 29) (q := #[.pointer (some ⟨A2, 0, none⟩), .pointer (some ⟨B2, 0, none⟩)]) rfl Try.func29 rfl rfl fun d2 ⟨w0, hw0, e0⟩ => ?_
  refine next yb A2 B2 d2 fun z hz => ?_
  obtain ⟨p, hp, rfl⟩ := List.mem_map.1 hz
  rw [← e0]
  exact (Array.getElem?_eq_some_iff.1 (hw0.1 p (List.mem_cons_of_mem _ (List.mem_cons_of_mem _ (List.mem_cons_of_mem _ hp))))).1
end
end Go.Proofs.Ytcdhmnefmbcmaaa

namespace Go.Proofs.Ytcdhmnefmbcmaaa
open Go Go.Conc Go.RowKit Go.Conc.Lib Go.ConcX Go.ConcX.Gen

theorem perm7 {α : Type} {a b c d e f g : α} : ∀ p, p ∈ [a, b, c, d, e, f, g] ↔ p ∈ [g, b, f, a, c, d, e] := by
  intro p
  simp only [List.mem_cons, List.not_mem_nil, or_false]
  constructor <;> rintro (h | h | h | h | h | h | h) <;> simp [h]

theorem exec_deferF {P : Program} {T : Array Value} {op : Oper} {g : FuncId} {xs : Array Operand} {ats : Array TypeId} {w : World} (hop : op.op = .defer { callee := .value (.func g), args := xs, argTypes := ats }) : (execOp (ev T) op).run P w = .ok (.defer (dcall g (xs.map (ev T)))) w ∧ (execOp (ev T) op).events P w #[] = #[] := by
  have ef : ev T (.func g) = .func (.func g) #[] #[] := rfl
  unfold execOp
  constructor <;> simp [hop, resolve, Deferred.ofValue, ef, dcall]
theorem exec_deferB {P : Program} {T : Array Value} {op : Oper} {b : Builtin} {xs : Array Operand} {ats : Array TypeId} {w : World} (hop : op.op = .defer { callee := .builtin b, args := xs, argTypes := ats }) : (execOp (ev T) op).run P w = .ok (.defer { target := .builtin b ats op.type (xs.map fun | .const _ => true | _ => false), args := xs.map (ev T) }) w ∧ (execOp (ev T) op).events P w #[] = #[] := by
  unfold execOp
  rw [hop]
  exact ⟨rfl, rfl⟩

theorem fin_range {fn : FuncId} {T : Array Value} {l : Nat} {k : List Item} {D : List Deferred} {v : Value} {kd : Bool} : (fr fn T (.inRangeFunc l :: k) D none kd).finish v = fr fn T (.endRangeFunc l :: k) D none kd := rfl

theorem s_born {p : Array Value} {w : World} : stepG Try.prog false (born Try.prog { target := .fn (.func 25) p, args := #[] }) w = .go (G (Frame.enter Try.prog 25 p .deferred) [gx]) w #[] := by
  have h1 : (callFunc 25 p).runT Try.prog w #[] = (.ok (.enter 25 p) w, #[]) := by rfl
  have h2 : (callFunc 25 p).events Try.prog w #[] = #[] := by rfl
  simp [born, stepG, unwind, callDeferred, invoke, h2, GStep.after, seen_none, gx, G]
  rfl

section
variable {C : Cx} (hP : C.P = Try.prog) {R : RF C.SR} (hR : R.Ok) {wg cb xb sb p1 p2 : Nat} (hS : Seen27 C R cb sb)
  {l : List UInt8} {sz c : Nat} {D : Option Addr} (hX : SeenP C R xb p1 p2 D l.length c sz)
  (hsz : 1 ≤ sz) (hle : l.length ≤ 1073741824) (hszl : sz ≤ 9223372036854775807) (hc : l.length ≤ c) (hDn : D = none → l = []) (hD : 0 < l.length → ∀ d, D = some d → C.SR d.block ∧ ∀ w, R.R w → ∀ j v, (byt l)[j]? = some v → w.cell? (d.add j) = some v)
  (hcs : ∀ k, k * sz < l.length → ∀ m cap, ¬ C.SR m → ((l.drop (k * sz)).take sz).length ≤ cap → CapOk ((l.drop (k * sz)).take sz).length 5 cap → C.Cs k (.slice (some ⟨m, 0, none⟩) ((l.drop (k * sz)).take sz).length cap) m (.cells ((byt ((l.drop (k * sz)).take sz)).toArray ++ Array.replicate (cap - ((l.drop (k * sz)).take sz).length) (.int .u8 0)) 5))
  (hN : ∀ k, l.length ≤ k * sz → (∀ j, j < k → j * sz < l.length) → k = C.N) (hlive : ∃ w, Live C w) (hfw : ∀ L, C.FW (ow R (fun _ => False) L)) (hwg : C.wg = wg)
 include hP hR hS hX hsz hle hszl hc hDn hD hcs hN hlive hfw hwg

set_option maxRecDepth 10000 in
theorem w_all : PW C (.work false) 0 (born Try.prog { target := .fn (.func 25) #[.pointer (some ⟨wg, 0, none⟩), .pointer (some ⟨cb, 0, none⟩), .pointer (some ⟨xb, 0, none⟩), .pointer (some ⟨sb, 0, none⟩)], args := #[] }) (ow R (fun _ => False) []) := by
  have HS := Lib.hid hS
  have HX := Lib.hid hX
  have Hle := Lib.hid hle
  have Hszl := Lib.hid hszl
  have Hc := Lib.hid hc
  have HDn := Lib.hid hDn
  have HD := Lib.hid hD
  have Hcs := Lib.hid hcs
  have HN := Lib.hid hN
  have Hfw := Lib.hid hfw
  have Hsz := Lib.hid hsz
  have fc : ∀ (w : World), (ow R (fun _ => False) []).I w → w.cell? ⟨cb, 0, none⟩ = some (.chan (some C.bc)) := fun w hw => hS.cb w hw.2
  have fx : ∀ (w : World), (ow R (fun _ => False) []).I w → w.cell? ⟨xb, 0, none⟩ = some (.func (.func 22) #[] #[.pointer (some ⟨p1, 0, none⟩), .pointer (some ⟨p2, 0, none⟩)]) := fun w hw => hX.x w hw.2
  have rc := hS.cbS
  have rx := hX.xS
  clear hS hX hle hszl hc hDn hD hcs hN hfw hsz
  subst hwg
  refine pw_q hP (g' := G (Frame.enter Try.prog 25 #[.pointer (some ⟨C.wg, 0, none⟩), .pointer (some ⟨cb, 0, none⟩), .pointer (some ⟨xb, 0, none⟩), .pointer (some ⟨sb, 0, none⟩)] .deferred) [gx]) (fun w => s_born) rfl ?_
  rw [enter_frD Try.func25 rfl]
  simp only [Try.f25, List.size_toArray, List.length_cons, List.length_nil, Nat.reduceAdd, Nat.reduceSub, Array.replicate_succ, Array.replicate_zero, List.push_toArray, List.append_toArray, List.nil_append, List.cons_append]
  refine pw_q hP (fun w => s_seq) rfl ?_
  refine pw_q hP (fun w => s_region) rfl ?_
  simp only [List.size_toArray, List.length_cons, List.length_nil, Nat.zero_add, List.range, List.range.loop]
  refine pw_defer hP (d := dcall link.done #[.pointer (some ⟨C.wg, 0, none⟩)]) rfl rfl (fun w hw => (exec_deferF (op := _) rfl).1.trans (by simp only [List.map_toArray, List.map_cons, List.map_nil]; rfl)) (fun w hw => no_ev (exec_deferF (op := _) rfl).2) ?_
  simp only [put]; walk_nrm
  refine pw_q hP (fun w => s_region_end) rfl ?_
  refine pw_q hP (fun w => s_seq) rfl ?_
  refine pw_q hP (fun w => s_region) rfl ?_
  simp only [List.size_toArray, List.length_cons, List.length_nil, Nat.reduceAdd, Nat.zero_add, List.range, List.range.loop]
  refine pw_vl hP (v := ?_) rfl rfl (by first | exact .inl rfl | exact .inr (fun c h => by cases h)) (fun w hw => ?_) (fun w hw => ?_) ?_
  rotate_left
  · have f0 := fc w hw; unfold ev; go_simp; exact rfl
  · have f0 := fc w hw; unfold ev; simp [go_sem, f0]; exact ⟨.inr rc,rfl⟩
  simp only [put]; walk_nrm
  refine pw_defer hP (d := dClose C.bc) rfl rfl (fun w hw => (exec_deferB (op := _) rfl).1.trans (by simp only [List.map_toArray, List.map_cons, List.map_nil]; rfl)) (fun w hw => no_ev (exec_deferB (op := _) rfl).2) ?_
  simp only [put]; walk_nrm
  refine pw_q hP (fun w => s_region_end) rfl ?_
  refine pw_q hP (fun w => s_seq) rfl ?_
  refine pw_q hP (fun w => s_region) rfl ?_
  simp only [List.size_toArray, List.length_cons, List.length_nil, Nat.zero_add, List.range, List.range.loop]
  refine pw_vl hP (v := ?_) rfl rfl (by first | exact .inl rfl | exact .inr (fun c h => by cases h)) (fun w hw => ?_) (fun w hw => ?_) ?_
  rotate_left
  · have f0 := fx w hw; unfold ev; go_simp; exact rfl
  · have f0 := fx w hw; unfold ev; simp [go_sem, f0]; exact ⟨.inr rx,rfl⟩
  simp only [put]; walk_nrm
  refine pw_q hP (fun w => s_region_end) rfl ?_
  refine pw_q hP (fun w => s_block) rfl ?_
  refine pw_range hP (g := 22) (q := #[.pointer (some ⟨p1, 0, none⟩), .pointer (some ⟨p2, 0, none⟩)]) rfl Try.func22 rfl rfl fun d1 _ => ?_
  refine w22s hP HX.out Hsz.out fun yb A2 B2 d2 hd2 => ?_
  have hdd : d1 ≠ d2 := Nat.ne_of_lt (hd2 d1 (List.mem_cons_self ..))
  obtain ⟨W, hW⟩ : ∃ W : WB, W = { l1 := d1 + 1, l2 := d2 + 1, d1 := d1, d2 := d2, T1 := tm25 C.wg cb xb sb C.bc (.func (.func 22) #[] #[.pointer (some ⟨p1, 0, none⟩), .pointer (some ⟨p2, 0, none⟩)]) undef, T2 := tm22 (.func (.yield (d1 + 1)) #[] #[]) (.pointer (some ⟨p1, 0, none⟩)) (.pointer (some ⟨p2, 0, none⟩)) yb (.slice D l.length c) (.int .i64 (sz : Int)) (.func (.func 29) #[] #[.pointer (some ⟨A2, 0, none⟩), .pointer (some ⟨B2, 0, none⟩)]) undef, bx := [(B2, .cells #[.int .i64 (sz : Int)] 3), (A2, .cells #[.slice D l.length c] 22), (yb, .cells #[.func (.yield (d1 + 1)) #[] #[]] 53)] } := ⟨_, rfl⟩
  have hWok : W.Ok := by
    refine ⟨fun p hp => ?_, by rw [hW]; exact hdd⟩
    rw [hW] at hp
    simp only [List.mem_cons, List.not_mem_nil, or_false] at hp
    rcases hp with rfl | rfl | rfl <;> exact ⟨_, _, _, rfl⟩
  have key : PW C (.work false) 0
      (G (Frame.enter Try.prog 29 (#[.func (.yield W.l2) #[] #[]] ++ #[.pointer (some ⟨A2, 0, none⟩), .pointer (some ⟨B2, 0, none⟩)]) .normal)
        [fr 22 W.T2 [.inRangeFunc W.l2, .inBlock 0] [{ target := .collected W.d2, args := #[] }] none,
         fr 25 W.T1 [.inRangeFunc W.l1, .inBlock 0] [{ target := .collected W.d1, args := #[] }, dClose C.bc, dcall link.done #[.pointer (some ⟨C.wg, 0, none⟩)]] none true, gx])
      (ow R (fun _ => False) (Lw W [] LS.ready LS.ready)) := by
    have hA : (A2, Obj.cells #[.slice D l.length c] 22) ∈ W.bx := by rw [hW]; exact List.mem_cons_of_mem _ (List.mem_cons_self ..)
    have hB : (B2, Obj.cells #[.int .i64 (sz : Int)] 3) ∈ W.bx := by rw [hW]; exact List.mem_cons_self ..
    have hY : (yb, Obj.cells #[.func (.yield W.l1) #[] #[]] 53) ∈ W.bx := by rw [hW]; exact List.mem_cons_of_mem _ (List.mem_cons_of_mem _ (List.mem_cons_self ..))
    have hT1 : W.T1 = tm25 C.wg cb xb sb C.bc (.func (.func 22) #[] #[.pointer (some ⟨p1, 0, none⟩), .pointer (some ⟨p2, 0, none⟩)]) undef := by rw [hW]
    have hT2 : W.T2 = tm22 (.func (.yield W.l1) #[] #[]) (.pointer (some ⟨p1, 0, none⟩)) (.pointer (some ⟨p2, 0, none⟩)) yb (.slice D l.length c) (.int .i64 (sz : Int)) (.func (.func 29) #[] #[.pointer (some ⟨A2, 0, none⟩), .pointer (some ⟨B2, 0, none⟩)]) undef := by rw [hW]
    clear hW
    have KA := Lib.hid hA
    have KB := Lib.hid hB
    have KY := Lib.hid hY
    have K1 := Lib.hid hT1
    have K2 := Lib.hid hT2
    have KW := Lib.hid hWok
    have KR := Lib.hid hR
    clear hA hB hY hT1 hT2 hWok hdd hd2 fc fx
    have go := w29 hP KR.out KW.out HS.out K1.out K2.out KY.out (cF := fr 22 W.T2 [.inRangeFunc W.l2, .inBlock 0] [{ target := .collected W.d2, args := #[] }] none) (cs := [fr 25 W.T1 [.inRangeFunc W.l1, .inBlock 0] [{ target := .collected W.d1, args := #[] }, dClose C.bc, dcall link.done #[.pointer (some ⟨C.wg, 0, none⟩)]] none true, gx]) KA.out KB.out Hsz.out Hle.out Hszl.out Hc.out HDn.out HD.out Hcs.out HN.out
      (fun x hx => by
        rw [fin_range]
        exact w_tail2 hP KR.out KW.out hx wgLib (.inr rfl) hlive rfl (.inl rfl) rfl (.inl rfl) (Hfw.out _))
      (fun k x hx => by
        rw [fin_range]
        exact w_tail2 hP KR.out KW.out hx wgLib (.inl rfl) hlive rfl (.inr rfl) rfl (.inr rfl) (Hfw.out _))
      (l.length + 1) 0 0 (Nat.zero_mul _) (by omega) (fun j hj => absurd hj (Nat.not_lt_zero _)) [] (fun p hp => by cases hp)
    have Go := Lib.hid go
    clear go
    rw [enter_fr Try.func29 rfl]
    simp only [Try.f29, List.size_toArray, List.length_cons, List.length_nil, Nat.reduceAdd, Nat.reduceSub, Array.replicate_succ, Array.replicate_zero, List.push_toArray, List.append_toArray, List.nil_append, List.cons_append]
    refine pw_q hP (fun w => s_seq) rfl ?_
    refine pw_q hP (fun w => s_region) rfl ?_
    simp only [List.size_toArray, List.length_cons, List.length_nil, Nat.zero_add, List.range, List.range.loop]
    refine pw_vl hP (v := ?_) rfl rfl (by first | exact .inl rfl | exact .inr (fun c h => by cases h)) (fun w hw => ?_) (fun w hw => ?_) ?_
    rotate_left
    · unfold ev; go_simp; try exact rfl
    · unfold ev; simp [go_sem]
    simp only [put]; walk_nrm
    refine pw_q hP (fun w => s_region_end) rfl ?_
    refine pw_q hP (fun w => s_block) rfl ?_
    refine pw_q hP (fun w => s_loop) rfl ?_
    exact Go.out ..
  rw [hW] at key
  rw [ow_perm perm7]
  exact key
end
end Go.Proofs.Ytcdhmnefmbcmaaa
