/-
  The call of Take on both sides; a panicking virtual stack is no game; what goroutine 0 holds where a chunk comes; no condition but what each law names.
  Copy's loop: goroutine 0's plan out of the virtual Copy's game; no condition but what each law names.
  Copy's loop as goroutine 0's plan, out of the virtual Copy's game; no condition but what each law names.
  The call of Take in Copy's loop, out of the virtual Copy's game; Copy's loop from its first round; no condition but what each law names.
-/
import Derived.Test.YtcdhmnefmbcmaaaJas
import Derived.Test.YtcdhmnefmbcmaaaJaw
namespace Go.Proofs.Ytcdhmnefmbcmaaa
open Go Go.Conc Go.RowKit
section
variable {T : Twin} {F : Fs} {N : Nat} {ρ : Rn}
/-- a function is entered on both sides -/
def QEn (F : Fs) : Rn → Next → Next → Prop := fun ρ a b => ∃ f p p', a = .enter f p ∧ b = .enter f p' ∧ F f ∧ RelVs F ρ p p'
theorem rel_callFuncE (hB : HasBodies T F) {f : FuncId} (hf : F f) {p p' : Array Value} (hp : RelVs F ρ p p') : SemRel T F N (QEn F) (callFunc f p) ρ (callFunc f p') := by
  obtain ⟨fn, h1, h2, h3⟩ := hB.v f hf
  obtain ⟨fn', h1', h2', h3'⟩ := hB.a f hf
  unfold callFunc
  refine rel_program.bind fun ρ₁ a b l1 e => ?_
  obtain ⟨rfl, rfl⟩ := e
  simp only [h1, h1', h2, h2', h3, h3', Bool.false_eq_true, if_false]
  exact fun _ => ⟨f, p, p', rfl, rfl, hf, hp.mono l1⟩
theorem rel_callMethodE (hB : HasBodies T F) {fb : Fb} (hfb : ∀ f, fb f = true → F f) {name : String} (hm : methOk T.P fb name = true) {x x' : Value} (h : RelV F ρ x x') {p p' : Array Value} (hp : RelVs F ρ p p') :
    SemRel T F N (QEn F) (callMethod x name p) ρ (callMethod x' name p') := by
  unfold callMethod
  cases h with
  | flat hf => cases x <;> first | exact fun _ => trivial | exact rel_runtimePanic (e := .nilDeref) trivial | exact absurd (show false = true from hf) (by simp)
  | iface hv =>
    simp only
    refine rel_program.bind fun ρ₁ a b l1 e => ?_
    obtain ⟨rfl, rfl⟩ := e
    refine (rel_method hm _ _ (hv.mono l1)).bind fun ρ₂ q q' l2 hq => ?_
    obtain ⟨f, r⟩ := q
    obtain ⟨f', r'⟩ := q'
    obtain ⟨e1, h1, h2⟩ := hq
    simp only at e1 h1 h2
    subst e1
    exact rel_callFuncE hB (hfb _ h1.1) ((RelVs.one h2).append ((hp.mono l1).mono l2))
  | _ => exact fun _ => trivial
end
theorem exec_inv {T : Array Value} {op : Oper} {r : Operand} {name : String} {xs : Array Operand} {ats : Array TypeId} {x : Value} {vs : Array Value} (hop : op.op = .call { callee := .invoke r name, args := xs, argTypes := ats }) (hr : ev T r = x) (hx : xs.map (ev T) = vs) : execOp (ev T) op = callMethod x name vs := by
  unfold execOp
  simp only [hop, resolve, hr, hx]
  show invoke (.fn (.method name) #[]) (#[x] ++ vs) = _
  have e : (#[x] ++ vs)[0]? = some x := by rw [Array.getElem?_append_left (by simp)]; rfl
  have e2 : (#[x] ++ vs).extract 1 (#[x] ++ vs).size = vs := by
    rw [Array.extract_append]
    simp
  unfold invoke
  simp only [e, e2]

/-- what Take can reach -/
noncomputable abbrev K2 : Kit := { P := Try.prog, fb := { c := fun f => [15, 16, 69].contains f, v := fun _ => false, l := false, d := false, m := 2, a := fun _ => none }, G := 0, X := fun _ => false, z := 22 }
theorem mem_S2 {f : Nat} (h : K2.fb f = true) : f = 15 ∨ f = 16 ∨ f = 69 := by
  have := List.contains_iff_mem.1 (show [15, 16, 69].contains f = true from h)
  simpa using this
theorem ok2a : cOk Try.prog K2.fb K2.G true (bodyOf Try.f15) = true := by kernel_rfl
theorem ok2b : cOk Try.prog K2.fb K2.G true (bodyOf Try.f69) = true := by kernel_rfl
theorem ok2c : cOk Try.prog K2.fb K2.G true (bodyOf Try.f16) = true := by kernel_rfl
theorem meth2 : methOk Try.prog K2.fb "Take" = true := by kernel_rfl
theorem fits2 : Fits K2 T1 0 where
  ops := fun _ => rfl
  same := fun f hf hx => by
    rcases mem_S2 hf with rfl | rfl | rfl
    · exact Tryv.func15.trans Try.func15.symm
    · exact Tryv.func16.trans Try.func16.symm
    · exact Tryv.func69.trans Try.func69.symm
  N := Nat.le_refl _
  bodies := {
    z := ⟨⟨_, Tryv.func22, rfl, by decide⟩, ⟨_, Try.func22, rfl, by decide⟩⟩
    v := fun f hf => by
      rcases mem_S2 hf with rfl | rfl | rfl
      · exact ⟨_, Tryv.func15, rfl, by decide⟩
      · exact ⟨_, Tryv.func16, rfl, by decide⟩
      · exact ⟨_, Tryv.func69, rfl, by decide⟩
    a := fun f hf => by
      rcases mem_S2 hf with rfl | rfl | rfl
      · exact ⟨_, Try.func15, rfl, by decide⟩
      · exact ⟨_, Try.func16, rfl, by decide⟩
      · exact ⟨_, Try.func69, rfl, by decide⟩
    va := fun f h => by cases h
    m0 := m0 }
  body := fun f fn hf hx h c hc => by
    rcases mem_S2 hf with rfl | rfl | rfl
    · obtain rfl := Option.some.inj (Try.func15.symm.trans h); have e := ok2a; rwa [body_of hc] at e
    · obtain rfl := Option.some.inj (Try.func16.symm.trans h); have e := ok2c; rwa [body_of hc] at e
    · obtain rfl := Option.some.inj (Try.func69.symm.trans h); have e := ok2b; rwa [body_of hc] at e
theorem alike12 : K1.F.Alike K2.F := ⟨fun _ _ h => (by cases h), fun _ h => (by cases h.2), fun _ h => (by cases h.2), rfl⟩
theorem alike21 : K2.F.Alike K1.F := ⟨fun _ _ h => (by cases h), fun _ h => (by cases h.2), fun _ h => (by cases h.2), rfl⟩

/-- a stack without deferred calls that panics comes to nothing -/
theorem pan_dead {V : Program} {Kp : Frame → List Frame → World → Prop} (hKp : ∀ f ts v, Kp f ts v → ts = [] ∧ f.mode = .returning) : ∀ {ts : List Frame} {f : Frame} {v : World} {ch : List PanicEntry}, f.mode = .panicking ch → f.defers = [] → (∃ fn, V.funcs[f.fn]? = some fn) →
    (∀ g ∈ ts, g.defers = [] ∧ ∃ fn, V.funcs[g.fn]? = some fn) → ¬ Ev V Kp f ts v := by
  intro ts
  induction ts with
  | nil =>
    intro f v ch hm hd ⟨fn, hf⟩ _ hev
    cases hev with
    | stop h => rw [(hKp _ _ _ h).2] at hm; cases hm
    | step Fx Sx Wx h1 h2 =>
      obtain ⟨es, h⟩ := h1 v.tape (fun _ _ => rfl)
      have e : stepG V true (G f ([] ++ [door V])) (v.taped v.tape) = .go (G ((door V).raise ch) []) (v.taped v.tape) := by
        simp [stepG, unwind, G, hm, hd, catches_no hf]
      rw [e] at h
      simp only [GStep.go.injEq, G, Goroutine.mk.injEq] at h
      have := h.1.2.1
      simp at this
  | cons g ts ih =>
    intro f v ch hm hd ⟨fn, hf⟩ hts hev
    cases hev with
    | stop h => cases (hKp _ _ _ h).1
    | step Fx Sx Wx h1 h2 =>
      obtain ⟨es, h⟩ := h1 v.tape (fun _ _ => rfl)
      have e : stepG V true (G f ((g :: ts) ++ [door V])) (v.taped v.tape) = .go (G (g.raise ch) (ts ++ [door V])) (v.taped v.tape) := by
        simp [stepG, unwind, G, hm, hd, catches_no hf]
      rw [e] at h
      simp only [GStep.go.injEq, G, Goroutine.mk.injEq] at h
      have h3 := h2 v.tape (fun _ _ => rfl)
      rw [← h.1.1, ← List.append_cancel_right h.1.2.1, ← h.2.1] at h3
      obtain ⟨hg, hgf⟩ := hts g (List.mem_cons_self ..)
      have hr : ∃ c, (g.raise ch).mode = .panicking c := by unfold Frame.raise; cases g.mode <;> exact ⟨_, rfl⟩
      obtain ⟨c, hr⟩ := hr
      have hgd : (g.raise ch).defers = [] ∧ (g.raise ch).fn = g.fn := by unfold Frame.raise; cases g.mode <;> exact ⟨hg, rfl⟩
      exact ih hr hgd.1 (by rw [hgd.2]; exact hgf) (fun x hx => hts x (List.mem_cons_of_mem _ hx)) h3

/-- the tape is no part of what goroutine 0 holds -/
theorem og_taped {SR : Nat → Prop} {F : Fs} {N : Nat} {R : RF SR} {ρ : Rn} {v v' : World} {h : OG R ρ} (h1 : v'.heap = v.heap) (h2 : v'.os = v.os) : og F N R ρ v h = og F N R ρ v' h := by
  have e : ∀ w, RelW F N ρ v w ↔ RelW F N ρ v' w := fun w => ⟨fun k => k.pre ⟨h1.symm, h2.symm⟩ ⟨rfl, rfl⟩, fun k => k.pre ⟨h1, h2⟩ ⟨rfl, rfl⟩⟩
  unfold og
  congr 1
  funext w
  rw [e w]
/-- a chunk comes -/
theorem og_chunk {SR : Nat → Prop} {F : Fs} {R : RF SR} {ρ : Rn} {v : World} {h : OG R ρ} {bk : Nat} {p : Array Value} {t : TypeId} (hp : ∀ x ∈ p, flat x = true) (hb : ¬ SR bk) (h' : OG R (ρ.add v.heap.size bk)) {w : World} (hI : (og F 0 R ρ v h).I w) (hO : ¬ (og F 0 R ρ v h).O bk) (hw : w.heap[bk]? = some (.cells p t)) :
    (og F 0 R (ρ.add v.heap.size bk) { v with heap := v.heap.push (.cells p t) } h').I w := by
  obtain ⟨hW, hR⟩ := hI
  have hO : ∀ a, ¬ ρ.r a bk := fun a hr => hO ⟨a, hr⟩
  have hfr : ρ.Fresh 0 v.heap.size bk := ⟨fun b hr => by have := (hW.dom hr).1; omega, hO, fun x hx => by have := hW.tdom hx; omega, Nat.zero_le _, Nat.zero_le _⟩
  refine ⟨⟨hW.ok.add hfr, fun a b hab => ?_, fun a x hx => ?_, Nat.zero_le _, Nat.zero_le _, hW.os, fun s n a b hq => ?_⟩, hR⟩
  · rcases hab with hab | ⟨rfl, rfl⟩
    · obtain ⟨o, o', h1, h2, h3⟩ := hW.obj a b hab
      refine ⟨o, o', ?_, h2, h3.mono (Rn.le_add _ _ _)⟩
      show (v.heap.push _)[a]? = _
      rw [Array.getElem?_push_lt (hW.dom hab).1, ← h1, Array.getElem?_eq_getElem (hW.dom hab).1]
    · exact ⟨_, _, by show (v.heap.push _)[v.heap.size]? = _; simp, hw, .cells (RelVs.flats hp)⟩
  · show (v.heap.push _)[a]? = _
    have hlt := hW.tdom hx
    rw [Array.getElem?_push_lt hlt, ← hW.tok a x hx, Array.getElem?_eq_getElem hlt]
  · obtain ⟨B, hB, hc⟩ := h.sl w hR s n a b hq
    refine ⟨B, hB, fun c hcB x hx => ?_⟩
    rcases hx with hx | ⟨_, rfl⟩
    · exact h.dis x c hx (hc c hcB)
    · exact hb (hc _ hcB)
theorem OG.chunk {SR : Nat → Prop} {R : RF SR} {ρ : Rn} (h : OG R ρ) {n bk : Nat} (hb : ¬ SR bk) : OG R (ρ.add n bk) :=
  ⟨fun a b hab => by
    rcases hab with hab | ⟨_, rfl⟩
    · exact h.dis a b hab
    · exact hb, h.sl⟩
/-- a piece of the bytes -/
theorem bcells_piece {s : ByteArray} {lo sz d : Nat} (hlo : lo ≤ s.size) (hd : d = min sz (s.size - lo)) : bcells (s.extract lo (lo + d)) = byt ((s.data.toList.drop lo).take sz) ∧ ((s.data.toList.drop lo).take sz).length = d := by
  have hl : s.data.toList.length = s.size := by rw [Array.length_toList]; rfl
  have e : (s.extract lo (lo + d)).data.toList = (s.data.toList.drop lo).take sz := by
    rw [ByteArray.data_extract, Array.toList_extract, List.extract_eq_take_drop]
    rw [show lo + d - lo = d by omega, hd]
    rcases Nat.le_total sz (s.size - lo) with h | h
    · rw [Nat.min_eq_left h]
    · rw [Nat.min_eq_right h, List.take_of_length_le (by rw [List.length_drop]; omega), List.take_of_length_le (by rw [List.length_drop]; omega)]
  refine ⟨by unfold bcells byt; rw [e], by rw [List.length_take, List.length_drop]; omega⟩

end Go.Proofs.Ytcdhmnefmbcmaaa

namespace Go.Proofs.Ytcdhmnefmbcmaaa
open Go Go.Conc Go.RowKit
/-! ### a game goes on -/
section
variable {V : Program} {Kp : Frame → List Frame → World → Prop}
theorem ev_go {f f1 : Frame} {ts ts1 : List Frame} {v v1 : World} {es : Array Event} (hKp : ∀ f ts v, Kp f ts v → ts = []) {c : Frame} (h : Ev V Kp f (c :: ts) v) (hs : stepG V true (G f (c :: ts ++ [door V])) v = .go (G f1 (ts1 ++ [door V])) v1 es) : Ev V Kp f1 ts1 v1 :=
  Ev.next (s := ⟨f, c :: ts, v⟩) (s' := ⟨f1, ts1, v1⟩) h ⟨fun x => (by cases hKp _ _ _ x), v.tape, fun _ _ => rfl, es, hs⟩
theorem ev_ended {f : Frame} {ts : List Frame} {v u : World} {o : Outcome} {es : Array Event} (hKp : ∀ f ts v, Kp f ts v → ts = []) {c : Frame} (h : Ev V Kp f (c :: ts) v) (hs : stepG V true (G f (c :: ts ++ [door V])) v = .ended o u es) : False := by
  cases h with
  | stop h => cases hKp _ _ _ h
  | step Fx Sx Wx h1 h2 =>
    obtain ⟨e, h3⟩ := h1 v.tape (fun _ _ => rfl)
    have : stepG V true (G f (c :: ts ++ [door V])) v = .go (G (Fx v.tape) (Sx v.tape ++ [door V])) (Wx v.tape) e := h3
    rw [hs] at this
    cases this
end
/-- the held function that the virtual program asks for five arguments -/
theorem zz_dead {Kp : Frame → List Frame → World → Prop} (hKp : ∀ f ts v, Kp f ts v → ts = []) : ∀ (p : Array Value) (k : CallKind) (f1 : Frame) (ts1 : List Frame) (v : World), p.size ≤ 4 → ¬ Ev Tryv.prog Kp (Frame.enter Tryv.prog 22 p k) (f1 :: ts1) v := by
  intro p k f1 ts1 v hp hev
  have e : Frame.enter Tryv.prog 22 p k = { fn := 22, tmps := p ++ Array.replicate (8 - p.size) undef, todo := [.code ((Tryv.f22).body.getD .skip)], defers := [], mode := .run, kind := k } := by
    unfold Frame.enter
    simp [Tryv.func22]
  rw [e] at hev
  clear e
  generalize hT : p ++ Array.replicate (8 - p.size) undef = T at hev
  have h6 : T.getD 6 undef = undef := by
    rw [← hT, Array.getD_eq_getD_getElem?, Array.getElem?_append_right (by omega), Array.getElem?_replicate]
    split <;> rfl
  have s1 := ev_go hKp hev (by rfl)
  have s2 := ev_go hKp (c := f1) (ts := ts1) s1 (by rfl)
  have h7 : ∃ o u es, stepG Tryv.prog true (G { fn := 22, tmps := T, todo := [.inRegion #[{ dst := some 7, op := .binOp .add 3 (.tmp 6) (.const (.int .i64 0)) 3, type := 3, pos := "", after := #[], guard := none }] [0], .code .ret], defers := [], mode := .run, kind := k } (f1 :: ts1 ++ [door Tryv.prog])) v = .ended o u es := by
    have hx : ∀ f : Frame, f.tmps = T → ∃ why es, (execOp f.eval { dst := some 7, op := .binOp .add 3 (.tmp 6) (.const (.int .i64 0)) 3, type := 3, pos := "", after := #[], guard := none }).runT Tryv.prog v #[] = (.halt (.stuck why) v, es) := by
      intro f hf
      have e6 : f.eval (.tmp 6) = undef := by show f.tmps.getD 6 undef = undef; rw [hf]; exact h6
      refine ⟨"BinOp: no such operator on these operands", #[], ?_⟩
      unfold execOp
      simp only [e6]
      rfl
    obtain ⟨why, es, hx⟩ := hx { fn := 22, tmps := T, todo := [.inRegion #[{ dst := some 7, op := .binOp .add 3 (.tmp 6) (.const (.int .i64 0)) 3, type := 3, pos := "", after := #[], guard := none }] [0], .code .ret], defers := [], mode := .run, kind := k } rfl
    change ∃ o u es, stepG.apply Tryv.prog true _ _ none (execOp (Frame.eval _) { dst := some 7, op := .binOp .add 3 (.tmp 6) (.const (.int .i64 0)) 3, type := 3, pos := "", after := #[], guard := none }) v = .ended o u es
    unfold stepG.apply
    simp only [if_true, hx]
    exact ⟨_, _, _, rfl⟩
  obtain ⟨o, u, es, h7⟩ := h7
  exact ev_ended hKp (c := f1) (ts := ts1) s2 h7
end Go.Proofs.Ytcdhmnefmbcmaaa

namespace Go.Proofs.Ytcdhmnefmbcmaaa
open Go Go.Conc Go.RowKit
/-- a piece of the bytes -/
def pc (s : ByteArray) (sz k : Nat) : List UInt8 := (s.data.toList.drop (k * sz)).take sz
/-- what a chunk on its way is -/
def Piece (SR : Nat → Prop) (s : ByteArray) (sz k : Nat) (xv : Value) (bk : Nat) (ob : Obj) : Prop :=
  k * sz < s.size ∧ ¬ SR bk ∧ ∃ cap, (pc s sz k).length ≤ cap ∧ CapOk (pc s sz k).length 5 cap ∧ xv = .slice (some ⟨bk, 0, none⟩) (pc s sz k).length cap ∧ ob = .cells ((byt (pc s sz k)).toArray ++ Array.replicate (cap - (pc s sz k).length) (.int .u8 0)) 5
theorem byt_flat {l : List UInt8} {n : Nat} : ∀ x ∈ ((byt l).toArray ++ Array.replicate n (.int .u8 0)), flat x = true := by
  intro x hx
  rcases Array.mem_append.1 hx with h | h
  · simp only [byt, List.mem_toArray, List.mem_map] at h
    obtain ⟨b, _, rfl⟩ := h
    rfl
  · obtain ⟨_, rfl⟩ := Array.mem_replicate.1 h
    rfl
section
variable {P : Program} {mn : Bool} {fn : FuncId} {T : Array Value} {k : List Item} {D : List Deferred} {cs : List Frame} {w w' : World} {ops : Array Oper} {i : Nat} {rest : List Nat} {o : Oper}
theorem s_panic {x : Value} (ho : ops[i]? = some o) (hw : Region.wanted o (yielded ops T) = true) (hr : (execOp (ev T) o).run P w = .halt (.panic x) w') :
    ∃ es, stepG P mn (G (fr fn T (.inRegion ops (i :: rest) :: k) D none) cs) w = .go (G ((fr fn T (.inRegion ops (i :: rest) :: k) D none).raise [{ v := x, recovered := false }]) cs) w' es := by
  rw [s_oper ho hw (.inl rfl)]
  unfold stepG.apply
  simp only [if_true, Sem.runT_eq, hr]
  exact ⟨_, rfl⟩
theorem s_still {h : Halt} (ho : ops[i]? = some o) (hw : Region.wanted o (yielded ops T) = true) (hr : (execOp (ev T) o).run P w = .halt h w') (hs : Halt.still h) :
    ∃ q u es, stepG P mn (G (fr fn T (.inRegion ops (i :: rest) :: k) D none) cs) w = .ended q u es := by
  rw [s_oper ho hw (.inl rfl)]
  unfold stepG.apply
  simp only [if_true, Sem.runT_eq, hr]
  cases h with
  | unsupported u => cases u <;> first | exact hs.elim | exact ⟨_, _, _, rfl⟩
  | _ => first | exact hs.elim | exact ⟨_, _, _, rfl⟩
end
/-- what Take answers is a number: or the virtual Copy is stuck -/
theorem take_int {Kp : Frame → List Frame → World → Prop} (hKp : ∀ f ts v, Kp f ts v → ts = []) {T : Array Value} {k : List Item} {c0 : Frame} {cs : List Frame} {v : World} {x : Value} (hT : T.size = 19)
    (h : Ev Tryv.prog Kp ((fr 19 T (.inRegion vopsT [0] :: .code vaft :: k) [] none).finish x) (c0 :: cs) v) : ∃ e, x = .int .i64 e := by
  rw [fr_finish (o := _) rfl] at h
  have s1 := ev_go hKp h s_region_end
  have s2 := ev_go hKp (c := c0) (ts := cs) s1 s_seq
  have s3 := ev_go hKp (c := c0) (ts := cs) s2 s_region
  have hx : (put T (some 15) x).getD 15 undef = x := by simp [put, Array.getD_eq_getD_getElem?, hT]
  by_cases hi : ∃ e, x = .int .i64 e
  · exact hi
  exfalso
  have hst : ∃ why, (execOp (ev (put T (some 15) x)) { dst := some 16, op := .binOp .mul 36 (.tmp 15) (.const (.int .i64 1)) 36, type := 36, pos := "", after := #[], guard := none }).run Tryv.prog v = .halt why v ∧ Halt.still why := by
    have e15 : ev (put T (some 15) x) (.tmp 15) = x := hx
    unfold execOp
    simp only [e15]
    cases x with
    | int kk n =>
      cases kk <;> first | exact absurd ⟨n, rfl⟩ hi | exact ⟨_, rfl, trivial⟩
    | _ => first | exact ⟨_, rfl, trivial⟩ | (rename_i y; cases y <;> exact ⟨_, rfl, trivial⟩)
  obtain ⟨why, hst, hs⟩ := hst
  obtain ⟨q, u, es, hh⟩ := s_still (P := Tryv.prog) (mn := true) (cs := c0 :: cs ++ [door Tryv.prog]) (i := 0) (rest := [1, 2]) (ops := #[_, _, _]) (k := _ :: k) (D := []) (fn := 19) rfl rfl hst hs
  exact ev_ended hKp s3 hh
section
variable {C : Cx} (hP : C.P = Try.prog) {R : RF C.SR} {s : ByteArray} {sz : Nat} (hCs : ∀ k xv bk ob, C.Cs k xv bk ob → Piece C.SR s sz k xv bk ob) (hNN : s.size ≤ C.N * sz) (hsz : 1 ≤ sz) (hsz2 : (sz : Int) ≤ 9223372036854775807) (hs : s.size ≤ 1073741824)
  {sb : Nat} (hsb : C.SR sb) (hrd : ∀ w, R.R w → w.cell? ⟨sb, 0, none⟩ = some (.chan (some C.bs))) (hlive : ∃ w, Live C w) {Kp : Frame → List Frame → World → Prop} (hKp : ∀ f ts v, Kp f ts v → ts = [] ∧ f.mode = .returning)
  {c0 : Frame} {cs : List Frame} (hcs : ∀ g ∈ c0 :: cs, g.defers = [] ∧ ∃ fn, Tryv.prog.funcs[g.fn]? = some fn) {cs0 : List Frame} (s0 : VS) (ρ0 : Rn)
/-- where goroutine 0 comes to: it leaves Wait; the virtual Copy has returned -/
def FinC (C : Cx) (R : RF C.SR) (sb : Nat) (Kp : Frame → List Frame → World → Prop) (c0 : Frame) (cs cs0 : List Frame) (s0 : VS) (ρ0 : Rn) (_ : Nat) (g : Goroutine) (o : Own C.SR) : Prop :=
  ∃ (a0 a1 a2 a3 a6 a9 a10 a11 a12 a13 a14 a15 a16 a17 a18 a19 a20 a21 a22 a23 a24 a27 a28 : Value) (cnt e : Int) (ρ1 : Rn) (v1 : World) (h1 : OG R ρ1), Leaves0 Try.prog g (G (fr 19 #[a0, a1, a2, a3, .int .i64 cnt, .int .i64 e, a6, .pointer (some ⟨sb, 0, none⟩), .pointer (some ⟨C.wg, 0, none⟩), a9, a10, a11, a12, a13, a14, a15, a16, a17, a18, a19, a20, a21, a22, a23, a24, .chan (some C.bs), .tuple #[], a27, a28] [.inRegion ops12 [], .code rest13] [] none) cs0) ∧ o = og K2.F 0 R ρ1 v1 h1 ∧ NxP Tryv.prog Kp ⟨c0.finish (.tuple #[.int .i64 cnt, .int .i64 e]), cs, v1⟩ s0 ∧ ρ0.le ρ1
/-- what is to be shown at each call of Take -/
def AtTake (C : Cx) (R : RF C.SR) (s : ByteArray) (sz sb : Nat) (Kp : Frame → List Frame → World → Prop) (c0 : Frame) (cs cs0 : List Frame) (s0 : VS) (ρ0 : Rn) (st : VS) : Prop :=
  ∀ (k lo d blk bk cap : Nat) (cnt e : Int) (to to' xv tup r9 r10 r11 r13 r15 r16 r17 r18 : Value) (a0 a2 a3 a6 a10 a11 a12 a13 a20 a21 a22 a23 a24 a25 a26 a27 a28 : Value) (v : World) (ρ : Rn) (h : OG R ρ), st = ⟨fr 19 (vbT (seqV 22 s sz) to tup s cnt e sz lo r9 r10 r11 (.int .i64 ((lo : Int) + (d : Int))) r13 (.slice (some ⟨blk, 0, none⟩) d cap) r15 r16 r17 r18) [.inRegion vopsT [0], .code vaft, .inLoop Tryv.loop, .inBlock 0, .code .ret] [] none, c0 :: cs, v⟩ → NxP Tryv.prog Kp st s0 → ρ0.le ρ → lo = k * sz → lo < s.size → d = min sz (s.size - lo) → RelV K2.F ρ to to' → ρ.r blk bk → xv = .slice (some ⟨bk, 0, none⟩) d cap →
    PM C (FinC C R sb Kp c0 cs cs0 s0 ρ0) .work (k + 1) (G (fr 19 #[a0, to', a2, a3, .int .i64 cnt, .int .i64 e, a6, .pointer (some ⟨sb, 0, none⟩), .pointer (some ⟨C.wg, 0, none⟩), xv, a10, a11, a12, a13, .chan (some C.bc), .tuple #[xv, .bool true], .bool true, xv, to', xv, a20, a21, a22, a23, a24, a25, a26, a27, a28] (.inRegion ops19 [2, 3] :: .code aft19 :: .code inc19 :: .inBlock 1 :: .inLoop loop19 :: .inBlock 0 :: [.code rest19]) [] none) cs0) (og K2.F 0 R ρ v h)
 include hP hCs hNN hsz hsz2 hs hsb hrd hlive hKp
set_option maxRecDepth 10000 in
theorem p19_headM {k lo : Nat} {cnt e : Int} {to to' tup r9 r10 r11 r12 r13 r14 r15 r16 r17 r18 : Value} {a0 a2 a3 a6 a9 a10 a11 a12 a13 a15 a16 a17 a18 a19 a20 a21 a22 a23 a24 a25 a26 a27 a28 : Value} {v : World} {ρ : Rn} (h : OG R ρ) (hM : ∀ st, NxP Tryv.prog Kp st ⟨fr 19 (vbT (seqV 22 s sz) to tup s cnt e sz lo r9 r10 r11 r12 r13 r14 r15 r16 r17 r18) [.code Tryv.loop, .inLoop Tryv.loop, .inBlock 0, .code .ret] [] none, c0 :: cs, v⟩ → AtTake C R s sz sb Kp c0 cs cs0 s0 ρ0 st)
    (hs0 : NxP Tryv.prog Kp ⟨fr 19 (vbT (seqV 22 s sz) to tup s cnt e sz lo r9 r10 r11 r12 r13 r14 r15 r16 r17 r18) [.code Tryv.loop, .inLoop Tryv.loop, .inBlock 0, .code .ret] [] none, c0 :: cs, v⟩ s0) (hρ : ρ0.le ρ) (hlo : lo = min (k * sz) s.size) (hto : RelV K2.F ρ to to') :
    PM C (FinC C R sb Kp c0 cs cs0 s0 ρ0) .work k (G (fr 19 #[a0, to', a2, a3, .int .i64 cnt, .int .i64 e, a6, .pointer (some ⟨sb, 0, none⟩), .pointer (some ⟨C.wg, 0, none⟩), a9, a10, a11, a12, a13, .chan (some C.bc), a15, a16, a17, a18, a19, a20, a21, a22, a23, a24, a25, a26, a27, a28] (.code loop19 :: .inLoop loop19 :: .inBlock 0 :: [.code rest19]) [] none) cs0) (og K2.F 0 R ρ v h) := by
  have hKp' : ∀ f ts v, Kp f ts v → ts = [] := fun f ts v x => (hKp f ts v x).1
  classical
  refine p19_head hP (fun xv bk ob => if hc : C.Cs k xv bk ob then og K2.F 0 R (ρ.add v.heap.size bk) { v with heap := v.heap.push ob } (h.chunk (hCs _ _ _ _ hc).2.1) else og K2.F 0 R ρ v h) (fun xv bk ob hc x => ?_) (fun xv bk ob hc w hI hO hw => ?_) (fun xv bk ob hc => ?_) (fun hk => ?_)
  · simp only [hc, dif_pos]
    constructor
    · rintro ⟨a, ha | ⟨_, rfl⟩⟩
      · exact .inl ⟨a, ha⟩
      · exact .inr rfl
    · rintro (⟨a, ha⟩ | rfl)
      · exact ⟨a, .inl ha⟩
      · exact ⟨_, .inr ⟨rfl, rfl⟩⟩
  · simp only [hc, dif_pos]
    obtain ⟨_, hb, cap, _, _, _, rfl⟩ := hCs _ _ _ _ hc
    exact og_chunk byt_flat hb (h.chunk hb) hI hO hw
  · simp only [hc, dif_pos]
    generalize h.chunk (hCs k xv bk ob hc).2.1 = hOG
    obtain ⟨hlt, hb, cap, hc1, hc2, rfl, rfl⟩ := hCs _ _ _ _ hc
    have hlo' : lo = k * sz := by rw [hlo]; exact Nat.min_eq_left (Nat.le_of_lt hlt)
    obtain ⟨d, hd⟩ : ∃ d, d = min sz (s.size - lo) := ⟨_, rfl⟩
    obtain ⟨hp1, hp2⟩ := bcells_piece (s := s) (lo := lo) (sz := sz) (d := d) (by omega) hd
    have hp2' : (pc s sz k).length = d := by unfold pc; rw [← hlo']; exact hp2
    have hp1' : byt (pc s sz k) = bcells (s.extract lo (lo + d)) := by unfold pc; rw [← hlo']; exact hp1.symm
    rw [hp2'] at hc1 hc2 ⊢
    rw [hp1']
    obtain ⟨s', ⟨t, hs'⟩, hn⟩ := vb_a (Kp := Kp) hKp' (Good := fun s' => ∃ t, s' = ⟨fr 19 (vbT (seqV 22 s sz) to tup s cnt e sz lo (.bool true) (.int .i64 ((s.size : Int) - lo)) (.int .i64 d) (.int .i64 ((lo : Int) + (d : Int))) (.string (s.extract lo (lo + d))) (.slice (some ⟨v.heap.size, 0, none⟩) d cap) r15 r16 r17 r18) [.inRegion vopsT [0], .code vaft, .inLoop Tryv.loop, .inBlock 0, .code .ret] [] none, c0 :: cs, { v with heap := v.heap.push (.cells ((bcells (s.extract lo (lo + d))).toArray ++ Array.replicate (cap - d) (.int .u8 0)) 5), drawn := v.drawn + 1, tape := t }⟩)
      (src := seqV 22 s sz) (to := to) (tup := tup) (s := s) (cnt := cnt) (e := e) (n := sz) (lo := lo) (r9 := r9) (r10 := r10) (r11 := r11) (r12 := r12) (r13 := r13) (r14 := r14) (r15 := r15) (r16 := r16) (r17 := r17) (r18 := r18) (kt := [.inLoop Tryv.loop, .inBlock 0, .code .ret]) (cs := cs) (c0 := c0) (v := v)
      (by omega) hs (by omega) (d := d) (by omega) hc2 (fun t => .fin ⟨t, rfl⟩)
    have hn' : NxP Tryv.prog Kp s' ⟨fr 19 (vbT (seqV 22 s sz) to tup s cnt e sz lo r9 r10 r11 r12 r13 r14 r15 r16 r17 r18) [.code Tryv.loop, .inLoop Tryv.loop, .inBlock 0, .code .ret] [] none, c0 :: cs, v⟩ := by
      rcases hn with e1 | hn
      · exfalso
        rw [hs'] at e1
        have := congrArg (fun x : VS => x.v.drawn) e1
        simp at this
      · exact hn
    have := hM s' hn' k lo d v.heap.size bk cap cnt e to to' (.slice (some ⟨bk, 0, none⟩) d cap) tup (.bool true) (.int .i64 ((s.size : Int) - lo)) (.int .i64 d) (.string (s.extract lo (lo + d))) r15 r16 r17 r18 a0 a2 a3 a6 a10 a11 a12 a13 a20 a21 a22 a23 a24 a25 a26 a27 a28 _ _ (h.chunk hb) hs' (hn'.trans hs0) (hρ.trans (Rn.le_add _ _ _)) hlo' (by omega) hd (hto.mono (Rn.le_add _ _ _)) (.inr ⟨rfl, rfl⟩) rfl
    rw [og_taped (v' := s'.v) (by rw [hs']) (by rw [hs'])]
    rw [hs']
    exact this
  · have hge : s.size ≤ lo := by
      have : s.size ≤ k * sz := by rw [hk]; exact hNN
      omega
    obtain ⟨s', hs', hn⟩ := vb_0 (Kp := Kp) hKp' (Good := fun s' => s' = ⟨c0.finish (.tuple #[.int .i64 cnt, .int .i64 e]), cs, v⟩) (src := seqV 22 s sz) (to := to) (tup := tup) (s := s) (cnt := cnt) (e := e) (n := sz) (lo := lo) (r9 := r9) (r10 := r10) (r11 := r11) (r12 := r12) (r13 := r13) (r14 := r14) (r15 := r15) (r16 := r16) (r17 := r17) (r18 := r18) (cs := cs) (c0 := c0) (v := v) hge (.fin rfl)
    have hn' : NxP Tryv.prog Kp ⟨c0.finish (.tuple #[.int .i64 cnt, .int .i64 e]), cs, v⟩ s0 := by
      rw [← hs']
      rcases hn with e1 | hn
      · rw [e1]; exact hs0
      · exact hn.trans hs0
    exact p19_end hP (o := og K2.F 0 R ρ v h) hsb (fun w hI => hrd w hI.2) hlive (fun g hg => ⟨a0, to', a2, a3, a6, a9, a10, a11, a12, a13, .chan (some C.bc), .tuple #[.slice none 0 0, .bool false], .bool false, a17, a18, a19, a20, a21, a22, a23, a24, a27, a28, cnt, e, ρ, v, h, hg, rfl, hn', hρ⟩)
end

end Go.Proofs.Ytcdhmnefmbcmaaa

namespace Go.Proofs.Ytcdhmnefmbcmaaa
open Go Go.Conc Go.RowKit
theorem ev_two {V : Program} {Kp : Frame → List Frame → World → Prop} (hKp : ∀ f ts v, Kp f ts v → ts = []) {f c0 : Frame} {cs : List Frame} {v : World} (hev : Ev V Kp f (c0 :: cs) v) (t : Nat → Question → Nat) (ht : ∀ j, j < v.drawn → t j = v.tape j) :
    ∃ F S W es, stepG V true (G f (c0 :: cs ++ [door V])) (v.taped t) = .go (G F (S ++ [door V])) W es ∧ Nx V Kp ⟨F, S, W⟩ ⟨f, c0 :: cs, v⟩ ∧ Ev V Kp F S W := by
  cases hev with
  | stop h => cases hKp _ _ _ h
  | step Fx Sx Wx h1 h2 =>
    obtain ⟨es, h⟩ := h1 t ht
    exact ⟨_, _, _, es, h, ⟨fun x => (by cases hKp _ _ _ x), t, ht, es, h⟩, h2 t ht⟩
theorem go_inj {V : Program} {f f' : Frame} {ts ts' : List Frame} {v v' : World} {es es' : Array Event} (h : GStep.go (G f (ts ++ [door V])) v es = .go (G f' (ts' ++ [door V])) v' es') : f = f' ∧ ts = ts' ∧ v = v' := by
  simp only [GStep.go.injEq, G, Goroutine.mk.injEq] at h
  exact ⟨h.1.1, List.append_cancel_right h.1.2.1, h.2.1⟩
section
variable {C : Cx} (hP : C.P = Try.prog) {R : RF C.SR} {s : ByteArray} {sz : Nat} (hCs : ∀ k xv bk ob, C.Cs k xv bk ob → Piece C.SR s sz k xv bk ob) (hNN : s.size ≤ C.N * sz) (hsz : 1 ≤ sz) (hsz2 : (sz : Int) ≤ 9223372036854775807) (hs : s.size ≤ 1073741824)
  {sb : Nat} (hsb : C.SR sb) (hrd : ∀ w, R.R w → w.cell? ⟨sb, 0, none⟩ = some (.chan (some C.bs))) (hlive : ∃ w, Live C w) {Kp : Frame → List Frame → World → Prop} (hKp : ∀ f ts v, Kp f ts v → ts = [] ∧ f.mode = .returning)
  {c0 : Frame} {cs : List Frame} (hcs : ∀ g ∈ c0 :: cs, g.defers = [] ∧ ∃ fn, Tryv.prog.funcs[g.fn]? = some fn) {cs0 : List Frame} (s0 : VS) (ρ0 : Rn)
 include hP hCs hNN hsz hsz2 hs hsb hrd hlive hKp hcs
set_option maxRecDepth 10000 in
theorem p19_take {st : VS} (hev : Ev Tryv.prog Kp st.f st.ts st.v) : AtTake C R s sz sb Kp c0 cs cs0 s0 ρ0 st := by
  have hKp' : ∀ f ts v, Kp f ts v → ts = [] := fun f ts v x => (hKp f ts v x).1
  refine Ev.strong (M := AtTake C R s sz sb Kp c0 cs cs0 s0 ρ0) (fun st hev ih => ?_) hev
  intro k lo d blk bk cap cnt e to to' xv tup r9 r10 r11 r13 r15 r16 r17 r18 a0 a2 a3 a6 a10 a11 a12 a13 a20 a21 a22 a23 a24 a25 a26 a27 a28 v ρ h hst hn hρ hlo hlt hd hto hbk hxv
  subst hst hxv
  simp only at hev
  refine pm_any rfl fun w hw => ?_
  obtain ⟨hW, hR⟩ := hw
  have hWd : ∀ τ : Nat → Question → Nat, RelW K2.F 0 ρ (v.taped τ) w := fun τ => hW.pre ⟨rfl, rfl⟩ ⟨rfl, rfl⟩
  let τ : Nat → Question → Nat := fun j => if j < v.drawn then v.tape j else w.tape (w.drawn + (j - v.drawn))
  have hτ : ∀ j, j < v.drawn → τ j = v.tape j := fun j hj => by simp only [τ, hj, if_true]
  have hTp : ∀ n, Tp (v.taped τ) w n := fun n i _ q => by
    show τ (v.drawn + i) q = w.tape (w.drawn + i) q
    have h1 : ¬ v.drawn + i < v.drawn := by omega
    simp only [τ, h1, if_false]
    congr 2; omega
  obtain ⟨F, S, W, es, hstep, hnx, hevn⟩ := ev_two hKp' hev τ hτ
  obtain ⟨ov, hov, hovc, hovw⟩ : ∃ ov, vopsT[0]? = some ov ∧ ov.op = .call { callee := .invoke (.tmp 1) "Take", args := #[.tmp 14], argTypes := #[22] } ∧ ∀ T, Region.wanted ov T = true := ⟨_, rfl, rfl, fun _ => rfl⟩
  obtain ⟨ot, hot, hotc, hotw⟩ : ∃ ot, ops19[2]? = some ot ∧ ot.op = .call { callee := .invoke (.tmp 18) "Take", args := #[.tmp 19], argTypes := #[22] } ∧ ∀ T, Region.wanted ot T = true := ⟨_, rfl, rfl, fun _ => rfl⟩
  obtain ⟨TV, hTV⟩ : ∃ TV, TV = vbT (seqV 22 s sz) to tup s cnt e sz lo r9 r10 r11 (.int .i64 ((lo : Int) + (d : Int))) r13 (.slice (some ⟨blk, 0, none⟩) d cap) r15 r16 r17 r18 := ⟨_, rfl⟩
  have hxV : execOp (ev TV) ov = callMethod to "Take" #[.slice (some ⟨blk, 0, none⟩) d cap] := exec_inv hovc (by rw [hTV]; rfl) (by rw [hTV]; simp only [List.map_toArray, List.map_cons, List.map_nil]; rfl)
  obtain ⟨TT, hTT⟩ : ∃ TT, TT = #[a0, to', a2, a3, .int .i64 cnt, .int .i64 e, a6, .pointer (some ⟨sb, 0, none⟩), .pointer (some ⟨C.wg, 0, none⟩), .slice (some ⟨bk, 0, none⟩) d cap, a10, a11, a12, a13, .chan (some C.bc), .tuple #[.slice (some ⟨bk, 0, none⟩) d cap, .bool true], .bool true, .slice (some ⟨bk, 0, none⟩) d cap, to', .slice (some ⟨bk, 0, none⟩) d cap, a20, a21, a22, a23, a24, a25, a26, a27, a28] := ⟨_, rfl⟩
  have hxT : execOp (ev TT) ot = callMethod to' "Take" #[.slice (some ⟨bk, 0, none⟩) d cap] := exec_inv hotc (by rw [hTT]; rfl) (by rw [hTT]; simp only [List.map_toArray, List.map_cons, List.map_nil]; rfl)
  have hrel := (rel_callMethodE (T := T1) (N := 0) (F := K2.F) fits2.bodies (fb := K2.fb) (fun f hf => hf) meth2 hto (RelVs.one (.slice (n := d) (k := cap) (show RelA ρ ⟨blk, 0, none⟩ ⟨bk, 0, none⟩ from ⟨hbk, rfl, rfl⟩)))).sound (hWd τ) (hTp _)
  rw [← hTT]
  rw [← hTV] at hev hstep hnx ih hn
  have hrun : (callMethod to "Take" #[.slice (some ⟨blk, 0, none⟩) d cap]).run Tryv.prog (v.taped τ) = (execOp (ev TV) ov).run Tryv.prog (v.taped τ) := by rw [hxV]
  change Res K2.F 0 (QEn K2.F) ρ (v.taped τ) w ((callMethod to "Take" #[.slice (some ⟨blk, 0, none⟩) d cap]).run Tryv.prog (v.taped τ)) _ at hrel
  have hdv : (fr 19 TV [.inRegion vopsT [0], .code vaft, .inLoop Tryv.loop, .inBlock 0, .code .ret] [] none).defers = [] := rfl
  have hdead : ∀ ch u, ¬ Ev Tryv.prog Kp ((fr 19 TV [.inRegion vopsT [0], .code vaft, .inLoop Tryv.loop, .inBlock 0, .code .ret] [] none).raise ch) (c0 :: cs) u := fun ch u =>
    pan_dead hKp (ch := ch) rfl rfl ⟨_, Tryv.func19⟩ hcs
  cases hr : (callMethod to "Take" #[.slice (some ⟨blk, 0, none⟩) d cap]).run Tryv.prog (v.taped τ) with
  | ok n v' =>
    rw [hr] at hrel hrun
    obtain ⟨ρ1, b, w1, u, hr', ⟨f, p, p', rfl, rfl, hf, hp⟩, hst⟩ := hrel
    have hrT : (execOp (ev TT) ot).run Try.prog w = .ok (.enter f p') w1 := by
      rw [hxT]
      have := congrArg Prod.fst hr'
      rw [Sem.runT_eq] at this
      exact this
    have huT : (execOp (ev TT) ot).events Try.prog w #[] = u := by
      rw [hxT]
      have := congrArg Prod.snd hr'
      rw [Sem.runT_eq] at this
      exact this
    have hsV := s_call (kd := false) (P := Tryv.prog) (mn := true) (fn := 19) (T := TV) (k := [.code vaft, .inLoop Tryv.loop, .inBlock 0, .code .ret]) (D := []) (ro := none) (cs := c0 :: cs ++ [door Tryv.prog]) (i := 0) (rest := []) hov (hovw _) (.inl rfl) hrun.symm
    obtain ⟨rfl, rfl, rfl⟩ := go_inj (ts' := fr 19 TV [.inRegion vopsT [0], .code vaft, .inLoop Tryv.loop, .inBlock 0, .code .ret] [] none :: c0 :: cs) (hstep.symm.trans hsV)
    have hsT := s_call (kd := false) (P := Try.prog) (mn := true) (fn := 19) (T := TT) (k := .code aft19 :: .code inc19 :: .inBlock 1 :: .inLoop loop19 :: .inBlock 0 :: [.code rest19]) (D := []) (ro := none) (cs := cs0) (i := 2) (rest := [3]) hot (hotw _) (.inl rfl) hrT
    rw [huT] at hsT
    have hst' : Stp K2.F 0 ρ ρ1 (v.taped τ) w W w1 (seen Try.prog 19 u) := hst.sub fun e he => seen_sub he
    have h1 := h.next hR hst'
    refine ⟨_, _, w1, _, by rw [hP]; exact hsT, h.step h1 hR hst', ?_⟩
    have hX2 : ∀ f, K2.X f = false := fun _ => rfl
    refine pm_game (K := K2) (T := T1) (N := 0) (Kp := Kp) hKp' fits2 hX2 (by rw [hP]) (fun p k f1 ts1 v hp => zz_dead hKp' p k f1 ts1 v hp) (dr := fr 19 TV [.inRegion vopsT [0], .code vaft, .inLoop Tryv.loop, .inBlock 0, .code .ret] [] none) (ds := c0 :: cs) (ts := []) (ts' := []) rfl rfl (fun ch v _ => hdead ch v) hevn rfl (relFr_enter fits2 hf rfl hp (.inl rfl)) .nil (fun g hg => absurd hg (by simp)) h1 (fun v1 ρ2 x x' h2 hn1 hxx hle => ?_) (fun v1 ρ2 h2 hn1 hle => ?_)
    · have hnd := NxP.cons hnx hn1
      have hev2 := Ev.nextP (s := ⟨_, _, _⟩) hev hnd
      simp only at hev2
      obtain ⟨e2, rfl⟩ := take_int hKp' (by rw [hTV]; rfl) hev2
      obtain rfl := rel_flat_eq hxx rfl
      have hto2 : RelV K2.F ρ2 to to' := hto.mono (hst.le.trans hle)
      rw [hTT]
      rw [hTV] at hnd
      refine p19_tail hP (fun he => ?_) (fun he => ?_)
      · subst he
        obtain ⟨s', hs', hn2⟩ := vb_ok (Kp := Kp) hKp' (Good := fun s' => s' = ⟨fr 19 (vbT (seqV 22 s sz) to tup s (IntKind.i64.wrap (cnt + 1)) 0 sz (lo + d) r9 r10 r11 (.int .i64 ((lo : Int) + (d : Int))) r13 (.slice (some ⟨blk, 0, none⟩) d cap) (.int .i64 0) (.int .i64 0) (.bool false) (.int .i64 (IntKind.i64.wrap (cnt + 1)))) [.code Tryv.loop, .inLoop Tryv.loop, .inBlock 0, .code .ret] [] none, c0 :: cs, v1⟩)
          (src := seqV 22 s sz) (to := to) (tup := tup) (s := s) (cnt := cnt) (e0 := e) (n := sz) (lo := lo) (d := d) (r9 := r9) (r10 := r10) (r11 := r11) (r13 := r13) (r14 := .slice (some ⟨blk, 0, none⟩) d cap) (r15 := r15) (r16 := r16) (r17 := r17) (r18 := r18) (cs := cs) (c0 := c0) (v := v1) rfl (.fin rfl)
        have hn3 : NxP Tryv.prog Kp s' ⟨fr 19 (vbT (seqV 22 s sz) to tup s cnt e sz lo r9 r10 r11 (.int .i64 ((lo : Int) + (d : Int))) r13 (.slice (some ⟨blk, 0, none⟩) d cap) r15 r16 r17 r18) [.inRegion vopsT [0], .code vaft, .inLoop Tryv.loop, .inBlock 0, .code .ret] [] none, c0 :: cs, v⟩ := by
          rcases hn2 with e1 | hn2
          · rw [e1]; exact hnd
          · exact hn2.trans hnd
        rw [hs'] at hn3
        rw [hTV] at ih hn
        have hlo2 : lo + d = min ((k + 1) * sz) s.size := by
          have : (k + 1) * sz = k * sz + sz := Nat.succ_mul k sz
          omega
        refine p19_headM hP hCs hNN hsz hsz2 hs hsb hrd hlive hKp s0 ρ0 h2 (fun st hst => ih st (hst.trans hn3)) (hn3.trans hn) (hρ.trans (hst.le.trans hle)) hlo2 hto2
      · obtain ⟨s', hs', hn2⟩ := vb_err (Kp := Kp) hKp' (Good := fun s' => s' = ⟨c0.finish (.tuple #[.int .i64 cnt, .int .i64 e2]), cs, v1⟩)
          (src := seqV 22 s sz) (to := to) (tup := tup) (s := s) (cnt := cnt) (e0 := e) (n := sz) (lo := lo) (r9 := r9) (r10 := r10) (r11 := r11) (r12 := .int .i64 ((lo : Int) + (d : Int))) (r13 := r13) (r14 := .slice (some ⟨blk, 0, none⟩) d cap) (r15 := r15) (r16 := r16) (r17 := r17) (r18 := r18) (cs := cs) (c0 := c0) (v := v1) he (.fin rfl)
        have hn3 : NxP Tryv.prog Kp s' ⟨fr 19 (vbT (seqV 22 s sz) to tup s cnt e sz lo r9 r10 r11 (.int .i64 ((lo : Int) + (d : Int))) r13 (.slice (some ⟨blk, 0, none⟩) d cap) r15 r16 r17 r18) [.inRegion vopsT [0], .code vaft, .inLoop Tryv.loop, .inBlock 0, .code .ret] [] none, c0 :: cs, v⟩ := by
          rcases hn2 with e1 | hn2
          · rw [e1]; exact hnd
          · exact hn2.trans hnd
        rw [hs'] at hn3
        rw [hTV] at hn
        exact p19_end hP (o := og K2.F 0 R ρ2 v1 h2) hsb (fun w hI => hrd w hI.2) hlive (fun g hg => ⟨a0, to', a2, a3, a6, .slice (some ⟨bk, 0, none⟩) d cap, a10, a11, a12, a13, .chan (some C.bc), .tuple #[.slice (some ⟨bk, 0, none⟩) d cap, .bool true], .bool true, .slice (some ⟨bk, 0, none⟩) d cap, to', .slice (some ⟨bk, 0, none⟩) d cap, .int .i64 e2, .int .i64 e2, .bool true, a23, a24, a27, a28, cnt, e2, ρ2, v1, h2, hg, rfl, hn3.trans hn, hρ.trans (hst.le.trans hle)⟩)
    · have hnd := NxP.cons hnx hn1
      rw [hTV] at hnd hn ih
      rw [hTT]
      exact ih _ hnd k lo d blk bk cap cnt e to to' (.slice (some ⟨bk, 0, none⟩) d cap) tup r9 r10 r11 r13 r15 r16 r17 r18 a0 a2 a3 a6 a10 a11 a12 a13 a20 a21 a22 a23 a24 a25 a26 a27 a28 v1 ρ2 h2 rfl (hnd.trans hn) (hρ.trans (hst.le.trans hle)) hlo hlt hd (hto.mono (hst.le.trans hle)) ((hst.le.trans hle).r _ _ hbk) rfl
  | halt x v' =>
    exfalso
    rw [hr] at hrel hrun
    by_cases hp : ∃ y, x = .panic y
    · obtain ⟨y, rfl⟩ := hp
      obtain ⟨es2, hsV⟩ := s_panic (P := Tryv.prog) (mn := true) (fn := 19) (T := TV) (k := [.code vaft, .inLoop Tryv.loop, .inBlock 0, .code .ret]) (D := []) (cs := c0 :: cs ++ [door Tryv.prog]) (i := 0) (rest := []) hov (hovw _) hrun.symm
      obtain ⟨rfl, rfl, rfl⟩ := go_inj (ts' := c0 :: cs) (hstep.symm.trans hsV)
      exact hdead _ _ hevn
    · have hst : Halt.still x := by
        cases x with
        | panic y => exact absurd ⟨_, rfl⟩ hp
        | _ => exact hrel
      obtain ⟨q, u, es2, hsV⟩ := s_still (P := Tryv.prog) (mn := true) (fn := 19) (T := TV) (k := [.code vaft, .inLoop Tryv.loop, .inBlock 0, .code .ret]) (D := []) (cs := c0 :: cs ++ [door Tryv.prog]) (i := 0) (rest := []) hov (hovw _) hrun.symm hst
      rw [hstep] at hsV
      cases hsV
end
end Go.Proofs.Ytcdhmnefmbcmaaa
