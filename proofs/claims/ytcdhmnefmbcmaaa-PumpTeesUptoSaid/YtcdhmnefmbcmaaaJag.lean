/-
  The operation as a whole, side by side; no condition but what each law names.
  Ranges over functions and deferred calls, side by side; the code that may be met; frames, side by side; no condition but what each law names.
-/
import Derived.Test.YtcdhmnefmbcmaaaJaf
namespace Go.Proofs.Ytcdhmnefmbcmaaa
open Go Go.Conc

section
variable {T : Twin} {F : Fs} {N : Nat} {ρ : Rn}

theorem rel_resolve {fb : Fb} {G : Nat} {ev ev' : Operand → Value} (hev : RelEv F ρ fb G ev ev') {c : Call} {f : Operand} (e : c.callee = .value f) (hc : c.operands.all (opdOk fb G) = true) (ty : TypeId) :
    RelV F ρ (ev f) (ev' f) ∧ RelVs F ρ (c.args.map ev) (c.args.map ev') ∧ resolve ev c ty = Deferred.ofValue (ev f) (c.args.map ev) ∧ resolve ev' c ty = Deferred.ofValue (ev' f) (c.args.map ev') := by
  unfold Call.operands at hc
  rw [e] at hc
  simp only [Array.all_append, Bool.and_eq_true] at hc
  exact ⟨hev f (by simpa using hc.1), hev.map hc.2, by unfold resolve; rw [e], by unfold resolve; rw [e]⟩

theorem all_get {fb : Fb} {G : Nat} {as : Array Operand} (h : as.all (opdOk fb G) = true) {x : Operand} (hx : x ∈ as) : opdOk fb G x = true := Array.all_eq_true'.1 h x hx

theorem few_of {ev : Operand → Value} (hfun : ∀ g, ev (.func g) = .func (.func g) #[] #[]) {f : Operand} {n : Nat} {m : Nat} (h : fewOk m f n = true) {z : FuncId} : (∃ s k, ev f = seqV z s k) → n ≤ m := by
  rintro ⟨s, k, e⟩
  cases f with
  | func g => rw [hfun] at e; simp [seqV] at e
  | _ => simpa [fewOk] using h

theorem rel_resolveF {fb : Fb} {G : Nat} {ev ev' : Operand → Value} (hev : RelEv F ρ fb G ev ev') (hfun : ∀ g, ev (.func g) = .func (.func g) #[] #[]) (hfun' : ∀ g, ev' (.func g) = .func (.func g) #[] #[]) {c : Call} {g : FuncId} (e : c.callee = .value (.func g)) (hg : F g) (hga : F.a g c.args.size)
    (hc : (callOpds c).all (opdOk fb G) = true) (ty : TypeId) : SemRel T F N (fun ρ => RelD F ρ) (resolve ev c ty) ρ (resolve ev' c ty) := by
  unfold callOpds at hc
  rw [e] at hc
  have ha := hev.map hc
  have e1 : resolve ev c ty = pure { target := .fn (.func g) #[], args := #[] ++ c.args.map ev } := by unfold resolve; rw [e]; simp only [hfun]; rfl
  have e2 : resolve ev' c ty = pure { target := .fn (.func g) #[], args := #[] ++ c.args.map ev' } := by unfold resolve; rw [e]; simp only [hfun']; rfl
  rw [e1, e2]
  exact fun _ => ⟨.fn hg (by simpa using hga) RelVs.nil, RelVs.append RelVs.nil ha⟩
theorem callOpds_of {c : Call} (h : ∀ g, c.callee ≠ .value (.func g)) : callOpds c = c.operands := by
  unfold callOpds
  split
  · rename_i e; exact absurd e (h _)
  · rfl

theorem rel_call (hB : HasBodies T F) {fb : Fb} {G : Nat} (hfb : ∀ f, fb f = true → F f) (hfa : ∀ f n, arOk fb f n = true → F.a f n) (hfm : fb.m ≤ F.m) {ev ev' : Operand → Value} (hev : RelEv F ρ fb G ev ev') (hfun : ∀ g, ev (.func g) = .func (.func g) #[] #[]) (hfun' : ∀ g, ev' (.func g) = .func (.func g) #[] #[]) {c : Call} (ho : (callOpds c).all (opdOk fb G) = true)
    (hc : calleeOk T.P fb G c.callee c.argTypes c.args = true) (ty : TypeId) : SemRel T F N (QNx F) (do let d ← resolve ev c ty; invoke d.target d.args : Sem Next) ρ (do let d ← resolve ev' c ty; invoke d.target d.args) := by
  by_cases hst : ∃ g, c.callee = .value (.func g)
  · obtain ⟨g, hst⟩ := hst
    rw [hst] at hc
    simp only [calleeOk, Bool.and_eq_true] at hc
    exact (rel_resolveF hev hfun hfun' hst (hfb _ hc.1) (hfa _ _ hc.2) ho ty).bind fun _ _ _ _ hd => rel_invokeFn hB hd
  rw [callOpds_of fun g e => hst ⟨g, e⟩] at ho
  cases hq : c.callee with
  | value f =>
    obtain ⟨h1, h2, e1, e2⟩ := rel_resolve hev hq ho ty
    rw [e1, e2]
    rw [hq] at hc
    have hc : fewOk fb.m f c.args.size = true := by
      cases f with
      | func g => exact absurd ⟨g, hq⟩ hst
      | _ => simp only [calleeOk, Bool.and_eq_true] at hc; exact hc.2
    exact rel_invokeValue hB h1 h2 (by rw [Array.size_map]; exact fun h => Nat.le_trans (few_of hfun hc h) hfm)
  | invoke r name =>
    rw [hq] at hc
    simp only [calleeOk, Bool.and_eq_true] at hc
    have ho2 : c.args.all (opdOk fb G) = true := by unfold Call.operands at ho; rw [hq] at ho; simp only [Array.all_append, Bool.and_eq_true] at ho; exact ho.2
    have e1 : ∀ e : Operand → Value, (do let d ← resolve e c ty; invoke d.target d.args : Sem Next) = callMethod (e r) name (c.args.map e) := by
      intro e
      unfold resolve
      rw [hq]
      simp only [pure_bind, invoke]
      have h0 : (#[e r] ++ c.args.map e)[0]? = some (e r) := by simp [Array.getElem?_append]
      have h1 : (#[e r] ++ c.args.map e).extract 1 (#[e r] ++ c.args.map e).size = c.args.map e := by
        apply Array.ext_getElem?
        intro i
        rw [Array.getElem?_extract]
        simp only [Array.size_append, List.size_toArray, List.length_cons, List.length_nil, Nat.zero_add, Array.size_map]
        by_cases hi : i < c.args.size
        · rw [if_pos (by omega), Array.getElem?_append_right (by simp)]
          simp
        · rw [if_neg (by omega)]
          rw [Array.getElem?_map, Array.getElem?_eq_none (by omega)]; rfl
      rw [h0, h1]
    rw [e1, e1]
    exact rel_callMethod hB hfb hfa hc.2 (hev r hc.1) (hev.map ho2)
  | builtin b =>
    rw [hq] at hc
    have ho2 : c.args.all (opdOk fb G) = true := by unfold Call.operands at ho; rw [hq] at ho; simp only [Array.all_append, Bool.and_eq_true] at ho; exact ho.2
    have e1 : ∀ e : Operand → Value, (do let d ← resolve e c ty; invoke d.target d.args : Sem Next) = builtin b c.argTypes ty (c.args.map fun | .const _ => true | _ => false) (c.args.map e) := by
      intro e
      unfold resolve
      rw [hq]
      rfl
    rw [e1, e1]
    have hm := hev.map ho2
    cases b <;> first | exact absurd (show false = true from hc) (by simp) | skip
    · -- append
      simp only [calleeOk] at hc
      generalize c.argTypes = tsA at hc ⊢
      generalize c.args = asA at hc ho2 ⊢
      obtain ⟨ts⟩ := tsA
      obtain ⟨as⟩ := asA
      rcases ts with _ | ⟨t, _ | ⟨xt, _ | ⟨_, _⟩⟩⟩ <;> first | exact absurd (show false = true from hc) (by simp) | skip
      rcases as with _ | ⟨s, _ | ⟨x, _ | ⟨_, _⟩⟩⟩ <;> first | exact absurd (show false = true from hc) (by simp) | skip
      simp only [Bool.and_eq_true] at hc
      refine rel_v ?_
      simp only [List.map_toArray, List.map_cons, List.map_nil]
      refine rel_append t xt ty (fun k hk => ?_) (fun el hel => ?_) (hev s (all_get ho2 (by simp))) (hev x (all_get ho2 (by simp)))
      · rw [hk] at hc; exact absurd hc.1 (by simp)
      · rw [hel] at hc; exact hc.2
    · -- len
      simp only [calleeOk] at hc
      generalize c.argTypes = tsA at hc ⊢
      generalize c.args = asA at hc ho2 ⊢
      obtain ⟨ts⟩ := tsA
      obtain ⟨as⟩ := asA
      rcases ts with _ | ⟨t, _ | ⟨_, _⟩⟩ <;> first | exact absurd (show false = true from hc) (by simp) | skip
      rcases as with _ | ⟨s, _ | ⟨_, _⟩⟩ <;> first | exact absurd (show false = true from hc) (by simp) | skip
      refine rel_v ?_
      simp only [List.map_toArray, List.map_cons, List.map_nil]
      refine rel_len t ty (fun d e hd => ?_) (hev s (all_get ho2 (by simp)))
      simp only [hd] at hc
      cases hc
    · exact rel_v (rel_max _ _ hm)
    · exact rel_v (rel_min _ _ hm)

theorem rel_defer {fb : Fb} {G : Nat} (hfm : fb.m ≤ F.m) (hlx : ∃ x, F.c x) (hva : ∀ f, F.v f → ∀ n, F.a f n) {ev ev' : Operand → Value} (hev : RelEv F ρ fb G ev ev') (hfun : ∀ g, ev (.func g) = .func (.func g) #[] #[]) {c : Call} (ho : c.operands.all (opdOk fb G) = true) {f : Operand} (hq : c.callee = .value f) (hw : fewOk fb.m f c.args.size = true) (ty : TypeId) :
    SemRel T F N (fun ρ => RelD F ρ) (resolve ev c ty) ρ (resolve ev' c ty) := by
  obtain ⟨h1, h2, e1, e2⟩ := rel_resolve hev hq ho ty
  rw [e1, e2]
  exact rel_ofValue hva (.inr hlx) h1 h2 (by rw [Array.size_map]; exact fun h => Nat.le_trans (few_of hfun hw h) hfm)

theorem rel_execOp (hB : HasBodies T F) (hN : T.P.globals.size ≤ N) {fb : Fb} {G : Nat} (hfb : ∀ f, fb f = true → F f) (hfa : ∀ f n, arOk fb f n = true → F.a f n) (hfm : fb.m ≤ F.m) (hval : ∀ f, fb.v f = true → F.v f) (hlv : fb.l = true → ∃ x, F.c x) {ev ev' : Operand → Value} (hev : RelEv F ρ fb G ev ev') (hconst : ∀ v, ev (.const v) = v) (hfun : ∀ g, ev (.func g) = .func (.func g) #[] #[]) (hfun' : ∀ g, ev' (.func g) = .func (.func g) #[] #[]) {o : Oper} (ho : opOk T.P fb G o.op = true) :
    SemRel T F N (QNx F) (execOp ev o) ρ (execOp ev' o) := by
  unfold opOk at ho
  rw [Bool.and_eq_true] at ho
  obtain ⟨hops, ho⟩ := ho
  unfold execOp
  cases hop : o.op <;> rw [hop] at ho hops <;> simp only [opsOf, Op.operands] at hops <;> dsimp only at ho ⊢ <;> first | exact absurd (show false = true from ho) (by simp) | skip
  case move x => exact fun _ => .value (hev x (all_get hops (by simp)))
  case assign x => exact fun _ => .value (hev x (all_get hops (by simp)))
  case pick c a b =>
    have h1 := hev c (all_get hops (by simp))
    have h2 := hev a (all_get hops (by simp))
    have h3 := hev b (all_get hops (by simp))
    refine (rel_asBool h1).bind fun ρ₁ x y l e => ?_
    obtain rfl : x = y := e
    cases x
    · exact fun _ => .value (h3.mono l)
    · exact fun _ => .value (h2.mono l)
  case alloc t => exact rel_v (rel_alloc t ho)
  case box t x => exact rel_v (rel_box t (hev x (all_get hops (by simp))))
  case build t ps =>
    refine rel_v (rel_build t ho ?_)
    rw [Array.toList_map, Array.toList_map]
    exact hev.parts fun q hq => all_get hops (by simp; exact ⟨q.1, Array.mem_def.2 hq⟩)
  case buildSlice t n ps =>
    refine rel_v (rel_buildSlice t n (fun el hel => by rw [hel] at ho; exact ho) ?_)
    rw [Array.toList_map, Array.toList_map]
    exact hev.parts fun q hq => all_get hops (by simp; exact ⟨q.1, Array.mem_def.2 hq⟩)
  case load t a => exact rel_v (rel_loadAt t (hev a (all_get hops (by simp))))
  case store t a x => exact rel_u (rel_storeAt t (hev a (all_get hops (by simp))) (hev x (all_get hops (by simp))))
  case nilCheck x => exact rel_nilCheck hB.m0 (hev x (all_get hops (by simp))) _ _ rfl rfl fun _ _ _ h => .value h
  case binOp op t x y r =>
    have hx := hev x (all_get hops (by simp))
    have hy := hev y (all_get hops (by simp))
    refine rel_v ?_
    by_cases hq : op = .eql ∨ op = .neq
    · have hp : plainEq T.P t = true ∨ nilEq T.P t (ev y) = true ∨ nilEq T.P t (ev x) = true := by
        have : (op == BinOp.eql || op == BinOp.neq) = true := by rcases hq with rfl | rfl <;> rfl
        rw [this, if_pos rfl, Bool.or_eq_true, Bool.or_eq_true] at ho
        have key : ∀ z : Operand, opdOk fb G z = true → nilOpd T.P t z = true → nilEq T.P t (ev z) = true := by
          intro z _ hn
          cases z <;> first | exact absurd (show false = true from hn) (by simp) | skip
          rw [hconst]
          exact hn
        rcases ho with (ho | ho) | ho
        · exact .inl ho
        · exact .inr (.inl (key y (all_get hops (by simp)) ho))
        · exact .inr (.inr (key x (all_get hops (by simp)) ho))
      exact (rel_eqGuard op x y (fun _ => hp) hx hy).bind fun ρ₁ _ _ l _ => rel_binOpEq hN hq hp (hx.mono l) (hy.mono l)
    · have hq' : op ≠ .eql ∧ op ≠ .neq := ⟨fun e => hq (.inl e), fun e => hq (.inr e)⟩
      have ht : T.P.underlying t ≠ some .unsafePointer := by
        have : (op == BinOp.eql || op == BinOp.neq) = false := by
          cases h : (op == BinOp.eql || op == BinOp.neq) with
          | false => rfl
          | true => rw [Bool.or_eq_true] at h; exact absurd (h.imp (fun e => by cases op <;> first | rfl | cases e) (fun e => by cases op <;> first | rfl | cases e)) hq
        rw [this] at ho
        intro e
        rw [e] at ho
        exact absurd ho (by simp)
      exact (rel_eqGuard op x y (fun e => absurd e hq) hx hy).bind fun ρ₁ _ _ l _ => rel_binOp hN hq' ht (hx.mono l) (hy.mono l)
  case unOp op t x =>
    cases op <;> first | exact absurd (show false = true from ho) (by simp) | skip
    refine rel_v ?_
    have hx := hev x (all_get hops (by simp))
    generalize ev x = a at hx
    generalize ev' x = a' at hx
    cases hx with
    | flat hf =>
      cases a <;> first | exact fun _ => .flat rfl | exact fun _ => trivial | exact absurd (show false = true from hf) (by simp)
    | _ => exact fun _ => trivial
  case convert s d x => exact rel_v (rel_convert ho (hev x (all_get hops (by simp))))
  case makeInterface t x => exact rel_v (rel_makeInterface t (hev x (all_get hops (by simp))))
  case makeFunc fn p q =>
    cases fn <;> first | exact absurd (show false = true from ho) (by simp) | skip
    rw [Array.all_append, Bool.and_eq_true] at hops
    exact rel_v (rel_makeFunc _ (hfb _ (by simp only [Bool.and_eq_true] at ho; exact ho.1)) (hval _ (by simp only [Bool.and_eq_true] at ho; exact ho.2)) (hev.map hops.1) (hev.map hops.2))
  case slice t x lo hi mx =>
    simp only [Array.all_append, Bool.and_eq_true] at hops
    obtain ⟨⟨⟨h1, h2⟩, h3⟩, h4⟩ := hops
    exact rel_v (rel_sliceAt t (hev x (all_get h1 (by simp))) (hev.opt h2) (hev.opt h3) (hev.opt h4))
  case fieldAddr t x f => exact rel_v (rel_fieldAt t (hev x (all_get hops (by simp))) f)
  case indexAddr t x i => exact rel_v (rel_indexAt t (hev x (all_get hops (by simp))) (hev i (all_get hops (by simp))))
  case extract x i => exact rel_v (rel_extract (hev x (all_get hops (by simp))) i)
  case call c => exact rel_call hB hfb hfa hfm hev hfun hfun' hops ho _
  case defer c =>
    have hlx : ∃ x, F.c x := hlv (by simp only [Bool.and_eq_true] at ho; exact ho.1)
    replace ho := (Bool.and_eq_true_iff.1 (show (fb.l && _) = true from ho)).2
    cases hq : c.callee with
    | value f =>
      by_cases hst : ∃ g, f = .func g
      · obtain ⟨g, rfl⟩ := hst
        rw [hq] at ho
        simp only [Bool.and_eq_true] at ho
        exact (rel_resolveF hev hfun hfun' hq (hfb _ ho.1) (hfa _ _ ho.2) hops _).bind fun _ _ _ _ h => fun _ => .defer hlx h
      · rw [callOpds_of fun g e => hst ⟨g, by rw [hq] at e; cases e; rfl⟩] at hops
        rw [hq] at ho
        have ho : fewOk fb.m f c.args.size = true := by
          cases f with
          | func g => exact absurd ⟨g, rfl⟩ hst
          | _ => exact ho
        exact (rel_defer hfm hlx hB.va hev hfun hops hq ho _).bind fun _ _ _ _ h => fun _ => .defer hlx h
    | builtin b => rw [hq] at ho; exact absurd (show false = true from ho) (by simp)
    | invoke r n => rw [hq] at ho; exact absurd (show false = true from ho) (by simp)
  case panic x => exact rel_v (rel_panic (hev x (all_get hops (by simp))))
end

end Go.Proofs.Ytcdhmnefmbcmaaa

namespace Go.Proofs.Ytcdhmnefmbcmaaa
open Go Go.Conc

section
variable {T : Twin} {F : Fs} {N : Nat} {ρ : Rn}

theorem rel_setLoop {l l' : Nat} (h : ρ.r l l') {r r' : Loop} (hr : RelL F ρ r r') : SemRel T F N QEq (setObj l (.loop r)) ρ (setObj l' (.loop r')) :=
  fun _ => ⟨h, .loop hr, rfl, by simp, rfl⟩
theorem rel_beginRound {l l' : Nat} (h : ρ.r l l') : SemRel T F N QEq (Instr.beginRound l) ρ (Instr.beginRound l') := by
  unfold Instr.beginRound
  refine (rel_getLoop h).bind fun ρ₁ r r' l1 hr => ?_
  refine (rel_setLoop (l1.r _ _ h) (r := { r with state := .busy }) (r' := { r' with state := .busy }) ⟨rfl, hr.pending, hr.fn, hr.tmps, hr.params, hr.few, hr.assign, hr.body, hr.okF, hr.okA, hr.okB, hr.okJ, hr.defers⟩).bind fun ρ₂ _ _ l2 _ => ?_
  rw [hr.state]
  cases r.state
  · exact fun _ => rfl
  · exact rel_runtimePanic (e := .error _) trivial
  · exact rel_runtimePanic (e := .error _) trivial
  · exact rel_runtimePanic (e := .error _) trivial
theorem rel_endRound {l l' : Nat} (h : ρ.r l l') {j : Option Code} (hj : (∃ x, F.c x) → ∀ c, j = some c → F.c c) : SemRel T F N (QV F) (Instr.endRound l j) ρ (Instr.endRound l' j) := by
  unfold Instr.endRound
  refine (rel_getLoop h).bind fun ρ₁ r r' l1 hr => ?_
  refine (rel_setLoop (l1.r _ _ h) (r := { r with state := if j.isNone then .ready else .done, pending := j }) (r' := { r' with state := if j.isNone then .ready else .done, pending := j })
    ⟨rfl, rfl, hr.fn, hr.tmps, hr.params, hr.few, hr.assign, hr.body, hr.okF, hr.okA, hr.okB, hj ⟨_, hr.okA⟩, hr.defers⟩).bind fun ρ₂ _ _ l2 _ => fun _ => .flat rfl
theorem rel_endLoop {l l' : Nat} (h : ρ.r l l') : SemRel T F N (fun _ j j' => j = j' ∧ ∀ c, j = some c → F.c c) (Instr.endLoop l) ρ (Instr.endLoop l') := by
  unfold Instr.endLoop
  refine (rel_getLoop h).bind fun ρ₁ r r' l1 hr => ?_
  have key : SemRel T F N (fun _ j j' => j = j' ∧ ∀ c, j = some c → F.c c) (do setObj l (.loop { r with state := .exhausted }); pure r.pending : Sem (Option Code)) ρ₁ (do setObj l' (.loop { r' with state := .exhausted }); pure r'.pending) :=
    (rel_setLoop (l1.r _ _ h) (r := { r with state := .exhausted }) (r' := { r' with state := .exhausted }) ⟨rfl, hr.pending, hr.fn, hr.tmps, hr.params, hr.few, hr.assign, hr.body, hr.okF, hr.okA, hr.okB, hr.okJ, hr.defers⟩).bind
      fun ρ₂ _ _ l2 _ => fun _ => ⟨hr.pending.symm, hr.okJ⟩
  rw [hr.state]
  by_cases hb : (r.state == .busy) = true
  · simp only [hb, if_true]
    exact SemRel.bind (Q := fun _ _ _ => False) (rel_runtimePanic (e := .error _) trivial) fun _ _ _ _ e => e.elim
  · simp only [hb, if_false, Bool.false_eq_true]
    exact key
theorem rel_enterLoop (f : FuncId) (hF : F.r f) {p p' : Array Value} (hp : RelVs F ρ p p') (ps : Array Tmp) (hps : ps.size ≤ 2) {a b : Code} (ha : F.c a) (hb : F.c b) {o o' : Option Nat} (ho : match o, o' with | none, none => True | some l, some l' => ρ.r l l' | _, _ => False) :
    SemRel T F N (fun ρ (x y : Nat × List Deferred) => ρ.r x.1 y.1 ∧ All2 (RelD F ρ) x.2 y.2) (Instr.enterLoop f p ps a b o) ρ (Instr.enterLoop f p' ps a b o') := by
  cases o <;> cases o' <;> first | exact ho.elim | skip
  · have e : ∀ t : Array Value, Instr.enterLoop f t ps a b none = (newObj (.deferred (some [])) >>= fun r => newObj (.loop { state := .ready, pending := none, fn := f, tmps := t, params := ps, assign := a, body := b, defers := r }) >>= fun l => pure (l, [{ target := .collected r, args := #[] }]) : Sem (Nat × List Deferred)) := fun _ => rfl
    rw [e, e]
    refine SemRel.bind (Q := fun ρ (x y : Nat) => ρ.r x y) (fun _ => ⟨.deferred ⟨_, ha⟩ .nil, fun n n' _ => .inr ⟨rfl, rfl⟩⟩) fun ρ₁ x y l1 hx => ?_
    refine SemRel.bind (Q := fun ρ (x y : Nat) => ρ.r x y) (fun _ => ⟨.loop ⟨rfl, rfl, rfl, hp.mono l1, rfl, hps, rfl, rfl, hF, ha, hb, fun j hj => (by cases hj), hx⟩, fun n n' _ => .inr ⟨rfl, rfl⟩⟩) fun ρ₂ x' y' l2 hxy => fun _ => ⟨hxy, ?_⟩
    exact .cons ⟨.collected (l2.r _ _ hx), RelVs.nil⟩ .nil
  · rename_i l l'
    have e : ∀ (t : Array Value) (l : Nat), Instr.enterLoop f t ps a b (some l) = (Instr.getLoop l >>= fun r => newObj (.loop { state := .ready, pending := none, fn := f, tmps := t, params := ps, assign := a, body := b, defers := r.defers }) >>= fun l => pure (l, []) : Sem (Nat × List Deferred)) := fun _ _ => rfl
    rw [e, e]
    refine (rel_getLoop ho).bind fun ρ₁ r r' l1 hr => ?_
    refine SemRel.bind (Q := fun ρ (x y : Nat) => ρ.r x y) (fun _ => ⟨.loop ⟨rfl, rfl, rfl, hp.mono l1, rfl, hps, rfl, rfl, hF, ha, hb, fun j hj => (by cases hj), hr.defers⟩, fun n n' _ => .inr ⟨rfl, rfl⟩⟩) fun ρ₂ x' y' l2 hxy => fun _ => ⟨hxy, .nil⟩
theorem rel_takeDeferred {b b' : Nat} (h : ρ.r b b') : SemRel T F N (fun ρ x y => All2 (RelD F ρ) x y) (Instr.takeDeferred b) ρ (Instr.takeDeferred b') := by
  unfold Instr.takeDeferred
  refine SemRel.bind (Q := fun ρ => RelO F ρ) (fun _ => ⟨h, fun o o' ho => ho⟩) fun ρ₁ o o' l1 ho => ?_
  cases ho with
  | deferred _ hd =>
    refine SemRel.bind (Q := QEq) (fun _ => ⟨l1.r _ _ h, .deferredN, rfl, by simp, rfl⟩) fun ρ₂ _ _ l2 _ => fun _ => ?_
    exact forall2_mono (fun _ _ h => h.mono' (.refl _) l2) hd
  | _ => exact fun _ => trivial
theorem rel_results (fn : Func) {p p' : Array Value} (hp : RelVs F ρ p p') : SemRel T F N (QV F) (results fn p) ρ (results fn p') := by
  unfold results
  have key : ∀ (l : List ResultVar) {ρ : Rn}, RelVs F ρ p p' → SemRel T F N (fun ρ (x y : List Value) => RelVs F ρ x.toArray y.toArray)
      (l.mapM (fun | .tmp t => pure (p.getD t undef) | .cell a t => do loadVar t (← asAddr (p.getD a undef)) : ResultVar → Sem Value)) ρ
      (l.mapM (fun | .tmp t => pure (p'.getD t undef) | .cell a t => do loadVar t (← asAddr (p'.getD a undef)) : ResultVar → Sem Value)) := by
    intro l
    induction l with
    | nil => intro ρ _; rw [List.mapM_nil, List.mapM_nil]; exact fun _ => RelVs.nil
    | cons r l ih =>
      intro ρ hp
      rw [List.mapM_cons, List.mapM_cons]
      refine SemRel.bind (Q := QV F) ?_ fun ρ₁ x y l1 hx => ?_
      · cases r with
        | tmp t => exact fun _ => hp.getD t
        | cell a t => exact (rel_asAddr (hp.getD a)).bind fun ρ₁ x y l1 hx => rel_loadVar t hx
      · refine (ih (hp.mono l1)).bind fun ρ₂ xs ys l2 hxs => fun _ => ?_
        refine ⟨by have := hxs.1; simpa using this, fun i v v' h1 h2 => ?_⟩
        cases i with
        | zero => simp at h1 h2; subst h1 h2; exact hx.mono l2
        | succ i => exact hxs.2 i v v' (by simpa using h1) (by simpa using h2)
  rw [Array.mapM_eq_mapM_toList, Array.mapM_eq_mapM_toList]
  refine SemRel.bind (Q := fun ρ (x y : Array Value) => RelVs F ρ x y) ((key fn.results.toList hp).bind fun ρ₁ x y l1 h => fun _ => h) fun ρ₁ x y l1 h => fun _ => ?_
  show RelV F ρ₁ (if h : x.size = 1 then x[0] else .tuple x) (if h : y.size = 1 then y[0] else .tuple y)
  by_cases h1 : x.size = 1
  · have h2 : y.size = 1 := h.1 ▸ h1
    rw [dif_pos h1, dif_pos h2]
    exact h.2 0 _ _ (Array.getElem?_eq_getElem (by omega)) (Array.getElem?_eq_getElem (by omega))
  · have h2 : ¬ y.size = 1 := h.1 ▸ h1
    rw [dif_neg h1, dif_neg h2]
    exact .tuple h.1 h.2
end


/-- which code may be met; d: may it hold a defer statement -/
def cOk (P : Program) (fb : Fb) (G : Nat) (d : Bool) : Code → Bool
  | .skip | .exit _ | .label _ | .goto _ | .ret => true
  | .region _ ops _ => ops.all fun o => opOk P fb G o.op && (d || !(match o.op with | .defer _ => true | _ => false))
  | .seq a b => cOk P fb G d a && cOk P fb G d b
  | .cond c a b => opdOk fb G c && cOk P fb G d a && cOk P fb G d b
  | .block _ c | .loop c | .scope c => cOk P fb G d c
  | .rangeFunc f ps a b => fb.l && (opdOk fb G f && decide (1 ≤ fb.m)) && decide (ps.size ≤ 2) && cOk P fb G false a && cOk P fb G false b
  | .refuse _ => true

/-- the kit of what may be met: program's tables, functions, variables -/
structure Kit where
  P : Program
  fb : Fb
  G : Nat
  /-- functions that have another form on the virtual side -/
  X : FuncId → Bool
  z : FuncId
abbrev Kit.F (K : Kit) : Fs := { f := fun f => K.fb f = true, v := fun f => K.fb.v f = true, c := fun c => cOk K.P K.fb K.G false c = true ∧ K.fb.l = true, r := fun f => (K.fb f = true ∧ K.X f = false) ∧ K.fb.l = true, z := K.z, m := K.fb.m, a := fun f n => arOk K.fb f n = true }

inductive RelI (K : Kit) (d : Bool) (ρ : Rn) : Item → Item → Prop
  | code {c : Code} : cOk K.P K.fb K.G d c = true → RelI K d ρ (.code c) (.code c)
  | inBlock {n : Nat} : RelI K d ρ (.inBlock n) (.inBlock n)
  | inLoop {c : Code} : cOk K.P K.fb K.G d c = true → RelI K d ρ (.inLoop c) (.inLoop c)
  | inScope {c : Code} : cOk K.P K.fb K.G d c = true → RelI K d ρ (.inScope c) (.inScope c)
  | inRegion {ops : Array Oper} {l : List Nat} : cOk K.P K.fb K.G d (.region 0 ops false) = true → RelI K d ρ (.inRegion ops l) (.inRegion ops l)
  | inRangeFunc {l l' : Nat} : ρ.r l l' → RelI K d ρ (.inRangeFunc l) (.inRangeFunc l')
  | endRangeFunc {l l' : Nat} : ρ.r l l' → RelI K d ρ (.endRangeFunc l) (.endRangeFunc l')
  | beginRound : RelI K d ρ .beginRound .beginRound

structure RelP (F : Fs) (ρ : Rn) (e e' : PanicEntry) : Prop where
  v : RelV F ρ e.v e'.v
  r : e'.recovered = e.recovered
  g : e.goexit = false ∧ e'.goexit = false
  u : e.recovered = false
inductive RelM (F : Fs) (ρ : Rn) : FrameMode → FrameMode → Prop
  | run : RelM F ρ .run .run
  | returning : RelM F ρ .returning .returning
  | panicking {c c' : List PanicEntry} : All2 (RelP F ρ) c c' → RelM F ρ (.panicking c) (.panicking c')

def RelRo (ρ : Rn) : Option Nat → Option Nat → Prop
  | none, none => True
  | some l, some l' => ρ.r l l'
  | _, _ => False

/-- frames, side by side: of a function that is the same on both sides -/
structure RelFr (K : Kit) (T : Twin) (ρ : Rn) (f f' : Frame) : Prop where
  fn : f'.fn = f.fn
  ok : K.fb f.fn = true ∧ K.X f.fn = false
  tmps : RelVs K.F ρ f.tmps f'.tmps
  todo : All2 (RelI K f.roundOf.isNone ρ) f.todo f'.todo
  defers : All2 (RelD K.F ρ) f.defers f'.defers
  mode : RelM K.F ρ f.mode f'.mode
  kind : f'.kind = f.kind ∧ (f.kind = .normal ∨ f.kind = .deferred)
  round : RelRo ρ f.roundOf f'.roundOf
  nd : K.fb.l = false → f.defers = []

section
variable {K : Kit} {T : Twin} {ρ ρ' : Rn} {d : Bool}
theorem RelI.mono (h : ρ.le ρ') {i i' : Item} (k : RelI K d ρ i i') : RelI K d ρ' i i' := by
  cases k with
  | code a => exact .code a
  | inBlock => exact .inBlock
  | inLoop a => exact .inLoop a
  | inScope a => exact .inScope a
  | inRegion a => exact .inRegion a
  | inRangeFunc a => exact .inRangeFunc (h.r _ _ a)
  | endRangeFunc a => exact .endRangeFunc (h.r _ _ a)
  | beginRound => exact .beginRound
theorem RelM.mono {F : Fs} (h : ρ.le ρ') {i i' : FrameMode} (k : RelM F ρ i i') : RelM F ρ' i i' := by
  cases k with
  | run => exact .run
  | returning => exact .returning
  | panicking a => exact .panicking (forall2_mono (fun _ _ x => ⟨x.v.mono h, x.r, x.g, x.u⟩) a)
theorem RelRo.mono (h : ρ.le ρ') {o o' : Option Nat} (k : RelRo ρ o o') : RelRo ρ' o o' := by
  cases o <;> cases o' <;> first | exact k.elim | trivial | exact h.r _ _ k
theorem RelFr.mono (h : ρ.le ρ') {f f' : Frame} (k : RelFr K T ρ f f') : RelFr K T ρ' f f' :=
  ⟨k.fn, k.ok, k.tmps.mono h, forall2_mono (fun _ _ x => x.mono h) k.todo, forall2_mono (fun _ _ x => x.mono' (.refl _) h) k.defers, k.mode.mono h, k.kind, k.round.mono h, k.nd⟩

theorem RelFr.ev {f f' : Frame} (k : RelFr K T ρ f f') (hG : ∀ g, g < K.G → ρ.r g g) : RelEv K.F ρ K.fb K.G f.eval f'.eval := by
  intro x hx
  cases x with
  | tmp t => exact k.tmps.getD t
  | const v => exact closed_rel hx
  | global g => exact .ptr ⟨hG g (by simpa [opdOk] using hx), rfl, rfl⟩
  | func f => exact .func (by simp only [opdOk, Bool.and_eq_true] at hx; exact hx.1) (by simp only [opdOk, Bool.and_eq_true] at hx; exact hx.2) rfl (fun i v v' h => by simp at h) rfl (fun i v v' h => by simp at h)

theorem RelI.findLabel {c : Code} : ∀ {l : Nat} {r : Code}, cOk K.P K.fb K.G d c = true → Go.findLabel c l = some r → cOk K.P K.fb K.G d r = true := by
  induction c with
  | seq a b iha ihb =>
    intro l r h e
    simp only [cOk, Bool.and_eq_true] at h
    simp only [Go.findLabel] at e
    split at e
    · rename_i x hx
      cases e
      simp only [cOk, Bool.and_eq_true]
      exact ⟨iha h.1 hx, h.2⟩
    · exact ihb h.2 e
  | label l' =>
    intro l r h e
    simp only [Go.findLabel] at e
    split at e
    · cases e; rfl
    · cases e
  | _ => intro l r h e; simp [Go.findLabel] at e

theorem all2_exitTo {id : Nat} {k k' : List Item} (h : All2 (RelI K d ρ) k k') : match exitTo id k, exitTo id k' with
    | none, none => True
    | some a, some b => All2 (RelI K d ρ) a b
    | _, _ => False := by
  induction h with
  | nil => exact trivial
  | cons hi hl ih =>
    cases hi <;> simp only [exitTo] <;> first | exact ih | skip
    rename_i n
    by_cases hn : (n == id) = true
    · simp only [hn, if_true]; exact hl
    · simp only [hn, if_false, Bool.false_eq_true]; exact ih
theorem all2_gotoIn {id : Nat} {k k' : List Item} (h : All2 (RelI K d ρ) k k') : match gotoIn id k, gotoIn id k' with
    | none, none => True
    | some a, some b => All2 (RelI K d ρ) a b
    | _, _ => False := by
  induction h with
  | nil => exact trivial
  | cons hi hl ih =>
    cases hi <;> simp only [gotoIn] <;> first | exact ih | skip
    rename_i c hc
    cases hf : Go.findLabel c id with
    | none => exact ih
    | some r => exact .cons (.code (RelI.findLabel hc hf)) (.cons (.inScope hc) hl)
end

end Go.Proofs.Ytcdhmnefmbcmaaa
