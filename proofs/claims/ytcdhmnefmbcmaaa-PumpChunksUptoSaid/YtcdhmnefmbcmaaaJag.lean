/-
  The operations, side by side (eighth part: calls, and the operation as a whole); no condition but what each law names.
  The operation as a whole, side by side; no condition but what each law names.
-/
import Derived.Test.YtcdhmnefmbcmaaaJaf
namespace Go.Proofs.Ytcdhmnefmbcmaaa
open Go Go.Conc

/-- which operands may be met: fb: the functions, G: the first variables -/
def opdOk (fb : Fb) (G : Nat) : Operand → Bool
  | .tmp _ => true
  | .const v => closed v
  | .global g => decide (g < G)
  | .func f => fb f && fb.v f

/-- which constants are nil at that type -/
def nilOpd (P : Program) (t : TypeId) : Operand → Bool
  | .const v => nilEq P t v
  | _ => false

/-- a function that is held as a value is called with two arguments at most -/
def fewOk (m : Nat) : Operand → Nat → Bool
  | .func _, _ => true
  | _, n => decide (n ≤ m)

/-- a function that is called by name alone has so many arguments -/
def arOk (fb : Fb) (f : FuncId) (n : Nat) : Bool := match fb.a f with | none => true | some m => n == m
def calleeOk (P : Program) (fb : Fb) (G : Nat) : Callee → Array TypeId → Array Operand → Bool
  | .value (.func f), _, as => fb f && arOk fb f as.size
  | .value f, _, as => opdOk fb G f && fewOk fb.m f as.size
  | .invoke r name, _, _ => opdOk fb G r && methOk P fb name
  | .builtin .append, ts, as => (match ts.toList, as.toList with
    | [t, xt], [_, _] => (match P.underlying xt with | some (.int _) => false | _ => true) && (match P.underlying t with | some (.slice el) => zeroOk P el | _ => true)
    | _, _ => false)
  | .builtin .len, ts, as => (match ts.toList, as.toList with
    | [t], [_] => (match P.underlying t with | some (.chan _ _) => false | _ => true)
    | _, _ => false)
  | .builtin .max, _, _ => true
  | .builtin .min, _, _ => true
  | _, _, _ => false

/-- a function that is named and called is no value -/
def callOpds (c : Call) : Array Operand := match c.callee with | .value (.func _) => c.args | _ => c.operands
def opsOf : Op → Array Operand
  | .call c | .defer c => callOpds c
  | op => op.operands
def opOk (P : Program) (fb : Fb) (G : Nat) (op : Op) : Bool :=
  (opsOf op).all (opdOk fb G) && match op with
  | .move _ | .assign _ | .pick _ _ _ | .box _ _ | .load _ _ | .store _ _ _ | .nilCheck _ | .makeInterface _ _ | .slice _ _ _ _ _ | .fieldAddr _ _ _ | .indexAddr _ _ _ | .extract _ _ | .panic _ => true
  | .alloc t => zeroOk P t
  | .build t _ => zeroOk P t
  | .buildSlice t _ _ => (match P.underlying t with | some (.slice el) => zeroOk P el | _ => true)
  | .binOp op t x y _ => if op == .eql || op == .neq then plainEq P t || nilOpd P t y || nilOpd P t x else (match P.underlying t with | some .unsafePointer => false | _ => true)
  | .unOp .not _ _ => true
  | .convert s d _ => (match P.underlying s, P.underlying d with
    | some (.slice e), some .string => (match P.underlying e with | some (.int .u8) => true | _ => false)
    | some (.int _), some (.int _) => true
    | some .string, some .string => true
    | _, _ => false)
  | .makeFunc (.func f) _ _ => fb f && fb.v f
  | .call c => calleeOk P fb G c.callee c.argTypes c.args
  | .defer c => fb.d && (match c.callee with | .value (.func f) => fb f && arOk fb f c.args.size | .value f => fewOk fb.m f c.args.size | _ => false)
  | _ => false

/-- what an operation asks of the machine, side by side -/
inductive RelNext (F : Fs) (ρ : Rn) : Next → Next → Prop
  | value {v v' : Value} : RelV F ρ v v' → RelNext F ρ (.value v) (.value v')
  | skip : RelNext F ρ .skip .skip
  | enter {f : FuncId} {p p' : Array Value} : F f → F.a f p.size → RelVs F ρ p p' → RelNext F ρ (.enter f p) (.enter f p')
  | round {l l' : Nat} {f : FuncId} {p p' : Array Value} {a b : Code} : ρ.r l l' → RelVs F ρ p p' → F.r f → F.c a → F.c b → RelNext F ρ (.round l f p a b) (.round l' f p' a b)
  | defer {d d' : Deferred} : F.d → RelD F ρ d d' → RelNext F ρ (.defer d) (.defer d')
  | seq {p : Array Value} {n : Next} : p.size ≤ F.m + 2 → (∃ s k a b, ρ.q s k a b) → RelNext F ρ (.enter F.z p) n

abbrev QNx (F : Fs) : Rn → Next → Next → Prop := fun ρ => RelNext F ρ

section
variable {T : Twin} {F : Fs} {N : Nat} {ρ : Rn} {α β γ : Type}

theorem rel_v {s s' : Sem Value} (h : SemRel T F N (QV F) s ρ s') : SemRel T F N (QNx F) (do pure (.value (← s)) : Sem Next) ρ (do pure (.value (← s')) : Sem Next) :=
  h.bind fun _ _ _ _ hv => fun _ => .value hv
theorem rel_u {s s' : Sem Unit} (h : SemRel T F N QEq s ρ s') : SemRel T F N (QNx F) (do s; pure .skip : Sem Next) ρ (do s'; pure .skip : Sem Next) :=
  h.bind fun _ _ _ _ _ => fun _ => .skip

/-- the functions that may be met have bodies, on both sides -/
structure HasBodies (T : Twin) (F : Fs) : Prop where
  z : (∃ fn, T.v.funcs[F.z]? = some fn ∧ fn.body.isNone = false ∧ (fn.name == "runtime.NumGoroutine") = false) ∧ ∃ fn, T.P.funcs[F.z]? = some fn ∧ fn.body.isNone = false ∧ (fn.name == "runtime.NumGoroutine") = false
  v : ∀ f, F f → ∃ fn, T.v.funcs[f]? = some fn ∧ fn.body.isNone = false ∧ (fn.name == "runtime.NumGoroutine") = false
  a : ∀ f, F f → ∃ fn, T.P.funcs[f]? = some fn ∧ fn.body.isNone = false ∧ (fn.name == "runtime.NumGoroutine") = false
  va : ∀ f, F.v f → ∀ n, F.a f n
  /-- the first type has no method of no name -/
  m0 : ∀ i, T.P.info? 0 = some i → i.methods.find? (·.name == "") = none

theorem rel_callFunc (hB : HasBodies T F) {f : FuncId} (hf : F f) {p p' : Array Value} (ha : F.a f p.size) (hp : RelVs F ρ p p') : SemRel T F N (QNx F) (callFunc f p) ρ (callFunc f p') := by
  obtain ⟨fn, h1, h2, h3⟩ := hB.v f hf
  obtain ⟨fn', h1', h2', h3'⟩ := hB.a f hf
  unfold callFunc
  refine rel_program.bind fun ρ₁ a b l1 e => ?_
  obtain ⟨rfl, rfl⟩ := e
  simp only [h1, h1', h2, h2', h3, h3', Bool.false_eq_true, if_false]
  exact fun _ => .enter hf ha (hp.mono l1)

theorem rel_callMethod (hB : HasBodies T F) {fb : Fb} (hfb : ∀ f, fb f = true → F f) (hfa : ∀ f n, arOk fb f n = true → F.a f n) {name : String} (hm : methOk T.P fb name = true) {x x' : Value} (h : RelV F ρ x x') {p p' : Array Value} (hp : RelVs F ρ p p') :
    SemRel T F N (QNx F) (callMethod x name p) ρ (callMethod x' name p') := by
  unfold callMethod
  cases h with
  | flat hf => cases x <;> first | exact fun _ => trivial | exact rel_runtimePanic (e := .nilDeref) trivial | exact absurd (show false = true from hf) (by simp)
  | iface hv =>
    simp only
    refine rel_program.bind fun ρ₁ a b l1 e => ?_
    obtain ⟨rfl, rfl⟩ := e
    refine (rel_method hm _ _ (hv.mono l1)).bind fun ρ₂ q q' l2 hq => ?_
    obtain ⟨f, r⟩ := q
    obtain ⟨f', r'⟩ := q'
    obtain ⟨e1, h1, h2⟩ := hq
    simp only at e1 h1 h2
    subst e1
    exact rel_callFunc hB (hfb _ h1.1) (hfa _ _ (by unfold arOk; rw [h1.2])) ((RelVs.one h2).append ((hp.mono l1).mono l2))
  | _ => exact fun _ => trivial

theorem rel_callSeq (hB : HasBodies T F) {p p' : Array Value} (hp : p.size ≤ F.m + 2) (hq : ∃ s k a b, ρ.q s k a b) : SemRel T F N (QNx F) (callFunc F.z p) ρ (callFunc F.z p') := by
  obtain ⟨⟨fn, h1, h2, h3⟩, fn', h1', h2', h3'⟩ := hB.z
  unfold callFunc
  refine rel_program.bind fun ρ₁ a b l1 e => ?_
  obtain ⟨rfl, rfl⟩ := e
  simp only [h1, h1', h2, h2', h3, h3', Bool.false_eq_true, if_false]
  obtain ⟨s, k, x, y, hq⟩ := hq
  exact fun _ => .seq hp ⟨s, k, x, y, l1.q _ _ _ _ hq⟩

theorem rel_ofValue (hva : ∀ f, F.v f → ∀ n, F.a f n) {x x' : Value} (h : RelV F ρ x x') {p p' : Array Value} (hp : RelVs F ρ p p') (hs : (∃ s n, x = seqV F.z s n) → p.size ≤ F.m) : SemRel T F N (fun ρ => RelD F ρ) (Deferred.ofValue x p) ρ (Deferred.ofValue x' p') := by
  unfold Deferred.ofValue
  cases h with
  | flat hf => cases x <;> first | exact fun _ => trivial | exact fun _ => .mk .nil hp | exact absurd (show false = true from hf) (by simp)
  | func hf hv h1 h2 h3 h4 => exact fun _ => .mk (.fn hf (hva _ hv _) ⟨h3, h4⟩) (RelVs.append ⟨h1, h2⟩ hp)
  | yield hl => exact fun _ => .mk (.yield hl) (by simpa using hp)
  | mf hx hm => cases x' <;> first | exact absurd (show false = true from hm) (by simp) | exact fun _ => RelD.dead hx hm hp
  | seq hq => exact fun _ => .mk (.seq (by have := hs ⟨_, _, rfl⟩; simpa using this) hq) (by simpa using hp)
  | tok hc ht =>
    cases x' <;> first | exact absurd (show false = true from ht) (by simp) | exact fun _ => trivial
  | _ => exact fun _ => trivial

theorem rel_setTmps {ps : List (Tmp × Value)} : ∀ {ps' : List (Tmp × Value)} {p p' : Array Value}, All2 (fun q q' => q.1 = q'.1 ∧ RelV F ρ q.2 q'.2) ps ps' → RelVs F ρ p p' →
    RelVs F ρ (ps.foldl (fun tmps (t, a) => tmps.setIfInBounds t a) p) (ps'.foldl (fun tmps (t, a) => tmps.setIfInBounds t a) p') := by
  induction ps with
  | nil => intro ps' p p' h hp; cases h; exact hp
  | cons q ps ih =>
    intro ps' p p' h hp
    cases h with
    | @cons _ q' _ ps' h1 h2 =>
      obtain ⟨t, a⟩ := q
      obtain ⟨t', a'⟩ := q'
      obtain ⟨e, hr⟩ := h1
      simp only at e hr
      subst e
      simp only [List.foldl_cons]
      exact ih h2 (hp.set hr _)
theorem all2_zip {l : List Tmp} : ∀ {p p' : List Value}, RelVs F ρ p.toArray p'.toArray → All2 (fun q q' : Tmp × Value => q.1 = q'.1 ∧ RelV F ρ q.2 q'.2) (l.zip p) (l.zip p') := by
  induction l with
  | nil => intro p p' _; simp only [List.zip_nil_left]; exact .nil
  | cons t l ih =>
    intro p p' h
    cases p with
    | nil =>
      have : p' = [] := by have := h.1; simp at this; exact List.length_eq_zero_iff.1 this.symm
      subst this; simp only [List.zip_nil_right]; exact .nil
    | cons v p =>
      cases p' with
      | nil => have := h.1; simp at this
      | cons v' p' =>
        simp only [List.zip_cons_cons]
        exact .cons ⟨rfl, h.2 0 v v' (by simp) (by simp)⟩ (ih ⟨by have := h.1; simpa using this, fun j x x' hx hx' => h.2 (j + 1) x x' (by simpa using hx) (by simpa using hx')⟩)

theorem rel_getLoop {l l' : Nat} (h : ρ.r l l') : SemRel T F N (fun ρ => RelL F ρ) (Instr.getLoop l) ρ (Instr.getLoop l') := by
  unfold Instr.getLoop
  refine SemRel.bind (Q := fun ρ => RelO F ρ) (fun _ => ⟨h, fun o o' ho => ho⟩) fun ρ₁ o o' l1 ho => ?_
  cases ho with
  | loop hl => exact fun _ => hl
  | _ => exact fun _ => trivial
theorem rel_yield {l l' : Nat} (h : ρ.r l l') {p p' : Array Value} (hp : RelVs F ρ p p') : SemRel T F N (QNx F) (Instr.yield l p) ρ (Instr.yield l' p') := by
  unfold Instr.yield
  refine (rel_getLoop h).bind fun ρ₁ r r' l1 hr => ?_
  rw [hr.params, ← hp.1]
  by_cases hs : p.size ≠ r.params.size
  · simp only [hs, if_true, ne_eq, not_false_eq_true]
    exact SemRel.bind (Q := fun _ _ _ => False) (fun _ => trivial) fun _ _ _ _ e => e.elim
  · simp only [hs, if_false]
    rw [hr.fn, hr.assign, hr.body]
    refine fun _ => .round (l1.r _ _ h) ?_ hr.okF hr.okA hr.okB
    have := rel_setTmps (F := F) (ρ := ρ₁) (all2_zip (F := F) (l := r.params.toList) (p := p.toList) (p' := p'.toList) (by simpa using hp.mono l1)) hr.tmps
    rw [← Array.foldl_toList, ← Array.foldl_toList, Array.toList_zip, Array.toList_zip]
    exact this

/-- a method that is held, and stands for another one, is not called -/
theorem call_dead (h0 : ∀ i, T.P.info? 0 = some i → i.methods.find? (·.name == "") = none) {b : Nat} {p : Array Value} : SemDead T (do let d ← Deferred.ofValue (mfV b) p; invoke d.target d.args : Sem Next) := by
  show SemDead T (invoke (.fn (.method "") #[]) (#[.iface 0 (.chan (some b))] ++ p))
  have e : (#[Value.iface 0 (.chan (some b))] ++ p)[0]? = some (.iface 0 (.chan (some b))) := by rw [Array.getElem?_append_left (by simp)]; rfl
  unfold invoke
  simp only [e]
  unfold callMethod
  simp only
  have e2 : ∀ n, SemDead T (method n 0 (.chan (some b)) "") := by
    intro n
    cases n with
    | zero => exact trivial
    | succ n =>
      rw [method]
      show SemDead T ((match T.P.info? 0 with | some d => pure d | none => stuck "no such type" : Sem TypeInfo).bind _)
      cases h : T.P.info? 0 with
      | none => exact trivial
      | some i =>
        simp only [pure, Sem.bind, h0 i h]
        exact trivial
  exact (e2 _).bind
theorem held_dead (h0 : ∀ i, T.P.info? 0 = some i → i.methods.find? (·.name == "") = none) {b : Nat} {p : Array Value} : SemDead T (invoke (heldD (mfV b) p).target (heldD (mfV b) p).args) := call_dead h0
theorem rel_invokeFn (hB : HasBodies T F) {d d' : Deferred} (h : RelD F ρ d d') : SemRel T F N (QNx F) (invoke d.target d.args) ρ (invoke d'.target d'.args) := by
  cases h with
  | dead h1 h2 h3 => exact rel_dead (held_dead hB.m0) _
  | mk h hp =>
  obtain ⟨t, p⟩ := d
  obtain ⟨t', p'⟩ := d'
  simp only at h hp
  cases h with
  | nil => exact rel_runtimePanic (e := .nilDeref) trivial
  | fn hf ha hq => exact rel_callFunc hB hf (by rw [Array.size_append]; exact ha) (hp.append hq)
  | yield hl => exact rel_yield hl hp
  | seq hm hq => exact rel_callSeq hB (by simp only [Array.size_append, List.size_toArray, List.length_cons, List.length_nil]; omega) ⟨_, _, _, _, hq⟩
  | collected hb => exact fun _ => trivial

theorem rel_invokeValue (hB : HasBodies T F) {x x' : Value} (h : RelV F ρ x x') {p p' : Array Value} (hp : RelVs F ρ p p') (hs : (∃ s n, x = seqV F.z s n) → p.size ≤ F.m) :
    SemRel T F N (QNx F) (do let d ← Deferred.ofValue x p; invoke d.target d.args : Sem Next) ρ (do let d ← Deferred.ofValue x' p'; invoke d.target d.args) := by
  exact (rel_ofValue hB.va h hp hs).bind fun _ _ _ _ hd => rel_invokeFn hB hd

/-- the operands, side by side -/
def RelEv (F : Fs) (ρ : Rn) (fb : Fb) (G : Nat) (ev ev' : Operand → Value) : Prop := ∀ x, opdOk fb G x = true → RelV F ρ (ev x) (ev' x)
theorem RelEv.mono {ρ' : Rn} {fb : Fb} {G : Nat} {ev ev' : Operand → Value} (h : RelEv F ρ fb G ev ev') (k : ρ.le ρ') : RelEv F ρ' fb G ev ev' := fun x hx => (h x hx).mono k
theorem RelEv.map {fb : Fb} {G : Nat} {ev ev' : Operand → Value} (h : RelEv F ρ fb G ev ev') {l : Array Operand} (hl : l.all (opdOk fb G) = true) : RelVs F ρ (l.map ev) (l.map ev') :=
  RelVs.map fun x hx => h x (Array.all_eq_true'.1 hl x hx)
theorem RelEv.opt {fb : Fb} {G : Nat} {ev ev' : Operand → Value} (h : RelEv F ρ fb G ev ev') {o : Option Operand} (hl : o.toArray.all (opdOk fb G) = true) : QO F ρ (o.map ev) (o.map ev') := by
  cases o with
  | none => trivial
  | some x => exact h x (by simpa using hl)
theorem RelEv.parts {fb : Fb} {G : Nat} {ev ev' : Operand → Value} (h : RelEv F ρ fb G ev ev') : ∀ {l : List (Nat × Operand)}, (∀ q ∈ l, opdOk fb G q.2 = true) →
    QP F ρ (l.map fun q => (q.1, ev q.2)) (l.map fun q => (q.1, ev' q.2)) := by
  intro l
  induction l with
  | nil => intro _; exact .nil
  | cons q l ih =>
    intro hl
    exact .cons ⟨rfl, h _ (hl q (by simp))⟩ (ih fun x hx => hl x (by simp [hx]))

theorem rel_bytesLoop (l : List Value) : ∀ {l' : List Value} {s : ByteArray}, RelVs F ρ l.toArray l'.toArray →
    SemRel T F N QEq (forIn l s (fun c s => match c with | .int .u8 n => pure (.yield (s.push (UInt8.ofNat n.toNat))) | _ => stuck "bytesToString: byte expected") : Sem ByteArray) ρ
      (forIn l' s (fun c s => match c with | .int .u8 n => pure (.yield (s.push (UInt8.ofNat n.toNat))) | _ => stuck "bytesToString: byte expected") : Sem ByteArray) := by
  induction l with
  | nil =>
    intro l' s h
    have : l' = [] := by have := h.1; simp at this; exact List.length_eq_zero_iff.1 this.symm
    subst this
    simp only [List.forIn_nil]; exact fun _ => rfl
  | cons v l ih =>
    intro l' s h
    cases l' with
    | nil => have := h.1; simp at this
    | cons v' l' =>
      simp only [List.forIn_cons]
      have hv : RelV F ρ v v' := h.2 0 v v' (by simp) (by simp)
      have ht : RelVs F ρ l.toArray l'.toArray := ⟨by have := h.1; simpa using this, fun j x x' hx hx' => h.2 (j + 1) x x' (by simpa using hx) (by simpa using hx')⟩
      cases hv with
      | flat hf =>
        cases v <;> first | exact fun _ => trivial | skip
        rename_i k n
        cases k <;> first | exact fun _ => trivial | skip
        simp only [pure_bind]
        exact ih ht
      | _ => exact fun _ => trivial
theorem rel_bytesToString {x x' : Value} (h : RelV F ρ x x') : SemRel T F N (QV F) (Conv.bytesToString x) ρ (Conv.bytesToString x') := by
  unfold Conv.bytesToString
  cases h with
  | flat hf =>
    cases x <;> first | exact fun _ => trivial | skip
    rename_i a n k
    cases a with
    | none => exact fun _ => .flat rfl
    | some _ => exact absurd (show false = true from hf) (by simp)
  | slice ha =>
    simp only
    refine (rel_loadCells ha _).bind fun ρ₁ p p' l1 hp => ?_
    simp only [← Array.forIn_toList]
    exact (rel_bytesLoop p.toList (l' := p'.toList) (by simpa using hp)).bind fun ρ₂ a b _ e => by obtain rfl : a = b := e; exact fun _ => .flat rfl
  | emp _ =>
    simp only [loadCells, loadCellsFrom]
    exact fun _ => .flat rfl
  | _ => exact fun _ => trivial

theorem rel_convert {t u : TypeId} (hc : (match T.P.underlying t, T.P.underlying u with
    | some (.slice e), some .string => (match T.P.underlying e with | some (.int .u8) => true | _ => false)
    | some (.int _), some (.int _) => true
    | some .string, some .string => true
    | _, _ => false) = true) {x x' : Value} (h : RelV F ρ x x') : SemRel T F N (QV F) (convert t u x) ρ (convert t u x') := by
  unfold convert
  refine (rel_underlying t).bind fun ρ₁ d d' l1 e => ?_
  obtain ⟨rfl, hd⟩ := e
  refine (rel_underlying u).bind fun ρ₂ f f' l2 e => ?_
  obtain ⟨rfl, hf⟩ := e
  rw [hd, hf] at hc
  have h := (h.mono l1).mono l2
  split at hc
  · rename_i e1 e2
    cases e1; cases e2
    rename_i e
    split at hc
    · rename_i he
      have key : SemRel T F N (QV F) (do match ← underlying e with
          | .int .u8 => Conv.bytesToString x
          | .int .i32 => Conv.runesToString x
          | _ => stuck "Convert: a slice of what to string?" : Sem Value) ρ₂ (do match ← underlying e with
          | .int .u8 => Conv.bytesToString x'
          | .int .i32 => Conv.runesToString x'
          | _ => stuck "Convert: a slice of what to string?") := by
        refine (rel_underlying e).bind fun ρ₃ g g' l3 q => ?_
        obtain ⟨rfl, hg⟩ := q
        rw [he] at hg
        cases hg
        exact rel_bytesToString (h.mono l3)
      cases h with
      | flat hfl => cases x <;> first | exact absurd (show false = true from hfl) (by simp) | exact key | exact fun _ => trivial | exact fun _ => .flat rfl
      | tok hk ht =>
        cases x' <;> first | exact absurd (show false = true from ht) (by simp) | exact key
      | mf hk hm => cases x' <;> first | exact absurd (show false = true from hm) (by simp) | exact key
      | _ => exact key
    · cases hc
  · rename_i e1 e2
    cases e1; cases e2
    cases h with
    | flat hfl => cases x <;> first | exact fun _ => .flat rfl | exact fun _ => trivial | exact absurd (show false = true from hfl) (by simp) | (rename_i a; cases a <;> first | exact fun _ => trivial | exact absurd (show false = true from hfl) (by simp))
    | _ => exact fun _ => trivial
  · rename_i e1 e2
    cases e1; cases e2
    cases h with
    | flat hfl => cases x <;> first | exact fun _ => .flat rfl | exact fun _ => trivial | exact absurd (show false = true from hfl) (by simp)
    | _ => exact fun _ => trivial
  · cases hc

end

end Go.Proofs.Ytcdhmnefmbcmaaa

namespace Go.Proofs.Ytcdhmnefmbcmaaa
open Go Go.Conc

section
variable {T : Twin} {F : Fs} {N : Nat} {ρ : Rn}

theorem rel_resolve {fb : Fb} {G : Nat} {ev ev' : Operand → Value} (hev : RelEv F ρ fb G ev ev') {c : Call} {f : Operand} (e : c.callee = .value f) (hc : c.operands.all (opdOk fb G) = true) (ty : TypeId) :
    RelV F ρ (ev f) (ev' f) ∧ RelVs F ρ (c.args.map ev) (c.args.map ev') ∧ resolve ev c ty = Deferred.ofValue (ev f) (c.args.map ev) ∧ resolve ev' c ty = Deferred.ofValue (ev' f) (c.args.map ev') := by
  unfold Call.operands at hc
  rw [e] at hc
  simp only [Array.all_append, Bool.and_eq_true] at hc
  exact ⟨hev f (by simpa using hc.1), hev.map hc.2, by unfold resolve; rw [e], by unfold resolve; rw [e]⟩

theorem all_get {fb : Fb} {G : Nat} {as : Array Operand} (h : as.all (opdOk fb G) = true) {x : Operand} (hx : x ∈ as) : opdOk fb G x = true := Array.all_eq_true'.1 h x hx

theorem few_of {ev : Operand → Value} (hfun : ∀ g, ev (.func g) = .func (.func g) #[] #[]) {f : Operand} {n : Nat} {m : Nat} (h : fewOk m f n = true) {z : FuncId} : (∃ s k, ev f = seqV z s k) → n ≤ m := by
  rintro ⟨s, k, e⟩
  cases f with
  | func g => rw [hfun] at e; simp [seqV] at e
  | _ => simpa [fewOk] using h

theorem rel_resolveF {fb : Fb} {G : Nat} {ev ev' : Operand → Value} (hev : RelEv F ρ fb G ev ev') (hfun : ∀ g, ev (.func g) = .func (.func g) #[] #[]) (hfun' : ∀ g, ev' (.func g) = .func (.func g) #[] #[]) {c : Call} {g : FuncId} (e : c.callee = .value (.func g)) (hg : F g) (hga : F.a g c.args.size)
    (hc : (callOpds c).all (opdOk fb G) = true) (ty : TypeId) : SemRel T F N (fun ρ => RelD F ρ) (resolve ev c ty) ρ (resolve ev' c ty) := by
  unfold callOpds at hc
  rw [e] at hc
  have ha := hev.map hc
  have e1 : resolve ev c ty = pure { target := .fn (.func g) #[], args := #[] ++ c.args.map ev } := by unfold resolve; rw [e]; simp only [hfun]; rfl
  have e2 : resolve ev' c ty = pure { target := .fn (.func g) #[], args := #[] ++ c.args.map ev' } := by unfold resolve; rw [e]; simp only [hfun']; rfl
  rw [e1, e2]
  exact fun _ => .mk (.fn hg (by simpa using hga) RelVs.nil) (RelVs.append RelVs.nil ha)
theorem callOpds_of {c : Call} (h : ∀ g, c.callee ≠ .value (.func g)) : callOpds c = c.operands := by
  unfold callOpds
  split
  · rename_i e; exact absurd e (h _)
  · rfl

theorem rel_call (hB : HasBodies T F) {fb : Fb} {G : Nat} (hfb : ∀ f, fb f = true → F f) (hfa : ∀ f n, arOk fb f n = true → F.a f n) (hfm : fb.m ≤ F.m) {ev ev' : Operand → Value} (hev : RelEv F ρ fb G ev ev') (hfun : ∀ g, ev (.func g) = .func (.func g) #[] #[]) (hfun' : ∀ g, ev' (.func g) = .func (.func g) #[] #[]) {c : Call} (ho : (callOpds c).all (opdOk fb G) = true)
    (hc : calleeOk T.P fb G c.callee c.argTypes c.args = true) (ty : TypeId) : SemRel T F N (QNx F) (do let d ← resolve ev c ty; invoke d.target d.args : Sem Next) ρ (do let d ← resolve ev' c ty; invoke d.target d.args) := by
  by_cases hst : ∃ g, c.callee = .value (.func g)
  · obtain ⟨g, hst⟩ := hst
    rw [hst] at hc
    simp only [calleeOk, Bool.and_eq_true] at hc
    exact (rel_resolveF hev hfun hfun' hst (hfb _ hc.1) (hfa _ _ hc.2) ho ty).bind fun _ _ _ _ hd => rel_invokeFn hB hd
  rw [callOpds_of fun g e => hst ⟨g, e⟩] at ho
  cases hq : c.callee with
  | value f =>
    obtain ⟨h1, h2, e1, e2⟩ := rel_resolve hev hq ho ty
    rw [e1, e2]
    rw [hq] at hc
    have hc : fewOk fb.m f c.args.size = true := by
      cases f with
      | func g => exact absurd ⟨g, hq⟩ hst
      | _ => simp only [calleeOk, Bool.and_eq_true] at hc; exact hc.2
    exact rel_invokeValue hB h1 h2 (by rw [Array.size_map]; exact fun h => Nat.le_trans (few_of hfun hc h) hfm)
  | invoke r name =>
    rw [hq] at hc
    simp only [calleeOk, Bool.and_eq_true] at hc
    have ho2 : c.args.all (opdOk fb G) = true := by unfold Call.operands at ho; rw [hq] at ho; simp only [Array.all_append, Bool.and_eq_true] at ho; exact ho.2
    have e1 : ∀ e : Operand → Value, (do let d ← resolve e c ty; invoke d.target d.args : Sem Next) = callMethod (e r) name (c.args.map e) := by
      intro e
      unfold resolve
      rw [hq]
      simp only [pure_bind, invoke]
      have h0 : (#[e r] ++ c.args.map e)[0]? = some (e r) := by simp [Array.getElem?_append]
      have h1 : (#[e r] ++ c.args.map e).extract 1 (#[e r] ++ c.args.map e).size = c.args.map e := by
        apply Array.ext_getElem?
        intro i
        rw [Array.getElem?_extract]
        simp only [Array.size_append, List.size_toArray, List.length_cons, List.length_nil, Nat.zero_add, Array.size_map]
        by_cases hi : i < c.args.size
        · rw [if_pos (by omega), Array.getElem?_append_right (by simp)]
          simp
        · rw [if_neg (by omega)]
          rw [Array.getElem?_map, Array.getElem?_eq_none (by omega)]; rfl
      rw [h0, h1]
    rw [e1, e1]
    exact rel_callMethod hB hfb hfa hc.2 (hev r hc.1) (hev.map ho2)
  | builtin b =>
    rw [hq] at hc
    have ho2 : c.args.all (opdOk fb G) = true := by unfold Call.operands at ho; rw [hq] at ho; simp only [Array.all_append, Bool.and_eq_true] at ho; exact ho.2
    have e1 : ∀ e : Operand → Value, (do let d ← resolve e c ty; invoke d.target d.args : Sem Next) = builtin b c.argTypes ty (c.args.map fun | .const _ => true | _ => false) (c.args.map e) := by
      intro e
      unfold resolve
      rw [hq]
      rfl
    rw [e1, e1]
    have hm := hev.map ho2
    cases b <;> first | exact absurd (show false = true from hc) (by simp) | skip
    · -- append
      simp only [calleeOk] at hc
      generalize c.argTypes = tsA at hc ⊢
      generalize c.args = asA at hc ho2 ⊢
      obtain ⟨ts⟩ := tsA
      obtain ⟨as⟩ := asA
      rcases ts with _ | ⟨t, _ | ⟨xt, _ | ⟨_, _⟩⟩⟩ <;> first | exact absurd (show false = true from hc) (by simp) | skip
      rcases as with _ | ⟨s, _ | ⟨x, _ | ⟨_, _⟩⟩⟩ <;> first | exact absurd (show false = true from hc) (by simp) | skip
      simp only [Bool.and_eq_true] at hc
      refine rel_v ?_
      simp only [List.map_toArray, List.map_cons, List.map_nil]
      refine rel_append t xt ty (fun k hk => ?_) (fun el hel => ?_) (hev s (all_get ho2 (by simp))) (hev x (all_get ho2 (by simp)))
      · rw [hk] at hc; exact absurd hc.1 (by simp)
      · rw [hel] at hc; exact hc.2
    · -- len
      simp only [calleeOk] at hc
      generalize c.argTypes = tsA at hc ⊢
      generalize c.args = asA at hc ho2 ⊢
      obtain ⟨ts⟩ := tsA
      obtain ⟨as⟩ := asA
      rcases ts with _ | ⟨t, _ | ⟨_, _⟩⟩ <;> first | exact absurd (show false = true from hc) (by simp) | skip
      rcases as with _ | ⟨s, _ | ⟨_, _⟩⟩ <;> first | exact absurd (show false = true from hc) (by simp) | skip
      refine rel_v ?_
      simp only [List.map_toArray, List.map_cons, List.map_nil]
      refine rel_len t ty (fun d e hd => ?_) (hev s (all_get ho2 (by simp)))
      simp only [hd] at hc
      cases hc
    · exact rel_v (rel_max _ _ hm)
    · exact rel_v (rel_min _ _ hm)

theorem rel_defer {fb : Fb} {G : Nat} (hfm : fb.m ≤ F.m) (hva : ∀ f, F.v f → ∀ n, F.a f n) {ev ev' : Operand → Value} (hev : RelEv F ρ fb G ev ev') (hfun : ∀ g, ev (.func g) = .func (.func g) #[] #[]) {c : Call} (ho : c.operands.all (opdOk fb G) = true) {f : Operand} (hq : c.callee = .value f) (hw : fewOk fb.m f c.args.size = true) (ty : TypeId) :
    SemRel T F N (fun ρ => RelD F ρ) (resolve ev c ty) ρ (resolve ev' c ty) := by
  obtain ⟨h1, h2, e1, e2⟩ := rel_resolve hev hq ho ty
  rw [e1, e2]
  exact rel_ofValue hva h1 h2 (by rw [Array.size_map]; exact fun h => Nat.le_trans (few_of hfun hw h) hfm)

theorem rel_execOp (hB : HasBodies T F) (hN : T.P.globals.size ≤ N) {fb : Fb} {G : Nat} (hfb : ∀ f, fb f = true → F f) (hfa : ∀ f n, arOk fb f n = true → F.a f n) (hfm : fb.m ≤ F.m) (hval : ∀ f, fb.v f = true → F.v f) (hlv : fb.d = true → F.d) {ev ev' : Operand → Value} (hev : RelEv F ρ fb G ev ev') (hconst : ∀ v, ev (.const v) = v) (hfun : ∀ g, ev (.func g) = .func (.func g) #[] #[]) (hfun' : ∀ g, ev' (.func g) = .func (.func g) #[] #[]) {o : Oper} (ho : opOk T.P fb G o.op = true) :
    SemRel T F N (QNx F) (execOp ev o) ρ (execOp ev' o) := by
  unfold opOk at ho
  rw [Bool.and_eq_true] at ho
  obtain ⟨hops, ho⟩ := ho
  unfold execOp
  cases hop : o.op <;> rw [hop] at ho hops <;> simp only [opsOf, Op.operands] at hops <;> dsimp only at ho ⊢ <;> first | exact absurd (show false = true from ho) (by simp) | skip
  case move x => exact fun _ => .value (hev x (all_get hops (by simp)))
  case assign x => exact fun _ => .value (hev x (all_get hops (by simp)))
  case pick c a b =>
    have h1 := hev c (all_get hops (by simp))
    have h2 := hev a (all_get hops (by simp))
    have h3 := hev b (all_get hops (by simp))
    refine (rel_asBool h1).bind fun ρ₁ x y l e => ?_
    obtain rfl : x = y := e
    cases x
    · exact fun _ => .value (h3.mono l)
    · exact fun _ => .value (h2.mono l)
  case alloc t => exact rel_v (rel_alloc t ho)
  case box t x => exact rel_v (rel_box t (hev x (all_get hops (by simp))))
  case build t ps =>
    refine rel_v (rel_build t ho ?_)
    rw [Array.toList_map, Array.toList_map]
    exact hev.parts fun q hq => all_get hops (by simp; exact ⟨q.1, Array.mem_def.2 hq⟩)
  case buildSlice t n ps =>
    refine rel_v (rel_buildSlice t n (fun el hel => by rw [hel] at ho; exact ho) ?_)
    rw [Array.toList_map, Array.toList_map]
    exact hev.parts fun q hq => all_get hops (by simp; exact ⟨q.1, Array.mem_def.2 hq⟩)
  case load t a => exact rel_v (rel_loadAt t (hev a (all_get hops (by simp))))
  case store t a x => exact rel_u (rel_storeAt t (hev a (all_get hops (by simp))) (hev x (all_get hops (by simp))))
  case nilCheck x => exact rel_nilCheck hB.m0 (hev x (all_get hops (by simp))) _ _ rfl rfl fun _ _ _ h => .value h
  case binOp op t x y r =>
    have hx := hev x (all_get hops (by simp))
    have hy := hev y (all_get hops (by simp))
    refine rel_v ?_
    by_cases hq : op = .eql ∨ op = .neq
    · have hp : plainEq T.P t = true ∨ nilEq T.P t (ev y) = true ∨ nilEq T.P t (ev x) = true := by
        have : (op == BinOp.eql || op == BinOp.neq) = true := by rcases hq with rfl | rfl <;> rfl
        rw [this, if_pos rfl, Bool.or_eq_true, Bool.or_eq_true] at ho
        have key : ∀ z : Operand, opdOk fb G z = true → nilOpd T.P t z = true → nilEq T.P t (ev z) = true := by
          intro z _ hn
          cases z <;> first | exact absurd (show false = true from hn) (by simp) | skip
          rw [hconst]
          exact hn
        rcases ho with (ho | ho) | ho
        · exact .inl ho
        · exact .inr (.inl (key y (all_get hops (by simp)) ho))
        · exact .inr (.inr (key x (all_get hops (by simp)) ho))
      exact (rel_eqGuard op x y (fun _ => hp) hx hy).bind fun ρ₁ _ _ l _ => rel_binOpEq hN hq hp (hx.mono l) (hy.mono l)
    · have hq' : op ≠ .eql ∧ op ≠ .neq := ⟨fun e => hq (.inl e), fun e => hq (.inr e)⟩
      have ht : T.P.underlying t ≠ some .unsafePointer := by
        have : (op == BinOp.eql || op == BinOp.neq) = false := by
          cases h : (op == BinOp.eql || op == BinOp.neq) with
          | false => rfl
          | true => rw [Bool.or_eq_true] at h; exact absurd (h.imp (fun e => by cases op <;> first | rfl | cases e) (fun e => by cases op <;> first | rfl | cases e)) hq
        rw [this] at ho
        intro e
        rw [e] at ho
        exact absurd ho (by simp)
      exact (rel_eqGuard op x y (fun e => absurd e hq) hx hy).bind fun ρ₁ _ _ l _ => rel_binOp hN hq' ht (hx.mono l) (hy.mono l)
  case unOp op t x =>
    cases op <;> first | exact absurd (show false = true from ho) (by simp) | skip
    refine rel_v ?_
    have hx := hev x (all_get hops (by simp))
    generalize ev x = a at hx
    generalize ev' x = a' at hx
    cases hx with
    | flat hf =>
      cases a <;> first | exact fun _ => .flat rfl | exact fun _ => trivial | exact absurd (show false = true from hf) (by simp)
    | _ => exact fun _ => trivial
  case convert s d x => exact rel_v (rel_convert ho (hev x (all_get hops (by simp))))
  case makeInterface t x => exact rel_v (rel_makeInterface t (hev x (all_get hops (by simp))))
  case makeFunc fn p q =>
    cases fn <;> first | exact absurd (show false = true from ho) (by simp) | skip
    rw [Array.all_append, Bool.and_eq_true] at hops
    exact rel_v (rel_makeFunc _ (hfb _ (by simp only [Bool.and_eq_true] at ho; exact ho.1)) (hval _ (by simp only [Bool.and_eq_true] at ho; exact ho.2)) (hev.map hops.1) (hev.map hops.2))
  case slice t x lo hi mx =>
    simp only [Array.all_append, Bool.and_eq_true] at hops
    obtain ⟨⟨⟨h1, h2⟩, h3⟩, h4⟩ := hops
    exact rel_v (rel_sliceAt t (hev x (all_get h1 (by simp))) (hev.opt h2) (hev.opt h3) (hev.opt h4))
  case fieldAddr t x f => exact rel_v (rel_fieldAt t (hev x (all_get hops (by simp))) f)
  case indexAddr t x i => exact rel_v (rel_indexAt t (hev x (all_get hops (by simp))) (hev i (all_get hops (by simp))))
  case extract x i => exact rel_v (rel_extract (hev x (all_get hops (by simp))) i)
  case call c => exact rel_call hB hfb hfa hfm hev hfun hfun' hops ho _
  case defer c =>
    have hlx : F.d := hlv (by simp only [Bool.and_eq_true] at ho; exact ho.1)
    replace ho := (Bool.and_eq_true_iff.1 (show (fb.d && _) = true from ho)).2
    cases hq : c.callee with
    | value f =>
      by_cases hst : ∃ g, f = .func g
      · obtain ⟨g, rfl⟩ := hst
        rw [hq] at ho
        simp only [Bool.and_eq_true] at ho
        exact (rel_resolveF hev hfun hfun' hq (hfb _ ho.1) (hfa _ _ ho.2) hops _).bind fun _ _ _ _ h => fun _ => .defer hlx h
      · rw [callOpds_of fun g e => hst ⟨g, by rw [hq] at e; cases e; rfl⟩] at hops
        rw [hq] at ho
        have ho : fewOk fb.m f c.args.size = true := by
          cases f with
          | func g => exact absurd ⟨g, rfl⟩ hst
          | _ => exact ho
        exact (rel_defer hfm hB.va hev hfun hops hq ho _).bind fun _ _ _ _ h => fun _ => .defer hlx h
    | builtin b => rw [hq] at ho; exact absurd (show false = true from ho) (by simp)
    | invoke r n => rw [hq] at ho; exact absurd (show false = true from ho) (by simp)
  case panic x => exact rel_v (rel_panic (hev x (all_get hops (by simp))))
end

end Go.Proofs.Ytcdhmnefmbcmaaa
