/-
  The operations, side by side (sixth part: guards, conversions, calls, ranges over functions); no condition but what each law names.
  The operations, side by side (seventh part: methods, calls, ranges over functions; the operation as a whole); no condition but what each law names.
  The operations, side by side (eighth part: calls, and the operation as a whole); no condition but what each law names.
-/
import Derived.Test.YtcdhmnefmbcmaaaJae
namespace Go.Proofs.Ytcdhmnefmbcmaaa
open Go Go.Conc

section
variable {T : Twin} {F : Fs} {N : Nat} {ρ : Rn} {α β γ : Type}

theorem rel_agg_iff {x x' : Value} (h : RelV F ρ x x') : (∃ p, x = .agg p) ↔ ∃ p, x' = .agg p := by
  cases h with
  | tok _ ht =>
    constructor
    · rintro ⟨p, e⟩; cases e
    · rintro ⟨p, e⟩; subst e; cases ht
  | agg _ _ => exact ⟨fun _ => ⟨_, rfl⟩, fun _ => ⟨_, rfl⟩⟩
  | flat _ => exact Iff.rfl
  | mf _ _ hm =>
    constructor
    · rintro ⟨p, e⟩; cases e
    · rintro ⟨p, e⟩; subst e; cases hm
  | _ =>
    constructor
    · rintro ⟨p, e⟩; cases e
    · rintro ⟨p, e⟩; cases e
theorem rel_nil_iff {x x' : Value} (h : RelV F ρ x x') : x = .nilIface ↔ x' = .nilIface := by
  cases h with
  | tok _ ht =>
    constructor
    · intro e; cases e
    · intro e; subst e; cases ht
  | flat _ => exact Iff.rfl
  | mf _ _ hm =>
    constructor
    · intro e; cases e
    · intro e; subst e; cases hm
  | _ =>
    constructor
    · intro e; cases e
    · intro e; cases e
theorem rel_flat_eq' {x x' : Value} (h : RelV F ρ x x') (hf : flat x' = true) : x = x' := by
  cases h with
  | tok hc ht => cases x' <;> first | exact absurd (show false = true from ht) (by simp) | exact absurd (show false = true from hf) (by simp) | (rename_i a _ _; cases a <;> first | exact absurd (show false = true from ht) (by simp) | exact absurd (show false = true from hf) (by simp)) | (rename_i a; cases a <;> first | exact absurd (show false = true from ht) (by simp) | exact absurd (show false = true from hf) (by simp))
  | flat _ => rfl
  | mf _ _ hm => cases x' <;> first | exact absurd (show false = true from hm) (by simp) | exact absurd (show false = true from hf) (by simp)
  | _ => exact absurd (show false = true from hf) (by simp)
theorem eqGuardType_plain {P : Program} {t : TypeId} (hp : plainEq P t = true) : P.eqGuardType P.depth t = false := by
  have e : P.depth = (2 * (P.types.size + Made.depth) + 1) + 1 := rfl
  rw [e]
  unfold Program.eqGuardType
  unfold plainEq at hp
  cases hd : P.underlying t with
  | none => rfl
  | some d => rw [hd] at hp; cases d <;> first | rfl | exact absurd (show false = true from hp) (by simp)
theorem rel_eqGuard (op : BinOp) {t : TypeId} (o₁ o₂ : Operand) {x y x' y' : Value} (hp : (op = .eql ∨ op = .neq) → plainEq T.P t = true ∨ nilEq T.P t y = true ∨ nilEq T.P t x = true) (h : RelV F ρ x x') (k : RelV F ρ y y') :
    SemRel T F N QEq (eqGuard op t o₁ o₂ x y) ρ (eqGuard op t o₁ o₂ x' y') := by
  by_cases hq : ¬ (op = .eql ∨ op = .neq)
  · have : ∀ a b, eqGuard op t o₁ o₂ a b = pure () := fun a b => by cases op <;> first | rfl | exact absurd (.inl rfl) hq | exact absurd (.inr rfl) hq
    rw [this, this]; exact fun _ => rfl
  have hq := Classical.not_not.1 hq
  have hp := hp hq
  have e0 : eqGuard op t o₁ o₂ = eqGuard .eql t o₁ o₂ := by rcases hq with rfl | rfl <;> rfl
  rw [e0]
  by_cases h1 : x = .nilIface ∧ y = .nilIface
  · obtain ⟨rfl, rfl⟩ := h1
    rw [rel_flat_eq h rfl, rel_flat_eq k rfl]
    simp only [eqGuard, Bool.not_true, Bool.false_eq_true, if_false]
    have g : SemRel T F N QEq (Op.eqGuardIn Op.maxDepth t .nilIface .nilIface) ρ (Op.eqGuardIn Op.maxDepth t .nilIface .nilIface) := by
      have e0 : Op.maxDepth = 9999 + 1 := rfl
      rw [e0]
      unfold Op.eqGuardIn
      refine (rel_underlying t).bind fun ρ₁ d d' l1 e => ?_
      obtain ⟨rfl, _⟩ := e
      cases d <;> exact fun _ => rfl
    cases o₁ <;> cases o₂ <;> first
      | exact fun _ => rfl
      | (refine g.bind fun ρ₁ a b _ e => ?_
         obtain rfl : a = b := e
         cases a
         · exact fun _ => rfl
         · exact fun _ => trivial)
  by_cases h2 : (∃ p, x = .agg p) ∧ ∃ p, y = .agg p
  · obtain ⟨⟨p, rfl⟩, ⟨q, rfl⟩⟩ := h2
    obtain ⟨p', rfl⟩ := (rel_agg_iff h).1 ⟨_, rfl⟩
    obtain ⟨q', rfl⟩ := (rel_agg_iff k).1 ⟨_, rfl⟩
    have hp : plainEq T.P t = true := by
      rcases hp with hp | hp | hp
      · exact hp
      · exact absurd (show false = true from nilEq_flat hp) (by simp)
      · exact absurd (show false = true from nilEq_flat hp) (by simp)
    simp only [eqGuard, Bool.not_true, Bool.false_eq_true, if_false]
    refine rel_program.bind fun ρ₁ p p' l1 e => ?_
    obtain ⟨rfl, rfl⟩ := e
    refine rel_program.bind fun ρ₂ p p' l1 e => ?_
    obtain ⟨rfl, rfl⟩ := e
    have h1 : T.v.eqGuardType T.v.depth t = false := eqGuardType_plain (P := T.v) hp
    have h2 : T.P.eqGuardType T.P.depth t = false := eqGuardType_plain hp
    simp only [h1, h2, Bool.not_false, if_true]
    exact fun _ => rfl
  · have h1' : ¬ (x' = .nilIface ∧ y' = .nilIface) := fun e => h1 ⟨(rel_nil_iff h).2 e.1, (rel_nil_iff k).2 e.2⟩
    have h2' : ¬ ((∃ p, x' = .agg p) ∧ ∃ p, y' = .agg p) := fun e => h2 ⟨(rel_agg_iff h).2 e.1, (rel_agg_iff k).2 e.2⟩
    have key : ∀ a b : Value, ¬ (a = .nilIface ∧ b = .nilIface) → ¬ ((∃ p, a = .agg p) ∧ ∃ p, b = .agg p) → eqGuard .eql t o₁ o₂ a b = pure () := by
      intro a b g1 g2
      simp only [eqGuard, Bool.not_true, Bool.false_eq_true, if_false]
      split
      · exact absurd ⟨rfl, rfl⟩ g1
      · exact absurd ⟨⟨_, rfl⟩, ⟨_, rfl⟩⟩ g2
      · rfl
    rw [key _ _ h1 h2, key _ _ h1' h2']
    exact fun _ => rfl

theorem eq_dead {t : TypeId} {b : Nat} {y : Value} (hp : plainEq T.P t = true ∨ nilEq T.P t y = true ∨ nilEq T.P t (.chan (some b)) = true) : SemDead T (Op.equal t (.chan (some b)) y) := by
  have e0 : Op.maxDepth = 9999 + 1 := rfl
  unfold Op.equal
  rw [e0]
  unfold Op.equalIn
  show SemDead T ((match T.P.underlying t with | some d => pure d | none => stuck "no such type" : Sem TypeDesc).bind _)
  cases hd : T.P.underlying t with
  | none => exact trivial
  | some d =>
    rcases hp with hp | hp | hp
    · unfold plainEq at hp
      rw [hd] at hp
      cases d <;> first | exact absurd (show false = true from hp) (by simp) | exact trivial | (cases y <;> first | exact trivial | (rename_i a; cases a <;> exact trivial))
    · unfold nilEq at hp
      rw [hd] at hp
      split at hp
      all_goals try (cases hp; done)
      all_goals
        rename_i heq
        cases heq
        exact trivial
    · unfold nilEq at hp
      rw [hd] at hp
      cases d <;> exact absurd (show false = true from hp) (by simp)
theorem rel_binOpEq (hN : T.P.globals.size ≤ N) {op : BinOp} {t : TypeId} (hq : op = .eql ∨ op = .neq) {x y x' y' : Value} (hp : plainEq T.P t = true ∨ nilEq T.P t y = true ∨ nilEq T.P t x = true) (h : RelV F ρ x x') (k : RelV F ρ y y') :
    SemRel T F N (QV F) (binOp op t x y) ρ (binOp op t x' y') := by
  have heq := rel_equal hN hp h k
  have nof : ∀ {a a' : Value}, (∀ b, a ≠ .chan (some b)) → RelV F ρ a a' → (∀ k n, a' ≠ .float k n) ∧ (∀ k n m, a' ≠ .complex k n m) := by
    intro a a' hna ha
    constructor
    · rintro k n rfl
      cases ha with
      | flat hf => exact absurd (show false = true from hf) (by simp)
      | tok _ ht => exact hna _ rfl
      | mf _ _ hm => cases hm
    · rintro k n m rfl
      cases ha with
      | flat hf => exact absurd (show false = true from hf) (by simp)
      | tok _ ht => exact hna _ rfl
      | mf _ _ hm => cases hm
  have key : ∀ a b : Value, (∀ k₁ n k₂ m, ¬ (a = .int k₁ n ∧ b = .int k₂ m)) → (∀ n m, ¬ (a = .string n ∧ b = .string m)) → (∀ k n, a ≠ .float k n) → (∀ k n m, a ≠ .complex k n m) →
      binOp .eql t a b = (do pure (.bool (← Op.equal t a b))) ∧ binOp .neq t a b = (do pure (.bool (!(← Op.equal t a b)))) := by
    intro a b g1 g2 g3 g4
    constructor
    · unfold binOp
      split <;> first
        | rfl
        | (rename_i e; cases e; done)
        | exact absurd ⟨rfl, rfl⟩ (g1 _ _ _ _)
        | exact absurd rfl (g3 _ _)
        | exact absurd rfl (g4 _ _ _)
        | exact absurd ⟨rfl, rfl⟩ (g2 _ _)
        | contradiction
        | simp_all
    · unfold binOp
      split <;> first
        | rfl
        | exact absurd ⟨rfl, rfl⟩ (g1 _ _ _ _)
        | exact absurd rfl (g3 _ _)
        | exact absurd rfl (g4 _ _ _)
        | exact absurd ⟨rfl, rfl⟩ (g2 _ _)
        | contradiction
        | simp_all
  by_cases h1 : ∃ k₁ n k₂ m, x = .int k₁ n ∧ y = .int k₂ m
  · obtain ⟨k₁, a, k₂, b, rfl, rfl⟩ := h1
    rw [rel_flat_eq h rfl, rel_flat_eq k rfl]
    rcases hq with rfl | rfl
    · simp only [binOp]
      split
      · exact fun _ => trivial
      · exact fun _ => .flat rfl
    · simp only [binOp]
      split
      · exact fun _ => trivial
      · exact fun _ => .flat rfl
  by_cases h2 : ∃ n m, x = .string n ∧ y = .string m
  · obtain ⟨a, b, rfl, rfl⟩ := h2
    rw [rel_flat_eq h rfl, rel_flat_eq k rfl]
    rcases hq with rfl | rfl
    · exact fun _ => .flat rfl
    · exact fun _ => .flat rfl
  by_cases hch : ∃ b, x = .chan (some b)
  · obtain ⟨b, rfl⟩ := hch
    have e1 := key (.chan (some b)) y (fun _ _ _ _ e => by cases e.1) (fun _ _ e => by cases e.1) (fun _ _ e => by cases e) (fun _ _ _ e => by cases e)
    rcases hq with rfl | rfl
    · rw [e1.1]; exact rel_dead (eq_dead hp).bind _
    · rw [e1.2]; exact rel_dead (eq_dead hp).bind _
  have nx : (∀ k n, x ≠ .float k n) ∧ (∀ k n m, x ≠ .complex k n m) := by
    constructor
    · rintro k n rfl
      cases h with | flat hf => exact absurd (show false = true from hf) (by simp)
    · rintro k n m rfl
      cases h with | flat hf => exact absurd (show false = true from hf) (by simp)
  have e1 := key x y (fun a b c d e => h1 ⟨a, b, c, d, e⟩) (fun a b e => h2 ⟨a, b, e⟩) nx.1 nx.2
  have e2 := key x' y' (fun a b c d e => h1 ⟨a, b, c, d, by obtain ⟨rfl, rfl⟩ := e; exact ⟨rel_flat_eq' h rfl, rel_flat_eq' k rfl⟩⟩)
    (fun a b e => h2 ⟨a, b, by obtain ⟨rfl, rfl⟩ := e; exact ⟨rel_flat_eq' h rfl, rel_flat_eq' k rfl⟩⟩) (nof (fun b e => hch ⟨b, e⟩) h).1 (nof (fun b e => hch ⟨b, e⟩) h).2
  rcases hq with rfl | rfl
  · rw [e1.1, e2.1]
    exact heq.bind fun ρ₁ a b _ e => by obtain rfl : a = b := e; exact fun _ => .flat rfl
  · rw [e1.2, e2.2]
    exact heq.bind fun ρ₁ a b _ e => by obtain rfl : a = b := e; exact fun _ => .flat rfl
end

end Go.Proofs.Ytcdhmnefmbcmaaa

namespace Go.Proofs.Ytcdhmnefmbcmaaa
open Go Go.Conc

/-! ### types that are made on the way have no methods -/
theorem reckonStruct_methods {info : TypeId → Option TypeInfo} {fs : Array Field} {i : TypeInfo} (h : Made.reckonStruct info fs = some i) : i.methods = #[] := by
  unfold Made.reckonStruct at h
  simp only [Option.bind_eq_bind, Option.bind_eq_some_iff, Option.pure_def] at h
  obtain ⟨q, _, h⟩ := h
  split at h
  all_goals
    simp only [Option.some.injEq] at h
    rw [← h]
theorem reckon_methods {info : TypeId → Option TypeInfo} {d : TypeDesc} {i : TypeInfo} (h : Made.reckon info d = some i) : i.methods = #[] := by
  unfold Made.reckon at h
  cases d
  case struct fs => exact reckonStruct_methods h
  case pointer el =>
    simp only [Option.bind_eq_bind, Option.bind_eq_some_iff, Option.pure_def] at h
    obtain ⟨a, _, h⟩ := h
    split at h
    · cases h
    · split at h
      · cases h
      · simp only [Option.bind_eq_some_iff, Option.some.injEq] at h
        obtain ⟨_, _, h⟩ := h
        rw [← h]; rfl
    · simp only [Option.bind_eq_some_iff, Option.some.injEq] at h
      obtain ⟨_, _, h⟩ := h
      rw [← h]; rfl
  case slice => simp only [Option.bind_eq_bind, Option.bind_eq_some_iff, Option.pure_def, Option.some.injEq] at h; obtain ⟨_, _, _, _, h⟩ := h; rw [← h]; rfl
  case array => simp only [Option.bind_eq_bind, Option.bind_eq_some_iff, Option.pure_def, Option.some.injEq] at h; obtain ⟨_, _, _, _, h⟩ := h; rw [← h]
  case map => simp only [Option.bind_eq_bind, Option.bind_eq_some_iff, Option.pure_def, Option.some.injEq] at h; obtain ⟨_, _, _, _, _, _, _, _, h⟩ := h; rw [← h]; rfl
  case chan => simp only [Option.bind_eq_bind, Option.bind_eq_some_iff, Option.pure_def, Option.some.injEq] at h; obtain ⟨_, _, _, _, h⟩ := h; rw [← h]; rfl
  case func => simp only [Option.bind_eq_bind, Option.bind_eq_some_iff, Option.pure_def, Option.some.injEq] at h; obtain ⟨_, _, h⟩ := h; rw [← h]; rfl
  all_goals cases h
theorem made_methods {T : Tables} : ∀ {n : Nat} {t : TypeId} {i : TypeInfo}, ¬ t < T.types.size → Made.infoAt T n t = some i → i.methods = #[]
  | 0, _, _, _, h => by cases h
  | n + 1, t, i, ht, h => by
    unfold Made.infoAt at h
    rw [if_neg ht] at h
    obtain ⟨d, _, h⟩ := Option.bind_eq_some_iff.1 h
    exact reckon_methods h
theorem info_methods {T : Tables} {t : TypeId} {i : TypeInfo} (ht : ¬ t < T.types.size) (h : T.info? t = some i) : i.methods = #[] := by
  unfold Tables.info? at h
  rw [if_neg ht] at h
  exact made_methods ht h

/-- a method of that name: our own, of the type itself; a value's receiver is no pointer -/
def methOk (P : Program) (fb : Fb) (name : String) : Bool :=
  (List.range P.types.size).all fun t =>
    match P.types[t]? with
    | some i => match i.methods.find? (·.name == name) with
      | some m => m.path.isEmpty && (match m.func with | some (f, ptr) => (fb f && (fb.a f).isNone) && (ptr || !(match P.underlying t with | some (.pointer _) => true | _ => false)) | none => false)
      | none => true
    | none => true

section
variable {T : Twin} {F : Fs} {N : Nat} {ρ : Rn} {α β γ : Type}

theorem methOk_get {fb : Fb} {name : String} (h : methOk T.P fb name = true) {t : TypeId} {i : TypeInfo} {m : Method} (hi : T.P.info? t = some i) (hm : i.methods.find? (·.name == name) = some m) :
    m.path = #[] ∧ ∃ f ptr, m.func = some (f, ptr) ∧ (fb f = true ∧ fb.a f = none) ∧ (ptr = false → ∀ e, T.P.underlying t ≠ some (.pointer e)) := by
  by_cases ht : t < T.P.types.size
  · have h1 : T.P.types[t]? = some i := by
      have : T.P.info? t = T.P.types[t]? := by unfold Tables.info?; rw [if_pos ht]
      rw [← this]; exact hi
    have h2 := List.all_eq_true.1 h t (List.mem_range.2 ht)
    rw [h1] at h2
    simp only [hm, Bool.and_eq_true] at h2
    obtain ⟨hp, h3⟩ := h2
    refine ⟨by simpa [Array.isEmpty_iff] using hp, ?_⟩
    cases hf : m.func with
    | none => rw [hf] at h3; cases h3
    | some q =>
      obtain ⟨f, ptr⟩ := q
      rw [hf] at h3
      simp only [Bool.and_eq_true, Bool.or_eq_true] at h3
      refine ⟨f, ptr, rfl, ⟨h3.1.1, by simpa using h3.1.2⟩, fun e el hel => ?_⟩
      rcases h3.2 with h4 | h4
      · rw [e] at h4; cases h4
      · rw [hel] at h4; cases h4
  · have := info_methods ht hi
    rw [this] at hm
    simp at hm

theorem rel_method {fb : Fb} {name : String} (hm : methOk T.P fb name = true) : ∀ (n : Nat) (t : TypeId) {x x' : Value} {ρ : Rn}, RelV F ρ x x' →
    SemRel T F N (fun ρ a b => a.1 = b.1 ∧ (fb a.1 = true ∧ fb.a a.1 = none) ∧ RelV F ρ a.2 b.2) (method n t x name) ρ (method n t x' name)
  | 0, t, x, x', ρ, h => fun _ => trivial
  | n + 1, t, x, x', ρ, h => by
    unfold method
    refine (rel_typeInfo t).bind fun ρ₁ i i' l1 e => ?_
    obtain ⟨rfl, hi⟩ := e
    cases hf : i.methods.find? (·.name == name) with
    | none => exact fun _ => trivial
    | some m =>
      obtain ⟨hp, f, ptr, hfn, hfb, hpt⟩ := methOk_get hm hi hf
      simp only [hp]
      show SemRel T F N _ (_ : Sem (FuncId × Value)) ρ₁ (_ : Sem (FuncId × Value))
      simp only [follow, hfn, pure_bind]
      have hx := h.mono l1
      refine SemRel.bind (Q := QV F) ?_ fun ρ₂ a b l2 hab => fun _ => ⟨rfl, hfb, hab⟩
      unfold receiverAt
      refine (rel_underlying t).bind fun ρ₂ d d' l2 e => ?_
      obtain ⟨rfl, hd⟩ := e
      cases ptr with
      | true =>
        cases d <;> first | exact fun _ => trivial | exact fun _ => hx.mono l2
      | false =>
        have := hpt rfl
        cases d <;> first | exact absurd hd (this _) | exact fun _ => hx.mono l2
end

end Go.Proofs.Ytcdhmnefmbcmaaa

namespace Go.Proofs.Ytcdhmnefmbcmaaa
open Go Go.Conc

/-- which operands may be met: fb: the functions, G: the first variables -/
def opdOk (fb : Fb) (G : Nat) : Operand → Bool
  | .tmp _ => true
  | .const v => closed v
  | .global g => decide (g < G)
  | .func f => fb f && fb.v f

/-- which constants are nil at that type -/
def nilOpd (P : Program) (t : TypeId) : Operand → Bool
  | .const v => nilEq P t v
  | _ => false

/-- a function that is held as a value is called with two arguments at most -/
def fewOk (m : Nat) : Operand → Nat → Bool
  | .func _, _ => true
  | _, n => decide (n ≤ m)

/-- a function that is called by name alone has so many arguments -/
def arOk (fb : Fb) (f : FuncId) (n : Nat) : Bool := match fb.a f with | none => true | some m => n == m
def calleeOk (P : Program) (fb : Fb) (G : Nat) : Callee → Array TypeId → Array Operand → Bool
  | .value (.func f), _, as => fb f && arOk fb f as.size
  | .value f, _, as => opdOk fb G f && fewOk fb.m f as.size
  | .invoke r name, _, _ => opdOk fb G r && methOk P fb name
  | .builtin .append, ts, as => (match ts.toList, as.toList with
    | [t, xt], [_, _] => (match P.underlying xt with | some (.int _) => false | _ => true) && (match P.underlying t with | some (.slice el) => zeroOk P el | _ => true)
    | _, _ => false)
  | .builtin .len, ts, as => (match ts.toList, as.toList with
    | [t], [_] => (match P.underlying t with | some (.chan _ _) => false | _ => true)
    | _, _ => false)
  | .builtin .max, _, _ => true
  | .builtin .min, _, _ => true
  | _, _, _ => false

/-- a function that is named and called is no value -/
def callOpds (c : Call) : Array Operand := match c.callee with | .value (.func _) => c.args | _ => c.operands
def opsOf : Op → Array Operand
  | .call c | .defer c => callOpds c
  | op => op.operands
def opOk (P : Program) (fb : Fb) (G : Nat) (op : Op) : Bool :=
  (opsOf op).all (opdOk fb G) && match op with
  | .move _ | .assign _ | .pick _ _ _ | .box _ _ | .load _ _ | .store _ _ _ | .nilCheck _ | .makeInterface _ _ | .slice _ _ _ _ _ | .fieldAddr _ _ _ | .indexAddr _ _ _ | .extract _ _ | .panic _ => true
  | .alloc t => zeroOk P t
  | .build t _ => zeroOk P t
  | .buildSlice t _ _ => (match P.underlying t with | some (.slice el) => zeroOk P el | _ => true)
  | .binOp op t x y _ => if op == .eql || op == .neq then plainEq P t || nilOpd P t y || nilOpd P t x else (match P.underlying t with | some .unsafePointer => false | _ => true)
  | .unOp .not _ _ => true
  | .convert s d _ => (match P.underlying s, P.underlying d with
    | some (.slice e), some .string => (match P.underlying e with | some (.int .u8) => true | _ => false)
    | some (.int _), some (.int _) => true
    | some .string, some .string => true
    | _, _ => false)
  | .makeFunc (.func f) _ _ => fb f && fb.v f
  | .call c => calleeOk P fb G c.callee c.argTypes c.args
  | .defer c => fb.l && (match c.callee with | .value (.func f) => fb f && arOk fb f c.args.size | .value f => fewOk fb.m f c.args.size | _ => false)
  | _ => false

/-- what an operation asks of the machine, side by side -/
inductive RelNext (F : Fs) (ρ : Rn) : Next → Next → Prop
  | value {v v' : Value} : RelV F ρ v v' → RelNext F ρ (.value v) (.value v')
  | skip : RelNext F ρ .skip .skip
  | enter {f : FuncId} {p p' : Array Value} : F f → F.a f p.size → RelVs F ρ p p' → RelNext F ρ (.enter f p) (.enter f p')
  | round {l l' : Nat} {f : FuncId} {p p' : Array Value} {a b : Code} : ρ.r l l' → RelVs F ρ p p' → F.r f → F.c a → F.c b → RelNext F ρ (.round l f p a b) (.round l' f p' a b)
  | defer {d d' : Deferred} : (∃ x, F.c x) → RelD F ρ d d' → RelNext F ρ (.defer d) (.defer d')
  | seq {p : Array Value} {n : Next} : p.size ≤ F.m + 2 → (∃ s k a b, ρ.q s k a b) → RelNext F ρ (.enter F.z p) n

abbrev QNx (F : Fs) : Rn → Next → Next → Prop := fun ρ => RelNext F ρ

section
variable {T : Twin} {F : Fs} {N : Nat} {ρ : Rn} {α β γ : Type}

theorem rel_v {s s' : Sem Value} (h : SemRel T F N (QV F) s ρ s') : SemRel T F N (QNx F) (do pure (.value (← s)) : Sem Next) ρ (do pure (.value (← s')) : Sem Next) :=
  h.bind fun _ _ _ _ hv => fun _ => .value hv
theorem rel_u {s s' : Sem Unit} (h : SemRel T F N QEq s ρ s') : SemRel T F N (QNx F) (do s; pure .skip : Sem Next) ρ (do s'; pure .skip : Sem Next) :=
  h.bind fun _ _ _ _ _ => fun _ => .skip

/-- the functions that may be met have bodies, on both sides -/
structure HasBodies (T : Twin) (F : Fs) : Prop where
  z : (∃ fn, T.v.funcs[F.z]? = some fn ∧ fn.body.isNone = false ∧ (fn.name == "runtime.NumGoroutine") = false) ∧ ∃ fn, T.P.funcs[F.z]? = some fn ∧ fn.body.isNone = false ∧ (fn.name == "runtime.NumGoroutine") = false
  v : ∀ f, F f → ∃ fn, T.v.funcs[f]? = some fn ∧ fn.body.isNone = false ∧ (fn.name == "runtime.NumGoroutine") = false
  a : ∀ f, F f → ∃ fn, T.P.funcs[f]? = some fn ∧ fn.body.isNone = false ∧ (fn.name == "runtime.NumGoroutine") = false
  va : ∀ f, F.v f → ∀ n, F.a f n
  /-- the first type has no method of no name -/
  m0 : ∀ i, T.P.info? 0 = some i → i.methods.find? (·.name == "") = none

theorem rel_callFunc (hB : HasBodies T F) {f : FuncId} (hf : F f) {p p' : Array Value} (ha : F.a f p.size) (hp : RelVs F ρ p p') : SemRel T F N (QNx F) (callFunc f p) ρ (callFunc f p') := by
  obtain ⟨fn, h1, h2, h3⟩ := hB.v f hf
  obtain ⟨fn', h1', h2', h3'⟩ := hB.a f hf
  unfold callFunc
  refine rel_program.bind fun ρ₁ a b l1 e => ?_
  obtain ⟨rfl, rfl⟩ := e
  simp only [h1, h1', h2, h2', h3, h3', Bool.false_eq_true, if_false]
  exact fun _ => .enter hf ha (hp.mono l1)

theorem rel_callMethod (hB : HasBodies T F) {fb : Fb} (hfb : ∀ f, fb f = true → F f) (hfa : ∀ f n, arOk fb f n = true → F.a f n) {name : String} (hm : methOk T.P fb name = true) {x x' : Value} (h : RelV F ρ x x') {p p' : Array Value} (hp : RelVs F ρ p p') :
    SemRel T F N (QNx F) (callMethod x name p) ρ (callMethod x' name p') := by
  unfold callMethod
  cases h with
  | flat hf => cases x <;> first | exact fun _ => trivial | exact rel_runtimePanic (e := .nilDeref) trivial | exact absurd (show false = true from hf) (by simp)
  | iface hv =>
    simp only
    refine rel_program.bind fun ρ₁ a b l1 e => ?_
    obtain ⟨rfl, rfl⟩ := e
    refine (rel_method hm _ _ (hv.mono l1)).bind fun ρ₂ q q' l2 hq => ?_
    obtain ⟨f, r⟩ := q
    obtain ⟨f', r'⟩ := q'
    obtain ⟨e1, h1, h2⟩ := hq
    simp only at e1 h1 h2
    subst e1
    exact rel_callFunc hB (hfb _ h1.1) (hfa _ _ (by unfold arOk; rw [h1.2])) ((RelVs.one h2).append ((hp.mono l1).mono l2))
  | _ => exact fun _ => trivial

theorem rel_callSeq (hB : HasBodies T F) {p p' : Array Value} (hp : p.size ≤ F.m + 2) (hq : ∃ s k a b, ρ.q s k a b) : SemRel T F N (QNx F) (callFunc F.z p) ρ (callFunc F.z p') := by
  obtain ⟨⟨fn, h1, h2, h3⟩, fn', h1', h2', h3'⟩ := hB.z
  unfold callFunc
  refine rel_program.bind fun ρ₁ a b l1 e => ?_
  obtain ⟨rfl, rfl⟩ := e
  simp only [h1, h1', h2, h2', h3, h3', Bool.false_eq_true, if_false]
  obtain ⟨s, k, x, y, hq⟩ := hq
  exact fun _ => .seq hp ⟨s, k, x, y, l1.q _ _ _ _ hq⟩

theorem rel_ofValue (hva : ∀ f, F.v f → ∀ n, F.a f n) {x x' : Value} (hmf : (∀ b, x ≠ mfV b) ∨ ∃ c, F.c c) (h : RelV F ρ x x') {p p' : Array Value} (hp : RelVs F ρ p p') (hs : (∃ s n, x = seqV F.z s n) → p.size ≤ F.m) : SemRel T F N (fun ρ => RelD F ρ) (Deferred.ofValue x p) ρ (Deferred.ofValue x' p') := by
  unfold Deferred.ofValue
  cases h with
  | flat hf => cases x <;> first | exact fun _ => trivial | exact fun _ => ⟨.nil, hp⟩ | exact absurd (show false = true from hf) (by simp)
  | func hf hv h1 h2 h3 h4 => exact fun _ => ⟨.fn hf (hva _ hv _) ⟨h3, h4⟩, RelVs.append ⟨h1, h2⟩ hp⟩
  | yield hl => exact fun _ => ⟨.yield hl, by simpa using hp⟩
  | mf hc hx hm => rcases hmf with hmf | ⟨c, hmf⟩
                   · exact absurd rfl (hmf _)
                   · exact absurd hmf (hc c)
  | seq hq => exact fun _ => ⟨.seq (by have := hs ⟨_, _, rfl⟩; simpa using this) hq, by simpa using hp⟩
  | tok hc ht =>
    cases x' <;> first | exact absurd (show false = true from ht) (by simp) | exact fun _ => trivial
  | _ => exact fun _ => trivial

theorem rel_setTmps {ps : List (Tmp × Value)} : ∀ {ps' : List (Tmp × Value)} {p p' : Array Value}, All2 (fun q q' => q.1 = q'.1 ∧ RelV F ρ q.2 q'.2) ps ps' → RelVs F ρ p p' →
    RelVs F ρ (ps.foldl (fun tmps (t, a) => tmps.setIfInBounds t a) p) (ps'.foldl (fun tmps (t, a) => tmps.setIfInBounds t a) p') := by
  induction ps with
  | nil => intro ps' p p' h hp; cases h; exact hp
  | cons q ps ih =>
    intro ps' p p' h hp
    cases h with
    | @cons _ q' _ ps' h1 h2 =>
      obtain ⟨t, a⟩ := q
      obtain ⟨t', a'⟩ := q'
      obtain ⟨e, hr⟩ := h1
      simp only at e hr
      subst e
      simp only [List.foldl_cons]
      exact ih h2 (hp.set hr _)
theorem all2_zip {l : List Tmp} : ∀ {p p' : List Value}, RelVs F ρ p.toArray p'.toArray → All2 (fun q q' : Tmp × Value => q.1 = q'.1 ∧ RelV F ρ q.2 q'.2) (l.zip p) (l.zip p') := by
  induction l with
  | nil => intro p p' _; simp only [List.zip_nil_left]; exact .nil
  | cons t l ih =>
    intro p p' h
    cases p with
    | nil =>
      have : p' = [] := by have := h.1; simp at this; exact List.length_eq_zero_iff.1 this.symm
      subst this; simp only [List.zip_nil_right]; exact .nil
    | cons v p =>
      cases p' with
      | nil => have := h.1; simp at this
      | cons v' p' =>
        simp only [List.zip_cons_cons]
        exact .cons ⟨rfl, h.2 0 v v' (by simp) (by simp)⟩ (ih ⟨by have := h.1; simpa using this, fun j x x' hx hx' => h.2 (j + 1) x x' (by simpa using hx) (by simpa using hx')⟩)

theorem rel_getLoop {l l' : Nat} (h : ρ.r l l') : SemRel T F N (fun ρ => RelL F ρ) (Instr.getLoop l) ρ (Instr.getLoop l') := by
  unfold Instr.getLoop
  refine SemRel.bind (Q := fun ρ => RelO F ρ) (fun _ => ⟨h, fun o o' ho => ho⟩) fun ρ₁ o o' l1 ho => ?_
  cases ho with
  | loop hl => exact fun _ => hl
  | _ => exact fun _ => trivial
theorem rel_yield {l l' : Nat} (h : ρ.r l l') {p p' : Array Value} (hp : RelVs F ρ p p') : SemRel T F N (QNx F) (Instr.yield l p) ρ (Instr.yield l' p') := by
  unfold Instr.yield
  refine (rel_getLoop h).bind fun ρ₁ r r' l1 hr => ?_
  rw [hr.params, ← hp.1]
  by_cases hs : p.size ≠ r.params.size
  · simp only [hs, if_true, ne_eq, not_false_eq_true]
    exact SemRel.bind (Q := fun _ _ _ => False) (fun _ => trivial) fun _ _ _ _ e => e.elim
  · simp only [hs, if_false]
    rw [hr.fn, hr.assign, hr.body]
    refine fun _ => .round (l1.r _ _ h) ?_ hr.okF hr.okA hr.okB
    have := rel_setTmps (F := F) (ρ := ρ₁) (all2_zip (F := F) (l := r.params.toList) (p := p.toList) (p' := p'.toList) (by simpa using hp.mono l1)) hr.tmps
    rw [← Array.foldl_toList, ← Array.foldl_toList, Array.toList_zip, Array.toList_zip]
    exact this

theorem rel_invokeFn (hB : HasBodies T F) {d d' : Deferred} (h : RelD F ρ d d') : SemRel T F N (QNx F) (invoke d.target d.args) ρ (invoke d'.target d'.args) := by
  obtain ⟨t, p⟩ := d
  obtain ⟨t', p'⟩ := d'
  obtain ⟨h, hp⟩ := h
  simp only at h hp
  cases h with
  | nil => exact rel_runtimePanic (e := .nilDeref) trivial
  | fn hf ha hq => exact rel_callFunc hB hf (by rw [Array.size_append]; exact ha) (hp.append hq)
  | yield hl => exact rel_yield hl hp
  | seq hm hq => exact rel_callSeq hB (by simp only [Array.size_append, List.size_toArray, List.length_cons, List.length_nil]; omega) ⟨_, _, _, _, hq⟩
  | collected hb => exact fun _ => trivial

/-- a method that is held, and stands for another one, is not called -/
theorem call_dead (h0 : ∀ i, T.P.info? 0 = some i → i.methods.find? (·.name == "") = none) {b : Nat} {p : Array Value} : SemDead T (do let d ← Deferred.ofValue (mfV b) p; invoke d.target d.args : Sem Next) := by
  show SemDead T (invoke (.fn (.method "") #[]) (#[.iface 0 (.chan (some b))] ++ p))
  have e : (#[Value.iface 0 (.chan (some b))] ++ p)[0]? = some (.iface 0 (.chan (some b))) := by rw [Array.getElem?_append_left (by simp)]; rfl
  unfold invoke
  simp only [e]
  unfold callMethod
  simp only
  have e2 : ∀ n, SemDead T (method n 0 (.chan (some b)) "") := by
    intro n
    cases n with
    | zero => exact trivial
    | succ n =>
      rw [method]
      show SemDead T ((match T.P.info? 0 with | some d => pure d | none => stuck "no such type" : Sem TypeInfo).bind _)
      cases h : T.P.info? 0 with
      | none => exact trivial
      | some i =>
        simp only [pure, Sem.bind, h0 i h]
        exact trivial
  exact (e2 _).bind
theorem rel_invokeValue (hB : HasBodies T F) {x x' : Value} (h : RelV F ρ x x') {p p' : Array Value} (hp : RelVs F ρ p p') (hs : (∃ s n, x = seqV F.z s n) → p.size ≤ F.m) :
    SemRel T F N (QNx F) (do let d ← Deferred.ofValue x p; invoke d.target d.args : Sem Next) ρ (do let d ← Deferred.ofValue x' p'; invoke d.target d.args) := by
  by_cases hm : ∃ b, x = mfV b
  · obtain ⟨b, rfl⟩ := hm
    exact rel_dead (call_dead hB.m0) _
  · exact (rel_ofValue hB.va (.inl fun b e => hm ⟨b, e⟩) h hp hs).bind fun _ _ _ _ hd => rel_invokeFn hB hd

/-- the operands, side by side -/
def RelEv (F : Fs) (ρ : Rn) (fb : Fb) (G : Nat) (ev ev' : Operand → Value) : Prop := ∀ x, opdOk fb G x = true → RelV F ρ (ev x) (ev' x)
theorem RelEv.mono {ρ' : Rn} {fb : Fb} {G : Nat} {ev ev' : Operand → Value} (h : RelEv F ρ fb G ev ev') (k : ρ.le ρ') : RelEv F ρ' fb G ev ev' := fun x hx => (h x hx).mono k
theorem RelEv.map {fb : Fb} {G : Nat} {ev ev' : Operand → Value} (h : RelEv F ρ fb G ev ev') {l : Array Operand} (hl : l.all (opdOk fb G) = true) : RelVs F ρ (l.map ev) (l.map ev') :=
  RelVs.map fun x hx => h x (Array.all_eq_true'.1 hl x hx)
theorem RelEv.opt {fb : Fb} {G : Nat} {ev ev' : Operand → Value} (h : RelEv F ρ fb G ev ev') {o : Option Operand} (hl : o.toArray.all (opdOk fb G) = true) : QO F ρ (o.map ev) (o.map ev') := by
  cases o with
  | none => trivial
  | some x => exact h x (by simpa using hl)
theorem RelEv.parts {fb : Fb} {G : Nat} {ev ev' : Operand → Value} (h : RelEv F ρ fb G ev ev') : ∀ {l : List (Nat × Operand)}, (∀ q ∈ l, opdOk fb G q.2 = true) →
    QP F ρ (l.map fun q => (q.1, ev q.2)) (l.map fun q => (q.1, ev' q.2)) := by
  intro l
  induction l with
  | nil => intro _; exact .nil
  | cons q l ih =>
    intro hl
    exact .cons ⟨rfl, h _ (hl q (by simp))⟩ (ih fun x hx => hl x (by simp [hx]))

theorem rel_bytesLoop (l : List Value) : ∀ {l' : List Value} {s : ByteArray}, RelVs F ρ l.toArray l'.toArray →
    SemRel T F N QEq (forIn l s (fun c s => match c with | .int .u8 n => pure (.yield (s.push (UInt8.ofNat n.toNat))) | _ => stuck "bytesToString: byte expected") : Sem ByteArray) ρ
      (forIn l' s (fun c s => match c with | .int .u8 n => pure (.yield (s.push (UInt8.ofNat n.toNat))) | _ => stuck "bytesToString: byte expected") : Sem ByteArray) := by
  induction l with
  | nil =>
    intro l' s h
    have : l' = [] := by have := h.1; simp at this; exact List.length_eq_zero_iff.1 this.symm
    subst this
    simp only [List.forIn_nil]; exact fun _ => rfl
  | cons v l ih =>
    intro l' s h
    cases l' with
    | nil => have := h.1; simp at this
    | cons v' l' =>
      simp only [List.forIn_cons]
      have hv : RelV F ρ v v' := h.2 0 v v' (by simp) (by simp)
      have ht : RelVs F ρ l.toArray l'.toArray := ⟨by have := h.1; simpa using this, fun j x x' hx hx' => h.2 (j + 1) x x' (by simpa using hx) (by simpa using hx')⟩
      cases hv with
      | flat hf =>
        cases v <;> first | exact fun _ => trivial | skip
        rename_i k n
        cases k <;> first | exact fun _ => trivial | skip
        simp only [pure_bind]
        exact ih ht
      | _ => exact fun _ => trivial
theorem rel_bytesToString {x x' : Value} (h : RelV F ρ x x') : SemRel T F N (QV F) (Conv.bytesToString x) ρ (Conv.bytesToString x') := by
  unfold Conv.bytesToString
  cases h with
  | flat hf =>
    cases x <;> first | exact fun _ => trivial | skip
    rename_i a n k
    cases a with
    | none => exact fun _ => .flat rfl
    | some _ => exact absurd (show false = true from hf) (by simp)
  | slice ha =>
    simp only
    refine (rel_loadCells ha _).bind fun ρ₁ p p' l1 hp => ?_
    simp only [← Array.forIn_toList]
    exact (rel_bytesLoop p.toList (l' := p'.toList) (by simpa using hp)).bind fun ρ₂ a b _ e => by obtain rfl : a = b := e; exact fun _ => .flat rfl
  | _ => exact fun _ => trivial

theorem rel_convert {t u : TypeId} (hc : (match T.P.underlying t, T.P.underlying u with
    | some (.slice e), some .string => (match T.P.underlying e with | some (.int .u8) => true | _ => false)
    | some (.int _), some (.int _) => true
    | some .string, some .string => true
    | _, _ => false) = true) {x x' : Value} (h : RelV F ρ x x') : SemRel T F N (QV F) (convert t u x) ρ (convert t u x') := by
  unfold convert
  refine (rel_underlying t).bind fun ρ₁ d d' l1 e => ?_
  obtain ⟨rfl, hd⟩ := e
  refine (rel_underlying u).bind fun ρ₂ f f' l2 e => ?_
  obtain ⟨rfl, hf⟩ := e
  rw [hd, hf] at hc
  have h := (h.mono l1).mono l2
  split at hc
  · rename_i e1 e2
    cases e1; cases e2
    rename_i e
    split at hc
    · rename_i he
      have key : SemRel T F N (QV F) (do match ← underlying e with
          | .int .u8 => Conv.bytesToString x
          | .int .i32 => Conv.runesToString x
          | _ => stuck "Convert: a slice of what to string?" : Sem Value) ρ₂ (do match ← underlying e with
          | .int .u8 => Conv.bytesToString x'
          | .int .i32 => Conv.runesToString x'
          | _ => stuck "Convert: a slice of what to string?") := by
        refine (rel_underlying e).bind fun ρ₃ g g' l3 q => ?_
        obtain ⟨rfl, hg⟩ := q
        rw [he] at hg
        cases hg
        exact rel_bytesToString (h.mono l3)
      cases h with
      | flat hfl => cases x <;> first | exact absurd (show false = true from hfl) (by simp) | exact key | exact fun _ => trivial | exact fun _ => .flat rfl
      | tok hk ht =>
        cases x' <;> first | exact absurd (show false = true from ht) (by simp) | exact key
      | mf hc hk hm => cases x' <;> first | exact absurd (show false = true from hm) (by simp) | exact key
      | _ => exact key
    · cases hc
  · rename_i e1 e2
    cases e1; cases e2
    cases h with
    | flat hfl => cases x <;> first | exact fun _ => .flat rfl | exact fun _ => trivial | exact absurd (show false = true from hfl) (by simp) | (rename_i a; cases a <;> first | exact fun _ => trivial | exact absurd (show false = true from hfl) (by simp))
    | _ => exact fun _ => trivial
  · rename_i e1 e2
    cases e1; cases e2
    cases h with
    | flat hfl => cases x <;> first | exact fun _ => .flat rfl | exact fun _ => trivial | exact absurd (show false = true from hfl) (by simp)
    | _ => exact fun _ => trivial
  · cases hc

end

end Go.Proofs.Ytcdhmnefmbcmaaa
