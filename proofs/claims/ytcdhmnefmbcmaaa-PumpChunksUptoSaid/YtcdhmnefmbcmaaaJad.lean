/-
  The operations, side by side (first part: the small words of the model's language); no condition but what each law names.
-/
import Derived.Test.YtcdhmnefmbcmaaaJac
namespace Go.Proofs.Ytcdhmnefmbcmaaa
open Go Go.Conc

section
variable {T : Twin} {F : Fs} {N : Nat} {ρ : Rn} {α β γ : Type}

abbrev QEq {α : Type} : Rn → α → α → Prop := fun _ a b => a = b
abbrev QV (F : Fs) : Rn → Value → Value → Prop := fun ρ => RelV F ρ
abbrev QVs (F : Fs) : Rn → Array Value → Array Value → Prop := fun ρ => RelVs F ρ
abbrev QA : Rn → Addr → Addr → Prop := fun ρ => RelA ρ

theorem rel_stuck {Q : Rn → α → β → Prop} {s : String} {s' : Sem β} : SemRel T F N Q (stuck s : Sem α) ρ s' := fun _ => trivial
theorem rel_unsup {Q : Rn → α → β → Prop} {u : Unsupported} {s' : Sem β} (h : Halt.still (.unsupported u)) : SemRel T F N Q (unsupported u : Sem α) ρ s' := by
  cases u <;> first | exact fun _ => trivial | exact h.elim
theorem rel_dead {Q : Rn → α → β → Prop} {s : Sem α} (h : SemDead T s) (s' : Sem β) : SemRel T F N Q s ρ s' := by
  intro _
  cases s <;> first | exact h.elim | skip
  all_goals first | exact semR0_shapeD h | exact semR0_frozenD h | exact .inl h | skip
  · rename_i x
    cases x <;> first | exact h | exact h.elim
theorem rel_pureEq {a : α} : SemRel T F N QEq (pure a : Sem α) ρ (pure a) := fun _ => rfl
theorem rel_program : SemRel T F N (fun _ a b => a = T.v ∧ b = T.P) program ρ program := fun _ => .inr ⟨rfl, rfl⟩
theorem rel_underlying (t : TypeId) : SemRel T F N (fun _ a b => a = b ∧ T.P.underlying t = some a) (underlying t) ρ (underlying t) := by
  have key : SemRel T F N (fun _ a b => a = b ∧ T.P.underlying t = some a) (match T.P.underlying t with | some d => pure d | none => stuck "no such type" : Sem TypeDesc) ρ (match T.P.underlying t with | some d => pure d | none => stuck "no such type" : Sem TypeDesc) := by
   cases h : T.P.underlying t with
   | none => exact fun _ => trivial
   | some d => exact fun _ => ⟨rfl, rfl⟩
  exact fun hok => .inr (key hok)
theorem rel_typeInfo (t : TypeId) : SemRel T F N (fun _ a b => a = b ∧ T.P.info? t = some a) (typeInfo t) ρ (typeInfo t) := by
  have key : SemRel T F N (fun _ a b => a = b ∧ T.P.info? t = some a) (match T.P.info? t with | some d => pure d | none => stuck "no such type" : Sem TypeInfo) ρ (match T.P.info? t with | some d => pure d | none => stuck "no such type" : Sem TypeInfo) := by
   cases h : T.P.info? t with
   | none => exact fun _ => trivial
   | some d => exact fun _ => ⟨rfl, rfl⟩
  exact fun hok => .inr (key hok)
theorem rel_sizeOf (t : TypeId) : SemRel T F N QEq (sizeOf t) ρ (sizeOf t) := (rel_typeInfo t).bind fun _ a b _ h => by rw [h.1]; exact fun _ => rfl
theorem rel_isAgg (t : TypeId) : SemRel T F N QEq (isAgg t) ρ (isAgg t) := (rel_underlying t).bind fun _ a b _ h => by obtain ⟨rfl, _⟩ := h; cases a <;> exact fun _ => rfl
theorem rel_elemOf (t : TypeId) : SemRel T F N QEq (elemOf t) ρ (elemOf t) := (rel_underlying t).bind fun _ a b _ h => by obtain ⟨rfl, _⟩ := h; cases a <;> first | exact fun _ => rfl | exact fun _ => trivial
theorem rel_askRoom (n : Nat) : SemRel T F N QEq (askRoom n) ρ (askRoom n) := by
  unfold askRoom
  split
  · exact fun _ => .inr ⟨rfl, trivial, rfl⟩
  · exact fun _ => rfl
theorem rel_choose (q : Question) : SemRel T F N QEq (choose q) ρ (choose q) := fun _ => ⟨rfl, fun _ => rfl⟩

/-- no block is named -/
def closed : Value → Bool
  | .agg cs => cs.all flat
  | v => flat v
theorem closed_rel {v : Value} (h : closed v = true) : RelV F ρ v v := by
  cases v <;> first
    | exact .flat h
    | skip
  rename_i cs
  have h' : ∀ x ∈ cs, flat x = true := by
    intro x hx
    have := Array.all_eq_true'.1 (show cs.all flat = true from h) x hx
    exact this
  exact .agg rfl (RelVs.flats h').2
def zeroOk (P : Program) (t : TypeId) : Bool :=
  match P.info? t with
  | some i => match i.zero with
    | some z => closed z
    | none => true
  | none => true
theorem rel_zeroValue (t : TypeId) (h : zeroOk T.P t = true) : SemRel T F N (fun ρ a b => a = b ∧ RelV F ρ a a) (zeroValue t) ρ (zeroValue t) := (rel_typeInfo t).bind fun _ a b _ hb => by
  obtain ⟨rfl, hi⟩ := hb
  unfold zeroOk at h
  rw [hi] at h
  simp only at h
  cases hz : a.zero with
  | none => exact fun _ => trivial
  | some z =>
    rw [hz] at h
    exact fun _ => ⟨rfl, closed_rel h⟩

theorem rel_load {a a' : Addr} (h : RelA ρ a a') (m : Mode) : SemRel T F N (QV F) (load a m) ρ (load a' m) := fun _ => ⟨rfl, h, fun _ _ hx => hx⟩
theorem rel_store {a a' : Addr} (h : RelA ρ a a') {x x' : Value} (hx : RelV F ρ x x') (m : Mode) : SemRel T F N QEq (store a x m) ρ (store a' x' m) := fun _ => ⟨rfl, h, hx, rfl⟩
theorem rel_loadCellsFrom {a a' : Addr} : ∀ (n i : Nat) {ρ : Rn}, RelA ρ a a' → ∀ {acc acc' : Array Value}, RelVs F ρ acc acc' → SemRel T F N (QVs F) (loadCellsFrom a i n acc) ρ (loadCellsFrom a' i n acc') := by
  intro n
  induction n with
  | zero => intro i ρ _ acc acc' h; exact fun _ => h
  | succ n ih =>
    intro i ρ h acc acc' hacc
    exact (rel_load (h.add i) .plain).bind fun ρ' x x' hl hx => ih (i + 1) (h.mono hl) ((hacc.mono hl).push hx)
theorem rel_loadCells {a a' : Addr} (h : RelA ρ a a') (n : Nat) : SemRel T F N (QVs F) (loadCells a n) ρ (loadCells a' n) := rel_loadCellsFrom n 0 h RelVs.nil
theorem rel_storeCells {a a' : Addr} : ∀ (l l' : List Value) (i : Nat) {ρ : Rn}, RelA ρ a a' → RelVs F ρ l.toArray l'.toArray → SemRel T F N QEq (storeCells a l i) ρ (storeCells a' l' i) := by
  intro l
  induction l with
  | nil =>
    intro l' i ρ h hl
    have : l' = [] := by have := hl.1; simp at this; exact List.length_eq_zero_iff.1 this.symm
    subst this; exact fun _ => rfl
  | cons v l ih =>
    intro l' i ρ h hl
    cases l' with
    | nil => have := hl.1; simp at this
    | cons v' l' =>
      have hv : RelV F ρ v v' := hl.2 0 v v' (by simp) (by simp)
      refine (rel_store (h.add i) hv .plain).bind fun ρ' _ _ hle _ => ih l' (i + 1) (h.mono hle) ⟨?_, fun j x x' hx hx' => ?_⟩
      · have := hl.1; simpa using this
      · exact (hl.2 (j + 1) x x' (by simpa using hx) (by simpa using hx')).mono hle
theorem rel_loadVar (t : TypeId) {a a' : Addr} (h : RelA ρ a a') : SemRel T F N (QV F) (loadVar t a) ρ (loadVar t a') := by
  refine (rel_isAgg t).bind fun ρ' b b' hl hb => ?_
  obtain rfl : b = b' := hb
  cases b with
  | true =>
    refine (rel_sizeOf t).bind fun ρ'' n n' hl' hn => ?_
    obtain rfl : n = n' := hn
    exact (rel_loadCells ((h.mono hl).mono hl') n).bind fun ρ₃ x x' _ hx _ => RelV.agg hx.1 hx.2
  | false => exact rel_load (h.mono hl) .plain
theorem rel_storeVar (t : TypeId) {a a' : Addr} (h : RelA ρ a a') {x x' : Value} (hx : RelV F ρ x x') : SemRel T F N QEq (storeVar t a x) ρ (storeVar t a' x') := by
  refine (rel_sizeOf t).bind fun ρ' n n' hl hn => ?_
  obtain rfl : n = n' := hn
  have hc := (hx.mono hl).cells
  by_cases hs : x.cells.size ≠ n
  · simp only [hs, if_true, ne_eq, not_false_eq_true]
    exact fun _ => trivial
  · have hs' : ¬ x'.cells.size ≠ n := by rw [← hc.1]; exact hs
    simp only [hs, hs', if_false]
    exact rel_storeCells _ _ 0 (h.mono hl) (by simpa using hc)
theorem rel_newRow (t : TypeId) {p p' : Array Value} (h : RelVs F ρ p p') : SemRel T F N QA (newRow t p) ρ (newRow t p') :=
  fun _ => ⟨.cells h, fun _ _ _ => ⟨.inr ⟨rfl, rfl⟩, rfl, rfl⟩⟩
theorem rel_newVar (t : TypeId) {x x' : Value} (h : RelV F ρ x x') : SemRel T F N QA (newVar t x) ρ (newVar t x') := rel_newRow t h.cells
theorem rel_part (t : TypeId) {p p' : Array Value} (h : RelVs F ρ p p') (o : Nat) : SemRel T F N (QV F) (part t p o) ρ (part t p' o) := by
  refine (rel_isAgg t).bind fun ρ' b b' hl hb => ?_
  obtain rfl : b = b' := hb
  cases b with
  | true =>
    refine (rel_sizeOf t).bind fun ρ'' n n' hl' hn => ?_
    obtain rfl : n = n' := hn
    have := ((h.mono hl).mono hl').extract o (o + n)
    exact fun _ => RelV.agg this.1 this.2
  | false =>
    show SemRel T F N (QV F) (match p[o]? with | some v => pure v | none => stuck "part: no such cell" : Sem Value) ρ' (match p'[o]? with | some v => pure v | none => stuck "part: no such cell" : Sem Value)
    cases hv : p[o]? with
    | none => exact fun _ => trivial
    | some v =>
      obtain ⟨v', hv', hr⟩ := h.get hv
      rw [hv']
      exact fun _ => hr.mono hl

theorem rel_asIntOf {x x' : Value} (h : RelV F ρ x x') : SemRel T F N QEq (asIntOf x) ρ (asIntOf x') := by
  cases h with
  | flat hf => cases x <;> first | exact fun _ => rfl | exact fun _ => trivial | (rename_i a; cases a <;> exact fun _ => trivial)
  | _ => exact fun _ => trivial
theorem rel_asInt {x x' : Value} (h : RelV F ρ x x') : SemRel T F N QEq (asInt x) ρ (asInt x') := (rel_asIntOf h).bind fun _ a b _ e => by obtain rfl : a = b := e; exact fun _ => rfl
theorem rel_asBool {x x' : Value} (h : RelV F ρ x x') : SemRel T F N QEq (asBool x) ρ (asBool x') := by
  cases h with
  | flat hf => cases x <;> first | exact fun _ => rfl | exact fun _ => trivial
  | _ => exact fun _ => trivial
theorem rel_asString {x x' : Value} (h : RelV F ρ x x') : SemRel T F N QEq (asString x) ρ (asString x') := by
  cases h with
  | flat hf => cases x <;> first | exact fun _ => rfl | exact fun _ => trivial
  | _ => exact fun _ => trivial
theorem rel_asAgg {x x' : Value} (h : RelV F ρ x x') : SemRel T F N (QVs F) (asAgg x) ρ (asAgg x') := by
  cases h with
  | flat hf => cases x <;> first | exact absurd (show false = true from hf) (by simp) | exact fun _ => trivial
  | agg h1 h2 => exact fun _ => ⟨h1, h2⟩
  | _ => exact fun _ => trivial
theorem rel_sureAddr {x x' : Value} (h : RelV F ρ x x') : SemRel T F N QA (Instr.sureAddr x) ρ (Instr.sureAddr x') := by
  cases h with
  | flat hf => cases x <;> first | exact fun _ => trivial | (rename_i a; cases a <;> first | exact fun _ => trivial | exact absurd (show false = true from hf) (by simp))
  | ptr h => exact fun _ => h
  | _ => exact fun _ => trivial
theorem rel_string (b : ByteArray) : RelV F ρ (.string b) (.string b) := .flat rfl

/-- what the run-time system panics with: no block is named, but by two kinds -/
theorem rel_runtimePanic {Q : Rn → α → β → Prop} {e : RuntimeError} (h : match e with | .typeAssertion .. | .unhashable _ => False | _ => True) :
    SemRel T F N Q (runtimePanic e : Sem α) ρ (runtimePanic e : Sem β) := by
  have agg4 : ∀ (x y : Int) (s : Bool) (c : Nat), RelV F ρ (.agg #[.int .i64 x, .int .i64 y, .bool s, .int .u8 c]) (.agg #[.int .i64 x, .int .i64 y, .bool s, .int .u8 c]) := fun x y s c => by
    have := RelVs.flats (F := F) (ρ := ρ) (p := #[.int .i64 x, .int .i64 y, .bool s, .int .u8 c]) (by intro z hz; simp at hz; rcases hz with rfl | rfl | rfl | rfl <;> rfl)
    exact RelV.agg this.1 this.2
  cases e with
  | bounds x y s c => exact fun _ => .inr ⟨_, rfl, .iface (agg4 _ _ _ _)⟩
  | error m => exact fun _ => .inr ⟨_, rfl, .iface (.flat rfl)⟩
  | plain m => exact fun _ => .inr ⟨_, rfl, .iface (.flat rfl)⟩
  | nilDeref => exact fun _ => .inr ⟨_, rfl, .iface (.flat rfl)⟩
  | typeAssertion _ _ _ _ => exact h.elim
  | panicNil =>
    refine rel_program.bind fun ρ₁ p p' l1 e => ?_
    obtain ⟨rfl, rfl⟩ := e
    refine (rel_elemOf _).bind fun ρ₂ t t' l2 e => ?_
    obtain rfl : t = t' := e
    refine (rel_newVar t (x := .agg #[]) (x' := .agg #[]) (.agg rfl fun i v v' h => by simp at h)).bind fun ρ₃ a a' l3 ha => ?_
    exact fun _ => ⟨_, rfl, .iface (.ptr ha)⟩
  | unhashable _ => exact h.elim
theorem rel_asAddr {x x' : Value} (h : RelV F ρ x x') : SemRel T F N QA (asAddr x) ρ (asAddr x') := by
  cases h with
  | flat hf => cases x <;> first | exact fun _ => trivial | (rename_i a; cases a <;> first | exact rel_runtimePanic (e := .nilDeref) trivial | exact absurd (show false = true from hf) (by simp))
  | ptr h => exact fun _ => h
  | _ => exact fun _ => trivial
theorem rel_boundsPanic {Q : Rn → α → β → Prop} (k : IntKind) (x y : Int) (c : BoundsCode) : SemRel T F N Q (boundsPanic k x y c : Sem α) ρ (boundsPanic k x y c : Sem β) := by
  unfold boundsPanic
  by_cases hc : (k != .u64 && decide (0 ≤ x) && decide (x ≤ 31)) = true
  · simp only [hc, if_true]
    exact fun hok => ⟨rfl, fun n => rel_runtimePanic (e := .bounds (IntKind.i64.wrap x) y (n == 1) c) trivial hok⟩
  · simp only [hc, if_false, Bool.false_eq_true]
    exact rel_runtimePanic (e := .bounds (IntKind.i64.wrap x) y (k != .u64) c) trivial
theorem rel_goPanic {Q : Rn → α → β → Prop} {x x' : Value} (h : RelV F ρ x x') : SemRel T F N Q (goPanic x : Sem α) ρ (goPanic x' : Sem β) := fun _ => ⟨x', rfl, h⟩

/-! ### looks at a block's shape -/
theorem rel_shape {b b' : Nat} (h : ρ.r b b') : SemRel T F N QEq (shape b) ρ (shape b') := fun _ => semR0_shape h fun _ => rfl
theorem rel_viewAt {b b' : Nat} (h : ρ.r b b') : SemRel T F N (fun _ a c => a = none ∧ c = none) (viewAt b) ρ (viewAt b') := by
  refine (rel_shape h).bind fun ρ' x x' hl e => ?_
  obtain rfl : x = x' := e
  by_cases hs : x.isSome = true
  · simp only [hs, if_true]; exact fun _ => ⟨rfl, rfl⟩
  · simp only [hs, if_false, Bool.false_eq_true]
    exact fun _ => ⟨hl.r _ _ h, fun o o' ho => by cases ho <;> exact ⟨rfl, rfl⟩⟩
/-- what stands behind a number's block -/
def QN : Rn → Option (Addr × Bool) → Option (Addr × Bool) → Prop := fun ρ x y => match x, y with
  | none, none => True
  | some p, some q => RelA ρ p.1 q.1 ∧ p.2 = q.2
  | _, _ => False
theorem rel_numberAt {b b' : Nat} (h : ρ.r b b') : SemRel T F N QN (numberAt b) ρ (numberAt b') := by
  refine (rel_shape h).bind fun ρ' x x' hl e => ?_
  obtain rfl : x = x' := e
  by_cases hs : x.isSome = true
  · simp only [hs, if_true]; exact fun _ => trivial
  · simp only [hs, if_false, Bool.false_eq_true]
    exact fun _ => ⟨hl.r _ _ h, fun o o' ho => by
      cases ho with
      | number ha => exact ⟨ha, rfl⟩
      | _ => exact trivial⟩
theorem rel_behindNumber {a a' : Addr} (h : RelA ρ a a') : SemRel T F N (fun ρ x y => RelA ρ x.1 y.1 ∧ x.2 = y.2) (behindNumber a) ρ (behindNumber a') :=
  (rel_numberAt h.1).bind fun ρ' x x' hl e => by
    cases x <;> cases x' <;> first | exact e.elim | skip
    · exact fun _ => ⟨h.mono hl, rfl⟩
    · exact fun _ => e
theorem rel_noView {a a' : Addr} (h : RelA ρ a a') : SemRel T F N QEq (noView a) ρ (noView a') := by
  refine (rel_viewAt h.1).bind fun ρ' x x' _ e => ?_
  obtain ⟨rfl, rfl⟩ := e
  exact fun _ => rfl
theorem byteOfCell_v (T : Twin) : ∀ (d : Nat) (t : TypeId) (off : Nat), byteOfCell T.v d t off = byteOfCell T.P d t off
  | 0, _, _ => rfl
  | d + 1, t, off => by
    have e1 : T.v.underlying t = T.P.underlying t := rfl
    have e2 : ∀ x, T.v.cellsOf x = T.P.cellsOf x := fun _ => rfl
    have e3 : ∀ x, T.v.bytesOf x = T.P.bytesOf x := fun _ => rfl
    unfold byteOfCell
    rw [e1]
    simp only [byteOfCell_v T d, e2, e3]
theorem rel_byteOf {a a' : Addr} (h : RelA ρ a a') : SemRel T F N QEq (byteOf a) ρ (byteOf a') := by
  obtain ⟨b, o, s⟩ := a
  obtain ⟨b', o', s'⟩ := a'
  obtain ⟨h1, h2, h3⟩ := h
  simp only at h1 h2 h3
  subst h2 h3
  unfold byteOf
  cases s' with
  | some s => exact fun _ => rfl
  | none =>
    refine rel_program.bind fun ρ₁ p p' l1 e => ?_
    obtain ⟨rfl, rfl⟩ := e
    refine (rel_noView (a := ⟨b, o', none⟩) (a' := ⟨b', o', none⟩) ⟨l1.r _ _ h1, rfl, rfl⟩).bind fun ρ₂ _ _ l2 _ => ?_
    refine (rel_shape (b := b) (b' := b') (l2.r _ _ (l1.r _ _ h1))).bind fun ρ₃ x x' _ e => ?_
    obtain rfl : x = x' := e
    cases x with
    | none => exact fun _ => trivial
    | some q =>
      obtain ⟨e, n⟩ := q
      show SemRel _ F N QEq (if T.P.cellsOf e = 0 then _ else _ : Sem Nat) _ (if T.P.cellsOf e = 0 then _ else _ : Sem Nat)
      have hb : byteOfCell T.v T.v.depth e (o' % T.v.cellsOf e) = byteOfCell T.P T.P.depth e (o' % T.P.cellsOf e) := byteOfCell_v T _ _ _
      by_cases h0 : T.P.cellsOf e = 0
      · simp only [h0, if_true]; exact fun _ => rfl
      · simp only [h0, if_false, hb]
        cases hc : byteOfCell T.P T.P.depth e (o' % T.P.cellsOf e) with
        | none => exact fun _ => trivial
        | some b => exact fun _ => rfl
theorem rel_partAt {a a' : Addr} (h : RelA ρ a a') (n m : Nat) : SemRel T F N QA (partAt a n m) ρ (partAt a' n m) := by
  refine (rel_byteOf h).bind fun ρ₁ x x' l1 e => ?_
  obtain rfl : x = x' := e
  have h1 := h.mono l1
  refine (rel_byteOf (a := { block := a.block, off := a.off + n }) (a' := { block := a'.block, off := a'.off + n }) ⟨h1.1, by simp [h.2.1], rfl⟩).bind fun ρ₂ y y' l2 e => ?_
  obtain rfl : y = y' := e
  have h2 := h1.mono l2
  show SemRel T F N QA (pure (if y = x + m then _ else _)) _ (pure (if y = x + m then _ else _))
  by_cases hy : y = x + m
  · simp only [hy, if_true]; exact fun _ => ⟨h2.1, by simp [h.2.1], rfl⟩
  · simp only [hy, if_false]; exact fun _ => ⟨h2.1, by simp [h.2.1], rfl⟩
theorem rel_fieldPlace {a a' : Addr} (h : RelA ρ a a') (f : Field) : SemRel T F N QA (fieldPlace a f) ρ (fieldPlace a' f) := by
  refine (rel_sizeOf f.type).bind fun ρ₁ n n' l1 e => ?_
  obtain rfl : n = n' := e
  by_cases hn : n = 0
  · simp only [hn, if_true]; exact rel_partAt (h.mono l1) _ _
  · simp only [hn, if_false]; exact fun _ => (h.mono l1).add _
end

end Go.Proofs.Ytcdhmnefmbcmaaa
