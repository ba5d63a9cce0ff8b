/-
  The operations, side by side (first part: the small words of the model's language); no condition but what each law names.
  The operations, side by side (second part: the instructions); no condition but what each law names.
-/
import Derived.Test.YtcdhmnefmbcmaaaJac
namespace Go.Proofs.Ytcdhmnefmbcmaaa
open Go Go.Conc

section
variable {T : Twin} {F : Fs} {N : Nat} {ρ : Rn} {α β γ : Type}

abbrev QEq {α : Type} : Rn → α → α → Prop := fun _ a b => a = b
abbrev QV (F : Fs) : Rn → Value → Value → Prop := fun ρ => RelV F ρ
abbrev QVs (F : Fs) : Rn → Array Value → Array Value → Prop := fun ρ => RelVs F ρ
abbrev QA : Rn → Addr → Addr → Prop := fun ρ => RelA ρ

theorem rel_stuck {Q : Rn → α → β → Prop} {s : String} {s' : Sem β} : SemRel T F N Q (stuck s : Sem α) ρ s' := fun _ => trivial
theorem rel_unsup {Q : Rn → α → β → Prop} {u : Unsupported} {s' : Sem β} (h : Halt.still (.unsupported u)) : SemRel T F N Q (unsupported u : Sem α) ρ s' := by
  cases u <;> first | exact fun _ => trivial | exact h.elim
theorem rel_dead {Q : Rn → α → β → Prop} {s : Sem α} (h : SemDead T s) (s' : Sem β) : SemRel T F N Q s ρ s' := by
  intro _
  cases s <;> first | exact h.elim | skip
  · exact .inl h
  · rename_i x
    cases x <;> first | exact h | exact h.elim
theorem rel_pureEq {a : α} : SemRel T F N QEq (pure a : Sem α) ρ (pure a) := fun _ => rfl
theorem rel_program : SemRel T F N (fun _ a b => a = T.v ∧ b = T.P) program ρ program := fun _ => .inr ⟨rfl, rfl⟩
theorem rel_underlying (t : TypeId) : SemRel T F N (fun _ a b => a = b ∧ T.P.underlying t = some a) (underlying t) ρ (underlying t) := by
  have key : SemRel T F N (fun _ a b => a = b ∧ T.P.underlying t = some a) (match T.P.underlying t with | some d => pure d | none => stuck "no such type" : Sem TypeDesc) ρ (match T.P.underlying t with | some d => pure d | none => stuck "no such type" : Sem TypeDesc) := by
   cases h : T.P.underlying t with
   | none => exact fun _ => trivial
   | some d => exact fun _ => ⟨rfl, rfl⟩
  exact fun hok => .inr (key hok)
theorem rel_typeInfo (t : TypeId) : SemRel T F N (fun _ a b => a = b ∧ T.P.info? t = some a) (typeInfo t) ρ (typeInfo t) := by
  have key : SemRel T F N (fun _ a b => a = b ∧ T.P.info? t = some a) (match T.P.info? t with | some d => pure d | none => stuck "no such type" : Sem TypeInfo) ρ (match T.P.info? t with | some d => pure d | none => stuck "no such type" : Sem TypeInfo) := by
   cases h : T.P.info? t with
   | none => exact fun _ => trivial
   | some d => exact fun _ => ⟨rfl, rfl⟩
  exact fun hok => .inr (key hok)
theorem rel_sizeOf (t : TypeId) : SemRel T F N QEq (sizeOf t) ρ (sizeOf t) := (rel_typeInfo t).bind fun _ a b _ h => by rw [h.1]; exact fun _ => rfl
theorem rel_isAgg (t : TypeId) : SemRel T F N QEq (isAgg t) ρ (isAgg t) := (rel_underlying t).bind fun _ a b _ h => by obtain ⟨rfl, _⟩ := h; cases a <;> exact fun _ => rfl
theorem rel_elemOf (t : TypeId) : SemRel T F N QEq (elemOf t) ρ (elemOf t) := (rel_underlying t).bind fun _ a b _ h => by obtain ⟨rfl, _⟩ := h; cases a <;> first | exact fun _ => rfl | exact fun _ => trivial
theorem rel_askRoom (n : Nat) : SemRel T F N QEq (askRoom n) ρ (askRoom n) := by
  unfold askRoom
  split
  · exact fun _ => ⟨rfl, trivial, rfl⟩
  · exact fun _ => rfl
theorem rel_choose (q : Question) : SemRel T F N QEq (choose q) ρ (choose q) := fun _ => ⟨rfl, fun _ => rfl⟩

/-- no block is named -/
def closed : Value → Bool
  | .agg cs => cs.all flat
  | v => flat v
theorem closed_rel {v : Value} (h : closed v = true) : RelV F ρ v v := by
  cases v <;> first
    | exact .flat h
    | skip
  rename_i cs
  have h' : ∀ x ∈ cs, flat x = true := by
    intro x hx
    have := Array.all_eq_true'.1 (show cs.all flat = true from h) x hx
    exact this
  exact .agg rfl (RelVs.flats h').2
def zeroOk (P : Program) (t : TypeId) : Bool :=
  match P.info? t with
  | some i => match i.zero with
    | some z => closed z
    | none => true
  | none => true
theorem rel_zeroValue (t : TypeId) (h : zeroOk T.P t = true) : SemRel T F N (fun ρ a b => a = b ∧ RelV F ρ a a) (zeroValue t) ρ (zeroValue t) := (rel_typeInfo t).bind fun _ a b _ hb => by
  obtain ⟨rfl, hi⟩ := hb
  unfold zeroOk at h
  rw [hi] at h
  simp only at h
  cases hz : a.zero with
  | none => exact fun _ => trivial
  | some z =>
    rw [hz] at h
    exact fun _ => ⟨rfl, closed_rel h⟩

theorem rel_load {a a' : Addr} (h : RelA ρ a a') (m : Mode) : SemRel T F N (QV F) (load a m) ρ (load a' m) := fun _ => ⟨rfl, h, fun _ _ hx => hx⟩
theorem rel_store {a a' : Addr} (h : RelA ρ a a') {x x' : Value} (hx : RelV F ρ x x') (m : Mode) : SemRel T F N QEq (store a x m) ρ (store a' x' m) := fun _ => ⟨rfl, h, hx, rfl⟩
theorem rel_loadCellsFrom {a a' : Addr} : ∀ (n i : Nat) {ρ : Rn}, RelA ρ a a' → ∀ {acc acc' : Array Value}, RelVs F ρ acc acc' → SemRel T F N (QVs F) (loadCellsFrom a i n acc) ρ (loadCellsFrom a' i n acc') := by
  intro n
  induction n with
  | zero => intro i ρ _ acc acc' h; exact fun _ => h
  | succ n ih =>
    intro i ρ h acc acc' hacc
    exact (rel_load (h.add i) .plain).bind fun ρ' x x' hl hx => ih (i + 1) (h.mono hl) ((hacc.mono hl).push hx)
theorem rel_loadCells {a a' : Addr} (h : RelA ρ a a') (n : Nat) : SemRel T F N (QVs F) (loadCells a n) ρ (loadCells a' n) := rel_loadCellsFrom n 0 h RelVs.nil
theorem rel_storeCells {a a' : Addr} : ∀ (l l' : List Value) (i : Nat) {ρ : Rn}, RelA ρ a a' → RelVs F ρ l.toArray l'.toArray → SemRel T F N QEq (storeCells a l i) ρ (storeCells a' l' i) := by
  intro l
  induction l with
  | nil =>
    intro l' i ρ h hl
    have : l' = [] := by have := hl.1; simp at this; exact List.length_eq_zero_iff.1 this.symm
    subst this; exact fun _ => rfl
  | cons v l ih =>
    intro l' i ρ h hl
    cases l' with
    | nil => have := hl.1; simp at this
    | cons v' l' =>
      have hv : RelV F ρ v v' := hl.2 0 v v' (by simp) (by simp)
      refine (rel_store (h.add i) hv .plain).bind fun ρ' _ _ hle _ => ih l' (i + 1) (h.mono hle) ⟨?_, fun j x x' hx hx' => ?_⟩
      · have := hl.1; simpa using this
      · exact (hl.2 (j + 1) x x' (by simpa using hx) (by simpa using hx')).mono hle
theorem rel_loadVar (t : TypeId) {a a' : Addr} (h : RelA ρ a a') : SemRel T F N (QV F) (loadVar t a) ρ (loadVar t a') := by
  refine (rel_isAgg t).bind fun ρ' b b' hl hb => ?_
  obtain rfl : b = b' := hb
  cases b with
  | true =>
    refine (rel_sizeOf t).bind fun ρ'' n n' hl' hn => ?_
    obtain rfl : n = n' := hn
    exact (rel_loadCells ((h.mono hl).mono hl') n).bind fun ρ₃ x x' _ hx _ => RelV.agg hx.1 hx.2
  | false => exact rel_load (h.mono hl) .plain
theorem rel_storeVar (t : TypeId) {a a' : Addr} (h : RelA ρ a a') {x x' : Value} (hx : RelV F ρ x x') : SemRel T F N QEq (storeVar t a x) ρ (storeVar t a' x') := by
  refine (rel_sizeOf t).bind fun ρ' n n' hl hn => ?_
  obtain rfl : n = n' := hn
  have hc := (hx.mono hl).cells
  by_cases hs : x.cells.size ≠ n
  · simp only [hs, if_true, ne_eq, not_false_eq_true]
    exact fun _ => trivial
  · have hs' : ¬ x'.cells.size ≠ n := by rw [← hc.1]; exact hs
    simp only [hs, hs', if_false]
    exact rel_storeCells _ _ 0 (h.mono hl) (by simpa using hc)
theorem rel_newRow (t : TypeId) {p p' : Array Value} (h : RelVs F ρ p p') : SemRel T F N QA (newRow t p) ρ (newRow t p') :=
  fun _ => ⟨.cells h, fun n _ _ => ⟨.inr ⟨rfl, rfl⟩, rfl, rfl⟩⟩
theorem rel_newVar (t : TypeId) {x x' : Value} (h : RelV F ρ x x') : SemRel T F N QA (newVar t x) ρ (newVar t x') := rel_newRow t h.cells
theorem rel_part (t : TypeId) {p p' : Array Value} (h : RelVs F ρ p p') (o : Nat) : SemRel T F N (QV F) (part t p o) ρ (part t p' o) := by
  refine (rel_isAgg t).bind fun ρ' b b' hl hb => ?_
  obtain rfl : b = b' := hb
  cases b with
  | true =>
    refine (rel_sizeOf t).bind fun ρ'' n n' hl' hn => ?_
    obtain rfl : n = n' := hn
    have := ((h.mono hl).mono hl').extract o (o + n)
    exact fun _ => RelV.agg this.1 this.2
  | false =>
    show SemRel T F N (QV F) (match p[o]? with | some v => pure v | none => stuck "part: no such cell" : Sem Value) ρ' (match p'[o]? with | some v => pure v | none => stuck "part: no such cell" : Sem Value)
    cases hv : p[o]? with
    | none => exact fun _ => trivial
    | some v =>
      obtain ⟨v', hv', hr⟩ := h.get hv
      rw [hv']
      exact fun _ => hr.mono hl

theorem rel_asIntOf {x x' : Value} (h : RelV F ρ x x') : SemRel T F N QEq (asIntOf x) ρ (asIntOf x') := by
  cases h with
  | flat hf => cases x <;> first | exact fun _ => rfl | exact fun _ => trivial | (rename_i a; cases a <;> exact fun _ => trivial)
  | _ => exact fun _ => trivial
theorem rel_asInt {x x' : Value} (h : RelV F ρ x x') : SemRel T F N QEq (asInt x) ρ (asInt x') := (rel_asIntOf h).bind fun _ a b _ e => by obtain rfl : a = b := e; exact fun _ => rfl
theorem rel_asBool {x x' : Value} (h : RelV F ρ x x') : SemRel T F N QEq (asBool x) ρ (asBool x') := by
  cases h with
  | flat hf => cases x <;> first | exact fun _ => rfl | exact fun _ => trivial
  | _ => exact fun _ => trivial
theorem rel_asString {x x' : Value} (h : RelV F ρ x x') : SemRel T F N QEq (asString x) ρ (asString x') := by
  cases h with
  | flat hf => cases x <;> first | exact fun _ => rfl | exact fun _ => trivial
  | _ => exact fun _ => trivial
theorem rel_asAgg {x x' : Value} (h : RelV F ρ x x') : SemRel T F N (QVs F) (asAgg x) ρ (asAgg x') := by
  cases h with
  | flat hf => cases x <;> first | exact absurd (show false = true from hf) (by simp) | exact fun _ => trivial
  | agg h1 h2 => exact fun _ => ⟨h1, h2⟩
  | _ => exact fun _ => trivial
theorem rel_sureAddr {x x' : Value} (h : RelV F ρ x x') : SemRel T F N QA (Instr.sureAddr x) ρ (Instr.sureAddr x') := by
  cases h with
  | flat hf => cases x <;> first | exact fun _ => trivial | (rename_i a; cases a <;> first | exact fun _ => trivial | exact absurd (show false = true from hf) (by simp))
  | ptr h => exact fun _ => h
  | _ => exact fun _ => trivial
theorem rel_string (b : ByteArray) : RelV F ρ (.string b) (.string b) := .flat rfl

/-- what the run-time system panics with: no block is named, but by two kinds -/
theorem rel_runtimePanic {Q : Rn → α → β → Prop} {e : RuntimeError} (h : match e with | .typeAssertion .. | .unhashable _ => False | _ => True) :
    SemRel T F N Q (runtimePanic e : Sem α) ρ (runtimePanic e : Sem β) := by
  have agg4 : ∀ (x y : Int) (s : Bool) (c : Nat), RelV F ρ (.agg #[.int .i64 x, .int .i64 y, .bool s, .int .u8 c]) (.agg #[.int .i64 x, .int .i64 y, .bool s, .int .u8 c]) := fun x y s c => by
    have := RelVs.flats (F := F) (ρ := ρ) (p := #[.int .i64 x, .int .i64 y, .bool s, .int .u8 c]) (by intro z hz; simp at hz; rcases hz with rfl | rfl | rfl | rfl <;> rfl)
    exact RelV.agg this.1 this.2
  cases e with
  | bounds x y s c => exact fun _ => .inr ⟨_, rfl, .iface (agg4 _ _ _ _)⟩
  | error m => exact fun _ => .inr ⟨_, rfl, .iface (.flat rfl)⟩
  | plain m => exact fun _ => .inr ⟨_, rfl, .iface (.flat rfl)⟩
  | nilDeref => exact fun _ => .inr ⟨_, rfl, .iface (.flat rfl)⟩
  | typeAssertion _ _ _ _ => exact h.elim
  | panicNil =>
    refine rel_program.bind fun ρ₁ p p' l1 e => ?_
    obtain ⟨rfl, rfl⟩ := e
    refine (rel_elemOf _).bind fun ρ₂ t t' l2 e => ?_
    obtain rfl : t = t' := e
    refine (rel_newVar t (x := .agg #[]) (x' := .agg #[]) (.agg rfl fun i v v' h => by simp at h)).bind fun ρ₃ a a' l3 ha => ?_
    exact fun _ => ⟨_, rfl, .iface (.ptr ha)⟩
  | unhashable _ => exact h.elim
theorem rel_asAddr {x x' : Value} (h : RelV F ρ x x') : SemRel T F N QA (asAddr x) ρ (asAddr x') := by
  cases h with
  | flat hf => cases x <;> first | exact fun _ => trivial | (rename_i a; cases a <;> first | exact rel_runtimePanic (e := .nilDeref) trivial | exact absurd (show false = true from hf) (by simp))
  | ptr h => exact fun _ => h
  | _ => exact fun _ => trivial
theorem rel_boundsPanic {Q : Rn → α → β → Prop} (k : IntKind) (x y : Int) (c : BoundsCode) : SemRel T F N Q (boundsPanic k x y c : Sem α) ρ (boundsPanic k x y c : Sem β) := by
  unfold boundsPanic
  by_cases hc : (k != .u64 && decide (0 ≤ x) && decide (x ≤ 31)) = true
  · simp only [hc, if_true]
    exact fun hok => ⟨rfl, fun n => rel_runtimePanic (e := .bounds (IntKind.i64.wrap x) y (n == 1) c) trivial hok⟩
  · simp only [hc, if_false, Bool.false_eq_true]
    exact rel_runtimePanic (e := .bounds (IntKind.i64.wrap x) y (k != .u64) c) trivial
theorem rel_goPanic {Q : Rn → α → β → Prop} {x x' : Value} (h : RelV F ρ x x') : SemRel T F N Q (goPanic x : Sem α) ρ (goPanic x' : Sem β) := fun _ => ⟨x', rfl, h⟩

/-! ### looks at a block's shape -/
theorem rel_shape {b b' : Nat} (h : ρ.r b b') : SemRel T F N QEq (shape b) ρ (shape b') := fun _ => ⟨h, fun _ => rfl⟩
theorem rel_viewAt {b b' : Nat} (h : ρ.r b b') : SemRel T F N (fun _ a c => a = none ∧ c = none) (viewAt b) ρ (viewAt b') := by
  refine (rel_shape h).bind fun ρ' x x' hl e => ?_
  obtain rfl : x = x' := e
  by_cases hs : x.isSome = true
  · simp only [hs, if_true]; exact fun _ => ⟨rfl, rfl⟩
  · simp only [hs, if_false, Bool.false_eq_true]
    exact fun _ => ⟨hl.r _ _ h, fun o o' ho => by cases ho <;> exact ⟨rfl, rfl⟩⟩
/-- what stands behind a number's block -/
def QN : Rn → Option (Addr × Bool) → Option (Addr × Bool) → Prop := fun ρ x y => match x, y with
  | none, none => True
  | some p, some q => RelA ρ p.1 q.1 ∧ p.2 = q.2
  | _, _ => False
theorem rel_numberAt {b b' : Nat} (h : ρ.r b b') : SemRel T F N QN (numberAt b) ρ (numberAt b') := by
  refine (rel_shape h).bind fun ρ' x x' hl e => ?_
  obtain rfl : x = x' := e
  by_cases hs : x.isSome = true
  · simp only [hs, if_true]; exact fun _ => trivial
  · simp only [hs, if_false, Bool.false_eq_true]
    exact fun _ => ⟨hl.r _ _ h, fun o o' ho => by
      cases ho with
      | number ha => exact ⟨ha, rfl⟩
      | _ => exact trivial⟩
theorem rel_behindNumber {a a' : Addr} (h : RelA ρ a a') : SemRel T F N (fun ρ x y => RelA ρ x.1 y.1 ∧ x.2 = y.2) (behindNumber a) ρ (behindNumber a') :=
  (rel_numberAt h.1).bind fun ρ' x x' hl e => by
    cases x <;> cases x' <;> first | exact e.elim | skip
    · exact fun _ => ⟨h.mono hl, rfl⟩
    · exact fun _ => e
theorem rel_noView {a a' : Addr} (h : RelA ρ a a') : SemRel T F N QEq (noView a) ρ (noView a') := by
  refine (rel_viewAt h.1).bind fun ρ' x x' _ e => ?_
  obtain ⟨rfl, rfl⟩ := e
  exact fun _ => rfl
theorem byteOfCell_v (T : Twin) : ∀ (d : Nat) (t : TypeId) (off : Nat), byteOfCell T.v d t off = byteOfCell T.P d t off
  | 0, _, _ => rfl
  | d + 1, t, off => by
    have e1 : T.v.underlying t = T.P.underlying t := rfl
    have e2 : ∀ x, T.v.cellsOf x = T.P.cellsOf x := fun _ => rfl
    have e3 : ∀ x, T.v.bytesOf x = T.P.bytesOf x := fun _ => rfl
    unfold byteOfCell
    rw [e1]
    simp only [byteOfCell_v T d, e2, e3]
theorem rel_byteOf {a a' : Addr} (h : RelA ρ a a') : SemRel T F N QEq (byteOf a) ρ (byteOf a') := by
  obtain ⟨b, o, s⟩ := a
  obtain ⟨b', o', s'⟩ := a'
  obtain ⟨h1, h2, h3⟩ := h
  simp only at h1 h2 h3
  subst h2 h3
  unfold byteOf
  cases s' with
  | some s => exact fun _ => rfl
  | none =>
    refine rel_program.bind fun ρ₁ p p' l1 e => ?_
    obtain ⟨rfl, rfl⟩ := e
    refine (rel_noView (a := ⟨b, o', none⟩) (a' := ⟨b', o', none⟩) ⟨l1.r _ _ h1, rfl, rfl⟩).bind fun ρ₂ _ _ l2 _ => ?_
    refine (rel_shape (b := b) (b' := b') (l2.r _ _ (l1.r _ _ h1))).bind fun ρ₃ x x' _ e => ?_
    obtain rfl : x = x' := e
    cases x with
    | none => exact fun _ => trivial
    | some q =>
      obtain ⟨e, n⟩ := q
      show SemRel _ F N QEq (if T.P.cellsOf e = 0 then _ else _ : Sem Nat) _ (if T.P.cellsOf e = 0 then _ else _ : Sem Nat)
      have hb : byteOfCell T.v T.v.depth e (o' % T.v.cellsOf e) = byteOfCell T.P T.P.depth e (o' % T.P.cellsOf e) := byteOfCell_v T _ _ _
      by_cases h0 : T.P.cellsOf e = 0
      · simp only [h0, if_true]; exact fun _ => rfl
      · simp only [h0, if_false, hb]
        cases hc : byteOfCell T.P T.P.depth e (o' % T.P.cellsOf e) with
        | none => exact fun _ => trivial
        | some b => exact fun _ => rfl
theorem rel_partAt {a a' : Addr} (h : RelA ρ a a') (n m : Nat) : SemRel T F N QA (partAt a n m) ρ (partAt a' n m) := by
  refine (rel_byteOf h).bind fun ρ₁ x x' l1 e => ?_
  obtain rfl : x = x' := e
  have h1 := h.mono l1
  refine (rel_byteOf (a := { block := a.block, off := a.off + n }) (a' := { block := a'.block, off := a'.off + n }) ⟨h1.1, by simp [h.2.1], rfl⟩).bind fun ρ₂ y y' l2 e => ?_
  obtain rfl : y = y' := e
  have h2 := h1.mono l2
  show SemRel T F N QA (pure (if y = x + m then _ else _)) _ (pure (if y = x + m then _ else _))
  by_cases hy : y = x + m
  · simp only [hy, if_true]; exact fun _ => ⟨h2.1, by simp [h.2.1], rfl⟩
  · simp only [hy, if_false]; exact fun _ => ⟨h2.1, by simp [h.2.1], rfl⟩
theorem rel_fieldPlace {a a' : Addr} (h : RelA ρ a a') (f : Field) : SemRel T F N QA (fieldPlace a f) ρ (fieldPlace a' f) := by
  refine (rel_sizeOf f.type).bind fun ρ₁ n n' l1 e => ?_
  obtain rfl : n = n' := e
  by_cases hn : n = 0
  · simp only [hn, if_true]; exact rel_partAt (h.mono l1) _ _
  · simp only [hn, if_false]; exact fun _ => (h.mono l1).add _
end

end Go.Proofs.Ytcdhmnefmbcmaaa

namespace Go.Proofs.Ytcdhmnefmbcmaaa
open Go Go.Conc

section
variable {T : Twin} {F : Fs} {N : Nat} {ρ : Rn} {α β γ : Type}

/-! ### memory -/
theorem rel_alloc (t : TypeId) (h : zeroOk T.P t = true) : SemRel T F N (QV F) (Instr.alloc t true (.tuple #[])) ρ (Instr.alloc t true (.tuple #[])) := by
  refine (rel_zeroValue t h).bind fun ρ₁ z z' l1 e => ?_
  obtain ⟨rfl, hz⟩ := e
  exact (rel_newVar t hz).bind fun ρ₂ a a' _ ha _ => .ptr ha
theorem rel_box (t : TypeId) {x x' : Value} (h : RelV F ρ x x') : SemRel T F N (QV F) (Instr.box t x) ρ (Instr.box t x') :=
  (rel_newVar t h).bind fun ρ₂ a _ _ ha _ => .ptr ha
theorem rel_loadAt (t : TypeId) {x x' : Value} (h : RelV F ρ x x') : SemRel T F N (QV F) (Instr.loadAt t x) ρ (Instr.loadAt t x') :=
  (rel_sureAddr h).bind fun ρ₁ a _ _ ha => rel_loadVar t ha
theorem rel_storeAt (t : TypeId) {x x' y y' : Value} (h : RelV F ρ x x') (k : RelV F ρ y y') : SemRel T F N QEq (Instr.storeAt t x y) ρ (Instr.storeAt t x' y') :=
  (rel_sureAddr h).bind fun ρ₁ a _ l1 ha => rel_storeVar t ha (k.mono l1)
theorem rel_fieldAt (t : TypeId) {x x' : Value} (h : RelV F ρ x x') (f : Nat) : SemRel T F N (QV F) (Instr.fieldAt t x f) ρ (Instr.fieldAt t x' f) := by
  refine (rel_underlying t).bind fun ρ₁ d d' l1 e => ?_
  obtain ⟨rfl, _⟩ := e
  cases d with
  | struct fs =>
    simp only
    cases hf : fs[f]? with
    | none => exact fun _ => trivial
    | some fd =>
      refine (rel_sureAddr (h.mono l1)).bind fun ρ₂ a a' l2 ha => ?_
      exact (rel_fieldPlace ha fd).bind fun ρ₃ b b' _ hb _ => .ptr hb
  | _ => exact fun _ => trivial
def idxBase (d : TypeDesc) (x : Value) : Sem (Option Addr × Nat × TypeId) :=
  match d, x with
  | .array len elem, x => do pure (some (← Instr.sureAddr x), len, elem)
  | .slice elem, .slice base len _ => pure (base, len, elem)
  | _, _ => stuck "indexAddr: an array's address or a slice expected"
def idxRest (t : TypeId) (k : IntKind) (i : Int) (base : Option Addr) (len : Nat) (elem : TypeId) : Sem Value := do
  let tiny := len ≤ 1 && (match ← underlying t with | .array .. => true | _ => false)
  match base with
  | some a =>
    if 0 ≤ i ∧ i < len then pure (.pointer (some (a.add (i.toNat * (← sizeOf elem)))))
    else if tiny then unsupported (.noEntry "op/indexAddr.an index out of range at an array of length 0 or 1 (ledger 616)")
    else boundsPanic k i len .index
  | none => boundsPanic k i 0 .index
theorem indexAt_eq (t : TypeId) (x ix : Value) : Instr.indexAt t x ix = (asIntOf ix >>= fun q => underlying t >>= fun d => idxBase d x >>= fun b => idxRest t q.1 q.2 b.1 b.2.1 b.2.2) := by
  unfold Instr.indexAt idxBase idxRest
  refine congrArg (Bind.bind (asIntOf ix)) (funext fun q => ?_)
  refine congrArg (Bind.bind (underlying t)) (funext fun d => ?_)
  cases d <;> cases x <;> first | rfl | (rename_i a; cases a <;> rfl)
theorem rel_indexAt (t : TypeId) {x x' i i' : Value} (h : RelV F ρ x x') (k : RelV F ρ i i') : SemRel T F N (QV F) (Instr.indexAt t x i) ρ (Instr.indexAt t x' i') := by
  rw [indexAt_eq, indexAt_eq]
  refine (rel_asIntOf k).bind fun ρ₁ n n' l1 e => ?_
  obtain rfl : n = n' := e
  obtain ⟨kd, n⟩ := n
  refine (rel_underlying t).bind fun ρ₂ d d' l2 e => ?_
  obtain ⟨rfl, _⟩ := e
  have hx := (h.mono l1).mono l2
  -- the base, the length, the element's type
  refine SemRel.bind (Q := fun (ρ : Rn) (p q : Option Addr × Nat × TypeId) => (match p.1, q.1 with | none, none => True | some a, some a' => RelA ρ a a' | _, _ => False) ∧ p.2 = q.2) ?_ ?_
  · cases d with
    | array len el =>
      refine SemRel.bind (rel_sureAddr hx) fun ρ₃ a a' _ ha => ?_
      exact fun _ => ⟨ha, rfl⟩
    | slice el =>
      cases hx with
      | flat hf =>
        cases x <;> first | exact fun _ => trivial | skip
        rename_i a n c
        cases a <;> first | exact absurd (show false = true from hf) (by simp) | exact fun _ => ⟨trivial, rfl⟩
      | slice ha => exact fun _ => ⟨ha, rfl⟩
      | _ => exact fun _ => trivial
    | _ => exact fun _ => trivial
  · intro ρ₃ p q l3 hpq
    obtain ⟨b, len, el⟩ := p
    obtain ⟨b', len', el'⟩ := q
    obtain ⟨hb, he⟩ := hpq
    simp only [Prod.mk.injEq] at he
    obtain ⟨rfl, rfl⟩ := he
    simp only
    unfold idxRest
    refine (rel_underlying t).bind fun ρ₄ d d' l4 e => ?_
    obtain ⟨rfl, _⟩ := e
    cases b with
    | none => cases b' with
      | none => exact rel_boundsPanic _ _ _ _
      | some _ => exact hb.elim
    | some a => cases b' with
      | none => exact hb.elim
      | some a' =>
        simp only
        by_cases hn : 0 ≤ n ∧ n < (len : Int)
        · simp only [hn, and_self, if_true]
          refine (rel_sizeOf el).bind fun ρ₅ s s' l5 e => ?_
          obtain rfl : s = s' := e
          exact fun _ => .ptr (((RelA.mono l4 hb).mono l5).add _)
        · simp only [hn, if_false]
          split <;> (by_cases hl : len ≤ 1 <;> simp only [hl, decide_true, decide_false, Bool.true_and, Bool.false_and, if_true, if_false, Bool.false_eq_true] <;> first | exact fun _ => trivial | exact rel_boundsPanic _ _ _ _)

/-! ### new rows -/
/-- parts of a literal -/
def QP (F : Fs) (ρ : Rn) : List (Nat × Value) → List (Nat × Value) → Prop := All2 fun p q => p.1 = q.1 ∧ RelV F ρ p.2 q.2
theorem rel_setAll {l l' : List Value} : ∀ (k off : Nat) {p p' : Array Value}, RelVs F ρ l.toArray l'.toArray → RelVs F ρ p p' →
    RelVs F ρ ((l.zipIdx k).foldl (fun cs (c, j) => cs.setIfInBounds (off + j) c) p) ((l'.zipIdx k).foldl (fun cs (c, j) => cs.setIfInBounds (off + j) c) p') := by
  induction l generalizing l' with
  | nil =>
    intro k off p p' h hp
    have : l' = [] := by have := h.1; simp at this; exact List.length_eq_zero_iff.1 this.symm
    subst this; exact hp
  | cons v l ih =>
    intro k off p p' h hp
    cases l' with
    | nil => have := h.1; simp at this
    | cons v' l' =>
      simp only [List.zipIdx_cons, List.foldl_cons]
      refine ih _ _ ⟨by have := h.1; simpa using this, fun j x x' hx hx' => h.2 (j + 1) x x' (by simpa using hx) (by simpa using hx')⟩ (hp.set (h.2 0 v v' (by simp) (by simp)) _)
theorem rel_fill (place : Nat → Option (Nat × Nat)) : ∀ {l l' : List (Nat × Value)} {p p' : Array Value}, QP F ρ l l' → RelVs F ρ p p' →
    match Instr.fill place p l, Instr.fill place p' l' with
    | some a, some b => RelVs F ρ a b
    | none, none => True
    | _, _ => False := by
  intro l
  induction l with
  | nil => intro l' p p' h hp; cases h; exact hp
  | cons x l ih =>
    intro l' p p' h hp
    cases h with
    | @cons _ y _ l' hxy hl =>
      obtain ⟨i, v⟩ := x
      obtain ⟨i', v'⟩ := y
      obtain ⟨e, hv⟩ := hxy
      simp only at e hv
      subst e
      simp only [Instr.fill]
      cases place i with
      | none => trivial
      | some q =>
        obtain ⟨off, size⟩ := q
        have hc := hv.cells
        simp only [← hc.1, ← hp.1]
        by_cases hcd : (decide (v.cells.size ≠ size) || decide (off + v.cells.size > p.size)) = true
        · simp only [hcd, if_true]
        · simp only [hcd, if_false, Bool.false_eq_true]
          rw [← Array.foldl_toList, ← Array.foldl_toList, Array.toList_zipIdx, Array.toList_zipIdx]
          exact ih hl (rel_setAll 0 off (by simpa using hc) hp)

theorem closed_cells {v : Value} (h : closed v = true) : ∀ x ∈ v.cells, flat x = true := by
  cases v with
  | agg cs => exact fun x hx => Array.all_eq_true'.1 (show cs.all flat = true from h) x hx
  | _ => intro x hx; simp [Value.cells] at hx; subst hx; exact h
theorem flat_get {p : Array Value} (h : ∀ x ∈ p, flat x = true) (i : Nat) : flat p[i]! = true := by
  rw [getElem!_def]
  cases hx : p[i]? with
  | none => rfl
  | some x => exact h x (Array.mem_of_getElem? hx)
theorem rel_zeros {p : Array Value} (h : ∀ x ∈ p, flat x = true) (n m : Nat) : RelVs F ρ ((Array.range n).map (p[· % m]!)) ((Array.range n).map (p[· % m]!)) :=
  RelVs.ofFn fun _ => .flat (flat_get h _)
def zeroCellsOk (T : Twin) (t : TypeId) : Prop := ∀ i z, T.P.info? t = some i → i.zero = some z → ∀ x ∈ z.cells, flat x = true
theorem rel_zeroCells (t : TypeId) (h : zeroOk T.P t = true) : SemRel T F N (fun _ a b => a = b ∧ ∀ x ∈ a.cells, flat x = true) (zeroValue t) ρ (zeroValue t) := (rel_typeInfo t).bind fun _ a b _ hb => by
  obtain ⟨rfl, hi⟩ := hb
  unfold zeroOk at h
  rw [hi] at h
  simp only at h
  cases hz : a.zero with
  | none => exact fun _ => trivial
  | some z =>
    rw [hz] at h
    exact fun _ => ⟨rfl, closed_cells h⟩

theorem mapM_pair (fs : Array Field) : SemRel T F N QEq (fs.mapM fun f => do pure (f.offset, ← sizeOf f.type) : Sem (Array (Nat × Nat))) ρ (fs.mapM fun f => do pure (f.offset, ← sizeOf f.type)) := by
  rw [Array.mapM_eq_mapM_toList]
  refine SemRel.bind (Q := QEq) ?_ fun _ a b _ e => by obtain rfl : a = b := e; exact fun _ => rfl
  induction fs.toList generalizing ρ with
  | nil => exact fun _ => rfl
  | cons f l ih =>
    rw [List.mapM_cons]
    refine SemRel.bind (Q := QEq) ((rel_sizeOf f.type).bind fun _ a b _ e => by obtain rfl : a = b := e; exact fun _ => rfl) fun ρ₁ a b _ e => ?_
    obtain rfl : a = b := e
    exact ih.bind fun ρ₂ a b _ e => by obtain rfl : a = b := e; exact fun _ => rfl

theorem rel_build (t : TypeId) (h : zeroOk T.P t = true) {l l' : Array (Nat × Value)} (hl : QP F ρ l.toList l'.toList) : SemRel T F N (QV F) (Instr.build t l) ρ (Instr.build t l') := by
  have mono : ∀ {ρ₁ : Rn}, ρ.le ρ₁ → QP F ρ₁ l.toList l'.toList := fun k => by
    have : ∀ {a b : List (Nat × Value)}, QP F ρ a b → QP F _ a b := fun {a b} q => by
      induction q with
      | nil => exact .nil
      | cons x _ i => exact .cons ⟨x.1, x.2.mono k⟩ i
    exact this hl
  refine (rel_zeroCells t h).bind fun ρ₁ z z' l1 e => ?_
  obtain ⟨rfl, hz⟩ := e
  refine (rel_underlying t).bind fun ρ₂ d d' l2 e => ?_
  obtain ⟨rfl, _⟩ := e
  cases d with
  | struct fs =>
    refine (mapM_pair fs).bind fun ρ₃ pl pl' l3 e => ?_
    obtain rfl : pl = pl' := e
    have := rel_fill (F := F) (ρ := ρ₃) (pl[·]?) (mono ((l1.trans l2).trans l3)) (RelVs.flats hz)
    cases h1 : Instr.fill (pl[·]?) z.cells l.toList with
    | none => exact fun _ => trivial
    | some a => cases h2 : Instr.fill (pl[·]?) z.cells l'.toList with
      | none => simp only [h1, h2] at this
      | some b => simp only [h1, h2] at this ⊢; exact fun _ => .agg this.1 this.2
  | array n el =>
    refine (rel_sizeOf el).bind fun ρ₃ s s' l3 e => ?_
    obtain rfl : s = s' := e
    have := rel_fill (F := F) (ρ := ρ₃) (fun i => some (i * s, s)) (mono ((l1.trans l2).trans l3)) (RelVs.flats hz)
    cases h1 : Instr.fill (fun i => some (i * s, s)) z.cells l.toList with
    | none => exact fun _ => trivial
    | some a => cases h2 : Instr.fill (fun i => some (i * s, s)) z.cells l'.toList with
      | none => simp only [h1, h2] at this
      | some b => simp only [h1, h2] at this ⊢; exact fun _ => .agg this.1 this.2
  | _ => exact fun _ => trivial

theorem rel_buildSlice (t : TypeId) (n : Nat) (h : ∀ el, T.P.underlying t = some (.slice el) → zeroOk T.P el = true) {l l' : Array (Nat × Value)} (hl : QP F ρ l.toList l'.toList) :
    SemRel T F N (QV F) (Instr.buildSlice t n l) ρ (Instr.buildSlice t n l') := by
  have mono : ∀ {ρ₁ : Rn}, ρ.le ρ₁ → QP F ρ₁ l.toList l'.toList := fun k => by
    have : ∀ {a b : List (Nat × Value)}, QP F ρ a b → QP F _ a b := fun {a b} q => by
      induction q with
      | nil => exact .nil
      | cons x _ i => exact .cons ⟨x.1, x.2.mono k⟩ i
    exact this hl
  refine (rel_underlying t).bind fun ρ₂ d d' l2 e => ?_
  obtain ⟨rfl, hd⟩ := e
  cases d with
  | slice el =>
    refine (rel_sizeOf el).bind fun ρ₃ s s' l3 e => ?_
    obtain rfl : s = s' := e
    by_cases hbig : n * s > 2 ^ 24
    · simp only [hbig, if_true]; exact fun _ => trivial
    simp only [hbig, if_false]
    have key : ∀ (ρ₄ : Rn) (z : Array Value), ρ₃.le ρ₄ → (∀ x ∈ z, flat x = true) →
        SemRel T F N (QV F) (do
          let some cells := Instr.fill (fun i => some (i * s, s)) ((Array.range (n * s)).map (z[· % z.size]!)) l.toList | stuck "buildSlice: a part of the wrong size"
          pure (.slice (some (← newRow el cells)) n n) : Sem Value) ρ₄ (do
          let some cells := Instr.fill (fun i => some (i * s, s)) ((Array.range (n * s)).map (z[· % z.size]!)) l'.toList | stuck "buildSlice: a part of the wrong size"
          pure (.slice (some (← newRow el cells)) n n) : Sem Value) := by
      intro ρ₄ z l4 hz
      have := rel_fill (F := F) (ρ := ρ₄) (fun i => some (i * s, s)) (mono ((l2.trans l3).trans l4)) (rel_zeros hz (n * s) z.size)
      cases h1 : Instr.fill (fun i => some (i * s, s)) ((Array.range (n * s)).map (z[· % z.size]!)) l.toList with
      | none => exact fun _ => trivial
      | some a => cases h2 : Instr.fill (fun i => some (i * s, s)) ((Array.range (n * s)).map (z[· % z.size]!)) l'.toList with
        | none => simp only [h1, h2] at this
        | some b =>
          simp only [h1, h2] at this ⊢
          exact (rel_newRow el this).bind fun _ a b _ e => fun _ => .slice e
    by_cases h0 : n * s = 0
    · simp only [h0, if_true]
      have := key ρ₃ #[] (.refl _) (by simp)
      simp only [h0] at this
      exact this
    · simp only [h0, if_false]
      refine (rel_zeroCells el (h el hd)).bind fun ρ₄ z z' l4 e => ?_
      obtain ⟨rfl, hz⟩ := e
      exact key ρ₄ _ l4 hz
  | _ => exact fun _ => trivial

theorem rel_extract {x x' : Value} (h : RelV F ρ x x') (i : Nat) : SemRel T F N (QV F) (Instr.extract x i) ρ (Instr.extract x' i) := by
  cases h with
  | flat hf => cases x <;> first | exact fun _ => trivial | exact absurd (show false = true from hf) (by simp)
  | tuple h1 h2 =>
    rename_i p p'
    simp only [Instr.extract]
    cases hv : p[i]? with
    | none => exact fun _ => trivial
    | some v =>
      obtain ⟨v', hv', hr⟩ := RelVs.get ⟨h1, h2⟩ hv
      rw [hv']
      exact fun _ => hr
  | _ => exact fun _ => trivial
theorem rel_makeInterface (t : TypeId) {x x' : Value} (h : RelV F ρ x x') : SemRel T F N (QV F) (Instr.makeInterface t x) ρ (Instr.makeInterface t x') := by
  refine (rel_underlying t).bind fun ρ₁ d d' l1 e => ?_
  obtain ⟨rfl, _⟩ := e
  cases d <;> first | exact fun _ => trivial | exact fun _ => .iface (h.mono l1)
theorem rel_makeFunc (f : FuncId) (hf : F f) (hv : F.v f) {p p' q q' : Array Value} (h : RelVs F ρ p p') (k : RelVs F ρ q q') : SemRel T F N (QV F) (Instr.makeFunc (.func f) p q) ρ (Instr.makeFunc (.func f) p' q') :=
  fun _ => .func hf hv h.1 h.2 k.1 k.2
theorem rel_makeChan (t : TypeId) {x x' : Value} (h : RelV F ρ x x') : SemRel T F N (QV F) (Instr.makeChan t x) ρ (Instr.makeChan t x') := by
  refine (rel_asInt h).bind fun ρ₁ n n' l1 e => ?_
  obtain rfl : n = n' := e
  refine (rel_underlying t).bind fun ρ₂ d d' l2 e => ?_
  obtain ⟨rfl, _⟩ := e
  cases d with
  | chan dir el =>
    refine (rel_typeInfo el).bind fun ρ₃ i i' l3 e => ?_
    obtain ⟨rfl, _⟩ := e
    by_cases hc : n < 0 ∨ n > IntKind.i64.max ∨ (i.bytes : Int) * n > 2 ^ 48 - 112
    · simp only [hc, if_true]; exact rel_runtimePanic (e := .plain _) trivial
    · simp only [hc, if_false]; exact fun _ => ⟨.chan, fun n n' _ => .chan (.inr ⟨rfl, rfl⟩)⟩
  | _ => exact fun _ => trivial

theorem rel_sliceBound {x x' : Value} (h : RelV F ρ x x') (y : Nat) (c : BoundsCode) : SemRel T F N QEq (Instr.sliceBound x y c) ρ (Instr.sliceBound x' y c) := by
  refine (rel_asIntOf h).bind fun ρ₁ n n' l1 e => ?_
  obtain rfl : n = n' := e
  obtain ⟨k, n⟩ := n
  simp only
  split
  · exact fun _ => rfl
  · exact rel_boundsPanic _ _ _ _
/-- an operand that may be left out -/
def QO (F : Fs) (ρ : Rn) (x y : Option Value) : Prop := match x, y with
  | none, none => True
  | some a, some b => RelV F ρ a b
  | _, _ => False
theorem QO.mono {ρ' : Rn} (h : ρ.le ρ') {x y : Option Value} (k : QO F ρ x y) : QO F ρ' x y := by
  cases x <;> cases y <;> first | exact k.elim | trivial | exact RelV.mono h k
theorem sliceBounds_eq (s : Bool) (n k : Nat) (lo hi mx : Option Value) : Instr.sliceBounds s n k lo hi mx =
    ((match mx with | some v => Instr.sliceBound v k (if s then .slice3Acap else .slice3Alen) | none => pure k : Sem Nat) >>= fun m =>
      (match hi, mx with | some v, some _ => Instr.sliceBound v m .slice3B | some v, none => Instr.sliceBound v m (if s then .sliceAcap else .sliceAlen) | none, none => pure n | none, some _ => stuck "Slice: max without high" : Sem Nat) >>= fun h =>
        (match lo with | some v => Instr.sliceBound v h (if mx.isSome then .slice3C else .sliceB) | none => pure 0 : Sem Nat) >>= fun l => pure (l, h, m)) := by
  cases mx <;> cases hi <;> cases lo <;> rfl
theorem rel_sliceBounds (s : Bool) (n k : Nat) {lo lo' hi hi' mx mx' : Option Value} (h1 : QO F ρ lo lo') (h2 : QO F ρ hi hi') (h3 : QO F ρ mx mx') :
    SemRel T F N QEq (Instr.sliceBounds s n k lo hi mx) ρ (Instr.sliceBounds s n k lo' hi' mx') := by
  rw [sliceBounds_eq, sliceBounds_eq]
  have hs : mx.isSome = mx'.isSome := by cases mx <;> cases mx' <;> first | rfl | exact h3.elim
  refine SemRel.bind (Q := QEq) ?_ fun ρ₁ m m' l1 e => ?_
  · cases mx <;> cases mx' <;> first | exact h3.elim | exact fun _ => rfl | exact rel_sliceBound h3 _ _
  obtain rfl : m = m' := e
  refine SemRel.bind (Q := QEq) ?_ fun ρ₂ a a' l2 e => ?_
  · have h2 := h2.mono l1
    cases hi <;> cases hi' <;> first
      | exact h2.elim
      | (cases mx <;> cases mx' <;> first | exact h3.elim | exact fun _ => rfl | exact fun _ => trivial | exact rel_sliceBound h2 _ _)
  obtain rfl : a = a' := e
  refine SemRel.bind (Q := QEq) ?_ fun ρ₃ b b' l3 e => ?_
  · have h1 := (h1.mono l1).mono l2
    rw [← hs]
    cases lo <;> cases lo' <;> first | exact h1.elim | exact fun _ => rfl | exact rel_sliceBound h1 _ _
  obtain rfl : b = b' := e
  exact fun _ => rfl
theorem rel_slice (t : TypeId) {x x' : Value} (h : RelV F ρ x x') {lo lo' hi hi' mx mx' : Option Value} (h1 : QO F ρ lo lo') (h2 : QO F ρ hi hi') (h3 : QO F ρ mx mx') :
    SemRel T F N (QV F) (Instr.slice t x lo hi mx) ρ (Instr.slice t x' lo' hi' mx') := by
  unfold Instr.slice
  refine (rel_underlying t).bind fun ρ₁ d d' l1 e => ?_
  obtain ⟨rfl, _⟩ := e
  have hx := h.mono l1
  have h1 := h1.mono l1
  have h2 := h2.mono l1
  have h3 := h3.mono l1
  cases d with
  | string =>
    cases hx with
    | flat hf =>
      cases x <;> first | exact fun _ => trivial | skip
      rename_i b
      have hs : mx.isSome = mx'.isSome := by cases mx <;> cases mx' <;> first | rfl | exact h3.elim
      simp only [← hs]
      split
      · exact fun _ => trivial
      · refine (rel_sliceBounds false _ _ h1 h2 (mx := none) (mx' := none) trivial).bind fun ρ₂ q q' _ e => ?_
        obtain rfl : q = q' := e
        exact fun _ => .flat rfl
    | _ => exact fun _ => trivial
  | slice el =>
    have key : ∀ {a a' : Option Addr} {n k : Nat}, (match a, a' with | none, none => True | some p, some q => RelA ρ₁ p q | _, _ => False) →
        SemRel T F N (QV F) (do let (l, h, m) ← Instr.sliceBounds true n k lo hi mx; let size ← sizeOf el; pure (.slice (if m = l then a else a.map (·.add (l * size))) (h - l) (m - l)) : Sem Value) ρ₁
          (do let (l, h, m) ← Instr.sliceBounds true n k lo' hi' mx'; let size ← sizeOf el; pure (.slice (if m = l then a' else a'.map (·.add (l * size))) (h - l) (m - l)) : Sem Value) := by
      intro a a' n k ha
      refine (rel_sliceBounds true _ _ h1 h2 h3).bind fun ρ₂ q q' l2 e => ?_
      obtain rfl : q = q' := e
      obtain ⟨l, hh, m⟩ := q
      refine (rel_sizeOf el).bind fun ρ₃ s s' l3 e => ?_
      obtain rfl : s = s' := e
      cases a <;> cases a' <;> first | exact ha.elim | skip
      · intro _; simp only [Option.map_none, ite_self]; exact .flat rfl
      · have ha : RelA ρ₁ _ _ := ha
        by_cases hm : m = l
        · simp only [hm, if_true]; exact fun _ => .slice ((ha.mono l2).mono l3)
        · simp only [hm, if_false, Option.map_some]; exact fun _ => .slice (((ha.mono l2).mono l3).add _)
    cases hx with
    | flat hf =>
      cases x <;> first | exact fun _ => trivial | skip
      rename_i a n k
      cases a with
      | none => exact key trivial
      | some _ => exact absurd (show false = true from hf) (by simp)
    | slice ha => exact key (a := some _) (a' := some _) ha
    | _ => exact fun _ => trivial
  | pointer el =>
    refine SemRel.bind (Q := QA) (rel_asAddr hx) fun ρ₂ a a' l2 ha => ?_
    refine (rel_underlying el).bind fun ρ₃ d d' l3 e => ?_
    obtain ⟨rfl, _⟩ := e
    cases d with
    | array n elem =>
      refine (rel_sliceBounds false _ _ ((h1.mono l2).mono l3) ((h2.mono l2).mono l3) ((h3.mono l2).mono l3)).bind fun ρ₄ q q' l4 e => ?_
      obtain rfl : q = q' := e
      obtain ⟨l, hh, m⟩ := q
      refine (rel_sizeOf elem).bind fun ρ₅ s s' l5 e => ?_
      obtain rfl : s = s' := e
      have ha := ((ha.mono l3).mono l4).mono l5
      by_cases hm : m = l
      · simp only [hm, if_true]; exact fun _ => .slice ha
      · simp only [hm, if_false]; exact fun _ => .slice (ha.add _)
    | _ => exact fun _ => trivial
  | _ => exact fun _ => trivial
theorem rel_sliceAt (t : TypeId) {x x' : Value} (h : RelV F ρ x x') {lo lo' hi hi' mx mx' : Option Value} (h1 : QO F ρ lo lo') (h2 : QO F ρ hi hi') (h3 : QO F ρ mx mx') :
    SemRel T F N (QV F) (Instr.sliceAt t x lo hi mx) ρ (Instr.sliceAt t x' lo' hi' mx') := by
  unfold Instr.sliceAt
  refine (rel_underlying t).bind fun ρ₁ d d' l1 e => ?_
  obtain ⟨rfl, _⟩ := e
  cases d with
  | array n elem =>
    refine (rel_sureAddr (h.mono l1)).bind fun ρ₂ a a' l2 ha => ?_
    refine (rel_sliceBounds false _ _ ((h1.mono l1).mono l2) ((h2.mono l1).mono l2) ((h3.mono l1).mono l2)).bind fun ρ₄ q q' l4 e => ?_
    obtain rfl : q = q' := e
    obtain ⟨l, hh, m⟩ := q
    refine (rel_sizeOf elem).bind fun ρ₅ s s' l5 e => ?_
    obtain rfl : s = s' := e
    have ha := (ha.mono l4).mono l5
    by_cases hm : m = l
    · simp only [hm, if_true]; exact fun _ => .slice ha
    · simp only [hm, if_false]; exact fun _ => .slice (ha.add _)
  | _ => exact rel_slice t (h.mono l1) (h1.mono l1) (h2.mono l1) (h3.mono l1)
/-- a method that is held, and stands for another one, is not called -/
theorem nilAhead_dead (h0 : ∀ i, T.P.info? 0 = some i → i.methods.find? (·.name == "") = none) {b : Nat} {β : Type} {Q : Rn → Next → β → Prop} (s' : Sem β) :
    SemR0 T F N Q (do
      if (← nilAhead ((← program).types.size + Made.depth) 0 (.chan (some b)) "") != some false then
        unsupported (.noEntry "op/nilCheck.the method's receiver behind this interface value is a nil pointer, or cannot be seen to be none, and the arguments act or may panic (ledger 612)")
      pure (.value (.func (.method "") #[.iface 0 (.chan (some b))] #[])) : Sem Next) ρ s' := by
  refine .inl ?_
  show SemDead T ((nilAhead (T.P.types.size + Made.depth) 0 (.chan (some b)) "").bind _)
  cases T.P.types.size + Made.depth with
  | zero => exact trivial
  | succ n =>
    have e : SemDead T (nilAhead (n + 1) 0 (.chan (some b)) "") := by
      rw [nilAhead]
      show SemDead T ((match T.P.info? 0 with | some d => pure d | none => stuck "no such type" : Sem TypeInfo).bind _)
      cases h : T.P.info? 0 with
      | none => exact trivial
      | some i =>
        simp only [pure, Sem.bind, h0 i h]
        exact trivial
    exact e.bind
theorem rel_nilCheck (h0 : ∀ i, T.P.info? 0 = some i → i.methods.find? (·.name == "") = none) {x x' : Value} (h : RelV F ρ x x') (f f' : Value → Sem Next)
    (hf : f = fun x => match x with
      | .pointer none | .nilIface | .nilFunc => runtimePanic .nilDeref
      | .func (.method name) first captured =>
        match (first[0]? : Option Value) with
        | some .nilIface => runtimePanic .nilDeref
        | some (.iface t w) => do
          if (← nilAhead ((← program).types.size + Made.depth) t w name) != some false then
            unsupported (.noEntry "op/nilCheck.the method's receiver behind this interface value is a nil pointer, or cannot be seen to be none, and the arguments act or may panic (ledger 612)")
          pure (.value (.func (.method name) first captured))
        | _ => pure (.value (.func (.method name) first captured))
      | x => pure (.value x)) (e : f' = f) {Q : Rn → Next → Next → Prop} (hQ : ∀ ρ x x', RelV F ρ x x' → Q ρ (.value x) (.value x')) : SemRel T F N Q (f x) ρ (f' x') := by
  subst e hf
  cases h with
  | flat hf =>
    cases x <;> first
      | exact rel_runtimePanic (e := .nilDeref) trivial
      | exact fun _ => hQ _ _ _ (.flat hf)
      | exact absurd (show false = true from hf) (by simp)
      | (rename_i a; cases a <;> first | exact rel_runtimePanic (e := .nilDeref) trivial | exact fun _ => hQ _ _ _ (.flat hf))
  | tok hc ht =>
    cases x' <;> first | exact absurd (show false = true from ht) (by simp) | exact fun _ => hQ _ _ _ (.tok hc ht) | skip
    · rename_i a; cases a <;> first | exact absurd (show false = true from ht) (by simp) | exact fun _ => hQ _ _ _ (.tok hc ht)
    · rename_i fn p q; cases fn <;> first | exact absurd (show false = true from ht) (by simp) | exact fun _ => hQ _ _ _ (.tok hc ht)
  | mf hc hx hm => exact fun _ => nilAhead_dead h0 _
  | ptr ha => exact fun _ => hQ _ _ _ (.ptr ha)
  | slice ha => exact fun _ => hQ _ _ _ (.slice ha)
  | map ha => exact fun _ => hQ _ _ _ (.map ha)
  | chan ha => exact fun _ => hQ _ _ _ (.chan ha)
  | func h1 h6 h2 h3 h4 h5 => exact fun _ => hQ _ _ _ (.func h1 h6 h2 h3 h4 h5)
  | yield ha => exact fun _ => hQ _ _ _ (.yield ha)
  | seq ha => exact fun _ => hQ _ _ _ (.seq ha)
  | iface ha => exact fun _ => hQ _ _ _ (.iface ha)
  | agg h1 h2 => exact fun _ => hQ _ _ _ (.agg h1 h2)
  | tuple h1 h2 => exact fun _ => hQ _ _ _ (.tuple h1 h2)
theorem rel_panic {Q : Rn → Value → Value → Prop} {x x' : Value} (h : RelV F ρ x x') : SemRel T F N Q (Instr.panic x) ρ (Instr.panic x') := by
  cases h with
  | flat hf =>
    cases x <;> first | exact fun _ => trivial | exact absurd (show false = true from hf) (by simp) | skip
    refine SemRel.bind (Q := QEq) ?_ fun ρ₁ a b _ e => ?_
    · refine SemRel.bind (Q := QEq) (s := sys .env) (s' := sys .env) (fun _ x => rfl) fun ρ₁ a b _ e => ?_
      obtain rfl : a = b := e
      cases a <;> first | exact fun _ => trivial | skip
      exact rel_program.bind fun ρ₂ p p' _ e => by obtain ⟨rfl, rfl⟩ := e; exact fun _ => rfl
    · obtain rfl : a = b := e
      split
      · exact rel_goPanic (.flat rfl)
      · exact rel_runtimePanic (e := .panicNil) trivial
  | iface h => exact rel_goPanic (.iface h)
  | _ => exact fun _ => trivial
end

end Go.Proofs.Ytcdhmnefmbcmaaa
