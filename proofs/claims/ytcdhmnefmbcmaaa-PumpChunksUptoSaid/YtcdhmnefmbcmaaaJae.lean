/-
  The operations, side by side (second part: the instructions); no condition but what each law names.
  The operations, side by side (third part: builtins, operators, conversions); no condition but what each law names.
-/
import Derived.Test.YtcdhmnefmbcmaaaJad
namespace Go.Proofs.Ytcdhmnefmbcmaaa
open Go Go.Conc

section
variable {T : Twin} {F : Fs} {N : Nat} {ρ : Rn} {α β γ : Type}

/-! ### memory -/
theorem rel_alloc (t : TypeId) (h : zeroOk T.P t = true) : SemRel T F N (QV F) (Instr.alloc t true (.tuple #[])) ρ (Instr.alloc t true (.tuple #[])) := by
  refine (rel_zeroValue t h).bind fun ρ₁ z z' l1 e => ?_
  obtain ⟨rfl, hz⟩ := e
  exact (rel_newVar t hz).bind fun ρ₂ a a' _ ha _ => .ptr ha
theorem rel_box (t : TypeId) {x x' : Value} (h : RelV F ρ x x') : SemRel T F N (QV F) (Instr.box t x) ρ (Instr.box t x') :=
  (rel_newVar t h).bind fun _ _ _ _ ha _ => .ptr ha
theorem rel_loadAt (t : TypeId) {x x' : Value} (h : RelV F ρ x x') : SemRel T F N (QV F) (Instr.loadAt t x) ρ (Instr.loadAt t x') :=
  (rel_sureAddr h).bind fun _ _ _ _ ha => rel_loadVar t ha
theorem rel_storeAt (t : TypeId) {x x' y y' : Value} (h : RelV F ρ x x') (k : RelV F ρ y y') : SemRel T F N QEq (Instr.storeAt t x y) ρ (Instr.storeAt t x' y') :=
  (rel_sureAddr h).bind fun _ _ _ l1 ha => rel_storeVar t ha (k.mono l1)
theorem rel_fieldAt (t : TypeId) {x x' : Value} (h : RelV F ρ x x') (f : Nat) : SemRel T F N (QV F) (Instr.fieldAt t x f) ρ (Instr.fieldAt t x' f) := by
  refine (rel_underlying t).bind fun ρ₁ d d' l1 e => ?_
  obtain ⟨rfl, _⟩ := e
  cases d with
  | struct fs =>
    simp only
    cases hf : fs[f]? with
    | none => exact fun _ => trivial
    | some fd =>
      refine (rel_sureAddr (h.mono l1)).bind fun ρ₂ a a' l2 ha => ?_
      exact (rel_fieldPlace ha fd).bind fun ρ₃ b b' _ hb _ => .ptr hb
  | _ => exact fun _ => trivial
def idxBase (d : TypeDesc) (x : Value) : Sem (Option Addr × Nat × TypeId) :=
  match d, x with
  | .array len elem, x => do pure (some (← Instr.sureAddr x), len, elem)
  | .slice elem, .slice base len _ => pure (base, len, elem)
  | _, _ => stuck "indexAddr: an array's address or a slice expected"
def idxRest (t : TypeId) (k : IntKind) (i : Int) (base : Option Addr) (len : Nat) (elem : TypeId) : Sem Value := do
  let tiny := len ≤ 1 && (match ← underlying t with | .array .. => true | _ => false)
  match base with
  | some a =>
    if 0 ≤ i ∧ i < len then pure (.pointer (some (a.add (i.toNat * (← sizeOf elem)))))
    else if tiny then unsupported (.noEntry "op/indexAddr.an index out of range at an array of length 0 or 1 (ledger 616)")
    else boundsPanic k i len .index
  | none => boundsPanic k i 0 .index
theorem indexAt_eq (t : TypeId) (x ix : Value) : Instr.indexAt t x ix = (asIntOf ix >>= fun q => underlying t >>= fun d => idxBase d x >>= fun b => idxRest t q.1 q.2 b.1 b.2.1 b.2.2) := by
  unfold Instr.indexAt idxBase idxRest
  refine congrArg (Bind.bind (asIntOf ix)) (funext fun q => ?_)
  refine congrArg (Bind.bind (underlying t)) (funext fun d => ?_)
  cases d <;> cases x <;> first | rfl | (rename_i a; cases a <;> rfl)
theorem rel_indexAt (t : TypeId) {x x' i i' : Value} (h : RelV F ρ x x') (k : RelV F ρ i i') : SemRel T F N (QV F) (Instr.indexAt t x i) ρ (Instr.indexAt t x' i') := by
  rw [indexAt_eq, indexAt_eq]
  refine (rel_asIntOf k).bind fun ρ₁ n n' l1 e => ?_
  obtain rfl : n = n' := e
  obtain ⟨kd, n⟩ := n
  refine (rel_underlying t).bind fun ρ₂ d d' l2 e => ?_
  obtain ⟨rfl, _⟩ := e
  have hx := (h.mono l1).mono l2
  -- the base, the length, the element's type
  refine SemRel.bind (Q := fun (ρ : Rn) (p q : Option Addr × Nat × TypeId) => (match p.1, q.1 with | none, none => True | some a, some a' => RelA ρ a a' ∨ p.2.1 = 0 | _, _ => False) ∧ p.2 = q.2) ?_ ?_
  · cases d with
    | array len el =>
      refine SemRel.bind (rel_sureAddr hx) fun ρ₃ a a' _ ha => ?_
      exact fun _ => ⟨.inl ha, rfl⟩
    | slice el =>
      cases hx with
      | flat hf =>
        cases x <;> first | exact fun _ => trivial | skip
        rename_i a n c
        cases a <;> first | exact absurd (show false = true from hf) (by simp) | exact fun _ => ⟨trivial, rfl⟩
      | slice ha => exact fun _ => ⟨.inl ha, rfl⟩
      | emp => exact fun _ => ⟨.inr rfl, rfl⟩
      | _ => exact fun _ => trivial
    | _ => exact fun _ => trivial
  · intro ρ₃ p q l3 hpq
    obtain ⟨b, len, el⟩ := p
    obtain ⟨b', len', el'⟩ := q
    obtain ⟨hb, he⟩ := hpq
    simp only [Prod.mk.injEq] at he
    obtain ⟨rfl, rfl⟩ := he
    simp only
    unfold idxRest
    refine (rel_underlying t).bind fun ρ₄ d d' l4 e => ?_
    obtain ⟨rfl, _⟩ := e
    cases b with
    | none => cases b' with
      | none => exact rel_boundsPanic _ _ _ _
      | some _ => exact hb.elim
    | some a => cases b' with
      | none => exact hb.elim
      | some a' =>
        simp only
        by_cases hn : 0 ≤ n ∧ n < (len : Int)
        · simp only [hn, and_self, if_true]
          refine (rel_sizeOf el).bind fun ρ₅ s s' l5 e => ?_
          obtain rfl : s = s' := e
          exact fun _ => .ptr (((RelA.mono l4 (hb.resolve_right (by simp only at *; omega))).mono l5).add _)
        · simp only [hn, if_false]
          split <;> (by_cases hl : len ≤ 1 <;> simp only [hl, decide_true, decide_false, Bool.true_and, Bool.false_and, if_true, if_false, Bool.false_eq_true] <;> first | exact fun _ => trivial | exact rel_boundsPanic _ _ _ _)

/-! ### new rows -/
/-- parts of a literal -/
def QP (F : Fs) (ρ : Rn) : List (Nat × Value) → List (Nat × Value) → Prop := All2 fun p q => p.1 = q.1 ∧ RelV F ρ p.2 q.2
theorem rel_setAll {l l' : List Value} : ∀ (k off : Nat) {p p' : Array Value}, RelVs F ρ l.toArray l'.toArray → RelVs F ρ p p' →
    RelVs F ρ ((l.zipIdx k).foldl (fun cs (c, j) => cs.setIfInBounds (off + j) c) p) ((l'.zipIdx k).foldl (fun cs (c, j) => cs.setIfInBounds (off + j) c) p') := by
  induction l generalizing l' with
  | nil =>
    intro k off p p' h hp
    have : l' = [] := by have := h.1; simp at this; exact List.length_eq_zero_iff.1 this.symm
    subst this; exact hp
  | cons v l ih =>
    intro k off p p' h hp
    cases l' with
    | nil => have := h.1; simp at this
    | cons v' l' =>
      simp only [List.zipIdx_cons, List.foldl_cons]
      refine ih _ _ ⟨by have := h.1; simpa using this, fun j x x' hx hx' => h.2 (j + 1) x x' (by simpa using hx) (by simpa using hx')⟩ (hp.set (h.2 0 v v' (by simp) (by simp)) _)
theorem rel_fill (place : Nat → Option (Nat × Nat)) : ∀ {l l' : List (Nat × Value)} {p p' : Array Value}, QP F ρ l l' → RelVs F ρ p p' →
    match Instr.fill place p l, Instr.fill place p' l' with
    | some a, some b => RelVs F ρ a b
    | none, none => True
    | _, _ => False := by
  intro l
  induction l with
  | nil => intro l' p p' h hp; cases h; exact hp
  | cons x l ih =>
    intro l' p p' h hp
    cases h with
    | @cons _ y _ l' hxy hl =>
      obtain ⟨i, v⟩ := x
      obtain ⟨i', v'⟩ := y
      obtain ⟨e, hv⟩ := hxy
      simp only at e hv
      subst e
      simp only [Instr.fill]
      cases place i with
      | none => trivial
      | some q =>
        obtain ⟨off, size⟩ := q
        have hc := hv.cells
        simp only [← hc.1, ← hp.1]
        by_cases hcd : (decide (v.cells.size ≠ size) || decide (off + v.cells.size > p.size)) = true
        · simp only [hcd, if_true]
        · simp only [hcd, if_false, Bool.false_eq_true]
          rw [← Array.foldl_toList, ← Array.foldl_toList, Array.toList_zipIdx, Array.toList_zipIdx]
          exact ih hl (rel_setAll 0 off (by simpa using hc) hp)

theorem closed_cells {v : Value} (h : closed v = true) : ∀ x ∈ v.cells, flat x = true := by
  cases v with
  | agg cs => exact fun x hx => Array.all_eq_true'.1 (show cs.all flat = true from h) x hx
  | _ => intro x hx; simp [Value.cells] at hx; subst hx; exact h
theorem flat_get {p : Array Value} (h : ∀ x ∈ p, flat x = true) (i : Nat) : flat p[i]! = true := by
  rw [getElem!_def]
  cases hx : p[i]? with
  | none => rfl
  | some x => exact h x (Array.mem_of_getElem? hx)
theorem rel_zeros {p : Array Value} (h : ∀ x ∈ p, flat x = true) (n m : Nat) : RelVs F ρ ((Array.range n).map (p[· % m]!)) ((Array.range n).map (p[· % m]!)) :=
  RelVs.ofFn fun _ => .flat (flat_get h _)
def zeroCellsOk (T : Twin) (t : TypeId) : Prop := ∀ i z, T.P.info? t = some i → i.zero = some z → ∀ x ∈ z.cells, flat x = true
theorem rel_zeroCells (t : TypeId) (h : zeroOk T.P t = true) : SemRel T F N (fun _ a b => a = b ∧ ∀ x ∈ a.cells, flat x = true) (zeroValue t) ρ (zeroValue t) := (rel_typeInfo t).bind fun _ a b _ hb => by
  obtain ⟨rfl, hi⟩ := hb
  unfold zeroOk at h
  rw [hi] at h
  simp only at h
  cases hz : a.zero with
  | none => exact fun _ => trivial
  | some z =>
    rw [hz] at h
    exact fun _ => ⟨rfl, closed_cells h⟩

theorem mapM_pair (fs : Array Field) : SemRel T F N QEq (fs.mapM fun f => do pure (f.offset, ← sizeOf f.type) : Sem (Array (Nat × Nat))) ρ (fs.mapM fun f => do pure (f.offset, ← sizeOf f.type)) := by
  rw [Array.mapM_eq_mapM_toList]
  refine SemRel.bind (Q := QEq) ?_ fun _ a b _ e => by obtain rfl : a = b := e; exact fun _ => rfl
  induction fs.toList generalizing ρ with
  | nil => exact fun _ => rfl
  | cons f l ih =>
    rw [List.mapM_cons]
    refine SemRel.bind (Q := QEq) ((rel_sizeOf f.type).bind fun _ a b _ e => by obtain rfl : a = b := e; exact fun _ => rfl) fun ρ₁ a b _ e => ?_
    obtain rfl : a = b := e
    exact ih.bind fun ρ₂ a b _ e => by obtain rfl : a = b := e; exact fun _ => rfl

theorem rel_build (t : TypeId) (h : zeroOk T.P t = true) {l l' : Array (Nat × Value)} (hl : QP F ρ l.toList l'.toList) : SemRel T F N (QV F) (Instr.build t l) ρ (Instr.build t l') := by
  have mono : ∀ {ρ₁ : Rn}, ρ.le ρ₁ → QP F ρ₁ l.toList l'.toList := fun k => by
    have : ∀ {a b : List (Nat × Value)}, QP F ρ a b → QP F _ a b := fun {a b} q => by
      induction q with
      | nil => exact .nil
      | cons x _ i => exact .cons ⟨x.1, x.2.mono k⟩ i
    exact this hl
  refine (rel_zeroCells t h).bind fun ρ₁ z z' l1 e => ?_
  obtain ⟨rfl, hz⟩ := e
  refine (rel_underlying t).bind fun ρ₂ d d' l2 e => ?_
  obtain ⟨rfl, _⟩ := e
  cases d with
  | struct fs =>
    refine (mapM_pair fs).bind fun ρ₃ pl pl' l3 e => ?_
    obtain rfl : pl = pl' := e
    have := rel_fill (F := F) (ρ := ρ₃) (pl[·]?) (mono ((l1.trans l2).trans l3)) (RelVs.flats hz)
    cases h1 : Instr.fill (pl[·]?) z.cells l.toList with
    | none => exact fun _ => trivial
    | some a => cases h2 : Instr.fill (pl[·]?) z.cells l'.toList with
      | none => simp only [h1, h2] at this
      | some b => simp only [h1, h2] at this ⊢; exact fun _ => .agg this.1 this.2
  | array n el =>
    refine (rel_sizeOf el).bind fun ρ₃ s s' l3 e => ?_
    obtain rfl : s = s' := e
    have := rel_fill (F := F) (ρ := ρ₃) (fun i => some (i * s, s)) (mono ((l1.trans l2).trans l3)) (RelVs.flats hz)
    cases h1 : Instr.fill (fun i => some (i * s, s)) z.cells l.toList with
    | none => exact fun _ => trivial
    | some a => cases h2 : Instr.fill (fun i => some (i * s, s)) z.cells l'.toList with
      | none => simp only [h1, h2] at this
      | some b => simp only [h1, h2] at this ⊢; exact fun _ => .agg this.1 this.2
  | _ => exact fun _ => trivial

theorem rel_buildSlice (t : TypeId) (n : Nat) (h : ∀ el, T.P.underlying t = some (.slice el) → zeroOk T.P el = true) {l l' : Array (Nat × Value)} (hl : QP F ρ l.toList l'.toList) :
    SemRel T F N (QV F) (Instr.buildSlice t n l) ρ (Instr.buildSlice t n l') := by
  have mono : ∀ {ρ₁ : Rn}, ρ.le ρ₁ → QP F ρ₁ l.toList l'.toList := fun k => by
    have : ∀ {a b : List (Nat × Value)}, QP F ρ a b → QP F _ a b := fun {a b} q => by
      induction q with
      | nil => exact .nil
      | cons x _ i => exact .cons ⟨x.1, x.2.mono k⟩ i
    exact this hl
  refine (rel_underlying t).bind fun ρ₂ d d' l2 e => ?_
  obtain ⟨rfl, hd⟩ := e
  cases d with
  | slice el =>
    refine (rel_sizeOf el).bind fun ρ₃ s s' l3 e => ?_
    obtain rfl : s = s' := e
    by_cases hbig : n * s > 2 ^ 24
    · simp only [hbig, if_true]; exact fun _ => trivial
    simp only [hbig, if_false]
    have key : ∀ (ρ₄ : Rn) (z : Array Value), ρ₃.le ρ₄ → (∀ x ∈ z, flat x = true) →
        SemRel T F N (QV F) (do
          let some cells := Instr.fill (fun i => some (i * s, s)) ((Array.range (n * s)).map (z[· % z.size]!)) l.toList | stuck "buildSlice: a part of the wrong size"
          pure (.slice (some (← newRow el cells)) n n) : Sem Value) ρ₄ (do
          let some cells := Instr.fill (fun i => some (i * s, s)) ((Array.range (n * s)).map (z[· % z.size]!)) l'.toList | stuck "buildSlice: a part of the wrong size"
          pure (.slice (some (← newRow el cells)) n n) : Sem Value) := by
      intro ρ₄ z l4 hz
      have := rel_fill (F := F) (ρ := ρ₄) (fun i => some (i * s, s)) (mono ((l2.trans l3).trans l4)) (rel_zeros hz (n * s) z.size)
      cases h1 : Instr.fill (fun i => some (i * s, s)) ((Array.range (n * s)).map (z[· % z.size]!)) l.toList with
      | none => exact fun _ => trivial
      | some a => cases h2 : Instr.fill (fun i => some (i * s, s)) ((Array.range (n * s)).map (z[· % z.size]!)) l'.toList with
        | none => simp only [h1, h2] at this
        | some b =>
          simp only [h1, h2] at this ⊢
          exact (rel_newRow el this).bind fun _ a b _ e => fun _ => .slice e
    by_cases h0 : n * s = 0
    · simp only [h0, if_true]
      have := key ρ₃ #[] (.refl _) (by simp)
      simp only [h0] at this
      exact this
    · simp only [h0, if_false]
      refine (rel_zeroCells el (h el hd)).bind fun ρ₄ z z' l4 e => ?_
      obtain ⟨rfl, hz⟩ := e
      exact key ρ₄ _ l4 hz
  | _ => exact fun _ => trivial

theorem rel_extract {x x' : Value} (h : RelV F ρ x x') (i : Nat) : SemRel T F N (QV F) (Instr.extract x i) ρ (Instr.extract x' i) := by
  cases h with
  | flat hf => cases x <;> first | exact fun _ => trivial | exact absurd (show false = true from hf) (by simp)
  | tuple h1 h2 =>
    rename_i p p'
    simp only [Instr.extract]
    cases hv : p[i]? with
    | none => exact fun _ => trivial
    | some v =>
      obtain ⟨v', hv', hr⟩ := RelVs.get ⟨h1, h2⟩ hv
      rw [hv']
      exact fun _ => hr
  | _ => exact fun _ => trivial
theorem rel_makeInterface (t : TypeId) {x x' : Value} (h : RelV F ρ x x') : SemRel T F N (QV F) (Instr.makeInterface t x) ρ (Instr.makeInterface t x') := by
  refine (rel_underlying t).bind fun ρ₁ d d' l1 e => ?_
  obtain ⟨rfl, _⟩ := e
  cases d <;> first | exact fun _ => trivial | exact fun _ => .iface (h.mono l1)
theorem rel_makeFunc (f : FuncId) (hf : F f) (hv : F.v f) {p p' q q' : Array Value} (h : RelVs F ρ p p') (k : RelVs F ρ q q') : SemRel T F N (QV F) (Instr.makeFunc (.func f) p q) ρ (Instr.makeFunc (.func f) p' q') :=
  fun _ => .func hf hv h.1 h.2 k.1 k.2
theorem rel_makeChan (t : TypeId) {x x' : Value} (h : RelV F ρ x x') : SemRel T F N (QV F) (Instr.makeChan t x) ρ (Instr.makeChan t x') := by
  refine (rel_asInt h).bind fun ρ₁ n n' l1 e => ?_
  obtain rfl : n = n' := e
  refine (rel_underlying t).bind fun ρ₂ d d' l2 e => ?_
  obtain ⟨rfl, _⟩ := e
  cases d with
  | chan dir el =>
    refine (rel_typeInfo el).bind fun ρ₃ i i' l3 e => ?_
    obtain ⟨rfl, _⟩ := e
    by_cases hc : n < 0 ∨ n > IntKind.i64.max ∨ (i.bytes : Int) * n > 2 ^ 48 - 112
    · simp only [hc, if_true]; exact rel_runtimePanic (e := .plain _) trivial
    · simp only [hc, if_false]; exact fun _ => ⟨.chan, fun n n' _ => .chan (.inr ⟨rfl, rfl⟩)⟩
  | _ => exact fun _ => trivial

theorem rel_sliceBound {x x' : Value} (h : RelV F ρ x x') (y : Nat) (c : BoundsCode) : SemRel T F N QEq (Instr.sliceBound x y c) ρ (Instr.sliceBound x' y c) := by
  refine (rel_asIntOf h).bind fun ρ₁ n n' l1 e => ?_
  obtain rfl : n = n' := e
  obtain ⟨k, n⟩ := n
  simp only
  split
  · exact fun _ => rfl
  · exact rel_boundsPanic _ _ _ _
/-- an operand that may be left out -/
def QO (F : Fs) (ρ : Rn) (x y : Option Value) : Prop := match x, y with
  | none, none => True
  | some a, some b => RelV F ρ a b
  | _, _ => False
theorem QO.mono {ρ' : Rn} (h : ρ.le ρ') {x y : Option Value} (k : QO F ρ x y) : QO F ρ' x y := by
  cases x <;> cases y <;> first | exact k.elim | trivial | exact RelV.mono h k
theorem sliceBounds_eq (s : Bool) (n k : Nat) (lo hi mx : Option Value) : Instr.sliceBounds s n k lo hi mx =
    ((match mx with | some v => Instr.sliceBound v k (if s then .slice3Acap else .slice3Alen) | none => pure k : Sem Nat) >>= fun m =>
      (match hi, mx with | some v, some _ => Instr.sliceBound v m .slice3B | some v, none => Instr.sliceBound v m (if s then .sliceAcap else .sliceAlen) | none, none => pure n | none, some _ => stuck "Slice: max without high" : Sem Nat) >>= fun h =>
        (match lo with | some v => Instr.sliceBound v h (if mx.isSome then .slice3C else .sliceB) | none => pure 0 : Sem Nat) >>= fun l => pure (l, h, m)) := by
  cases mx <;> cases hi <;> cases lo <;> rfl
theorem rel_sliceBounds (s : Bool) (n k : Nat) {lo lo' hi hi' mx mx' : Option Value} (h1 : QO F ρ lo lo') (h2 : QO F ρ hi hi') (h3 : QO F ρ mx mx') :
    SemRel T F N QEq (Instr.sliceBounds s n k lo hi mx) ρ (Instr.sliceBounds s n k lo' hi' mx') := by
  rw [sliceBounds_eq, sliceBounds_eq]
  have hs : mx.isSome = mx'.isSome := by cases mx <;> cases mx' <;> first | rfl | exact h3.elim
  refine SemRel.bind (Q := QEq) ?_ fun ρ₁ m m' l1 e => ?_
  · cases mx <;> cases mx' <;> first | exact h3.elim | exact fun _ => rfl | exact rel_sliceBound h3 _ _
  obtain rfl : m = m' := e
  refine SemRel.bind (Q := QEq) ?_ fun ρ₂ a a' l2 e => ?_
  · have h2 := h2.mono l1
    cases hi <;> cases hi' <;> first
      | exact h2.elim
      | (cases mx <;> cases mx' <;> first | exact h3.elim | exact fun _ => rfl | exact fun _ => trivial | exact rel_sliceBound h2 _ _)
  obtain rfl : a = a' := e
  refine SemRel.bind (Q := QEq) ?_ fun ρ₃ b b' l3 e => ?_
  · have h1 := (h1.mono l1).mono l2
    rw [← hs]
    cases lo <;> cases lo' <;> first | exact h1.elim | exact fun _ => rfl | exact rel_sliceBound h1 _ _
  obtain rfl : b = b' := e
  exact fun _ => rfl
theorem rel_sliceBoundB {x x' : Value} (h : RelV F ρ x x') (y : Nat) (c : BoundsCode) : SemRel T F N (fun _ p q => p = q ∧ p ≤ y) (Instr.sliceBound x y c) ρ (Instr.sliceBound x' y c) := by
  refine (rel_asIntOf h).bind fun ρ₁ n n' l1 e => ?_
  obtain rfl : n = n' := e
  obtain ⟨k, n⟩ := n
  simp only
  split
  · exact fun _ => ⟨rfl, by omega⟩
  · exact rel_boundsPanic _ _ _ _
/-- of an empty slice nothing but an empty slice can be cut -/
theorem rel_sliceBounds0 (s : Bool) {lo lo' hi hi' mx mx' : Option Value} (h1 : QO F ρ lo lo') (h2 : QO F ρ hi hi') (h3 : QO F ρ mx mx') :
    SemRel T F N (fun _ p q => p = q ∧ p = (0, 0, 0)) (Instr.sliceBounds s 0 0 lo hi mx) ρ (Instr.sliceBounds s 0 0 lo' hi' mx') := by
  rw [sliceBounds_eq, sliceBounds_eq]
  have hs : mx.isSome = mx'.isSome := by cases mx <;> cases mx' <;> first | rfl | exact h3.elim
  refine SemRel.bind (Q := fun _ p q => p = q ∧ p ≤ 0) ?_ fun ρ₁ m m' l1 e => ?_
  · cases mx <;> cases mx' <;> first | exact h3.elim | exact fun _ => ⟨rfl, Nat.le_refl _⟩ | exact rel_sliceBoundB h3 _ _
  obtain ⟨rfl, e⟩ := e
  obtain rfl : m = 0 := Nat.le_zero.1 e
  refine SemRel.bind (Q := fun _ p q => p = q ∧ p ≤ 0) ?_ fun ρ₂ a a' l2 e => ?_
  · have h2 := h2.mono l1
    cases hi <;> cases hi' <;> first
      | exact h2.elim
      | (cases mx <;> cases mx' <;> first | exact h3.elim | exact fun _ => ⟨rfl, Nat.le_refl _⟩ | exact fun _ => trivial | exact rel_sliceBoundB h2 _ _)
  obtain ⟨rfl, e⟩ := e
  obtain rfl : a = 0 := Nat.le_zero.1 e
  refine SemRel.bind (Q := fun _ p q => p = q ∧ p ≤ 0) ?_ fun ρ₃ b b' l3 e => ?_
  · have h1 := (h1.mono l1).mono l2
    rw [← hs]
    cases lo <;> cases lo' <;> first | exact h1.elim | exact fun _ => ⟨rfl, Nat.le_refl _⟩ | exact rel_sliceBoundB h1 _ _
  obtain ⟨rfl, e⟩ := e
  obtain rfl : b = 0 := Nat.le_zero.1 e
  exact fun _ => ⟨rfl, rfl⟩
theorem rel_slice (t : TypeId) {x x' : Value} (h : RelV F ρ x x') {lo lo' hi hi' mx mx' : Option Value} (h1 : QO F ρ lo lo') (h2 : QO F ρ hi hi') (h3 : QO F ρ mx mx') :
    SemRel T F N (QV F) (Instr.slice t x lo hi mx) ρ (Instr.slice t x' lo' hi' mx') := by
  unfold Instr.slice
  refine (rel_underlying t).bind fun ρ₁ d d' l1 e => ?_
  obtain ⟨rfl, _⟩ := e
  have hx := h.mono l1
  have h1 := h1.mono l1
  have h2 := h2.mono l1
  have h3 := h3.mono l1
  cases d with
  | string =>
    cases hx with
    | flat hf =>
      cases x <;> first | exact fun _ => trivial | skip
      rename_i b
      have hs : mx.isSome = mx'.isSome := by cases mx <;> cases mx' <;> first | rfl | exact h3.elim
      simp only [← hs]
      split
      · exact fun _ => trivial
      · refine (rel_sliceBounds false _ _ h1 h2 (mx := none) (mx' := none) trivial).bind fun ρ₂ q q' _ e => ?_
        obtain rfl : q = q' := e
        exact fun _ => .flat rfl
    | _ => exact fun _ => trivial
  | slice el =>
    have key : ∀ {a a' : Option Addr} {n k : Nat}, (match a, a' with | none, none => True | some p, some q => RelA ρ₁ p q | _, _ => False) →
        SemRel T F N (QV F) (do let (l, h, m) ← Instr.sliceBounds true n k lo hi mx; let size ← sizeOf el; pure (.slice (if m = l then a else a.map (·.add (l * size))) (h - l) (m - l)) : Sem Value) ρ₁
          (do let (l, h, m) ← Instr.sliceBounds true n k lo' hi' mx'; let size ← sizeOf el; pure (.slice (if m = l then a' else a'.map (·.add (l * size))) (h - l) (m - l)) : Sem Value) := by
      intro a a' n k ha
      refine (rel_sliceBounds true _ _ h1 h2 h3).bind fun ρ₂ q q' l2 e => ?_
      obtain rfl : q = q' := e
      obtain ⟨l, hh, m⟩ := q
      refine (rel_sizeOf el).bind fun ρ₃ s s' l3 e => ?_
      obtain rfl : s = s' := e
      cases a <;> cases a' <;> first | exact ha.elim | skip
      · intro _; simp only [Option.map_none, ite_self]; exact .flat rfl
      · have ha : RelA ρ₁ _ _ := ha
        by_cases hm : m = l
        · simp only [hm, if_true]; exact fun _ => .slice ((ha.mono l2).mono l3)
        · simp only [hm, if_false, Option.map_some]; exact fun _ => .slice (((ha.mono l2).mono l3).add _)
    cases hx with
    | flat hf =>
      cases x <;> first | exact fun _ => trivial | skip
      rename_i a n k
      cases a with
      | none => exact key trivial
      | some _ => exact absurd (show false = true from hf) (by simp)
    | slice ha => exact key (a := some _) (a' := some _) ha
    | emp hc =>
      refine (rel_sliceBounds0 true h1 h2 h3).bind fun ρ₂ q q' l2 e => ?_
      obtain ⟨rfl, rfl⟩ := e
      refine (rel_sizeOf el).bind fun ρ₃ s s' l3 e => ?_
      exact fun _ => .emp (l3.c _ _ (l2.c _ _ hc))
    | _ => exact fun _ => trivial
  | pointer el =>
    refine SemRel.bind (Q := QA) (rel_asAddr hx) fun ρ₂ a a' l2 ha => ?_
    refine (rel_underlying el).bind fun ρ₃ d d' l3 e => ?_
    obtain ⟨rfl, _⟩ := e
    cases d with
    | array n elem =>
      refine (rel_sliceBounds false _ _ ((h1.mono l2).mono l3) ((h2.mono l2).mono l3) ((h3.mono l2).mono l3)).bind fun ρ₄ q q' l4 e => ?_
      obtain rfl : q = q' := e
      obtain ⟨l, hh, m⟩ := q
      refine (rel_sizeOf elem).bind fun ρ₅ s s' l5 e => ?_
      obtain rfl : s = s' := e
      have ha := ((ha.mono l3).mono l4).mono l5
      by_cases hm : m = l
      · simp only [hm, if_true]; exact fun _ => .slice ha
      · simp only [hm, if_false]; exact fun _ => .slice (ha.add _)
    | _ => exact fun _ => trivial
  | _ => exact fun _ => trivial
theorem rel_sliceAt (t : TypeId) {x x' : Value} (h : RelV F ρ x x') {lo lo' hi hi' mx mx' : Option Value} (h1 : QO F ρ lo lo') (h2 : QO F ρ hi hi') (h3 : QO F ρ mx mx') :
    SemRel T F N (QV F) (Instr.sliceAt t x lo hi mx) ρ (Instr.sliceAt t x' lo' hi' mx') := by
  unfold Instr.sliceAt
  refine (rel_underlying t).bind fun ρ₁ d d' l1 e => ?_
  obtain ⟨rfl, _⟩ := e
  cases d with
  | array n elem =>
    refine (rel_sureAddr (h.mono l1)).bind fun ρ₂ a a' l2 ha => ?_
    refine (rel_sliceBounds false _ _ ((h1.mono l1).mono l2) ((h2.mono l1).mono l2) ((h3.mono l1).mono l2)).bind fun ρ₄ q q' l4 e => ?_
    obtain rfl : q = q' := e
    obtain ⟨l, hh, m⟩ := q
    refine (rel_sizeOf elem).bind fun ρ₅ s s' l5 e => ?_
    obtain rfl : s = s' := e
    have ha := (ha.mono l4).mono l5
    by_cases hm : m = l
    · simp only [hm, if_true]; exact fun _ => .slice ha
    · simp only [hm, if_false]; exact fun _ => .slice (ha.add _)
  | _ => exact rel_slice t (h.mono l1) (h1.mono l1) (h2.mono l1) (h3.mono l1)
/-- a method that is held, and stands for another one, is not called -/
theorem nilAhead_dead (h0 : ∀ i, T.P.info? 0 = some i → i.methods.find? (·.name == "") = none) {b : Nat} {β : Type} {Q : Rn → Next → β → Prop} (s' : Sem β) :
    SemR0 T F N Q (do
      if (← nilAhead ((← program).types.size + Made.depth) 0 (.chan (some b)) "") != some false then
        unsupported (.noEntry "op/nilCheck.the method's receiver behind this interface value is a nil pointer, or cannot be seen to be none, and the arguments act or may panic (ledger 612)")
      pure (.value (.func (.method "") #[.iface 0 (.chan (some b))] #[])) : Sem Next) ρ s' := by
  refine .inl ?_
  show SemDead T ((nilAhead (T.P.types.size + Made.depth) 0 (.chan (some b)) "").bind _)
  cases T.P.types.size + Made.depth with
  | zero => exact trivial
  | succ n =>
    have e : SemDead T (nilAhead (n + 1) 0 (.chan (some b)) "") := by
      rw [nilAhead]
      show SemDead T ((match T.P.info? 0 with | some d => pure d | none => stuck "no such type" : Sem TypeInfo).bind _)
      cases h : T.P.info? 0 with
      | none => exact trivial
      | some i =>
        simp only [pure, Sem.bind, h0 i h]
        exact trivial
    exact e.bind
theorem rel_nilCheck (h0 : ∀ i, T.P.info? 0 = some i → i.methods.find? (·.name == "") = none) {x x' : Value} (h : RelV F ρ x x') (f f' : Value → Sem Next)
    (hf : f = fun x => match x with
      | .pointer none | .nilIface | .nilFunc => runtimePanic .nilDeref
      | .func (.method name) first captured =>
        match (first[0]? : Option Value) with
        | some .nilIface => runtimePanic .nilDeref
        | some (.iface t w) => do
          if (← nilAhead ((← program).types.size + Made.depth) t w name) != some false then
            unsupported (.noEntry "op/nilCheck.the method's receiver behind this interface value is a nil pointer, or cannot be seen to be none, and the arguments act or may panic (ledger 612)")
          pure (.value (.func (.method name) first captured))
        | _ => pure (.value (.func (.method name) first captured))
      | x => pure (.value x)) (e : f' = f) {Q : Rn → Next → Next → Prop} (hQ : ∀ ρ x x', RelV F ρ x x' → Q ρ (.value x) (.value x')) : SemRel T F N Q (f x) ρ (f' x') := by
  subst e hf
  cases h with
  | flat hf =>
    cases x <;> first
      | exact rel_runtimePanic (e := .nilDeref) trivial
      | exact fun _ => hQ _ _ _ (.flat hf)
      | exact absurd (show false = true from hf) (by simp)
      | (rename_i a; cases a <;> first | exact rel_runtimePanic (e := .nilDeref) trivial | exact fun _ => hQ _ _ _ (.flat hf))
  | tok hc ht =>
    cases x' <;> first | exact absurd (show false = true from ht) (by simp) | exact fun _ => hQ _ _ _ (.tok hc ht) | skip
    · rename_i a; cases a <;> first | exact absurd (show false = true from ht) (by simp) | exact fun _ => hQ _ _ _ (.tok hc ht)
    · rename_i fn p q; cases fn <;> first | exact absurd (show false = true from ht) (by simp) | exact fun _ => hQ _ _ _ (.tok hc ht)
  | mf hx hm => exact fun _ => nilAhead_dead h0 _
  | ptr ha => exact fun _ => hQ _ _ _ (.ptr ha)
  | slice ha => exact fun _ => hQ _ _ _ (.slice ha)
  | emp hc => exact fun _ => hQ _ _ _ (.emp hc)
  | map ha => exact fun _ => hQ _ _ _ (.map ha)
  | chan ha => exact fun _ => hQ _ _ _ (.chan ha)
  | func h1 h6 h2 h3 h4 h5 => exact fun _ => hQ _ _ _ (.func h1 h6 h2 h3 h4 h5)
  | yield ha => exact fun _ => hQ _ _ _ (.yield ha)
  | seq ha => exact fun _ => hQ _ _ _ (.seq ha)
  | iface ha => exact fun _ => hQ _ _ _ (.iface ha)
  | agg h1 h2 => exact fun _ => hQ _ _ _ (.agg h1 h2)
  | tuple h1 h2 => exact fun _ => hQ _ _ _ (.tuple h1 h2)
theorem rel_panic {Q : Rn → Value → Value → Prop} {x x' : Value} (h : RelV F ρ x x') : SemRel T F N Q (Instr.panic x) ρ (Instr.panic x') := by
  cases h with
  | flat hf =>
    cases x <;> first | exact fun _ => trivial | exact absurd (show false = true from hf) (by simp) | skip
    refine SemRel.bind (Q := QEq) ?_ fun ρ₁ a b _ e => ?_
    · refine SemRel.bind (Q := QEq) (s := sys .env) (s' := sys .env) (fun _ x => rfl) fun ρ₁ a b _ e => ?_
      obtain rfl : a = b := e
      cases a <;> first | exact fun _ => trivial | skip
      exact rel_program.bind fun ρ₂ p p' _ e => by obtain ⟨rfl, rfl⟩ := e; exact fun _ => rfl
    · obtain rfl : a = b := e
      split
      · exact rel_goPanic (.flat rfl)
      · exact rel_runtimePanic (e := .panicNil) trivial
  | iface h => exact rel_goPanic (.iface h)
  | _ => exact fun _ => trivial
end

end Go.Proofs.Ytcdhmnefmbcmaaa

namespace Go.Proofs.Ytcdhmnefmbcmaaa
open Go Go.Conc

section
variable {T : Twin} {F : Fs} {N : Nat} {ρ : Rn} {α β γ : Type}

theorem RelA.beq {a b a' b' : Addr} (hok : ρ.Ok N) (h : RelA ρ a a') (k : RelA ρ b b') : (a.block == b.block) = (a'.block == b'.block) := by
  rw [Bool.eq_iff_iff, beq_iff_eq, beq_iff_eq]
  constructor
  · intro e; exact hok.fn _ _ _ h.1 (e ▸ k.1)
  · intro e; exact hok.inj _ _ _ h.1 (e ▸ k.1)
theorem RelA.beq' {a b a' b' : Addr} (hok : ρ.Ok N) (h : RelA ρ a a') (k : RelA ρ b b') : (a == b) = (a' == b') := by
  rw [Bool.eq_iff_iff, beq_iff_eq, beq_iff_eq]
  obtain ⟨b1, o1, s1⟩ := a
  obtain ⟨b2, o2, s2⟩ := b
  obtain ⟨b3, o3, s3⟩ := a'
  obtain ⟨b4, o4, s4⟩ := b'
  obtain ⟨h1, h2, h3⟩ := h
  obtain ⟨k1, k2, k3⟩ := k
  simp only at h1 h2 h3 k1 k2 k3
  subst h2 h3 k2 k3
  simp only [Addr.mk.injEq]
  constructor
  · rintro ⟨rfl, rfl, rfl⟩; exact ⟨hok.fn _ _ _ h1 k1, rfl, rfl⟩
  · rintro ⟨rfl, rfl, rfl⟩; exact ⟨hok.inj _ _ _ h1 k1, rfl, rfl⟩

theorem rel_lenOf {x x' : Value} (h : RelV F ρ x x') : SemRel T F N QEq (Builtin.lenOf x) ρ (Builtin.lenOf x') := by
  cases h with
  | flat hf => cases x <;> first | exact fun _ => rfl | exact fun _ => trivial
  | slice _ => exact fun _ => rfl
  | emp => exact fun _ => rfl
  | _ => exact fun _ => trivial
/-- a slice or a string -/
def isSl : Value → Bool
  | .slice _ _ _ | .string _ => true
  | _ => false
theorem rel_lenOf' {x x' : Value} (h : RelV F ρ x x') : SemRel T F N (fun _ a b => a = b ∧ isSl x = true ∧ ∀ p, x = .slice (some p) 0 0 → a = 0) (Builtin.lenOf x) ρ (Builtin.lenOf x') := by
  by_cases he : ∃ p, x = .slice (some p) 0 0
  · obtain ⟨p, rfl⟩ := he
    cases h with
    | flat hf => exact absurd (show false = true from hf) (by simp)
    | slice _ => exact fun _ => ⟨rfl, rfl, fun _ _ => rfl⟩
    | emp => exact fun _ => ⟨rfl, rfl, fun _ _ => rfl⟩
  by_cases hs : isSl x = true
  · exact (rel_lenOf h).mono fun _ _ _ _ e => ⟨e, hs, fun p hp => absurd ⟨p, hp⟩ he⟩
  · have e : ∃ s, Builtin.lenOf x = .halt (.stuck s) := by
      cases x <;> first | exact absurd rfl hs | exact ⟨_, rfl⟩
    obtain ⟨s, e⟩ := e
    rw [e]; exact fun _ => trivial
theorem firstCells_zero (size : Nat) {x : Value} (h : isSl x = true) : Builtin.firstCells size 0 x = pure #[] := by
  cases x <;> first | exact absurd (show false = true from h) (by simp) | skip
  · unfold Builtin.firstCells; simp
  · rename_i a n c
    cases a with
    | none => rfl
    | some a => unfold Builtin.firstCells; simp only [Nat.zero_mul]; rfl
theorem isSl_rel {x x' : Value} (h : RelV F ρ x x') (hs : isSl x = true) : isSl x' = true := by
  cases h <;> first | exact hs | rfl | exact absurd (show false = true from hs) (by simp)
theorem rel_firstCells (size n : Nat) {x x' : Value} (h : RelV F ρ x x') (hn : ∀ p, x = .slice (some p) 0 0 → n = 0) : SemRel T F N (QVs F) (Builtin.firstCells size n x) ρ (Builtin.firstCells size n x') := by
  cases h with
  | flat hf =>
    cases x <;> first | exact fun _ => trivial | skip
    · rename_i s
      refine fun _ => RelVs.flats fun x hx => ?_
      obtain ⟨b, _, rfl⟩ := Array.mem_map.1 hx
      rfl
    · rename_i a n k
      cases a with
      | none => exact fun _ => RelVs.nil
      | some _ => exact absurd (show false = true from hf) (by simp)
  | slice ha => exact rel_loadCells ha _
  | emp =>
    obtain rfl := hn _ rfl
    rw [firstCells_zero size (x := .slice (some _) 0 0) rfl, firstCells_zero size (x := .slice (some _) 0 0) rfl]
    exact fun _ => RelVs.nil
  | _ => exact fun _ => trivial
theorem rel_holdsCells {a a' : Addr} (h : RelA ρ a a') (n : Nat) : SemRel T F N QEq (Builtin.holdsCells a n) ρ (Builtin.holdsCells a' n) := by
  refine (rel_shape h.1).bind fun ρ₁ x x' _ e => ?_
  obtain rfl : x = x' := e
  cases x with
  | none => exact fun _ => rfl
  | some q =>
    obtain ⟨t, m⟩ := q
    intro _
    show (a.spot.isNone && decide (a.off + n ≤ m)) = (a'.spot.isNone && decide (a'.off + n ≤ m))
    rw [h.2.1, h.2.2]
theorem rel_frozen {a a' : Addr} (h : RelA ρ a a') : SemRel T F N QEq (frozen a) ρ (frozen a') := fun _ => semR0_frozen h fun _ => rfl
/-- a base that may be nil -/
def QB (ρ : Rn) (b b' : Option Addr) : Prop := match b, b' with
  | none, none => True
  | some a, some a' => RelA ρ a a'
  | _, _ => False
theorem QB.mono {ρ' : Rn} (h : ρ.le ρ') {b b' : Option Addr} (k : QB ρ b b') : QB ρ' b b' := by
  cases b <;> cases b' <;> first | exact k.elim | trivial | exact RelA.mono h k
theorem slice_cases {s s' : Value} (h : RelV F ρ s s') : (∃ b b' n k, s = .slice b n k ∧ s' = .slice b' n k ∧ (QB ρ b b' ∨ ∃ c a, ρ.c c (.slice (some a) 0 0) ∧ n = 0 ∧ k = 0 ∧ b = some ⟨c, 0, none⟩ ∧ b' = some a)) ∨ (∀ b n k, s ≠ .slice b n k) := by
  cases h with
  | flat hf =>
    cases s with
    | slice a n k =>
      cases a with
      | none => exact .inl ⟨none, none, n, k, rfl, rfl, .inl trivial⟩
      | some _ => exact absurd (show false = true from hf) (by simp)
    | _ => exact .inr nofun
  | slice ha => exact .inl ⟨some _, some _, _, _, rfl, rfl, .inl ha⟩
  | emp hc => exact .inl ⟨some _, some _, _, _, rfl, rfl, .inr ⟨_, _, hc, rfl, rfl, rfl, rfl⟩⟩
  | _ => exact .inr nofun
theorem dead_holds {α : Type} {a : Addr} {n : Nat} {f : Bool → Sem α} (h : ∀ y, SemDead T (f y)) : SemDead T ((Builtin.holdsCells a n).bind f) := by
  intro x
  cases x with
  | none => exact h _
  | some q => exact h _
theorem dead_frozen {α : Type} {a : Addr} {f : Bool → Sem α} (h : ∀ y, SemDead T (f y)) : SemDead T ((frozen a).bind f) := fun y => h y
theorem dead_share {α : Type} (size sLen n : Nat) (b : Option Addr) (x : Value) (t : String) : SemDead T (do
    if !(← Builtin.mayShare size sLen n b x) then mark .noRoom
    unsupported (.resourceLimit t) : Sem α) := by
  have h1 : ∀ y : Bool, SemDead T (do
      if !y then mark .noRoom
      unsupported (.resourceLimit t) : Sem α) := fun y => by cases y <;> trivial
  have h2 : ∀ {f : Bool → Sem α}, (∀ y, SemDead T (f y)) → SemDead T (Sem.bind (match x with
      | .slice (some b₁) _ _ => do pure (!(← Builtin.holdsCells b₁ (n * size)) || b.any (·.block == b₁.block))
      | _ => pure false : Sem Bool) f) := fun {f} h => by
    cases x <;> first | exact h _ | skip
    rename_i a _ _
    cases a with
    | none => exact h _
    | some a =>
      intro z
      cases z <;> exact h _
  unfold Builtin.mayShare
  cases b with
  | none => exact h2 h1
  | some a =>
    intro z
    cases z with
    | none =>
      intro y
      exact h1 true
    | some q =>
      intro y
      obtain ⟨q1, q2⟩ := q
      show SemDead T (Sem.bind (if !(_ && !y) then pure true else _) _)
      by_cases hc : (!((a.spot.isNone && decide (a.off + sLen * size ≤ q2)) && !y)) = true
      · simp only [hc, if_true]; exact h1 true
      · simp only [hc, if_false, Bool.false_eq_true]; exact h2 h1
theorem QB.sl {b b' : Option Addr} (h : QB ρ b b') (n k : Nat) : RelV F ρ (.slice b n k) (.slice b' n k) := by
  cases b <;> cases b' <;> first | exact h.elim | exact .flat rfl | exact .slice h
theorem rel_append (t xt ty : TypeId) (hint : ∀ k, T.P.underlying xt ≠ some (.int k)) (hz : ∀ el, T.P.underlying t = some (.slice el) → zeroOk T.P el = true)
    {s s' x x' : Value} (hs : RelV F ρ s s') (hx : RelV F ρ x x') : SemRel T F N (QV F) (Builtin.append_ #[t, xt] ty #[s, x]) ρ (Builtin.append_ #[t, xt] ty #[s', x']) := by
  have hsl := slice_cases hs
  unfold Builtin.append_
  simp only [List.getElem?_toArray, List.getElem?_cons_zero, List.getElem?_cons_succ]
  refine (rel_underlying t).bind fun ρ₁ d d' l1 e => ?_
  obtain ⟨rfl, hd⟩ := e
  cases d with
  | slice el =>
    simp only
    rcases hsl with ⟨b, b', sLen, sCap, rfl, rfl, hb⟩ | hns
    · simp only
      refine (rel_sizeOf el).bind fun ρ₂ size size' l2 e => ?_
      obtain rfl : size = size' := e
      refine (rel_underlying xt).bind fun ρ₃ dx dx' l3 e => ?_
      obtain ⟨rfl, hdx⟩ := e
      refine SemRel.bind (Q := fun _ a b => a = false ∧ b = false) ?_ fun ρ₄ z z' l4 e => ?_
      · cases dx <;> first | exact fun _ => ⟨rfl, rfl⟩ | exact absurd hdx (hint _)
      obtain ⟨rfl, rfl⟩ := e
      simp only [Bool.false_eq_true, if_false, Bool.not_false, if_true, false_or]
      refine (rel_lenOf' ((((hx.mono l1).mono l2).mono l3).mono l4)).bind fun ρ₅ n n' l5 e => ?_
      obtain ⟨e, hsl, hn0⟩ := e
      obtain rfl : n = n' := e
      have hs5 := ((((hs.mono l1).mono l2).mono l3).mono l4).mono l5
      have hx := ((((hx.mono l1).mono l2).mono l3).mono l4).mono l5
      by_cases hn : sLen + n ≤ sCap
      · simp only [hn, if_true]
        rcases hb with hb | ⟨c0, a0, hc0, rfl, rfl, rfl, rfl⟩
        rotate_left
        · obtain rfl : n = 0 := by omega
          rw [firstCells_zero size hsl, firstCells_zero size (isSl_rel hx hsl)]
          exact fun _ => .emp (l5.c _ _ (l4.c _ _ (l3.c _ _ (l2.c _ _ (l1.c _ _ hc0)))))
        have hb := ((((hb.mono l1).mono l2).mono l3).mono l4).mono l5
        refine (rel_firstCells size n hx hn0).bind fun ρ₆ c c' l6 hc => ?_
        have hb := hb.mono l6
        cases b with
        | none => cases b' with
          | none => exact fun _ => .flat rfl
          | some _ => exact hb.elim
        | some a => cases b' with
          | none => exact hb.elim
          | some a' =>
            simp only
            have ha : RelA ρ₆ a a' := hb
            exact (rel_storeCells c.toList c'.toList 0 (ha.add _) (by simpa using hc)).bind fun ρ₇ _ _ l7 _ => fun _ => .slice (ha.mono l7)
      · simp only [hn, if_false]
        -- the last part: a new row
        have key : ∀ ρ₆, ρ₅.le ρ₆ → SemRel T F N (QV F) (do
              let newCap ← choose (.appendCap (sLen + n) sCap el)
              askRoom (newCap * (← typeInfo el).bytes)
              let old ← Builtin.firstCells size sLen (.slice b sLen sCap)
              let new ← Builtin.firstCells size n x
              let rest := Builtin.zeroCells (← zeroValue el).cells (newCap - (sLen + n))
              pure (.slice (some (← newRow el (old ++ new ++ rest))) (sLen + n) newCap) : Sem Value) ρ₆ (do
              let newCap ← choose (.appendCap (sLen + n) sCap el)
              askRoom (newCap * (← typeInfo el).bytes)
              let old ← Builtin.firstCells size sLen (.slice b' sLen sCap)
              let new ← Builtin.firstCells size n x'
              let rest := Builtin.zeroCells (← zeroValue el).cells (newCap - (sLen + n))
              pure (.slice (some (← newRow el (old ++ new ++ rest))) (sLen + n) newCap) : Sem Value) := by
          intro ρ₆ l6
          refine (rel_choose _).bind fun ρ₇ nc nc' l7 e => ?_
          obtain rfl : nc = nc' := e
          refine (rel_typeInfo el).bind fun ρ₈ i i' l8 e => ?_
          obtain ⟨rfl, _⟩ := e
          refine (rel_askRoom _).bind fun ρ₉ _ _ l9 _ => ?_
          have lt := ((l6.trans l7).trans l8).trans l9
          refine (rel_firstCells size sLen (hs5.mono lt) (fun p hp => by injection hp)).bind fun ρ₁₀ o o' l10 ho => ?_
          refine (rel_firstCells size n (hx.mono (lt.trans l10)) hn0).bind fun ρ₁₁ c c' l11 hc => ?_
          refine (rel_zeroCells el (hz el hd)).bind fun ρ₁₂ z z' l12 e => ?_
          obtain ⟨rfl, hz⟩ := e
          exact (rel_newRow el (((ho.mono (l11.trans l12)).append (hc.mono l12)).append (rel_zeros hz _ _))).bind fun _ a a' _ ha => fun _ => .slice ha
        refine (rel_typeInfo el).bind fun ρ₆ i i' l6 e => ?_
        obtain ⟨rfl, _⟩ := e
        have key2 : ∀ ρ₇, ρ₆.le ρ₇ → SemRel T F N (QV F) (do
              if Builtin.nextslicecap (sLen + n) sCap * (← typeInfo el).bytes > 2 ^ 48 then (do
                if !(← Builtin.mayShare size sLen n b x) then mark .noRoom
                unsupported (.resourceLimit "append: a slice or a string whose bytes no memory bears"))
              let newCap ← choose (.appendCap (sLen + n) sCap el)
              askRoom (newCap * (← typeInfo el).bytes)
              let old ← Builtin.firstCells size sLen (.slice b sLen sCap)
              let new ← Builtin.firstCells size n x
              let rest := Builtin.zeroCells (← zeroValue el).cells (newCap - (sLen + n))
              pure (.slice (some (← newRow el (old ++ new ++ rest))) (sLen + n) newCap) : Sem Value) ρ₇ (do
              if Builtin.nextslicecap (sLen + n) sCap * (← typeInfo el).bytes > 2 ^ 48 then (do
                if !(← Builtin.mayShare size sLen n b' x') then mark .noRoom
                unsupported (.resourceLimit "append: a slice or a string whose bytes no memory bears"))
              let newCap ← choose (.appendCap (sLen + n) sCap el)
              askRoom (newCap * (← typeInfo el).bytes)
              let old ← Builtin.firstCells size sLen (.slice b' sLen sCap)
              let new ← Builtin.firstCells size n x'
              let rest := Builtin.zeroCells (← zeroValue el).cells (newCap - (sLen + n))
              pure (.slice (some (← newRow el (old ++ new ++ rest))) (sLen + n) newCap) : Sem Value) := by
          intro ρ₇ l7
          refine (rel_typeInfo el).bind fun ρ₈ j j' l8 e => ?_
          obtain ⟨rfl, _⟩ := e
          by_cases hbig : Builtin.nextslicecap (sLen + n) sCap * j.bytes > 2 ^ 48
          · simp only [hbig, if_true]
            exact SemRel.bind (Q := fun _ _ _ => False) (rel_dead (dead_share _ _ _ _ _ _) _) fun _ _ _ _ e => e.elim
          · simp only [hbig, if_false]
            exact key ρ₈ ((l6.trans l7).trans l8)
        by_cases hov : ((sLen + n : Nat) : Int) > IntKind.i64.max ∧ i.bytes = 0
        · simp only [hov, and_self, if_true]
          exact SemRel.bind (Q := fun _ _ _ => False) (rel_runtimePanic (e := .error _) trivial) fun _ _ _ _ e => e.elim
        · simp only [hov, if_false]
          exact key2 ρ₆ (.refl _)
    · cases s <;> first | exact fun _ => trivial | exact absurd rfl (hns _ _ _)
  | _ => exact fun _ => trivial
end

end Go.Proofs.Ytcdhmnefmbcmaaa
