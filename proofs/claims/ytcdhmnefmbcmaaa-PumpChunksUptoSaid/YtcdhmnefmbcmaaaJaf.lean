/-
  The operations, side by side (fourth part: operators, conversions, lengths); no condition but what each law names.
  The operations, side by side (fifth part: binary operators, equality, conversions); no condition but what each law names.
  The operations, side by side (sixth part: guards, conversions, calls, ranges over functions); no condition but what each law names.
  The operations, side by side (seventh part: methods, calls, ranges over functions; the operation as a whole); no condition but what each law names.
-/
import Derived.Test.YtcdhmnefmbcmaaaJae
namespace Go.Proofs.Ytcdhmnefmbcmaaa
open Go Go.Conc

section
variable {T : Twin} {F : Fs} {N : Nat} {ρ : Rn} {α β γ : Type}

theorem rel_len (t ty : TypeId) (hc : ∀ d e, T.P.underlying t ≠ some (.chan d e)) {x x' : Value} (h : RelV F ρ x x') : SemRel T F N (QV F) (Builtin.len_ #[t] ty #[x]) ρ (Builtin.len_ #[t] ty #[x']) := by
  unfold Builtin.len_
  simp only [List.getElem?_toArray, List.getElem?_cons_zero]
  refine (rel_underlying t).bind fun ρ₁ d d' l1 e => ?_
  obtain ⟨rfl, hd⟩ := e
  have hx := h.mono l1
  cases d with
  | array n e => cases x <;> cases x' <;> exact fun _ => .flat rfl
  | pointer arr =>
    have : SemRel T F N (QV F) (do
        let .array n _ ← underlying arr | stuck "len: pointer to array expected"
        pure (goInt n) : Sem Value) ρ₁ (do
        let .array n _ ← underlying arr | stuck "len: pointer to array expected"
        pure (goInt n) : Sem Value) := by
      refine (rel_underlying arr).bind fun ρ₂ d d' l2 e => ?_
      obtain ⟨rfl, _⟩ := e
      cases d <;> first | exact fun _ => trivial | exact fun _ => .flat rfl
    cases x <;> cases x' <;> exact this
  | string =>
    cases hx with
    | flat hf => cases x <;> first | exact fun _ => trivial | exact fun _ => .flat rfl
    | _ => exact fun _ => trivial
  | slice el =>
    cases hx with
    | flat hf => cases x <;> first | exact fun _ => trivial | exact fun _ => .flat rfl
    | slice _ => exact fun _ => .flat rfl
    | emp _ => exact fun _ => .flat rfl
    | _ => exact fun _ => trivial
  | map k el =>
    cases hx with
    | flat hf =>
      cases x <;> first | exact fun _ => trivial | skip
      rename_i r
      cases r with
      | none => exact fun _ => .flat rfl
      | some _ => exact absurd (show false = true from hf) (by simp)
    | map hb =>
      exact fun _ => ⟨hb, fun o o' ho => by
        cases ho with
        | @map es es' k hs _ =>
          show RelV F _ (goInt es.size) (goInt es'.size)
          rw [hs]; exact .flat rfl
        | _ => exact trivial⟩
    | _ => exact fun _ => trivial
  | chan d e => exact absurd hd (hc _ _)
  | _ => cases x <;> exact fun _ => trivial

theorem rel_stringOp (op : BinOp) (x y : ByteArray) : SemRel T F N (QV F) (Op.stringOp op x y) ρ (Op.stringOp op x y) := by
  unfold Op.stringOp
  cases op <;> first | exact fun _ => .flat rfl | exact fun _ => trivial | skip
  simp only
  split
  · exact fun _ => trivial
  · exact fun _ => .flat rfl
theorem rel_flat_eq {x x' : Value} (h : RelV F ρ x x') (hf : flat x = true) : x' = x := by
  cases h <;> first | rfl | exact absurd (show false = true from hf) (by simp)
theorem rel_shift (o : BinOp) (k : IntKind) (a : Int) (k' : IntKind) (b : Int) : SemRel T F N (QV F) (Op.shift o k a k' b) ρ (Op.shift o k a k' b) := by
  unfold Op.shift
  split
  · exact rel_runtimePanic (e := .error _) trivial
  · cases o <;> first | exact fun _ => .flat rfl | exact fun _ => trivial
theorem rel_intDiv (o : BinOp) (k : IntKind) (a b : Int) : SemRel T F N (QV F) (Op.intDiv o k a b) ρ (Op.intDiv o k a b) := by
  unfold Op.intDiv
  split
  · exact rel_runtimePanic (e := .error _) trivial
  · cases o <;> first | exact fun _ => .flat rfl | exact fun _ => trivial

theorem max2_cases (x y : Value) : (∃ k a k' b, x = .int k a ∧ y = .int k' b) ∨ (∃ k a k' b, x = .float k a ∧ y = .float k' b) ∨ (∃ a b, x = .string a ∧ y = .string b) ∨
    ∃ h, Builtin.max2 x y = .halt h ∧ Halt.still h := by
  unfold Builtin.max2
  split
  · exact .inl ⟨_, _, _, _, rfl, rfl⟩
  · exact .inr (.inl ⟨_, _, _, _, rfl, rfl⟩)
  · exact .inr (.inr (.inl ⟨_, _, rfl, rfl⟩))
  · exact .inr (.inr (.inr ⟨_, rfl, trivial⟩))
  · exact .inr (.inr (.inr ⟨_, rfl, trivial⟩))
  · exact .inr (.inr (.inr ⟨_, rfl, trivial⟩))
theorem min2_cases (x y : Value) : (∃ k a k' b, x = .int k a ∧ y = .int k' b) ∨ (∃ k a k' b, x = .float k a ∧ y = .float k' b) ∨ (∃ a b, x = .string a ∧ y = .string b) ∨
    ∃ h, Builtin.min2 x y = .halt h ∧ Halt.still h := by
  unfold Builtin.min2
  split
  · exact .inl ⟨_, _, _, _, rfl, rfl⟩
  · exact .inr (.inl ⟨_, _, _, _, rfl, rfl⟩)
  · exact .inr (.inr (.inl ⟨_, _, rfl, rfl⟩))
  · exact .inr (.inr (.inr ⟨_, rfl, trivial⟩))
  · exact .inr (.inr (.inr ⟨_, rfl, trivial⟩))
  · exact .inr (.inr (.inr ⟨_, rfl, trivial⟩))
theorem rel_halt {Q : Rn → α → β → Prop} {s : Sem α} {s' : Sem β} {h : Halt} (e : s = .halt h) (k : Halt.still h) : SemRel T F N Q s ρ s' := by
  subst e
  intro _
  cases h <;> first | exact k.elim | exact k
theorem rel_max2 {x x' y y' : Value} (h : RelV F ρ x x') (k : RelV F ρ y y') : SemRel T F N (QV F) (Builtin.max2 x y) ρ (Builtin.max2 x' y') := by
  rcases max2_cases x y with ⟨k₁, a, k₂, b, rfl, rfl⟩ | ⟨k₁, a, k₂, b, rfl, rfl⟩ | ⟨a, b, rfl, rfl⟩ | ⟨hh, e, hs⟩
  · rw [rel_flat_eq h rfl, rel_flat_eq k rfl]; exact fun _ => .flat rfl
  · cases h with
    | flat hf => exact absurd (show false = true from hf) (by simp)
  · rw [rel_flat_eq h rfl, rel_flat_eq k rfl]
    simp only [Builtin.max2, Op.stringOp]
    exact fun _ => .flat rfl
  · exact rel_halt e hs
theorem rel_min2 {x x' y y' : Value} (h : RelV F ρ x x') (k : RelV F ρ y y') : SemRel T F N (QV F) (Builtin.min2 x y) ρ (Builtin.min2 x' y') := by
  rcases min2_cases x y with ⟨k₁, a, k₂, b, rfl, rfl⟩ | ⟨k₁, a, k₂, b, rfl, rfl⟩ | ⟨a, b, rfl, rfl⟩ | ⟨hh, e, hs⟩
  · rw [rel_flat_eq h rfl, rel_flat_eq k rfl]; exact fun _ => .flat rfl
  · cases h with
    | flat hf => exact absurd (show false = true from hf) (by simp)
  · rw [rel_flat_eq h rfl, rel_flat_eq k rfl]
    simp only [Builtin.min2, Op.stringOp]
    exact fun _ => .flat rfl
  · exact rel_halt e hs
theorem rel_foldlM {f f' : Value → Value → Sem Value} (hf : ∀ {ρ : Rn} {x x' y y' : Value}, RelV F ρ x x' → RelV F ρ y y' → SemRel T F N (QV F) (f x y) ρ (f' x' y')) :
    ∀ (l l' : List Value) {ρ : Rn} {x x' : Value}, RelVs F ρ l.toArray l'.toArray → RelV F ρ x x' → SemRel T F N (QV F) (l.foldlM f x) ρ (l'.foldlM f' x') := by
  intro l
  induction l with
  | nil =>
    intro l' ρ x x' h hx
    have : l' = [] := by have := h.1; simp at this; exact List.length_eq_zero_iff.1 this.symm
    subst this; exact fun _ => hx
  | cons v l ih =>
    intro l' ρ x x' h hx
    cases l' with
    | nil => have := h.1; simp at this
    | cons v' l' =>
      rw [List.foldlM_cons, List.foldlM_cons]
      refine (hf hx (h.2 0 v v' (by simp) (by simp))).bind fun ρ₁ a a' l1 ha => ih l' ⟨by have := h.1; simpa using this, fun j x x' hx hx' => ?_⟩ ha
      exact (h.2 (j + 1) x x' (by simpa using hx) (by simpa using hx')).mono l1
theorem rel_max (ts : Array TypeId) (ty : TypeId) {p p' : Array Value} (h : RelVs F ρ p p') : SemRel T F N (QV F) (Builtin.max_ ts ty p) ρ (Builtin.max_ ts ty p') := by
  obtain ⟨l⟩ := p
  obtain ⟨l'⟩ := p'
  unfold Builtin.max_
  cases l with
  | nil => exact fun _ => trivial
  | cons v l =>
    cases l' with
    | nil => have := h.1; simp at this
    | cons v' l' =>
      exact rel_foldlM (fun h k => rel_max2 h k) l l' ⟨by have := h.1; simpa using this, fun j x x' hx hx' => h.2 (j + 1) x x' (by simpa using hx) (by simpa using hx')⟩ (h.2 0 v v' (by simp) (by simp))
theorem rel_min (ts : Array TypeId) (ty : TypeId) {p p' : Array Value} (h : RelVs F ρ p p') : SemRel T F N (QV F) (Builtin.min_ ts ty p) ρ (Builtin.min_ ts ty p') := by
  obtain ⟨l⟩ := p
  obtain ⟨l'⟩ := p'
  unfold Builtin.min_
  cases l with
  | nil => exact fun _ => trivial
  | cons v l =>
    cases l' with
    | nil => have := h.1; simp at this
    | cons v' l' =>
      exact rel_foldlM (fun h k => rel_min2 h k) l l' ⟨by have := h.1; simpa using this, fun j x x' hx hx' => h.2 (j + 1) x x' (by simpa using hx) (by simpa using hx')⟩ (h.2 0 v v' (by simp) (by simp))

/-! ### addresses as numbers -/
/-- pointers, nil or not -/
def QPt (ρ : Rn) (x y : Value) : Prop := ∃ p p', x = .pointer p ∧ y = .pointer p' ∧ QB ρ p p'
theorem QPt.rel {x y : Value} (h : QPt ρ x y) : RelV F ρ x y := by
  obtain ⟨p, p', rfl, rfl, h⟩ := h
  cases p <;> cases p' <;> first | exact h.elim | exact .flat rfl | exact .ptr h
theorem cellOfByte_v (T : Twin) : ∀ (d : Nat) (t : TypeId) (off : Nat), cellOfByte T.v d t off = cellOfByte T.P d t off
  | 0, _, _ => rfl
  | d + 1, t, off => by
    have e1 : T.v.underlying t = T.P.underlying t := rfl
    have e2 : ∀ x, T.v.cellsOf x = T.P.cellsOf x := fun _ => rfl
    have e3 : ∀ x, T.v.bytesOf x = T.P.bytesOf x := fun _ => rfl
    unfold cellOfByte
    rw [e1]
    simp only [cellOfByte_v T d, e2, e3]
theorem cellAtBytes_v (T : Twin) (d : Nat) (e : TypeId) (k off : Nat) (b : Int) : cellAtBytes T.v d e k off b = cellAtBytes T.P d e k off b := by
  have e2 : ∀ x, T.v.cellsOf x = T.P.cellsOf x := fun _ => rfl
  have e3 : ∀ x, T.v.bytesOf x = T.P.bytesOf x := fun _ => rfl
  unfold cellAtBytes
  simp only [byteOfCell_v, cellOfByte_v, e2, e3]
theorem rel_unsafeAdd (t : TypeId) {x x' y y' : Value} (h : RelV F ρ x x') (k : RelV F ρ y y') : SemRel T F N QPt (Builtin.unsafeAdd_ #[] t #[x, y]) ρ (Builtin.unsafeAdd_ #[] t #[x', y']) := by
  unfold Builtin.unsafeAdd_
  have hp : (∃ b b', x = .pointer b ∧ x' = .pointer b' ∧ QB ρ b b') ∨ ∀ b, x ≠ .pointer b := by
    cases h with
    | flat hf =>
      cases x with
      | pointer a => cases a with
        | none => exact .inl ⟨none, none, rfl, rfl, trivial⟩
        | some _ => exact absurd (show false = true from hf) (by simp)
      | _ => exact .inr nofun
    | ptr ha => exact .inl ⟨some _, some _, rfl, rfl, ha⟩
    | _ => exact .inr nofun
  rcases hp with ⟨b, b', rfl, rfl, hb⟩ | hn
  · refine (rel_asInt k).bind fun ρ₁ n n' l1 e => ?_
    obtain rfl : n = n' := e
    have hb := hb.mono l1
    by_cases h0 : n = 0
    · simp only [h0, if_true]
      cases b with
      | none => exact fun _ => trivial
      | some a => cases b' with
        | none => exact hb.elim
        | some a' =>
          simp only
          have ha : RelA ρ₁ a a' := hb
          refine (rel_viewAt ha.1).bind fun ρ₂ z z' l2 e => ?_
          obtain ⟨rfl, rfl⟩ := e
          exact fun _ => ⟨some a, some a', rfl, rfl, ha.mono l2⟩
    · simp only [h0, if_false]
      by_cases hneg : n < 0
      · simp only [hneg, if_true]; exact fun _ => trivial
      · simp only [hneg, if_false]
        cases b with
        | none => exact fun _ => trivial
        | some a => cases b' with
          | none => exact hb.elim
          | some a' =>
            simp only
            have ha : RelA ρ₁ a a' := hb
            refine (rel_shape ha.1).bind fun ρ₂ z z' l2 e => ?_
            obtain rfl : z = z' := e
            cases z with
            | none => exact fun _ => trivial
            | some q =>
              obtain ⟨e, cells⟩ := q
              simp only
              refine rel_program.bind fun ρ₃ p p' l3 e => ?_
              obtain ⟨rfl, rfl⟩ := e
              rw [ha.2.1]
              have hb : cellAtBytes T.v T.v.depth e (cells / T.v.cellsOf e) a.off n = cellAtBytes T.P T.P.depth e (cells / T.P.cellsOf e) a.off n := cellAtBytes_v T _ _ _ _ _
              rw [hb]
              cases cellAtBytes T.P T.P.depth e (cells / T.P.cellsOf e) a.off n with
              | some o => exact fun _ => ⟨some _, some _, rfl, rfl, l3.r _ _ (l2.r _ _ ha.1), rfl, ha.2.2⟩
              | none => exact fun _ => trivial
  · cases x <;> first | exact fun _ => trivial | exact absurd rfl (hn _)
theorem rel_asNumber {a a' : Addr} (h : RelA ρ a a') (b : Bool) : SemRel T F N (QV F) (asNumber a b) ρ (asNumber a' b) :=
  fun _ => ⟨.number h, fun _ _ _ => .ptr ⟨.inr ⟨rfl, rfl⟩, rfl, rfl⟩⟩
theorem movedNumber_eq (t : TypeId) (x y : Value) : movedNumber t x y = (underlying t >>= fun d => (if (match d with | .unsafePointer => true | _ => false) = true then unsupported (.unsafePointer "arithmetic at a pointer's type") else pure () : Sem Unit) >>= fun _ =>
    match x with
    | .pointer (some n) => behindNumber n >>= fun q => Builtin.unsafeAdd_ #[] t #[.pointer (some q.1), y] >>= fun z => match z with
      | .pointer (some b) => asNumber b q.2
      | v => pure v
    | _ => Builtin.unsafeAdd_ #[] t #[x, y]) := by
  unfold movedNumber
  refine congrArg (Bind.bind (underlying t)) (funext fun d => ?_)
  cases d <;> rfl
theorem rel_movedNumber (t : TypeId) {x x' y y' : Value} (h : RelV F ρ x x') (k : RelV F ρ y y') : SemRel T F N (QV F) (movedNumber t x y) ρ (movedNumber t x' y') := by
  rw [movedNumber_eq, movedNumber_eq]
  refine (rel_underlying t).bind fun ρ₁ d d' l1 e => ?_
  obtain ⟨rfl, _⟩ := e
  refine SemRel.bind (Q := QEq) ?_ fun ρ₂ _ _ l2 _ => ?_
  · split
    · exact fun _ => trivial
    · exact fun _ => rfl
  have h := (h.mono l1).mono l2
  have k := (k.mono l1).mono l2
  have other : SemRel T F N (QV F) (Builtin.unsafeAdd_ #[] t #[x, y]) ρ₂ (Builtin.unsafeAdd_ #[] t #[x', y']) := (rel_unsafeAdd t h k).mono fun _ _ _ _ q => q.rel
  cases h with
  | ptr ha =>
    refine (rel_behindNumber ha).bind fun ρ₃ q q' l3 hq => ?_
    refine (rel_unsafeAdd t (.ptr hq.1) (k.mono l3)).bind fun ρ₄ z z' l4 hz => ?_
    rw [← hq.2]
    obtain ⟨p, p', rfl, rfl, hp⟩ := hz
    cases p <;> cases p' <;> first | exact hp.elim | exact fun _ => .flat rfl | exact rel_asNumber hp _
  | flat hf =>
    cases x <;> first | exact other | skip
    rename_i a
    cases a with
    | none => exact other
    | some _ => exact absurd (show false = true from hf) (by simp)
  | tok hc ht =>
    exact rel_halt (h := .stuck _) rfl trivial
  | _ => exact other
end

end Go.Proofs.Ytcdhmnefmbcmaaa

namespace Go.Proofs.Ytcdhmnefmbcmaaa
open Go Go.Conc

section
variable {T : Twin} {F : Fs} {N : Nat} {ρ : Rn} {α β γ : Type}

theorem rel_ptr_inv {p : Option Addr} {x' : Value} (h : RelV F ρ (.pointer p) x') : ∃ p', x' = .pointer p' ∧ QB ρ p p' := by
  cases h with
  | flat hf => cases p with
    | none => exact ⟨none, rfl, trivial⟩
    | some _ => exact absurd (show false = true from hf) (by simp)
  | ptr ha => exact ⟨some _, rfl, ha⟩
theorem rel_twoPlaces (hN : T.P.globals.size ≤ N) {a b a' b' : Addr} (h : RelA ρ a a') (k : RelA ρ b b') : SemRel T F N QEq (Op.twoPlaces a b) ρ (Op.twoPlaces a' b') := by
  intro hok
  revert hok
  unfold Op.twoPlaces
  refine rel_program.bind fun ρ₁ p p' l1 e => ?_
  obtain ⟨rfl, rfl⟩ := e
  have h := h.mono l1
  have k := k.mono l1
  intro hok
  revert hok
  have key : SemRel T F N QEq (do pure (← byteOf a, ← byteOf b) : Sem (Nat × Nat)) ρ₁ (do pure (← byteOf a', ← byteOf b')) := by
    refine (rel_byteOf h).bind fun ρ₂ x x' l2 e => ?_
    obtain rfl : x = x' := e
    refine (rel_byteOf (k.mono l2)).bind fun ρ₃ y y' l3 e => ?_
    obtain rfl : y = y' := e
    exact fun _ => rfl
  intro hok
  have e1 := RelA.beq hok h k
  have e2 : decide (a.block ≥ T.P.globals.size) = decide (a'.block ≥ T.P.globals.size) := by
    by_cases hlt : a.block < N ∨ a'.block < N
    · rw [hok.low _ _ h.1 hlt]
    · have h1 : a.block ≥ T.P.globals.size := by omega
      have h2 : a'.block ≥ T.P.globals.size := by omega
      simp [h1, h2]
  revert hok
  simp only [bne, e1, e2]
  by_cases hc : (!(a'.block == b'.block) || decide (a'.block ≥ T.P.globals.size)) = true
  · simp only [hc, if_true]; exact fun _ => trivial
  · simp only [hc, if_false, Bool.false_eq_true]; exact key
theorem rel_addrSub (hN : T.P.globals.size ≤ N) (kd : IntKind) {a b a' b' : Addr} (h : RelA ρ a a') (k : RelA ρ b b') : SemRel T F N (QV F) (Op.addrSub kd a b) ρ (Op.addrSub kd a' b') :=
  (rel_twoPlaces hN h k).bind fun ρ₁ q q' _ e => by obtain rfl : q = q' := e; exact fun _ => .flat rfl
theorem rel_addrCmp (hN : T.P.globals.size ≤ N) (op : BinOp) {a b a' b' : Addr} (h : RelA ρ a a') (k : RelA ρ b b') : SemRel T F N (QV F) (Op.addrCmp op a b) ρ (Op.addrCmp op a' b') :=
  (rel_twoPlaces hN h k).bind fun ρ₁ q q' _ e => by
    obtain rfl : q = q' := e
    cases op <;> first | exact fun _ => .flat rfl | exact fun _ => trivial
theorem rel_addrMod (kd : IntKind) (n : Int) {a a' : Addr} (h : RelA ρ a a') : SemRel T F N (QV F) (Op.addrMod kd a n) ρ (Op.addrMod kd a' n) := by
  unfold Op.addrMod
  refine (rel_shape h.1).bind fun ρ₁ x x' l1 e => ?_
  obtain rfl : x = x' := e
  cases x with
  | none => exact fun _ => trivial
  | some q =>
    obtain ⟨e, c⟩ := q
    simp only
    refine (rel_typeInfo e).bind fun ρ₂ i i' l2 e => ?_
    obtain ⟨rfl, _⟩ := e
    split
    · exact fun _ => trivial
    · refine (rel_byteOf ((h.mono l1).mono l2)).bind fun ρ₃ y y' l3 e => ?_
      obtain rfl : y = y' := e
      exact fun _ => .flat rfl

theorem rel_binOp (hN : T.P.globals.size ≤ N) {op : BinOp} {t : TypeId} (hq : op ≠ .eql ∧ op ≠ .neq) (ht : T.P.underlying t ≠ some .unsafePointer) {x y x' y' : Value} (h : RelV F ρ x x') (k : RelV F ρ y y') :
    SemRel T F N (QV F) (binOp op t x y) ρ (binOp op t x' y') := by
  have two : ∀ {a b a' b' : Addr} (f f' : Addr → Addr → Sem Value), RelA ρ a a' → RelA ρ b b' → (∀ {ρ₁ : Rn} {a b a' b' : Addr}, RelA ρ₁ a a' → RelA ρ₁ b b' → SemRel T F N (QV F) (f a b) ρ₁ (f' a' b')) →
      SemRel T F N (QV F) (do f (← behindNumber a).1 (← behindNumber b).1) ρ (do f' (← behindNumber a').1 (← behindNumber b').1) := by
    intro a b a' b' f f' ha hb hf
    refine (rel_behindNumber ha).bind fun ρ₁ q q' l1 e => ?_
    refine (rel_behindNumber (hb.mono l1)).bind fun ρ₂ s s' l2 e' => ?_
    exact hf (e.1.mono l2) e'.1
  have mod : ∀ {a a' : Addr} (kd : IntKind) (n : Int), RelA ρ a a' → SemRel T F N (QV F) (do Op.addrMod kd (← behindNumber a).1 n) ρ (do Op.addrMod kd (← behindNumber a').1 n) := by
    intro a a' kd n ha
    exact (rel_behindNumber ha).bind fun ρ₁ q q' l1 e => rel_addrMod kd n e.1
  unfold binOp
  split
  all_goals try (exact fun _ => trivial)
  case h_1 => rw [rel_flat_eq h rfl, rel_flat_eq k rfl]; exact rel_shift _ _ _ _ _
  case h_2 => rw [rel_flat_eq h rfl, rel_flat_eq k rfl]; exact rel_shift _ _ _ _ _
  case h_3 =>
    rw [rel_flat_eq h rfl, rel_flat_eq k rfl]
    rename_i k₁ a k₂ b n1 n2
    by_cases hk : k₁ = k₂
    · subst hk
      cases op <;> first
        | exact absurd rfl hq.1
        | exact absurd rfl hq.2
        | exact absurd rfl (n1 _ _ _ _ rfl rfl)
        | exact absurd rfl (n2 _ _ _ _ rfl rfl)
        | (simp only [ne_eq, not_true_eq_false, if_false]; first | exact rel_intDiv _ _ _ _ | exact fun _ => .flat rfl | exact fun _ => trivial)
    · simp only [ne_eq, hk, not_false_eq_true, if_true]; exact fun _ => trivial
  case h_4 => cases h with | flat hf => exact absurd (show false = true from hf) (by simp)
  case h_5 => cases h with | flat hf => exact absurd (show false = true from hf) (by simp)
  case h_6 =>
    rw [rel_flat_eq h rfl, rel_flat_eq k rfl]
    cases op <;> first | exact absurd rfl hq.1 | exact absurd rfl hq.2 | exact rel_stringOp _ _ _
  case h_7 => exact absurd rfl hq.1
  case h_8 => exact absurd rfl hq.2
  case h_9 =>
    obtain ⟨p', rfl, hp⟩ := rel_ptr_inv h
    rw [rel_flat_eq k rfl]
    refine (rel_underlying t).bind fun ρ₁ d d' l1 e => ?_
    obtain ⟨rfl, hd⟩ := e
    cases d <;> first | exact absurd hd ht | exact rel_movedNumber t (h.mono l1) (.flat rfl)
  case h_10 =>
    obtain ⟨p', rfl, hp⟩ := rel_ptr_inv k
    rw [rel_flat_eq h rfl]
    exact rel_movedNumber t k (.flat rfl)
  case h_11 =>
    obtain ⟨p', rfl, hp⟩ := rel_ptr_inv h
    rw [rel_flat_eq k rfl]
    exact rel_movedNumber t h (.flat rfl)
  case h_12 =>
    obtain ⟨p', rfl, hp⟩ := rel_ptr_inv h
    obtain ⟨q', rfl, hq⟩ := rel_ptr_inv k
    cases p' with
    | none => exact hp.elim
    | some a => cases q' with
      | none => exact hq.elim
      | some b => exact two _ _ hp hq (fun h k => rel_addrSub hN _ h k)
  case h_13 | h_14 | h_15 | h_16 =>
    obtain ⟨p', rfl, hp⟩ := rel_ptr_inv h
    obtain ⟨q', rfl, hq⟩ := rel_ptr_inv k
    cases p' with
    | none => exact hp.elim
    | some a => cases q' with
      | none => exact hq.elim
      | some b => exact two _ _ hp hq (fun h k => rel_addrCmp hN _ h k)
  case h_17 | h_18 =>
    obtain ⟨p', rfl, hp⟩ := rel_ptr_inv h
    rw [rel_flat_eq k rfl]
    cases p' with
    | none => exact hp.elim
    | some a => exact mod _ _ hp
  case h_19 =>
    obtain ⟨p', rfl, hp⟩ := rel_ptr_inv k
    rw [rel_flat_eq h rfl]
    cases p' with
    | none => exact hp.elim
    | some a => exact mod _ _ hp

/-! ### equality: of bools, integers, strings; of anything with nil -/
def plainEq (P : Program) (t : TypeId) : Bool :=
  match P.underlying t with
  | some .bool | some .string => true
  | some (.int _) => true
  | _ => false
/-- the nil of the type -/
def nilEq (P : Program) (t : TypeId) (v : Value) : Bool :=
  match P.underlying t, v with
  | some (.pointer _), .pointer none => true
  | some (.slice _), .slice none _ _ => true
  | some (.map _ _), .map none => true
  | some (.func _ _ _), .nilFunc => true
  | some (.interface _), .nilIface => true
  | _, _ => false
end
section
variable {T : Twin} {F : Fs} {N : Nat} {ρ : Rn} {α β γ : Type}

theorem nilEq_flat {t : TypeId} {y : Value} (h : nilEq T.P t y = true) : flat y = true := by
  unfold nilEq at h
  split at h <;> first | rfl | cases h
theorem rel_equal (hN : T.P.globals.size ≤ N) {t : TypeId} {x y x' y' : Value} (hp : plainEq T.P t = true ∨ nilEq T.P t y = true ∨ nilEq T.P t x = true) (h : RelV F ρ x x') (k : RelV F ρ y y') :
    SemRel T F N QEq (Op.equal t x y) ρ (Op.equal t x' y') := by
  have e0 : Op.maxDepth = 9999 + 1 := rfl
  unfold Op.equal
  rw [e0]
  unfold Op.equalIn
  refine (rel_underlying t).bind fun ρ₁ d d' l1 e => ?_
  obtain ⟨rfl, hd⟩ := e
  have h := h.mono l1
  have k := k.mono l1
  rcases hp with hp | hp | hp
  · unfold plainEq at hp
    rw [hd] at hp
    cases d <;> first | exact absurd (show false = true from hp) (by simp) | skip
    · -- bool
      cases h with
      | flat hf => cases x <;> first
          | exact fun _ => trivial
          | (cases k with
            | flat hk => cases y <;> first | exact fun _ => rfl | exact fun _ => trivial
            | _ => exact fun _ => trivial)
      | _ => exact fun _ => trivial
    · -- int
      split
      all_goals try (exact fun _ => trivial)
      all_goals try contradiction
      case h_2 =>
        rw [rel_flat_eq h rfl, rel_flat_eq k rfl]
        simp only
        split
        · exact fun _ => rfl
        · exact fun _ => trivial
      case h_3 =>
        obtain ⟨p', rfl, hp⟩ := rel_ptr_inv h
        rw [rel_flat_eq k rfl]
        cases p' with
        | none => exact hp.elim
        | some a => exact fun _ => rfl
      case h_4 =>
        obtain ⟨p', rfl, hp⟩ := rel_ptr_inv k
        rw [rel_flat_eq h rfl]
        cases p' with
        | none => exact hp.elim
        | some a => exact fun _ => rfl
      case h_5 =>
        obtain ⟨p', rfl, hp⟩ := rel_ptr_inv h
        obtain ⟨q', rfl, hq⟩ := rel_ptr_inv k
        cases p' with
        | none => exact hp.elim
        | some a' => cases q' with
          | none => exact hq.elim
          | some b' =>
            refine (rel_behindNumber hp).bind fun ρ₂ z z' l2 e => ?_
            refine (rel_behindNumber (RelA.mono l2 hq)).bind fun ρ₃ u u' l3 e' => ?_
            have ha := e.1.mono l3
            have hb := e'.1
            refine rel_program.bind fun ρ₄ p p' l4 e => ?_
            obtain ⟨rfl, rfl⟩ := e
            have ha := ha.mono l4
            have hb := hb.mono l4
            intro hok
            have e1 := RelA.beq hok ha hb
            have e2 := RelA.beq' hok ha hb
            have e3 : decide (z.1.block < T.P.globals.size) = decide (z'.1.block < T.P.globals.size) := by
              by_cases hlt : z.1.block < N ∨ z'.1.block < N
              · rw [hok.low _ _ ha.1 hlt]
              · have h1 : ¬ z.1.block < T.P.globals.size := by omega
                have h2 : ¬ z'.1.block < T.P.globals.size := by omega
                simp [h1, h2]
            revert hok
            simp only [e1, e2, e3]
            by_cases hc : (z'.1.block == u'.1.block && decide (z'.1.block < T.P.globals.size)) = true
            · simp only [hc, if_true]
              refine (rel_byteOf ha).bind fun ρ₅ x x' l5 e => ?_
              obtain rfl : x = x' := e
              refine (rel_byteOf (hb.mono l5)).bind fun ρ₆ y y' l6 e => ?_
              obtain rfl : y = y' := e
              exact fun _ => rfl
            · simp only [hc, if_false, Bool.false_eq_true]
              refine (rel_typeInfo t).bind fun ρ₅ x x' l5 e => ?_
              obtain ⟨rfl, _⟩ := e
              split
              · split
                · exact fun _ => rfl
                · exact fun _ => trivial
              · exact fun _ => trivial
    · -- string
      cases h with
      | flat hf => cases x <;> first
          | exact fun _ => trivial
          | (cases k with
            | flat hk => cases y <;> first | exact fun _ => rfl | exact fun _ => trivial
            | _ => exact fun _ => trivial)
      | _ => exact fun _ => trivial
  · -- nil on the right
    have hk : flat y = true := nilEq_flat hp
    rw [rel_flat_eq k hk]
    clear k hk
    unfold nilEq at hp
    rw [hd] at hp
    clear hd
    split at hp
    all_goals try (cases hp; done)
    all_goals
      rename_i heq
      cases heq
      clear hp
      cases h <;> first
        | exact fun _ => rfl
        | exact fun _ => trivial
        | (rename_i hm; cases x' <;> first | exact absurd (show false = true from hm) (by simp) | exact fun _ => rfl | exact fun _ => trivial)
        | (rename_i hf
           cases x <;> first | exact fun _ => rfl | exact fun _ => trivial | (rename_i a; cases a <;> first | exact fun _ => rfl | exact fun _ => trivial | exact absurd (show false = true from hf) (by simp)) | (rename_i a _ _; cases a <;> first | exact fun _ => rfl | exact fun _ => trivial | exact absurd (show false = true from hf) (by simp)))
  · -- nil on the left
    have hk : flat x = true := nilEq_flat hp
    rw [rel_flat_eq h hk]
    clear h hk
    unfold nilEq at hp
    rw [hd] at hp
    clear hd
    split at hp
    all_goals try (cases hp; done)
    all_goals
      rename_i heq
      cases heq
      clear hp
      cases k <;> first
        | exact fun _ => rfl
        | exact fun _ => trivial
        | (rename_i hm; cases y' <;> first | exact absurd (show false = true from hm) (by simp) | exact fun _ => rfl | exact fun _ => trivial)
        | (rename_i hf
           cases y <;> first | exact fun _ => rfl | exact fun _ => trivial | (rename_i a; cases a <;> first | exact fun _ => rfl | exact fun _ => trivial | exact absurd (show false = true from hf) (by simp)) | (rename_i a _ _; cases a <;> first | exact fun _ => rfl | exact fun _ => trivial | exact absurd (show false = true from hf) (by simp)))
end

end Go.Proofs.Ytcdhmnefmbcmaaa

namespace Go.Proofs.Ytcdhmnefmbcmaaa
open Go Go.Conc

section
variable {T : Twin} {F : Fs} {N : Nat} {ρ : Rn} {α β γ : Type}

theorem rel_agg_iff {x x' : Value} (h : RelV F ρ x x') : (∃ p, x = .agg p) ↔ ∃ p, x' = .agg p := by
  cases h with
  | tok _ ht =>
    constructor
    · rintro ⟨p, e⟩; cases e
    · rintro ⟨p, e⟩; subst e; cases ht
  | agg _ _ => exact ⟨fun _ => ⟨_, rfl⟩, fun _ => ⟨_, rfl⟩⟩
  | flat _ => exact Iff.rfl
  | mf _ hm =>
    constructor
    · rintro ⟨p, e⟩; cases e
    · rintro ⟨p, e⟩; subst e; cases hm
  | _ =>
    constructor
    · rintro ⟨p, e⟩; cases e
    · rintro ⟨p, e⟩; cases e
theorem rel_nil_iff {x x' : Value} (h : RelV F ρ x x') : x = .nilIface ↔ x' = .nilIface := by
  cases h with
  | tok _ ht =>
    constructor
    · intro e; cases e
    · intro e; subst e; cases ht
  | flat _ => exact Iff.rfl
  | mf _ hm =>
    constructor
    · intro e; cases e
    · intro e; subst e; cases hm
  | _ =>
    constructor
    · intro e; cases e
    · intro e; cases e
theorem rel_flat_eq' {x x' : Value} (h : RelV F ρ x x') (hf : flat x' = true) : x = x' := by
  cases h with
  | tok hc ht => cases x' <;> first | exact absurd (show false = true from ht) (by simp) | exact absurd (show false = true from hf) (by simp) | (rename_i a _ _; cases a <;> first | exact absurd (show false = true from ht) (by simp) | exact absurd (show false = true from hf) (by simp)) | (rename_i a; cases a <;> first | exact absurd (show false = true from ht) (by simp) | exact absurd (show false = true from hf) (by simp))
  | flat _ => rfl
  | mf _ hm => cases x' <;> first | exact absurd (show false = true from hm) (by simp) | exact absurd (show false = true from hf) (by simp)
  | _ => exact absurd (show false = true from hf) (by simp)
theorem eqGuardType_plain {P : Program} {t : TypeId} (hp : plainEq P t = true) : P.eqGuardType P.depth t = false := by
  have e : P.depth = (2 * (P.types.size + Made.depth) + 1) + 1 := rfl
  rw [e]
  unfold Program.eqGuardType
  unfold plainEq at hp
  cases hd : P.underlying t with
  | none => rfl
  | some d => rw [hd] at hp; cases d <;> first | rfl | exact absurd (show false = true from hp) (by simp)
theorem rel_eqGuard (op : BinOp) {t : TypeId} (o₁ o₂ : Operand) {x y x' y' : Value} (hp : (op = .eql ∨ op = .neq) → plainEq T.P t = true ∨ nilEq T.P t y = true ∨ nilEq T.P t x = true) (h : RelV F ρ x x') (k : RelV F ρ y y') :
    SemRel T F N QEq (eqGuard op t o₁ o₂ x y) ρ (eqGuard op t o₁ o₂ x' y') := by
  by_cases hq : ¬ (op = .eql ∨ op = .neq)
  · have : ∀ a b, eqGuard op t o₁ o₂ a b = pure () := fun a b => by cases op <;> first | rfl | exact absurd (.inl rfl) hq | exact absurd (.inr rfl) hq
    rw [this, this]; exact fun _ => rfl
  have hq := Classical.not_not.1 hq
  have hp := hp hq
  have e0 : eqGuard op t o₁ o₂ = eqGuard .eql t o₁ o₂ := by rcases hq with rfl | rfl <;> rfl
  rw [e0]
  by_cases h1 : x = .nilIface ∧ y = .nilIface
  · obtain ⟨rfl, rfl⟩ := h1
    rw [rel_flat_eq h rfl, rel_flat_eq k rfl]
    simp only [eqGuard, Bool.not_true, Bool.false_eq_true, if_false]
    have g : SemRel T F N QEq (Op.eqGuardIn Op.maxDepth t .nilIface .nilIface) ρ (Op.eqGuardIn Op.maxDepth t .nilIface .nilIface) := by
      have e0 : Op.maxDepth = 9999 + 1 := rfl
      rw [e0]
      unfold Op.eqGuardIn
      refine (rel_underlying t).bind fun ρ₁ d d' l1 e => ?_
      obtain ⟨rfl, _⟩ := e
      cases d <;> exact fun _ => rfl
    cases o₁ <;> cases o₂ <;> first
      | exact fun _ => rfl
      | (refine g.bind fun ρ₁ a b _ e => ?_
         obtain rfl : a = b := e
         cases a
         · exact fun _ => rfl
         · exact fun _ => trivial)
  by_cases h2 : (∃ p, x = .agg p) ∧ ∃ p, y = .agg p
  · obtain ⟨⟨p, rfl⟩, ⟨q, rfl⟩⟩ := h2
    obtain ⟨p', rfl⟩ := (rel_agg_iff h).1 ⟨_, rfl⟩
    obtain ⟨q', rfl⟩ := (rel_agg_iff k).1 ⟨_, rfl⟩
    have hp : plainEq T.P t = true := by
      rcases hp with hp | hp | hp
      · exact hp
      · exact absurd (show false = true from nilEq_flat hp) (by simp)
      · exact absurd (show false = true from nilEq_flat hp) (by simp)
    simp only [eqGuard, Bool.not_true, Bool.false_eq_true, if_false]
    refine rel_program.bind fun ρ₁ p p' l1 e => ?_
    obtain ⟨rfl, rfl⟩ := e
    refine rel_program.bind fun ρ₂ p p' l1 e => ?_
    obtain ⟨rfl, rfl⟩ := e
    have h1 : T.v.eqGuardType T.v.depth t = false := eqGuardType_plain (P := T.v) hp
    have h2 : T.P.eqGuardType T.P.depth t = false := eqGuardType_plain hp
    simp only [h1, h2, Bool.not_false, if_true]
    exact fun _ => rfl
  · have h1' : ¬ (x' = .nilIface ∧ y' = .nilIface) := fun e => h1 ⟨(rel_nil_iff h).2 e.1, (rel_nil_iff k).2 e.2⟩
    have h2' : ¬ ((∃ p, x' = .agg p) ∧ ∃ p, y' = .agg p) := fun e => h2 ⟨(rel_agg_iff h).2 e.1, (rel_agg_iff k).2 e.2⟩
    have key : ∀ a b : Value, ¬ (a = .nilIface ∧ b = .nilIface) → ¬ ((∃ p, a = .agg p) ∧ ∃ p, b = .agg p) → eqGuard .eql t o₁ o₂ a b = pure () := by
      intro a b g1 g2
      simp only [eqGuard, Bool.not_true, Bool.false_eq_true, if_false]
      split
      · exact absurd ⟨rfl, rfl⟩ g1
      · exact absurd ⟨⟨_, rfl⟩, ⟨_, rfl⟩⟩ g2
      · rfl
    rw [key _ _ h1 h2, key _ _ h1' h2']
    exact fun _ => rfl

theorem eq_dead {t : TypeId} {b : Nat} {y : Value} (hp : plainEq T.P t = true ∨ nilEq T.P t y = true ∨ nilEq T.P t (.chan (some b)) = true) : SemDead T (Op.equal t (.chan (some b)) y) := by
  have e0 : Op.maxDepth = 9999 + 1 := rfl
  unfold Op.equal
  rw [e0]
  unfold Op.equalIn
  show SemDead T ((match T.P.underlying t with | some d => pure d | none => stuck "no such type" : Sem TypeDesc).bind _)
  cases hd : T.P.underlying t with
  | none => exact trivial
  | some d =>
    rcases hp with hp | hp | hp
    · unfold plainEq at hp
      rw [hd] at hp
      cases d <;> first | exact absurd (show false = true from hp) (by simp) | exact trivial | (cases y <;> first | exact trivial | (rename_i a; cases a <;> exact trivial))
    · unfold nilEq at hp
      rw [hd] at hp
      split at hp
      all_goals try (cases hp; done)
      all_goals
        rename_i heq
        cases heq
        exact trivial
    · unfold nilEq at hp
      rw [hd] at hp
      cases d <;> exact absurd (show false = true from hp) (by simp)
theorem rel_binOpEq (hN : T.P.globals.size ≤ N) {op : BinOp} {t : TypeId} (hq : op = .eql ∨ op = .neq) {x y x' y' : Value} (hp : plainEq T.P t = true ∨ nilEq T.P t y = true ∨ nilEq T.P t x = true) (h : RelV F ρ x x') (k : RelV F ρ y y') :
    SemRel T F N (QV F) (binOp op t x y) ρ (binOp op t x' y') := by
  have heq := rel_equal hN hp h k
  have nof : ∀ {a a' : Value}, (∀ b, a ≠ .chan (some b)) → RelV F ρ a a' → (∀ k n, a' ≠ .float k n) ∧ (∀ k n m, a' ≠ .complex k n m) := by
    intro a a' hna ha
    constructor
    · rintro k n rfl
      cases ha with
      | flat hf => exact absurd (show false = true from hf) (by simp)
      | tok _ ht => exact hna _ rfl
      | mf _ hm => cases hm
    · rintro k n m rfl
      cases ha with
      | flat hf => exact absurd (show false = true from hf) (by simp)
      | tok _ ht => exact hna _ rfl
      | mf _ hm => cases hm
  have key : ∀ a b : Value, (∀ k₁ n k₂ m, ¬ (a = .int k₁ n ∧ b = .int k₂ m)) → (∀ n m, ¬ (a = .string n ∧ b = .string m)) → (∀ k n, a ≠ .float k n) → (∀ k n m, a ≠ .complex k n m) →
      binOp .eql t a b = (do pure (.bool (← Op.equal t a b))) ∧ binOp .neq t a b = (do pure (.bool (!(← Op.equal t a b)))) := by
    intro a b g1 g2 g3 g4
    constructor
    · unfold binOp
      split <;> first
        | rfl
        | (rename_i e; cases e; done)
        | exact absurd ⟨rfl, rfl⟩ (g1 _ _ _ _)
        | exact absurd rfl (g3 _ _)
        | exact absurd rfl (g4 _ _ _)
        | exact absurd ⟨rfl, rfl⟩ (g2 _ _)
        | contradiction
        | simp_all
    · unfold binOp
      split <;> first
        | rfl
        | exact absurd ⟨rfl, rfl⟩ (g1 _ _ _ _)
        | exact absurd rfl (g3 _ _)
        | exact absurd rfl (g4 _ _ _)
        | exact absurd ⟨rfl, rfl⟩ (g2 _ _)
        | contradiction
        | simp_all
  by_cases h1 : ∃ k₁ n k₂ m, x = .int k₁ n ∧ y = .int k₂ m
  · obtain ⟨k₁, a, k₂, b, rfl, rfl⟩ := h1
    rw [rel_flat_eq h rfl, rel_flat_eq k rfl]
    rcases hq with rfl | rfl
    · simp only [binOp]
      split
      · exact fun _ => trivial
      · exact fun _ => .flat rfl
    · simp only [binOp]
      split
      · exact fun _ => trivial
      · exact fun _ => .flat rfl
  by_cases h2 : ∃ n m, x = .string n ∧ y = .string m
  · obtain ⟨a, b, rfl, rfl⟩ := h2
    rw [rel_flat_eq h rfl, rel_flat_eq k rfl]
    rcases hq with rfl | rfl
    · exact fun _ => .flat rfl
    · exact fun _ => .flat rfl
  by_cases hch : ∃ b, x = .chan (some b)
  · obtain ⟨b, rfl⟩ := hch
    have e1 := key (.chan (some b)) y (fun _ _ _ _ e => by cases e.1) (fun _ _ e => by cases e.1) (fun _ _ e => by cases e) (fun _ _ _ e => by cases e)
    rcases hq with rfl | rfl
    · rw [e1.1]; exact rel_dead (eq_dead hp).bind _
    · rw [e1.2]; exact rel_dead (eq_dead hp).bind _
  have nx : (∀ k n, x ≠ .float k n) ∧ (∀ k n m, x ≠ .complex k n m) := by
    constructor
    · rintro k n rfl
      cases h with | flat hf => exact absurd (show false = true from hf) (by simp)
    · rintro k n m rfl
      cases h with | flat hf => exact absurd (show false = true from hf) (by simp)
  have e1 := key x y (fun a b c d e => h1 ⟨a, b, c, d, e⟩) (fun a b e => h2 ⟨a, b, e⟩) nx.1 nx.2
  have e2 := key x' y' (fun a b c d e => h1 ⟨a, b, c, d, by obtain ⟨rfl, rfl⟩ := e; exact ⟨rel_flat_eq' h rfl, rel_flat_eq' k rfl⟩⟩)
    (fun a b e => h2 ⟨a, b, by obtain ⟨rfl, rfl⟩ := e; exact ⟨rel_flat_eq' h rfl, rel_flat_eq' k rfl⟩⟩) (nof (fun b e => hch ⟨b, e⟩) h).1 (nof (fun b e => hch ⟨b, e⟩) h).2
  rcases hq with rfl | rfl
  · rw [e1.1, e2.1]
    exact heq.bind fun ρ₁ a b _ e => by obtain rfl : a = b := e; exact fun _ => .flat rfl
  · rw [e1.2, e2.2]
    exact heq.bind fun ρ₁ a b _ e => by obtain rfl : a = b := e; exact fun _ => .flat rfl
end

end Go.Proofs.Ytcdhmnefmbcmaaa

namespace Go.Proofs.Ytcdhmnefmbcmaaa
open Go Go.Conc

/-! ### types that are made on the way have no methods -/
theorem reckonStruct_methods {info : TypeId → Option TypeInfo} {fs : Array Field} {i : TypeInfo} (h : Made.reckonStruct info fs = some i) : i.methods = #[] := by
  unfold Made.reckonStruct at h
  simp only [Option.bind_eq_bind, Option.bind_eq_some_iff, Option.pure_def] at h
  obtain ⟨q, _, h⟩ := h
  split at h
  all_goals
    simp only [Option.some.injEq] at h
    rw [← h]
theorem reckon_methods {info : TypeId → Option TypeInfo} {d : TypeDesc} {i : TypeInfo} (h : Made.reckon info d = some i) : i.methods = #[] := by
  unfold Made.reckon at h
  cases d
  case struct fs => exact reckonStruct_methods h
  case pointer el =>
    simp only [Option.bind_eq_bind, Option.bind_eq_some_iff, Option.pure_def] at h
    obtain ⟨a, _, h⟩ := h
    split at h
    · cases h
    · split at h
      · cases h
      · simp only [Option.bind_eq_some_iff, Option.some.injEq] at h
        obtain ⟨_, _, h⟩ := h
        rw [← h]; rfl
    · simp only [Option.bind_eq_some_iff, Option.some.injEq] at h
      obtain ⟨_, _, h⟩ := h
      rw [← h]; rfl
  case slice => simp only [Option.bind_eq_bind, Option.bind_eq_some_iff, Option.pure_def, Option.some.injEq] at h; obtain ⟨_, _, _, _, h⟩ := h; rw [← h]; rfl
  case array => simp only [Option.bind_eq_bind, Option.bind_eq_some_iff, Option.pure_def, Option.some.injEq] at h; obtain ⟨_, _, _, _, h⟩ := h; rw [← h]
  case map => simp only [Option.bind_eq_bind, Option.bind_eq_some_iff, Option.pure_def, Option.some.injEq] at h; obtain ⟨_, _, _, _, _, _, _, _, h⟩ := h; rw [← h]; rfl
  case chan => simp only [Option.bind_eq_bind, Option.bind_eq_some_iff, Option.pure_def, Option.some.injEq] at h; obtain ⟨_, _, _, _, h⟩ := h; rw [← h]; rfl
  case func => simp only [Option.bind_eq_bind, Option.bind_eq_some_iff, Option.pure_def, Option.some.injEq] at h; obtain ⟨_, _, h⟩ := h; rw [← h]; rfl
  all_goals cases h
theorem made_methods {T : Tables} : ∀ {n : Nat} {t : TypeId} {i : TypeInfo}, ¬ t < T.types.size → Made.infoAt T n t = some i → i.methods = #[]
  | 0, _, _, _, h => by cases h
  | n + 1, t, i, ht, h => by
    unfold Made.infoAt at h
    rw [if_neg ht] at h
    obtain ⟨d, _, h⟩ := Option.bind_eq_some_iff.1 h
    exact reckon_methods h
theorem info_methods {T : Tables} {t : TypeId} {i : TypeInfo} (ht : ¬ t < T.types.size) (h : T.info? t = some i) : i.methods = #[] := by
  unfold Tables.info? at h
  rw [if_neg ht] at h
  exact made_methods ht h

/-- a method of that name: our own, of the type itself; a value's receiver is no pointer -/
def methOk (P : Program) (fb : Fb) (name : String) : Bool :=
  (List.range P.types.size).all fun t =>
    match P.types[t]? with
    | some i => match i.methods.find? (·.name == name) with
      | some m => m.path.isEmpty && (match m.func with | some (f, ptr) => (fb f && (fb.a f).isNone) && (ptr || !(match P.underlying t with | some (.pointer _) => true | _ => false)) | none => false)
      | none => true
    | none => true

section
variable {T : Twin} {F : Fs} {N : Nat} {ρ : Rn} {α β γ : Type}

theorem methOk_get {fb : Fb} {name : String} (h : methOk T.P fb name = true) {t : TypeId} {i : TypeInfo} {m : Method} (hi : T.P.info? t = some i) (hm : i.methods.find? (·.name == name) = some m) :
    m.path = #[] ∧ ∃ f ptr, m.func = some (f, ptr) ∧ (fb f = true ∧ fb.a f = none) ∧ (ptr = false → ∀ e, T.P.underlying t ≠ some (.pointer e)) := by
  by_cases ht : t < T.P.types.size
  · have h1 : T.P.types[t]? = some i := by
      have : T.P.info? t = T.P.types[t]? := by unfold Tables.info?; rw [if_pos ht]
      rw [← this]; exact hi
    have h2 := List.all_eq_true.1 h t (List.mem_range.2 ht)
    rw [h1] at h2
    simp only [hm, Bool.and_eq_true] at h2
    obtain ⟨hp, h3⟩ := h2
    refine ⟨by simpa [Array.isEmpty_iff] using hp, ?_⟩
    cases hf : m.func with
    | none => rw [hf] at h3; cases h3
    | some q =>
      obtain ⟨f, ptr⟩ := q
      rw [hf] at h3
      simp only [Bool.and_eq_true, Bool.or_eq_true] at h3
      refine ⟨f, ptr, rfl, ⟨h3.1.1, by simpa using h3.1.2⟩, fun e el hel => ?_⟩
      rcases h3.2 with h4 | h4
      · rw [e] at h4; cases h4
      · rw [hel] at h4; cases h4
  · have := info_methods ht hi
    rw [this] at hm
    simp at hm

theorem rel_method {fb : Fb} {name : String} (hm : methOk T.P fb name = true) : ∀ (n : Nat) (t : TypeId) {x x' : Value} {ρ : Rn}, RelV F ρ x x' →
    SemRel T F N (fun ρ a b => a.1 = b.1 ∧ (fb a.1 = true ∧ fb.a a.1 = none) ∧ RelV F ρ a.2 b.2) (method n t x name) ρ (method n t x' name)
  | 0, t, x, x', ρ, h => fun _ => trivial
  | n + 1, t, x, x', ρ, h => by
    unfold method
    refine (rel_typeInfo t).bind fun ρ₁ i i' l1 e => ?_
    obtain ⟨rfl, hi⟩ := e
    cases hf : i.methods.find? (·.name == name) with
    | none => exact fun _ => trivial
    | some m =>
      obtain ⟨hp, f, ptr, hfn, hfb, hpt⟩ := methOk_get hm hi hf
      simp only [hp]
      show SemRel T F N _ (_ : Sem (FuncId × Value)) ρ₁ (_ : Sem (FuncId × Value))
      simp only [follow, hfn, pure_bind]
      have hx := h.mono l1
      refine SemRel.bind (Q := QV F) ?_ fun ρ₂ a b l2 hab => fun _ => ⟨rfl, hfb, hab⟩
      unfold receiverAt
      refine (rel_underlying t).bind fun ρ₂ d d' l2 e => ?_
      obtain ⟨rfl, hd⟩ := e
      cases ptr with
      | true =>
        cases d <;> first | exact fun _ => trivial | exact fun _ => hx.mono l2
      | false =>
        have := hpt rfl
        cases d <;> first | exact absurd hd (this _) | exact fun _ => hx.mono l2
end

end Go.Proofs.Ytcdhmnefmbcmaaa
