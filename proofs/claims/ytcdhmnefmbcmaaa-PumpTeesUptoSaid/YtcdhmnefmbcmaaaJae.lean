/-
  The operations, side by side (third part: builtins, operators, conversions); no condition but what each law names.
  The operations, side by side (fourth part: operators, conversions, lengths); no condition but what each law names.
  The operations, side by side (fifth part: binary operators, equality, conversions); no condition but what each law names.
-/
import Derived.Test.YtcdhmnefmbcmaaaJad
namespace Go.Proofs.Ytcdhmnefmbcmaaa
open Go Go.Conc

section
variable {T : Twin} {F : Fs} {N : Nat} {ρ : Rn} {α β γ : Type}

theorem RelA.beq {a b a' b' : Addr} (hok : ρ.Ok N) (h : RelA ρ a a') (k : RelA ρ b b') : (a.block == b.block) = (a'.block == b'.block) := by
  rw [Bool.eq_iff_iff, beq_iff_eq, beq_iff_eq]
  constructor
  · intro e; exact hok.fn _ _ _ h.1 (e ▸ k.1)
  · intro e; exact hok.inj _ _ _ h.1 (e ▸ k.1)
theorem RelA.beq' {a b a' b' : Addr} (hok : ρ.Ok N) (h : RelA ρ a a') (k : RelA ρ b b') : (a == b) = (a' == b') := by
  rw [Bool.eq_iff_iff, beq_iff_eq, beq_iff_eq]
  obtain ⟨b1, o1, s1⟩ := a
  obtain ⟨b2, o2, s2⟩ := b
  obtain ⟨b3, o3, s3⟩ := a'
  obtain ⟨b4, o4, s4⟩ := b'
  obtain ⟨h1, h2, h3⟩ := h
  obtain ⟨k1, k2, k3⟩ := k
  simp only at h1 h2 h3 k1 k2 k3
  subst h2 h3 k2 k3
  simp only [Addr.mk.injEq]
  constructor
  · rintro ⟨rfl, rfl, rfl⟩; exact ⟨hok.fn _ _ _ h1 k1, rfl, rfl⟩
  · rintro ⟨rfl, rfl, rfl⟩; exact ⟨hok.inj _ _ _ h1 k1, rfl, rfl⟩

theorem rel_lenOf {x x' : Value} (h : RelV F ρ x x') : SemRel T F N QEq (Builtin.lenOf x) ρ (Builtin.lenOf x') := by
  cases h with
  | flat hf => cases x <;> first | exact fun _ => rfl | exact fun _ => trivial
  | slice _ => exact fun _ => rfl
  | _ => exact fun _ => trivial
/-- a slice or a string -/
def isSl : Value → Bool
  | .slice _ _ _ | .string _ => true
  | _ => false
theorem rel_lenOf' {x x' : Value} (h : RelV F ρ x x') : SemRel T F N (fun _ a b => a = b ∧ isSl x = true) (Builtin.lenOf x) ρ (Builtin.lenOf x') := by
  by_cases hs : isSl x = true
  · exact (rel_lenOf h).mono fun _ _ _ _ e => ⟨e, hs⟩
  · have e : ∃ s, Builtin.lenOf x = .halt (.stuck s) := by
      cases x <;> first | exact absurd rfl hs | exact ⟨_, rfl⟩
    obtain ⟨s, e⟩ := e
    rw [e]; exact fun _ => trivial
theorem rel_firstCells (size n : Nat) {x x' : Value} (h : RelV F ρ x x') : SemRel T F N (QVs F) (Builtin.firstCells size n x) ρ (Builtin.firstCells size n x') := by
  cases h with
  | flat hf =>
    cases x <;> first | exact fun _ => trivial | skip
    · rename_i s
      refine fun _ => RelVs.flats fun x hx => ?_
      obtain ⟨b, _, rfl⟩ := Array.mem_map.1 hx
      rfl
    · rename_i a n k
      cases a with
      | none => exact fun _ => RelVs.nil
      | some _ => exact absurd (show false = true from hf) (by simp)
  | slice ha => exact rel_loadCells ha _
  | _ => exact fun _ => trivial
theorem rel_holdsCells {a a' : Addr} (h : RelA ρ a a') (n : Nat) : SemRel T F N QEq (Builtin.holdsCells a n) ρ (Builtin.holdsCells a' n) := by
  refine (rel_shape h.1).bind fun ρ₁ x x' _ e => ?_
  obtain rfl : x = x' := e
  cases x with
  | none => exact fun _ => rfl
  | some q =>
    obtain ⟨t, m⟩ := q
    intro _
    show (a.spot.isNone && decide (a.off + n ≤ m)) = (a'.spot.isNone && decide (a'.off + n ≤ m))
    rw [h.2.1, h.2.2]
theorem rel_frozen {a a' : Addr} (h : RelA ρ a a') : SemRel T F N QEq (frozen a) ρ (frozen a') := fun _ => ⟨h, fun _ => rfl⟩
/-- a base that may be nil -/
def QB (ρ : Rn) (b b' : Option Addr) : Prop := match b, b' with
  | none, none => True
  | some a, some a' => RelA ρ a a'
  | _, _ => False
theorem QB.mono {ρ' : Rn} (h : ρ.le ρ') {b b' : Option Addr} (k : QB ρ b b') : QB ρ' b b' := by
  cases b <;> cases b' <;> first | exact k.elim | trivial | exact RelA.mono h k
theorem rel_mayShare (size sLen n : Nat) {b b' : Option Addr} (hb : QB ρ b b') {x x' : Value} (hsl : isSl x = true) (h : RelV F ρ x x') : SemRel T F N QEq (Builtin.mayShare size sLen n b x) ρ (Builtin.mayShare size sLen n b' x') := by
  intro hok
  revert hok
  have key : ∀ (ρ₁ : Rn), ρ.le ρ₁ → SemRel T F N QEq (match (generalizing := false) x with | .slice (some b₁) _ _ => do pure (!(← Builtin.holdsCells b₁ (n * size)) || b.any (·.block == b₁.block)) | _ => pure false : Sem Bool) ρ₁
      (match (generalizing := false) x' with | .slice (some b₁) _ _ => do pure (!(← Builtin.holdsCells b₁ (n * size)) || b'.any (·.block == b₁.block)) | _ => pure false : Sem Bool) := by
    intro ρ₁ l1
    cases h.mono l1 with
    | flat hf =>
      cases x <;> first | exact fun _ => rfl | skip
      rename_i a _ _
      cases a with
      | none => exact fun _ => rfl
      | some _ => exact absurd (show false = true from hf) (by simp)
    | tok hc ht => exact absurd (show false = true from hsl) (by simp)
    | mf hc hx hm => exact absurd (show false = true from hsl) (by simp)
    | slice ha =>
      intro hok
      refine (rel_holdsCells ha _).bind (fun ρ₂ y y' l2 e => ?_) hok
      obtain rfl : y = y' := e
      refine fun _ => ?_
      show _ = _
      cases b <;> cases b' <;> first | exact hb.elim | rfl | skip
      have hb := RelA.mono l1 hb
      simp only [Option.any_some, RelA.beq hok hb ha]
    | _ => exact fun _ => rfl
  unfold Builtin.mayShare
  cases b with
  | none => cases b' with
    | none => exact key ρ (.refl _)
    | some _ => exact hb.elim
  | some a => cases b' with
    | none => exact hb.elim
    | some a' =>
      simp only
      have hb : RelA ρ a a' := hb
      refine (rel_holdsCells hb _).bind fun ρ₁ y y' l1 e => ?_
      obtain rfl : y = y' := e
      refine (rel_frozen ((hb.mono l1).add _)).bind fun ρ₂ z z' l2 e => ?_
      obtain rfl : z = z' := e
      cases hy : (y && !z) with
      | true => exact key ρ₂ (l1.trans l2)
      | false => exact fun _ => rfl

theorem slice_cases {s s' : Value} (h : RelV F ρ s s') : (∃ b b' n k, s = .slice b n k ∧ s' = .slice b' n k ∧ QB ρ b b') ∨ (∀ b n k, s ≠ .slice b n k) := by
  cases h with
  | flat hf =>
    cases s with
    | slice a n k =>
      cases a with
      | none => exact .inl ⟨none, none, n, k, rfl, rfl, trivial⟩
      | some _ => exact absurd (show false = true from hf) (by simp)
    | _ => exact .inr nofun
  | slice ha => exact .inl ⟨some _, some _, _, _, rfl, rfl, ha⟩
  | _ => exact .inr nofun
theorem QB.sl {b b' : Option Addr} (h : QB ρ b b') (n k : Nat) : RelV F ρ (.slice b n k) (.slice b' n k) := by
  cases b <;> cases b' <;> first | exact h.elim | exact .flat rfl | exact .slice h
theorem rel_append (t xt ty : TypeId) (hint : ∀ k, T.P.underlying xt ≠ some (.int k)) (hz : ∀ el, T.P.underlying t = some (.slice el) → zeroOk T.P el = true)
    {s s' x x' : Value} (hs : RelV F ρ s s') (hx : RelV F ρ x x') : SemRel T F N (QV F) (Builtin.append_ #[t, xt] ty #[s, x]) ρ (Builtin.append_ #[t, xt] ty #[s', x']) := by
  have hsl := slice_cases hs
  unfold Builtin.append_
  simp only [List.getElem?_toArray, List.getElem?_cons_zero, List.getElem?_cons_succ]
  refine (rel_underlying t).bind fun ρ₁ d d' l1 e => ?_
  obtain ⟨rfl, hd⟩ := e
  cases d with
  | slice el =>
    simp only
    rcases hsl with ⟨b, b', sLen, sCap, rfl, rfl, hb⟩ | hns
    · simp only
      refine (rel_sizeOf el).bind fun ρ₂ size size' l2 e => ?_
      obtain rfl : size = size' := e
      refine (rel_underlying xt).bind fun ρ₃ dx dx' l3 e => ?_
      obtain ⟨rfl, hdx⟩ := e
      refine SemRel.bind (Q := fun _ a b => a = false ∧ b = false) ?_ fun ρ₄ z z' l4 e => ?_
      · cases dx <;> first | exact fun _ => ⟨rfl, rfl⟩ | exact absurd hdx (hint _)
      obtain ⟨rfl, rfl⟩ := e
      simp only [Bool.false_eq_true, if_false, Bool.not_false, if_true, false_or]
      refine (rel_lenOf' ((((hx.mono l1).mono l2).mono l3).mono l4)).bind fun ρ₅ n n' l5 e => ?_
      obtain ⟨e, hsl⟩ := e
      obtain rfl : n = n' := e
      have hx := ((((hx.mono l1).mono l2).mono l3).mono l4).mono l5
      have hb := ((((hb.mono l1).mono l2).mono l3).mono l4).mono l5
      by_cases hn : sLen + n ≤ sCap
      · simp only [hn, if_true]
        refine (rel_firstCells size n hx).bind fun ρ₆ c c' l6 hc => ?_
        have hb := hb.mono l6
        cases b with
        | none => cases b' with
          | none => exact fun _ => .flat rfl
          | some _ => exact hb.elim
        | some a => cases b' with
          | none => exact hb.elim
          | some a' =>
            simp only
            have ha : RelA ρ₆ a a' := hb
            exact (rel_storeCells c.toList c'.toList 0 (ha.add _) (by simpa using hc)).bind fun ρ₇ _ _ l7 _ => fun _ => .slice (ha.mono l7)
      · simp only [hn, if_false]
        -- the last part: a new row
        have key : ∀ ρ₆, ρ₅.le ρ₆ → SemRel T F N (QV F) (do
              let newCap ← choose (.appendCap (sLen + n) sCap el)
              askRoom (newCap * (← typeInfo el).bytes)
              let old ← Builtin.firstCells size sLen (.slice b sLen sCap)
              let new ← Builtin.firstCells size n x
              let rest := Builtin.zeroCells (← zeroValue el).cells (newCap - (sLen + n))
              pure (.slice (some (← newRow el (old ++ new ++ rest))) (sLen + n) newCap) : Sem Value) ρ₆ (do
              let newCap ← choose (.appendCap (sLen + n) sCap el)
              askRoom (newCap * (← typeInfo el).bytes)
              let old ← Builtin.firstCells size sLen (.slice b' sLen sCap)
              let new ← Builtin.firstCells size n x'
              let rest := Builtin.zeroCells (← zeroValue el).cells (newCap - (sLen + n))
              pure (.slice (some (← newRow el (old ++ new ++ rest))) (sLen + n) newCap) : Sem Value) := by
          intro ρ₆ l6
          refine (rel_choose _).bind fun ρ₇ nc nc' l7 e => ?_
          obtain rfl : nc = nc' := e
          refine (rel_typeInfo el).bind fun ρ₈ i i' l8 e => ?_
          obtain ⟨rfl, _⟩ := e
          refine (rel_askRoom _).bind fun ρ₉ _ _ l9 _ => ?_
          have lt := ((l6.trans l7).trans l8).trans l9
          refine (rel_firstCells size sLen ((hb.sl sLen sCap).mono lt)).bind fun ρ₁₀ o o' l10 ho => ?_
          refine (rel_firstCells size n (hx.mono (lt.trans l10))).bind fun ρ₁₁ c c' l11 hc => ?_
          refine (rel_zeroCells el (hz el hd)).bind fun ρ₁₂ z z' l12 e => ?_
          obtain ⟨rfl, hz⟩ := e
          exact (rel_newRow el (((ho.mono (l11.trans l12)).append (hc.mono l12)).append (rel_zeros hz _ _))).bind fun _ a a' _ ha => fun _ => .slice ha
        refine (rel_typeInfo el).bind fun ρ₆ i i' l6 e => ?_
        obtain ⟨rfl, _⟩ := e
        have key2 : ∀ ρ₇, ρ₆.le ρ₇ → SemRel T F N (QV F) (do
              if Builtin.nextslicecap (sLen + n) sCap * (← typeInfo el).bytes > 2 ^ 48 then (do
                if !(← Builtin.mayShare size sLen n b x) then mark .noRoom
                unsupported (.resourceLimit "append: a slice or a string whose bytes no memory bears"))
              let newCap ← choose (.appendCap (sLen + n) sCap el)
              askRoom (newCap * (← typeInfo el).bytes)
              let old ← Builtin.firstCells size sLen (.slice b sLen sCap)
              let new ← Builtin.firstCells size n x
              let rest := Builtin.zeroCells (← zeroValue el).cells (newCap - (sLen + n))
              pure (.slice (some (← newRow el (old ++ new ++ rest))) (sLen + n) newCap) : Sem Value) ρ₇ (do
              if Builtin.nextslicecap (sLen + n) sCap * (← typeInfo el).bytes > 2 ^ 48 then (do
                if !(← Builtin.mayShare size sLen n b' x') then mark .noRoom
                unsupported (.resourceLimit "append: a slice or a string whose bytes no memory bears"))
              let newCap ← choose (.appendCap (sLen + n) sCap el)
              askRoom (newCap * (← typeInfo el).bytes)
              let old ← Builtin.firstCells size sLen (.slice b' sLen sCap)
              let new ← Builtin.firstCells size n x'
              let rest := Builtin.zeroCells (← zeroValue el).cells (newCap - (sLen + n))
              pure (.slice (some (← newRow el (old ++ new ++ rest))) (sLen + n) newCap) : Sem Value) := by
          intro ρ₇ l7
          refine (rel_typeInfo el).bind fun ρ₈ j j' l8 e => ?_
          obtain ⟨rfl, _⟩ := e
          by_cases hbig : Builtin.nextslicecap (sLen + n) sCap * j.bytes > 2 ^ 48
          · simp only [hbig, if_true]
            refine SemRel.bind (Q := fun _ _ _ => False) ?_ fun _ _ _ _ e => e.elim
            have lt := (l6.trans l7).trans l8
            refine (rel_mayShare size sLen n (hb.mono lt) hsl (hx.mono lt)).bind fun ρ₉ y y' l9 e => ?_
            obtain rfl : y = y' := e
            cases y with
            | true => exact fun _ => trivial
            | false => exact fun _ => ⟨rfl, trivial, trivial⟩
          · simp only [hbig, if_false]
            exact key ρ₈ ((l6.trans l7).trans l8)
        by_cases hov : ((sLen + n : Nat) : Int) > IntKind.i64.max ∧ i.bytes = 0
        · simp only [hov, and_self, if_true]
          exact SemRel.bind (Q := fun _ _ _ => False) (rel_runtimePanic (e := .error _) trivial) fun _ _ _ _ e => e.elim
        · simp only [hov, if_false]
          exact key2 ρ₆ (.refl _)
    · cases s <;> first | exact fun _ => trivial | exact absurd rfl (hns _ _ _)
  | _ => exact fun _ => trivial
end

end Go.Proofs.Ytcdhmnefmbcmaaa

namespace Go.Proofs.Ytcdhmnefmbcmaaa
open Go Go.Conc

section
variable {T : Twin} {F : Fs} {N : Nat} {ρ : Rn} {α β γ : Type}

theorem rel_len (t ty : TypeId) (hc : ∀ d e, T.P.underlying t ≠ some (.chan d e)) {x x' : Value} (h : RelV F ρ x x') : SemRel T F N (QV F) (Builtin.len_ #[t] ty #[x]) ρ (Builtin.len_ #[t] ty #[x']) := by
  unfold Builtin.len_
  simp only [List.getElem?_toArray, List.getElem?_cons_zero]
  refine (rel_underlying t).bind fun ρ₁ d d' l1 e => ?_
  obtain ⟨rfl, hd⟩ := e
  have hx := h.mono l1
  cases d with
  | array n e => cases x <;> cases x' <;> exact fun _ => .flat rfl
  | pointer arr =>
    have : SemRel T F N (QV F) (do
        let .array n _ ← underlying arr | stuck "len: pointer to array expected"
        pure (goInt n) : Sem Value) ρ₁ (do
        let .array n _ ← underlying arr | stuck "len: pointer to array expected"
        pure (goInt n) : Sem Value) := by
      refine (rel_underlying arr).bind fun ρ₂ d d' l2 e => ?_
      obtain ⟨rfl, _⟩ := e
      cases d <;> first | exact fun _ => trivial | exact fun _ => .flat rfl
    cases x <;> cases x' <;> exact this
  | string =>
    cases hx with
    | flat hf => cases x <;> first | exact fun _ => trivial | exact fun _ => .flat rfl
    | _ => exact fun _ => trivial
  | slice el =>
    cases hx with
    | flat hf => cases x <;> first | exact fun _ => trivial | exact fun _ => .flat rfl
    | slice _ => exact fun _ => .flat rfl
    | _ => exact fun _ => trivial
  | map k el =>
    cases hx with
    | flat hf =>
      cases x <;> first | exact fun _ => trivial | skip
      rename_i r
      cases r with
      | none => exact fun _ => .flat rfl
      | some _ => exact absurd (show false = true from hf) (by simp)
    | map hb =>
      exact fun _ => ⟨hb, fun o o' ho => by
        cases ho with
        | @map es es' k hs _ =>
          show RelV F _ (goInt es.size) (goInt es'.size)
          rw [hs]; exact .flat rfl
        | _ => exact trivial⟩
    | _ => exact fun _ => trivial
  | chan d e => exact absurd hd (hc _ _)
  | _ => cases x <;> exact fun _ => trivial

theorem rel_stringOp (op : BinOp) (x y : ByteArray) : SemRel T F N (QV F) (Op.stringOp op x y) ρ (Op.stringOp op x y) := by
  unfold Op.stringOp
  cases op <;> first | exact fun _ => .flat rfl | exact fun _ => trivial | skip
  simp only
  split
  · exact fun _ => trivial
  · exact fun _ => .flat rfl
theorem rel_flat_eq {x x' : Value} (h : RelV F ρ x x') (hf : flat x = true) : x' = x := by
  cases h <;> first | rfl | exact absurd (show false = true from hf) (by simp)
theorem rel_shift (o : BinOp) (k : IntKind) (a : Int) (k' : IntKind) (b : Int) : SemRel T F N (QV F) (Op.shift o k a k' b) ρ (Op.shift o k a k' b) := by
  unfold Op.shift
  split
  · exact rel_runtimePanic (e := .error _) trivial
  · cases o <;> first | exact fun _ => .flat rfl | exact fun _ => trivial
theorem rel_intDiv (o : BinOp) (k : IntKind) (a b : Int) : SemRel T F N (QV F) (Op.intDiv o k a b) ρ (Op.intDiv o k a b) := by
  unfold Op.intDiv
  split
  · exact rel_runtimePanic (e := .error _) trivial
  · cases o <;> first | exact fun _ => .flat rfl | exact fun _ => trivial

theorem max2_cases (x y : Value) : (∃ k a k' b, x = .int k a ∧ y = .int k' b) ∨ (∃ k a k' b, x = .float k a ∧ y = .float k' b) ∨ (∃ a b, x = .string a ∧ y = .string b) ∨
    ∃ h, Builtin.max2 x y = .halt h ∧ Halt.still h := by
  unfold Builtin.max2
  split
  · exact .inl ⟨_, _, _, _, rfl, rfl⟩
  · exact .inr (.inl ⟨_, _, _, _, rfl, rfl⟩)
  · exact .inr (.inr (.inl ⟨_, _, rfl, rfl⟩))
  · exact .inr (.inr (.inr ⟨_, rfl, trivial⟩))
  · exact .inr (.inr (.inr ⟨_, rfl, trivial⟩))
  · exact .inr (.inr (.inr ⟨_, rfl, trivial⟩))
theorem min2_cases (x y : Value) : (∃ k a k' b, x = .int k a ∧ y = .int k' b) ∨ (∃ k a k' b, x = .float k a ∧ y = .float k' b) ∨ (∃ a b, x = .string a ∧ y = .string b) ∨
    ∃ h, Builtin.min2 x y = .halt h ∧ Halt.still h := by
  unfold Builtin.min2
  split
  · exact .inl ⟨_, _, _, _, rfl, rfl⟩
  · exact .inr (.inl ⟨_, _, _, _, rfl, rfl⟩)
  · exact .inr (.inr (.inl ⟨_, _, rfl, rfl⟩))
  · exact .inr (.inr (.inr ⟨_, rfl, trivial⟩))
  · exact .inr (.inr (.inr ⟨_, rfl, trivial⟩))
  · exact .inr (.inr (.inr ⟨_, rfl, trivial⟩))
theorem rel_halt {Q : Rn → α → β → Prop} {s : Sem α} {s' : Sem β} {h : Halt} (e : s = .halt h) (k : Halt.still h) : SemRel T F N Q s ρ s' := by
  subst e
  intro _
  cases h <;> first | exact k.elim | exact k
theorem rel_max2 {x x' y y' : Value} (h : RelV F ρ x x') (k : RelV F ρ y y') : SemRel T F N (QV F) (Builtin.max2 x y) ρ (Builtin.max2 x' y') := by
  rcases max2_cases x y with ⟨k₁, a, k₂, b, rfl, rfl⟩ | ⟨k₁, a, k₂, b, rfl, rfl⟩ | ⟨a, b, rfl, rfl⟩ | ⟨hh, e, hs⟩
  · rw [rel_flat_eq h rfl, rel_flat_eq k rfl]; exact fun _ => .flat rfl
  · cases h with
    | flat hf => exact absurd (show false = true from hf) (by simp)
  · rw [rel_flat_eq h rfl, rel_flat_eq k rfl]
    simp only [Builtin.max2, Op.stringOp]
    exact fun _ => .flat rfl
  · exact rel_halt e hs
theorem rel_min2 {x x' y y' : Value} (h : RelV F ρ x x') (k : RelV F ρ y y') : SemRel T F N (QV F) (Builtin.min2 x y) ρ (Builtin.min2 x' y') := by
  rcases min2_cases x y with ⟨k₁, a, k₂, b, rfl, rfl⟩ | ⟨k₁, a, k₂, b, rfl, rfl⟩ | ⟨a, b, rfl, rfl⟩ | ⟨hh, e, hs⟩
  · rw [rel_flat_eq h rfl, rel_flat_eq k rfl]; exact fun _ => .flat rfl
  · cases h with
    | flat hf => exact absurd (show false = true from hf) (by simp)
  · rw [rel_flat_eq h rfl, rel_flat_eq k rfl]
    simp only [Builtin.min2, Op.stringOp]
    exact fun _ => .flat rfl
  · exact rel_halt e hs
theorem rel_foldlM {f f' : Value → Value → Sem Value} (hf : ∀ {ρ : Rn} {x x' y y' : Value}, RelV F ρ x x' → RelV F ρ y y' → SemRel T F N (QV F) (f x y) ρ (f' x' y')) :
    ∀ (l l' : List Value) {ρ : Rn} {x x' : Value}, RelVs F ρ l.toArray l'.toArray → RelV F ρ x x' → SemRel T F N (QV F) (l.foldlM f x) ρ (l'.foldlM f' x') := by
  intro l
  induction l with
  | nil =>
    intro l' ρ x x' h hx
    have : l' = [] := by have := h.1; simp at this; exact List.length_eq_zero_iff.1 this.symm
    subst this; exact fun _ => hx
  | cons v l ih =>
    intro l' ρ x x' h hx
    cases l' with
    | nil => have := h.1; simp at this
    | cons v' l' =>
      rw [List.foldlM_cons, List.foldlM_cons]
      refine (hf hx (h.2 0 v v' (by simp) (by simp))).bind fun ρ₁ a a' l1 ha => ih l' ⟨by have := h.1; simpa using this, fun j x x' hx hx' => ?_⟩ ha
      exact (h.2 (j + 1) x x' (by simpa using hx) (by simpa using hx')).mono l1
theorem rel_max (ts : Array TypeId) (ty : TypeId) {p p' : Array Value} (h : RelVs F ρ p p') : SemRel T F N (QV F) (Builtin.max_ ts ty p) ρ (Builtin.max_ ts ty p') := by
  obtain ⟨l⟩ := p
  obtain ⟨l'⟩ := p'
  unfold Builtin.max_
  cases l with
  | nil => exact fun _ => trivial
  | cons v l =>
    cases l' with
    | nil => have := h.1; simp at this
    | cons v' l' =>
      exact rel_foldlM (fun h k => rel_max2 h k) l l' ⟨by have := h.1; simpa using this, fun j x x' hx hx' => h.2 (j + 1) x x' (by simpa using hx) (by simpa using hx')⟩ (h.2 0 v v' (by simp) (by simp))
theorem rel_min (ts : Array TypeId) (ty : TypeId) {p p' : Array Value} (h : RelVs F ρ p p') : SemRel T F N (QV F) (Builtin.min_ ts ty p) ρ (Builtin.min_ ts ty p') := by
  obtain ⟨l⟩ := p
  obtain ⟨l'⟩ := p'
  unfold Builtin.min_
  cases l with
  | nil => exact fun _ => trivial
  | cons v l =>
    cases l' with
    | nil => have := h.1; simp at this
    | cons v' l' =>
      exact rel_foldlM (fun h k => rel_min2 h k) l l' ⟨by have := h.1; simpa using this, fun j x x' hx hx' => h.2 (j + 1) x x' (by simpa using hx) (by simpa using hx')⟩ (h.2 0 v v' (by simp) (by simp))

/-! ### addresses as numbers -/
/-- pointers, nil or not -/
def QPt (ρ : Rn) (x y : Value) : Prop := ∃ p p', x = .pointer p ∧ y = .pointer p' ∧ QB ρ p p'
theorem QPt.rel {x y : Value} (h : QPt ρ x y) : RelV F ρ x y := by
  obtain ⟨p, p', rfl, rfl, h⟩ := h
  cases p <;> cases p' <;> first | exact h.elim | exact .flat rfl | exact .ptr h
theorem cellOfByte_v (T : Twin) : ∀ (d : Nat) (t : TypeId) (off : Nat), cellOfByte T.v d t off = cellOfByte T.P d t off
  | 0, _, _ => rfl
  | d + 1, t, off => by
    have e1 : T.v.underlying t = T.P.underlying t := rfl
    have e2 : ∀ x, T.v.cellsOf x = T.P.cellsOf x := fun _ => rfl
    have e3 : ∀ x, T.v.bytesOf x = T.P.bytesOf x := fun _ => rfl
    unfold cellOfByte
    rw [e1]
    simp only [cellOfByte_v T d, e2, e3]
theorem cellAtBytes_v (T : Twin) (d : Nat) (e : TypeId) (k off : Nat) (b : Int) : cellAtBytes T.v d e k off b = cellAtBytes T.P d e k off b := by
  have e2 : ∀ x, T.v.cellsOf x = T.P.cellsOf x := fun _ => rfl
  have e3 : ∀ x, T.v.bytesOf x = T.P.bytesOf x := fun _ => rfl
  unfold cellAtBytes
  simp only [byteOfCell_v, cellOfByte_v, e2, e3]
theorem rel_unsafeAdd (t : TypeId) {x x' y y' : Value} (h : RelV F ρ x x') (k : RelV F ρ y y') : SemRel T F N QPt (Builtin.unsafeAdd_ #[] t #[x, y]) ρ (Builtin.unsafeAdd_ #[] t #[x', y']) := by
  unfold Builtin.unsafeAdd_
  have hp : (∃ b b', x = .pointer b ∧ x' = .pointer b' ∧ QB ρ b b') ∨ ∀ b, x ≠ .pointer b := by
    cases h with
    | flat hf =>
      cases x with
      | pointer a => cases a with
        | none => exact .inl ⟨none, none, rfl, rfl, trivial⟩
        | some _ => exact absurd (show false = true from hf) (by simp)
      | _ => exact .inr nofun
    | ptr ha => exact .inl ⟨some _, some _, rfl, rfl, ha⟩
    | _ => exact .inr nofun
  rcases hp with ⟨b, b', rfl, rfl, hb⟩ | hn
  · refine (rel_asInt k).bind fun ρ₁ n n' l1 e => ?_
    obtain rfl : n = n' := e
    have hb := hb.mono l1
    by_cases h0 : n = 0
    · simp only [h0, if_true]
      cases b with
      | none => exact fun _ => trivial
      | some a => cases b' with
        | none => exact hb.elim
        | some a' =>
          simp only
          have ha : RelA ρ₁ a a' := hb
          refine (rel_viewAt ha.1).bind fun ρ₂ z z' l2 e => ?_
          obtain ⟨rfl, rfl⟩ := e
          exact fun _ => ⟨some a, some a', rfl, rfl, ha.mono l2⟩
    · simp only [h0, if_false]
      by_cases hneg : n < 0
      · simp only [hneg, if_true]; exact fun _ => trivial
      · simp only [hneg, if_false]
        cases b with
        | none => exact fun _ => trivial
        | some a => cases b' with
          | none => exact hb.elim
          | some a' =>
            simp only
            have ha : RelA ρ₁ a a' := hb
            refine (rel_shape ha.1).bind fun ρ₂ z z' l2 e => ?_
            obtain rfl : z = z' := e
            cases z with
            | none => exact fun _ => trivial
            | some q =>
              obtain ⟨e, cells⟩ := q
              simp only
              refine rel_program.bind fun ρ₃ p p' l3 e => ?_
              obtain ⟨rfl, rfl⟩ := e
              rw [ha.2.1]
              have hb : cellAtBytes T.v T.v.depth e (cells / T.v.cellsOf e) a.off n = cellAtBytes T.P T.P.depth e (cells / T.P.cellsOf e) a.off n := cellAtBytes_v T _ _ _ _ _
              rw [hb]
              cases cellAtBytes T.P T.P.depth e (cells / T.P.cellsOf e) a.off n with
              | some o => exact fun _ => ⟨some _, some _, rfl, rfl, l3.r _ _ (l2.r _ _ ha.1), rfl, ha.2.2⟩
              | none => exact fun _ => trivial
  · cases x <;> first | exact fun _ => trivial | exact absurd rfl (hn _)
theorem rel_asNumber {a a' : Addr} (h : RelA ρ a a') (b : Bool) : SemRel T F N (QV F) (asNumber a b) ρ (asNumber a' b) :=
  fun _ => ⟨.number h, fun n _ _ => .ptr ⟨.inr ⟨rfl, rfl⟩, rfl, rfl⟩⟩
theorem movedNumber_eq (t : TypeId) (x y : Value) : movedNumber t x y = (underlying t >>= fun d => (if (match d with | .unsafePointer => true | _ => false) = true then unsupported (.unsafePointer "arithmetic at a pointer's type") else pure () : Sem Unit) >>= fun _ =>
    match x with
    | .pointer (some n) => behindNumber n >>= fun q => Builtin.unsafeAdd_ #[] t #[.pointer (some q.1), y] >>= fun z => match z with
      | .pointer (some b) => asNumber b q.2
      | v => pure v
    | _ => Builtin.unsafeAdd_ #[] t #[x, y]) := by
  unfold movedNumber
  refine congrArg (Bind.bind (underlying t)) (funext fun d => ?_)
  cases d <;> rfl
theorem rel_movedNumber (t : TypeId) {x x' y y' : Value} (h : RelV F ρ x x') (k : RelV F ρ y y') : SemRel T F N (QV F) (movedNumber t x y) ρ (movedNumber t x' y') := by
  rw [movedNumber_eq, movedNumber_eq]
  refine (rel_underlying t).bind fun ρ₁ d d' l1 e => ?_
  obtain ⟨rfl, _⟩ := e
  refine SemRel.bind (Q := QEq) ?_ fun ρ₂ _ _ l2 _ => ?_
  · split
    · exact fun _ => trivial
    · exact fun _ => rfl
  have h := (h.mono l1).mono l2
  have k := (k.mono l1).mono l2
  have other : SemRel T F N (QV F) (Builtin.unsafeAdd_ #[] t #[x, y]) ρ₂ (Builtin.unsafeAdd_ #[] t #[x', y']) := (rel_unsafeAdd t h k).mono fun _ _ _ _ q => q.rel
  cases h with
  | ptr ha =>
    refine (rel_behindNumber ha).bind fun ρ₃ q q' l3 hq => ?_
    refine (rel_unsafeAdd t (.ptr hq.1) (k.mono l3)).bind fun ρ₄ z z' l4 hz => ?_
    rw [← hq.2]
    obtain ⟨p, p', rfl, rfl, hp⟩ := hz
    cases p <;> cases p' <;> first | exact hp.elim | exact fun _ => .flat rfl | exact rel_asNumber hp _
  | flat hf =>
    cases x <;> first | exact other | skip
    rename_i a
    cases a with
    | none => exact other
    | some _ => exact absurd (show false = true from hf) (by simp)
  | tok hc ht =>
    exact rel_halt (h := .stuck _) rfl trivial
  | _ => exact other
end

end Go.Proofs.Ytcdhmnefmbcmaaa

namespace Go.Proofs.Ytcdhmnefmbcmaaa
open Go Go.Conc

section
variable {T : Twin} {F : Fs} {N : Nat} {ρ : Rn} {α β γ : Type}

theorem rel_ptr_inv {p : Option Addr} {x' : Value} (h : RelV F ρ (.pointer p) x') : ∃ p', x' = .pointer p' ∧ QB ρ p p' := by
  cases h with
  | flat hf => cases p with
    | none => exact ⟨none, rfl, trivial⟩
    | some _ => exact absurd (show false = true from hf) (by simp)
  | ptr ha => exact ⟨some _, rfl, ha⟩
theorem rel_twoPlaces (hN : T.P.globals.size ≤ N) {a b a' b' : Addr} (h : RelA ρ a a') (k : RelA ρ b b') : SemRel T F N QEq (Op.twoPlaces a b) ρ (Op.twoPlaces a' b') := by
  intro hok
  revert hok
  unfold Op.twoPlaces
  refine rel_program.bind fun ρ₁ p p' l1 e => ?_
  obtain ⟨rfl, rfl⟩ := e
  have h := h.mono l1
  have k := k.mono l1
  intro hok
  revert hok
  have key : SemRel T F N QEq (do pure (← byteOf a, ← byteOf b) : Sem (Nat × Nat)) ρ₁ (do pure (← byteOf a', ← byteOf b')) := by
    refine (rel_byteOf h).bind fun ρ₂ x x' l2 e => ?_
    obtain rfl : x = x' := e
    refine (rel_byteOf (k.mono l2)).bind fun ρ₃ y y' l3 e => ?_
    obtain rfl : y = y' := e
    exact fun _ => rfl
  intro hok
  have e1 := RelA.beq hok h k
  have e2 : decide (a.block ≥ T.P.globals.size) = decide (a'.block ≥ T.P.globals.size) := by
    by_cases hlt : a.block < N ∨ a'.block < N
    · rw [hok.low _ _ h.1 hlt]
    · have h1 : a.block ≥ T.P.globals.size := by omega
      have h2 : a'.block ≥ T.P.globals.size := by omega
      simp [h1, h2]
  revert hok
  simp only [bne, e1, e2]
  by_cases hc : (!(a'.block == b'.block) || decide (a'.block ≥ T.P.globals.size)) = true
  · simp only [hc, if_true]; exact fun _ => trivial
  · simp only [hc, if_false, Bool.false_eq_true]; exact key
theorem rel_addrSub (hN : T.P.globals.size ≤ N) (kd : IntKind) {a b a' b' : Addr} (h : RelA ρ a a') (k : RelA ρ b b') : SemRel T F N (QV F) (Op.addrSub kd a b) ρ (Op.addrSub kd a' b') :=
  (rel_twoPlaces hN h k).bind fun ρ₁ q q' _ e => by obtain rfl : q = q' := e; exact fun _ => .flat rfl
theorem rel_addrCmp (hN : T.P.globals.size ≤ N) (op : BinOp) {a b a' b' : Addr} (h : RelA ρ a a') (k : RelA ρ b b') : SemRel T F N (QV F) (Op.addrCmp op a b) ρ (Op.addrCmp op a' b') :=
  (rel_twoPlaces hN h k).bind fun ρ₁ q q' _ e => by
    obtain rfl : q = q' := e
    cases op <;> first | exact fun _ => .flat rfl | exact fun _ => trivial
theorem rel_addrMod (kd : IntKind) (n : Int) {a a' : Addr} (h : RelA ρ a a') : SemRel T F N (QV F) (Op.addrMod kd a n) ρ (Op.addrMod kd a' n) := by
  unfold Op.addrMod
  refine (rel_shape h.1).bind fun ρ₁ x x' l1 e => ?_
  obtain rfl : x = x' := e
  cases x with
  | none => exact fun _ => trivial
  | some q =>
    obtain ⟨e, c⟩ := q
    simp only
    refine (rel_typeInfo e).bind fun ρ₂ i i' l2 e => ?_
    obtain ⟨rfl, _⟩ := e
    split
    · exact fun _ => trivial
    · refine (rel_byteOf ((h.mono l1).mono l2)).bind fun ρ₃ y y' l3 e => ?_
      obtain rfl : y = y' := e
      exact fun _ => .flat rfl

theorem rel_binOp (hN : T.P.globals.size ≤ N) {op : BinOp} {t : TypeId} (hq : op ≠ .eql ∧ op ≠ .neq) (ht : T.P.underlying t ≠ some .unsafePointer) {x y x' y' : Value} (h : RelV F ρ x x') (k : RelV F ρ y y') :
    SemRel T F N (QV F) (binOp op t x y) ρ (binOp op t x' y') := by
  have two : ∀ {a b a' b' : Addr} (f f' : Addr → Addr → Sem Value), RelA ρ a a' → RelA ρ b b' → (∀ {ρ₁ : Rn} {a b a' b' : Addr}, RelA ρ₁ a a' → RelA ρ₁ b b' → SemRel T F N (QV F) (f a b) ρ₁ (f' a' b')) →
      SemRel T F N (QV F) (do f (← behindNumber a).1 (← behindNumber b).1) ρ (do f' (← behindNumber a').1 (← behindNumber b').1) := by
    intro a b a' b' f f' ha hb hf
    refine (rel_behindNumber ha).bind fun ρ₁ q q' l1 e => ?_
    refine (rel_behindNumber (hb.mono l1)).bind fun ρ₂ s s' l2 e' => ?_
    exact hf (e.1.mono l2) e'.1
  have mod : ∀ {a a' : Addr} (kd : IntKind) (n : Int), RelA ρ a a' → SemRel T F N (QV F) (do Op.addrMod kd (← behindNumber a).1 n) ρ (do Op.addrMod kd (← behindNumber a').1 n) := by
    intro a a' kd n ha
    exact (rel_behindNumber ha).bind fun ρ₁ q q' l1 e => rel_addrMod kd n e.1
  unfold binOp
  split
  all_goals try (exact fun _ => trivial)
  case h_1 => rw [rel_flat_eq h rfl, rel_flat_eq k rfl]; exact rel_shift _ _ _ _ _
  case h_2 => rw [rel_flat_eq h rfl, rel_flat_eq k rfl]; exact rel_shift _ _ _ _ _
  case h_3 =>
    rw [rel_flat_eq h rfl, rel_flat_eq k rfl]
    rename_i k₁ a k₂ b n1 n2
    by_cases hk : k₁ = k₂
    · subst hk
      cases op <;> first
        | exact absurd rfl hq.1
        | exact absurd rfl hq.2
        | exact absurd rfl (n1 _ _ _ _ rfl rfl)
        | exact absurd rfl (n2 _ _ _ _ rfl rfl)
        | (simp only [ne_eq, not_true_eq_false, if_false]; first | exact rel_intDiv _ _ _ _ | exact fun _ => .flat rfl | exact fun _ => trivial)
    · simp only [ne_eq, hk, not_false_eq_true, if_true]; exact fun _ => trivial
  case h_4 => cases h with | flat hf => exact absurd (show false = true from hf) (by simp)
  case h_5 => cases h with | flat hf => exact absurd (show false = true from hf) (by simp)
  case h_6 =>
    rw [rel_flat_eq h rfl, rel_flat_eq k rfl]
    cases op <;> first | exact absurd rfl hq.1 | exact absurd rfl hq.2 | exact rel_stringOp _ _ _
  case h_7 => exact absurd rfl hq.1
  case h_8 => exact absurd rfl hq.2
  case h_9 =>
    obtain ⟨p', rfl, hp⟩ := rel_ptr_inv h
    rw [rel_flat_eq k rfl]
    refine (rel_underlying t).bind fun ρ₁ d d' l1 e => ?_
    obtain ⟨rfl, hd⟩ := e
    cases d <;> first | exact absurd hd ht | exact rel_movedNumber t (h.mono l1) (.flat rfl)
  case h_10 =>
    obtain ⟨p', rfl, hp⟩ := rel_ptr_inv k
    rw [rel_flat_eq h rfl]
    exact rel_movedNumber t k (.flat rfl)
  case h_11 =>
    obtain ⟨p', rfl, hp⟩ := rel_ptr_inv h
    rw [rel_flat_eq k rfl]
    exact rel_movedNumber t h (.flat rfl)
  case h_12 =>
    obtain ⟨p', rfl, hp⟩ := rel_ptr_inv h
    obtain ⟨q', rfl, hq⟩ := rel_ptr_inv k
    cases p' with
    | none => exact hp.elim
    | some a => cases q' with
      | none => exact hq.elim
      | some b => exact two _ _ hp hq (fun h k => rel_addrSub hN _ h k)
  case h_13 | h_14 | h_15 | h_16 =>
    obtain ⟨p', rfl, hp⟩ := rel_ptr_inv h
    obtain ⟨q', rfl, hq⟩ := rel_ptr_inv k
    cases p' with
    | none => exact hp.elim
    | some a => cases q' with
      | none => exact hq.elim
      | some b => exact two _ _ hp hq (fun h k => rel_addrCmp hN _ h k)
  case h_17 | h_18 =>
    obtain ⟨p', rfl, hp⟩ := rel_ptr_inv h
    rw [rel_flat_eq k rfl]
    cases p' with
    | none => exact hp.elim
    | some a => exact mod _ _ hp
  case h_19 =>
    obtain ⟨p', rfl, hp⟩ := rel_ptr_inv k
    rw [rel_flat_eq h rfl]
    cases p' with
    | none => exact hp.elim
    | some a => exact mod _ _ hp

/-! ### equality: of bools, integers, strings; of anything with nil -/
def plainEq (P : Program) (t : TypeId) : Bool :=
  match P.underlying t with
  | some .bool | some .string => true
  | some (.int _) => true
  | _ => false
/-- the nil of the type -/
def nilEq (P : Program) (t : TypeId) (v : Value) : Bool :=
  match P.underlying t, v with
  | some (.pointer _), .pointer none => true
  | some (.slice _), .slice none _ _ => true
  | some (.map _ _), .map none => true
  | some (.func _ _ _), .nilFunc => true
  | some (.interface _), .nilIface => true
  | _, _ => false
end
section
variable {T : Twin} {F : Fs} {N : Nat} {ρ : Rn} {α β γ : Type}

theorem nilEq_flat {t : TypeId} {y : Value} (h : nilEq T.P t y = true) : flat y = true := by
  unfold nilEq at h
  split at h <;> first | rfl | cases h
theorem rel_equal (hN : T.P.globals.size ≤ N) {t : TypeId} {x y x' y' : Value} (hp : plainEq T.P t = true ∨ nilEq T.P t y = true ∨ nilEq T.P t x = true) (h : RelV F ρ x x') (k : RelV F ρ y y') :
    SemRel T F N QEq (Op.equal t x y) ρ (Op.equal t x' y') := by
  have e0 : Op.maxDepth = 9999 + 1 := rfl
  unfold Op.equal
  rw [e0]
  unfold Op.equalIn
  refine (rel_underlying t).bind fun ρ₁ d d' l1 e => ?_
  obtain ⟨rfl, hd⟩ := e
  have h := h.mono l1
  have k := k.mono l1
  rcases hp with hp | hp | hp
  · unfold plainEq at hp
    rw [hd] at hp
    cases d <;> first | exact absurd (show false = true from hp) (by simp) | skip
    · -- bool
      cases h with
      | flat hf => cases x <;> first
          | exact fun _ => trivial
          | (cases k with
            | flat hk => cases y <;> first | exact fun _ => rfl | exact fun _ => trivial
            | _ => exact fun _ => trivial)
      | _ => exact fun _ => trivial
    · -- int
      split
      all_goals try (exact fun _ => trivial)
      all_goals try contradiction
      case h_2 =>
        rw [rel_flat_eq h rfl, rel_flat_eq k rfl]
        simp only
        split
        · exact fun _ => rfl
        · exact fun _ => trivial
      case h_3 =>
        obtain ⟨p', rfl, hp⟩ := rel_ptr_inv h
        rw [rel_flat_eq k rfl]
        cases p' with
        | none => exact hp.elim
        | some a => exact fun _ => rfl
      case h_4 =>
        obtain ⟨p', rfl, hp⟩ := rel_ptr_inv k
        rw [rel_flat_eq h rfl]
        cases p' with
        | none => exact hp.elim
        | some a => exact fun _ => rfl
      case h_5 =>
        obtain ⟨p', rfl, hp⟩ := rel_ptr_inv h
        obtain ⟨q', rfl, hq⟩ := rel_ptr_inv k
        cases p' with
        | none => exact hp.elim
        | some a' => cases q' with
          | none => exact hq.elim
          | some b' =>
            refine (rel_behindNumber hp).bind fun ρ₂ z z' l2 e => ?_
            refine (rel_behindNumber (RelA.mono l2 hq)).bind fun ρ₃ u u' l3 e' => ?_
            have ha := e.1.mono l3
            have hb := e'.1
            refine rel_program.bind fun ρ₄ p p' l4 e => ?_
            obtain ⟨rfl, rfl⟩ := e
            have ha := ha.mono l4
            have hb := hb.mono l4
            intro hok
            have e1 := RelA.beq hok ha hb
            have e2 := RelA.beq' hok ha hb
            have e3 : decide (z.1.block < T.P.globals.size) = decide (z'.1.block < T.P.globals.size) := by
              by_cases hlt : z.1.block < N ∨ z'.1.block < N
              · rw [hok.low _ _ ha.1 hlt]
              · have h1 : ¬ z.1.block < T.P.globals.size := by omega
                have h2 : ¬ z'.1.block < T.P.globals.size := by omega
                simp [h1, h2]
            revert hok
            simp only [e1, e2, e3]
            by_cases hc : (z'.1.block == u'.1.block && decide (z'.1.block < T.P.globals.size)) = true
            · simp only [hc, if_true]
              refine (rel_byteOf ha).bind fun ρ₅ x x' l5 e => ?_
              obtain rfl : x = x' := e
              refine (rel_byteOf (hb.mono l5)).bind fun ρ₆ y y' l6 e => ?_
              obtain rfl : y = y' := e
              exact fun _ => rfl
            · simp only [hc, if_false, Bool.false_eq_true]
              refine (rel_typeInfo t).bind fun ρ₅ x x' l5 e => ?_
              obtain ⟨rfl, _⟩ := e
              split
              · split
                · exact fun _ => rfl
                · exact fun _ => trivial
              · exact fun _ => trivial
    · -- string
      cases h with
      | flat hf => cases x <;> first
          | exact fun _ => trivial
          | (cases k with
            | flat hk => cases y <;> first | exact fun _ => rfl | exact fun _ => trivial
            | _ => exact fun _ => trivial)
      | _ => exact fun _ => trivial
  · -- nil on the right
    have hk : flat y = true := nilEq_flat hp
    rw [rel_flat_eq k hk]
    clear k hk
    unfold nilEq at hp
    rw [hd] at hp
    clear hd
    split at hp
    all_goals try (cases hp; done)
    all_goals
      rename_i heq
      cases heq
      clear hp
      cases h <;> first
        | exact fun _ => rfl
        | exact fun _ => trivial
        | (rename_i hm; cases x' <;> first | exact absurd (show false = true from hm) (by simp) | exact fun _ => rfl | exact fun _ => trivial)
        | (rename_i hf
           cases x <;> first | exact fun _ => rfl | exact fun _ => trivial | (rename_i a; cases a <;> first | exact fun _ => rfl | exact fun _ => trivial | exact absurd (show false = true from hf) (by simp)) | (rename_i a _ _; cases a <;> first | exact fun _ => rfl | exact fun _ => trivial | exact absurd (show false = true from hf) (by simp)))
  · -- nil on the left
    have hk : flat x = true := nilEq_flat hp
    rw [rel_flat_eq h hk]
    clear h hk
    unfold nilEq at hp
    rw [hd] at hp
    clear hd
    split at hp
    all_goals try (cases hp; done)
    all_goals
      rename_i heq
      cases heq
      clear hp
      cases k <;> first
        | exact fun _ => rfl
        | exact fun _ => trivial
        | (rename_i hm; cases y' <;> first | exact absurd (show false = true from hm) (by simp) | exact fun _ => rfl | exact fun _ => trivial)
        | (rename_i hf
           cases y <;> first | exact fun _ => rfl | exact fun _ => trivial | (rename_i a; cases a <;> first | exact fun _ => rfl | exact fun _ => trivial | exact absurd (show false = true from hf) (by simp)) | (rename_i a _ _; cases a <;> first | exact fun _ => rfl | exact fun _ => trivial | exact absurd (show false = true from hf) (by simp)))
end

end Go.Proofs.Ytcdhmnefmbcmaaa
