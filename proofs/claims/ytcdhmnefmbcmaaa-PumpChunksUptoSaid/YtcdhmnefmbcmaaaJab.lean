/-
  A virtual lone world beside the true one: values, objects, worlds related by pairs of blocks; no condition: definitions and small laws.
-/
import Derived.Conc.Beside
namespace Go.Proofs.Ytcdhmnefmbcmaaa
open Go Go.Conc

/-- (virtual block, true block); (token, the true value that it stands for); (bytes, size of a piece: the true closure's two boxes) -/
structure Rn where
  r : Nat → Nat → Prop
  c : Nat → Value → Prop
  q : ByteArray → Int → Nat → Nat → Prop

structure Rn.le (ρ ρ' : Rn) : Prop where
  r : ∀ a b, ρ.r a b → ρ'.r a b
  c : ∀ a x, ρ.c a x → ρ'.c a x
  q : ∀ s n a b, ρ.q s n a b → ρ'.q s n a b

theorem Rn.le.refl (ρ : Rn) : ρ.le ρ := ⟨fun _ _ h => h, fun _ _ h => h, fun _ _ _ _ h => h⟩
theorem Rn.le.trans {a b c : Rn} (h : a.le b) (k : b.le c) : a.le c := ⟨fun _ _ x => k.r _ _ (h.r _ _ x), fun _ _ x => k.c _ _ (h.c _ _ x), fun _ _ _ _ x => k.q _ _ _ _ (h.q _ _ _ _ x)⟩

/-- a new pair of blocks -/
def Rn.add (ρ : Rn) (n m : Nat) : Rn := { r := fun a b => ρ.r a b ∨ (a = n ∧ b = m), c := ρ.c, q := ρ.q }
theorem Rn.le_add (ρ : Rn) (n m : Nat) : ρ.le (ρ.add n m) := ⟨fun _ _ h => .inl h, fun _ _ h => h, fun _ _ _ _ h => h⟩

def RelA (ρ : Rn) (a a' : Addr) : Prop := ρ.r a.block a'.block ∧ a'.off = a.off ∧ a'.spot = a.spot
theorem RelA.mono {ρ ρ' : Rn} (h : ρ.le ρ') {a a' : Addr} (k : RelA ρ a a') : RelA ρ' a a' := ⟨h.r _ _ k.1, k.2⟩
theorem RelA.add {ρ : Rn} {a a' : Addr} (k : RelA ρ a a') (n : Nat) : RelA ρ (a.add n) (a'.add n) := by
  obtain ⟨b, o, s⟩ := a
  obtain ⟨b', o', s'⟩ := a'
  obtain ⟨h1, h2, h3⟩ := k
  simp only at h1 h2 h3
  subst h2 h3
  unfold Addr.add
  split
  · exact ⟨h1, rfl, rfl⟩
  · exact ⟨h1, rfl, rfl⟩

/-- values that name no block (floats are not in our code: none is related) -/
def flat : Value → Bool
  | .bool _ | .int _ _ | .string _ => true
  | .pointer none | .slice none _ _ | .map none | .chan none | .nilFunc | .nilIface => true
  | _ => false

/-- what a token may stand for -/
def isTok : Value → Bool
  | .func (.method _) _ _ => false
  | .slice (some _) 0 0 => false
  | .pointer (some _) | .slice (some _) _ _ | .map (some _) | .chan (some _) | .func _ _ _ | .iface _ _ | .float _ _ | .complex _ _ _ => true
  | _ => false
/-- an empty slice, wherever it lies -/
def isEmp : Value → Bool
  | .slice (some _) 0 0 => true
  | _ => false
/-- a method that is held -/
def isMeth : Value → Bool
  | .func (.method _) _ _ => true
  | _ => false
/-- what stands for one: nothing can be done with it -/
def mfV (b : Nat) : Value := .func (.method "") #[.iface 0 (.chan (some b))] #[]

/-- which functions may be called; which of them may be held as values -/
structure Fb where
  c : FuncId → Bool
  v : FuncId → Bool
  /-- are there ranges over functions? -/
  l : Bool
  /-- are there deferred calls? -/
  d : Bool
  /-- with how many arguments may a function that is held be called -/
  m : Nat
  /-- which functions are called by name alone, with how many arguments -/
  a : FuncId → Option Nat
instance : CoeFun Fb (fun _ => FuncId → Bool) := ⟨Fb.c⟩

/-- which functions and which code may be met -/
structure Fs where
  f : FuncId → Prop
  /-- .. and be held as values -/
  v : FuncId → Prop
  c : Code → Prop
  r : FuncId → Prop
  z : FuncId
  m : Nat
  a : FuncId → Nat → Prop
  d : Prop
instance : CoeFun Fs (fun _ => FuncId → Prop) := ⟨Fs.f⟩
structure Fs.le (F F' : Fs) : Prop where
  f : ∀ x, F x → F' x
  v : ∀ x, F.v x → F'.v x
  c : ∀ x, F.c x → F'.c x
  r : ∀ x, F.r x → F'.r x
  z : F'.z = F.z
  m : F.m ≤ F'.m
  a : ∀ f n, F.a f n → F'.a f n
  d : F.d → F'.d
theorem Fs.le.refl (F : Fs) : F.le F := ⟨fun _ h => h, fun _ h => h, fun _ h => h, fun _ h => h, rfl, Nat.le_refl _, fun _ _ h => h, fun h => h⟩

/-- a closure that goes over pieces of data: the virtual one holds the bytes, the true one two boxes -/
def seqV (z : FuncId) (s : ByteArray) (n : Int) : Value := .func (.func z) #[] #[.string s, .int .i64 n]
def seqT (z : FuncId) (a b : Nat) : Value := .func (.func z) #[] #[.pointer (some ⟨a, 0, none⟩), .pointer (some ⟨b, 0, none⟩)]

/-- F: the functions that may be known -/
inductive RelV (F : Fs) (ρ : Rn) : Value → Value → Prop
  | flat {v : Value} : flat v = true → RelV F ρ v v
  | ptr {a a' : Addr} : RelA ρ a a' → RelV F ρ (.pointer (some a)) (.pointer (some a'))
  | slice {a a' : Addr} {n k : Nat} : RelA ρ a a' → RelV F ρ (.slice (some a) n k) (.slice (some a') n k)
  /-- an empty slice, wherever it lies -/
  | emp {b : Nat} {a : Addr} : ρ.c b (.slice (some a) 0 0) → RelV F ρ (.slice (some ⟨b, 0, none⟩) 0 0) (.slice (some a) 0 0)
  | map {b b' : Nat} : ρ.r b b' → RelV F ρ (.map (some b)) (.map (some b'))
  | chan {b b' : Nat} : ρ.r b b' → RelV F ρ (.chan (some b)) (.chan (some b'))
  | tok {b : Nat} {x : Value} : ρ.c b x → isTok x = true → RelV F ρ (.chan (some b)) x
  | func {f : FuncId} {p p' q q' : Array Value} : F f → F.v f → p.size = p'.size → (∀ (i : Nat) (v v' : Value), p[i]? = some v → p'[i]? = some v' → RelV F ρ v v') →
      q.size = q'.size → (∀ (i : Nat) (v v' : Value), q[i]? = some v → q'[i]? = some v' → RelV F ρ v v') → RelV F ρ (.func (.func f) p q) (.func (.func f) p' q')
  | yield {l l' : Nat} : ρ.r l l' → RelV F ρ (.func (.yield l) #[] #[]) (.func (.yield l') #[] #[])
  | seq {s : ByteArray} {n : Int} {a b : Nat} : ρ.q s n a b → RelV F ρ (seqV F.z s n) (seqT F.z a b)
  | mf {b : Nat} {x : Value} : ρ.c b x → isMeth x = true → RelV F ρ (mfV b) x
  | iface {t : TypeId} {v v' : Value} : RelV F ρ v v' → RelV F ρ (.iface t v) (.iface t v')
  | agg {p p' : Array Value} : p.size = p'.size → (∀ (i : Nat) (v v' : Value), p[i]? = some v → p'[i]? = some v' → RelV F ρ v v') → RelV F ρ (.agg p) (.agg p')
  | tuple {p p' : Array Value} : p.size = p'.size → (∀ (i : Nat) (v v' : Value), p[i]? = some v → p'[i]? = some v' → RelV F ρ v v') → RelV F ρ (.tuple p) (.tuple p')

def RelVs (F : Fs) (ρ : Rn) (p p' : Array Value) : Prop := p.size = p'.size ∧ ∀ (i : Nat) (v v' : Value), p[i]? = some v → p'[i]? = some v' → RelV F ρ v v'

section
variable {F F' : Fs} {ρ ρ' : Rn}

theorem RelV.mono' (hF : F.le F') (h : ρ.le ρ') {v v' : Value} (k : RelV F ρ v v') : RelV F' ρ' v v' := by
  induction k with
  | flat hf => exact .flat hf
  | ptr ha => exact .ptr (ha.mono h)
  | slice ha => exact .slice (ha.mono h)
  | emp hc => exact .emp (h.c _ _ hc)
  | map hb => exact .map (h.r _ _ hb)
  | chan hb => exact .chan (h.r _ _ hb)
  | tok hc ht => exact .tok (h.c _ _ hc) ht
  | func hf hv h1 _ h2 _ i1 i2 => exact .func (hF.f _ hf) (hF.v _ hv) h1 i1 h2 i2
  | yield hl => exact .yield (h.r _ _ hl)
  | seq hq => rw [← hF.z]; exact .seq (h.q _ _ _ _ hq)
  | mf hx hm => exact .mf (h.c _ _ hx) hm
  | iface _ i => exact .iface i
  | agg h1 _ i => exact .agg h1 i
  | tuple h1 _ i => exact .tuple h1 i
theorem RelV.mono (h : ρ.le ρ') {v v' : Value} (k : RelV F ρ v v') : RelV F ρ' v v' := k.mono' (.refl _) h
theorem RelVs.mono' (hF : F.le F') (h : ρ.le ρ') {p p' : Array Value} (k : RelVs F ρ p p') : RelVs F' ρ' p p' := ⟨k.1, fun i v v' h1 h2 => (k.2 i v v' h1 h2).mono' hF h⟩
theorem RelVs.mono (h : ρ.le ρ') {p p' : Array Value} (k : RelVs F ρ p p') : RelVs F ρ' p p' := k.mono' (.refl _) h
theorem RelV.undef : RelV F ρ undef undef := .tuple rfl fun i v v' h => by simp at h
theorem RelV.int {k : IntKind} {n : Int} : RelV F ρ (.int k n) (.int k n) := .flat rfl
theorem RelV.bool {b : Bool} : RelV F ρ (.bool b) (.bool b) := .flat rfl
theorem RelV.string {b : ByteArray} : RelV F ρ (.string b) (.string b) := .flat rfl

theorem RelVs.nil : RelVs F ρ #[] #[] := ⟨rfl, fun i v v' h => by simp at h⟩
theorem RelVs.get {p p' : Array Value} (h : RelVs F ρ p p') {i : Nat} {v : Value} (hv : p[i]? = some v) : ∃ v', p'[i]? = some v' ∧ RelV F ρ v v' := by
  have hi : i < p.size := (Array.getElem?_eq_some_iff.1 hv).1
  have hi' : i < p'.size := h.1 ▸ hi
  exact ⟨p'[i], Array.getElem?_eq_getElem hi', h.2 i v _ hv (Array.getElem?_eq_getElem hi')⟩
theorem RelVs.get' {p p' : Array Value} (h : RelVs F ρ p p') {i : Nat} {v' : Value} (hv : p'[i]? = some v') : ∃ v, p[i]? = some v ∧ RelV F ρ v v' := by
  have hi : i < p'.size := (Array.getElem?_eq_some_iff.1 hv).1
  have hi' : i < p.size := h.1 ▸ hi
  exact ⟨p[i], Array.getElem?_eq_getElem hi', h.2 i _ v' (Array.getElem?_eq_getElem hi') hv⟩
theorem RelVs.none {p p' : Array Value} (h : RelVs F ρ p p') {i : Nat} (hv : p[i]? = none) : p'[i]? = none := by
  rw [Array.getElem?_eq_none_iff] at hv ⊢
  rw [← h.1]; exact hv
theorem RelVs.getD {p p' : Array Value} (h : RelVs F ρ p p') (i : Nat) : RelV F ρ (p.getD i undef) (p'.getD i undef) := by
  rw [Array.getD_eq_getD_getElem?, Array.getD_eq_getD_getElem?]
  cases hv : p[i]? with
  | none => rw [h.none hv]; exact .undef
  | some v =>
    obtain ⟨v', hv', hr⟩ := h.get hv
    rw [hv']; exact hr
theorem RelVs.set {p p' : Array Value} (h : RelVs F ρ p p') {v v' : Value} (hv : RelV F ρ v v') (i : Nat) : RelVs F ρ (p.setIfInBounds i v) (p'.setIfInBounds i v') := by
  refine ⟨by simpa using h.1, fun j x x' hx hx' => ?_⟩
  rw [Array.getElem?_setIfInBounds] at hx hx'
  by_cases hij : i = j
  · subst hij
    simp only [if_true] at hx hx'
    split at hx
    · split at hx'
      · cases hx; cases hx'; exact hv
      · cases hx'
    · cases hx
  · simp only [hij, if_false] at hx hx'
    exact h.2 j x x' hx hx'
theorem RelVs.push {p p' : Array Value} (h : RelVs F ρ p p') {v v' : Value} (hv : RelV F ρ v v') : RelVs F ρ (p.push v) (p'.push v') := by
  refine ⟨by simpa using h.1, fun j x x' hx hx' => ?_⟩
  rw [Array.getElem?_push] at hx hx'
  rw [← h.1] at hx'
  split at hx
  · rename_i hj
    simp only [hj, if_true] at hx'
    cases hx; cases hx'; exact hv
  · rename_i hj
    simp only [hj, if_false] at hx'
    exact h.2 j x x' hx hx'
theorem RelVs.append {p p' q q' : Array Value} (h : RelVs F ρ p p') (k : RelVs F ρ q q') : RelVs F ρ (p ++ q) (p' ++ q') := by
  refine ⟨by simp [h.1, k.1], fun j x x' hx hx' => ?_⟩
  rw [Array.getElem?_append] at hx hx'
  rw [← h.1] at hx'
  split at hx
  · rename_i hj
    simp only [hj, if_true] at hx'
    exact h.2 j x x' hx hx'
  · rename_i hj
    simp only [hj, if_false] at hx'
    exact k.2 _ x x' hx hx'
theorem RelVs.extract {p p' : Array Value} (h : RelVs F ρ p p') (i j : Nat) : RelVs F ρ (p.extract i j) (p'.extract i j) := by
  refine ⟨by simp [h.1], fun n x x' hx hx' => ?_⟩
  rw [Array.getElem?_extract] at hx hx'
  split at hx
  · split at hx'
    · exact h.2 _ x x' hx hx'
    · cases hx'
  · cases hx
theorem RelVs.replicate {v v' : Value} (hv : RelV F ρ v v') (n : Nat) : RelVs F ρ (Array.replicate n v) (Array.replicate n v') := by
  refine ⟨by simp, fun j x x' hx hx' => ?_⟩
  rw [Array.getElem?_replicate] at hx hx'
  split at hx
  · rename_i hj
    simp only [hj, if_true] at hx'
    cases hx; cases hx'; exact hv
  · cases hx
theorem RelVs.one {v v' : Value} (hv : RelV F ρ v v') : RelVs F ρ #[v] #[v'] := by
  have := (RelVs.nil (F := F) (ρ := ρ)).push hv
  simpa using this
theorem RelVs.flats {p : Array Value} (h : ∀ x ∈ p, flat x = true) : RelVs F ρ p p :=
  ⟨rfl, fun i v v' h1 h2 => by rw [h1] at h2; cases h2; exact .flat (h v (Array.mem_of_getElem? h1))⟩
theorem RelVs.map {α : Type} {f f' : α → Value} {l : Array α} (h : ∀ x ∈ l, RelV F ρ (f x) (f' x)) : RelVs F ρ (l.map f) (l.map f') := by
  refine ⟨by simp, fun i v v' h1 h2 => ?_⟩
  rw [Array.getElem?_map] at h1 h2
  obtain ⟨x, hx, rfl⟩ := Option.map_eq_some_iff.1 h1
  rw [hx] at h2
  cases h2
  exact h x (Array.mem_of_getElem? hx)
theorem RelVs.ofFn {n : Nat} {f f' : Nat → Value} (h : ∀ i, RelV F ρ (f i) (f' i)) : RelVs F ρ ((Array.range n).map f) ((Array.range n).map f') := RelVs.map fun x _ => h x

theorem RelV.cells {v v' : Value} (h : RelV F ρ v v') : RelVs F ρ v.cells v'.cells := by
  cases h with
  | flat hf =>
    cases v <;> first
      | exact absurd (show false = true from hf) (by simp)
      | exact RelVs.one (.flat hf)
  | ptr ha => exact RelVs.one (.ptr ha)
  | slice ha => exact RelVs.one (.slice ha)
  | emp hc => exact RelVs.one (.emp hc)
  | map hb => exact RelVs.one (.map hb)
  | chan hb => exact RelVs.one (.chan hb)
  | tok hk ht =>
    have e : v'.cells = #[v'] := by cases v' <;> first | rfl | exact absurd (show false = true from ht) (by simp)
    rw [e]; exact RelVs.one (.tok hk ht)
  | func hf hv h1 i1 h2 i2 => exact RelVs.one (.func hf hv h1 i1 h2 i2)
  | yield hl => exact RelVs.one (.yield hl)
  | seq hq => exact RelVs.one (.seq hq)
  | mf hx hm =>
    have e : v'.cells = #[v'] := by cases v' <;> first | rfl | exact absurd (show false = true from hm) (by simp)
    rw [e]; exact RelVs.one (.mf hx hm)
  | iface hi => exact RelVs.one (.iface hi)
  | agg h1 i => exact ⟨h1, i⟩
  | tuple h1 i => exact RelVs.one (.tuple h1 i)
end

/-- two lists, member by member -/
inductive All2 {α β : Type} (R : α → β → Prop) : List α → List β → Prop
  | nil : All2 R [] []
  | cons {a : α} {b : β} {l : List α} {l' : List β} : R a b → All2 R l l' → All2 R (a :: l) (b :: l')

/-- deferred calls -/
inductive RelT (F : Fs) (ρ : Rn) (m : Nat) : Target → Target → Prop
  | fn {f : FuncId} {q q' : Array Value} : F f → F.a f (m + q.size) → RelVs F ρ q q' → RelT F ρ m (.fn (.func f) q) (.fn (.func f) q')
  | nil : RelT F ρ m .nil .nil
  | yield {l l' : Nat} : ρ.r l l' → RelT F ρ m (.fn (.yield l) #[]) (.fn (.yield l') #[])
  | seq {s : ByteArray} {n : Int} {a b : Nat} : m ≤ F.m → ρ.q s n a b → RelT F ρ m (.fn (.func F.z) #[.string s, .int .i64 n]) (.fn (.func F.z) #[.pointer (some ⟨a, 0, none⟩), .pointer (some ⟨b, 0, none⟩)])
  | collected {b b' : Nat} : ρ.r b b' → RelT F ρ m (.collected b) (.collected b')
/-- a method that is held, with arguments -/
def heldD (x : Value) (p : Array Value) : Deferred := match x with
  | .func f q r => { target := .fn f r, args := q ++ p }
  | _ => { target := .nil, args := #[] }
inductive RelD (F : Fs) (ρ : Rn) : Deferred → Deferred → Prop
  | mk {d d' : Deferred} : RelT F ρ d.args.size d.target d'.target → RelVs F ρ d.args d'.args → RelD F ρ d d'
  /-- a held method that nobody can call -/
  | dead {b : Nat} {x : Value} {p p' : Array Value} : ρ.c b x → isMeth x = true → RelVs F ρ p p' → RelD F ρ (heldD (mfV b) p) (heldD x p')
theorem RelT.mono' {F F' : Fs} {ρ ρ' : Rn} (hF : F.le F') (h : ρ.le ρ') {m : Nat} {d d' : Target} (k : RelT F ρ m d d') : RelT F' ρ' m d d' := by
  cases k with
  | fn hf ha hq => exact .fn (hF.f _ hf) (hF.a _ _ ha) (hq.mono' hF h)
  | nil => exact .nil
  | yield hl => exact .yield (h.r _ _ hl)
  | seq hm hq => rw [← hF.z]; exact .seq (Nat.le_trans hm hF.m) (h.q _ _ _ _ hq)
  | collected hb => exact .collected (h.r _ _ hb)
theorem RelD.mono' {F F' : Fs} {ρ ρ' : Rn} (hF : F.le F') (h : ρ.le ρ') {d d' : Deferred} (k : RelD F ρ d d') : RelD F' ρ' d d' := by
  cases k with
  | mk h1 h2 => exact .mk (h1.mono' hF h) (h2.mono' hF h)
  | dead h1 h2 h3 => exact .dead (h.c _ _ h1) h2 (h3.mono' hF h)
theorem forall2_mono {α β : Type} {R R' : α → β → Prop} (h : ∀ a b, R a b → R' a b) {l : List α} {l' : List β} (k : All2 R l l') : All2 R' l l' := by
  induction k with
  | nil => exact .nil
  | cons a _ i => exact .cons (h _ _ a) i

/-- a range over a function, under way -/
structure RelL (F : Fs) (ρ : Rn) (l l' : Loop) : Prop where
  state : l'.state = l.state
  pending : l'.pending = l.pending
  fn : l'.fn = l.fn
  tmps : RelVs F ρ l.tmps l'.tmps
  params : l'.params = l.params
  few : l.params.size ≤ 2
  assign : l'.assign = l.assign
  body : l'.body = l.body
  okF : F.r l.fn
  okA : F.c l.assign
  okB : F.c l.body
  okJ : ∀ j, l.pending = some j → F.c j
  defers : ρ.r l.defers l'.defers

structure RelE (F : Fs) (ρ : Rn) (e e' : MapEntry) : Prop where
  key : RelV F ρ e.key e'.key
  val : RelV F ρ e.val e'.val
  born : e'.born = e.born

inductive RelO (F : Fs) (ρ : Rn) : Obj → Obj → Prop
  | cells {p p' : Array Value} {t : TypeId} {fr : Nat × Nat} : RelVs F ρ p p' → RelO F ρ (.cells p t fr) (.cells p' t fr)
  | map {es es' : Array MapEntry} {k : Nat} : es.size = es'.size → (∀ (i : Nat) (e e' : MapEntry), es[i]? = some e → es'[i]? = some e' → RelE F ρ e e') → RelO F ρ (.map es k) (.map es' k)
  | mapIter {b b' s k : Nat} {seen : Array Nat} : ρ.r b b' → RelO F ρ (.mapIter (some b) s seen k) (.mapIter (some b') s seen k)
  | mapIterN {s k : Nat} {seen : Array Nat} : RelO F ρ (.mapIter none s seen k) (.mapIter none s seen k)
  | stringIter {s : ByteArray} {k : Nat} : RelO F ρ (.stringIter s k) (.stringIter s k)
  | loop {l l' : Loop} : RelL F ρ l l' → RelO F ρ (.loop l) (.loop l')
  | deferred : RelO F ρ (.deferred (some [])) (.deferred (some []))
  | deferredN : RelO F ρ (.deferred none) (.deferred none)
  | number {a a' : Addr} {b : Bool} : RelA ρ a a' → RelO F ρ (.number a b) (.number a' b)
  | chan {k s r : Nat} {cl tm : Bool} : RelO F ρ (.chan k #[] cl s r tm) (.chan k #[] cl s r tm)

section
variable {F F' : Fs} {ρ ρ' : Rn}
theorem RelL.mono' (hF : F.le F') (h : ρ.le ρ') {l l' : Loop} (k : RelL F ρ l l') : RelL F' ρ' l l' :=
  ⟨k.state, k.pending, k.fn, k.tmps.mono' hF h, k.params, k.few, k.assign, k.body, hF.r _ k.okF, hF.c _ k.okA, hF.c _ k.okB, fun j hj => hF.c _ (k.okJ j hj), h.r _ _ k.defers⟩
theorem RelO.mono' (hF : F.le F') (h : ρ.le ρ') {o o' : Obj} (k : RelO F ρ o o') : RelO F' ρ' o o' := by
  cases k with
  | cells hp => exact .cells (hp.mono' hF h)
  | map hs he => exact .map hs fun i e e' h1 h2 => ⟨(he i e e' h1 h2).key.mono' hF h, (he i e e' h1 h2).val.mono' hF h, (he i e e' h1 h2).born⟩
  | mapIter hb => exact .mapIter (h.r _ _ hb)
  | mapIterN => exact .mapIterN
  | stringIter => exact .stringIter
  | loop hl => exact .loop (hl.mono' hF h)
  | deferred => exact .deferred
  | deferredN => exact .deferredN
  | number ha => exact .number (ha.mono h)
  | chan => exact .chan
theorem RelO.mono (h : ρ.le ρ') {o o' : Obj} (k : RelO F ρ o o') : RelO F ρ' o o' := k.mono' (.refl _) h
end

/-- new numbers -/
structure Rn.Fresh (N : Nat) (ρ : Rn) (n m : Nat) : Prop where
  r : ∀ b, ¬ ρ.r n b
  l : ∀ a, ¬ ρ.r a m
  c : ∀ x, ¬ ρ.c n x
  hn : N ≤ n
  hm : N ≤ m

/-- what stands in a virtual block that must not be touched -/
def poison : Obj := .cells #[] 0 (0, 0)

/-- pairs one to one; tokens apart from blocks; the low blocks are themselves -/
structure Rn.Ok (N : Nat) (ρ : Rn) : Prop where
  fn : ∀ a b b', ρ.r a b → ρ.r a b' → b = b'
  inj : ∀ a a' b, ρ.r a b → ρ.r a' b → a = a'
  cfn : ∀ a x y, ρ.c a x → ρ.c a y → x = y
  apart : ∀ a b x, ρ.r a b → ¬ ρ.c a x
  low : ∀ a b, ρ.r a b → (a < N ∨ b < N) → a = b

/-- the true closure's memory: B holds all of its blocks -/
structure Sealed (w : World) (B : List Nat) (s : ByteArray) (n : Int) (a b : Nat) : Prop where
  lt : ∀ c ∈ B, c < w.heap.size
  ina : a ∈ B
  inb : b ∈ B
  pos : 1 ≤ n
  hi : n ≤ 9223372036854775807
  few : s.size ≤ 1073741824
  box : ∃ D cap ta, w.heap[a]? = some (.cells #[.slice D s.size cap] ta (0, 0)) ∧ (s.size = 0 ∨ ∃ d o cells td, D = some ⟨d, o, none⟩ ∧ d ∈ B ∧ w.heap[d]? = some (.cells cells td (0, 0)) ∧ o + cap ≤ cells.size ∧ s.size ≤ cap ∧ ∀ i (h : i < s.size), cells[o + i]? = some (.int .u8 (s[i].toNat : Int)))
  size : ∃ tb, w.heap[b]? = some (.cells #[.int .i64 n] tb (0, 0))
theorem Sealed.keep {w w' : World} {B : List Nat} {s : ByteArray} {n : Int} {a b : Nat} (h : Sealed w B s n a b) (hz : w.heap.size ≤ w'.heap.size) (hk : ∀ c ∈ B, w'.heap[c]? = w.heap[c]?) : Sealed w' B s n a b := by
  obtain ⟨D, cap, ta, h1, h2⟩ := h.box
  obtain ⟨tb, h3⟩ := h.size
  refine ⟨fun c hc => Nat.lt_of_lt_of_le (h.lt c hc) hz, h.ina, h.inb, h.pos, h.hi, h.few, ⟨D, cap, ta, by rw [hk a h.ina]; exact h1, ?_⟩, tb, by rw [hk b h.inb]; exact h3⟩
  rcases h2 with h2 | ⟨d, o, cells, td, e, hd, h4, h5⟩
  · exact .inl h2
  · exact .inr ⟨d, o, cells, td, e, hd, by rw [hk d hd]; exact h4, h5⟩

/-- The virtual world v beside the true one w. -/
structure RelW (F : Fs) (N : Nat) (ρ : Rn) (v w : World) : Prop where
  ok : ρ.Ok N
  obj : ∀ a b, ρ.r a b → ∃ o o', v.heap[a]? = some o ∧ w.heap[b]? = some o' ∧ RelO F ρ o o'
  tok : ∀ a x, ρ.c a x → v.heap[a]? = some poison
  nv : N ≤ v.heap.size
  nw : N ≤ w.heap.size
  os : w.os = v.os
  seq : ∀ s n a b, ρ.q s n a b → ∃ B, Sealed w B s n a b ∧ ∀ c ∈ B, ∀ x, ¬ ρ.r x c

end Go.Proofs.Ytcdhmnefmbcmaaa
