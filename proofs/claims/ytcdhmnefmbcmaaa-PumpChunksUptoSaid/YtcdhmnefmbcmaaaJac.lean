/-
  Two programs of the free monad side by side (SemRel): whatever the virtual one does with success, the true one does too; no condition.
-/
import Derived.Test.YtcdhmnefmbcmaaaJab
namespace Go.Proofs.Ytcdhmnefmbcmaaa
open Go Go.Conc

/-- a program, and the functions that the virtual side has -/
structure Twin where
  P : Program
  F : Array Func
abbrev Twin.v (T : Twin) : Program := { T.P with funcs := T.F }

/-- ends that the virtual run is not asked about: none is a step -/
def Halt.still : Halt → Prop
  | .stuck _ => True
  | .unsupported (.initOrder _) => False
  | .unsupported _ => True
  | .exit _ => True
  | _ => False

def MarkOk : Mark → Prop
  | .extern _ | .noRoom => True
  | _ => False

def HaltRel {β : Type} (F : Fs) (ρ : Rn) : Halt → Sem β → Prop
  | .panic x, s' => ∃ x', s' = .halt (.panic x') ∧ RelV F ρ x x'
  | h, _ => Halt.still h

/-- a program that comes to an end that the virtual run is not asked about -/
def SemDead {α : Type} (T : Twin) : Sem α → Prop
  | .halt h => Halt.still h
  | .program k => SemDead T (k T.v)
  | .shape _ k => ∀ x, SemDead T (k x)
  | .frozen _ k => ∀ x, SemDead T (k x)
  | .mark _ k => SemDead T k
  | _ => False
theorem SemDead.bind {α γ : Type} {T : Twin} {f : α → Sem γ} : ∀ {s : Sem α}, SemDead T s → SemDead T (s.bind f) := by
  intro s
  induction s with
  | halt h => intro x; exact x
  | program k ih => intro x; exact ih T.v x
  | shape b k ih => intro x y; exact ih y (x y)
  | frozen a k ih => intro x y; exact ih y (x y)
  | mark m k ih => intro x; exact ih x
  | _ => intro x; exact x.elim
theorem SemDead.run {α : Type} {T : Twin} : ∀ {s : Sem α}, SemDead T s → ∀ v, ∃ h, s.run T.v v = .halt h v ∧ Halt.still h := by
  intro s
  induction s with
  | halt h => intro x v; exact ⟨h, by rw [Sem.run], x⟩
  | program k ih => intro x v; obtain ⟨h, e, hs⟩ := ih T.v x v; exact ⟨h, by rw [Sem.run]; exact e, hs⟩
  | shape b k ih => intro x v; obtain ⟨h, e, hs⟩ := ih (v.shape? b) (x _) v; exact ⟨h, by rw [Sem.run]; exact e, hs⟩
  | frozen a k ih => intro x v; obtain ⟨h, e, hs⟩ := ih (v.frozen? a) (x _) v; exact ⟨h, by rw [Sem.run]; exact e, hs⟩
  | mark m k ih => intro x v; obtain ⟨h, e, hs⟩ := ih x v; exact ⟨h, by rw [Sem.run]; exact e, hs⟩
  | _ => intro x; exact x.elim
def SemR0 {α β : Type} (T : Twin) (F : Fs) (N : Nat) (Q : Rn → α → β → Prop) : Sem α → Rn → Sem β → Prop
  | .pure a, ρ, s' => match s' with
    | .pure b => Q ρ a b
    | _ => False
  | .load m a k, ρ, s' => match s' with
    | .load m' a' k' => m' = m ∧ RelA ρ a a' ∧ ∀ x x', RelV F ρ x x' → SemR0 T F N Q (k x) ρ (k' x')
    | _ => False
  | .store m a x k, ρ, s' => match s' with
    | .store m' a' x' k' => m' = m ∧ RelA ρ a a' ∧ RelV F ρ x x' ∧ SemR0 T F N Q k ρ k'
    | _ => False
  | .new o k, ρ, s' => match s' with
    | .new o' k' => RelO F ρ o o' ∧ ∀ n n', ρ.Fresh N n n' → SemR0 T F N Q (k n) (ρ.add n n') (k' n')
    | _ => False
  | .shape b k, ρ, s' => (∀ x, SemDead T (k x)) ∨ match s' with
    | .shape b' k' => ρ.r b b' ∧ ∀ x, SemR0 T F N Q (k x) ρ (k' x)
    | _ => False
  | .freeze _ _ _, _, _ => False
  | .frozen a k, ρ, s' => (∀ x, SemDead T (k x)) ∨ match s' with
    | .frozen a' k' => RelA ρ a a' ∧ ∀ x, SemR0 T F N Q (k x) ρ (k' x)
    | _ => False
  | .getObj b k, ρ, s' => match s' with
    | .getObj b' k' => ρ.r b b' ∧ ∀ o o', RelO F ρ o o' → SemR0 T F N Q (k o) ρ (k' o')
    | _ => False
  | .setObj b o k, ρ, s' => match s' with
    | .setObj b' o' k' => ρ.r b b' ∧ RelO F ρ o o' ∧ o.isChan = false ∧ (∀ p t f, o ≠ .cells p t f) ∧ SemR0 T F N Q k ρ k'
    | _ => False
  | .choose q k, ρ, s' => match s' with
    | .choose q' k' => q' = q ∧ ∀ n, SemR0 T F N Q (k n) ρ (k' n)
    | _ => False
  | .sys c k, ρ, s' => match c, s' with
    | .env, .sys .env k' => ∀ x, SemR0 T F N Q (k x) ρ (k' x)
    | _, _ => False
  | .program k, ρ, s' => SemDead T (k T.v) ∨ match s' with
    | .program k' => SemR0 T F N Q (k T.v) ρ (k' T.P)
    | _ => False
  | .mark m k, ρ, s' => SemDead T k ∨ match s' with
    | .mark m' k' => m' = m ∧ MarkOk m ∧ SemR0 T F N Q k ρ k'
    | _ => False
  | .halt h, ρ, s' => HaltRel F ρ h s'

section
variable {α β : Type} {T : Twin} {F : Fs} {N : Nat} {Q : Rn → α → β → Prop} {ρ : Rn}
theorem semR0_shapeD {b : Nat} {k : Option (TypeId × Nat) → Sem α} {s' : Sem β} (h : ∀ x, SemDead T (k x)) : SemR0 T F N Q (.shape b k) ρ s' := by unfold SemR0; exact .inl h
theorem semR0_shape {b b' : Nat} {k : Option (TypeId × Nat) → Sem α} {k' : Option (TypeId × Nat) → Sem β} (h : ρ.r b b') (h2 : ∀ x, SemR0 T F N Q (k x) ρ (k' x)) : SemR0 T F N Q (.shape b k) ρ (.shape b' k') := by unfold SemR0; exact .inr ⟨h, h2⟩
theorem semR0_frozenD {a : Addr} {k : Bool → Sem α} {s' : Sem β} (h : ∀ x, SemDead T (k x)) : SemR0 T F N Q (.frozen a k) ρ s' := by unfold SemR0; exact .inl h
theorem semR0_frozen {a a' : Addr} {k : Bool → Sem α} {k' : Bool → Sem β} (h : RelA ρ a a') (h2 : ∀ x, SemR0 T F N Q (k x) ρ (k' x)) : SemR0 T F N Q (.frozen a k) ρ (.frozen a' k') := by unfold SemR0; exact .inr ⟨h, h2⟩
end
/-- (what the relation is, is asked where the relation is well) -/
def SemRel {α β : Type} (T : Twin) (F : Fs) (N : Nat) (Q : Rn → α → β → Prop) (s : Sem α) (ρ : Rn) (s' : Sem β) : Prop := ρ.Ok N → SemR0 T F N Q s ρ s'

theorem Rn.Ok.add {N : Nat} {ρ : Rn} (h : ρ.Ok N) {n m : Nat} (k : ρ.Fresh N n m) : (ρ.add n m).Ok N := by
  refine ⟨?_, ?_, h.cfn, ?_, ?_⟩
  · rintro a b b' (x | ⟨rfl, rfl⟩) (y | ⟨z, rfl⟩)
    · exact h.fn _ _ _ x y
    · subst z; exact absurd x (k.r _)
    · exact absurd y (k.r _)
    · rfl
  · rintro a a' b (x | ⟨rfl, rfl⟩) (y | ⟨rfl, z⟩)
    · exact h.inj _ _ _ x y
    · subst z; exact absurd x (k.l _)
    · exact absurd y (k.l _)
    · rfl
  · rintro a b x (y | ⟨rfl, rfl⟩) hc
    · exact h.apart _ _ _ y hc
    · exact k.c _ hc
  · rintro a b (x | ⟨rfl, rfl⟩) hN
    · exact h.low _ _ x hN
    · have := k.hn; have := k.hm; omega

section
variable {T : Twin} {F : Fs} {N : Nat} {α β γ δ : Type}

theorem SemRel.bind' {Q : Rn → α → β → Prop} {Q' : Rn → γ → δ → Prop} {f : α → Sem γ} {f' : β → Sem δ} :
    ∀ {s : Sem α} {ρ : Rn} {s' : Sem β}, ρ.Ok N → SemR0 T F N Q s ρ s' → (∀ ρ' a b, ρ.le ρ' → Q ρ' a b → SemRel T F N Q' (f a) ρ' (f' b)) → SemR0 T F N Q' (s.bind f) ρ (s'.bind f') := by
  intro s
  induction s with
  | pure a => intro ρ s' hok h k; cases s' <;> simp only [SemR0] at h; exact k _ _ _ (.refl _) h hok
  | load m a c ih =>
    intro ρ s' hok h k; cases s' <;> simp only [SemR0] at h
    obtain ⟨h1, h2, h3⟩ := h
    exact ⟨h1, h2, fun x x' hx => ih x hok (h3 x x' hx) k⟩
  | store m a x c ih =>
    intro ρ s' hok h k; cases s' <;> simp only [SemR0] at h
    obtain ⟨h1, h2, h3, h4⟩ := h
    exact ⟨h1, h2, h3, ih hok h4 k⟩
  | new o c ih =>
    intro ρ s' hok h k; cases s' <;> simp only [SemR0] at h
    exact ⟨h.1, fun n n' hf => ih n (hok.add hf) (h.2 n n' hf) fun ρ' a b hl hq => k ρ' a b ((Rn.le_add _ _ _).trans hl) hq⟩
  | shape b c ih =>
    intro ρ s' hok h k
    unfold SemR0 at h
    rcases h with h | h
    · exact semR0_shapeD fun x => (h x).bind
    cases s' <;> simp only at h
    exact semR0_shape h.1 fun x => ih x hok (h.2 x) k
  | freeze a n c ih => intro ρ s' hok h k; exact h.elim
  | frozen a c ih =>
    intro ρ s' hok h k
    unfold SemR0 at h
    rcases h with h | h
    · exact semR0_frozenD fun x => (h x).bind
    cases s' <;> simp only at h
    exact semR0_frozen h.1 fun x => ih x hok (h.2 x) k
  | getObj b c ih =>
    intro ρ s' hok h k; cases s' <;> simp only [SemR0] at h
    exact ⟨h.1, fun o o' ho => ih o hok (h.2 o o' ho) k⟩
  | setObj b o c ih =>
    intro ρ s' hok h k; cases s' <;> simp only [SemR0] at h
    obtain ⟨h1, h2, h3, h4, h5⟩ := h
    exact ⟨h1, h2, h3, h4, ih hok h5 k⟩
  | choose q c ih =>
    intro ρ s' hok h k; cases s' <;> simp only [SemR0] at h
    exact ⟨h.1, fun x => ih x hok (h.2 x) k⟩
  | sys c k' ih =>
    intro ρ s' hok h k
    cases c <;> try exact h.elim
    cases s' <;> try exact h.elim
    rename_i c₂ k₂
    cases c₂ <;> try exact h.elim
    exact fun x => ih x hok (h x) k
  | program c ih =>
    intro ρ s' hok h k
    rcases h with h | h
    · exact .inl h.bind
    cases s' <;> simp only at h
    exact .inr (ih T.v hok h k)
  | mark m c ih =>
    intro ρ s' hok h k
    rcases h with h | h
    · exact .inl h.bind
    cases s' <;> simp only at h
    exact .inr ⟨h.1, h.2.1, ih hok h.2.2 k⟩
  | halt x =>
    intro ρ s' hok h k
    cases x <;> simp only [SemR0, HaltRel] at h
    case panic x =>
      obtain ⟨x', rfl, hx⟩ := h
      exact ⟨x', rfl, hx⟩
    all_goals exact h

theorem SemRel.bind {Q : Rn → α → β → Prop} {Q' : Rn → γ → δ → Prop} {f : α → Sem γ} {f' : β → Sem δ} {s : Sem α} {ρ : Rn} {s' : Sem β} (h : SemRel T F N Q s ρ s')
    (k : ∀ ρ' a b, ρ.le ρ' → Q ρ' a b → SemRel T F N Q' (f a) ρ' (f' b)) : SemRel T F N Q' (s >>= f) ρ (s' >>= f') := fun hok => SemRel.bind' hok (h hok) k

theorem SemRel.mono {Q Q' : Rn → α → β → Prop} {s : Sem α} {ρ : Rn} {s' : Sem β} (h : SemRel T F N Q s ρ s') (hq : ∀ ρ' a b, ρ.le ρ' → Q ρ' a b → Q' ρ' a b) : SemRel T F N Q' s ρ s' := by
  have e1 : s.bind Sem.pure = s := by
    clear h
    induction s with
    | pure a => rfl
    | halt h => rfl
    | store m a v k ih => simp only [Sem.bind, ih]
    | freeze a n k ih => simp only [Sem.bind, ih]
    | setObj r o k ih => simp only [Sem.bind, ih]
    | mark m k ih => simp only [Sem.bind, ih]
    | _ => simp only [Sem.bind]; congr 1; funext x; apply_assumption
  have e2 : s'.bind Sem.pure = s' := by
    clear h
    induction s' with
    | pure a => rfl
    | halt h => rfl
    | store m a v k ih => simp only [Sem.bind, ih]
    | freeze a n k ih => simp only [Sem.bind, ih]
    | setObj r o k ih => simp only [Sem.bind, ih]
    | mark m k ih => simp only [Sem.bind, ih]
    | _ => simp only [Sem.bind]; congr 1; funext x; apply_assumption
  intro hok
  rw [← e1, ← e2]
  exact SemRel.bind' hok (h hok) fun ρ' a b hl hQ _ => hq ρ' a b hl hQ

theorem SemRel.pure {Q : Rn → α → β → Prop} {a : α} {b : β} {ρ : Rn} (h : Q ρ a b) : SemRel T F N Q (pure a) ρ (pure b) := fun _ => h
end

/-! ### soundness -/
def rworld {α : Type} : Result α → World
  | .ok _ w => w
  | .halt _ w => w

/-- what a step's list may name: blocks of the true side's range -/
def EvIn (ρ : Rn) (e : Event) : Prop :=
  match e.loc with
  | .cell a => ∃ b, ρ.r b a.block
  | .obj c => (∃ b, ρ.r b c) ∧ ¬ (e.write = true ∧ e.sync = true)
  | .mark m => MarkOk m
  | .output => True
  | _ => False

/-- the same answers for the draws of the virtual run -/
def Tp (v w : World) (n : Nat) : Prop := ∀ i, i < n → ∀ q, v.tape (v.drawn + i) q = w.tape (w.drawn + i) q

/-- What a stretch of a virtual run leaves beside the true one. -/
structure Stp (F : Fs) (N : Nat) (ρ ρ' : Rn) (v w v' w' : World) (u : Array Event) : Prop where
  le : ρ.le ρ'
  rel : RelW F N ρ' v' w'
  sv : v.heap.size ≤ v'.heap.size
  sw : v'.heap.size + w.heap.size = v.heap.size + w'.heap.size
  new : ∀ a b, ρ'.r a b ↔ ρ.r a b ∨ (v.heap.size ≤ a ∧ a < v'.heap.size ∧ a + w.heap.size = b + v.heap.size)
  tok : ρ'.c = ρ.c ∧ ρ'.q = ρ.q
  keepv : ∀ a, a < v.heap.size → (∀ b, ¬ ρ.r a b) → v'.heap[a]? = v.heap[a]?
  keepw : ∀ b, b < w.heap.size → (∀ a, ¬ ρ.r a b) → w'.heap[b]? = w.heap[b]?
  tv : v'.tape = v.tape ∧ v'.os = v.os ∧ v'.output = v.output
  tw : w'.tape = w.tape ∧ w'.os = w.os ∧ w'.output = w.output
  drawn : v.drawn ≤ v'.drawn ∧ v'.drawn + w.drawn = v.drawn + w'.drawn
  evs : ∀ e ∈ u, EvIn ρ' e

section
variable {F : Fs} {N : Nat} {ρ ρ' ρ'' : Rn} {v w v' w' v'' w'' : World} {u u' : Array Event}

theorem EvIn.mono (h : ρ.le ρ') {e : Event} (k : EvIn ρ e) : EvIn ρ' e := by
  unfold EvIn at k ⊢
  split <;> simp_all
  · obtain ⟨b, hb⟩ := k; exact ⟨b, h.r _ _ hb⟩
  · obtain ⟨⟨b, hb⟩, k2⟩ := k; exact ⟨b, h.r _ _ hb⟩

theorem RelW.dom (h : RelW F N ρ v w) {a b : Nat} (k : ρ.r a b) : a < v.heap.size ∧ b < w.heap.size := by
  obtain ⟨o, o', h1, h2, _⟩ := h.obj a b k
  exact ⟨(Array.getElem?_eq_some_iff.1 h1).1, (Array.getElem?_eq_some_iff.1 h2).1⟩
theorem RelW.tdom (h : RelW F N ρ v w) {a : Nat} {x : Value} (k : ρ.c a x) : a < v.heap.size := (Array.getElem?_eq_some_iff.1 (h.tok a x k)).1

theorem seq_keep {w₁ : World} (h : ∀ s n a b, ρ.q s n a b → ∃ B, Sealed w B s n a b ∧ ∀ c ∈ B, ∀ x, ¬ ρ.r x c) (hz : w.heap.size ≤ w₁.heap.size) (hk : ∀ c, c < w.heap.size → (∀ x, ¬ ρ.r x c) → w₁.heap[c]? = w.heap[c]?)
    (hr : ∀ x c, ρ'.r x c → ρ.r x c ∨ w.heap.size ≤ c) (hq : ρ'.q = ρ.q) : ∀ s n a b, ρ'.q s n a b → ∃ B, Sealed w₁ B s n a b ∧ ∀ c ∈ B, ∀ x, ¬ ρ'.r x c := by
  intro s n a b q
  obtain ⟨B, h1, h2⟩ := h s n a b (by rw [← hq]; exact q)
  refine ⟨B, h1.keep hz fun c hc => hk c (h1.lt c hc) (h2 c hc), fun c hc x hx => ?_⟩
  rcases hr x c hx with k | k
  · exact h2 c hc x k
  · have := h1.lt c hc; omega

theorem Stp.refl (h : RelW F N ρ v w) : Stp F N ρ ρ v w v w #[] :=
  ⟨.refl _, h, Nat.le_refl _, rfl, fun a b => ⟨.inl, fun x => x.elim id fun y => by omega⟩, ⟨rfl, rfl⟩, fun _ _ _ => rfl, fun _ _ _ => rfl, ⟨rfl, rfl, rfl⟩, ⟨rfl, rfl, rfl⟩, ⟨Nat.le_refl _, rfl⟩, by simp⟩

theorem Stp.trans (h : Stp F N ρ ρ' v w v' w' u) (k : Stp F N ρ' ρ'' v' w' v'' w'' u') (_ : RelW F N ρ v w) : Stp F N ρ ρ'' v w v'' w'' (u ++ u') := by
  refine ⟨h.le.trans k.le, k.rel, Nat.le_trans h.sv k.sv, ?_, fun a b => ?_, ⟨k.tok.1.trans h.tok.1, k.tok.2.trans h.tok.2⟩, fun a ha hn => ?_, fun b hb hn => ?_, ⟨k.tv.1.trans h.tv.1, k.tv.2.1.trans h.tv.2.1, k.tv.2.2.trans h.tv.2.2⟩,
    ⟨k.tw.1.trans h.tw.1, k.tw.2.1.trans h.tw.2.1, k.tw.2.2.trans h.tw.2.2⟩, ⟨Nat.le_trans h.drawn.1 k.drawn.1, ?_⟩, fun e he => ?_⟩
  · have := h.sw; have := k.sw; omega
  · rw [k.new, h.new]
    have h1 := h.sw; have h2 := h.sv; have h3 := k.sv
    constructor
    · rintro ((x | x) | x)
      · exact .inl x
      · exact .inr (by omega)
      · exact .inr (by omega)
    · rintro (x | x)
      · exact .inl (.inl x)
      · by_cases hlt : a < v'.heap.size
        · exact .inl (.inr (by omega))
        · exact .inr (by omega)
  · rw [k.keepv a (Nat.lt_of_lt_of_le ha h.sv) fun b hb => ?_, h.keepv a ha hn]
    rw [h.new] at hb
    rcases hb with hb | hb
    · exact hn b hb
    · omega
  · have h1 := h.sw; have h2 := h.sv
    rw [k.keepw b (by omega) fun a ha => ?_, h.keepw b hb hn]
    rw [h.new] at ha
    rcases ha with ha | ha
    · exact hn a ha
    · omega
  · have := h.drawn.2; have := k.drawn.2; omega
  · rcases Array.mem_append.1 he with he | he
    · exact (h.evs e he).mono k.le
    · exact k.evs e he
end

/-- What comes of the two runs. -/
def Out {α β : Type} (F : Fs) (N : Nat) (Q : Rn → α → β → Prop) (ρ : Rn) (v w : World) : Result α → (Array Event → Result β × Array Event) → Prop
  | .ok a v', f => ∃ ρ' b w' u, (∀ es, f es = (.ok b w', es ++ u)) ∧ Q ρ' a b ∧ Stp F N ρ ρ' v w v' w' u
  | .halt (.panic x) v', f => ∃ ρ' x' w' u, (∀ es, f es = (.halt (.panic x') w', es ++ u)) ∧ RelV F ρ' x x' ∧ Stp F N ρ ρ' v w v' w' u
  | .halt h _, _ => Halt.still h

theorem Out.step {α β : Type} {F : Fs} {N : Nat} {Q : Rn → α → β → Prop} {ρ ρ₁ : Rn} {v w v₁ w₁ : World} {u₁ : Array Event} (hd : RelW F N ρ v w) (h : Stp F N ρ ρ₁ v w v₁ w₁ u₁)
    {r : Result α} {f f' : Array Event → Result β × Array Event} (hf : ∀ es, f es = f' (es ++ u₁)) (k : Out F N Q ρ₁ v₁ w₁ r f') : Out F N Q ρ v w r f := by
  cases r with
  | ok a v' =>
    obtain ⟨ρ', b, w', u, h1, h2, h3⟩ := k
    exact ⟨ρ', b, w', u₁ ++ u, fun es => by rw [hf, h1, Array.append_assoc], h2, h.trans h3 hd⟩
  | halt x v' =>
    cases x with
    | panic x =>
      obtain ⟨ρ', b, w', u, h1, h2, h3⟩ := k
      exact ⟨ρ', b, w', u₁ ++ u, fun es => by rw [hf, h1, Array.append_assoc], h2, h.trans h3 hd⟩
    | _ => exact k

section
variable {T : Twin} {F : Fs} {N : Nat} {α β : Type} {ρ : Rn} {v w : World}

theorem modify_get? {α : Type} (a : Array α) (i : Nat) (f : α → α) (j : Nat) : (a.modify i f)[j]? = if i = j then a[j]?.map f else a[j]? := by
  by_cases h : i = j
  · subst h; simp [Array.getElem?_modify]
  · simp [Array.getElem?_modify, h]

theorem cell_rel (hW : RelW F N ρ v w) {a a' : Addr} (ha : RelA ρ a a') :
    (∃ x x', v.cell? a = some x ∧ w.cell? a' = some x' ∧ RelV F ρ x x') ∨ (v.cell? a = none ∧ ∀ (_ : Bool) (what : String), (∃ s, v.noCell a what = .stuck s) ∧ ∀ b t, v.heap[a.block]? ≠ some (.view b t)) := by
  obtain ⟨o, o', h1, h2, ho⟩ := hW.obj _ _ ha.1
  obtain ⟨_, ho2, ho3⟩ := ha
  unfold World.cell? World.noCell
  rw [h1, h2]
  cases ho with
  | @cells p p' t fr hp =>
    simp only [ho2, ho3]
    by_cases hs : a.spot.isSome = true
    · right; simp [hs]
    · simp only [hs, if_false, Bool.false_eq_true]
      cases hx : p[a.off]? with
      | none => right; simp
      | some x =>
        obtain ⟨x', hx', hr⟩ := hp.get hx
        left; exact ⟨x, x', rfl, hx', hr⟩
  | _ => right; simp

theorem far_still {a : Addr} (_ : v.cell? a = none) (h : ∀ (_ : Bool) (what : String), (∃ s, v.noCell a what = .stuck s) ∧ ∀ b t, v.heap[a.block]? ≠ some (.view b t)) (m : Bool) :
    (∃ s, v.farLoad T.v a m = .error (.stuck s)) ∧ ∀ x, ∃ s, v.farStore T.v a x m = .error (.stuck s) := by
  unfold World.farLoad World.farStore
  have hv := (h true "").2
  refine ⟨?_, fun x => ?_⟩
  · split
    · rename_i at_ u heq; exact absurd heq (hv at_ u)
    · obtain ⟨s, hs⟩ := (h true "load: no such cell").1
      exact ⟨s, by rw [hs]⟩
  · split
    · rename_i at_ u heq; exact absurd heq (hv at_ u)
    · obtain ⟨s, hs⟩ := (h true "store: no such cell").1
      exact ⟨s, by rw [hs]⟩

theorem shape_rel (hW : RelW F N ρ v w) {b b' : Nat} (h : ρ.r b b') : v.shape? b = w.shape? b' := by
  obtain ⟨o, o', h1, h2, ho⟩ := hW.obj _ _ h
  unfold World.shape?
  rw [h1, h2]
  cases ho with
  | cells hp => simp [hp.1]
  | _ => rfl
theorem frozen_rel (hW : RelW F N ρ v w) {a a' : Addr} (h : RelA ρ a a') : v.frozen? a = w.frozen? a' := by
  obtain ⟨o, o', h1, h2, ho⟩ := hW.obj _ _ h.1
  unfold World.frozen?
  rw [h1, h2, h.2.1]
  cases ho <;> rfl

/-- a related pair of blocks is written: whatever is put there related -/
theorem RelW.put (hW : RelW F N ρ v w) {b b' : Nat} (hb : ρ.r b b') {v₁ w₁ : World} {o o' : Obj} (ho : RelO F ρ o o')
    (hv : v₁.heap = v.heap.setIfInBounds b o) (hw : w₁.heap = w.heap.setIfInBounds b' o') (hos : w₁.os = v₁.os) : RelW F N ρ v₁ w₁ := by
  have hlt := hW.dom hb
  refine ⟨hW.ok, fun x y hxy => ?_, fun x y hxy => ?_, by rw [hv]; simpa using hW.nv, by rw [hw]; simpa using hW.nw, hos, seq_keep hW.seq (by rw [hw]; simp) (fun c _ hc => by rw [hw]; exact Array.getElem?_setIfInBounds_ne fun (e : b' = c) => hc b (e ▸ hb)) (fun _ _ => .inl) rfl⟩
  · rw [hv, hw]
    by_cases hx : b = x
    · subst hx
      obtain rfl : b' = y := hW.ok.fn _ _ _ hb hxy
      refine ⟨o, o', ?_, ?_, ho⟩
      · rw [Array.getElem?_setIfInBounds_self_of_lt hlt.1]
      · rw [Array.getElem?_setIfInBounds_self_of_lt hlt.2]
    · have hy : b' ≠ y := fun e => hx (hW.ok.inj _ _ _ hb (e ▸ hxy))
      rw [Array.getElem?_setIfInBounds_ne hx, Array.getElem?_setIfInBounds_ne hy]
      exact hW.obj x y hxy
  · rw [hv]
    have hx : b ≠ x := fun e => hW.ok.apart _ _ y (e ▸ hb) hxy
    rw [Array.getElem?_setIfInBounds_ne hx]
    exact hW.tok x y hxy

theorem Stp.put (hW : RelW F N ρ v w) {b b' : Nat} (hb : ρ.r b b') {v₁ w₁ : World} {o o' : Obj} (ho : RelO F ρ o o')
    (hv : v₁ = { v with heap := v.heap.setIfInBounds b o }) (hw : w₁ = { w with heap := w.heap.setIfInBounds b' o' }) {u : Array Event} (hu : ∀ e ∈ u, EvIn ρ e) : Stp F N ρ ρ v w v₁ w₁ u := by
  subst hv hw
  refine ⟨.refl _, hW.put hb ho rfl rfl hW.os, by simp, by simp, fun x y => ⟨.inl, fun x => x.elim id fun y => by simp at y; omega⟩, ⟨rfl, rfl⟩, fun x _ hn => ?_, fun y _ hn => ?_, ⟨rfl, rfl, rfl⟩, ⟨rfl, rfl, rfl⟩, ⟨Nat.le_refl _, rfl⟩, hu⟩
  · exact Array.getElem?_setIfInBounds_ne fun (e : b = x) => hn b' (e ▸ hb)
  · exact Array.getElem?_setIfInBounds_ne fun (e : b' = y) => hn b (e ▸ hb)

theorem Stp.events (hW : RelW F N ρ v w) {u : Array Event} (hu : ∀ e ∈ u, EvIn ρ e) : Stp F N ρ ρ v w v w u :=
  { Stp.refl hW with evs := hu }

theorem RelW.fresh (hW : RelW F N ρ v w) : ρ.Fresh N v.heap.size w.heap.size :=
  ⟨fun b hb => by have := (hW.dom hb).1; omega, fun a ha => by have := (hW.dom ha).2; omega, fun x hx => by have := hW.tdom hx; omega, hW.nv, hW.nw⟩

theorem Stp.alloc (hW : RelW F N ρ v w) {o o' : Obj} (ho : RelO F ρ o o') :
    Stp F N ρ (ρ.add v.heap.size w.heap.size) v w { v with heap := v.heap.push o } { w with heap := w.heap.push o' } #[] := by
  have hsz : (v.heap.push o).size + w.heap.size = v.heap.size + (w.heap.push o').size := by simp; omega
  have hok : (ρ.add v.heap.size w.heap.size).Ok N := hW.ok.add hW.fresh
  refine ⟨Rn.le_add _ _ _, ⟨hok, ?_, fun a x hx => ?_, ?_, ?_, hW.os, seq_keep hW.seq (by simp) (fun c hc _ => by rw [show ({ w with heap := w.heap.push o' } : World).heap[c]? = (w.heap.push o')[c]? from rfl, Array.getElem?_push_lt hc, Array.getElem?_eq_getElem hc]) (fun x c h => h.imp id fun e => by rw [e.2]; exact Nat.le_refl _) rfl⟩, by simp, hsz, fun a b => ?_, ⟨rfl, rfl⟩, fun a ha _ => ?_, fun b hb _ => ?_, ⟨rfl, rfl, rfl⟩, ⟨rfl, rfl, rfl⟩, ⟨Nat.le_refl _, rfl⟩, by simp⟩
  · rintro a b (h | ⟨rfl, rfl⟩)
    · obtain ⟨p, p', h1, h2, h3⟩ := hW.obj a b h
      have := hW.dom h
      refine ⟨p, p', ?_, ?_, h3.mono (Rn.le_add _ _ _)⟩
      · rw [Array.getElem?_push_lt this.1, ← h1, Array.getElem?_eq_getElem this.1]
      · rw [Array.getElem?_push_lt this.2, ← h2, Array.getElem?_eq_getElem this.2]
    · exact ⟨o, o', by simp, by simp, ho.mono (Rn.le_add _ _ _)⟩
  · have := hW.tdom hx
    rw [show ({ v with heap := v.heap.push o } : World).heap[a]? = (v.heap.push o)[a]? from rfl, Array.getElem?_push_lt this, ← hW.tok a x hx, Array.getElem?_eq_getElem this]
  · have := hW.nv; simp; omega
  · have := hW.nw; simp; omega
  · simp only [Rn.add, Array.size_push]
    constructor
    · rintro (h | ⟨rfl, rfl⟩)
      · exact .inl h
      · exact .inr (by omega)
    · rintro (h | h)
      · exact .inl h
      · exact .inr (by omega)
  · show (v.heap.push o)[a]? = _
    rw [Array.getElem?_push_lt ha, Array.getElem?_eq_getElem ha]
  · show (w.heap.push o')[b]? = _
    rw [Array.getElem?_push_lt hb, Array.getElem?_eq_getElem hb]

theorem Stp.draw (hW : RelW F N ρ v w) : Stp F N ρ ρ v w { v with drawn := v.drawn + 1 } { w with drawn := w.drawn + 1 } #[] := by
  refine ⟨.refl _, ⟨hW.ok, hW.obj, hW.tok, hW.nv, hW.nw, hW.os, seq_keep hW.seq (Nat.le_refl _) (fun _ _ _ => rfl) (fun _ _ => .inl) rfl⟩, Nat.le_refl _, rfl, fun a b => ⟨.inl, fun x => x.elim id fun y => ?_⟩, ⟨rfl, rfl⟩, fun _ _ _ => rfl, fun _ _ _ => rfl, ⟨rfl, rfl, rfl⟩, ⟨rfl, rfl, rfl⟩, ⟨Nat.le_succ _, by simp only; omega⟩, by simp⟩
  have h1 : v.heap.size ≤ a := y.1
  have h2 : a < v.heap.size := y.2.1
  omega

theorem env_sys (w : World) : w.sys .env = (.strings w.os.env, w) := by
  obtain ⟨h, t, d, os, o⟩ := w
  simp [World.sys, Kernel.perform, Kernel.lengthOf, Kernel.named, Kernel.ofKernel, Kernel.stamps, Kernel.each, Kernel.env, World.ask, pure, bind, Ask.bind]

theorem SemR0.sound {Q : Rn → α → β → Prop} : ∀ {s : Sem α} {ρ : Rn} {s' : Sem β}, SemR0 T F N Q s ρ s' → ∀ {v w : World}, RelW F N ρ v w →
    v.drawn ≤ (rworld (s.run T.v v)).drawn ∧ (Tp v w ((rworld (s.run T.v v)).drawn - v.drawn) → Out F N Q ρ v w (s.run T.v v) (fun es => s'.runT T.P w es)) := by
  intro s
  induction s with
  | pure a =>
    intro ρ s' h v w hW; cases s' <;> simp only [SemR0] at h
    rename_i b
    exact ⟨Nat.le_refl _, fun _ => ⟨ρ, b, w, #[], fun es => by simp [Sem.runT], h, .refl hW⟩⟩
  | load m a c ih =>
    intro ρ s' h v w hW; cases s' <;> simp only [SemR0] at h
    rename_i m' a' c'
    obtain ⟨rfl, ha, hk⟩ := h
    rcases cell_rel hW ha with ⟨x, x', h1, h2, hx⟩ | ⟨hn, hf⟩
    · have he : Sem.run T.v (.load m' a c) v = (c x).run T.v v := by simp only [Sem.run, h1]
      rw [he]
      obtain ⟨i1, i2⟩ := ih x (hk x x' hx) hW
      refine ⟨i1, fun ht => Out.step hW (Stp.events (u := #[⟨.cell a', false, m' == .atomic⟩]) hW ?_) (fun es => ?_) (i2 ht)⟩
      · intro e he; simp only [List.mem_toArray, List.mem_singleton] at he; subst he; exact ⟨_, ha.1⟩
      · simp only [Sem.runT, h2]; simp
    · obtain ⟨⟨s, hs⟩, _⟩ := far_still (T := T) hn hf (m' == .atomic)
      have he : Sem.run T.v (.load m' a c) v = .halt (.stuck s) v := by simp only [Sem.run, hn, hs]
      rw [he]; exact ⟨Nat.le_refl _, fun _ => trivial⟩
  | store m a x c ih =>
    intro ρ s' h v w hW; cases s' <;> simp only [SemR0] at h
    rename_i m' a' x' c'
    obtain ⟨rfl, ha, hx, hk⟩ := h
    by_cases hagg : (∃ p, x = .agg p) ∨ ∃ p, x = .tuple p
    · have he : ∃ s, Sem.run T.v (.store m' a x c) v = .halt (.stuck s) v := by
        rcases hagg with ⟨p, rfl⟩ | ⟨p, rfl⟩ <;> exact ⟨_, by rw [Sem.run]⟩
      obtain ⟨s, he⟩ := he
      rw [he]; exact ⟨Nat.le_refl _, fun _ => trivial⟩
    have hx1 : ∀ p, x ≠ .agg p := fun p e => hagg (.inl ⟨p, e⟩)
    have hx2 : ∀ p, x ≠ .tuple p := fun p e => hagg (.inr ⟨p, e⟩)
    have hx1' : ∀ p, x' ≠ .agg p := by
      rintro p rfl
      cases hx with
      | flat hf => exact hx1 _ rfl
      | tok hc ht => cases ht
      | mf _ hm => cases hm
      | agg _ _ => exact hx1 _ rfl
    have hx2' : ∀ p, x' ≠ .tuple p := by
      rintro p rfl
      cases hx with
      | flat hf => exact hx2 _ rfl
      | tok hc ht => cases ht
      | mf _ hm => cases hm
      | tuple _ _ => exact hx2 _ rfl
    rcases cell_rel hW ha with ⟨y, y', h1, h2, hy⟩ | ⟨hn, hf⟩
    · have hfz := frozen_rel hW ha
      cases hz : v.frozen? a with
      | true =>
        have he : ∃ s, Sem.run T.v (.store m' a x c) v = .halt (.unsupported (.unsafePointer s)) v := ⟨"a write to bytes that a string shares", by
          rw [Sem.run]
          · simp only [h1, hz, if_true]
          · exact fun p e => hx1 p e
          · exact fun p e => hx2 p e⟩
        obtain ⟨s, he⟩ := he
        rw [he]; exact ⟨Nat.le_refl _, fun _ => trivial⟩
      | false =>
        rw [hz] at hfz
        have he : Sem.run T.v (.store m' a x c) v = c.run T.v (v.setCell a x) := by
          rw [Sem.run]
          · simp [h1, hz]
          · exact fun p e => hx1 p e
          · exact fun p e => hx2 p e
        have he' : ∀ es, Sem.runT T.P (.store m' a' x' c') w es = c'.runT T.P (w.setCell a' x') (es.push ⟨.cell a', true, m' == .atomic⟩) := fun es => by
          rw [Sem.runT]
          · simp [h2, ← hfz]
          · exact fun p e => hx1' p e
          · exact fun p e => hx2' p e
        rw [he]
        -- the two cells
        obtain ⟨o, o', g1, g2, ho⟩ := hW.obj _ _ ha.1
        have hst : Stp F N ρ ρ v w (v.setCell a x) (w.setCell a' x') #[⟨.cell a', true, m' == .atomic⟩] := by
          have hspot : a.spot.isSome = false := by
            unfold World.cell? at h1
            rw [g1] at h1
            cases hsp : a.spot.isSome with
            | false => rfl
            | true => cases o <;> simp [hsp] at h1
          have hlt := hW.dom ha.1
          cases ho with
          | @cells p p' t fr hp =>
            refine Stp.put hW ha.1 (o := .cells (p.setIfInBounds a.off x) t fr) (o' := .cells (p'.setIfInBounds a'.off x') t fr) (.cells ?_) ?_ ?_ ?_
            · rw [ha.2.1]; exact hp.set hx _
            · unfold World.setCell
              congr 1
              apply Array.ext_getElem?
              intro i
              rw [modify_get?]
              by_cases hi : a.block = i
              · subst hi; rw [if_pos rfl, g1, Array.getElem?_setIfInBounds_self_of_lt hlt.1]; simp [hspot]
              · rw [if_neg hi, Array.getElem?_setIfInBounds_ne hi]
            · unfold World.setCell
              congr 1
              apply Array.ext_getElem?
              intro i
              rw [modify_get?]
              by_cases hi : a'.block = i
              · subst hi; rw [if_pos rfl, g2, Array.getElem?_setIfInBounds_self_of_lt hlt.2]; simp [ha.2.2, hspot]
              · rw [if_neg hi, Array.getElem?_setIfInBounds_ne hi]
            · intro e he; simp only [List.mem_toArray, List.mem_singleton] at he; subst he; exact ⟨_, ha.1⟩
          | _ => unfold World.cell? at h1; rw [g1] at h1; simp at h1
        obtain ⟨i1, i2⟩ := ih hk hst.rel
        exact ⟨i1, fun ht => Out.step hW hst (fun es => by rw [he']; simp) (i2 ht)⟩
    · obtain ⟨_, hs⟩ := far_still (T := T) hn hf (m' == .atomic)
      obtain ⟨s, hs⟩ := hs x
      have he : Sem.run T.v (.store m' a x c) v = .halt (.stuck s) v := by
        rw [Sem.run]
        · simp only [hn, hs]
        · exact fun p e => hx1 p e
        · exact fun p e => hx2 p e
      rw [he]; exact ⟨Nat.le_refl _, fun _ => trivial⟩
  | new o c ih =>
    intro ρ s' h v w hW; cases s' <;> simp only [SemR0] at h
    rename_i o' c'
    have hst := Stp.alloc hW h.1
    obtain ⟨i1, i2⟩ := ih _ (h.2 v.heap.size w.heap.size hW.fresh) hst.rel
    exact ⟨i1, fun ht => Out.step hW hst (fun es => by simp [Sem.runT]) (i2 ht)⟩
  | shape b c ih =>
    intro ρ s' h v w hW
    unfold SemR0 at h
    rcases h with h | h
    · obtain ⟨x, e, hs⟩ := SemDead.run (T := T) (s := .shape b c) h v
      rw [e]
      refine ⟨Nat.le_refl _, fun _ => ?_⟩
      cases x <;> first | exact hs | exact hs.elim
    cases s' <;> simp only at h
    rename_i b' c'
    have hs := shape_rel hW h.1
    obtain ⟨i1, i2⟩ := ih (v.shape? b) (h.2 _) hW
    exact ⟨i1, fun ht => Out.step hW (.refl hW) (fun es => by simp [Sem.runT, hs]) (i2 ht)⟩
  | freeze a n c ih => intro ρ s' h; exact h.elim
  | frozen a c ih =>
    intro ρ s' h v w hW
    unfold SemR0 at h
    rcases h with h | h
    · obtain ⟨x, e, hs⟩ := SemDead.run (T := T) (s := .frozen a c) h v
      rw [e]
      refine ⟨Nat.le_refl _, fun _ => ?_⟩
      cases x <;> first | exact hs | exact hs.elim
    cases s' <;> simp only at h
    rename_i a' c'
    have hs := frozen_rel hW h.1
    obtain ⟨i1, i2⟩ := ih (v.frozen? a) (h.2 _) hW
    exact ⟨i1, fun ht => Out.step hW (.refl hW) (fun es => by simp [Sem.runT, hs]) (i2 ht)⟩
  | getObj b c ih =>
    intro ρ s' h v w hW; cases s' <;> simp only [SemR0] at h
    rename_i b' c'
    obtain ⟨o, o', g1, g2, ho⟩ := hW.obj _ _ h.1
    by_cases hc : ∃ p t f, o = .cells p t f
    · obtain ⟨p, t, f, rfl⟩ := hc
      have he : Sem.run T.v (.getObj b c) v = .halt (.stuck "getObj: a row of cells") v := by simp only [Sem.run, g1]
      rw [he]; exact ⟨Nat.le_refl _, fun _ => trivial⟩
    · have hc' : ∀ p t f, o' ≠ .cells p t f := by
        rintro p t f rfl
        cases ho
        exact hc ⟨_, _, _, rfl⟩
      have he : Sem.run T.v (.getObj b c) v = (c o).run T.v v := by
        simp only [Sem.run, g1]
        split
        · rename_i heq; cases heq; exact absurd ⟨_, _, _, rfl⟩ hc
        · rename_i heq; cases heq; rfl
        · rename_i heq; cases heq
      have he' : ∀ es, Sem.runT T.P (.getObj b' c') w es = (c' o').runT T.P w (es.push ⟨.obj b', false, o'.isChan⟩) := fun es => by
        simp only [Sem.runT, g2]
        all_goals
          split
          · rename_i heq; cases heq; exact absurd rfl (hc' _ _ _)
          · rename_i heq; cases heq; rfl
          · rename_i heq; cases heq
      rw [he]
      obtain ⟨i1, i2⟩ := ih o (h.2 o o' ho) hW
      refine ⟨i1, fun ht => Out.step hW (Stp.events (u := #[⟨.obj b', false, o'.isChan⟩]) hW ?_) (fun es => ?_) (i2 ht)⟩
      · intro e he; simp only [List.mem_toArray, List.mem_singleton] at he; subst he; exact ⟨⟨_, h.1⟩, by simp⟩
      · rw [he']; simp
  | setObj b o c ih =>
    intro ρ s' h v w hW; cases s' <;> simp only [SemR0] at h
    rename_i b' o₂ c'
    obtain ⟨hb, ho, hch, hnc, hk⟩ := h
    obtain ⟨p, p', g1, g2, hp⟩ := hW.obj _ _ hb
    have hch' : o₂.isChan = false := by cases ho <;> simp_all [Obj.isChan]
    by_cases hc : ∃ q t f, p = .cells q t f
    · obtain ⟨q, t, f, rfl⟩ := hc
      have he : Sem.run T.v (.setObj b o c) v = .halt (.stuck "setObj: a row of cells") v := by simp only [Sem.run, g1]
      rw [he]; exact ⟨Nat.le_refl _, fun _ => trivial⟩
    · have hc' : ∀ q t f, p' ≠ .cells q t f := by
        rintro q t f rfl
        cases hp
        exact hc ⟨_, _, _, rfl⟩
      have he : Sem.run T.v (.setObj b o c) v = c.run T.v { v with heap := v.heap.setIfInBounds b o } := by
        simp only [Sem.run, g1]
        split
        · rename_i heq; cases heq; exact absurd ⟨_, _, _, rfl⟩ hc
        · rfl
        · rename_i heq; cases heq
      have he' : ∀ es, Sem.runT T.P (.setObj b' o₂ c') w es = c'.runT T.P { w with heap := w.heap.setIfInBounds b' o₂ } (es.push ⟨.obj b', true, o₂.isChan⟩) := fun es => by
        simp only [Sem.runT, g2]
        all_goals
          split
          · rename_i heq; cases heq; exact absurd rfl (hc' _ _ _)
          · rfl
          · rename_i heq; cases heq
      rw [he]
      have hst : Stp F N ρ ρ v w { v with heap := v.heap.setIfInBounds b o } { w with heap := w.heap.setIfInBounds b' o₂ } #[⟨.obj b', true, o₂.isChan⟩] :=
        Stp.put hW hb ho rfl rfl (by intro e he; simp only [List.mem_toArray, List.mem_singleton] at he; subst he; exact ⟨⟨_, hb⟩, by simp [hch']⟩)
      obtain ⟨i1, i2⟩ := ih hk hst.rel
      exact ⟨i1, fun ht => Out.step hW hst (fun es => by rw [he']; simp) (i2 ht)⟩
  | choose q c ih =>
    intro ρ s' h v w hW; cases s' <;> simp only [SemR0] at h
    rename_i q' c'
    obtain ⟨rfl, hk⟩ := h
    cases hq : q'.forced with
    | true =>
      have he : Sem.run T.v (.choose q' c) v = (c 0).run T.v v := by simp only [Sem.run, hq, if_true]
      rw [he]
      obtain ⟨i1, i2⟩ := ih 0 (hk 0) hW
      exact ⟨i1, fun ht => Out.step hW (.refl hW) (fun es => by simp [Sem.runT, hq]) (i2 ht)⟩
    | false =>
      have he : Sem.run T.v (.choose q' c) v = (c (q'.cut (v.tape v.drawn q'))).run T.v { v with drawn := v.drawn + 1 } := by simp [Sem.run, hq]
      rw [he]
      have hst := Stp.draw hW
      obtain ⟨i1, i2⟩ := ih (q'.cut (v.tape v.drawn q')) (hk _) hst.rel
      have i1' : v.drawn + 1 ≤ (rworld ((c (q'.cut (v.tape v.drawn q'))).run T.v { v with drawn := v.drawn + 1 })).drawn := i1
      refine ⟨by omega, fun ht => ?_⟩
      have e0 : v.tape v.drawn q' = w.tape w.drawn q' := ht 0 (by omega) q'
      refine Out.step hW hst (f' := fun es => (c' (q'.cut (v.tape v.drawn q'))).runT T.P { w with drawn := w.drawn + 1 } es) (fun es => by simp [Sem.runT, hq, e0]) (i2 fun i hi q => ?_)
      have := ht (i + 1) (by simp only at hi; omega) q
      simp only
      rw [Nat.add_assoc, Nat.add_comm 1 i, Nat.add_assoc, Nat.add_comm 1 i]
      exact this
  | sys c k ih =>
    intro ρ s' h v w hW
    cases c <;> try exact h.elim
    cases s' <;> try exact h.elim
    rename_i c₂ k₂
    cases c₂ <;> try exact h.elim
    have he : Sem.run T.v (.sys .env k) v = (k (.strings v.os.env)).run T.v v := by simp only [Sem.run, env_sys]
    rw [he]
    obtain ⟨i1, i2⟩ := ih (.strings v.os.env) (h _) hW
    refine ⟨i1, fun ht => Out.step hW (Stp.events (u := #[⟨.output, true, false⟩]) hW ?_) (fun es => ?_) (i2 ht)⟩
    · intro e he; simp only [List.mem_toArray, List.mem_singleton] at he; subst he; trivial
    · simp only [Sem.runT, env_sys, hW.os]; simp
  | program c ih =>
    intro ρ s' h v w hW
    rcases h with h | h
    · obtain ⟨x, e, hs⟩ := h.run v
      have he : Sem.run T.v (.program c) v = .halt x v := by rw [Sem.run]; exact e
      rw [he]
      refine ⟨Nat.le_refl _, fun _ => ?_⟩
      cases x <;> first | exact hs | exact hs.elim
    cases s' <;> simp only at h
    rename_i c'
    obtain ⟨i1, i2⟩ := ih T.v h hW
    exact ⟨i1, fun ht => Out.step hW (.refl hW) (fun es => by simp [Sem.runT]) (i2 ht)⟩
  | mark m c ih =>
    intro ρ s' h v w hW
    rcases h with h | h
    · obtain ⟨x, e, hs⟩ := SemDead.run (T := T) (s := .mark m c) h v
      rw [e]
      refine ⟨Nat.le_refl _, fun _ => ?_⟩
      cases x <;> first | exact hs | exact hs.elim
    cases s' <;> simp only at h
    rename_i m' c'
    obtain ⟨rfl, hm, hk⟩ := h
    obtain ⟨i1, i2⟩ := ih hk hW
    refine ⟨i1, fun ht => Out.step hW (Stp.events (u := #[⟨.mark m', false, true⟩]) hW ?_) (fun es => by simp [Sem.runT]) (i2 ht)⟩
    intro e he; simp only [List.mem_toArray, List.mem_singleton] at he; subst he; exact hm
  | halt x =>
    intro ρ s' h v w hW
    cases x <;> simp only [SemR0, HaltRel] at h
    case panic x =>
      obtain ⟨x', rfl, hx⟩ := h
      exact ⟨Nat.le_refl _, fun _ => ⟨ρ, x', w, #[], fun es => by simp [Sem.runT], hx, .refl hW⟩⟩
    all_goals exact ⟨Nat.le_refl _, fun _ => h⟩
end

end Go.Proofs.Ytcdhmnefmbcmaaa
