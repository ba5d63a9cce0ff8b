/-
  Ranges over functions and deferred calls, side by side; the code that may be met; frames, side by side; no condition but what each law names.
  A step of a goroutine, side by side: whatever the virtual one does, the true one does too; no condition but what each law names.
  A step of a goroutine as a whole, side by side; no condition but what each law names.
-/
import Derived.Test.YtcdhmnefmbcmaaaJag
namespace Go.Proofs.Ytcdhmnefmbcmaaa
open Go Go.Conc

section
variable {T : Twin} {F : Fs} {N : Nat} {ρ : Rn}

theorem rel_setLoop {l l' : Nat} (h : ρ.r l l') {r r' : Loop} (hr : RelL F ρ r r') : SemRel T F N QEq (setObj l (.loop r)) ρ (setObj l' (.loop r')) :=
  fun _ => ⟨h, .loop hr, rfl, by simp, rfl⟩
theorem rel_beginRound {l l' : Nat} (h : ρ.r l l') : SemRel T F N QEq (Instr.beginRound l) ρ (Instr.beginRound l') := by
  unfold Instr.beginRound
  refine (rel_getLoop h).bind fun ρ₁ r r' l1 hr => ?_
  refine (rel_setLoop (l1.r _ _ h) (r := { r with state := .busy }) (r' := { r' with state := .busy }) ⟨rfl, hr.pending, hr.fn, hr.tmps, hr.params, hr.few, hr.assign, hr.body, hr.okF, hr.okA, hr.okB, hr.okJ, hr.defers⟩).bind fun ρ₂ _ _ l2 _ => ?_
  rw [hr.state]
  cases r.state
  · exact fun _ => rfl
  · exact rel_runtimePanic (e := .error _) trivial
  · exact rel_runtimePanic (e := .error _) trivial
  · exact rel_runtimePanic (e := .error _) trivial
theorem rel_endRound {l l' : Nat} (h : ρ.r l l') {j : Option Code} (hj : (∃ x, F.c x) → ∀ c, j = some c → F.c c) : SemRel T F N (QV F) (Instr.endRound l j) ρ (Instr.endRound l' j) := by
  unfold Instr.endRound
  refine (rel_getLoop h).bind fun ρ₁ r r' l1 hr => ?_
  refine (rel_setLoop (l1.r _ _ h) (r := { r with state := if j.isNone then .ready else .done, pending := j }) (r' := { r' with state := if j.isNone then .ready else .done, pending := j })
    ⟨rfl, rfl, hr.fn, hr.tmps, hr.params, hr.few, hr.assign, hr.body, hr.okF, hr.okA, hr.okB, hj ⟨_, hr.okA⟩, hr.defers⟩).bind fun ρ₂ _ _ l2 _ => fun _ => .flat rfl
theorem rel_endLoop {l l' : Nat} (h : ρ.r l l') : SemRel T F N (fun _ j j' => j = j' ∧ ∀ c, j = some c → F.c c) (Instr.endLoop l) ρ (Instr.endLoop l') := by
  unfold Instr.endLoop
  refine (rel_getLoop h).bind fun ρ₁ r r' l1 hr => ?_
  have key : SemRel T F N (fun _ j j' => j = j' ∧ ∀ c, j = some c → F.c c) (do setObj l (.loop { r with state := .exhausted }); pure r.pending : Sem (Option Code)) ρ₁ (do setObj l' (.loop { r' with state := .exhausted }); pure r'.pending) :=
    (rel_setLoop (l1.r _ _ h) (r := { r with state := .exhausted }) (r' := { r' with state := .exhausted }) ⟨rfl, hr.pending, hr.fn, hr.tmps, hr.params, hr.few, hr.assign, hr.body, hr.okF, hr.okA, hr.okB, hr.okJ, hr.defers⟩).bind
      fun ρ₂ _ _ l2 _ => fun _ => ⟨hr.pending.symm, hr.okJ⟩
  rw [hr.state]
  by_cases hb : (r.state == .busy) = true
  · simp only [hb, if_true]
    exact SemRel.bind (Q := fun _ _ _ => False) (rel_runtimePanic (e := .error _) trivial) fun _ _ _ _ e => e.elim
  · simp only [hb, if_false, Bool.false_eq_true]
    exact key
theorem rel_enterLoop (f : FuncId) (hF : F.r f) {p p' : Array Value} (hp : RelVs F ρ p p') (ps : Array Tmp) (hps : ps.size ≤ 2) {a b : Code} (ha : F.c a) (hb : F.c b) {o o' : Option Nat} (ho : match o, o' with | none, none => True | some l, some l' => ρ.r l l' | _, _ => False) :
    SemRel T F N (fun ρ (x y : Nat × List Deferred) => ρ.r x.1 y.1 ∧ All2 (RelD F ρ) x.2 y.2 ∧ ∀ d ∈ x.2, ∃ b, d.target = .collected b) (Instr.enterLoop f p ps a b o) ρ (Instr.enterLoop f p' ps a b o') := by
  cases o <;> cases o' <;> first | exact ho.elim | skip
  · have e : ∀ t : Array Value, Instr.enterLoop f t ps a b none = (newObj (.deferred (some [])) >>= fun r => newObj (.loop { state := .ready, pending := none, fn := f, tmps := t, params := ps, assign := a, body := b, defers := r }) >>= fun l => pure (l, [{ target := .collected r, args := #[] }]) : Sem (Nat × List Deferred)) := fun _ => rfl
    rw [e, e]
    refine SemRel.bind (Q := fun ρ (x y : Nat) => ρ.r x y) (fun _ => ⟨.deferred, fun n n' _ => .inr ⟨rfl, rfl⟩⟩) fun ρ₁ x y l1 hx => ?_
    refine SemRel.bind (Q := fun ρ (x y : Nat) => ρ.r x y) (fun _ => ⟨.loop ⟨rfl, rfl, rfl, hp.mono l1, rfl, hps, rfl, rfl, hF, ha, hb, fun j hj => (by cases hj), hx⟩, fun n n' _ => .inr ⟨rfl, rfl⟩⟩) fun ρ₂ x' y' l2 hxy => fun _ => ⟨hxy, ?_, fun d hd => ⟨x, by simp only [List.mem_singleton] at hd; rw [hd]⟩⟩
    exact .cons (.mk (.collected (l2.r _ _ hx)) RelVs.nil) .nil
  · rename_i l l'
    have e : ∀ (t : Array Value) (l : Nat), Instr.enterLoop f t ps a b (some l) = (Instr.getLoop l >>= fun r => newObj (.loop { state := .ready, pending := none, fn := f, tmps := t, params := ps, assign := a, body := b, defers := r.defers }) >>= fun l => pure (l, []) : Sem (Nat × List Deferred)) := fun _ _ => rfl
    rw [e, e]
    refine (rel_getLoop ho).bind fun ρ₁ r r' l1 hr => ?_
    refine SemRel.bind (Q := fun ρ (x y : Nat) => ρ.r x y) (fun _ => ⟨.loop ⟨rfl, rfl, rfl, hp.mono l1, rfl, hps, rfl, rfl, hF, ha, hb, fun j hj => (by cases hj), hr.defers⟩, fun n n' _ => .inr ⟨rfl, rfl⟩⟩) fun ρ₂ x' y' l2 hxy => fun _ => ⟨hxy, .nil, fun d hd => (by cases hd)⟩
theorem rel_takeDeferred {b b' : Nat} (h : ρ.r b b') : SemRel T F N (fun _ x y => x = [] ∧ y = []) (Instr.takeDeferred b) ρ (Instr.takeDeferred b') := by
  unfold Instr.takeDeferred
  refine SemRel.bind (Q := fun ρ => RelO F ρ) (fun _ => ⟨h, fun o o' ho => ho⟩) fun ρ₁ o o' l1 ho => ?_
  cases ho with
  | deferred =>
    refine SemRel.bind (Q := QEq) (fun _ => ⟨l1.r _ _ h, .deferredN, rfl, by simp, rfl⟩) fun ρ₂ _ _ l2 _ => fun _ => ?_
    exact ⟨rfl, rfl⟩
  | _ => exact fun _ => trivial
theorem rel_results (fn : Func) {p p' : Array Value} (hp : RelVs F ρ p p') : SemRel T F N (QV F) (results fn p) ρ (results fn p') := by
  unfold results
  have key : ∀ (l : List ResultVar) {ρ : Rn}, RelVs F ρ p p' → SemRel T F N (fun ρ (x y : List Value) => RelVs F ρ x.toArray y.toArray)
      (l.mapM (fun | .tmp t => pure (p.getD t undef) | .cell a t => do loadVar t (← asAddr (p.getD a undef)) : ResultVar → Sem Value)) ρ
      (l.mapM (fun | .tmp t => pure (p'.getD t undef) | .cell a t => do loadVar t (← asAddr (p'.getD a undef)) : ResultVar → Sem Value)) := by
    intro l
    induction l with
    | nil => intro ρ _; rw [List.mapM_nil, List.mapM_nil]; exact fun _ => RelVs.nil
    | cons r l ih =>
      intro ρ hp
      rw [List.mapM_cons, List.mapM_cons]
      refine SemRel.bind (Q := QV F) ?_ fun ρ₁ x y l1 hx => ?_
      · cases r with
        | tmp t => exact fun _ => hp.getD t
        | cell a t => exact (rel_asAddr (hp.getD a)).bind fun ρ₁ x y l1 hx => rel_loadVar t hx
      · refine (ih (hp.mono l1)).bind fun ρ₂ xs ys l2 hxs => fun _ => ?_
        refine ⟨by have := hxs.1; simpa using this, fun i v v' h1 h2 => ?_⟩
        cases i with
        | zero => simp at h1 h2; subst h1 h2; exact hx.mono l2
        | succ i => exact hxs.2 i v v' (by simpa using h1) (by simpa using h2)
  rw [Array.mapM_eq_mapM_toList, Array.mapM_eq_mapM_toList]
  refine SemRel.bind (Q := fun ρ (x y : Array Value) => RelVs F ρ x y) ((key fn.results.toList hp).bind fun ρ₁ x y l1 h => fun _ => h) fun ρ₁ x y l1 h => fun _ => ?_
  show RelV F ρ₁ (if h : x.size = 1 then x[0] else .tuple x) (if h : y.size = 1 then y[0] else .tuple y)
  by_cases h1 : x.size = 1
  · have h2 : y.size = 1 := h.1 ▸ h1
    rw [dif_pos h1, dif_pos h2]
    exact h.2 0 _ _ (Array.getElem?_eq_getElem (by omega)) (Array.getElem?_eq_getElem (by omega))
  · have h2 : ¬ y.size = 1 := h.1 ▸ h1
    rw [dif_neg h1, dif_neg h2]
    exact .tuple h.1 h.2
end


/-- which code may be met; d: may it hold a defer statement -/
def cOk (P : Program) (fb : Fb) (G : Nat) (d : Bool) : Code → Bool
  | .skip | .exit _ | .label _ | .goto _ | .ret => true
  | .region _ ops _ => ops.all fun o => opOk P fb G o.op && (d || !(match o.op with | .defer _ => true | _ => false))
  | .seq a b => cOk P fb G d a && cOk P fb G d b
  | .cond c a b => opdOk fb G c && cOk P fb G d a && cOk P fb G d b
  | .block _ c | .loop c | .scope c => cOk P fb G d c
  | .rangeFunc f ps a b => fb.l && (opdOk fb G f && decide (1 ≤ fb.m)) && decide (ps.size ≤ 2) && cOk P fb G false a && cOk P fb G false b
  | .refuse _ => true

/-- the kit of what may be met: program's tables, functions, variables -/
structure Kit where
  P : Program
  fb : Fb
  G : Nat
  /-- functions that have another form on the virtual side -/
  X : FuncId → Bool
  z : FuncId
abbrev Kit.F (K : Kit) : Fs := { f := fun f => K.fb f = true, v := fun f => K.fb.v f = true, c := fun c => cOk K.P K.fb K.G false c = true ∧ K.fb.l = true, r := fun f => (K.fb f = true ∧ K.X f = false) ∧ K.fb.l = true, z := K.z, m := K.fb.m, a := fun f n => arOk K.fb f n = true, d := K.fb.d = true }

inductive RelI (K : Kit) (d : Bool) (ρ : Rn) : Item → Item → Prop
  | code {c : Code} : cOk K.P K.fb K.G d c = true → RelI K d ρ (.code c) (.code c)
  | inBlock {n : Nat} : RelI K d ρ (.inBlock n) (.inBlock n)
  | inLoop {c : Code} : cOk K.P K.fb K.G d c = true → RelI K d ρ (.inLoop c) (.inLoop c)
  | inScope {c : Code} : cOk K.P K.fb K.G d c = true → RelI K d ρ (.inScope c) (.inScope c)
  | inRegion {ops : Array Oper} {l : List Nat} : cOk K.P K.fb K.G d (.region 0 ops false) = true → RelI K d ρ (.inRegion ops l) (.inRegion ops l)
  | inRangeFunc {l l' : Nat} : ρ.r l l' → RelI K d ρ (.inRangeFunc l) (.inRangeFunc l')
  | endRangeFunc {l l' : Nat} : ρ.r l l' → RelI K d ρ (.endRangeFunc l) (.endRangeFunc l')
  | beginRound : RelI K d ρ .beginRound .beginRound

structure RelP (F : Fs) (ρ : Rn) (e e' : PanicEntry) : Prop where
  v : RelV F ρ e.v e'.v
  r : e'.recovered = e.recovered
  g : e.goexit = false ∧ e'.goexit = false
  u : e.recovered = false
inductive RelM (F : Fs) (ρ : Rn) : FrameMode → FrameMode → Prop
  | run : RelM F ρ .run .run
  | returning : RelM F ρ .returning .returning
  | panicking {c c' : List PanicEntry} : All2 (RelP F ρ) c c' → RelM F ρ (.panicking c) (.panicking c')

def RelRo (ρ : Rn) : Option Nat → Option Nat → Prop
  | none, none => True
  | some l, some l' => ρ.r l l'
  | _, _ => False

/-- frames, side by side: of a function that is the same on both sides -/
structure RelFr (K : Kit) (T : Twin) (ρ : Rn) (f f' : Frame) : Prop where
  fn : f'.fn = f.fn
  ok : K.fb f.fn = true ∧ K.X f.fn = false
  tmps : RelVs K.F ρ f.tmps f'.tmps
  todo : All2 (RelI K f.roundOf.isNone ρ) f.todo f'.todo
  defers : All2 (RelD K.F ρ) f.defers f'.defers
  mode : RelM K.F ρ f.mode f'.mode
  kind : f'.kind = f.kind ∧ (f.kind = .normal ∨ f.kind = .deferred)
  round : RelRo ρ f.roundOf f'.roundOf
  nd : ∀ d ∈ f.defers, (K.fb.l = true ∧ ∃ b, d.target = .collected b) ∨ K.fb.d = true

theorem RelFr.nodef {K : Kit} {T : Twin} {ρ : Rn} {f f' : Frame} (h : RelFr K T ρ f f') (hl : K.fb.l = false) (hd : K.fb.d = false) : f.defers = [] := by
  cases e : f.defers with
  | nil => rfl
  | cons d l =>
    rcases h.nd d (by rw [e]; exact List.mem_cons_self ..) with ⟨x, _⟩ | x
    · rw [hl] at x; cases x
    · rw [hd] at x; cases x
section
variable {K : Kit} {T : Twin} {ρ ρ' : Rn} {d : Bool}
theorem RelI.mono (h : ρ.le ρ') {i i' : Item} (k : RelI K d ρ i i') : RelI K d ρ' i i' := by
  cases k with
  | code a => exact .code a
  | inBlock => exact .inBlock
  | inLoop a => exact .inLoop a
  | inScope a => exact .inScope a
  | inRegion a => exact .inRegion a
  | inRangeFunc a => exact .inRangeFunc (h.r _ _ a)
  | endRangeFunc a => exact .endRangeFunc (h.r _ _ a)
  | beginRound => exact .beginRound
theorem RelM.mono {F : Fs} (h : ρ.le ρ') {i i' : FrameMode} (k : RelM F ρ i i') : RelM F ρ' i i' := by
  cases k with
  | run => exact .run
  | returning => exact .returning
  | panicking a => exact .panicking (forall2_mono (fun _ _ x => ⟨x.v.mono h, x.r, x.g, x.u⟩) a)
theorem RelRo.mono (h : ρ.le ρ') {o o' : Option Nat} (k : RelRo ρ o o') : RelRo ρ' o o' := by
  cases o <;> cases o' <;> first | exact k.elim | trivial | exact h.r _ _ k
theorem RelFr.mono (h : ρ.le ρ') {f f' : Frame} (k : RelFr K T ρ f f') : RelFr K T ρ' f f' :=
  ⟨k.fn, k.ok, k.tmps.mono h, forall2_mono (fun _ _ x => x.mono h) k.todo, forall2_mono (fun _ _ x => x.mono' (.refl _) h) k.defers, k.mode.mono h, k.kind, k.round.mono h, k.nd⟩

theorem RelFr.ev {f f' : Frame} (k : RelFr K T ρ f f') (hG : ∀ g, g < K.G → ρ.r g g) : RelEv K.F ρ K.fb K.G f.eval f'.eval := by
  intro x hx
  cases x with
  | tmp t => exact k.tmps.getD t
  | const v => exact closed_rel hx
  | global g => exact .ptr ⟨hG g (by simpa [opdOk] using hx), rfl, rfl⟩
  | func f => exact .func (by simp only [opdOk, Bool.and_eq_true] at hx; exact hx.1) (by simp only [opdOk, Bool.and_eq_true] at hx; exact hx.2) rfl (fun i v v' h => by simp at h) rfl (fun i v v' h => by simp at h)

theorem RelI.findLabel {c : Code} : ∀ {l : Nat} {r : Code}, cOk K.P K.fb K.G d c = true → Go.findLabel c l = some r → cOk K.P K.fb K.G d r = true := by
  induction c with
  | seq a b iha ihb =>
    intro l r h e
    simp only [cOk, Bool.and_eq_true] at h
    simp only [Go.findLabel] at e
    split at e
    · rename_i x hx
      cases e
      simp only [cOk, Bool.and_eq_true]
      exact ⟨iha h.1 hx, h.2⟩
    · exact ihb h.2 e
  | label l' =>
    intro l r h e
    simp only [Go.findLabel] at e
    split at e
    · cases e; rfl
    · cases e
  | _ => intro l r h e; simp [Go.findLabel] at e

theorem all2_exitTo {id : Nat} {k k' : List Item} (h : All2 (RelI K d ρ) k k') : match exitTo id k, exitTo id k' with
    | none, none => True
    | some a, some b => All2 (RelI K d ρ) a b
    | _, _ => False := by
  induction h with
  | nil => exact trivial
  | cons hi hl ih =>
    cases hi <;> simp only [exitTo] <;> first | exact ih | skip
    rename_i n
    by_cases hn : (n == id) = true
    · simp only [hn, if_true]; exact hl
    · simp only [hn, if_false, Bool.false_eq_true]; exact ih
theorem all2_gotoIn {id : Nat} {k k' : List Item} (h : All2 (RelI K d ρ) k k') : match gotoIn id k, gotoIn id k' with
    | none, none => True
    | some a, some b => All2 (RelI K d ρ) a b
    | _, _ => False := by
  induction h with
  | nil => exact trivial
  | cons hi hl ih =>
    cases hi <;> simp only [gotoIn] <;> first | exact ih | skip
    rename_i c hc
    cases hf : Go.findLabel c id with
    | none => exact ih
    | some r => exact .cons (.code (RelI.findLabel hc hf)) (.cons (.inScope hc) hl)
end

end Go.Proofs.Ytcdhmnefmbcmaaa

namespace Go.Proofs.Ytcdhmnefmbcmaaa
open Go Go.Conc

section
variable {T : Twin} {F : Fs} {N : Nat} {ρ : Rn} {α β : Type} {v w : World}

def Res (F : Fs) (N : Nat) (Q : Rn → α → β → Prop) (ρ : Rn) (v w : World) (r : Result α) (r' : Result β × Array Event) : Prop :=
  match r with
  | .ok a v' => ∃ ρ' b w' u, r' = (.ok b w', u) ∧ Q ρ' a b ∧ Stp F N ρ ρ' v w v' w' u
  | .halt (.panic x) v' => ∃ ρ' x' w' u, r' = (.halt (.panic x') w', u) ∧ RelV F ρ' x x' ∧ Stp F N ρ ρ' v w v' w' u
  | .halt h _ => Halt.still h

theorem SemRel.sound {Q : Rn → α → β → Prop} {s : Sem α} {s' : Sem β} (h : SemRel T F N Q s ρ s') (hW : RelW F N ρ v w) (ht : Tp v w ((rworld (s.run T.v v)).drawn - v.drawn)) :
    Res F N Q ρ v w (s.run T.v v) (s'.runT T.P w #[]) := by
  have := (SemR0.sound (h hW.ok) hW).2 ht
  unfold Out at this
  unfold Res
  generalize s.run T.v v = r at this ⊢
  cases r with
  | ok a v' =>
    obtain ⟨ρ', b, w', u, h1, h2, h3⟩ := this
    exact ⟨ρ', b, w', u, by have := h1 #[]; simpa using this, h2, h3⟩
  | halt x v' =>
    cases x with
    | panic x =>
      obtain ⟨ρ', b, w', u, h1, h2, h3⟩ := this
      exact ⟨ρ', b, w', u, by have := h1 #[]; simpa using this, h2, h3⟩
    | _ => exact this

/-- the true world with the virtual one's answers ahead -/
def tied (v w : World) : World := { w with tape := fun i q => v.tape (v.drawn + (i - w.drawn)) q }
theorem RelW.tied (hW : RelW F N ρ v w) : RelW F N ρ v (tied v w) := ⟨hW.ok, hW.obj, hW.tok, hW.nv, hW.nw, hW.os, seq_keep hW.seq (Nat.le_refl _) (fun _ _ _ => rfl) (fun _ _ => .inl) rfl⟩
theorem SemRel.sort {Q : Rn → α → β → Prop} {s : Sem α} {s' : Sem β} (h : SemRel T F N Q s ρ s') (hW : RelW F N ρ v w) :
    match s.run T.v v with
    | .ok a _ => ∃ ρ' b, Q ρ' a b
    | .halt (.panic _) _ => True
    | .halt h _ => Halt.still h := by
  have := h.sound hW.tied (fun i _ q => by simp [Go.Proofs.Ytcdhmnefmbcmaaa.tied])
  unfold Res at this
  generalize s.run T.v v = r at this
  cases r with
  | ok a v' => obtain ⟨ρ', b, _, _, _, hq, _⟩ := this; exact ⟨ρ', b, hq⟩
  | halt x v' => cases x <;> first | trivial | exact this

theorem seen_sub {p : Program} {fn : FuncId} {es : Array Event} {e : Event} (h : e ∈ seen p fn es) : e ∈ es := by
  unfold seen at h
  obtain ⟨l⟩ := es
  simp only [List.size_toArray, List.foldl_toArray'] at h
  have key : ∀ (l : List Event) (q : Bool) (kept : Array Event), e ∈ (l.foldl (fun (x : Bool × Array Event) e => match e.loc with
      | .mark (.extern f) => ((p.funcs[f]?).any (·.norace), x.2)
      | _ => (x.1, if x.1 && !e.sync then x.2 else x.2.push e)) (q, kept)).2 → e ∈ kept ∨ e ∈ l := by
    intro l
    induction l with
    | nil => intro q kept h; exact .inl h
    | cons a l ih =>
      intro q kept h
      rw [List.foldl_cons] at h
      rcases ih _ _ h with h1 | h1
      · split at h1
        · exact .inl h1
        · split at h1
          · exact .inl h1
          · rcases Array.mem_push.1 h1 with h2 | h2
            · exact .inl h2
            · exact .inr (by simp [h2])
      · exact .inr (by simp [h1])
  rcases key l _ #[] h with h1 | h1
  · simp at h1
  · simpa using h1
theorem Stp.sub {ρ' : Rn} {v' w' : World} {u u' : Array Event} (h : Stp F N ρ ρ' v w v' w' u) (k : ∀ e ∈ u', e ∈ u) : Stp F N ρ ρ' v w v' w' u' :=
  { h with evs := fun e he => h.evs e (k e he) }
end

section
variable {K : Kit} {T : Twin} {ρ : Rn}
theorem RelFr.finish {f f' : Frame} (k : RelFr K T ρ f f') {x x' : Value} (hx : RelV K.F ρ x x') : RelFr K T ρ (f.finish x) (f'.finish x') := by
  have ht := k.todo
  unfold Frame.finish
  cases e : f.todo with
  | nil => rw [e] at ht; cases e' : f'.todo with
    | nil => exact k
    | cons _ _ => rw [e'] at ht; cases ht
  | cons i l =>
    rw [e] at ht
    cases e' : f'.todo with
    | nil => rw [e'] at ht; cases ht
    | cons i' l' =>
      rw [e'] at ht
      cases ht with
      | cons hi hl =>
        cases hi with
        | @inRegion ops todo ho =>
          cases todo with
          | nil => exact k
          | cons j rest =>
            simp only
            refine ⟨k.fn, k.ok, ?_, .cons (.inRegion ho) hl, k.defers, k.mode, k.kind, k.round, k.nd⟩
            cases (ops[j]?).bind (·.dst) with
            | none => exact k.tmps
            | some d => exact k.tmps.set hx d
        | inRangeFunc h => exact ⟨k.fn, k.ok, k.tmps, .cons (.endRangeFunc h) hl, k.defers, k.mode, k.kind, k.round, k.nd⟩
        | beginRound => exact ⟨k.fn, k.ok, k.tmps, hl, k.defers, k.mode, k.kind, k.round, k.nd⟩
        | _ => exact k
theorem RelFr.setMode {f f' : Frame} (k : RelFr K T ρ f f') {m m' : FrameMode} (h : RelM K.F ρ m m') : RelFr K T ρ { f with mode := m } { f' with mode := m' } :=
  ⟨k.fn, k.ok, k.tmps, k.todo, k.defers, h, k.kind, k.round, k.nd⟩
theorem RelFr.raise {f f' : Frame} (k : RelFr K T ρ f f') {c c' : List PanicEntry} (h : All2 (RelP K.F ρ) c c') : RelFr K T ρ (f.raise c) (f'.raise c') := by
  have app : ∀ {a a' b b' : List PanicEntry}, All2 (RelP K.F ρ) a a' → All2 (RelP K.F ρ) b b' → All2 (RelP K.F ρ) (a ++ b) (a' ++ b') := by
    intro a a' b b' ha hb
    induction ha with
    | nil => exact hb
    | cons x _ ih => exact .cons x ih
  have hm := k.mode
  unfold Frame.raise
  generalize f.mode = m at hm
  generalize f'.mode = m' at hm
  cases hm with
  | run => exact k.setMode (.panicking h)
  | returning => exact k.setMode (.panicking h)
  | panicking hc => exact k.setMode (.panicking (app h hc))
theorem RelFr.todoSet {f f' : Frame} (k : RelFr K T ρ f f') {l l' : List Item} (h : All2 (RelI K f.roundOf.isNone ρ) l l') : RelFr K T ρ { f with todo := l } { f' with todo := l' } :=
  ⟨k.fn, k.ok, k.tmps, h, k.defers, k.mode, k.kind, k.round, k.nd⟩
end

def Unrec (ch : List PanicEntry) : Prop := ∀ e ∈ ch, e.recovered = false
theorem unrec_of {F : Fs} {ρ : Rn} {c c' : List PanicEntry} (h : All2 (RelP F ρ) c c') : Unrec c := by
  induction h with
  | nil => intro e he; cases he
  | cons hp _ ih =>
    intro e he
    rcases List.mem_cons.1 he with rfl | he
    · exact hp.u
    · exact ih e he
/-- what becomes of the frame at the bottom where the stack over it is left -/
structure Gone (dr c : Frame) : Prop where
  run : dr.mode = .run → c = dr ∨ (∃ x, c = dr.finish x) ∨ ∃ ch, c = dr.raise ch
  pan : ∀ ch, dr.mode = .panicking ch → Unrec ch → ∃ ch', c.mode = .panicking ch' ∧ Unrec ch'
/-- .. and on the true side -/
def Popped (K : Kit) (N : Nat) (ρ : Rn) (v w : World) (dr c : Frame) (v1 : World) (cs' : List Frame) (r' : GStep) : Prop :=
  ∀ c0' cs0', cs' = c0' :: cs0' → dr.mode = .run → c0'.mode = .run →
    (∃ x x' ρ1 w1 es', c = dr.finish x ∧ r' = .go (G (c0'.finish x') cs0') w1 es' ∧ RelV K.F ρ1 x x' ∧ Stp K.F N ρ ρ1 v w v1 w1 es') ∨
    (∃ ρ1 w1 es', c = dr ∧ r' = .go (G c0' cs0') w1 es' ∧ Stp K.F N ρ ρ1 v w v1 w1 es') ∨ ∃ ch, c = dr.raise ch ∧ Unrec ch
theorem Popped.after {K : Kit} {N : Nat} {ρ ρ' : Rn} {v w v' w' v1 : World} {dr c : Frame} {cs' : List Frame} {r' : GStep} {u es : Array Event} (h : Popped K N ρ' v' w' dr c v1 cs' r') (hst : Stp K.F N ρ ρ' v w v' w' u) (hW : RelW K.F N ρ v w) (hs : ∀ e ∈ es, e ∈ u) :
    Popped K N ρ v w dr c v1 cs' (GStep.after es r') := by
  intro c0 cs0 e h1 h2
  have key : ∀ {ρ1 : Rn} {w1 : World} {es' : Array Event}, Stp K.F N ρ' ρ1 v' w' v1 w1 es' → Stp K.F N ρ ρ1 v w v1 w1 (es ++ es') := fun k =>
    { hst.trans k hW with evs := fun x hx => (hst.trans k hW).evs x ((Array.mem_append.1 hx).elim (fun h => Array.mem_append.2 (.inl (hs _ h))) fun h => Array.mem_append.2 (.inr h)) }
  rcases h c0 cs0 e h1 h2 with ⟨x, x', ρ1, w1, es', a, b, c, d⟩ | ⟨ρ1, w1, es', a, b, c⟩ | k
  · exact .inl ⟨x, x', ρ1, w1, es ++ es', a, by rw [b]; rfl, c, key d⟩
  · exact .inr (.inl ⟨ρ1, w1, es ++ es', a, by rw [b]; rfl, key c⟩)
  · exact .inr (.inr k)
theorem finish_mode (f : Frame) (x : Value) : (f.finish x).mode = f.mode := by
  unfold Frame.finish
  split <;> rfl
theorem raise_pan (f : Frame) {ch ch' : List PanicEntry} (h : f.mode = .panicking ch) (h1 : Unrec ch) (h2 : Unrec ch') : ∃ c, (f.raise ch').mode = .panicking c ∧ Unrec c := by
  refine ⟨ch' ++ ch, by unfold Frame.raise; rw [h], fun e he => ?_⟩
  rcases List.mem_append.1 he with he | he
  · exact h2 e he
  · exact h1 e he

/-- What comes of a step on both sides: dr stands at the bottom of the virtual stack, cs' at that of the true one. -/
def Sim (K : Kit) (T : Twin) (N : Nat) (ρ : Rn) (v w : World) (dr : Frame) (ds : List Frame) (cs' : List Frame) (r r' : GStep) : Prop :=
  match r with
  | .go g1 v1 _ =>
    (∃ f1 ts1 f1' ts1' ρ1 w1 es', g1 = G f1 (ts1 ++ (dr :: ds)) ∧ r' = .go (G f1' (ts1' ++ cs')) w1 es' ∧ RelFr K T ρ1 f1 f1' ∧ All2 (RelFr K T ρ1) ts1 ts1' ∧ Stp K.F N ρ ρ1 v w v1 w1 es') ∨
    (∃ X p p' k f1 ts1 f1' ts1' ρ1 w1 es', K.fb X = true ∧ (K.X X = true ∧ arOk K.fb X p.size = true) ∧ g1 = G (Frame.enter T.v X p k) (f1 :: (ts1 ++ (dr :: ds))) ∧ r' = .go (G (Frame.enter T.P X p' k) (f1' :: (ts1' ++ cs'))) w1 es' ∧ RelVs K.F ρ1 p p' ∧
        RelFr K T ρ1 f1 f1' ∧ All2 (RelFr K T ρ1) ts1 ts1' ∧ Stp K.F N ρ ρ1 v w v1 w1 es' ∧ (k = .normal ∨ (k = .deferred ∧ K.fb.d = true))) ∨
    (∃ c, g1 = G c ds ∧ Gone dr c ∧ Popped K N ρ v w dr c v1 cs' r' ∧ v.drawn ≤ v1.drawn) ∨
    (∃ p k f1 ts1, (∃ s n a b, ρ.q s n a b) ∧ p.size ≤ K.fb.m + 2 ∧ v.drawn ≤ v1.drawn ∧ g1 = G (Frame.enter T.v K.z p k) (f1 :: (ts1 ++ (dr :: ds))))
  | .ended _ _ _ => True
  | _ => False

/-- what the machine asks of the kit -/
structure Fits (K : Kit) (T : Twin) (N : Nat) : Prop where
  ops : ∀ op, opOk K.P K.fb K.G op = opOk T.P K.fb K.G op
  same : ∀ f, K.fb f = true → K.X f = false → T.F[f]? = T.P.funcs[f]?
  N : T.P.globals.size ≤ N
  bodies : HasBodies T K.F
  /-- the functions' texts -/
  body : ∀ f fn, K.fb f = true → K.X f = false → T.P.funcs[f]? = some fn → ∀ c, fn.body = some c → cOk K.P K.fb K.G true c = true

section
variable {K : Kit} {T : Twin} {N : Nat} {ρ : Rn} {v w : World} {dr : Frame} {ds cs' : List Frame}

theorem v_func (hK : Fits K T N) {f : FuncId} (h : K.fb f = true) (h' : K.X f = false) : T.v.funcs[f]? = T.P.funcs[f]? := hK.same f h h'

theorem relFr_enter (hK : Fits K T N) {f : FuncId} (hf : K.fb f = true) (hX : K.X f = false) {p p' : Array Value} (hp : RelVs K.F ρ p p') {k : CallKind} (hk : k = .normal ∨ k = .deferred) :
    RelFr K T ρ (Frame.enter T.v f p k) (Frame.enter T.P f p' k) := by
  obtain ⟨fn, h1, h2, _⟩ := hK.bodies.a f hf
  have h1' : T.v.funcs[f]? = some fn := (v_func hK hf hX).trans h1
  obtain ⟨c, hc⟩ : ∃ c, fn.body = some c := by
    cases h : fn.body with
    | none => rw [h] at h2; cases h2
    | some c => exact ⟨c, rfl⟩
  have e : ∀ (P : Program) (q : Array Value), P.funcs[f]? = some fn → Frame.enter P f q k = { fn := f, tmps := q ++ Array.replicate (fn.ntmps - q.size) undef, todo := [.code c], defers := [], mode := .run, kind := k } := by
    intro P q h
    unfold Frame.enter
    simp [h, hc]
  rw [e T.v p h1', e T.P p' h1]
  exact ⟨rfl, ⟨hf, hX⟩, by rw [← hp.1]; exact hp.append (RelVs.replicate .undef _), .cons (.code (hK.body f fn hf hX h1 c hc)) .nil, .nil, .run, ⟨rfl, hk⟩, trivial, fun _ h => (by cases h)⟩

theorem relFr_round {l l' : Nat} {g : FuncId} {p p' : Array Value} {ca cb : Code} (hl : ρ.r l l') (hp : RelVs K.F ρ p p') (hg : K.F.r g) (ha : K.F.c ca) (hb : K.F.c cb) {k : CallKind} (hk : k = .normal ∨ k = .deferred) :
    RelFr K T ρ (Frame.round l g p ca cb k) (Frame.round l' g p' ca cb k) :=
  ⟨rfl, hg.1, hp, .cons (.code ha.1) (.cons .beginRound (.cons (.code hb.1) .nil)), .nil, .run, ⟨rfl, hk⟩, hl, fun _ h => (by cases h)⟩

theorem early_no {f f' : Frame} (h : RelFr K T ρ f f') : (f.kind == .early) = false ∧ (f'.kind == .early) = false := by
  rw [h.kind.1]
  rcases h.kind.2 with e | e <;> rw [e] <;> exact ⟨rfl, rfl⟩

theorem sim_apply (hK : Fits K T N) (hW : RelW K.F N ρ v w) {f f' : Frame} (hf : RelFr K T ρ f f') {ts ts' : List Frame} (hts : All2 (RelFr K T ρ) ts ts') {s s' : Sem Next} (hs : SemRel T K.F N (QNx K.F) s ρ s')
    (ht : ∀ g1 v1 es, stepG.apply T.v true f (ts ++ (dr :: ds)) none s v = .go g1 v1 es → Tp v w (v1.drawn - v.drawn)) :
    Sim K T N ρ v w dr ds cs' (stepG.apply T.v true f (ts ++ (dr :: ds)) none s v) (stepG.apply T.P true f' (ts' ++ cs') none s' w) := by
  have hc := hs.sort hW
  have hr : Tp v w ((rworld (s.run T.v v)).drawn - v.drawn) → Res K.F N (QNx K.F) ρ v w (s.run T.v v) (s'.runT T.P w #[]) := fun h => hs.sound hW h
  have k1 := early_no hf
  unfold stepG.apply at ht ⊢
  simp only [if_true, k1.1, k1.2, Bool.false_eq_true, if_false] at ht ⊢
  rw [Sem.runT_eq] at ht ⊢
  generalize s.events T.v v #[] = eu at ht ⊢
  generalize s.run T.v v = r at hr hc ht ⊢
  generalize s'.runT T.P w #[] = r' at hr ⊢
  have mono : ∀ {ρ'}, ρ.le ρ' → All2 (RelFr K T ρ') ts ts' := fun l => forall2_mono (fun _ _ x => x.mono l) hts
  cases r with
  | ok n v' =>
    have hT : Tp v w (v'.drawn - v.drawn) := by
      obtain ⟨ρ', b, hq⟩ := hc
      cases hq with
      | value _ => exact ht _ _ _ rfl
      | skip => exact ht _ _ _ rfl
      | enter _ _ _ => exact ht _ _ _ rfl
      | round _ _ _ _ _ => exact ht _ _ _ rfl
      | defer _ _ => exact ht _ _ _ rfl
      | seq _ _ => exact ht _ _ _ rfl
    obtain ⟨ρ', b, w', u, rfl, hq, hst⟩ := hr hT
    clear hr hc ht hT
    have hsub : Stp K.F N ρ ρ' v w v' w' (seen T.P f'.fn u ++ #[]) := hst.sub fun e he => by simp at he; exact seen_sub he
    cases hq with
    | value hv => exact .inl ⟨_, _, _, _, ρ', w', _, rfl, rfl, (hf.mono hst.le).finish hv, mono hst.le, hsub⟩
    | skip => exact .inl ⟨_, _, _, _, ρ', w', _, rfl, rfl, (hf.mono hst.le).finish .undef, mono hst.le, hsub⟩
    | @enter g p p' hg ha hp =>
      by_cases hX : K.X g = true
      · have fin : Sim K T N ρ v w dr ds cs' (GStep.after (seen T.v f.fn eu) (.go { frame := Frame.enter T.v g p .normal, callers := f :: (ts ++ (dr :: ds)), status := .running, dying := none } v'))
            (GStep.after (seen T.P f'.fn u) (.go { frame := Frame.enter T.P g p' .normal, callers := f' :: (ts' ++ cs'), status := .running, dying := none } w')) :=
          .inr (.inl ⟨g, _, _, .normal, _, _, _, _, ρ', w', _, hg, ⟨hX, ha⟩, rfl, rfl, hp, hf.mono hst.le, mono hst.le, hsub, .inl rfl⟩)
        have ht := hf.todo
        generalize f.todo = A at ht ⊢
        generalize f'.todo = B at ht ⊢
        cases ht with
        | nil => exact fin
        | cons hi _ => cases hi <;> exact fin
      · have fin : Sim K T N ρ v w dr ds cs' (GStep.after (seen T.v f.fn eu) (.go { frame := Frame.enter T.v g p .normal, callers := f :: (ts ++ (dr :: ds)), status := .running, dying := none } v'))
            (GStep.after (seen T.P f'.fn u) (.go { frame := Frame.enter T.P g p' .normal, callers := f' :: (ts' ++ cs'), status := .running, dying := none } w')) :=
          .inl ⟨_, f :: ts, _, f' :: ts', ρ', w', _, rfl, rfl, relFr_enter hK hg (by simpa using hX) hp (.inl rfl), .cons (hf.mono hst.le) (mono hst.le), hsub⟩
        have ht := hf.todo
        generalize f.todo = A at ht ⊢
        generalize f'.todo = B at ht ⊢
        cases ht with
        | nil => exact fin
        | cons hi _ => cases hi <;> exact fin
    | @round l l' g p p' ca cb hl hp hg ha hb =>
      have fin : Sim K T N ρ v w dr ds cs' (GStep.after (seen T.v f.fn eu) (.go { frame := Frame.round l g p ca cb .normal, callers := f :: (ts ++ (dr :: ds)), status := .running, dying := none } v'))
          (GStep.after (seen T.P f'.fn u) (.go { frame := Frame.round l' g p' ca cb .normal, callers := f' :: (ts' ++ cs'), status := .running, dying := none } w')) :=
        .inl ⟨_, f :: ts, _, f' :: ts', ρ', w', _, rfl, rfl, relFr_round hl hp hg ha hb (.inl rfl), .cons (hf.mono hst.le) (mono hst.le), hsub⟩
      exact fin
    | defer hlx hd =>
      refine .inl ⟨_, _, _, _, ρ', w', _, rfl, rfl, RelFr.finish (f := { f with defers := _ :: f.defers }) (f' := { f' with defers := _ :: f'.defers }) ?_ .undef, mono hst.le, hsub⟩
      have hf := hf.mono hst.le
      exact ⟨hf.fn, hf.ok, hf.tmps, hf.todo, .cons hd hf.defers, hf.mode, hf.kind, hf.round, fun _ _ => .inr hlx⟩
    | @seq p _ hp hq =>
      rw [hst.tok.2] at hq
      have fin : ∀ r2, Sim K T N ρ v w dr ds cs' (GStep.after (seen T.v f.fn eu) (.go { frame := Frame.enter T.v K.z p .normal, callers := f :: (ts ++ (dr :: ds)), status := .running, dying := none } v')) r2 := fun _ => .inr (.inr (.inr ⟨_, .normal, _, _, hq, hp, hst.drawn.1, rfl⟩))
      have ht := hf.todo
      generalize f.todo = A at ht ⊢
      generalize f'.todo = B at ht ⊢
      cases ht with
      | nil => exact fin _
      | cons hi _ => cases hi <;> exact fin _
  | halt x v' =>
    cases x with
    | panic x =>
      obtain ⟨ρ', x', w', u, rfl, hx, hst⟩ := hr (ht _ _ _ rfl)
      have hsub : Stp K.F N ρ ρ' v w v' w' (seen T.P f'.fn u ++ #[]) := hst.sub fun e he => by simp at he; exact seen_sub he
      exact .inl ⟨_, _, _, _, ρ', w', _, rfl, rfl, (hf.mono hst.le).raise (.cons ⟨hx, rfl, ⟨rfl, rfl⟩, rfl⟩ .nil), mono hst.le, hsub⟩
    | unsupported u => cases u <;> first | exact hc.elim | trivial
    | _ => first | exact hc.elim | trivial
end

end Go.Proofs.Ytcdhmnefmbcmaaa

namespace Go.Proofs.Ytcdhmnefmbcmaaa
open Go Go.Conc

section
variable {K : Kit} {T : Twin} {N : Nat} {ρ ρ' : Rn} {v w v' w' : World} {dr : Frame} {ds cs' : List Frame} {mn : Bool}

theorem after_go {es es' : Array Event} {g : Goroutine} {w : World} : GStep.after es (.go g w es') = .go g w (es ++ es') := rfl

/-- a frame goes on, on both sides -/
theorem sim_go {f f' : Frame} {ts ts' : List Frame} {eu es es0 : Array Event} (hf : RelFr K T ρ' f f') (hts : All2 (RelFr K T ρ') ts ts') (hst : Stp K.F N ρ ρ' v w v' w' es) (he : ∀ e ∈ es0, e ∈ es) :
    Sim K T N ρ v w dr ds cs' (.go (G f (ts ++ (dr :: ds))) v' eu) (.go (G f' (ts' ++ cs')) w' es0) :=
  .inl ⟨_, _, _, _, ρ', w', _, rfl, rfl, hf, hts, hst.sub he⟩

theorem rec_drop {F : Fs} {c c' : List PanicEntry} (h : All2 (RelP F ρ) c c') : c.dropWhile (!·.goexit) = [] ∧ c'.dropWhile (!·.goexit) = [] := by
  induction h with
  | nil => exact ⟨rfl, rfl⟩
  | cons hp _ ih => simp [hp.g.1, hp.g.2, ih.1, ih.2]

theorem sim_ret {f f' : Frame} {ts ts' : List Frame} {eu es es0 : Array Event} (hf : RelFr K T ρ' f f') (hts : All2 (RelFr K T ρ') ts ts') (hst : Stp K.F N ρ ρ' v w v' w' es) (he : ∀ e ∈ es0, e ∈ es) {x x' : Value} (hx : RelV K.F ρ' x x') :
    Sim K T N ρ v w dr ds cs' (GStep.after eu (doReturn T.v true f (ts ++ (dr :: ds)) none x v')) (GStep.after es0 (doReturn T.P mn f' (ts' ++ cs') none x' w')) := by
  have he' : ∀ e ∈ es0 ++ #[], e ∈ es := fun e h => he e (by simpa using h)
  obtain ⟨hk1, hk2⟩ := hf.kind
  cases hts with
  | nil =>
    unfold doReturn
    simp only [List.nil_append]
    rcases hk2 with e | e <;> rw [e]
    · refine .inr (.inr (.inl ⟨_, rfl, ⟨fun _ => .inr (.inl ⟨_, rfl⟩), fun ch h hu => ⟨ch, by rw [finish_mode]; exact h, hu⟩⟩, fun c0' cs0' ec hm hm' => .inl ⟨x, x', ρ', w', es0 ++ #[], rfl, ?_, hx, hst.sub he'⟩, hst.drawn.1⟩))
      subst ec
      simp only [hk1, e]
      rfl
    · refine .inr (.inr (.inl ⟨_, rfl, ⟨fun hm => .inl (by rw [hm]), fun ch h hu => ⟨ch, ?_, hu⟩⟩, fun c0' cs0' ec hm hm' => .inr (.inl ⟨ρ', w', es0 ++ #[], by rw [hm], ?_, hst.sub he'⟩), hst.drawn.1⟩))
      · rw [h]
        cases ch with
        | nil => exact h
        | cons a ch =>
          obtain ⟨av, ar, ag⟩ := a
          have : ar = false := hu ⟨av, ar, ag⟩ (by simp)
          subst this
          exact h
      · subst ec
        simp only [hk1, e, hm']
        rfl
  | @cons t t' ts ts' ht hts =>
    unfold doReturn
    simp only [List.cons_append, hk1]
    rcases hk2 with e | e <;> rw [e]
    · exact sim_go (ht.finish hx) hts hst he'
    · simp only
      have hm := ht.mode
      have fin : ∀ (a b : Frame), RelFr K T ρ' a b → Sim K T N ρ v w dr ds cs' (GStep.after eu (.go { frame := a, callers := ts ++ (dr :: ds), status := .running, dying := none } v'))
          (GStep.after es0 (.go { frame := b, callers := ts' ++ cs', status := .running, dying := none } w')) := fun a b h => sim_go h hts hst he'
      refine fin _ _ ?_
      generalize t.mode = m at hm ⊢
      generalize t'.mode = m' at hm ⊢
      cases hm with
      | run => exact ht
      | returning => exact ht
      | panicking hc =>
        cases hc with
        | nil => exact ht
        | @cons a b c c' hp hc =>
          obtain ⟨av, ar, ag⟩ := a
          obtain ⟨bv, br, bg⟩ := b
          obtain ⟨_, h2, _⟩ := hp
          simp only at h2
          subst h2
          cases br
          · exact ht
          · simp only [(rec_drop hc).1, (rec_drop hc).2]
            exact ht.setMode .returning

theorem RelFr.todo_nil {f f' : Frame} (h : RelFr K T ρ f f') (e : f.todo = []) : f'.todo = [] := by
  have ht := h.todo
  rw [e] at ht
  generalize f'.todo = b at ht
  cases ht; rfl
theorem RelFr.todo_cons {f f' : Frame} (h : RelFr K T ρ f f') {i : Item} {l : List Item} (e : f.todo = i :: l) : ∃ i' l', f'.todo = i' :: l' ∧ RelI K f.roundOf.isNone ρ i i' ∧ All2 (RelI K f.roundOf.isNone ρ) l l' := by
  have ht := h.todo
  rw [e] at ht
  generalize f'.todo = b at ht
  cases ht with
  | cons h1 h2 => exact ⟨_, _, rfl, h1, h2⟩

/-- one run of the free monad ahead of what comes -/
theorem sim_run {α β : Type} {Q : Rn → α → β → Prop} {s : Sem α} {s' : Sem β} (hs : SemRel T K.F N Q s ρ s') (hW : RelW K.F N ρ v w) {cont : Result α → GStep} {cont' : Result β → GStep} {es : Array Event} {fn' : FuncId}
    (hlost : ∀ h v', Halt.still h → ∃ o u e, cont (.halt h v') = .ended o u e)
    (hpan : ∀ x v', (∃ o u e, cont (.halt (.panic x) v') = .ended o u e) ∨ ((∃ g e, cont (.halt (.panic x) v') = .go g v' e) ∧
      ∀ ρ' x' w' u eu, RelV K.F ρ' x x' → Stp K.F N ρ ρ' v w v' w' u → Sim K T N ρ v w dr ds cs' (GStep.after eu (cont (.halt (.panic x) v'))) (GStep.after (seen T.P fn' u) (cont' (.halt (.panic x') w')))))
    (hgo : ∀ a v' ρ₁ b₁, Q ρ₁ a b₁ → (Tp v w (v'.drawn - v.drawn) ∨ True) → ((∃ g e, cont (.ok a v') = .go g v' e) ∨ ∃ o u e, cont (.ok a v') = .ended o u e) ∧
      ∀ ρ' b w' u eu, Q ρ' a b → Stp K.F N ρ ρ' v w v' w' u → Sim K T N ρ v w dr ds cs' (GStep.after eu (cont (.ok a v'))) (GStep.after (seen T.P fn' u) (cont' (.ok b w'))))
    (ht : ∀ g1 v1 e, GStep.after es (cont (s.run T.v v)) = .go g1 v1 e → Tp v w (v1.drawn - v.drawn)) :
    Sim K T N ρ v w dr ds cs' (GStep.after es (cont (s.run T.v v))) (GStep.after (seen T.P fn' (s'.runT T.P w #[]).2) (cont' (s'.runT T.P w #[]).1)) := by
  have hc := hs.sort hW
  have hr : Tp v w ((rworld (s.run T.v v)).drawn - v.drawn) → Res K.F N Q ρ v w (s.run T.v v) (s'.runT T.P w #[]) := fun h => hs.sound hW h
  generalize s.run T.v v = r at hr hc ht ⊢
  generalize s'.runT T.P w #[] = r' at hr ⊢
  cases r with
  | ok a v' =>
    obtain ⟨ρ₁, b₁, hq⟩ := hc
    obtain ⟨h1, h2⟩ := hgo a v' ρ₁ b₁ hq (.inr trivial)
    rcases h1 with ⟨g, e, h1⟩ | ⟨o, u, e, h1⟩
    · have hT : Tp v w (v'.drawn - v.drawn) := ht g v' (es ++ e) (by rw [h1]; rfl)
      obtain ⟨ρ', b, w', u, rfl, hq', hst⟩ := hr hT
      exact h2 ρ' b w' u es hq' hst
    · rw [h1]; trivial
  | halt x v' =>
    have still : Halt.still x → Sim K T N ρ v w dr ds cs' (GStep.after es (cont (.halt x v'))) (GStep.after (seen T.P fn' r'.2) (cont' r'.1)) := fun h => by
      obtain ⟨o, u, e, h1⟩ := hlost x v' h
      rw [h1]; trivial
    cases x with
    | panic x =>
      rcases hpan x v' with ⟨o, u, e, h1⟩ | ⟨⟨g, e, h1⟩, h2⟩
      · rw [h1]; trivial
      · have hT : Tp v w (v'.drawn - v.drawn) := ht g v' (es ++ e) (by rw [h1]; rfl)
        obtain ⟨ρ', x', w', u, rfl, hx, hst⟩ := hr hT
        exact h2 ρ' x' w' u es hx hst
    | _ => exact still hc
end

end Go.Proofs.Ytcdhmnefmbcmaaa
