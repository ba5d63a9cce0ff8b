/-
  The relation of a world with itself: what is related by it is the same; no condition but what each law names.
  Whatever the tape: a lone run that comes to its end at every tape comes to it as a game ('Ev'); no condition but what each law names.
-/
import Derived.Test.YtcdhmnefmbcmaaaJai
namespace Go.Proofs.Ytcdhmnefmbcmaaa
open Go Go.Conc

structure Rn.Id (ρ : Rn) : Prop where
  r : ∀ a b, ρ.r a b → a = b
  c : ∀ a x, ρ.c a x → x = .chan (some a) ∨ x = mfV a ∨ x = .slice (some ⟨a, 0, none⟩) 0 0
  q : ∀ s n a b, ¬ ρ.q s n a b

section
variable {F : Fs} {ρ : Rn}
theorem RelA.eq (h : ρ.Id) {a a' : Addr} (k : RelA ρ a a') : a' = a := by
  obtain ⟨b, o, s⟩ := a
  obtain ⟨b', o', s'⟩ := a'
  obtain ⟨h1, h2, h3⟩ := k
  simp only at h1 h2 h3
  rw [h.r _ _ h1, h2, h3]
theorem arr_eq {α : Type} {p p' : Array α} (h1 : p.size = p'.size) (h2 : ∀ (i : Nat) (v v' : α), p[i]? = some v → p'[i]? = some v' → v' = v) : p' = p := by
  apply Array.ext_getElem?
  intro i
  by_cases hi : i < p.size
  · rw [Array.getElem?_eq_getElem hi, Array.getElem?_eq_getElem (h1 ▸ hi)]
    exact congrArg some (h2 i _ _ (Array.getElem?_eq_getElem hi) (Array.getElem?_eq_getElem (h1 ▸ hi)))
  · rw [Array.getElem?_eq_none (by omega), Array.getElem?_eq_none (by omega)]
theorem RelV.eq (h : ρ.Id) {v v' : Value} (k : RelV F ρ v v') : v' = v := by
  induction k with
  | flat _ => rfl
  | ptr ha => rw [ha.eq h]
  | slice ha => rw [ha.eq h]
  | map hb => rw [h.r _ _ hb]
  | chan hb => rw [h.r _ _ hb]
  | tok hc ht =>
    rcases h.c _ _ hc with e | e | e
    · exact e
    · rw [e] at ht; cases ht
    · rw [e] at ht; cases ht
  | mf hc hm =>
    rcases h.c _ _ hc with e | e | e
    · rw [e] at hm; cases hm
    · exact e
    · rw [e] at hm; cases hm
  | emp hc =>
    rcases h.c _ _ hc with e | e | e
    · cases e
    · cases e
    · exact e
  | func _ _ h1 _ h2 _ i1 i2 => rw [arr_eq h1 i1, arr_eq h2 i2]
  | yield hl => rw [h.r _ _ hl]
  | seq hq => exact absurd hq (h.q _ _ _ _)
  | iface _ i => rw [i]
  | agg h1 _ i => rw [arr_eq h1 i]
  | tuple h1 _ i => rw [arr_eq h1 i]
theorem RelVs.eq (h : ρ.Id) {p p' : Array Value} (k : RelVs F ρ p p') : p' = p := arr_eq k.1 fun i v v' h1 h2 => (k.2 i v v' h1 h2).eq h
theorem all2_eq {α : Type} {R : α → α → Prop} (h : ∀ a b, R a b → b = a) {l l' : List α} (k : All2 R l l') : l' = l := by
  induction k with
  | nil => rfl
  | cons x _ ih => rw [h _ _ x, ih]
theorem RelD.eq (h : ρ.Id) {d d' : Deferred} (k : RelD F ρ d d') : d' = d := by
  cases k with
  | dead hc hm hp =>
    rw [hp.eq h]
    rcases h.c _ _ hc with e | e | e
    · rw [e] at hm; cases hm
    · rw [e]
    · rw [e] at hm; cases hm
  | mk h1 h2 =>
  obtain ⟨t, p⟩ := d
  obtain ⟨t', p'⟩ := d'
  simp only at h1 h2
  rw [h2.eq h]
  cases h1 with
  | fn _ _ hq => rw [hq.eq h]
  | nil => rfl
  | yield hl => rw [h.r _ _ hl]
  | seq _ hq => exact absurd hq (h.q _ _ _ _)
  | collected hb => rw [h.r _ _ hb]
theorem RelO.eq (h : ρ.Id) {o o' : Obj} (k : RelO F ρ o o') : o' = o := by
  cases k with
  | cells hp => rw [hp.eq h]
  | map hs he =>
    refine congrArg (fun x => Obj.map x _) (arr_eq hs fun i e e' h1 h2 => ?_)
    have := he i e e' h1 h2
    obtain ⟨k, v, b⟩ := e
    obtain ⟨k', v', b'⟩ := e'
    obtain ⟨e1, e2, e3⟩ := this
    simp only at e1 e2 e3
    rw [e1.eq h, e2.eq h, e3]
  | mapIter hb => rw [h.r _ _ hb]
  | mapIterN => rfl
  | stringIter => rfl
  | @loop l l' hl =>
    obtain ⟨a1, a2, a3, a4, a5, a6, a7, a8⟩ := l
    obtain ⟨b1, b2, b3, b4, b5, b6, b7, b8⟩ := l'
    obtain ⟨e1, e2, e3, e4, e5, _, e6, e7, _, _, _, _, e8⟩ := hl
    simp only at e1 e2 e3 e4 e5 e6 e7 e8
    subst e1 e2 e3 e5 e6 e7
    rw [e4.eq h, h.r _ _ e8]
  | deferred => rfl
  | deferredN => rfl
  | number ha => rw [ha.eq h]
  | chan => rfl
theorem RelFr.eq {K : Kit} {T : Twin} (h : ρ.Id) {f f' : Frame} (k : RelFr K T ρ f f') : f' = f := by
  obtain ⟨a1, a2, a3, a4, a5, a6, a7⟩ := f
  obtain ⟨b1, b2, b3, b4, b5, b6, b7⟩ := f'
  obtain ⟨e1, _, e2, e3, e4, e5, e6, e7⟩ := k
  simp only at e1 e2 e3 e4 e5 e6 e7
  have h3 : b3 = a3 := all2_eq (fun i i' x => by cases x <;> first | rfl | (rename_i hr; rw [h.r _ _ hr])) e3
  have h5 : b5 = a5 := by
    cases e5 with
    | run => rfl
    | returning => rfl
    | panicking hc =>
      refine congrArg FrameMode.panicking (all2_eq (fun i i' x => ?_) hc)
      obtain ⟨v, r, g⟩ := i
      obtain ⟨v', r', g'⟩ := i'
      obtain ⟨q1, q2, ⟨q3, q4⟩, _⟩ := x
      simp only at q1 q2 q3 q4
      rw [q1.eq h, q2, q3, q4]
  have h7 : b7 = a7 := by
    cases a7 <;> cases b7 <;> first | exact e7.elim | rfl | skip
    exact congrArg some (h.r _ _ e7).symm
  rw [e1, e2.eq h, h3, all2_eq (fun _ _ x => RelD.eq h x) e4, h5, e6.1, h7]
end

/-- another tape -/
def _root_.Go.World.taped (w : World) (t : Nat → Question → Nat) : World := { w with tape := t }

theorem Stp.id {F : Fs} {N : Nat} {ρ ρ1 : Rn} {v v1 w1 : World} {t : Nat → Question → Nat} {u : Array Event} (h : Stp F N ρ ρ1 v (v.taped t) v1 w1 u) (hi : ρ.Id) : ρ1.Id ∧ w1 = v1.taped t := by
  have hi1 : ρ1.Id := ⟨fun a b hab => by
    rcases (h.new a b).1 hab with x | ⟨x1, x2, x3⟩
    · exact hi.r _ _ x
    · have : (v.taped t).heap.size = v.heap.size := rfl
      omega, fun a x hx => hi.c a x (by rw [← h.tok.1]; exact hx), fun s n a b hx => hi.q s n a b (by rw [← h.tok.2]; exact hx)⟩
  refine ⟨hi1, ?_⟩
  have hsz : w1.heap.size = v1.heap.size := by have := h.sw; have e : (v.taped t).heap.size = v.heap.size := rfl; omega
  have hheap : w1.heap = v1.heap := by
    apply Array.ext_getElem?
    intro a
    by_cases hr : ∃ b, ρ1.r a b
    · obtain ⟨b, hb⟩ := hr
      obtain rfl := hi1.r _ _ hb
      obtain ⟨o, o', h1, h2, h3⟩ := h.rel.obj _ _ hb
      rw [h1, h2, h3.eq hi1]
    · by_cases ha : a < v.heap.size
      · rw [h.keepv a ha (fun b hb => hr ⟨b, h.le.r _ _ hb⟩)]
        exact h.keepw a ha (fun b hb => hr ⟨a, by have e := hi.r _ _ hb; subst e; exact h.le.r _ _ hb⟩)
      · by_cases ha1 : a < v1.heap.size
        · exact absurd ⟨a, (h.new a a).2 (.inr ⟨by omega, ha1, by show a + v.heap.size = a + v.heap.size; rfl⟩)⟩ hr
        · rw [Array.getElem?_eq_none (by omega), Array.getElem?_eq_none (by omega)]
  obtain ⟨a1, a2, a3, a4, a5⟩ := w1
  obtain ⟨t1, t2, t3⟩ := h.tv
  obtain ⟨t4, t5, t6⟩ := h.tw
  have hd := h.drawn.2
  simp only at hheap t4 t5 t6
  have e1 : (v.taped t).drawn = v.drawn := rfl
  have e3 : (v.taped t).os = v.os := rfl
  have e4 : (v.taped t).output = v.output := rfl
  have e2 : (v.taped t).tape = t := rfl
  rw [e1] at hd
  simp only at hd
  have hd' : a3 = v1.drawn := by omega
  rw [hheap, t4, t5, t6, hd', e2, e3, e4, ← t2, ← t3]
  rfl

/-! ### what the virtual side is related to, is related to itself -/
def Rn.left (ρ : Rn) : Rn := { r := fun a b => a = b ∧ ∃ c, ρ.r a c, c := fun a x => ∃ y, ρ.c a y ∧ ((isTok y = true ∧ x = .chan (some a)) ∨ (isMeth y = true ∧ x = mfV a) ∨ (isEmp y = true ∧ x = .slice (some ⟨a, 0, none⟩) 0 0)), q := fun _ _ _ _ => False }
theorem Rn.left_id (ρ : Rn) : ρ.left.Id := ⟨fun _ _ h => h.1, fun _ _ h => by obtain ⟨_, _, h⟩ := h; exact h.imp And.right (Or.imp And.right And.right), fun _ _ _ _ h => h⟩

section
variable {F F' : Fs} {ρ : Rn} (hF : F.le F') (hz : F' F.z ∧ F'.v F.z ∧ ∀ n, F'.a F.z n)
 include hF hz
theorem RelV.left {v v' : Value} (k : RelV F ρ v v') : RelV F' ρ.left v v := by
  induction k with
  | flat hf => exact .flat hf
  | ptr ha => exact .ptr ⟨⟨rfl, _, ha.1⟩, rfl, rfl⟩
  | slice ha => exact .slice ⟨⟨rfl, _, ha.1⟩, rfl, rfl⟩
  | emp hc => exact .emp ⟨_, hc, .inr (.inr ⟨rfl, rfl⟩)⟩
  | map hb => exact .map ⟨rfl, _, hb⟩
  | chan hb => exact .chan ⟨rfl, _, hb⟩
  | tok hc ht => exact .tok ⟨_, hc, .inl ⟨ht, rfl⟩⟩ rfl
  | mf hx hm => exact .mf ⟨_, hx, .inr (.inl ⟨hm, rfl⟩)⟩ rfl
  | func hf hv h1 h1' h2 h2' i1 i2 =>
    refine .func (hF.f _ hf) (hF.v _ hv) rfl (fun i v v' a b => ?_) rfl (fun i v v' a b => ?_)
    · rw [a] at b; cases b
      have hlt := (Array.getElem?_eq_some_iff.1 a).1
      exact i1 i v _ a (Array.getElem?_eq_getElem (h1 ▸ hlt))
    · rw [a] at b; cases b
      have hlt := (Array.getElem?_eq_some_iff.1 a).1
      exact i2 i v _ a (Array.getElem?_eq_getElem (h2 ▸ hlt))
  | yield hl => exact .yield ⟨rfl, _, hl⟩
  | seq _ => exact .func hz.1 hz.2.1 rfl (fun i v v' a b => by simp at a) rfl (RelVs.flats (F := F') (ρ := ρ.left) (by intro x hx; simp at hx; rcases hx with rfl | rfl <;> rfl)).2
  | iface _ i => exact .iface i
  | agg h1 h1' i1 =>
    refine .agg rfl fun i v v' a b => ?_
    rw [a] at b; cases b
    have hlt := (Array.getElem?_eq_some_iff.1 a).1
    exact i1 i v _ a (Array.getElem?_eq_getElem (h1 ▸ hlt))
  | tuple h1 h1' i1 =>
    refine .tuple rfl fun i v v' a b => ?_
    rw [a] at b; cases b
    have hlt := (Array.getElem?_eq_some_iff.1 a).1
    exact i1 i v _ a (Array.getElem?_eq_getElem (h1 ▸ hlt))
theorem RelVs.left {p p' : Array Value} (k : RelVs F ρ p p') : RelVs F' ρ.left p p := ⟨rfl, fun i v v' a b => by
  rw [a] at b; cases b
  have hlt := (Array.getElem?_eq_some_iff.1 a).1
  exact (k.2 i v _ a (Array.getElem?_eq_getElem (k.1 ▸ hlt))).left hF hz⟩
 omit hF hz in
theorem all2_left {α : Type} {R R' : α → α → Prop} (h : ∀ a b, R a b → R' a a) {l l' : List α} (k : All2 R l l') : All2 R' l l := by
  induction k with
  | nil => exact .nil
  | cons x _ ih => exact .cons (h _ _ x) ih
theorem RelD.left {d d' : Deferred} (k : RelD F ρ d d') : RelD F' ρ.left d d := by
  cases k with
  | dead hc hm hp => exact .dead ⟨_, hc, .inr (.inl ⟨hm, rfl⟩)⟩ rfl (hp.left hF hz)
  | mk h1 h2 =>
  obtain ⟨t, p⟩ := d
  obtain ⟨t', p'⟩ := d'
  refine .mk ?_ (h2.left hF hz)
  simp only at h1 ⊢
  cases h1 with
  | fn hf ha hq => exact .fn (hF.f _ hf) (hF.a _ _ ha) (hq.left hF hz)
  | nil => exact .nil
  | yield hl => exact .yield ⟨rfl, _, hl⟩
  | seq _ _ => exact .fn hz.1 (hz.2.2 _) (RelVs.flats (by intro x hx; simp at hx; rcases hx with rfl | rfl <;> rfl))
  | collected hb => exact .collected ⟨rfl, _, hb⟩
theorem RelO.left {o o' : Obj} (k : RelO F ρ o o') : RelO F' ρ.left o o := by
  cases k with
  | cells hp => exact .cells (hp.left hF hz)
  | map hs he =>
    refine .map rfl fun i e e' a b => ?_
    rw [a] at b; cases b
    have hlt := (Array.getElem?_eq_some_iff.1 a).1
    have := he i e _ a (Array.getElem?_eq_getElem (hs ▸ hlt))
    exact ⟨this.key.left hF hz, this.val.left hF hz, rfl⟩
  | mapIter hb => exact .mapIter ⟨rfl, _, hb⟩
  | mapIterN => exact .mapIterN
  | stringIter => exact .stringIter
  | loop hl => exact .loop ⟨rfl, rfl, rfl, hl.tmps.left hF hz, rfl, hl.few, rfl, rfl, hF.r _ hl.okF, hF.c _ hl.okA, hF.c _ hl.okB, fun j hj => hF.c _ (hl.okJ j hj), ⟨rfl, _, hl.defers⟩⟩
  | deferred => exact .deferred
  | deferredN => exact .deferredN
  | number ha => exact .number ⟨⟨rfl, _, ha.1⟩, rfl, rfl⟩
  | chan => exact .chan
theorem RelW.left {N : Nat} {v w : World} (k : RelW F N ρ v w) : RelW F' N ρ.left v v :=
  ⟨⟨fun a b b' h h' => h.1.symm.trans h'.1, fun a a' b h h' => h.1.trans h'.1.symm, fun a x y h h' => by
      obtain ⟨y1, h1, h2⟩ := h
      obtain ⟨y2, h3, h4⟩ := h'
      obtain rfl := k.ok.cfn _ _ _ h1 h3
      have hno : isTok y1 = true → isMeth y1 = true → False := by
        intro t m
        cases y1 <;> first | (cases m; done) | (rename_i fn p q; cases fn <;> first | (cases t; done) | (cases m; done))
      have hne : isTok y1 = true → isEmp y1 = true → False := by
        intro t m
        cases y1 <;> first | (cases m; done) | skip
        rename_i a n k
        cases a with
        | none => cases m
        | some a =>
          cases n with
          | zero => cases k with
            | zero => cases t
            | succ k => cases m
          | succ n => cases m
      have hnm : isMeth y1 = true → isEmp y1 = true → False := by
        intro t m
        cases y1 <;> first | (cases m; done) | (cases t; done)
      rcases h2 with ⟨t, rfl⟩ | ⟨t, rfl⟩ | ⟨t, rfl⟩ <;> rcases h4 with ⟨t', rfl⟩ | ⟨t', rfl⟩ | ⟨t', rfl⟩ <;> first | rfl | exact (hno t t').elim | exact (hno t' t).elim | exact (hne t t').elim | exact (hne t' t).elim | exact (hnm t t').elim | exact (hnm t' t).elim, fun a b x h h' => by
      obtain ⟨_, c, hc⟩ := h; obtain ⟨y, hy, _⟩ := h'; exact k.ok.apart _ _ _ hc hy, fun a b h _ => h.1⟩,
    fun a b h => by
      obtain ⟨rfl, c, hc⟩ := h
      obtain ⟨o, o', h1, h2, h3⟩ := k.obj _ _ hc
      exact ⟨o, o, h1, h1, h3.left hF hz⟩,
    fun a x h => by obtain ⟨y, hy, _⟩ := h; exact k.tok _ _ hy, k.nv, k.nv, rfl, fun _ _ _ _ h => h.elim⟩
end

end Go.Proofs.Ytcdhmnefmbcmaaa

namespace Go.Proofs.Ytcdhmnefmbcmaaa
open Go Go.Conc

/-- a frame at the bottom that no run passes -/
def door (V : Program) : Frame := { fn := V.funcs.size, tmps := #[undef], todo := [.code (.refuse "")], defers := [{ target := .fn (.method "") #[], args := #[] }], mode := .run, kind := .normal }

theorem door_dead (V : Program) {c : Frame} (h : Gone (door V) c) (v : World) : ∃ o u, step V (lone c [] v) = .ended o u := by
  have key : c = door V ∨ ∃ ch, c = (door V).raise ch := by
    rcases h.run rfl with rfl | ⟨x, rfl⟩ | ⟨ch, rfl⟩
    · exact .inl rfl
    · exact .inl rfl
    · exact .inr ⟨ch, rfl⟩
  rcases key with rfl | ⟨ch, rfl⟩
  · exact ⟨_, _, step_lone_ended (w' := v) rfl⟩
  · refine ⟨_, _, step_lone_ended (o := .stuck "call: a method without a receiver" (Frame.pos V { door V with mode := .panicking ch, defers := [] })) (w' := v) ?_⟩
    have e2 : (door V).raise ch = { door V with mode := .panicking ch } := rfl
    rw [e2]
    have : stepG V true { frame := { door V with mode := .panicking ch }, callers := [], status := .running, dying := none } v =
        callDeferred V { door V with mode := .panicking ch, defers := [] } [] none { target := .fn (.method "") #[], args := #[] } v := rfl
    rw [this]
    rfl

/-- the goroutine comes to Kp, whatever it draws -/
inductive Ev (V : Program) (Kp : Frame → List Frame → World → Prop) : Frame → List Frame → World → Prop
  | stop {f : Frame} {ts : List Frame} {v : World} : Kp f ts v → Ev V Kp f ts v
  | step {f : Frame} {ts : List Frame} {v : World} (F : (Nat → Question → Nat) → Frame) (S : (Nat → Question → Nat) → List Frame) (W : (Nat → Question → Nat) → World) :
      (∀ t : Nat → Question → Nat, (∀ j, j < v.drawn → t j = v.tape j) → ∃ es, stepG V true (G f (ts ++ [door V])) (v.taped t) = .go (G (F t) (S t ++ [door V])) (W t) es) →
      (∀ t : Nat → Question → Nat, (∀ j, j < v.drawn → t j = v.tape j) → Ev V Kp (F t) (S t) (W t)) → Ev V Kp f ts v

theorem Ev.step' {V : Program} {Kp : Frame → List Frame → World → Prop} {f : Frame} {ts : List Frame} {v : World} (h : ∀ t : Nat → Question → Nat, (∀ j, j < v.drawn → t j = v.tape j) → ∃ f1 ts1 v1 es,
      stepG V true (G f (ts ++ [door V])) (v.taped t) = .go (G f1 (ts1 ++ [door V])) v1 es ∧ Ev V Kp f1 ts1 v1) : Ev V Kp f ts v := by
  have h' : ∀ t : Nat → Question → Nat, ∃ q : Frame × List Frame × World, (∀ j, j < v.drawn → t j = v.tape j) → (∃ es, stepG V true (G f (ts ++ [door V])) (v.taped t) = .go (G q.1 (q.2.1 ++ [door V])) q.2.2 es) ∧ Ev V Kp q.1 q.2.1 q.2.2 := by
    intro t
    by_cases ht : ∀ j, j < v.drawn → t j = v.tape j
    · obtain ⟨f1, ts1, v1, es, h1, h2⟩ := h t ht
      exact ⟨(f1, ts1, v1), fun _ => ⟨⟨es, h1⟩, h2⟩⟩
    · exact ⟨(f, ts, v), fun x => absurd x ht⟩
  obtain ⟨q, hq⟩ := Classical.axiomOfChoice h'
  exact .step (fun t => (q t).1) (fun t => (q t).2.1) (fun t => (q t).2.2) (fun t ht => (hq t ht).1) (fun t ht => (hq t ht).2)

/-- a state of the goroutine -/
structure VS where
  f : Frame
  ts : List Frame
  v : World
/-- the next state, at some tape; where the end is not yet come to -/
def Nx (V : Program) (Kp : Frame → List Frame → World → Prop) (s' s : VS) : Prop :=
  ¬ Kp s.f s.ts s.v ∧ ∃ t : Nat → Question → Nat, (∀ j, j < s.v.drawn → t j = s.v.tape j) ∧ ∃ es, stepG V true (G s.f (s.ts ++ [door V])) (s.v.taped t) = .go (G s'.f (s'.ts ++ [door V])) s'.v es
inductive NxP (V : Program) (Kp : Frame → List Frame → World → Prop) : VS → VS → Prop
  | one {s' s : VS} : Nx V Kp s' s → NxP V Kp s' s
  | cons {s' s'' s : VS} : Nx V Kp s'' s → NxP V Kp s' s'' → NxP V Kp s' s
theorem NxP.trans {V : Program} {Kp : Frame → List Frame → World → Prop} {s1 s2 s3 : VS} (h : NxP V Kp s1 s2) (k : NxP V Kp s2 s3) : NxP V Kp s1 s3 := by
  induction k with
  | one x => exact .cons x h
  | cons x _ ih => exact .cons x ih
/-- a game goes on: its next state is a game -/
theorem Ev.next {V : Program} {Kp : Frame → List Frame → World → Prop} {s s' : VS} (h : Ev V Kp s.f s.ts s.v) (hn : Nx V Kp s' s) : Ev V Kp s'.f s'.ts s'.v := by
  obtain ⟨f, ts, v⟩ := s
  obtain ⟨f', ts', v'⟩ := s'
  obtain ⟨hk, t, ht, es, hs⟩ := hn
  cases h with
  | stop h => exact absurd h hk
  | step F S W h1 h2 =>
    obtain ⟨e2, h3⟩ := h1 t ht
    have h4 := hs.symm.trans h3
    simp only [GStep.go.injEq, G, Goroutine.mk.injEq] at h4
    obtain ⟨⟨r1, r2, _⟩, r3, _⟩ := h4
    have r2 := List.append_cancel_right r2
    subst r1 r2 r3
    exact h2 t ht
theorem Ev.nextP {V : Program} {Kp : Frame → List Frame → World → Prop} {s s' : VS} (h : Ev V Kp s.f s.ts s.v) (hn : NxP V Kp s' s) : Ev V Kp s'.f s'.ts s'.v := by
  induction hn with
  | one x => exact h.next x
  | cons x _ ih => exact ih (h.next x)
theorem Ev.acc {V : Program} {Kp : Frame → List Frame → World → Prop} {f : Frame} {ts : List Frame} {v : World} (h : Ev V Kp f ts v) : Acc (Nx V Kp) ⟨f, ts, v⟩ := by
  induction h with
  | stop hk => exact .intro _ fun s' hn => absurd hk hn.1
  | @step f ts v F S W h1 h2 ih =>
    refine .intro _ fun s' hn => ?_
    obtain ⟨f', ts', v'⟩ := s'
    obtain ⟨hk, t, ht, es, hs⟩ := hn
    obtain ⟨e2, h3⟩ := h1 t ht
    have h4 := hs.symm.trans h3
    simp only [GStep.go.injEq, G, Goroutine.mk.injEq] at h4
    obtain ⟨⟨r1, r2, _⟩, r3, _⟩ := h4
    have r2 := List.append_cancel_right r2
    subst r1 r2 r3
    exact ih t ht
theorem NxP.acc {V : Program} {Kp : Frame → List Frame → World → Prop} {s : VS} (h : Acc (Nx V Kp) s) : Acc (NxP V Kp) s := by
  induction h with
  | intro s _ ih =>
    refine .intro _ fun s' hn => ?_
    cases hn with
    | one x => exact ih _ x
    | cons x k => exact (ih _ x).inv k
/-- what holds of a game if it holds of all that come behind it -/
theorem Ev.strong {V : Program} {Kp : Frame → List Frame → World → Prop} {M : VS → Prop} (H : ∀ s : VS, Ev V Kp s.f s.ts s.v → (∀ s', NxP V Kp s' s → M s') → M s) {s : VS} (h : Ev V Kp s.f s.ts s.v) : M s := by
  have ha := NxP.acc h.acc
  revert h
  have key : ∀ s : VS, Acc (NxP V Kp) s → Ev V Kp s.f s.ts s.v → M s := by
    intro s ha
    induction ha with
    | intro s _ ih => exact fun h => H s h fun s' hn => ih s' hn (h.nextP hn)
  exact key s ha

/-- well: related to itself -/
def Well (K : Kit) (T : Twin) (N : Nat) (f : Frame) (ts : List Frame) (v : World) : Prop :=
  ∃ ρ : Rn, ρ.Id ∧ RelFr K T ρ f f ∧ All2 (RelFr K T ρ) ts ts ∧ RelW K.F N ρ v v ∧ ∀ g, g < K.G → ρ.r g g

/-- a step at one tape, and at another one that agrees as far as the step draws -/
theorem step_taped {K : Kit} {T : Twin} {N : Nat} (hK : Fits K T N) (hV : T.v = T.P) (hX : ∀ f, K.X f = false) {f : Frame} {ts : List Frame} {v : World} (hw : Well K T N f ts v) (s : Nat → Question → Nat) :
    (∃ o u e, stepG T.P true (G f (ts ++ [door T.P])) (v.taped s) = .ended o u e) ∨
    (∃ c v1 e, stepG T.P true (G f (ts ++ [door T.P])) (v.taped s) = .go (G c []) v1 e ∧ Gone (door T.P) c) ∨
    ∃ f1 ts1 v1 e, stepG T.P true (G f (ts ++ [door T.P])) (v.taped s) = .go (G f1 (ts1 ++ [door T.P])) v1 e ∧ Well K T N f1 ts1 v1 ∧ v.drawn ≤ v1.drawn ∧ v1.tape = s ∧
      ∀ t : Nat → Question → Nat, (∀ j, v.drawn ≤ j → j < v1.drawn → t j = s j) → ∃ e', stepG T.P true (G f (ts ++ [door T.P])) (v.taped t) = .go (G f1 (ts1 ++ [door T.P])) (v1.taped t) e' := by
  obtain ⟨ρ, hi, hf, hts, hW, hG⟩ := hw
  have hWt : ∀ t : Nat → Question → Nat, RelW K.F N ρ (v.taped s) (v.taped t) := fun t => ⟨hW.ok, hW.obj, hW.tok, hW.nv, hW.nw, hW.os, fun _ _ _ _ h => absurd h (hi.q _ _ _ _)⟩
  have h0 := sim_step (mn := true) (dr := door T.P) (ds := []) (cs' := [door T.P]) hK (hWt s) hG hf hts (fun _ _ _ _ i _ q => rfl)
  rw [hV] at h0
  cases hst : stepG T.P true (G f (ts ++ [door T.P])) (v.taped s) with
  | ended o u e => exact .inl ⟨_, _, _, rfl⟩
  | go g1 v1 e =>
    rw [hst] at h0
    rcases h0 with ⟨f1, ts1, f1', ts1', ρ1, w1, es', h1, h2, h3, h4, h5⟩ | ⟨X, p, p', k, f1, ts1, f1', ts1', ρ1, w1, es', _, hX', _⟩ | ⟨c, h1, h2, _⟩ | ⟨p, k, f1, ts1, ⟨_, _, _, _, hq⟩, _⟩
    · refine .inr (.inr ⟨f1, ts1, v1, e, by rw [h1], ?_, h5.drawn.1, h5.tv.1, fun t ht => ?_⟩)
      · have hid := (Stp.id (t := s) (v := v.taped s) h5 hi)
        have e1 : f1' = f1 := h3.eq hid.1
        have e2 : ts1' = ts1 := all2_eq (fun _ _ x => RelFr.eq hid.1 x) h4
        have e3 : w1 = v1 := by
          rw [hid.2]
          have : v1.tape = s := h5.tv.1
          rw [← this]; rfl
        subst e1 e2 e3
        exact ⟨ρ1, hid.1, h3, h4, h5.rel, fun g hg => h5.le.r _ _ (hG g hg)⟩
      · have hs := sim_step (mn := true) (dr := door T.P) (ds := []) (cs' := [door T.P]) hK (hWt t) hG hf hts (fun g2 v2 e2 h i hi q => by
          rw [hV, hst] at h
          cases h
          have hd : (v.taped s).drawn = v.drawn := rfl
          rw [hd] at hi
          show s (v.drawn + i) q = t (v.drawn + i) q
          rw [ht _ (by omega) (by omega)])
        rw [hV, hst] at hs
        rcases hs with ⟨g1f, tsg, f1'', ts1'', ρ2, w2, es2, q1, q2, q3, q4, q5⟩ | ⟨X, p, p', k, f1, ts1, f1', ts1', ρ1, w1, es', _, hX', _⟩ | ⟨c, q1, _⟩ | ⟨p, k, f1, ts1, ⟨_, _, _, _, hq⟩, _⟩
        · rw [h1] at q1
          simp only [G, Goroutine.mk.injEq] at q1
          obtain ⟨r1, r2, _⟩ := q1
          have r2 := List.append_cancel_right r2
          subst r1 r2
          have hid := Stp.id (t := t) (v := v.taped s) q5 hi
          rw [q3.eq hid.1, all2_eq (fun _ _ x => RelFr.eq hid.1 x) q4, hid.2] at q2
          exact ⟨_, q2⟩
        · have hX' := hX'.1; rw [hX] at hX'; cases hX'
        · rw [h1] at q1
          simp [G] at q1
        · exact absurd hq (hi.q _ _ _ _)
    · have hX' := hX'.1; rw [hX] at hX'; cases hX'
    · exact .inr (.inl ⟨c, v1, e, by rw [h1], h2⟩)
    · exact absurd hq (hi.q _ _ _ _)
  | _ => rw [hst] at h0; exact h0.elim

/-- a stage of a bad path -/
structure Stg (K : Kit) (T : Twin) (N : Nat) (Kp : Frame → List Frame → World → Prop) (f0 : Frame) (ts0 : List Frame) (v0 : World) where
  i : Nat
  f : Frame
  ts : List Frame
  v : World
  ne : ¬ Ev T.P Kp f ts v
  well : Well K T N f ts v
  past : v0.drawn ≤ v.drawn ∧ ∀ j, j < v0.drawn → v.tape j = v0.tape j
  run : ∀ t : Nat → Question → Nat, (∀ j, j < v.drawn → t j = v.tape j) → runN T.P i (lone f0 (ts0 ++ [door T.P]) (v0.taped t)) = .next (lone f (ts ++ [door T.P]) (v.taped t))
  nok : ∀ t : Nat → Question → Nat, (∀ j, j < v.drawn → t j = v.tape j) → ∀ n, n ≤ i → ∀ f' ts' v', runN T.P n (lone f0 (ts0 ++ [door T.P]) (v0.taped t)) = .next (lone f' (ts' ++ [door T.P]) v') → ¬ Kp f' ts' v'

theorem lone_inj {f f' : Frame} {cs cs' : List Frame} {v v' : World} (h : lone f cs v = lone f' cs' v') : f = f' ∧ cs = cs' ∧ v = v' := by
  simp only [lone, Machine.mk.injEq, Array.mk.injEq, List.cons.injEq, Goroutine.mk.injEq] at h
  exact ⟨h.2.1.1.1, h.2.1.1.2.1, h.1⟩

theorem lone_step {P : Program} {f f1 : Frame} {cs cs1 : List Frame} {v v1 : World} {e : Array Event} (h : stepG P true (G f cs) v = .go (G f1 cs1) v1 e) : step P (lone f cs v) = .next (lone f1 cs1 v1) :=
  step_lone_go (by
    have : stepG P true { frame := f, callers := cs, status := .running, dying := none } v = .go (G f1 cs1) v1 e := h
    rw [this]; rfl)
theorem lone_end {P : Program} {f : Frame} {cs : List Frame} {v u : World} {o : Outcome} {e : Array Event} (h : stepG P true (G f cs) v = .ended o u e) : step P (lone f cs v) = .ended o u :=
  step_lone_ended (by
    have : stepG P true { frame := f, callers := cs, status := .running, dying := none } v = .ended o u e := h
    rw [this]; rfl)

theorem runN_succ_next {P : Program} {m m1 m2 : Machine} {n : Nat} (h : step P m = .next m1) (h2 : runN P (n + 1) m = .next m2) : runN P n m1 = .next m2 := by
  simp only [runN, h] at h2; exact h2

section
variable {K : Kit} {T : Twin} {N : Nat} {Kp : Frame → List Frame → World → Prop} {f0 : Frame} {ts0 : List Frame} {v0 : World}

theorem stg_next (hK : Fits K T N) (hV : T.v = T.P) (hX : ∀ f, K.X f = false) (hKp : ∀ f ts v t, Kp f ts (v.taped t) → Kp f ts v)
    (H : ∀ t : Nat → Question → Nat, (∀ j, j < v0.drawn → t j = v0.tape j) → ∃ n f' ts' v', runN T.P n (lone f0 (ts0 ++ [door T.P]) (v0.taped t)) = .next (lone f' (ts' ++ [door T.P]) v') ∧ Kp f' ts' v')
    (s : Stg K T N Kp f0 ts0 v0) : ∃ s' : Stg K T N Kp f0 ts0 v0, s'.i = s.i + 1 ∧ s.v.drawn ≤ s'.v.drawn ∧ ∀ j, j < s.v.drawn → s'.v.tape j = s.v.tape j := by
  -- a tape at which the next state is no good either
  have hbad : ∃ t : Nat → Question → Nat, (∀ j, j < s.v.drawn → t j = s.v.tape j) ∧ ∀ f1 ts1 v1 es, stepG T.P true (G s.f (s.ts ++ [door T.P])) (s.v.taped t) = .go (G f1 (ts1 ++ [door T.P])) v1 es → ¬ Ev T.P Kp f1 ts1 v1 := by
    refine Classical.byContradiction fun hc => s.ne (Ev.step' fun t ht => ?_)
    refine Classical.byContradiction fun hd => hc ⟨t, ht, fun f1 ts1 v1 es h1 h2 => hd ⟨f1, ts1, v1, es, h1, h2⟩⟩
  obtain ⟨t, ht, hn⟩ := hbad
  have ht0 : ∀ j, j < v0.drawn → t j = v0.tape j := fun j hj => (ht j (by have := s.past.1; omega)).trans (s.past.2 j hj)
  obtain ⟨n, f', ts', v', hr, hk⟩ := H t ht0
  have hlt : s.i < n := Nat.lt_of_not_le fun h => s.nok t ht n h f' ts' v' hr hk
  obtain ⟨d, rfl⟩ : ∃ d, n = s.i + (d + 1) := ⟨n - s.i - 1, by omega⟩
  rw [runN_add, s.run t ht] at hr
  simp only at hr
  rcases step_taped hK hV hX s.well t with ⟨o, u, e, h1⟩ | ⟨c, v1, e, h1, h2⟩ | ⟨f1, ts1, v1, e, h1, hw1, hd1, htp, hall⟩
  · simp only [runN, lone_end h1] at hr; cases hr
  · have hr2 := runN_succ_next (lone_step h1) hr
    cases d with
    | zero =>
      simp only [runN, Stepped.next.injEq] at hr2
      have := (lone_inj hr2).2.1
      simp at this
    | succ d =>
      obtain ⟨o, u, h3⟩ := door_dead T.P h2 v1
      simp only [runN, h3] at hr2; cases hr2
  · have hne1 := hn f1 ts1 v1 e h1
    refine ⟨⟨s.i + 1, f1, ts1, v1, hne1, hw1, ⟨by have := s.past.1; omega, fun j hj => by rw [htp]; exact ht0 j hj⟩, fun t2 ht2 => ?_, fun t2 ht2 m hm f2 ts2 v2 hr2 => ?_⟩, rfl, hd1, fun j hj => by rw [htp]; exact ht j hj⟩
    · have hag : ∀ j, j < s.v.drawn → t2 j = s.v.tape j := fun j hj => (ht2 j (by omega)).trans (by rw [htp]; exact ht j hj)
      obtain ⟨e2, h2⟩ := hall t2 fun j _ hj => by rw [ht2 j hj, htp]
      rw [runN_add, s.run t2 hag]
      simp only [runN, lone_step h2]
    · have hag : ∀ j, j < s.v.drawn → t2 j = s.v.tape j := fun j hj => (ht2 j (by omega)).trans (by rw [htp]; exact ht j hj)
      rcases Nat.lt_or_ge s.i m with hlt | hge
      · obtain rfl : m = s.i + 1 := by omega
        obtain ⟨e2, h2⟩ := hall t2 fun j _ hj => by rw [ht2 j hj, htp]
        rw [runN_add, s.run t2 hag] at hr2
        simp only [runN, lone_step h2, Stepped.next.injEq] at hr2
        obtain ⟨e3, e4, e5⟩ := lone_inj hr2
        have e4 := List.append_cancel_right e4
        subst e3 e4
        intro hkp
        rw [← e5] at hkp
        exact hne1 (.stop (hKp _ _ _ _ hkp))
      · exact s.nok t2 hag m hge f2 ts2 v2 hr2

/-- WHATEVER THE TAPE. -/
theorem bar (hK : Fits K T N) (hV : T.v = T.P) (hX : ∀ f, K.X f = false) (hKp : ∀ f ts v t, Kp f ts (v.taped t) → Kp f ts v) (hw : Well K T N f0 ts0 v0)
    (H : ∀ t : Nat → Question → Nat, (∀ j, j < v0.drawn → t j = v0.tape j) → ∃ n f' ts' v', runN T.P n (lone f0 (ts0 ++ [door T.P]) (v0.taped t)) = .next (lone f' (ts' ++ [door T.P]) v') ∧ Kp f' ts' v') :
    Ev T.P Kp f0 ts0 v0 := by
  refine Classical.byContradiction fun hne => ?_
  have h0 : ∃ s0 : Stg K T N Kp f0 ts0 v0, s0.i = 0 := ⟨⟨0, f0, ts0, v0, hne, hw, ⟨Nat.le_refl _, fun _ _ => rfl⟩, fun t _ => rfl, fun t _ n hn f' ts' v' hr hk => by
    obtain rfl : n = 0 := by omega
    simp only [runN, Stepped.next.injEq] at hr
    obtain ⟨e3, e4, e5⟩ := lone_inj hr
    have e4 := List.append_cancel_right e4
    subst e3 e4
    rw [← e5] at hk
    exact hne (.stop (hKp _ _ _ _ hk))⟩, rfl⟩
  obtain ⟨s0, hs0⟩ := h0
  obtain ⟨nx, hnx⟩ := Classical.axiomOfChoice (stg_next hK hV hX hKp H)
  let p : Nat → Stg K T N Kp f0 ts0 v0 := fun n => Nat.rec s0 (fun _ s => nx s) n
  have hp : ∀ n, p (n + 1) = nx (p n) := fun _ => rfl
  have hi : ∀ n, (p n).i = n := fun n => by
    induction n with
    | zero => exact hs0
    | succ n ih => rw [hp, (hnx (p n)).1, ih]
  have hmono : ∀ n k, (p n).v.drawn ≤ (p (n + k)).v.drawn ∧ ∀ j, j < (p n).v.drawn → (p (n + k)).v.tape j = (p n).v.tape j := fun n k => by
    induction k with
    | zero => exact ⟨Nat.le_refl _, fun _ _ => rfl⟩
    | succ k ih =>
      obtain ⟨_, h2, h3⟩ := hnx (p (n + k))
      exact ⟨Nat.le_trans ih.1 h2, fun j hj => (h3 j (Nat.lt_of_lt_of_le hj ih.1)).trans (ih.2 j hj)⟩
  have hcoh : ∀ n m j, j < (p n).v.drawn → j < (p m).v.drawn → (p n).v.tape j = (p m).v.tape j := fun n m j h1 h2 => by
    rcases Nat.le_total n m with h | h
    · obtain ⟨k, rfl⟩ := Nat.exists_eq_add_of_le h
      exact ((hmono n k).2 j h1).symm
    · obtain ⟨k, rfl⟩ := Nat.exists_eq_add_of_le h
      exact (hmono m k).2 j h2
  have hall : ∀ j, ∃ q : Question → Nat, ∀ n, j < (p n).v.drawn → q = (p n).v.tape j := fun j => by
    by_cases h : ∃ n, j < (p n).v.drawn
    · obtain ⟨n, hn⟩ := h
      exact ⟨(p n).v.tape j, fun m hm => hcoh n m j hn hm⟩
    · exact ⟨fun _ => 0, fun n hn => absurd ⟨n, hn⟩ h⟩
  obtain ⟨τ, hτ⟩ := Classical.axiomOfChoice hall
  obtain ⟨n, f', ts', v', hr, hk⟩ := H τ fun j hj => by
    have h1 := (p 0).past
    rw [hτ j 0 (by omega), h1.2 j hj]
  exact (p n).nok τ (fun j hj => hτ j n hj) n (by rw [hi]; exact Nat.le_refl _) f' ts' v' hr hk
end

end Go.Proofs.Ytcdhmnefmbcmaaa
