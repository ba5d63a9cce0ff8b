/-
  A step of a running frame, side by side; no condition but what each law names.
  A step of a frame that unwinds, and a step as a whole, side by side; no condition but what each law names.
-/
import Derived.Test.YtcdhmnefmbcmaaaJah
namespace Go.Proofs.Ytcdhmnefmbcmaaa
open Go Go.Conc

section
variable {K : Kit} {T : Twin} {N : Nat} {ρ ρ' : Rn} {v w v' w' : World} {dr : Frame} {ds cs' : List Frame} {mn : Bool}

theorem rel_bool {F : Fs} {x x' : Value} {b : Bool} (h : RelV F ρ x x') (e : x = .bool b) : x' = .bool b := by
  subst e
  exact rel_flat_eq h rfl

theorem sim_leave (hW : RelW K.F N ρ v w) {f f' : Frame} (hf : RelFr K T ρ f f') {ts ts' : List Frame} (hts : All2 (RelFr K T ρ) ts ts') {j : Option Code} (hj : ∀ c, j = some c → cOk K.P K.fb K.G false c = true) {lost lost' : GStep} (hl : ∃ o u e, lost = .ended o u e)
    {cnd : Prop} [Decidable cnd]
    {R R' : GStep} (hR : R = match f.roundOf with
      | none => if cnd then GStep.go { frame := { f with mode := .returning }, callers := ts ++ (dr :: ds), status := .running, dying := none } v else lost
      | some l => GStep.after (seen T.v f.fn ((Instr.endRound l j).runT T.v v #[]).2) (match ((Instr.endRound l j).runT T.v v #[]).1 with
        | .ok x w => doReturn T.v true f (ts ++ (dr :: ds)) none x w
        | .halt _ w => .ended (.stuck "range over a function: no such loop" (f.pos T.v)) w))
    (hR' : R' = match f'.roundOf with
      | none => if cnd then GStep.go { frame := { f' with mode := .returning }, callers := ts' ++ cs', status := .running, dying := none } w else lost'
      | some l => GStep.after (seen T.P f'.fn ((Instr.endRound l j).runT T.P w #[]).2) (match ((Instr.endRound l j).runT T.P w #[]).1 with
        | .ok x w => doReturn T.P mn f' (ts' ++ cs') none x w
        | .halt _ w => .ended (.stuck "range over a function: no such loop" (f'.pos T.P)) w))
    (ht : ∀ g1 v1 es, R = .go g1 v1 es → Tp v w (v1.drawn - v.drawn)) : Sim K T N ρ v w dr ds cs' R R' := by
  have hro := hf.round
  cases h1 : f.roundOf with
  | none =>
    have h2 : f'.roundOf = none := by
      rw [h1] at hro
      cases h2 : f'.roundOf with
      | none => rfl
      | some _ => rw [h2] at hro; exact hro.elim
    have h3 := hf.setMode (m := .returning) (m' := .returning) .returning
    simp only [h1, h2] at h3
    simp only [h1] at hR
    simp only [h2] at hR'
    subst hR hR'
    split
    · exact sim_go h3 hts (Stp.refl hW) (by simp)
    · obtain ⟨o, u, e, rfl⟩ := hl; trivial
  | some l =>
    obtain ⟨l', h2, hl2⟩ : ∃ l', f'.roundOf = some l' ∧ ρ.r l l' := by
      rw [h1] at hro
      cases h2 : f'.roundOf with
      | none => rw [h2] at hro; exact hro.elim
      | some l' => rw [h2] at hro; exact ⟨l', rfl, hro⟩
    rw [h1] at hR
    rw [h2] at hR'
    simp only at hR hR'
    rw [Sem.runT_eq] at hR
    subst hR hR'
    refine sim_run (Q := QV K.F) (cont := fun r => match r with
        | .ok x w => doReturn T.v true f (ts ++ (dr :: ds)) none x w
        | .halt _ w => .ended (.stuck "range over a function: no such loop" (f.pos T.v)) w)
      (cont' := fun r => match r with
        | .ok x w => doReturn T.P mn f' (ts' ++ cs') none x w
        | .halt _ w => .ended (.stuck "range over a function: no such loop" (f'.pos T.P)) w) (rel_endRound hl2 (j := j) (fun hx c hcj => ⟨hj c hcj, hx.choose_spec.2⟩)) hW (fun h v' _ => ⟨_, _, _, rfl⟩) (fun x v' => .inl ⟨_, _, _, rfl⟩) (fun a v' ρ₁ b₁ _ _ => ⟨?_, ?_⟩) ht
    · cases hts with
      | nil =>
        rcases hf.kind.2 with e | e
        · exact .inl ⟨_, _, by simp only [doReturn, e, List.nil_append]; rfl⟩
        · exact .inl ⟨_, _, by simp only [doReturn, e, List.nil_append]; rfl⟩
      | cons _ _ =>
        rcases hf.kind.2 with e | e
        · exact .inl ⟨_, _, by simp only [doReturn, e, List.cons_append]; rfl⟩
        · exact .inl ⟨_, _, by simp only [doReturn, e, List.cons_append]; rfl⟩
    · intro ρ' b w' u eu hq hst
      exact sim_ret (hf.mono hst.le) (forall2_mono (fun _ _ x => x.mono hst.le) hts) hst (fun e he => seen_sub he) hq

theorem Tp.shift {v w v1 w1 : World} {n : Nat} (h : Tp v w n) (hv : v1.tape = v.tape) (hw : w1.tape = w.tape) (hd : v.drawn ≤ v1.drawn ∧ v1.drawn + w.drawn = v.drawn + w1.drawn) : Tp v1 w1 (n - (v1.drawn - v.drawn)) := by
  intro i hi q
  rw [hv, hw]
  have := h (v1.drawn - v.drawn + i) (by omega) q
  have e1 : v.drawn + (v1.drawn - v.drawn + i) = v1.drawn + i := by omega
  have e2 : w.drawn + (v1.drawn - v.drawn + i) = w1.drawn + i := by omega
  rw [e1, e2] at this
  exact this

/-- one run of the free monad, then whatever -/
theorem sim_then {α β : Type} {Q : Rn → α → β → Prop} {s : Sem α} {s' : Sem β} (hs : SemRel T K.F N Q s ρ s') (hW : RelW K.F N ρ v w) {cont : Result α → GStep} {cont' : Result β → GStep} {es : Array Event} {fn' : FuncId}
    (hlost : ∀ h v', ∃ o u e, cont (.halt h v') = .ended o u e)
    (hgo : ∀ a v' ρ' b w', Q ρ' a b → RelW K.F N ρ' v' w' → ρ.le ρ' → (∀ g1 v1 e, cont (.ok a v') = .go g1 v1 e → Tp v' w' (v1.drawn - v'.drawn)) → Sim K T N ρ' v' w' dr ds cs' (cont (.ok a v')) (cont' (.ok b w')))
    (ht : ∀ g1 v1 e, GStep.after es (cont (s.run T.v v)) = .go g1 v1 e → Tp v w (v1.drawn - v.drawn)) :
    Sim K T N ρ v w dr ds cs' (GStep.after es (cont (s.run T.v v))) (GStep.after (seen T.P fn' (s'.runT T.P w #[]).2) (cont' (s'.runT T.P w #[]).1)) := by
  have h0 := hs.sound hW.tied (fun i _ q => by simp [tied])
  have hr : Tp v w ((rworld (s.run T.v v)).drawn - v.drawn) → Res K.F N Q ρ v w (s.run T.v v) (s'.runT T.P w #[]) := fun h => hs.sound hW h
  generalize s.run T.v v = r at hr h0 ht ⊢
  generalize s'.runT T.P (tied v w) #[] = r0 at h0
  generalize s'.runT T.P w #[] = r' at hr ⊢
  cases r with
  | halt x v' => obtain ⟨o, u, e, h1⟩ := hlost x v'; rw [h1]; trivial
  | ok a v' =>
    obtain ⟨ρ0, b0, w0, u0, rfl, hq0, hst0⟩ := h0
    have hfull : ∀ n, Tp v' w0 n := fun n i _ q => by
      rw [hst0.tv.1, hst0.tw.1]
      have := hst0.drawn
      simp only [tied] at this ⊢
      congr 1
      omega
    have hs0 := hgo a v' ρ0 b0 w0 hq0 hst0.rel hst0.le (fun _ v1 _ _ => hfull _)
    cases hc : cont (.ok a v') with
    | go g1 v1 e =>
      rw [hc] at hs0
      have hmono : v'.drawn ≤ v1.drawn := by
        rcases hs0 with ⟨_, _, _, _, _, _, _, _, _, _, _, h⟩ | ⟨_, _, _, _, _, _, _, _, _, _, _, _, _, _, _, _, _, _, h, _⟩ | ⟨_, _, _, _, h⟩ | ⟨_, _, _, _, _, _, h, _⟩
        · exact h.drawn.1
        · exact h.drawn.1
        · exact h
        · exact h
      have hT : Tp v w (v1.drawn - v.drawn) := ht g1 v1 (es ++ e) (by rw [hc]; rfl)
      have hd := hst0.drawn.1
      obtain ⟨ρ', b, w', u, rfl, hq, hst⟩ := hr (fun i hi q => hT i (by simp only [rworld] at hi; omega) q)
      have h2 := hgo a v' ρ' b w' hq hst.rel hst.le (fun g2 v2 e2 h => by
        rw [hc] at h
        cases h
        have := hT.shift hst.tv.1 hst.tw.1 hst.drawn
        have e3 : v1.drawn - v.drawn - (v'.drawn - v.drawn) = v1.drawn - v'.drawn := by omega
        rwa [e3] at this)
      rw [hc] at h2
      rcases h2 with ⟨f1, ts1, f1', ts1', ρ1, w1, es', h3, h4, h5, h6, h7⟩ | ⟨X, p, p', k, f1, ts1, f1', ts1', ρ1, w1, es', hX, hX', h3, h4, h5, h6, h7, h8, h9⟩ | ⟨c, h3, h4, h5, h6⟩ | ⟨p, k, f1, ts1, h0, h3, h4, h5⟩
      · refine .inl ⟨f1, ts1, f1', ts1', ρ1, w1, seen T.P fn' u ++ es', h3, by simp only [h4]; rfl, h5, h6, ?_⟩
        exact (hst.trans h7 hW).sub fun x hx => (Array.mem_append.1 hx).elim (fun h => Array.mem_append.2 (.inl (seen_sub h))) fun h => Array.mem_append.2 (.inr h)
      · refine .inr (.inl ⟨X, p, p', k, f1, ts1, f1', ts1', ρ1, w1, seen T.P fn' u ++ es', hX, hX', h3, by simp only [h4]; rfl, h5, h6, h7, ?_, h9⟩)
        exact (hst.trans h8 hW).sub fun x hx => (Array.mem_append.1 hx).elim (fun h => Array.mem_append.2 (.inl (seen_sub h))) fun h => Array.mem_append.2 (.inr h)
      · exact .inr (.inr (.inl ⟨c, h3, h4, h5.after hst hW fun _ he => seen_sub he, by omega⟩))
      · exact .inr (.inr (.inr ⟨p, k, f1, ts1, by rw [← hst.tok.2]; exact h0, h3, by omega, h5⟩))
    | ended o u e => trivial
    | _ => rw [hc] at hs0; exact hs0.elim

theorem cOk_mono {P : Program} {fb : Fb} {G : Nat} {d : Bool} : ∀ {c : Code}, cOk P fb G false c = true → cOk P fb G d c = true := by
  intro c
  induction c with
  | region n ops dr =>
    intro h
    simp only [cOk, Array.all_eq_true', Bool.and_eq_true, Bool.or_eq_true] at h ⊢
    exact fun o ho => ⟨(h o ho).1, .inr ((h o ho).2.resolve_left (by simp))⟩
  | seq a b ia ib => intro h; simp only [cOk, Bool.and_eq_true] at h ⊢; exact ⟨ia h.1, ib h.2⟩
  | cond c a b ia ib => intro h; simp only [cOk, Bool.and_eq_true] at h ⊢; exact ⟨⟨h.1.1, ia h.1.2⟩, ib h.2⟩
  | block n c ih => exact ih
  | loop c ih => exact ih
  | scope c ih => exact ih
  | rangeFunc f ps a b _ _ => exact id
  | _ => intro _; rfl

theorem rel_yielded {F : Fs} {p p' : Array Value} (h : RelVs F ρ p p') (ops : Array Oper) : yielded ops p = yielded ops p' := by
  funext j
  unfold yielded
  cases (ops[j]?).bind (·.dst) with
  | none => rfl
  | some d =>
    simp only [Option.bind_some]
    cases hv : p[d]? with
    | none => rw [h.none hv]
    | some x =>
      obtain ⟨x', hx', hr⟩ := h.get hv
      rw [hx']
      cases hr with
      | flat _ => rfl
      | tok hc ht => cases x' <;> first | rfl | exact absurd (show false = true from ht) (by simp)
      | mf _ hm => cases x' <;> first | rfl | exact absurd (show false = true from hm) (by simp)
      | _ => rfl

set_option maxHeartbeats 800000 in
theorem sim_exec (hK : Fits K T N) (hW : RelW K.F N ρ v w) (hG : ∀ g, g < K.G → ρ.r g g) {f f' : Frame} (hf : RelFr K T ρ f f') {ts ts' : List Frame} (hts : All2 (RelFr K T ρ) ts ts')
    (ht : ∀ g1 v1 es, stepG.exec T.v true true f (ts ++ (dr :: ds)) none v = .go g1 v1 es → Tp v w (v1.drawn - v.drawn)) :
    Sim K T N ρ v w dr ds cs' (stepG.exec T.v true true f (ts ++ (dr :: ds)) none v) (stepG.exec T.P mn true f' (ts' ++ cs') none w) := by
  have hst0 := Stp.refl hW
  have hgo : ∀ {l l' : List Item}, All2 (RelI K f.roundOf.isNone ρ) l l' → Sim K T N ρ v w dr ds cs' (.go { frame := { f with todo := l }, callers := ts ++ (dr :: ds), status := .running, dying := none } v)
      (.go { frame := { f' with todo := l' }, callers := ts' ++ cs', status := .running, dying := none } w) := fun h => sim_go (hf.todoSet h) hts hst0 (by simp)
  have hev := hf.ev hG
  unfold stepG.exec at ht ⊢
  cases e : f.todo with
  | nil =>
    have e' := hf.todo_nil e
    simp only [e, e'] at ht ⊢
    exact sim_leave hW hf hts (j := none) (by simp) (cnd := True) (lost := .ended (.stuck "exit, goto: no such block or label" (f.pos T.v)) v) (lost' := .ended (.stuck "exit, goto: no such block or label" (f'.pos T.P)) w) ⟨_, _, _, rfl⟩ (by simp only [e]; rfl) (by simp only [e']; rfl) ht
  | cons i l =>
    obtain ⟨i', l', e', hi, hl⟩ := hf.todo_cons e
    cases hi with
    | @code c hc =>
      cases c <;> simp only [e, e'] at ht ⊢
      case ret => exact sim_leave hW hf hts (j := some .ret) (fun c h => by cases h; rfl) (cnd := True) (lost := .ended (.stuck "exit, goto: no such block or label" (f.pos T.v)) v) (lost' := .ended (.stuck "exit, goto: no such block or label" (f'.pos T.P)) w) ⟨_, _, _, rfl⟩ (by simp only [e]; rfl) (by simp only [e']; rfl) ht
      case skip => exact hgo hl
      case label n => exact hgo hl
      case seq a b =>
        simp only [cOk, Bool.and_eq_true] at hc
        exact hgo (.cons (.code hc.1) (.cons (.code hc.2) hl))
      case cond c a b =>
        simp only [cOk, Bool.and_eq_true] at hc
        have hv := hev c hc.1.1
        generalize f.eval c = x at hv ⊢
        generalize f'.eval c = x' at hv ⊢
        cases hv with
        | flat hfl =>
          cases x <;> first | trivial | skip
          rename_i t
          cases t
          · exact hgo (.cons (.code hc.2) hl)
          · exact hgo (.cons (.code hc.1.2) hl)
        | _ => trivial
      case block n c => exact hgo (.cons (.code hc) (.cons .inBlock hl))
      case loop c => exact hgo (.cons (.code hc) (.cons (.inLoop hc) hl))
      case scope c => exact hgo (.cons (.code hc) (.cons (.inScope hc) hl))
      case exit n =>
        have hx := all2_exitTo (id := n) hl
        generalize exitTo n l = x at hx ht ⊢
        generalize exitTo n l' = x' at hx ⊢
        cases x <;> cases x' <;> first | exact hx.elim | skip
        · exact sim_leave hW hf hts (j := some (.exit n)) (fun c h => by cases h; rfl) (cnd := False) (lost := .ended (.stuck "exit, goto: no such block or label" (f.pos T.v)) v) (lost' := .ended (.stuck "exit, goto: no such block or label" (f'.pos T.P)) w) ⟨_, _, _, rfl⟩ (by simp; rfl) (by simp; rfl) ht
        · exact hgo hx
      case goto n =>
        have hx := all2_gotoIn (id := n) hl
        generalize gotoIn n l = x at hx ht ⊢
        generalize gotoIn n l' = x' at hx ⊢
        cases x <;> cases x' <;> first | exact hx.elim | skip
        · exact sim_leave hW hf hts (j := some (.goto n)) (fun c h => by cases h; rfl) (cnd := False) (lost := .ended (.stuck "exit, goto: no such block or label" (f.pos T.v)) v) (lost' := .ended (.stuck "exit, goto: no such block or label" (f'.pos T.P)) w) ⟨_, _, _, rfl⟩ (by simp; rfl) (by simp; rfl) ht
        · exact hgo hx
      case rangeFunc g ps a b =>
        simp only [cOk, Bool.and_eq_true] at hc
        rw [Sem.runT_eq] at ht ⊢
        have hE : SemRel T K.F N (fun ρ (x y : Nat × List Deferred) => ρ.r x.1 y.1 ∧ All2 (RelD K.F ρ) x.2 y.2 ∧ ∀ d ∈ x.2, ∃ b, d.target = .collected b) (Instr.enterLoop f.fn f.tmps ps a b f.roundOf) ρ (Instr.enterLoop f'.fn f'.tmps ps a b f'.roundOf) := by
          rw [hf.fn]; exact rel_enterLoop (F := K.F) f.fn (show K.F.r f.fn from ⟨hf.ok, hc.1.1.1.1⟩) hf.tmps ps (by simpa using hc.1.1.2) ⟨hc.1.2, hc.1.1.1.1⟩ ⟨hc.2, hc.1.1.1.1⟩ hf.round
        refine sim_then (cont := fun r => match r with
            | .ok (l0, mark) w => stepG.apply T.v true { f with todo := .inRangeFunc l0 :: l, defers := mark ++ f.defers } (ts ++ (dr :: ds)) none
                (do let d ← resolve (Frame.eval { f with todo := .inRangeFunc l0 :: l, defers := mark ++ f.defers }) { callee := .value g, args := #[.const (.func (.yield l0) #[] #[])], argTypes := #[] } 0; invoke d.target d.args) w
            | .halt _ w => .ended (.stuck "range over a function: no such loop" (f.pos T.v)) w)
          (cont' := fun r => match r with
            | .ok (l0, mark) w => stepG.apply T.P true { f' with todo := .inRangeFunc l0 :: l', defers := mark ++ f'.defers } (ts' ++ cs') none
                (do let d ← resolve (Frame.eval { f' with todo := .inRangeFunc l0 :: l', defers := mark ++ f'.defers }) { callee := .value g, args := #[.const (.func (.yield l0) #[] #[])], argTypes := #[] } 0; invoke d.target d.args) w
            | .halt _ w => .ended (.stuck "range over a function: no such loop" (f'.pos T.P)) w)
          (hs := hE) hW (fun h v' => ⟨_, _, _, rfl⟩) ?_ ht
        rintro ⟨l0, mark⟩ v' ρ' ⟨l0', mark'⟩ w' ⟨hq1, hq2, hq3⟩ hW' hle ht'
        have app : ∀ {a a' b b' : List Deferred}, All2 (RelD K.F ρ') a a' → All2 (RelD K.F ρ') b b' → All2 (RelD K.F ρ') (a ++ b) (a' ++ b') := by
          intro a a' b b' ha hb
          induction ha with
          | nil => exact hb
          | cons x _ ih => exact .cons x ih
        have hf1 := hf.mono hle
        have hf2 : RelFr K T ρ' { f with todo := .inRangeFunc l0 :: l, defers := mark ++ f.defers } { f' with todo := .inRangeFunc l0' :: l', defers := mark' ++ f'.defers } :=
          ⟨hf1.fn, hf1.ok, hf1.tmps, .cons (.inRangeFunc hq1) (forall2_mono (fun _ _ x => x.mono hle) hl), app hq2 hf1.defers, hf1.mode, hf1.kind, hf1.round, fun d hd => (List.mem_append.1 hd).elim (fun h => .inl ⟨hc.1.1.1.1, hq3 d h⟩) (hf1.nd d)⟩
        refine sim_apply hK hW' hf2 (forall2_mono (fun _ _ x => x.mono hle) hts) ?_ ht'
        have hg : ∀ x : Frame, ∀ l0, (do let d ← resolve x.eval { callee := .value g, args := #[.const (.func (.yield l0) #[] #[])], argTypes := #[] } 0; invoke d.target d.args : Sem Next) =
            (do let d ← Deferred.ofValue (x.eval g) #[.func (.yield l0) #[] #[]]; invoke d.target d.args) := fun x l0 => by
          unfold resolve
          simp only [List.map_toArray, List.map_cons, List.map_nil, Frame.eval]
        rw [hg, hg]
        exact rel_invokeValue hK.bodies (hf2.ev (fun g hg => hle.r _ _ (hG g hg)) g hc.1.1.1.2.1) (RelVs.one (.yield hq1)) (fun _ => by simpa using hc.1.1.1.2.2)
      case refuse s => trivial
      case region n ops d =>
        have hc' : cOk K.P K.fb K.G f.roundOf.isNone (.region 0 ops false) = true := hc
        cases d with
        | false => exact hgo (.cons (.inRegion hc') hl)
        | true =>
          simp only [Bool.not_true, Bool.false_eq_true, if_false] at ht ⊢
          have hch : SemRel T K.F N QEq (choose (.order f.fn n)) ρ (choose (.order f'.fn n)) := by rw [hf.fn]; exact rel_choose _
          have e4 : T.v.follows .mixedOrders = T.P.follows .mixedOrders := rfl
          rw [e4] at ht ⊢
          have hr : Tp v w ((rworld ((choose (.order f.fn n)).run T.v v)).drawn - v.drawn) → _ := fun h => hch.sound hW h
          have hv : ∃ x v', (choose (.order f.fn n)).run T.v v = .ok x v' := ⟨_, _, by simp [choose, Sem.run, Question.forced]; exact ⟨rfl, rfl⟩⟩
          obtain ⟨x, v', hv⟩ := hv
          rw [hv] at hr ht ⊢
          simp only at ht ⊢
          obtain ⟨ρ', b, w', u, h1, h2, hst⟩ := hr (ht _ _ _ rfl)
          obtain rfl : x = b := h2
          have h3 : (choose (.order f'.fn n)).run T.P w = .ok x w' := by rw [← Sem.runT_fst _ _ _ #[], h1]
          rw [h3]
          exact sim_go ((hf.mono hst.le).todoSet (.cons (.inRegion hc') (forall2_mono (fun _ _ x => x.mono hst.le) hl))) (forall2_mono (fun _ _ x => x.mono hst.le) hts) hst (by simp)
    | inBlock => simp only [e, e'] at ht ⊢; exact hgo hl
    | inLoop hc => simp only [e, e'] at ht ⊢; exact hgo (.cons (.code hc) (.cons (.inLoop hc) hl))
    | inScope hc => simp only [e, e'] at ht ⊢; exact hgo hl
    | @inRegion ops todo hc =>
      cases todo with
      | nil => simp only [e, e'] at ht ⊢; exact hgo hl
      | cons j rest =>
        simp only [e, e'] at ht ⊢
        rw [← rel_yielded hf.tmps] 
        split
        · rename_i hwd
          simp only [hwd, if_true] at ht
          unfold stepG.oper at ht ⊢
          have o1 : f.oper? = ops[j]? := by unfold Frame.oper?; rw [e]
          have o2 : f'.oper? = ops[j]? := by unfold Frame.oper?; rw [e']
          rw [o1] at ht ⊢
          rw [o2]
          cases ho : ops[j]? with
          | none => trivial
          | some o =>
            rw [ho] at ht
            simp only at ht ⊢
            have hok := Array.all_eq_true'.1 (show (ops.all fun o => opOk K.P K.fb K.G o.op && (f.roundOf.isNone || !(match o.op with | .defer _ => true | _ => false))) = true from hc) o (Array.mem_of_getElem? ho)
            rw [Bool.and_eq_true] at hok
            have hrel : SemRel T K.F N (QNx K.F) (execOp f.eval o) ρ (execOp f'.eval o) := rel_execOp hK.bodies hK.N (fun f h => h) (fun f n h => h) (Nat.le_refl _) (fun f h => h) (fun h => h) hev (fun _ => rfl) (fun _ => rfl) (fun _ => rfl) (by rw [← hK.ops]; exact hok.1)
            have hro := hf.round
            cases r1 : f.roundOf with
            | none =>
              have r2 : f'.roundOf = none := by
                rw [r1] at hro
                cases r2 : f'.roundOf with
                | none => rfl
                | some _ => rw [r2] at hro; exact hro.elim
              simp only [r1, r2] at ht ⊢
              exact sim_apply hK hW hf hts hrel ht
            | some l1 =>
              obtain ⟨l2, r2⟩ : ∃ l2, f'.roundOf = some l2 := by
                rw [r1] at hro
                cases r2 : f'.roundOf with
                | none => rw [r2] at hro; exact hro.elim
                | some l2 => exact ⟨l2, rfl⟩
              simp only [r1, r2] at ht ⊢
              have hnd := hok.2
              rw [r1] at hnd
              generalize hop : o.op = op at hnd ht ⊢
              cases op <;> first | exact absurd (show false = true from hnd) (by simp) | exact sim_apply hK hW hf hts hrel ht
        · rename_i hwd
          simp only [hwd, Bool.false_eq_true, if_false] at ht ⊢
          exact sim_go (hf.finish .undef) hts hst0 (by simp)
    | inRangeFunc hr => simp only [e, e'] at ht ⊢; trivial
    | endRangeFunc hr =>
      simp only [e, e'] at ht ⊢
      rw [Sem.runT_eq] at ht ⊢
      refine sim_run (cont := fun r => match r with
          | .ok jump w => .go { frame := { f with todo := (jump.map Item.code).toList ++ l }, callers := ts ++ (dr :: ds), status := .running, dying := none } w
          | .halt (.panic x) w => .go { frame := f.raise [{ v := x, recovered := false }], callers := ts ++ (dr :: ds), status := .running, dying := none } w
          | .halt _ w => .ended (.stuck "range over a function: no such loop" (f.pos T.v)) w)
        (cont' := fun r => match r with
          | .ok jump w => .go { frame := { f' with todo := (jump.map Item.code).toList ++ l' }, callers := ts' ++ cs', status := .running, dying := none } w
          | .halt (.panic x) w => .go { frame := f'.raise [{ v := x, recovered := false }], callers := ts' ++ cs', status := .running, dying := none } w
          | .halt _ w => .ended (.stuck "range over a function: no such loop" (f'.pos T.P)) w) (rel_endLoop hr) hW ?_ ?_ ?_ ht
      · intro h v' hs
        cases h <;> first | exact ⟨_, _, _, rfl⟩ | exact hs.elim
      · intro x v'
        refine .inr ⟨⟨_, _, rfl⟩, fun ρ' x' w' u eu hx hst => ?_⟩
        exact sim_go ((hf.mono hst.le).raise (.cons ⟨hx, rfl, ⟨rfl, rfl⟩, rfl⟩ .nil)) (forall2_mono (fun _ _ x => x.mono hst.le) hts) hst (fun e he => by simp at he; exact seen_sub he)
      · intro a v' ρ₁ b₁ _ _
        refine ⟨.inl ⟨_, _, rfl⟩, fun ρ' b w' u eu hq hst => ?_⟩
        obtain ⟨rfl, hj⟩ := hq
        have hl' := forall2_mono (fun _ _ (x : RelI K f.roundOf.isNone ρ _ _) => x.mono hst.le) hl
        refine sim_go ((hf.mono hst.le).todoSet ?_) (forall2_mono (fun _ _ x => x.mono hst.le) hts) hst (fun e he => by simp at he; exact seen_sub he)
        cases a with
        | none => exact hl'
        | some c => exact .cons (.code (cOk_mono (hj c rfl).1)) hl'
    | beginRound =>
      simp only [e, e'] at ht ⊢
      refine sim_apply hK hW hf hts ?_ ht
      have hro := hf.round
      cases r1 : f.roundOf with
      | none => exact SemRel.bind (Q := fun _ _ _ => False) (fun _ => trivial) fun _ _ _ _ h => h.elim
      | some l1 =>
        rw [r1] at hro
        cases r2 : f'.roundOf with
        | none => rw [r2] at hro; exact hro.elim
        | some l2 =>
          rw [r2] at hro
          exact rel_u (rel_beginRound hro)
end

end Go.Proofs.Ytcdhmnefmbcmaaa

namespace Go.Proofs.Ytcdhmnefmbcmaaa
open Go Go.Conc

section
variable {K : Kit} {T : Twin} {N : Nat} {ρ ρ' : Rn} {v w v' w' : World} {dr : Frame} {ds cs' : List Frame} {mn : Bool}

theorem sim_if {c c' : Prop} [Decidable c] [Decidable c'] (h : c ↔ c') {o : Outcome} {u : World} {e : Array Event} {B A' B' : GStep} (hB : ¬ c → Sim K T N ρ v w dr ds cs' B B') :
    Sim K T N ρ v w dr ds cs' (if c then .ended o u e else B) (if c' then A' else B') := by
  by_cases hc : c
  · rw [if_pos hc]; trivial
  · rw [if_neg hc, if_neg (fun x => hc (h.2 x))]; exact hB hc

theorem sim_deferred (hK : Fits K T N) (hW : RelW K.F N ρ v w) {f f' : Frame} (hf : RelFr K T ρ f f') {ts ts' : List Frame} (hts : All2 (RelFr K T ρ) ts ts') {d d' : Deferred} (hlt : K.fb.d = true) (hd : RelD K.F ρ d d')
    (ht : ∀ g1 v1 es, callDeferred T.v f (ts ++ (dr :: ds)) none d v = .go g1 v1 es → Tp v w (v1.drawn - v.drawn)) :
    Sim K T N ρ v w dr ds cs' (callDeferred T.v f (ts ++ (dr :: ds)) none d v) (callDeferred T.P f' (ts' ++ cs') none d' w) := by
  have hs := rel_invokeFn (N := N) hK.bodies hd
  have hc := hs.sort hW
  have hr : Tp v w ((rworld ((invoke d.target d.args).run T.v v)).drawn - v.drawn) → Res K.F N (QNx K.F) ρ v w ((invoke d.target d.args).run T.v v) ((invoke d'.target d'.args).runT T.P w #[]) := fun h => hs.sound hW h
  unfold callDeferred at ht ⊢
  have hn : ((match d.target with | .nil => true | _ => false) && (match f.mode with | .panicking _ => true | _ => false)) = ((match d'.target with | .nil => true | _ => false) && (match f'.mode with | .panicking _ => true | _ => false)) := by
    have h2 := hf.mode
    generalize f.mode = b at h2 ⊢
    generalize f'.mode = b' at h2 ⊢
    cases hd with
    | mk h1 _ =>
      generalize d.target = a at h1 ⊢
      generalize d'.target = a' at h1 ⊢
      cases h1 <;> cases h2 <;> rfl
    | @dead _ x _ _ _ hm _ => cases x <;> first | exact absurd (show false = true from hm) (by simp) | (cases h2 <;> rfl)
  refine sim_if ⟨fun h => hn.symm.trans h, fun h => hn.trans h⟩ fun hb => ?_
  · replace ht := fun g1 v1 es h => ht g1 v1 es ((if_neg hb).trans h)
    rw [Sem.runT_eq] at ht ⊢
    generalize (invoke d.target d.args).events T.v v #[] = eu at ht ⊢
    generalize (invoke d.target d.args).run T.v v = r at hr hc ht ⊢
    generalize (invoke d'.target d'.args).runT T.P w #[] = r' at hr ⊢
    have mono : ∀ {ρ'}, ρ.le ρ' → All2 (RelFr K T ρ') ts ts' := fun l => forall2_mono (fun _ _ x => x.mono l) hts
    cases r with
    | ok n v' =>
      have hT : Tp v w (v'.drawn - v.drawn) := by
        obtain ⟨ρ', b, hq⟩ := hc
        cases hq with
        | value _ => exact ht _ _ _ rfl
        | skip => exact ht _ _ _ rfl
        | enter _ _ _ => exact ht _ _ _ rfl
        | round _ _ _ _ _ => exact ht _ _ _ rfl
        | defer _ _ => exact ht _ _ _ rfl
        | seq _ _ => exact ht _ _ _ rfl
      obtain ⟨ρ', b, w', u, rfl, hq, hst⟩ := hr hT
      clear hr hc ht hT
      have hsub : Stp K.F N ρ ρ' v w v' w' (seen T.P f'.fn u ++ #[]) := hst.sub fun e he => by simp at he; exact seen_sub he
      cases hq with
      | value hv => exact .inl ⟨_, _, _, _, ρ', w', _, rfl, rfl, hf.mono hst.le, mono hst.le, hsub⟩
      | skip => exact .inl ⟨_, _, _, _, ρ', w', _, rfl, rfl, hf.mono hst.le, mono hst.le, hsub⟩
      | @enter g p p' hg ha hp =>
        by_cases hX : K.X g = true
        · exact .inr (.inl ⟨g, _, _, .deferred, _, _, _, _, ρ', w', _, hg, ⟨hX, ha⟩, rfl, rfl, hp, hf.mono hst.le, mono hst.le, hsub, .inr ⟨rfl, hlt⟩⟩)
        · exact .inl ⟨_, f :: ts, _, f' :: ts', ρ', w', _, rfl, rfl, relFr_enter hK hg (by simpa using hX) hp (.inr rfl), .cons (hf.mono hst.le) (mono hst.le), hsub⟩
      | @round l l' g p p' ca cb hl hp hg ha hb =>
        exact .inl ⟨_, f :: ts, _, f' :: ts', ρ', w', _, rfl, rfl, relFr_round hl hp hg ha hb (.inr rfl), .cons (hf.mono hst.le) (mono hst.le), hsub⟩
      | defer _ hd => exact .inl ⟨_, _, _, _, ρ', w', _, rfl, rfl, hf.mono hst.le, mono hst.le, hsub⟩
      | seq hp hq => exact .inr (.inr (.inr ⟨_, .deferred, _, _, by rw [← hst.tok.2]; exact hq, hp, hst.drawn.1, rfl⟩))
    | halt x v' =>
      cases x with
      | panic x =>
        obtain ⟨ρ', x', w', u, rfl, hx, hst⟩ := hr (ht _ _ _ rfl)
        have hsub : Stp K.F N ρ ρ' v w v' w' (seen T.P f'.fn u ++ #[]) := hst.sub fun e he => by simp at he; exact seen_sub he
        exact .inl ⟨_, _, _, _, ρ', w', _, rfl, rfl, (hf.mono hst.le).raise (.cons ⟨hx, rfl, ⟨rfl, rfl⟩, rfl⟩ .nil), mono hst.le, hsub⟩
      | unsupported u => cases u <;> first | exact hc.elim | trivial
      | _ => first | exact hc.elim | trivial

theorem RelFr.known (hK : Fits K T N) {f f' : Frame} (hf : RelFr K T ρ f f') : ∃ fn, T.P.funcs[f.fn]? = some fn ∧ T.v.funcs[f.fn]? = some fn := by
  obtain ⟨fn, h, _⟩ := hK.bodies.a f.fn hf.ok.1
  exact ⟨fn, h, (v_func hK hf.ok.1 hf.ok.2).trans h⟩

theorem catches_no {P : Program} {f : Frame} {fn : Func} (h : P.funcs[f.fn]? = some fn) : f.catches P = false := by
  unfold Frame.catches
  rw [h]

theorem ret_shape (P : Program) {f : Frame} (hk : f.kind = .normal ∨ f.kind = .deferred) (ts : List Frame) (x : Value) (v : World) : ∃ g e, doReturn P true f (ts ++ (dr :: ds)) none x v = .go g v e := by
  cases ts with
  | nil => rcases hk with e | e <;> exact ⟨_, _, by simp only [doReturn, e, List.nil_append]; rfl⟩
  | cons _ _ => rcases hk with e | e <;> exact ⟨_, _, by simp only [doReturn, e, List.cons_append]; rfl⟩

theorem sim_unwind (hK : Fits K T N) (hW : RelW K.F N ρ v w) {f f' : Frame} (hf : RelFr K T ρ f f') {ts ts' : List Frame} (hts : All2 (RelFr K T ρ) ts ts')
    (ht : ∀ g1 v1 es, unwind T.v true f (ts ++ (dr :: ds)) none v = .go g1 v1 es → Tp v w (v1.drawn - v.drawn)) :
    Sim K T N ρ v w dr ds cs' (unwind T.v true f (ts ++ (dr :: ds)) none v) (unwind T.P mn f' (ts' ++ cs') none w) := by
  have hds := hf.defers
  obtain ⟨fn, hfn, hfv⟩ := hf.known hK
  unfold unwind at ht ⊢
  cases e : f.defers with
  | nil =>
    have e' : f'.defers = [] := by rw [e] at hds; cases e' : f'.defers with | nil => rfl | cons _ _ => rw [e'] at hds; cases hds
    simp only [e, e'] at ht ⊢
    have hm := hf.mode
    cases m : f.mode with
    | run => trivial
    | panicking c =>
      obtain ⟨c', m', hc⟩ : ∃ c', f'.mode = .panicking c' ∧ All2 (RelP K.F ρ) c c' := by
        rw [m] at hm
        cases m' : f'.mode with
        | panicking c' => rw [m'] at hm; cases hm with | panicking h => exact ⟨c', rfl, h⟩
        | run => rw [m'] at hm; cases hm
        | returning => rw [m'] at hm; cases hm
      simp only [m, m', catches_no hfv, catches_no (f := f') (by rw [hf.fn]; exact hfn), Bool.false_eq_true, if_false] at ht ⊢
      cases hts with
      | nil => exact .inr (.inr (.inl ⟨_, rfl, ⟨fun _ => .inr (.inr ⟨_, rfl⟩), fun ch h hu => raise_pan dr h hu (unrec_of hc)⟩, fun _ _ _ _ _ => .inr (.inr ⟨_, rfl, unrec_of hc⟩), Nat.le_refl _⟩))
      | cons h1 h2 => exact sim_go (h1.raise hc) h2 (Stp.refl hW) (by simp)
    | returning =>
      have m' : f'.mode = .returning := by
        rw [m] at hm
        cases m' : f'.mode with
        | panicking c' => rw [m'] at hm; cases hm
        | run => rw [m'] at hm; cases hm
        | returning => rfl
      have hfn' : T.P.funcs[f'.fn]? = some fn := by rw [hf.fn]; exact hfn
      simp only [m, m', hfv, hfn'] at ht ⊢
      rw [Sem.runT_eq] at ht ⊢
      refine sim_run (cont := fun r => match r with
          | .ok x w => doReturn T.v true f (ts ++ (dr :: ds)) none x w
          | .halt (.stuck s) w => .ended (.stuck s (f.pos T.v)) w
          | .halt _ w => .ended (.stuck "return: the result variables cannot be read" (f.pos T.v)) w)
        (cont' := fun r => match r with
          | .ok x w => doReturn T.P mn f' (ts' ++ cs') none x w
          | .halt (.stuck s) w => .ended (.stuck s (f'.pos T.P)) w
          | .halt _ w => .ended (.stuck "return: the result variables cannot be read" (f'.pos T.P)) w)
        (rel_results fn hf.tmps) hW ?_ ?_ ?_ ht
      · intro h v' _
        cases h <;> exact ⟨_, _, _, rfl⟩
      · intro x v'; exact .inl ⟨_, _, _, rfl⟩
      · intro a v' ρ₁ b₁ _ _
        refine ⟨.inl (ret_shape T.v hf.kind.2 ts a v'), fun ρ' b w' u eu hq hst => ?_⟩
        exact sim_ret (hf.mono hst.le) (forall2_mono (fun _ _ x => x.mono hst.le) hts) hst (fun e he => seen_sub he) hq
  | cons d dl =>
    obtain ⟨d', dl', e', hd, hds2⟩ : ∃ d' dl', f'.defers = d' :: dl' ∧ RelD K.F ρ d d' ∧ All2 (RelD K.F ρ) dl dl' := by
      rw [e] at hds
      cases e' : f'.defers with
      | nil => rw [e'] at hds; cases hds
      | cons d' dl' => rw [e'] at hds; cases hds with | cons h1 h2 => exact ⟨d', dl', rfl, h1, h2⟩
    have hnd : ∀ x ∈ d :: dl, (K.fb.l = true ∧ ∃ b, x.target = .collected b) ∨ K.fb.d = true := by rw [← e]; exact hf.nd
    have hlt : (¬ ∃ b, d.target = .collected b) → K.fb.d = true := fun h => (hnd d (List.mem_cons_self ..)).elim (fun x => absurd x.2 h) id
    have hf2 : RelFr K T ρ { f with defers := dl } { f' with defers := dl' } := ⟨hf.fn, hf.ok, hf.tmps, hf.todo, hds2, hf.mode, hf.kind, hf.round, fun x hx => hnd x (List.mem_cons_of_mem _ hx)⟩
    cases hd with
    | @dead b x p p' h1 h2 h3 =>
      cases x <;> first | exact absurd (show false = true from h2) (by simp) | skip
      rename_i fx qx rx
      have hdd : RelD K.F ρ (heldD (mfV b) p) (heldD (.func fx qx rx) p') := .dead h1 h2 h3
      cases fx <;> first | exact absurd (show false = true from h2) (by simp) | skip
      simp only [e, e', heldD, mfV] at ht hdd ⊢
      exact sim_deferred hK hW hf2 hts (hlt (fun ⟨b, x⟩ => by cases x)) hdd ht
    | mk htg hargs =>
    have hd : RelD K.F ρ d d' := .mk htg hargs
    obtain ⟨t, as⟩ := d
    obtain ⟨t', as'⟩ := d'
    simp only at htg
    by_cases hcol : ∃ b, t = .collected b
    · obtain ⟨b, rfl⟩ := hcol
      obtain ⟨b', rfl, hb⟩ : ∃ b', t' = .collected b' ∧ ρ.r b b' := by cases htg with | collected h => exact ⟨_, rfl, h⟩
      simp only [e, e'] at ht ⊢
      rw [Sem.runT_eq] at ht ⊢
      refine sim_run (cont := fun r => match r with
          | .ok calls w => .go { frame := { f with defers := calls ++ dl }, callers := ts ++ (dr :: ds), status := .running, dying := none } w
          | .halt _ w => .ended (.stuck "the deferred calls of a range-over-func loop have been taken" (f.pos T.v)) w)
        (cont' := fun r => match r with
          | .ok calls w => .go { frame := { f' with defers := calls ++ dl' }, callers := ts' ++ cs', status := .running, dying := none } w
          | .halt _ w => .ended (.stuck "the deferred calls of a range-over-func loop have been taken" (f'.pos T.P)) w)
        (rel_takeDeferred hb) hW ?_ ?_ ?_ ht
      · intro h v' _; exact ⟨_, _, _, rfl⟩
      · intro x v'; exact .inl ⟨_, _, _, rfl⟩
      · intro a v' ρ₁ b₁ _ _
        refine ⟨.inl ⟨_, _, rfl⟩, fun ρ' b w' u eu hq hst => ?_⟩
        obtain ⟨rfl, rfl⟩ := hq
        exact sim_go (hf2.mono hst.le) (forall2_mono (fun _ _ x => x.mono hst.le) hts) hst (fun e he => by simp at he; exact seen_sub he)
    · have h1 : ∀ (P : Program) (g : Frame) (cs : List Frame) (w : World) (dl : List Deferred), g.defers = { target := t, args := as } :: dl → True := fun _ _ _ _ _ _ => trivial
      cases htg with
      | collected h => exact absurd ⟨_, rfl⟩ hcol
      | fn h2 h3 => simp only [e, e'] at ht ⊢; exact sim_deferred hK hW hf2 hts (hlt hcol) hd ht
      | nil => simp only [e, e'] at ht ⊢; exact sim_deferred hK hW hf2 hts (hlt hcol) hd ht
      | yield h2 => simp only [e, e'] at ht ⊢; exact sim_deferred hK hW hf2 hts (hlt hcol) hd ht
      | seq h2 h3 => simp only [e, e'] at ht ⊢; exact sim_deferred hK hW hf2 hts (hlt hcol) hd ht

/-- A STEP, SIDE BY SIDE. -/
theorem sim_step (hK : Fits K T N) (hW : RelW K.F N ρ v w) (hG : ∀ g, g < K.G → ρ.r g g) {f f' : Frame} (hf : RelFr K T ρ f f') {ts ts' : List Frame} (hts : All2 (RelFr K T ρ) ts ts')
    (ht : ∀ g1 v1 es, stepG T.v true (G f (ts ++ (dr :: ds))) v = .go g1 v1 es → Tp v w (v1.drawn - v.drawn)) :
    Sim K T N ρ v w dr ds cs' (stepG T.v true (G f (ts ++ (dr :: ds))) v) (stepG T.P mn (G f' (ts' ++ cs')) w) := by
  unfold stepG G at ht ⊢
  have hm := hf.mode
  cases m : f.mode with
  | run =>
    have m' : f'.mode = .run := by
      rw [m] at hm
      cases m' : f'.mode with
      | panicking c' => rw [m'] at hm; cases hm
      | run => rfl
      | returning => rw [m'] at hm; cases hm
    simp only [m, m'] at ht ⊢
    exact sim_exec hK hW hG hf hts ht
  | returning =>
    have m' : f'.mode = .returning := by
      rw [m] at hm
      cases m' : f'.mode with
      | panicking c' => rw [m'] at hm; cases hm
      | run => rw [m'] at hm; cases hm
      | returning => rfl
    simp only [m, m'] at ht ⊢
    exact sim_unwind hK hW hf hts ht
  | panicking c =>
    obtain ⟨c', m'⟩ : ∃ c', f'.mode = .panicking c' := by
      rw [m] at hm
      cases m' : f'.mode with
      | panicking c' => exact ⟨c', rfl⟩
      | run => rw [m'] at hm; cases hm
      | returning => rw [m'] at hm; cases hm
    simp only [m, m'] at ht ⊢
    exact sim_unwind hK hW hf hts ht
end

end Go.Proofs.Ytcdhmnefmbcmaaa
