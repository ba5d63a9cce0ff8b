/-
  Goroutine 0's plan by steps written out; no condition but what each law names.
  A smaller kit: fewer functions may be called, the same may be held as values, no ranges over functions; no condition but what each law names.
  Goroutine 0 while the worker goes on: a stretch of its game is a stretch of its plan; no condition but what each law names.
  Goroutine 0 in Copy's loop: it takes a chunk, or leaves; no condition but what each law names.
  Goroutine 0 in Copy's loop: after the call of Take; no condition but what each law names.
  Goroutine 0 leaves Copy's loop: it says stop, and waits; no condition but what each law names.
-/
import Derived.Test.YtcdhmnefmbcmaaaJav
import Derived.Test.YtcdhmnefmbcmaaaJak
import Derived.Lib.Hide
import Derived.Test.YtcdhmnefmbcmaaaJap
namespace Go.Proofs.Ytcdhmnefmbcmaaa
open Go Go.Conc

section
variable {C : Cx} {P : Program} (hP : C.P = P) {Fin : Nat → Goroutine → Own C.SR → Prop} {kk : Nat} {R : RF C.SR} {Gb : Nat → Prop} {L : List (Nat × Obj)}
  {fn : FuncId} {T : Array Value} {k : List Item} {D : List Deferred} {ro : Option Nat} {cs : List Frame} {ops : Array Oper} {i : Nat} {rest : List Nat} {op : Oper} {o : Own C.SR}
 include hP

/-- a step of control -/
theorem pm_q {g g' : Goroutine} (h : ∀ w, stepG P true g w = .go g' w #[]) (hr : g.status = .running) (next : PM C Fin .work kk g' o) : PM C Fin .work kk g o := by
  subst hP
  exact .priv (fun _ => g') (fun _ => o) hr (fun w hw => ⟨w, #[], h w, ⟨hw, Nat.le_refl _, fun b => ⟨.inl, fun x => x.elim id fun y => by omega⟩, fun _ _ _ => rfl, ⟨rfl, rfl, rfl⟩, by simp⟩⟩) fun _ _ => next

/-- a step that reads -/
theorem pm_rd {g g' : Goroutine} (h : ∀ w, o.I w → ∃ es, stepG P true g w = .go g' w es ∧ ∀ e ∈ es, RdEv o e) (hr : g.status = .running) (next : PM C Fin .work kk g' o) : PM C Fin .work kk g o := by
  subst hP
  refine .priv (fun _ => g') (fun _ => o) hr (fun w hw => ?_) fun _ _ => next
  obtain ⟨es, h1, h2⟩ := h w hw
  refine ⟨w, es, h1, ⟨hw, Nat.le_refl _, fun b => ⟨.inl, fun x => x.elim id fun y => by omega⟩, fun _ _ _ => rfl, ⟨rfl, rfl, rfl⟩, fun e he => ?_⟩⟩
  have := h2 e he
  unfold RdEv at this
  cases hl : e.loc with
  | cell a => rw [hl] at this; exact this.1.imp id fun x => ⟨x, this.2⟩
  | mark m => rw [hl] at this; exact this
  | obj c => rw [hl] at this; exact ⟨this.1, fun x => by rw [this.2] at x; cases x.1⟩
  | _ => rw [hl] at this; exact this.elim

theorem pm_val (v : Value) (ho : ops[i]? = some op) (hw : Region.wanted op (yielded ops T) = true) (hd : ro = none ∨ ∀ c, op.op ≠ .defer c) (hr : ∀ w, o.I w → (execOp (ev T) op).run P w = .ok (.value v) w)
    (he : ∀ w, o.I w → ∀ e ∈ (execOp (ev T) op).events P w #[], RdEv o e) (next : PM C Fin .work kk (G (fr fn (put T op.dst v) (.inRegion ops rest :: k) D ro) cs) o) :
    PM C Fin .work kk (G (fr fn T (.inRegion ops (i :: rest) :: k) D ro) cs) o :=
  pm_rd hP (fun w hw' => ⟨_, s_val ho hw hd (hr w hw'), fun e h => he w hw' e (seen_sub h)⟩) rfl next
theorem pm_enter {f : FuncId} {args : Array Value} (ho : ops[i]? = some op) (hw : Region.wanted op (yielded ops T) = true) (hd : ro = none ∨ ∀ c, op.op ≠ .defer c) (hr : ∀ w, o.I w → (execOp (ev T) op).run P w = .ok (.enter f args) w)
    (he : ∀ w, o.I w → ∀ e ∈ (execOp (ev T) op).events P w #[], RdEv o e) (next : PM C Fin .work kk (G (Frame.enter P f args .normal) (fr fn T (.inRegion ops (i :: rest) :: k) D ro :: cs)) o) :
    PM C Fin .work kk (G (fr fn T (.inRegion ops (i :: rest) :: k) D ro) cs) o :=
  pm_rd hP (fun w hw' => ⟨_, s_call ho hw hd (hr w hw'), fun e h => he w hw' e (seen_sub h)⟩) rfl next
theorem pm_round {l : Nat} {f : FuncId} {tm : Array Value} {a b : Code} (ho : ops[i]? = some op) (hw : Region.wanted op (yielded ops T) = true) (hd : ro = none ∨ ∀ c, op.op ≠ .defer c) (hr : ∀ w, o.I w → (execOp (ev T) op).run P w = .ok (.round l f tm a b) w)
    (he : ∀ w, o.I w → ∀ e ∈ (execOp (ev T) op).events P w #[], RdEv o e) (next : PM C Fin .work kk (G (fr f tm [.code a, .beginRound, .code b] [] (some l)) (fr fn T (.inRegion ops (i :: rest) :: k) D ro :: cs)) o) :
    PM C Fin .work kk (G (fr fn T (.inRegion ops (i :: rest) :: k) D ro) cs) o :=
  pm_rd hP (fun w hw' => ⟨_, s_round ho hw hd (hr w hw'), fun e h => he w hw' e (seen_sub h)⟩) rfl next
theorem pm_defer {d : Deferred} (ho : ops[i]? = some op) (hw : Region.wanted op (yielded ops T) = true) (hr : ∀ w, o.I w → (execOp (ev T) op).run P w = .ok (.defer d) w)
    (he : ∀ w, o.I w → ∀ e ∈ (execOp (ev T) op).events P w #[], RdEv o e) (next : PM C Fin .work kk (G (fr fn (put T op.dst undef) (.inRegion ops rest :: k) (d :: D) none) cs) o) :
    PM C Fin .work kk (G (fr fn T (.inRegion ops (i :: rest) :: k) D none) cs) o :=
  pm_rd hP (fun w hw' => ⟨_, s_defer ho hw (hr w hw'), fun e h => he w hw' e (seen_sub h)⟩) rfl next

/-- (the operation is picked out of the list) -/
theorem pm_vl {l : List Oper} (v : Value) (ho : l[i]? = some op) (hw : Region.wanted op (yielded l.toArray T) = true) (hd : ro = none ∨ ∀ c, op.op ≠ .defer c) (hr : ∀ w, o.I w → (execOp (ev T) op).run P w = .ok (.value v) w)
    (he : ∀ w, o.I w → ∀ e ∈ (execOp (ev T) op).events P w #[], RdEv o e) (next : PM C Fin .work kk (G (fr fn (put T op.dst v) (.inRegion l.toArray rest :: k) D ro) cs) o) :
    PM C Fin .work kk (G (fr fn T (.inRegion l.toArray (i :: rest) :: k) D ro) cs) o := pm_val hP v (by simpa using ho) hw hd hr he next

/-- goroutine 0 takes a chunk, or hears that there is none left -/
theorem pm_recv {z : Value} (go : Value → Nat → Obj → Own C.SR) (ho : ops[i]? = some op) (hw : Region.wanted op (yielded ops T) = true) (hd : ro = none ∨ ∀ c, op.op ≠ .defer c)
    (hr : ∀ w, o.I w → (execOp (ev T) op).run P w = .ok (.comm #[rcase C.bc z] true (.recv true)) w) (he : ∀ w, o.I w → (execOp (ev T) op).events P w #[] = #[])
    (hO : ∀ xv bk ob, C.Cs kk xv bk ob → ∀ x, (go xv bk ob).O x ↔ o.O x ∨ x = bk) (hI : ∀ xv bk ob, C.Cs kk xv bk ob → ∀ w, o.I w → ¬ o.O bk → w.heap[bk]? = some ob → (go xv bk ob).I w)
    (n1 : ∀ xv bk ob, C.Cs kk xv bk ob → PM C Fin .work (kk + 1) (G (fr fn (put T op.dst (.tuple #[xv, .bool true])) (.inRegion ops rest :: k) D ro) cs) (go xv bk ob))
    (n0 : kk = C.N → PM C Fin .work kk (G (fr fn (put T op.dst (.tuple #[z, .bool false])) (.inRegion ops rest :: k) D ro) cs) o) :
    PM C Fin .work kk (G (fr fn T (.inRegion ops (i :: rest) :: k) D ro) cs) o := by
  subst hP
  have e : ∀ q v b, ((G (fr fn T (.inRegion ops (i :: rest) :: k) D ro) cs).finishComm C.P #[rcase C.bc z] (.recv true) q v b) = G (fr fn (put T op.dst (commResult #[rcase C.bc z] (.recv true) q v b)) (.inRegion ops rest :: k) D ro) cs := fun q v b => by
    unfold Goroutine.finishComm
    rw [show (G (fr fn T (.inRegion ops (i :: rest) :: k) D ro) cs).frame = fr fn T (.inRegion ops (i :: rest) :: k) D ro from rfl, fr_finish ho]
    rfl
  have r1 : ∀ v b, commResult #[rcase C.bc z] (.recv true) 0 v b = .tuple #[v, .bool b] := fun v b => by simp [commResult]
  refine .recv (z := z) go rfl rfl (fun w hw' => ?_) hO hI (fun xv bk ob h => ?_) fun h => ?_
  · rw [s_comm ho hw hd (hr w hw'), he w hw']; rfl
  · rw [e, r1]; exact n1 xv bk ob h
  · rw [e, r1]; exact n0 h

/-- goroutine 0 says: stop -/
theorem pm_close {es : Array Event} (hes : CloseEv C.bs es) (hmw : mayWake P (G (fr fn T (.inRegion ops (i :: rest) :: k) D ro) cs) = true) (ho : ops[i]? = some op) (hw : Region.wanted op (yielded ops T) = true) (hd : ro = none ∨ ∀ c, op.op ≠ .defer c)
    (hr : ∀ w w', o.I w → closeCh w C.bs w' → (execOp (ev T) op).run P w = .ok (.value (.tuple #[])) w' ∧ seen P fn ((execOp (ev T) op).events P w #[]) = es)
    (next : PM C Fin .ws0 kk (G (fr fn (put T op.dst (.tuple #[])) (.inRegion ops rest :: k) D ro) cs) o) :
    PM C Fin .work kk (G (fr fn T (.inRegion ops (i :: rest) :: k) D ro) cs) o := by
  subst hP
  refine .clo rfl rfl hmw hes (fun w w' hI hc => ?_) next
  rw [s_val ho hw hd (hr w w' hI hc).1, (hr w w' hI hc).2]
end

end Go.Proofs.Ytcdhmnefmbcmaaa

namespace Go.Proofs.Ytcdhmnefmbcmaaa
open Go Go.Conc

/-- the same values, and no loops -/
structure Fs.Alike (F F' : Fs) : Prop where
  v : ∀ x, F x → F.v x → F' x ∧ F'.v x
  c : ∀ x, ¬ F.c x
  c' : ∀ x, ¬ F'.c x
  z : F'.z = F.z

section
variable {F F' : Fs} {ρ : Rn} {N : Nat}
theorem RelV.alike (h : F.Alike F') {v v' : Value} (k : RelV F ρ v v') : RelV F' ρ v v' := by
  induction k with
  | flat hf => exact .flat hf
  | ptr ha => exact .ptr ha
  | slice ha => exact .slice ha
  | emp hc => exact .emp hc
  | map hb => exact .map hb
  | chan hb => exact .chan hb
  | tok hc ht => exact .tok hc ht
  | mf hx hm => exact .mf hx hm
  | func hf hv h1 _ h2 _ i1 i2 => exact .func (h.v _ hf hv).1 (h.v _ hf hv).2 h1 i1 h2 i2
  | yield hl => exact .yield hl
  | seq hq => rw [← h.z]; exact .seq hq
  | iface _ i => exact .iface i
  | agg h1 _ i => exact .agg h1 i
  | tuple h1 _ i => exact .tuple h1 i
theorem RelVs.alike (h : F.Alike F') {p p' : Array Value} (k : RelVs F ρ p p') : RelVs F' ρ p p' := ⟨k.1, fun i v v' h1 h2 => (k.2 i v v' h1 h2).alike h⟩
theorem RelE.alike (h : F.Alike F') {e e' : MapEntry} (k : RelE F ρ e e') : RelE F' ρ e e' := by
  obtain ⟨a1, a2, a3⟩ := k
  exact ⟨a1.alike h, a2.alike h, a3⟩
theorem RelO.alike (h : F.Alike F') {o o' : Obj} (k : RelO F ρ o o') : RelO F' ρ o o' := by
  cases k with
  | cells hp => exact .cells (hp.alike h)
  | map hs he => exact .map hs fun i e e' h1 h2 => (he i e e' h1 h2).alike h
  | mapIter hb => exact .mapIter hb
  | mapIterN => exact .mapIterN
  | stringIter => exact .stringIter
  | loop hl => exact absurd hl.okA (h.c _)
  | deferred => exact .deferred
  | deferredN => exact .deferredN
  | number ha => exact .number ha
  | chan => exact .chan
theorem RelW.alike (h : F.Alike F') {v w : World} (k : RelW F N ρ v w) : RelW F' N ρ v w :=
  ⟨k.ok, fun a b hab => let ⟨o, o', h1, h2, h3⟩ := k.obj a b hab; ⟨o, o', h1, h2, h3.alike h⟩, k.tok, k.nv, k.nw, k.os, k.seq⟩
theorem Stp.alike (h : F.Alike F') {ρ' : Rn} {v w v' w' : World} {u : Array Event} (k : Stp F N ρ ρ' v w v' w' u) : Stp F' N ρ ρ' v w v' w' u := { k with rel := k.rel.alike h }
end

end Go.Proofs.Ytcdhmnefmbcmaaa

namespace Go.Proofs.Ytcdhmnefmbcmaaa
open Go Go.Conc

/-- what nobody writes lies apart from goroutine 0's own; the sealed closures lie there -/
structure OG {SR : Nat → Prop} (R : RF SR) (ρ : Rn) : Prop where
  dis : ∀ a b, ρ.r a b → ¬ SR b
  sl : ∀ w, R.R w → ∀ s n a b, ρ.q s n a b → ∃ B, Sealed w B s n a b ∧ ∀ c ∈ B, SR c

/-- goroutine 0's own: what its game relates -/
def og {SR : Nat → Prop} (F : Fs) (N : Nat) (R : RF SR) (ρ : Rn) (v : World) (h : OG R ρ) : Own SR where
  O := fun b => ∃ a, ρ.r a b
  I := fun w => RelW F N ρ v w ∧ R.R w
  st := fun w w1 hI k hz _ ho => by
    have hR := R.st w w1 hI.2 (fun b hb => k b (.inr hb)) hz
    refine ⟨⟨hI.1.ok, fun a b hab => ?_, hI.1.tok, hI.1.nv, Nat.le_trans hI.1.nw hz, by rw [ho]; exact hI.1.os, fun s n a b hq => ?_⟩, hR⟩
    · obtain ⟨o, o', h1, h2, h3⟩ := hI.1.obj a b hab
      exact ⟨o, o', h1, by rw [k b (.inl ⟨a, hab⟩)]; exact h2, h3⟩
    · obtain ⟨B, hB, hc⟩ := h.sl w1 hR s n a b hq
      exact ⟨B, hB, fun c hcB x hx => h.dis x c hx (hc c hcB)⟩

section
variable {SR : Nat → Prop} {R : RF SR} {F : Fs} {N : Nat} {ρ ρ1 : Rn} {v v0 v1 w w1 : World} {es : Array Event}
theorem OG.next (h : OG R ρ) (hR : R.R w) (k : Stp F N ρ ρ1 v w v1 w1 es) : OG R ρ1 := by
  refine ⟨fun a b hab hb => ?_, fun w' hw' => by rw [k.tok.2]; exact h.sl w' hw'⟩
  rcases (k.new a b).1 hab with x | x
  · exact h.dis a b x hb
  · have := R.lt w hR b hb
    omega
theorem OG.step (h : OG R ρ) (h1 : OG R ρ1) (hR : R.R w) (k : Stp F N ρ ρ1 v w v1 w1 es) : PStep (og F N R ρ v0 h) (og F N R ρ1 v1 h1) w w1 es := by
  have hz : w.heap.size ≤ w1.heap.size := by have := k.sv; have := k.sw; omega
  refine ⟨⟨k.rel, R.st w w1 hR (fun b hb => k.keepw b (R.lt w hR b hb) fun a hab => h.dis a b hab hb) hz⟩, hz, fun b => ?_, fun b hb hn => k.keepw b hb fun a hab => hn ⟨a, hab⟩, k.tw, fun e he => ?_⟩
  · constructor
    · rintro ⟨a, hab⟩
      rcases (k.new a b).1 hab with x | x
      · exact .inl ⟨a, x⟩
      · have := k.sw
        exact .inr (by omega)
    · rintro (⟨a, hab⟩ | x)
      · exact ⟨a, k.le.r _ _ hab⟩
      · have := k.sw
        exact ⟨b + v.heap.size - w.heap.size, (k.new _ b).2 (.inr (by omega))⟩
  · have := k.evs e he
    unfold EvIn at this
    cases hl : e.loc with
    | cell a => rw [hl] at this; exact .inl this
    | obj c => rw [hl] at this; exact this
    | mark m => rw [hl] at this; exact this
    | output => trivial
    | _ => rw [hl] at this; exact this.elim
end

section
variable {C : Cx} {Fin : Nat → Goroutine → Own C.SR → Prop} {k : Nat}
theorem pm_any {a : Goroutine} {o : Own C.SR} (hr : a.status = .running) (h : ∀ w, o.I w → ∃ g' o' w' es, stepG C.P true a w = .go g' w' es ∧ PStep o o' w w' es ∧ PM C Fin .work k g' o') : PM C Fin .work k a o := by
  have h' : ∀ w : World, ∃ q : Goroutine × Own C.SR, o.I w → (∃ w' es, stepG C.P true a w = .go q.1 w' es ∧ PStep o q.2 w w' es) ∧ PM C Fin .work k q.1 q.2 := fun w => by
    by_cases hw : o.I w
    · obtain ⟨g', o', w', es, h1, h2, h3⟩ := h w hw
      exact ⟨(g', o'), fun _ => ⟨⟨w', es, h1, h2⟩, h3⟩⟩
    · exact ⟨(a, o), fun x => absurd x hw⟩
  obtain ⟨q, hq⟩ := Classical.axiomOfChoice h'
  exact .priv (fun w => (q w).1) (fun w => (q w).2) hr (fun w hw => (hq w hw).1) fun w hw => (hq w hw).2

/-- A STRETCH OF THE GAME, above the frame dr. -/
theorem pm_game {K : Kit} {T : Twin} {N : Nat} {Kp : Frame → List Frame → World → Prop} (hKp : ∀ f ts v, Kp f ts v → ts = []) (hK : Fits K T N) (hX : ∀ f, K.X f = false) (hCP : C.P = T.P)
    (hzz : ∀ p k f1 ts1 v, p.size ≤ K.fb.m + 2 → ¬ Ev T.v Kp (Frame.enter T.v K.z p k) (f1 :: ts1) v) {R : RF C.SR} {dr : Frame} {ds : List Frame} {c0 : Frame} {cs0 : List Frame} (hdr : dr.mode = .run) (hc0 : c0.mode = .run)
    (hdead : ∀ ch v, Unrec ch → ¬ Ev T.v Kp (dr.raise ch) ds v) {f : Frame} {tsA : List Frame} {v : World} (hev : Ev T.v Kp f tsA v) :
    ∀ {ρ : Rn} {f' : Frame} {ts ts' : List Frame}, tsA = ts ++ dr :: ds → RelFr K T ρ f f' → All2 (RelFr K T ρ) ts ts' → (∀ g, g < K.G → ρ.r g g) → ∀ (h : OG R ρ),
      (∀ v1 ρ1 x x' (h1 : OG R ρ1), NxP T.v Kp ⟨dr.finish x, ds, v1⟩ ⟨f, tsA, v⟩ → RelV K.F ρ1 x x' → ρ.le ρ1 → PM C Fin .work k (G (c0.finish x') cs0) (og K.F N R ρ1 v1 h1)) →
      (∀ v1 ρ1 (h1 : OG R ρ1), NxP T.v Kp ⟨dr, ds, v1⟩ ⟨f, tsA, v⟩ → ρ.le ρ1 → PM C Fin .work k (G c0 cs0) (og K.F N R ρ1 v1 h1)) →
      PM C Fin .work k (G f' (ts' ++ c0 :: cs0)) (og K.F N R ρ v h) := by
  induction hev with
  | @stop f tsA v hk =>
    intro ρ f' ts ts' e
    have := hKp _ _ _ hk
    rw [e] at this
    simp at this
  | @step f tsA v Fx Sx Wx hstep hev ih =>
    intro ρ f' ts ts' e hf hts hG h cont cont2
    subst e
    have hkp : ¬ Kp f (ts ++ dr :: ds) v := fun x => by have := hKp _ _ _ x; simp at this
    refine pm_any rfl fun w hw => ?_
    obtain ⟨hW, hR⟩ := hw
    have hWd : ∀ τ : Nat → Question → Nat, RelW K.F N ρ (v.taped τ) w := fun τ => hW.pre ⟨rfl, rfl⟩ ⟨rfl, rfl⟩
    let τ : Nat → Question → Nat := fun j => if j < v.drawn then v.tape j else w.tape (w.drawn + (j - v.drawn))
    have hτ : ∀ j, j < v.drawn → τ j = v.tape j := fun j hj => by simp only [τ, hj, if_true]
    obtain ⟨es, hs⟩ := hstep τ hτ
    have hs0 := hs
    rw [List.append_assoc, List.cons_append] at hs
    have hsim := sim_step (mn := true) (dr := dr) (ds := ds ++ [door T.v]) (cs' := c0 :: cs0) hK (hWd τ) hG hf hts (fun g1 v1 es _ i _ q => by
      show τ (v.drawn + i) q = w.tape (w.drawn + i) q
      have h1 : ¬ v.drawn + i < v.drawn := by omega
      simp only [τ, h1, if_false]
      congr 2; omega)
    rw [hs] at hsim
    have hnx : Nx T.v Kp ⟨Fx τ, Sx τ, Wx τ⟩ ⟨f, ts ++ dr :: ds, v⟩ := ⟨hkp, τ, hτ, _, hs0⟩
    have hevn := hev τ hτ
    rcases hsim with ⟨f1, ts1, f1', ts1', ρ1, w1, es', h1, h2, h3, h4, h5⟩ | ⟨X, p, p', k, f1, ts1, f1', ts1', ρ1, w1, es', hX1, hX', _⟩ | ⟨c, h1, _, hp, _⟩ | ⟨p, k, f1, ts1, _, hp, _, h1⟩
    · simp only [G, Goroutine.mk.injEq] at h1
      obtain ⟨r1, r2, _⟩ := h1
      have r2 : Sx τ ++ [door T.v] = (ts1 ++ dr :: ds) ++ [door T.v] := by rw [r2]; simp
      have r2 := List.append_cancel_right r2
      have hn := h.next hR h5
      refine ⟨_, _, w1, es', by rw [hCP]; exact h2, h.step hn hR h5, ?_⟩
      exact ih τ hτ r2 (by rw [r1]; exact h3) h4 (fun g hg => h5.le.r _ _ (hG g hg)) hn (fun v1 ρ2 x x' h1 n1 n2 n3 => cont v1 ρ2 x x' h1 (.cons hnx n1) n2 (h5.le.trans n3)) (fun v1 ρ2 h1 n1 n3 => cont2 v1 ρ2 h1 (.cons hnx n1) (h5.le.trans n3))
    · have hX' := hX'.1; rw [hX] at hX'; cases hX'
    · simp only [G, Goroutine.mk.injEq] at h1
      obtain ⟨r1, r2, _⟩ := h1
      have r2 := List.append_cancel_right r2
      rw [r1, r2] at hnx hevn
      rcases hp c0 cs0 rfl hdr hc0 with ⟨x, x', ρ1, w1, es', e1, e2, e3, e4⟩ | ⟨ρ1, w1, es', e1, e2, e4⟩ | ⟨ch, e1, e2⟩
      · have hn := h.next hR e4
        rw [e1] at hnx
        exact ⟨_, _, w1, es', by rw [hCP]; exact e2, h.step hn hR e4, cont _ _ _ _ hn (.one hnx) e3 e4.le⟩
      · have hn := h.next hR e4
        rw [e1] at hnx
        exact ⟨_, _, w1, es', by rw [hCP]; exact e2, h.step hn hR e4, cont2 _ _ hn (.one hnx) e4.le⟩
      · rw [e1] at hevn
        exact absurd hevn (hdead ch _ e2)
    · exfalso
      simp only [G, Goroutine.mk.injEq] at h1
      obtain ⟨r1, r2, _⟩ := h1
      have r2 : Sx τ ++ [door T.v] = (f1 :: (ts1 ++ dr :: ds)) ++ [door T.v] := by rw [r2]; simp
      have r2 := List.append_cancel_right r2
      rw [r1, r2] at hevn
      exact hzz _ _ _ _ _ hp hevn
end

end Go.Proofs.Ytcdhmnefmbcmaaa

namespace Go.Proofs.Ytcdhmnefmbcmaaa
open Go Go.Conc Go.RowKit

noncomputable def loop19 : Code := match bodyOf Try.f19 with | .seq _ (.seq _ (.seq _ (.seq _ (.seq _ (.seq (.seq _ (.block _ (.loop c))) _))))) => c | _ => .skip
noncomputable def rest19 : Code := match bodyOf Try.f19 with | .seq _ (.seq _ (.seq _ (.seq _ (.seq _ (.seq _ c))))) => c | _ => .skip
/-- the operations around the call of Take -/
noncomputable def ops19 : Array Oper := match loop19 with | .seq _ (.seq _ (.block _ (.seq _ (.seq (.seq (.region _ o _) _) _)))) => o | _ => #[]
noncomputable def aft19 : Code := match loop19 with | .seq _ (.seq _ (.block _ (.seq _ (.seq (.seq _ c) _)))) => c | _ => .skip
noncomputable def inc19 : Code := match loop19 with | .seq _ (.seq _ (.block _ (.seq _ (.seq _ c)))) => c | _ => .skip

section
variable {C : Cx} (hP : C.P = Try.prog) {Fin : Nat → Goroutine → Own C.SR → Prop} {k : Nat} {o : Own C.SR} {cs : List Frame}
 include hP
set_option maxRecDepth 10000 in
theorem p19_head (go : Value → Nat → Obj → Own C.SR) (hO : ∀ xv bk ob, C.Cs k xv bk ob → ∀ x, (go xv bk ob).O x ↔ o.O x ∨ x = bk) (hI : ∀ xv bk ob, C.Cs k xv bk ob → ∀ w, o.I w → ¬ o.O bk → w.heap[bk]? = some ob → (go xv bk ob).I w)
    {a0 a1 a2 a3 a4 a5 a6 a7 a8 a9 a10 a11 a12 a13 a15 a16 a17 a18 a19 a20 a21 a22 a23 a24 a25 a26 a27 a28 : Value} {kt : List Item}
    (n1 : ∀ xv bk ob, C.Cs k xv bk ob → PM C Fin .work (k + 1) (G (fr 19 #[a0, a1, a2, a3, a4, a5, a6, a7, a8, xv, a10, a11, a12, a13, .chan (some C.bc), .tuple #[xv, .bool true], .bool true, xv, a1, xv, a20, a21, a22, a23, a24, a25, a26, a27, a28]
        (.inRegion ops19 [2, 3] :: .code aft19 :: .code inc19 :: .inBlock 1 :: .inLoop loop19 :: .inBlock 0 :: kt) [] none) cs) (go xv bk ob))
    (n0 : k = C.N → PM C Fin .work k (G (fr 19 #[a0, a1, a2, a3, a4, a5, a6, a7, a8, a9, a10, a11, a12, a13, .chan (some C.bc), .tuple #[.slice none 0 0, .bool false], .bool false, a17, a18, a19, a20, a21, a22, a23, a24, a25, a26, a27, a28] kt [] none) cs) o) :
    PM C Fin .work k (G (fr 19 #[a0, a1, a2, a3, a4, a5, a6, a7, a8, a9, a10, a11, a12, a13, .chan (some C.bc), a15, a16, a17, a18, a19, a20, a21, a22, a23, a24, a25, a26, a27, a28] (.code loop19 :: .inLoop loop19 :: .inBlock 0 :: kt) [] none) cs) o := by
  have N1 := Lib.hid n1
  have N0 := Lib.hid n0
  have HO := Lib.hid hO
  have HI := Lib.hid hI
  clear n1 n0 hO hI
  have el : loop19 = loop19 := rfl
  conv at el => lhs; simp only [loop19, bodyOf, Try.f19, Option.getD_some]
  obtain ⟨L0, hL0⟩ : ∃ L0, Item.inLoop loop19 = Item.inLoop L0 ∧ Go.RowKit.Hid (L0 = loop19) := ⟨loop19, rfl, rfl⟩
  rw [hL0.1, ← el]
  replace hL0 := hL0.2
  clear el
  refine pm_q hP (fun w => s_seq) rfl ?_
  refine pm_q hP (fun w => s_region) rfl ?_
  simp only [List.size_toArray, List.length_cons, List.length_nil, Nat.reduceAdd, Nat.zero_add, List.range, List.range.loop]
  refine pm_recv hP (z := .slice none 0 0) go rfl rfl (.inl rfl) (fun w hw => ?_) (fun w hw => ?_) HO.out HI.out (fun xv bk ob hc => ?_) fun hk => ?_
  · unfold ev; go_simp; try exact rfl
  · unfold ev; simp [go_sem]
  · have HC := Lib.hid hc
    clear hc
    simp only [put]; walk_nrm
    refine pm_vl hP (v := ?_) rfl rfl (by first | exact .inl rfl | exact .inr (fun c h => by cases h)) (fun w hw => ?_) (fun w hw => ?_) ?_
    rotate_left
    · unfold ev; go_simp; try exact rfl
    · unfold ev; simp [go_sem]
    simp only [put]; walk_nrm
    refine pm_q hP (fun w => s_region_end) rfl ?_
    refine pm_q hP (fun w => s_seq) rfl ?_
    refine pm_q hP (fun w => s_cond (b := true) rfl) rfl ?_
    simp only [if_false, Bool.false_eq_true, ↓reduceIte]
    refine pm_q hP (fun w => s_skip) rfl ?_
    refine pm_q hP (fun w => s_block) rfl ?_
    refine pm_q hP (fun w => s_seq) rfl ?_
    refine pm_q hP (fun w => s_region) rfl ?_
    simp only [List.size_toArray, List.length_cons, List.length_nil, Nat.reduceAdd, Nat.zero_add, List.range, List.range.loop]
    refine pm_vl hP (v := ?_) rfl rfl (by first | exact .inl rfl | exact .inr (fun c h => by cases h)) (fun w hw => ?_) (fun w hw => ?_) ?_
    rotate_left
    · unfold ev; go_simp; try exact rfl
    · unfold ev; simp [go_sem]
    simp only [put]; walk_nrm
    refine pm_vl hP (v := ?_) rfl rfl (by first | exact .inl rfl | exact .inr (fun c h => by cases h)) (fun w hw => ?_) (fun w hw => ?_) ?_
    rotate_left
    · unfold ev; go_simp; try exact rfl
    · unfold ev; simp [go_sem]
    simp only [put]; walk_nrm
    refine pm_q hP (fun w => s_region_end) rfl ?_
    refine pm_q hP (fun w => s_seq) rfl ?_
    refine pm_q hP (fun w => s_seq) rfl ?_
    refine pm_q hP (fun w => s_region) rfl ?_
    simp only [List.size_toArray, List.length_cons, List.length_nil, Nat.reduceAdd, Nat.zero_add, List.range, List.range.loop]
    refine pm_vl hP (v := ?_) rfl rfl (by first | exact .inl rfl | exact .inr (fun c h => by cases h)) (fun w hw => ?_) (fun w hw => ?_) ?_
    rotate_left
    · unfold ev; go_simp; try exact rfl
    · unfold ev; simp [go_sem]
    simp only [put]; walk_nrm
    refine pm_vl hP (v := ?_) rfl rfl (by first | exact .inl rfl | exact .inr (fun c h => by cases h)) (fun w hw => ?_) (fun w hw => ?_) ?_
    rotate_left
    · unfold ev; go_simp; try exact rfl
    · unfold ev; simp [go_sem]
    simp only [put]; walk_nrm
    have hL := hL0.out
    subst hL
    exact N1.out xv bk ob HC.out
  · simp only [put]; walk_nrm
    refine pm_vl hP (v := ?_) rfl rfl (by first | exact .inl rfl | exact .inr (fun c h => by cases h)) (fun w hw => ?_) (fun w hw => ?_) ?_
    rotate_left
    · unfold ev; go_simp; try exact rfl
    · unfold ev; simp [go_sem]
    simp only [put]; walk_nrm
    refine pm_q hP (fun w => s_region_end) rfl ?_
    refine pm_q hP (fun w => s_seq) rfl ?_
    refine pm_q hP (fun w => s_cond (b := false) rfl) rfl ?_
    simp only [if_true, Bool.false_eq_true, ↓reduceIte]
    refine pm_q hP (fun w => s_exit rfl) rfl ?_
    exact N0.out hk
end
end Go.Proofs.Ytcdhmnefmbcmaaa

namespace Go.Proofs.Ytcdhmnefmbcmaaa
open Go Go.Conc Go.RowKit

section
variable {C : Cx} (hP : C.P = Try.prog) {Fin : Nat → Goroutine → Own C.SR → Prop} {k : Nat} {o : Own C.SR} {cs : List Frame}
 include hP
set_option maxRecDepth 10000 in
theorem p19_tail {e n : Int} {a0 a1 a2 a3 a5 a6 a7 a8 a9 a10 a11 a12 a13 a15 a16 a17 a18 a19 a20 a21 a22 a23 a24 a25 a26 a27 a28 : Value} {kt : List Item}
    (n1 : e = 0 → PM C Fin .work k (G (fr 19 #[a0, a1, a2, a3, .int .i64 (IntKind.i64.wrap (n + 1)), .int .i64 0, a6, a7, a8, a9, a10, a11, a12, a13, .chan (some C.bc), a15, a16, a17, a18, a19, .int .i64 0, .int .i64 0, .bool false, .int .i64 n, .int .i64 (IntKind.i64.wrap (n + 1)), a25, a26, a27, a28]
        (.code loop19 :: .inLoop loop19 :: .inBlock 0 :: kt) [] none) cs) o)
    (n0 : e ≠ 0 → PM C Fin .work k (G (fr 19 #[a0, a1, a2, a3, .int .i64 n, .int .i64 e, a6, a7, a8, a9, a10, a11, a12, a13, .chan (some C.bc), a15, a16, a17, a18, a19, .int .i64 e, .int .i64 e, .bool true, a23, a24, a25, a26, a27, a28] kt [] none) cs) o) :
    PM C Fin .work k (G ((fr 19 #[a0, a1, a2, a3, .int .i64 n, a5, a6, a7, a8, a9, a10, a11, a12, a13, .chan (some C.bc), a15, a16, a17, a18, a19, a20, a21, a22, a23, a24, a25, a26, a27, a28]
        (.inRegion ops19 [2, 3] :: .code aft19 :: .code inc19 :: .inBlock 1 :: .inLoop loop19 :: .inBlock 0 :: kt) [] none).finish (.int .i64 e)) cs) o := by
  have N1 := Lib.hid n1
  have N0 := Lib.hid n0
  clear n1 n0
  have e1 : ops19 = ops19 := rfl
  conv at e1 => lhs; simp only [ops19, loop19, bodyOf, Try.f19, Option.getD_some]
  have e2 : aft19 = aft19 := rfl
  conv at e2 => lhs; simp only [aft19, loop19, bodyOf, Try.f19, Option.getD_some]
  have e3 : inc19 = inc19 := rfl
  conv at e3 => lhs; simp only [inc19, loop19, bodyOf, Try.f19, Option.getD_some]
  rw [← e1, ← e2, ← e3, fr_finish (o := _) rfl]
  clear e1 e2 e3
  simp only [put]; walk_nrm
  by_cases he : e = 0
  · have HN := N1.out he
    subst he
    have HN := Lib.hid HN
    clear N1 N0
    refine pm_vl hP (v := ?_) rfl rfl (by first | exact .inl rfl | exact .inr (fun c h => by cases h)) (fun w hw => ?_) (fun w hw => ?_) ?_
    rotate_left
    · unfold ev; go_simp; try exact rfl
    · unfold ev; simp [go_sem]
    simp only [put]; walk_nrm
    refine pm_q hP (fun w => s_region_end) rfl ?_
    refine pm_q hP (fun w => s_seq) rfl ?_
    refine pm_q hP (fun w => s_region) rfl ?_
    simp only [List.size_toArray, List.length_cons, List.length_nil, Nat.reduceAdd, Nat.zero_add, List.range, List.range.loop]
    refine pm_vl hP (v := ?_) rfl rfl (by first | exact .inl rfl | exact .inr (fun c h => by cases h)) (fun w hw => ?_) (fun w hw => ?_) ?_
    rotate_left
    · unfold ev; go_simp; try exact rfl
    · unfold ev; simp [go_sem]
    simp only [put]; walk_nrm
    refine pm_vl hP (v := ?_) rfl rfl (by first | exact .inl rfl | exact .inr (fun c h => by cases h)) (fun w hw => ?_) (fun w hw => ?_) ?_
    rotate_left
    · unfold ev; go_simp; try exact rfl
    · unfold ev; simp [go_sem]
    simp only [put]; walk_nrm
    refine pm_q hP (fun w => s_region_end) rfl ?_
    refine pm_q hP (fun w => s_cond (b := false) rfl) rfl ?_
    simp only [if_true, Bool.false_eq_true, ↓reduceIte]
    refine pm_q hP (fun w => s_skip) rfl ?_
    refine pm_q hP (fun w => s_region) rfl ?_
    simp only [List.size_toArray, List.length_cons, List.length_nil, Nat.reduceAdd, Nat.zero_add, List.range, List.range.loop]
    refine pm_vl hP (v := ?_) rfl rfl (by first | exact .inl rfl | exact .inr (fun c h => by cases h)) (fun w hw => ?_) (fun w hw => ?_) ?_
    rotate_left
    · unfold ev; go_simp; try exact rfl
    · unfold ev; simp [go_sem]
    simp only [put]; walk_nrm
    refine pm_vl hP (v := ?_) rfl rfl (by first | exact .inl rfl | exact .inr (fun c h => by cases h)) (fun w hw => ?_) (fun w hw => ?_) ?_
    rotate_left
    · unfold ev; go_simp; try exact rfl
    · unfold ev; simp [go_sem]
    simp only [put]; walk_nrm
    refine pm_vl hP (v := ?_) rfl rfl (by first | exact .inl rfl | exact .inr (fun c h => by cases h)) (fun w hw => ?_) (fun w hw => ?_) ?_
    rotate_left
    · unfold ev; go_simp; try exact rfl
    · unfold ev; simp [go_sem]
    simp only [put]; walk_nrm
    refine pm_q hP (fun w => s_region_end) rfl ?_
    refine pm_q hP (fun w => s_inBlock) rfl ?_
    refine pm_q hP (fun w => s_inLoop) rfl ?_
    exact HN.out
  · have HN := Lib.hid (N0.out he)
    clear N1 N0
    have hb : (e != 0) = true := by simpa using he
    refine pm_vl hP (v := ?_) rfl rfl (by first | exact .inl rfl | exact .inr (fun c h => by cases h)) (fun w hw => ?_) (fun w hw => ?_) ?_
    rotate_left
    · unfold ev; go_simp; try exact rfl
    · unfold ev; simp [go_sem]
    simp only [put]; walk_nrm
    refine pm_q hP (fun w => s_region_end) rfl ?_
    refine pm_q hP (fun w => s_seq) rfl ?_
    refine pm_q hP (fun w => s_region) rfl ?_
    simp only [List.size_toArray, List.length_cons, List.length_nil, Nat.reduceAdd, Nat.zero_add, List.range, List.range.loop]
    refine pm_vl hP (v := ?_) rfl rfl (by first | exact .inl rfl | exact .inr (fun c h => by cases h)) (fun w hw => ?_) (fun w hw => ?_) ?_
    rotate_left
    · unfold ev; go_simp; try exact rfl
    · unfold ev; simp [go_sem]
    simp only [put]; walk_nrm
    refine pm_vl hP (v := ?_) rfl rfl (by first | exact .inl rfl | exact .inr (fun c h => by cases h)) (fun w hw => ?_) (fun w hw => ?_) ?_
    rotate_left
    · unfold ev; go_simp; try exact rfl
    · unfold ev; simp [go_sem]
    simp only [put]; walk_nrm
    refine pm_q hP (fun w => s_region_end) rfl ?_
    refine pm_q hP (fun w => s_cond (b := true) rfl) rfl ?_
    simp only [if_true, if_false, ↓reduceIte]
    refine pm_q hP (fun w => s_exit rfl) rfl ?_
    exact HN.out
end
end Go.Proofs.Ytcdhmnefmbcmaaa

namespace Go.Proofs.Ytcdhmnefmbcmaaa
open Go Go.Conc Go.RowKit Go.Conc.Lib Go.ConcX Go.ConcX.Gen

section
variable {C : Cx} (hP : C.P = Try.prog) {Fin : Nat → Goroutine → Own C.SR → Prop} {k : Nat} {o : Own C.SR} {cs : List Frame}
 include hP
theorem pm_q0 {s : MS} {g g' : Goroutine} (hs : s.free = true) (hr : g.status = .running) (hr' : g'.status = .running) (h : ∀ w, stepG Try.prog true g w = .go g' w #[]) (next : PM C Fin s k g' o) : PM C Fin s k g o :=
  .free (fun _ => g') (fun _ => #[]) hs hr (fun w _ => ⟨hr', by rw [hP]; exact h w, by simp⟩) fun _ _ => next

 omit hP in
theorem ev_wait {p : Array Value} {w : World} : (callFunc 27 p).events Try.prog w #[] = #[] := by rfl

noncomputable def ops12 : Array Oper := match rest19 with | .seq _ (.seq (.region _ o _) _) => o | _ => #[]
noncomputable def rest13 : Code := match rest19 with | .seq _ (.seq _ c) => c | _ => .skip

set_option maxRecDepth 10000 in
theorem p19_end {sb : Nat} (hsb : C.SR sb) (hrd : ∀ w, o.I w → w.cell? ⟨sb, 0, none⟩ = some (.chan (some C.bs))) (hlive : ∃ w, Live C w)
    {a0 a1 a2 a3 a4 a5 a6 a9 a10 a11 a12 a13 a14 a15 a16 a17 a18 a19 a20 a21 a22 a23 a24 a25 a26 a27 a28 : Value}
    (hfin : ∀ g, Leaves0 Try.prog g (G (fr 19 #[a0, a1, a2, a3, a4, a5, a6, .pointer (some ⟨sb, 0, none⟩), .pointer (some ⟨C.wg, 0, none⟩), a9, a10, a11, a12, a13, a14, a15, a16, a17, a18, a19, a20, a21, a22, a23, a24, .chan (some C.bs), .tuple #[], a27, a28] [.inRegion ops12 [], .code rest13] [] none) cs) → Fin k g o) :
    PM C Fin .work k (G (fr 19 #[a0, a1, a2, a3, a4, a5, a6, .pointer (some ⟨sb, 0, none⟩), .pointer (some ⟨C.wg, 0, none⟩), a9, a10, a11, a12, a13, a14, a15, a16, a17, a18, a19, a20, a21, a22, a23, a24, a25, a26, a27, a28] [.code rest19] [] none) cs) o := by
  have Hf := Lib.hid hfin
  have Rd := Lib.hid hrd
  clear hfin hrd
  have el : rest19 = rest19 := rfl
  conv at el => lhs; simp only [rest19, bodyOf, Try.f19, Option.getD_some]
  rw [← el]
  clear el
  refine pm_q hP (fun w => s_seq) rfl ?_
  refine pm_q hP (fun w => s_region) rfl ?_
  simp only [List.size_toArray, List.length_cons, List.length_nil, Nat.reduceAdd, Nat.zero_add, List.range, List.range.loop]
  refine pm_vl hP (v := ?_) rfl rfl (by first | exact .inl rfl | exact .inr (fun c h => by cases h)) (fun w hw => ?_) (fun w hw => ?_) ?_
  rotate_left
  · have f0 := Rd.out w hw; unfold ev; go_simp; exact rfl
  · have f0 := Rd.out w hw; unfold ev; simp [go_sem, f0]; exact ⟨.inr hsb,rfl⟩
  simp only [put]; walk_nrm
  refine pm_close hP (es := #[⟨.obj C.bs, false, true⟩, ⟨.obj C.bs, true, true⟩]) (fun e he => by simpa using he) rfl rfl rfl (.inl rfl) (fun w w' _ hc => ?_) ?_
  · obtain ⟨s, hs, rfl⟩ := hc
    have hr := run_close_open (P := Try.prog) #[57] 0 hs
    have he := events_close_open (P := Try.prog) (es := #[]) #[57] 0 hs
    rw [exec_bi (op := _) rfl]
    simp only [List.map_toArray, List.map_cons, List.map_nil]
    unfold ev
    constructor
    · simp [go_sem, hr]
    · simp [go_sem, he, seen]
  simp only [put]; walk_nrm
  refine pm_q0 hP rfl rfl rfl (fun w => s_region_end) ?_
  refine pm_q0 hP rfl rfl rfl (fun w => s_seq) ?_
  refine pm_q0 hP rfl rfl rfl (fun w => s_region) ?_
  simp only [List.size_toArray, List.length_cons, List.length_nil, Nat.reduceAdd, Nat.zero_add, List.range, List.range.loop]
  obtain ⟨w0, h0⟩ := hlive
  refine pm_q0 hP (g' := G ((base link.wait).at ⟨#[.pointer (some ⟨C.wg, 0, none⟩)] ++ Array.replicate ((waitFn link).ntmps - 1) undef, []⟩ [.code (body_wait link)]) (fr 19 #[a0, a1, a2, a3, a4, a5, a6, .pointer (some ⟨sb, 0, none⟩), .pointer (some ⟨C.wg, 0, none⟩), a9, a10, a11, a12, a13, a14, a15, a16, a17, a18, a19, a20, a21, a22, a23, a24, .chan (some C.bs), a26, a27, a28] [.inRegion ops12 [0], .code rest13] [] none :: cs)) rfl rfl rfl (fun w => ?_) ?_
  · refine Eq.trans (b := .go (G (Frame.enter Try.prog 27 #[.pointer (some ⟨C.wg, 0, none⟩)] .normal) (fr 19 #[a0, a1, a2, a3, a4, a5, a6, .pointer (some ⟨sb, 0, none⟩), .pointer (some ⟨C.wg, 0, none⟩), a9, a10, a11, a12, a13, a14, a15, a16, a17, a18, a19, a20, a21, a22, a23, a24, .chan (some C.bs), a26, a27, a28] [.inRegion ops12 [0], .code rest13] [] none :: cs)) w #[]) ?_ rfl
    rw [s_call (f := 27) (args := #[.pointer (some ⟨C.wg, 0, none⟩)]) rfl rfl (.inl rfl) (w' := w) (by rw [exec_call (op := _) (f := 27) (vs := #[.pointer (some ⟨C.wg, 0, none⟩)]) rfl (by simp only [List.map_toArray, List.map_cons, List.map_nil]; rfl)]; rfl)]
    rw [exec_call (op := _) (f := 27) (vs := #[.pointer (some ⟨C.wg, 0, none⟩)]) rfl (by simp only [List.map_toArray, List.map_cons, List.map_nil]; rfl), ev_wait]
    rfl
  · exact wait_join wgLib hP h0 (b₀ := fr 19 #[] [] [] none) (a₀ := ⟨#[a0, a1, a2, a3, a4, a5, a6, .pointer (some ⟨sb, 0, none⟩), .pointer (some ⟨C.wg, 0, none⟩), a9, a10, a11, a12, a13, a14, a15, a16, a17, a18, a19, a20, a21, a22, a23, a24, .chan (some C.bs), a26, a27, a28], []⟩) (ops₀ := ops12) (i₀ := 0) (rest₀ := []) (k₀ := [.code rest13]) (cs := cs) (fun g hg => Hf.out g hg)
end
end Go.Proofs.Ytcdhmnefmbcmaaa
