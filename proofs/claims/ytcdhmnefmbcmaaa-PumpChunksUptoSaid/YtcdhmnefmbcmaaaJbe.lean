/-
  THE FIRST DRIVER: a virtual game is won beside goroutines that only leave; no condition but what each law names.
  From the first state of a claim, and to its end; no condition but what each law names.
  What stands in the first virtual memory for values that are not the law's; no condition but what each law names.
  The first virtual world; no condition but what each law names.
  What stood in the first memory stands there still where the virtual run has not touched it; no condition but what each law names.
  A law's call beside what it starts, from its lone runs over the virtual program; no condition but what each law names.
  A law's call beside what it starts, from its lone contract over the virtual program; no condition but what each law names.
-/
import Derived.Test.YtcdhmnefmbcmaaaJbd
import Derived.Listen
namespace Go.Proofs.Ytcdhmnefmbcmaaa
open Go Go.Conc Go.RowKit
noncomputable def ops0v : Array Oper := match bodyOf Tryv.f19 with | .seq (.region _ o _) _ => o | _ => #[]
noncomputable def c0v : Code := match bodyOf Tryv.f19 with | .seq _ c => c | _ => .skip
section
variable {Kp : Frame → List Frame → World → Prop} (hKp : ∀ f ts v, Kp f ts v → ts = [] ∧ f.mode = .returning) {cs : List Frame} {c0 : Frame} {v w : World} {ρ : Rn}
 include hKp
set_option maxRecDepth 10000 in
/-- what the virtual Copy goes over is a sealed closure -/
theorem v19_inv (hcs : ∀ g ∈ c0 :: cs, g.defers = [] ∧ ∃ fn, Tryv.prog.funcs[g.fn]? = some fn) (hW : RelW K1.F 0 ρ v w) {x x' to : Value} (hx : RelV K1.F ρ x x') (hev : Ev Tryv.prog Kp (Frame.enter Tryv.prog 19 #[x, to] .normal) (c0 :: cs) v) :
    ∃ s n p1 p2, x = seqV 22 s n ∧ x' = seqT 22 p1 p2 ∧ ρ.q s n p1 p2 := by
  have hKp' : ∀ f ts v, Kp f ts v → ts = [] := fun f ts v x => (hKp f ts v x).1
  have hvr : VrP Tryv.prog Kp (fun s' => s' = ⟨fr 19 #[x, to, undef, undef, undef, undef, undef, undef, undef, undef, undef, undef, undef, undef, undef, undef, undef, undef, undef] [.inRegion ops0v [0, 1, 2, 3, 4, 5, 6], .code c0v] [] none, c0 :: cs, v⟩) ⟨Frame.enter Tryv.prog 19 #[x, to] .normal, c0 :: cs, v⟩ := by
    rw [enter_fr Tryv.func19 rfl]
    simp only [Tryv.f19, List.size_toArray, List.length_cons, List.length_nil, Nat.reduceAdd, Nat.reduceSub, Array.replicate_succ, Array.replicate_zero, List.push_toArray, List.append_toArray, List.nil_append, List.cons_append]
    refine vrp_at (fun x => by cases hKp' _ _ _ x) s_seq ?_
    refine vr_q hKp' (fun w => s_region) ?_
    simp only [List.size_toArray, List.length_cons, List.length_nil, Nat.reduceAdd, Nat.zero_add, List.range, List.range.loop]
    exact .fin rfl
  obtain ⟨s', rfl, nA⟩ := hvr
  have hevA := Ev.nextP (s := ⟨_, _, _⟩) hev nA
  simp only at hevA
  obtain ⟨op0, ho0, hop0, hw0⟩ : ∃ op, ops0v[0]? = some op ∧ op.op = .call { callee := .value (.tmp 0), args := #[.const (.int .i64 0), .const (.int .i64 0), .const (.int .i64 0), .const (.int .i64 0), .const (.int .i64 0)], argTypes := #[3, 3, 3, 3, 3] } ∧ ∀ T, Region.wanted op T = true := ⟨_, rfl, rfl, fun _ => rfl⟩
  obtain ⟨T, hT⟩ : ∃ T : Array Value, T = #[x, to, undef, undef, undef, undef, undef, undef, undef, undef, undef, undef, undef, undef, undef, undef, undef, undef, undef] := ⟨_, rfl⟩
  rw [← hT] at hevA
  obtain ⟨five, h5⟩ : ∃ five : Array Value, five = #[.int .i64 0, .int .i64 0, .int .i64 0, .int .i64 0, .int .i64 0] := ⟨_, rfl⟩
  have hex : execOp (ev T) op0 = (do let d ← Deferred.ofValue x five; invoke d.target d.args : Sem Go.Next) := by
    have e0 : ev T (.tmp 0) = x := by rw [hT]; rfl
    unfold execOp
    simp only [hop0, resolve, e0, List.map_toArray, List.map_cons, List.map_nil, h5]
    rfl
  have dead : ∀ {hh : Halt}, (execOp (ev T) op0).run Tryv.prog v = .halt hh v → Halt.still hh → False := fun {hh} h1 h2 => ev_still hKp' hevA ho0 (hw0 _) h1 h2
  have stk : ∀ m, Deferred.ofValue x five = stuck m → False := fun m h => dead (hh := .stuck m) (by rw [hex, h]; rfl) trivial
  cases hx with
  | flat hf =>
    exfalso
    by_cases hn : x = .nilFunc
    · have hrun : (execOp (ev T) op0).run Tryv.prog v = (runtimePanic .nilDeref : Sem Go.Next).run Tryv.prog v := by rw [hex, hn]; rfl
      obtain ⟨y, hy⟩ : ∃ y, (runtimePanic .nilDeref : Sem Go.Next).run Tryv.prog v = .halt (.panic y) v := ⟨_, rfl⟩
      obtain ⟨es, hs⟩ := s_panic (P := Tryv.prog) (mn := true) (fn := 19) (T := T) (k := [.code c0v]) (D := []) (cs := c0 :: cs ++ [door Tryv.prog]) (i := 0) (rest := [1, 2, 3, 4, 5, 6]) ho0 (hw0 _) (hrun.trans hy)
      exact pan_dead hKp (ch := [{ v := y, recovered := false }]) rfl rfl ⟨_, Tryv.func19⟩ hcs (ev_go hKp' (c := c0) (ts := cs) hevA hs)
    · cases x <;> first | exact stk _ rfl | exact hn rfl | exact absurd (show false = true from hf) (by simp)
  | func hf hv => cases hv
  | yield hl =>
    exfalso
    rename_i l l'
    obtain ⟨o, o', h1, _, h3⟩ := hW.obj _ _ hl
    have hg : (∃ m, (getObj l).run Tryv.prog v = .halt (.stuck m) v) ∨ ((getObj l).run Tryv.prog v = .ok o v ∧ ∀ r, o ≠ .loop r) := by
      have e : (getObj l).run Tryv.prog v = Sem.run Tryv.prog (Sem.getObj l fun o => .pure o) v := rfl
      rw [e]
      simp only [Sem.run, h1]
      cases h3 with
      | loop hlp => exact absurd hlp.okA.2 (by simp)
      | cells _ => exact .inl ⟨_, rfl⟩
      | _ => exact .inr ⟨rfl, fun r h => by cases h⟩
    have hy : (execOp (ev T) op0).run Tryv.prog v = (Instr.yield l five).run Tryv.prog v := by
      rw [hex]
      show (Instr.yield l (#[] ++ five ++ #[])).run Tryv.prog v = _
      simp
    rcases hg with ⟨m, hg⟩ | ⟨hg, hno⟩
    · refine dead (hh := .stuck m) ?_ trivial
      rw [hy]
      unfold Instr.yield Instr.getLoop
      simp only [Sem.run_bind, hg]
      rfl
    · refine dead (hh := .stuck "range over a function: no such loop") ?_ trivial
      rw [hy]
      unfold Instr.yield Instr.getLoop
      simp only [Sem.run_bind, hg]
      cases o <;> first | exact absurd rfl (hno _) | rfl
  | seq hq => exact ⟨_, _, _, _, rfl, rfl, hq⟩
  | mf hx hm =>
    exfalso
    obtain ⟨h, h1, h2⟩ := (call_dead (T := T1) (p := five) m0).run v
    exact dead (by rw [hex]; exact h1) h2
  | _ => exact (stk _ rfl).elim
end

theorem frames_ok {ρ : Rn} {f f' : Frame} (h : RelFr K1 T1 ρ f f') : f.defers = [] ∧ ∃ fn, Tryv.prog.funcs[f.fn]? = some fn := by
  refine ⟨h.nodef rfl rfl, ?_⟩
  obtain ⟨fn, h1, _⟩ := fits1.bodies.v f.fn h.ok.1
  exact ⟨fn, h1⟩
theorem all2_l {α β : Type} {R : α → β → Prop} {p : α → Prop} (h : ∀ a b, R a b → p a) : ∀ {l : List α} {l' : List β}, All2 R l l' → ∀ a ∈ l, p a := by
  intro l l' k
  induction k with
  | nil => exact fun a ha => by cases ha
  | cons hab _ ih =>
    intro a ha
    rcases List.mem_cons.1 ha with rfl | ha
    · exact h _ _ hab
    · exact ih a ha
section
variable {Kp : Frame → List Frame → World → Prop} (hKp : ∀ f ts v, Kp f ts v → ts = [] ∧ f.mode = .returning)
 include hKp
/-- THE FIRST DRIVER. -/
theorem drive1 {s : VS} (hev : Ev Tryv.prog Kp s.f s.ts s.v) : ∀ (ρ : Rn) (f' : Frame) (ts' cs' : List Frame) (w : World) (gs : Array Goroutine) (sl : Option (Nat × Nat)) (t : Trace) (q : Nat → Nat) (Z : Nat → Prop),
    RelFr K1 T1 ρ s.f f' → All2 (RelFr K1 T1 ρ) s.ts ts' → RelW K1.F 0 ρ s.v w → Apart Z ρ w → SlOk Z ρ w → Sit Try.prog Z gs w t (G f' (ts' ++ cs')) q →
    ∃ (N : Nat) (gs1 : Array Goroutine) (w1 : World) (sl1 : Option (Nat × Nat)) (t1 : Trace) (q1 : Nat → Nat) (Z1 : Nat → Prop) (ρ1 : Rn) (v1 : World) (f1 f1' : Frame),
      runNT Try.prog N (crowd gs w sl) t = (.next (crowd gs1 w1 sl1), t1) ∧ Sit Try.prog Z1 gs1 w1 t1 (G f1' cs') q1 ∧ Kp f1 [] v1 ∧ RelFr K1 T1 ρ1 f1 f1' ∧ Dv Z ρ w Z1 ρ1 v1 w1 := by
  have hKp' : ∀ f ts v, Kp f ts v → ts = [] := fun f ts v x => (hKp f ts v x).1
  refine Ev.strong (M := fun s => ∀ (ρ : Rn) (f' : Frame) (ts' cs' : List Frame) (w : World) (gs : Array Goroutine) (sl : Option (Nat × Nat)) (t : Trace) (q : Nat → Nat) (Z : Nat → Prop),
    RelFr K1 T1 ρ s.f f' → All2 (RelFr K1 T1 ρ) s.ts ts' → RelW K1.F 0 ρ s.v w → Apart Z ρ w → SlOk Z ρ w → Sit Try.prog Z gs w t (G f' (ts' ++ cs')) q →
    ∃ (N : Nat) (gs1 : Array Goroutine) (w1 : World) (sl1 : Option (Nat × Nat)) (t1 : Trace) (q1 : Nat → Nat) (Z1 : Nat → Prop) (ρ1 : Rn) (v1 : World) (f1 f1' : Frame),
      runNT Try.prog N (crowd gs w sl) t = (.next (crowd gs1 w1 sl1), t1) ∧ Sit Try.prog Z1 gs1 w1 t1 (G f1' cs') q1 ∧ Kp f1 [] v1 ∧ RelFr K1 T1 ρ1 f1 f1' ∧ Dv Z ρ w Z1 ρ1 v1 w1) (fun s hev ih => ?_) hev
  intro ρ f' ts' cs' w gs sl t q Z hf hts hW hZ hsl hS
  obtain ⟨N, gs1, w1, sl1, t1, q1, a1, ρ1, v1, r1, z1, S1, mv, hc⟩ := lift (sl := sl) fits1 (fun p k f1 ts1 v hp => zz_dead hKp' p k f1 ts1 v hp) hev hf hts hW (fun g hg => absurd hg (by simp)) hZ hS
  -- what the stretch leaves
  have hsz : w.heap.size ≤ w1.heap.size := by have a1 := mv.sv; have a2 := mv.sw; omega
  have hr1 : ∀ a b, ρ1.r a b → (∃ a', ρ.r a' b) ∨ w.heap.size ≤ b := fun a b hab => by
    rcases (mv.new a b).1 hab with h | h
    · exact .inl ⟨a, h⟩
    · have := mv.sw; exact .inr (by omega)
  have hA1 : Apart Z ρ1 w1 := ⟨fun a b hab hz => by
    rcases hr1 a b hab with ⟨a', h⟩ | h
    · exact hZ.r a' b h hz
    · have := hZ.z b hz; omega, fun b hb => Nat.lt_of_lt_of_le (hZ.z b hb) hsz⟩
  have hsl1 : SlOk Z ρ1 w1 := fun s' n a b hq => by
    rw [mv.tok.2] at hq
    obtain ⟨B, hB, hc⟩ := hsl s' n a b hq
    have hn : ∀ c ∈ B, ∀ x, ¬ ρ1.r x c := fun c hcB x hx => by
      rcases hr1 x c hx with ⟨a', h⟩ | h
      · exact (hc c hcB).1 a' h
      · have := hB.lt c hcB; omega
    exact ⟨B, hB.keep2 fun c hcB => mv.keepw c (hB.lt c hcB) (hc c hcB).1, fun c hcB => ⟨hn c hcB, (hc c hcB).2⟩⟩
  have hDv : Dv Z ρ w Z ρ1 v1 w1 := ⟨mv.le, mv.rel, hA1, hsl1, fun b hb => hb, fun b hb => .inl hb, fun a b hab hb => by
    rcases hr1 a b hab with h | h
    · exact h
    · omega, hsz, mv.keepw, mv.tw⟩
  rcases hc with ⟨f1, ts1, f1', ts1', hk, rfl, hf1, hts1⟩ | ⟨X, p, p', k, f1, ts1, f1', ts1', hX, hX', hk, hnx, rfl, hp, hf1, hts1⟩
  · have e := (hKp _ _ _ hk).1
    subst e
    cases hts1
    exact ⟨N, gs1, w1, sl1, t1, q1, Z, ρ1, v1, f1, f1', r1, S1, hk, hf1, hDv⟩
  · have hk : k = .normal := hk.elim id fun h => by cases h.2
    subst hk
    have hev1 := Ev.nextP hev hnx
    simp only at hev1
    have hcs : ∀ g ∈ f1 :: ts1, g.defers = [] ∧ ∃ fn, Tryv.prog.funcs[g.fn]? = some fn := fun g hg => by
      rcases List.mem_cons.1 hg with rfl | hg
      · exact frames_ok hf1
      · exact all2_l (fun _ _ h => frames_ok h) hts1 g hg
    have hX2 : X = 9 ∨ X = 19 := by
      have h := hX'.1
      simpa using h
    have hp2 : p.size = 2 := by
      have h := hX'.2
      unfold arOk at h
      rcases hX2 with rfl | rfl <;> simpa using h
    obtain ⟨x, y, rfl⟩ : ∃ x y, p = #[x, y] := by
      refine ⟨p[0], p[1], ?_⟩
      apply Array.ext
      · simp [hp2]
      · intro i h1 h2
        have : i = 0 ∨ i = 1 := by simp at h2; omega
        rcases this with rfl | rfl <;> rfl
    obtain ⟨x', y', rfl⟩ : ∃ x y, p' = #[x, y] := by
      have hp2' : p'.size = 2 := by rw [← hp.1]; rfl
      refine ⟨p'[0], p'[1], ?_⟩
      apply Array.ext
      · simp [hp2']
      · intro i h1 h2
        have : i = 0 ∨ i = 1 := by simp at h2; omega
        rcases this with rfl | rfl <;> rfl
    have hx : RelV K1.F ρ1 x x' := hp.2 0 _ _ rfl rfl
    have hy : RelV K1.F ρ1 y y' := hp.2 1 _ _ rfl rfl
    rcases hX2 with rfl | rfl
    · -- Chunks
      obtain ⟨N2, gs2, w2, sl2, t2, q2, s', sz, p1, p2, r2, S2, n2, d2⟩ := chunks_sit (sl := sl1) S1 mv.rel hA1 hsl1 hx hy hev1 hKp'
      obtain ⟨N3, gs3, w3, sl3, t3, q3, Z3, ρ3, v3, f3, f3', r3, S3, k3, g3, d3⟩ := ih _ (n2.trans hnx) _ _ ts1' cs' w2 gs2 sl2 t2 q2 _ ((hf1.mono d2.le).finish (.seq (.inr ⟨rfl, rfl, rfl, rfl⟩))) (forall2_mono (fun _ _ h => h.mono d2.le) hts1) d2.rel d2.apart d2.sl S2
      exact ⟨_, gs3, w3, sl3, t3, q3, Z3, ρ3, v3, f3, f3', runNT_join (runNT_join r1 r2) r3, S3, k3, g3, (hDv.trans d2).trans d3⟩
    · -- Copy
      obtain ⟨s', n, p1, p2, rfl, rfl, hq⟩ := v19_inv hKp hcs mv.rel hx hev1
      obtain ⟨N2, gs2, w2, sl2, t2, q2, Z2, ρ2, v2, cnt, e, r2, S2, n2, d2⟩ := copy_sit (sl := sl1) S1 mv.rel hA1 hq hsl1 hev1 hy hKp hcs
      obtain ⟨N3, gs3, w3, sl3, t3, q3, Z3, ρ3, v3, f3, f3', r3, S3, k3, g3, d3⟩ := ih _ (n2.trans hnx) _ _ ts1' cs' w2 gs2 sl2 t2 q2 _ ((hf1.mono d2.le).finish (.tuple rfl fun i a b h1 h2 => by
        rw [h1] at h2
        obtain rfl := Option.some.inj h2
        have : i = 0 ∨ i = 1 := by have := (Array.getElem?_eq_some_iff.1 h1).1; simp at this; omega
        rcases this with rfl | rfl <;> (cases h1; exact .flat rfl))) (forall2_mono (fun _ _ h => h.mono d2.le) hts1) d2.rel d2.apart d2.sl S2
      exact ⟨_, gs3, w3, sl3, t3, q3, Z3, ρ3, v3, f3, f3', runNT_join (runNT_join r1 r2) r3, S3, k3, g3, (hDv.trans d2).trans d3⟩
end
end Go.Proofs.Ytcdhmnefmbcmaaa

namespace Go.Proofs.Ytcdhmnefmbcmaaa
open Go Go.Conc
theorem sit_first (P : Program) (a : Goroutine) (w : World) : Sit P (fun _ => False) #[a] w #[] a (fun _ => 0) :=
  ⟨rfl, leavers_one P a, past_nil.clean, fun i x hx => by simp [touchAt, Trace.act?] at hx, past_nil.over, past_nil.hears, fun op hop => by simp at hop⟩
theorem runN_of {P : Program} : ∀ {N : Nat} {m m' : Machine} {t t' : Trace}, runNT P N m t = (.next m', t') → runN P N m = .next m' := by
  intro N
  induction N with
  | zero => intro m m' t t' h; simp only [runNT, Prod.mk.injEq] at h; rw [runN]; exact h.1
  | succ n ih =>
    intro m m' t t' h
    have hs := stepT_fst P m true
    simp only [runNT] at h
    cases hst : stepT P m with
    | mk r ops =>
      have hst' : stepT P m true = (r, ops) := hst
      rw [hst'] at hs
      rw [hst] at h
      cases r with
      | next m1 =>
        simp only at h hs
        rw [runN, ← hs]
        exact ih h
      | ended o w => simp at h
/-- goroutine 0 returns beside leavers: the claim's run ends well -/
theorem ends_sit {P : Program} {Z : Nat → Prop} {gs0 gs : Array Goroutine} {w0 w : World} {sl0 sl : Option (Nat × Nat)} {t0 t : Trace} {f : Frame} {q : Nat → Nat} {N0 : Nat} {x : Value} {Post : Value → World → Prop} (r : runNT P N0 (crowd gs0 w0 sl0) t0 = (.next (crowd gs w sl), t)) (h : Sit P Z gs w t (G f []) q)
    (hst : ∀ dd, stepG P true (G f []) (w.at dd) = .ended (.done x) (w.at dd) #[]) (hPost : ∀ dd, Post x (w.at dd)) :
    ∃ N last o w' t', runNT P (N + 1) (crowd gs0 w0 sl0) t0 = (.ended o w', t') ∧ runN P N (crowd gs0 w0 sl0) = .next last ∧ step P last = .ended o w' ∧ Good P Post last o w' t' := by
  have hG : Goes P true AtRel (fun _ _ _ => False) (AtEnd P (ShunZ Z) w.heap.size Post) 0 (G f []) w := by
    intro w1 hw1
    obtain ⟨dd, rfl⟩ := hw1
    exact ⟨rfl, x, #[], hst dd, by simp, hPost dd⟩
  obtain ⟨N, last, o, w', t', h1, h2, h3, h4⟩ := beside_ends (sl := sl) (fun _ _ _ h => h.elim) h.at0 h.leavers h.past hG
  refine ⟨N0 + N, last, o, w', t', ?_, ?_, h3, h4⟩
  · rw [Nat.add_assoc, runNT_add, r]; exact h1
  · rw [runN_add, runN_of r]; exact h2
end Go.Proofs.Ytcdhmnefmbcmaaa

namespace Go.Proofs.Ytcdhmnefmbcmaaa
open Go Go.Conc

/-- blocks paired as r says; tokens from base on -/
def rtk (r : Nat → Nat → Prop) (base : Nat) (ts : List Value) : Rn := { r := r, c := fun a x => base ≤ a ∧ ts[a - base]? = some x, q := fun _ _ _ _ => False }
theorem rtk_le {r : Nat → Nat → Prop} {base : Nat} {ts us : List Value} : (rtk r base ts).le (rtk r base (ts ++ us)) :=
  ⟨fun _ _ h => h, fun a x h => ⟨h.1, by
    have h2 : ts[a - base]? = some x := h.2
    rw [List.getElem?_append_left (List.getElem?_eq_some_iff.1 h2).1]; exact h2⟩, fun _ _ _ _ h => h⟩

section
variable {F : Fs} {r : Nat → Nat → Prop} {base : Nat}
/-- what stands for a value: itself where it can -/
def Stands (F : Fs) (r : Nat → Nat → Prop) (base : Nat) (ts : List Value) (v x : Value) : Prop :=
  RelV F (rtk r base ts) v x ∧ (flat x = true → v = x) ∧ (∀ a k c, x = .slice (some a) k c → r a.block a.block → v = x) ∧ ∀ a, x = .slice (some a) 0 0 → ∃ b, v = .slice (some b) 0 0
theorem Stands.mono {ts us : List Value} {v x : Value} (h : Stands F r base ts v x) : Stands F r base (ts ++ us) v x := ⟨h.1.mono rtk_le, h.2⟩
theorem stands_list {m : Nat} (ih : ∀ x : Value, SizeOf.sizeOf x ≤ m → ∀ ts : List Value, ∃ us v, Stands F r base (ts ++ us) v x) : ∀ (l : List Value), (∀ x ∈ l, SizeOf.sizeOf x ≤ m) → ∀ ts : List Value, ∃ (us l' : List Value), l'.length = l.length ∧ ∀ (i : Nat) (v x : Value), l'[i]? = some v → l[i]? = some x → Stands F r base (ts ++ us) v x := by
  intro l
  induction l with
  | nil => exact fun _ ts => ⟨[], [], rfl, fun i v x h => by simp at h⟩
  | cons y l ihl =>
    intro hl ts
    obtain ⟨us, v, h1⟩ := ih y (hl y (List.mem_cons_self ..)) ts
    obtain ⟨us2, l', h2, h3⟩ := ihl (fun x hx => hl x (List.mem_cons_of_mem _ hx)) (ts ++ us)
    refine ⟨us ++ us2, v :: l', by simp [h2], fun i a x ha hx => ?_⟩
    rw [← List.append_assoc]
    cases i with
    | zero =>
      simp only [List.getElem?_cons_zero, Option.some.injEq] at ha hx
      subst ha hx
      exact h1.mono
    | succ i =>
      simp only [List.getElem?_cons_succ] at ha hx
      exact h3 i a x ha hx
theorem stands_ex : ∀ (m : Nat) (x : Value), SizeOf.sizeOf x ≤ m → ∀ ts : List Value, ∃ us v, Stands F r base (ts ++ us) v x := by
  intro m
  induction m with
  | zero => intro x hx; cases x <;> simp at hx
  | succ m ih =>
    intro x hx ts
    have tokC : ∀ y, (ts ++ [y])[base + ts.length - base]? = some y := fun y => by simp
    have tok : isTok x = true → (∀ a k c, x = .slice (some a) k c → ¬ r a.block a.block) → flat x = false → ∃ us v, Stands F r base (ts ++ us) v x := fun h h2 h3 =>
      ⟨[x], .chan (some (base + ts.length)), .tok ⟨by omega, tokC x⟩ h, fun h4 => (by rw [h3] at h4; cases h4), fun a k c e hr => absurd hr (h2 a k c e), fun a e => (by subst e; cases h)⟩
    have arr : ∀ p : Array Value, SizeOf.sizeOf p ≤ m → ∃ us, ∃ p' : Array Value, p'.size = p.size ∧ ∀ (i : Nat) (v x : Value), p'[i]? = some v → p[i]? = some x → RelV F (rtk r base (ts ++ us)) v x := fun p hp => by
      obtain ⟨us, l', h1, h2⟩ := stands_list ih p.toList (fun x hx => by
        have := Array.sizeOf_lt_of_mem (Array.mem_toList_iff.1 hx)
        omega) ts
      exact ⟨us, l'.toArray, by simpa using h1, fun i v x hv hx => (h2 i v x (by simpa using hv) (by simpa using hx)).1⟩
    by_cases hf : flat x = true
    · exact ⟨[], x, .flat hf, fun _ => rfl, fun _ _ _ _ _ => rfl, fun a e => (by subst e; cases hf)⟩
    have hf' : flat x = false := by simpa using hf
    cases x with
    | slice a k c =>
      cases a with
      | none => exact absurd rfl hf
      | some a =>
        by_cases hr : r a.block a.block
        · exact ⟨[], _, .slice ⟨hr, rfl, rfl⟩, fun _ => rfl, fun _ _ _ _ _ => rfl, fun a' e => ⟨_, e⟩⟩
        · by_cases he : k = 0 ∧ c = 0
          · obtain ⟨rfl, rfl⟩ := he
            exact ⟨[_], .slice (some ⟨base + ts.length, 0, none⟩) 0 0, .emp ⟨by omega, tokC _⟩, fun h4 => (by rw [hf'] at h4; cases h4), fun a' k' c' e hr' => (by cases e; exact absurd hr' hr), fun _ _ => ⟨_, rfl⟩⟩
          · exact tok (by
              cases k with
              | zero => cases c with
                | zero => exact absurd ⟨rfl, rfl⟩ he
                | succ c => rfl
              | succ k => rfl) (fun a' k' c' e => by cases e; exact hr) hf'
    | agg p =>
      obtain ⟨us, p', h1, h2⟩ := arr p (by simp at hx; omega)
      exact ⟨us, .agg p', .agg h1 h2, fun h => (by cases h), fun _ _ _ e => (by cases e), fun _ e => (by cases e)⟩
    | tuple p =>
      obtain ⟨us, p', h1, h2⟩ := arr p (by simp at hx; omega)
      exact ⟨us, .tuple p', .tuple h1 h2, fun h => (by cases h), fun _ _ _ e => (by cases e), fun _ e => (by cases e)⟩
    | func f p q =>
      by_cases hm : isMeth (.func f p q) = true
      · exact ⟨[_], mfV (base + ts.length), .mf ⟨by omega, tokC _⟩ hm, fun h => (by cases h), fun _ _ _ e => (by cases e), fun _ e => (by cases e)⟩
      · exact tok (by cases f <;> first | rfl | exact absurd rfl hm) (fun _ _ _ e => (by cases e)) hf'
    | pointer a => cases a with
      | none => exact absurd rfl hf
      | some a => exact tok rfl (fun _ _ _ e => (by cases e)) hf'
    | map a => cases a with
      | none => exact absurd rfl hf
      | some a => exact tok rfl (fun _ _ _ e => (by cases e)) hf'
    | chan a => cases a with
      | none => exact absurd rfl hf
      | some a => exact tok rfl (fun _ _ _ e => (by cases e)) hf'
    | _ => first | exact absurd rfl hf | exact tok rfl (fun _ _ _ e => (by cases e)) hf'
end
end Go.Proofs.Ytcdhmnefmbcmaaa

namespace Go.Proofs.Ytcdhmnefmbcmaaa
open Go Go.Conc

section
variable {F : Fs} (Bs : Nat → Prop) (W : World)
/-- blocks that stand for themselves -/
def rid (Bs : Nat → Prop) (a b : Nat) : Prop := a = b ∧ Bs a
/-- a row that stands for a row -/
def RowOk (F : Fs) (r : Nat → Nat → Prop) (base : Nat) (ts : List Value) (p' p : Array Value) : Prop := p'.size = p.size ∧ ∀ (i : Nat) (v x : Value), p'[i]? = some v → p[i]? = some x → Stands F r base ts v x
theorem first_objs : ∀ n, n ≤ W.heap.size → ∃ (ts : List Value) (objs : List Obj), objs.length = n ∧ ∀ b, b < n → Bs b → ∀ p t f, W.heap[b]? = some (.cells p t f) → ∃ p', objs[b]? = some (.cells p' t f) ∧ RowOk F (rid Bs) W.heap.size ts p' p := by
  classical
  intro n
  induction n with
  | zero => exact fun _ => ⟨[], [], rfl, fun b hb => absurd hb (Nat.not_lt_zero _)⟩
  | succ n ih =>
    intro hn
    obtain ⟨ts, objs, h1, h2⟩ := ih (by omega)
    have old : ∀ us (o : Obj), ∀ b, b < n → Bs b → ∀ p t f, W.heap[b]? = some (.cells p t f) → ∃ p', (objs ++ [o])[b]? = some (.cells p' t f) ∧ RowOk F (rid Bs) W.heap.size (ts ++ us) p' p := fun us o b hb hB p t f hp => by
      obtain ⟨p', h3, h4, h5⟩ := h2 b hb hB p t f hp
      exact ⟨p', by rw [List.getElem?_append_left (by omega)]; exact h3, h4, fun i v x hv hx => (h5 i v x hv hx).mono⟩
    by_cases hB : ∃ p t f, W.heap[n]? = some (.cells p t f)
    · obtain ⟨p, t, f, hp⟩ := hB
      obtain ⟨us, l', k1, k2⟩ := stands_list (F := F) (r := rid Bs) (base := W.heap.size) (m := SizeOf.sizeOf p) (fun x _ ts => stands_ex _ x (Nat.le_refl _) ts) p.toList (fun x hx => Nat.le_of_lt (Array.sizeOf_lt_of_mem (Array.mem_toList_iff.1 hx))) ts
      refine ⟨ts ++ us, objs ++ [.cells l'.toArray t f], by simp [h1], fun b hb hBb p2 t2 f2 hp2 => ?_⟩
      rcases Nat.lt_or_ge b n with hlt | hge
      · exact old us _ b hlt hBb p2 t2 f2 hp2
      · obtain rfl : b = n := by omega
        rw [hp] at hp2
        cases hp2
        refine ⟨l'.toArray, ?_, by simpa using k1, fun i v x hv hx => k2 i v x (by simpa using hv) (by simpa using hx)⟩
        rw [List.getElem?_append_right (by omega), h1]
        simp
    · refine ⟨ts, objs ++ [poison], by simp [h1], fun b hb hBb p2 t2 f2 hp2 => ?_⟩
      rcases Nat.lt_or_ge b n with hlt | hge
      · have := old [] poison b hlt hBb p2 t2 f2 hp2
        simpa using this
      · obtain rfl : b = n := by omega
        exact absurd ⟨_, _, _, hp2⟩ hB
/-- THE FIRST VIRTUAL WORLD. -/
theorem first_world (hBs : ∀ b, Bs b → ∃ p t f, W.heap[b]? = some (.cells p t f)) : ∃ (ts : List Value) (H : Array Obj), RelW F 0 (rtk (rid Bs) W.heap.size ts) { W with heap := H } W ∧ H.size = W.heap.size + ts.length ∧
    (∀ a, W.heap.size ≤ a → a < H.size → H[a]? = some poison) ∧ ∀ b, Bs b → ∀ p t f, W.heap[b]? = some (.cells p t f) → ∃ p', H[b]? = some (.cells p' t f) ∧ RowOk F (rid Bs) W.heap.size ts p' p := by
  obtain ⟨ts, objs, h1, h2⟩ := first_objs Bs W W.heap.size (Nat.le_refl _)
  obtain ⟨H, hH⟩ : ∃ H : Array Obj, H = (objs ++ List.replicate ts.length poison).toArray := ⟨_, rfl⟩
  have lt : ∀ b, Bs b → b < W.heap.size := fun b hb => by
    obtain ⟨p, t, f, h⟩ := hBs b hb
    exact (Array.getElem?_eq_some_iff.1 h).1
  have hrow : ∀ b, Bs b → ∀ p t f, W.heap[b]? = some (.cells p t f) → ∃ p', H[b]? = some (.cells p' t f) ∧ RowOk F (rid Bs) W.heap.size ts p' p := fun b hb p t f hp => by
    obtain ⟨p', h3, h4⟩ := h2 b (lt b hb) hb p t f hp
    refine ⟨p', ?_, h4⟩
    rw [hH, List.getElem?_toArray, List.getElem?_append_left (by have := lt b hb; omega)]
    exact h3
  have hpois : ∀ a, W.heap.size ≤ a → a < W.heap.size + ts.length → H[a]? = some poison := fun a h3 h4 => by
    rw [hH, List.getElem?_toArray, List.getElem?_append_right (by omega), List.getElem?_replicate]
    simp
    omega
  have hsz : H.size = W.heap.size + ts.length := by rw [hH]; simp [h1]
  refine ⟨ts, H, ⟨⟨fun a b b' h k => by rw [← h.1, ← k.1], fun a a' b h k => by rw [h.1, k.1], fun a x y h k => by
      have e1 : ts[a - W.heap.size]? = some x := h.2
      have e2 : ts[a - W.heap.size]? = some y := k.2
      rw [e1] at e2
      exact Option.some.inj e2, fun a b x h k => by
      have h3 := lt a h.2
      have h4 : W.heap.size ≤ a := k.1
      omega, fun a b h k => by omega⟩, fun a b hab => ?_, fun a x hx => ?_, Nat.zero_le _, Nat.zero_le _, rfl, fun s n a b hq => hq.elim⟩, hsz, fun a h3 h4 => hpois a h3 (by omega), hrow⟩
  · obtain ⟨rfl, hb⟩ := hab
    obtain ⟨p, t, f, hp⟩ := hBs a hb
    obtain ⟨p', h3, h4, h5⟩ := hrow a hb p t f hp
    exact ⟨_, _, h3, hp, .cells ⟨h4, fun i v x hv hx => (h5 i v x hv hx).1⟩⟩
  · have h3 : W.heap.size ≤ a := hx.1
    have h4 := (List.getElem?_eq_some_iff.1 (show ts[a - W.heap.size]? = some x from hx.2)).1
    exact hpois a h3 (by omega)
end
end Go.Proofs.Ytcdhmnefmbcmaaa

namespace Go.Proofs.Ytcdhmnefmbcmaaa
open Go Go.Conc

theorem relA_det {N : Nat} {ρ : Rn} (ok : ρ.Ok N) {a a' b' : Addr} (h : RelA ρ a a') (k : RelA ρ a b') : b' = a' := by
  obtain ⟨b, o, s⟩ := a
  obtain ⟨b1, o1, s1⟩ := a'
  obtain ⟨b2, o2, s2⟩ := b'
  obtain ⟨h1, h2, h3⟩ := h
  obtain ⟨k1, k2, k3⟩ := k
  simp only at h1 h2 h3 k1 k2 k3
  rw [ok.fn _ _ _ k1 h1, k2, k3, h2, h3]
theorem arr_det {p p' q' : Array Value} (h : p.size = p'.size) (k : p.size = q'.size) (hd : ∀ (i : Nat) (v x y : Value), p[i]? = some v → p'[i]? = some x → q'[i]? = some y → y = x) : q' = p' := by
  apply Array.ext
  · omega
  · intro i h1 h2
    have h3 : i < p.size := by omega
    exact hd i p[i] p'[i] q'[i] (Array.getElem?_eq_getElem h3) (Array.getElem?_eq_getElem h2) (Array.getElem?_eq_getElem h1)
theorem RelV.det {F : Fs} {N : Nat} {ρ0 ρ1 : Rn} (hl : ρ0.le ρ1) (ok : ρ1.Ok N) (hq : ∀ s n a b, ¬ ρ0.q s n a b) (hF : F.v F.z → ∀ s n a b, ¬ ρ1.q s n a b) {v x : Value} (k0 : RelV F ρ0 v x) : ∀ {y : Value}, RelV F ρ1 v y → y = x := by
  induction k0 with
  | flat hf => exact fun k1 => rel_flat_eq k1 hf
  | ptr ha =>
    intro y k1
    generalize e : Value.pointer _ = u at k1
    cases k1 <;> cases e
    · rename_i hf; exact absurd (show false = true from hf) (by simp)
    · rename_i hb; rw [relA_det ok (ha.mono hl) hb]
  | slice ha =>
    intro y k1
    generalize e : Value.slice _ _ _ = u at k1
    cases k1 <;> cases e
    · rename_i hf; exact absurd (show false = true from hf) (by simp)
    · rename_i hb; rw [relA_det ok (ha.mono hl) hb]
    · rename_i hb; exact absurd hb (ok.apart _ _ _ (ha.mono hl).1)
  | emp hcx =>
    intro y k1
    generalize e : Value.slice _ _ _ = u at k1
    cases k1 <;> cases e
    · rename_i hf; exact absurd (show false = true from hf) (by simp)
    · rename_i hb; exact absurd (hl.c _ _ hcx) (ok.apart _ _ _ hb.1)
    · rename_i hb; exact ok.cfn _ _ _ hb (hl.c _ _ hcx)
  | map ha =>
    intro y k1
    generalize e : Value.map _ = u at k1
    cases k1 <;> cases e
    · rename_i hf; exact absurd (show false = true from hf) (by simp)
    · rename_i hb; rw [ok.fn _ _ _ hb (hl.r _ _ ha)]
  | chan ha =>
    intro y k1
    generalize e : Value.chan _ = u at k1
    cases k1 <;> cases e
    · rename_i hf; exact absurd (show false = true from hf) (by simp)
    · rename_i hb; rw [ok.fn _ _ _ hb (hl.r _ _ ha)]
    · rename_i _ hb; exact absurd hb (ok.apart _ _ _ (hl.r _ _ ha))
  | tok hcx _ =>
    intro y k1
    generalize e : Value.chan _ = u at k1
    cases k1 <;> cases e
    · rename_i hf; exact absurd (show false = true from hf) (by simp)
    · rename_i hb; exact absurd (hl.c _ _ hcx) (ok.apart _ _ _ hb)
    · rename_i _ hb; exact ok.cfn _ _ _ hb (hl.c _ _ hcx)
  | func hf hv h1 _ h2 _ i1 i2 =>
    intro y k1
    generalize e : Value.func _ _ _ = u at k1
    cases k1 <;> cases e
    · rename_i hx; exact absurd (show false = true from hx) (by simp)
    · rename_i _ _ k1 k2 k3 k4; rw [arr_det h1 k1 fun i v x y a b c => i1 i v x a b (k2 i v y a c), arr_det h2 k3 fun i v x y a b c => i2 i v x a b (k4 i v y a c)]
    · exact absurd (by assumption) (hF hv _ _ _ _)
  | yield ha =>
    intro y k1
    generalize e : Value.func _ _ _ = u at k1
    cases k1 <;> cases e
    · rename_i hf; exact absurd (show false = true from hf) (by simp)
    · rename_i hb; rw [ok.fn _ _ _ hb (hl.r _ _ ha)]
  | seq h => exact absurd h (hq _ _ _ _)
  | mf hcx _ =>
    intro y k1
    generalize e : mfV _ = u at k1
    cases k1 <;> cases e
    · rename_i hf; exact absurd (show false = true from hf) (by simp)
    · exact ok.cfn _ _ _ (by assumption) (hl.c _ _ hcx)
  | iface _ ih =>
    intro y k1
    generalize e : Value.iface _ _ = u at k1
    cases k1 <;> cases e
    · rename_i hf; exact absurd (show false = true from hf) (by simp)
    · rename_i hb; rw [ih hb]
  | agg h1 _ ih =>
    intro y k1
    generalize e : Value.agg _ = u at k1
    cases k1 <;> cases e
    · rename_i hf; exact absurd (show false = true from hf) (by simp)
    · rename_i h2 hb; rw [arr_det h1 h2 fun i v x y a b c => ih i v x a b (hb i v y a c)]
  | tuple h1 _ ih =>
    intro y k1
    generalize e : Value.tuple _ = u at k1
    cases k1 <;> cases e
    · rename_i hf; exact absurd (show false = true from hf) (by simp)
    · rename_i h2 hb; rw [arr_det h1 h2 fun i v x y a b c => ih i v x a b (hb i v y a c)]
/-- a row that the virtual run has left alone -/
theorem row_det {F : Fs} {N : Nat} {ρ0 ρ1 : Rn} {v0 w0 v1 w1 : World} (h0 : RelW F N ρ0 v0 w0) (h1 : RelW F N ρ1 v1 w1) (hl : ρ0.le ρ1) (hq : ∀ s n a b, ¬ ρ0.q s n a b) (hF : F.v F.z → ∀ s n a b, ¬ ρ1.q s n a b) {a b : Nat} (hab : ρ0.r a b) (hv : v1.heap[a]? = v0.heap[a]?) {p : Array Value} {t : TypeId} {f : Nat × Nat} (hw : w0.heap[b]? = some (.cells p t f)) :
    w1.heap[b]? = some (.cells p t f) := by
  obtain ⟨o, o', k1, k2, k3⟩ := h0.obj a b hab
  obtain ⟨q, q', j1, j2, j3⟩ := h1.obj a b (hl.r _ _ hab)
  rw [hv, k1] at j1
  obtain rfl := Option.some.inj j1
  rw [hw] at k2
  obtain rfl := Option.some.inj k2
  rw [j2]
  generalize e : Obj.cells p t f = u at k3
  cases k3 <;> cases e
  rename_i p0 hp
  cases j3 with
  | cells hp2 => rw [arr_det hp.1 hp2.1 fun i v x y a b c => (hp.2 i v x a b).det hl h1.ok hq hF (hp2.2 i v y a c)]
end Go.Proofs.Ytcdhmnefmbcmaaa

namespace Go.Proofs.Ytcdhmnefmbcmaaa
open Go Go.Conc Go.RowKit

/-- where a law's virtual run is to come to -/
def KpL (X : FuncId) (r : Tmp) (H : Array Obj) (f : Frame) (ts : List Frame) (v : World) : Prop :=
  ts = [] ∧ f.mode = .returning ∧ f.fn = X ∧ f.tmps[r]? = some (.bool true) ∧ ∀ a, a < H.size → v.heap[a]? = H[a]?

theorem ret_ends {P : Program} {f : Frame} {fn : Func} {r : Tmp} {x : Value} (hm : f.mode = .returning) (hd : f.defers = []) (hf : P.funcs[f.fn]? = some fn) (hres : fn.results = #[.tmp r]) (hr : f.tmps[r]? = some x) (hk : f.kind = .normal ∨ f.kind = .deferred) (hi : P.inits.idxOf? f.fn = none) (w : World) :
    stepG P true (G f []) w = .ended (.done x) w #[] := by
  have h1 : (results fn f.tmps).runT P w #[] = (.ok x w, #[]) := by
    rw [res_tmp hres w, Array.getD_eq_getD_getElem?, hr]
    rfl
  rw [Sem.runT_eq] at h1
  have h2 : (results fn f.tmps).run P w = .ok x w := congrArg Prod.fst h1
  have h3 : (results fn f.tmps).events P w #[] = #[] := congrArg Prod.snd h1
  rcases hk with hk | hk <;> simp [stepG, unwind, G, hm, hd, hf, h2, h3, doReturn, hk, hi, GStep.after, seen_none]

theorem le1V : K1.F.le KV.F where
  f := fun f h => by
    have h : S1.contains f = true := h
    show (S1.contains f || f == 22) = true
    rw [h]; rfl
  v := fun f h => (by cases h)
  c := fun c h => (by cases h.2)
  r := fun f h => (by cases h.2)
  z := rfl
  m := by decide
  a := fun f n _ => rfl
  d := fun h => (by cases h)
theorem hzV : KV.F K1.F.z ∧ KV.F.v K1.F.z ∧ ∀ n, KV.F.a K1.F.z n := ⟨by decide, by decide, fun n => rfl⟩

section
variable {X : FuncId} (hX : S1.contains X = true) (hXn : K1.X X = false) {fn : Func} (hfn : Try.prog.funcs[X]? = some fn) {r : Tmp} (hres : fn.results = #[.tmp r]) (hin : Try.prog.inits.idxOf? X = none)
  {args : Array Value} {W : World} {Bs : Nat → Prop} (hBs : ∀ b, Bs b → ∃ p t f, W.heap[b]? = some (.cells p t f)) (hargs : ∀ (i : Nat) (x : Value), args[i]? = some x → flat x = true ∨ (∃ a k c, x = .slice (some a) k c ∧ Bs a.block) ∨ ∃ p, x = .agg p ∧ ∀ v ∈ p, flat v = true)
 include hX hXn hfn hres hin hBs hargs
/-- A LAW'S CALL. -/
theorem law_runs {Post : Value → World → Prop} (hPost : ∀ w' : World, W.heap.size ≤ w'.heap.size → (∀ b, b < W.heap.size → w'.heap[b]? = W.heap[b]?) → w'.tape = W.tape → w'.os = W.os → w'.output = W.output → Post (.bool true) w')
    (hlone : ∀ (H : Array Obj) (ts : List Value), W.heap.size ≤ H.size → (∀ b, Bs b → ∀ p t f, W.heap[b]? = some (.cells p t f) → ∃ p', H[b]? = some (.cells p' t f) ∧ RowOk K1.F (rid Bs) W.heap.size ts p' p) →
      ∀ t : Nat → Question → Nat, (∀ j, j < W.drawn → t j = W.tape j) → ∃ n f' v', runN Tryv.prog n (lone (Frame.enter Tryv.prog X args .normal) [door Tryv.prog] (({ W with heap := H } : World).taped t)) = .next (lone f' [door Tryv.prog] v') ∧ KpL X r H f' [] v') :
    ∃ M last o w' t', runNT Try.prog (M + 1) (solo (G (Frame.enter Try.prog X args .normal) []) W) #[] = (.ended o w', t') ∧ runN Try.prog M (solo (G (Frame.enter Try.prog X args .normal) []) W) = .next last ∧ step Try.prog last = .ended o w' ∧ Conc.Good Try.prog Post last o w' t' := by
  obtain ⟨ts, H, hW, hHs, _, hrow⟩ := first_world (F := K1.F) Bs W hBs
  obtain ⟨ρ0, hρ⟩ : ∃ ρ0, ρ0 = rtk (rid Bs) W.heap.size ts := ⟨_, rfl⟩
  rw [← hρ] at hW
  have hq0 : ∀ s n a b, ¬ ρ0.q s n a b := fun s n a b h => by rw [hρ] at h; exact h
  have hr0 : ∀ a b, ρ0.r a b ↔ a = b ∧ Bs a := fun a b => by rw [hρ]; exact Iff.rfl
  have ha : RelVs K1.F ρ0 args args := ⟨rfl, fun i v v' h1 h2 => by
    rw [h1] at h2
    obtain rfl := Option.some.inj h2
    rcases hargs i v h1 with h | ⟨a, k, c, rfl, h⟩ | ⟨p, rfl, h⟩
    · exact .flat h
    · exact .slice ⟨(hr0 _ _).2 ⟨rfl, h⟩, rfl, rfl⟩
    · exact .agg rfl fun j y y' h3 h4 => by
        rw [h3] at h4
        obtain rfl := Option.some.inj h4
        exact .flat (h y (Array.mem_of_getElem? h3))⟩
  have hev : Ev Tryv.prog (KpL X r H) (Frame.enter Tryv.prog X args .normal) [] { W with heap := H } := by
    refine bar (K := KV) (T := TV) (N := 0) fitsV rfl (fun _ => rfl) (fun f ts v t h => h) ⟨ρ0.left, ρ0.left_id, relFr_enter (K := KV) (T := TV) fitsV (le1V.f X hX) rfl (ha.left le1V hzV) (.inl rfl), .nil, hW.left le1V hzV, fun g hg => absurd hg (by simp)⟩ (fun t ht => ?_)
    obtain ⟨n, f', v', h1, h2⟩ := hlone H ts (by omega) hrow t ht
    exact ⟨n, f', [], v', h1, h2⟩
  have hKp : ∀ f ts v, KpL X r H f ts v → ts = [] ∧ f.mode = .returning := fun f ts v h => ⟨h.1, h.2.1⟩
  obtain ⟨N, gs1, w1, sl1, t1, q1, Z1, ρ1, v1, f1, f1', r1, S1, ⟨_, km, kf, kr, kh⟩, hf1, dv⟩ := drive1 hKp (s := ⟨_, _, _⟩) hev ρ0 (Frame.enter Try.prog X args .normal) [] [] W #[G (Frame.enter Try.prog X args .normal) []] none #[] (fun _ => 0) (fun _ => False) (relFr_enter (K := K1) (T := T1) fits1 hX hXn ha (.inl rfl)) .nil hW ⟨fun _ _ _ h => h, fun _ h => h.elim⟩ (fun s n a b h => absurd h (hq0 _ _ _ _)) (sit_first _ _ _)
  have hm' : f1'.mode = .returning := by
    have := hf1.mode
    rw [km] at this
    generalize f1'.mode = m at this
    cases this
    rfl
  have hd' : f1'.defers = [] := by
    have h1 := hf1.defers
    rw [hf1.nodef rfl rfl] at h1
    generalize f1'.defers = l at h1
    cases h1
    rfl
  have hfn' : f1'.fn = X := hf1.fn.trans kf
  have hr' : f1'.tmps[r]? = some (.bool true) := by
    obtain ⟨y, hy, hyr⟩ := hf1.tmps.get kr
    rw [hy, rel_flat_eq hyr rfl]
  have hk' : f1'.kind = .normal ∨ f1'.kind = .deferred := by rw [hf1.kind.1]; exact hf1.kind.2
  have hold : ∀ b, b < W.heap.size → w1.heap[b]? = W.heap[b]? := fun b hb => by
    by_cases hB : Bs b
    · obtain ⟨p, t, f, hp⟩ := hBs b hB
      rw [hp]
      exact row_det hW dv.rel dv.le hq0 (fun h => by cases h) ((hr0 b b).2 ⟨rfl, hB⟩) (kh b (by omega)) hp
    · exact dv.keep b hb fun a h => hB (by have := (hr0 a b).1 h; rw [← this.1]; exact this.2)
  exact ends_sit (sl0 := none) r1 S1 (fun dd => ret_ends hm' hd' (by rw [hfn']; exact hfn) hres hr' hk' (by rw [hfn']; exact hin) _) (fun dd => hPost (w1.at dd) dv.sz hold dv.same.1 dv.same.2.1 dv.same.2.2)
end
end Go.Proofs.Ytcdhmnefmbcmaaa

namespace Go.Proofs.Ytcdhmnefmbcmaaa
open Go Go.Conc Go.RowKit
section
variable {X : FuncId} (hX : S1.contains X = true) (hXn : K1.X X = false) {fn : Func} (hfn : Try.prog.funcs[X]? = some fn) (hfnV : Tryv.prog.funcs[X]? = some fn) {r : Tmp} (hres : fn.results = #[.tmp r]) (hin : Try.prog.inits.idxOf? X = none)
  {args : Array Value} {W : World} {Bs : Nat → Prop} (hBs : ∀ b, Bs b → ∃ p t f, W.heap[b]? = some (.cells p t f)) (hargs : ∀ (i : Nat) (x : Value), args[i]? = some x → flat x = true ∨ (∃ a k c, x = .slice (some a) k c ∧ Bs a.block) ∨ ∃ p, x = .agg p ∧ ∀ v ∈ p, flat v = true)
 include hX hXn hfn hfnV hres hin hBs hargs
theorem law_calls {Post : Value → World → Prop} (hPost : ∀ w' : World, W.heap.size ≤ w'.heap.size → (∀ b, b < W.heap.size → w'.heap[b]? = W.heap[b]?) → w'.tape = W.tape → w'.os = W.os → w'.output = W.output → Post (.bool true) w')
    (hcalls : ∀ (H : Array Obj) (ts : List Value), W.heap.size ≤ H.size → (∀ b, Bs b → ∀ p t f, W.heap[b]? = some (.cells p t f) → ∃ p', H[b]? = some (.cells p' t f) ∧ RowOk K1.F (rid Bs) W.heap.size ts p' p) →
      ∀ t : Nat → Question → Nat, Calls Tryv.prog X args (({ W with heap := H } : World).taped t) fun | .returned v, w' => v = .bool true ∧ ∀ a, a < H.size → w'.heap[a]? = H[a]? | _, _ => False) :
    ∃ M last o w' t', runNT Try.prog (M + 1) (solo (G (Frame.enter Try.prog X args .normal) []) W) #[] = (.ended o w', t') ∧ runN Try.prog M (solo (G (Frame.enter Try.prog X args .normal) []) W) = .next last ∧ step Try.prog last = .ended o w' ∧ Conc.Good Try.prog Post last o w' t' := by
  refine law_runs hX hXn hfn hres hin hBs hargs hPost fun H ts hz hrow t _ => ?_
  obtain ⟨e, w', f, hR, hcomes, hff, hl⟩ := hcalls H ts hz hrow t [door Tryv.prog]
  cases e with
  | panicked chain => exact hR.elim
  | outgrown => exact hR.elim
  | returned v =>
    obtain ⟨rfl, hh⟩ := hR
    obtain ⟨n, hn⟩ := hcomes
    obtain ⟨hm, hd, hk, fn', hf', hr⟩ := hl
    rw [hff, hfnV] at hf'
    obtain rfl := Option.some.inj hf'
    have h1 := res_tmp (P := Tryv.prog) (T := f.tmps) hres w'
    rw [Sem.runT_eq] at h1
    have h2 : (results fn f.tmps).run Tryv.prog w' = .ok (f.tmps.getD r undef) w' := congrArg Prod.fst h1
    rw [hr] at h2
    simp only [Result.ok.injEq, and_true] at h2
    refine ⟨n, f, w', hn, rfl, hm, hff, ?_, hh⟩
    rw [Array.getD_eq_getD_getElem?] at h2
    cases h3 : f.tmps[r]? with
    | none => rw [h3] at h2; cases h2
    | some y => rw [h3] at h2; rw [h2]; rfl
end
end Go.Proofs.Ytcdhmnefmbcmaaa
