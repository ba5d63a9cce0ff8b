/-
  The worker's plan: a region that draws its order, a function's end, an append; slices.Clone; no condition but what each law names.
  Steps of a virtual run, one behind another; no condition but what each law names.
  The worker: slices.Clone of a piece; a round of Chunks' loop; no condition but what each law names.
  A round of the virtual Copy's loop, up to the call of Take; no condition but what each law names.
  The virtual Copy's beginning; no condition but what each law names.
-/
import Derived.Test.YtcdhmnefmbcmaaaJar
import Derived.Conc.AppendWalk
import Derived.Test.YtcdhmnefmbcmaaaJap
import Derived.Lib.Hide
namespace Go.Proofs.Ytcdhmnefmbcmaaa
open Go Go.Conc Go.RowKit

/-- all orders of a region -/
def ordsGo (m : Region.Mode) (ops : Array Oper) : Nat → Array Bool → List Nat → List (List Nat)
  | 0, _, acc => [acc.reverse]
  | f + 1, listed, acc =>
    let rs := (List.range ops.size).filter fun i => !listed.getD i true && ((ops[i]?).map (·.after.all fun e => !Region.binds m e || listed.getD e.on false)).getD false
    if rs.isEmpty then [acc.reverse] else rs.flatMap fun i => ordsGo m ops f (listed.setIfInBounds i true) (i :: acc)

theorem go_mem {m : Region.Mode} {ops : Array Oper} : ∀ (f t : Nat) (listed : Array Bool) (acc : List Nat), Region.linearise.go m ops f t listed acc ∈ ordsGo m ops f listed acc := by
  intro f
  induction f with
  | zero => intro t listed acc; simp [Region.linearise.go, ordsGo]
  | succ f ih =>
    intro t listed acc
    unfold Region.linearise.go ordsGo
    simp only
    generalize (List.range ops.size).filter (fun i => !listed.getD i true && ((ops[i]?).map (·.after.all fun e => !Region.binds m e || listed.getD e.on false)).getD false) = rs
    cases rs with
    | nil => simp
    | cons r rs =>
      simp only [List.isEmpty_cons, Bool.false_eq_true, if_false]
      have hlt : t % (r :: rs).length < (r :: rs).length := Nat.mod_lt _ (by simp)
      rw [List.getElem?_eq_getElem hlt]
      exact List.mem_flatMap.2 ⟨_, List.getElem_mem hlt, ih _ _ _⟩

/-- what comes behind is out of sight -/
theorem gen_tail {C : Cx} {ws : WS} {kk : Nat} {fn : FuncId} {T : Array Value} {x : Item} {k : List Item} {D : List Deferred} {ro : Option Nat} {cs : List Frame} {o : Own C.SR} (h : ∀ k', Go.RowKit.Hid (k' = k) → PW C ws kk (G (fr fn T (x :: k') D ro) cs) o) : PW C ws kk (G (fr fn T (x :: k) D ro) cs) o := h k rfl

/-- many ways to one goal -/
theorem share3 {q : Prop} (H : Nat → Nat → Nat → Prop) {p : Nat → Nat → Nat → Prop} (k : (∀ a b c, H a b c → p a b c) → q) (h : ∀ a b c, H a b c → p a b c) : q := k h
theorem share0 {q p : Prop} (k : p → q) (h : p) : q := k h

section
variable {C : Cx} {P : Program} (hP : C.P = P) {s : Bool} {kk : Nat} {R : RF C.SR} {Gb : Nat → Prop} {L : List (Nat × Obj)}
  {fn : FuncId} {T : Array Value} {k : List Item} {D : List Deferred} {ro : Option Nat} {cs : List Frame} {ops : Array Oper} {i : Nat} {rest : List Nat} {op : Oper} {o : Own C.SR}

theorem s_draw {mn : Bool} {id : Nat} {w : World} : stepG P mn (G (fr fn T (.code (.region id ops true) :: k) D ro) cs) w =
    .go (G (fr fn T (.inRegion ops (Region.schedule (P.follows .mixedOrders) ops ((Question.order fn id).cut (w.tape w.drawn (.order fn id)))) :: k) D ro) cs) { w with drawn := w.drawn + 1 } := rfl

theorem pw_draw {rid : Nat} (orders : List (List Nat)) (h1 : Region.departs ops = false) (h2 : ordsGo .any ops ops.size (Array.replicate ops.size false) [] = orders) (next : ∀ l ∈ orders, PW C (.work s) kk (G (fr fn T (.inRegion ops l :: k) D ro) cs) o) :
    PW C (.work s) kk (G (fr fn T (.code (.region rid ops true) :: k) D ro) cs) o := by
  refine .priv (fun w => G (fr fn T (.inRegion ops (Region.schedule (C.P.follows .mixedOrders) ops ((Question.order fn rid).cut (w.tape w.drawn (.order fn rid)))) :: k) D ro) cs) (fun _ => o) rfl (fun w hw => ⟨_, _, s_draw, ⟨?_, Nat.le_refl _, fun b => ⟨.inl, fun x => x.elim id fun y => ?_⟩, fun _ _ _ => rfl, ⟨rfl, rfl, rfl⟩, by simp⟩⟩) fun w _ => next _ ?_
  · exact o.st w _ hw (fun _ _ => rfl) (Nat.le_refl _) rfl rfl
  · have : w.heap.size ≤ b ∧ b < w.heap.size := y
    omega
  · rw [← h2]
    unfold Region.schedule
    rw [h1]
    simp only [Bool.not_false, Bool.or_true, if_true]
    exact go_mem _ _ _ _

theorem res_tmp {P : Program} {f : Func} {T : Array Value} {t : Tmp} (h : f.results = #[.tmp t]) (w : World) : (results f T).runT P w #[] = (.ok (T.getD t undef) w, #[]) := by
  rw [Sem.runT_eq]
  simp [results, h]
theorem res_none {P : Program} {f : Func} {T : Array Value} (h : f.results = #[]) (w : World) : (results f T).runT P w #[] = (.ok (.tuple #[]) w, #[]) := by
  rw [Sem.runT_eq]
  simp [results, h]
/-- a function returns -/
theorem s_leave {mn : Bool} {f : Func} {v : Value} {c : Frame} {w : World} (hf : P.funcs[fn]? = some f) (hr : (results f T).runT P w #[] = (.ok v w, #[])) :
    stepG P mn (G { fr fn T k [] none with mode := .returning } (c :: cs)) w = .go (G (c.finish v) cs) w #[] := by
  show unwind P mn { fr fn T k [] none with mode := .returning } (c :: cs) none w = _
  unfold unwind
  simp only [fr, hf, hr, doReturn, GStep.after, G]
  rfl
 include hP
theorem pw_leave {f : Func} {v : Value} {c : Frame} (hf : P.funcs[fn]? = some f) (hr : ∀ w, (results f T).runT P w #[] = (.ok v w, #[])) (next : PW C (.work s) kk (G (c.finish v) cs) o) : PW C (.work s) kk (G { fr fn T k [] none with mode := .returning } (c :: cs)) o :=
  pw_q hP (fun w => s_leave hf (hr w)) rfl next

/-- an operation that makes one block -/
theorem pw_new1 (v : Nat → Value) (ob : Obj) (ho : ops[i]? = some op) (hw : Region.wanted op (yielded ops T) = true) (hd : ro = none ∨ ∀ c, op.op ≠ .defer c) (hr : ∀ w, (ow R Gb L).I w → (execOp (ev T) op).run P w = .ok (.value (v w.heap.size)) (w.alloc ob)) (he : ∀ w, (ow R Gb L).I w → (execOp (ev T) op).events P w #[] = #[])
    (next : ∀ n, (∃ w, (ow R Gb L).I w ∧ w.heap.size = n) → PW C (.work s) kk (G (fr fn (put T op.dst (v n)) (.inRegion ops rest :: k) D ro) cs) (ow R Gb ((n, ob) :: L))) :
    PW C (.work s) kk (G (fr fn T (.inRegion ops (i :: rest) :: k) D ro) cs) (ow R Gb L) := by
  refine pw_news hP (fun _ => [ob]) (fun _ _ => rfl) (fun n => G (fr fn (put T op.dst (v n)) (.inRegion ops rest :: k) D ro) cs) (fun w hw' => ?_) rfl fun n hn => ?_
  · rw [s_val ho hw hd (hr w hw'), he w hw']
    have : w.alloc ob = { w with heap := w.heap ++ [ob].toArray } := by
      show ({ w with heap := w.heap.push ob } : World) = _
      congr 1
    rw [this]
    rfl
  · simpa using next n hn

/-- what an append may answer -/
def CapOk (n : Nat) (e : TypeId) (cap : Nat) : Prop := cap ≤ maxLen ∧ ∃ x, cap = (Question.appendCap n 0 e).cut x

/-- an append that makes a new row -/
theorem pw_app {t e : TypeId} {ie : TypeInfo} {z : Value} (si xi : Operand) (hop : op.op = .call { callee := .builtin .append, args := #[si, xi], argTypes := #[t, t] }) (ht : P.underlying t = some (.slice e)) (hi : P.info? e = some ie) (hz : ie.zero = some z) (hsz : ie.size = 1) (hby : ie.bytes = 1) (hzc : z.cells = #[.int .u8 0])
    {b0 : Nat} (hs : ev T si = .slice (some ⟨b0, 0, none⟩) 0 0) (hb0 : (b0, .cells #[] e) ∈ L) {a : Addr} {n c : Nat} (hx : ev T xi = .slice (some a) n c) {news : List Value} (hl : news.length = n) (hn : 0 < n) (hle : n ≤ 1073741824) (hones : ∀ u ∈ news, u.oneCell' = true)
    (hnews : ∀ w, R.R w → ∀ j v, news[j]? = some v → w.cell? (a.add j) = some v) (haS : C.SR a.block)
    (ho : ops[i]? = some op) (hw : Region.wanted op (yielded ops T) = true) (hd : ro = none)
    (next : ∀ m cap, n ≤ cap → CapOk n e cap → (∃ w, (ow R Gb L).I w ∧ w.heap.size = m) → PW C (.work s) kk (G (fr fn (put T op.dst (.slice (some ⟨m, 0, none⟩) n cap)) (.inRegion ops rest :: k) D ro) cs) (ow R Gb ((m, .cells (news.toArray ++ Array.replicate (cap - n) (.int .u8 0)) e) :: L))) :
    PW C (.work s) kk (G (fr fn T (.inRegion ops (i :: rest) :: k) D ro) cs) (ow R Gb L) := by
  subst hP
  subst hd
  have hrun : ∀ w, (ow R Gb L).I w → (execOp (ev T) op).run C.P w = .ok (.value (.slice (some ⟨w.heap.size, 0, none⟩) n (grownCap w n 0 e))) { w with heap := w.heap.push (.cells (news.toArray ++ Array.replicate (grownCap w n 0 e - n) (.int .u8 0)) e), drawn := w.drawn + 1 } := by
    intro w hw'
    have h1 := run_append_grow (P := C.P) w t op.type e ie z ht hi hz ⟨b0, 0, none⟩ 0 0 [] (by simp) (by simp) a n c news (by rw [hl, hsz, Nat.mul_one]) (hnews w hw'.2) (by omega) (by simp; omega) (by
      rw [hby]
      have : Builtin.nextslicecap (0 + n) 0 = n := by unfold Builtin.nextslicecap; simp; omega
      omega)
    unfold execOp
    simp only [hop, resolve, invoke, builtin, Sem.run_bind, Sem.run_pure, Result.andThen_ok, List.map_toArray, List.map_cons, List.map_nil, hs, hx, h1]
    have hzz : ∀ m, Builtin.zeroCells z.cells m = Array.replicate m (.int .u8 0) := by
      intro m
      unfold Builtin.zeroCells
      rw [hzc]
      apply Array.ext
      · simp
      · intro j h1 h2
        simp [Nat.mod_one]
    rw [hzz]
    simp only [Array.empty_append, Nat.zero_add]
    rfl
  have hcap : ∀ w : World, n ≤ grownCap w n 0 e ∧ grownCap w n 0 e ≤ maxLen := fun w => ⟨grownCap_ge w n 0 e, grownCap_le_maxLen w n 0 e (by simp only [maxLen]; omega)⟩
  refine .priv (fun w => G (fr fn (put T op.dst (.slice (some ⟨w.heap.size, 0, none⟩) n (grownCap w n 0 e))) (.inRegion ops rest :: k) D none) cs) (fun w => ow R Gb ((w.heap.size, .cells (news.toArray ++ Array.replicate (grownCap w n 0 e - n) (.int .u8 0)) e) :: L)) rfl (fun w hw' => ⟨_, _, s_val ho hw (.inl rfl) (hrun w hw'), ?_⟩) fun w hw' => next _ _ (hcap w).1 ⟨(hcap w).2, _, rfl⟩ ⟨w, hw', rfl⟩
  have hold : ∀ b, b < w.heap.size → (w.heap.push (.cells (news.toArray ++ Array.replicate (grownCap w n 0 e - n) (.int .u8 0)) e))[b]? = w.heap[b]? := fun b hb => by rw [Array.getElem?_push_lt hb, Array.getElem?_eq_getElem hb]
  refine ⟨⟨fun p hp => ?_, ?_⟩, by simp, fun b => ?_, fun b hb _ => hold b hb, ⟨rfl, rfl, rfl⟩, fun x hx' => ?_⟩
  · rcases List.mem_cons.1 hp with rfl | hp
    · simp
    · show (w.heap.push _)[p.1]? = _
      have h1 := hw'.1 p hp
      rw [hold _ (Array.getElem?_eq_some_iff.1 h1).1]
      exact h1
  · exact R.st w _ hw'.2 (fun b hb => hold b (R.lt w hw'.2 b hb)) (by simp)
  · simp only [ow, List.map_cons, List.mem_cons, Array.size_push]
    constructor
    · rintro (x | x | x)
      · exact .inl (.inl x)
      · exact .inr (by omega)
      · exact .inl (.inr x)
    · rintro ((x | x) | x)
      · exact .inl x
      · exact .inr (.inr x)
      · exact .inr (.inl (by omega))
  · have hx' := seen_sub hx'
    rw [show (execOp (ev T) op).events C.P w #[] = (Builtin.append_ #[t, t] op.type #[.slice (some ⟨b0, 0, none⟩) 0 0, .slice (some a) n c]).events C.P w #[] from events_append_op (a := ⟨T, []⟩) si xi t hop hs hx #[]] at hx'
    have hown : w.ownsRow 0 e 1 (.slice (some ⟨b0, 0, none⟩) 0 0) 0 [] := ⟨by simp, .inr ⟨b0, 0, #[], rfl, Nat.zero_le _, hw'.1 _ hb0, Nat.le_refl _, Nat.zero_le _, by simp, by simp⟩⟩
    rcases events_append_where (P := C.P) w 0 t op.type e ie z 1 1 ht hi hz hsz hby _ 0 [] hown a n c news (by rw [hl, Nat.mul_one]) (hnews w hw'.2) hones (by simp only [maxLen]; omega) (by omega) x hx' with ⟨ad, h1, h2⟩ | ⟨m, rfl, h2⟩
    · rw [h1]
      rcases h2 with ⟨h2, h3⟩ | h2
      · exact .inr ⟨by rw [h3]; exact haS, h2⟩
      · refine .inl (.inr ?_)
        simp only [Value.ownBlock, Option.some.injEq] at h2
        rw [h2]
        simp only [List.map_cons, List.mem_cons]
        exact .inr (List.mem_map_of_mem hb0)
    · unfold Neutral at h2
      subst h2
      trivial
end

end Go.Proofs.Ytcdhmnefmbcmaaa

namespace Go.Proofs.Ytcdhmnefmbcmaaa
open Go Go.Conc Go.RowKit
section
variable {V : Program} {Kp : Frame → List Frame → World → Prop}
/-- the run comes to a good state -/
def Vr (V : Program) (Kp : Frame → List Frame → World → Prop) (Good : VS → Prop) (s : VS) : Prop := ∃ s', Good s' ∧ (s' = s ∨ NxP V Kp s' s)
/-- .. by one step or more -/
def VrP (V : Program) (Kp : Frame → List Frame → World → Prop) (Good : VS → Prop) (s : VS) : Prop := ∃ s', Good s' ∧ NxP V Kp s' s
variable {Good : VS → Prop} {f f1 : Frame} {ts ts1 : List Frame} {v v1 : World} {es : Array Event}
theorem Vr.fin {s : VS} (h : Good s) : Vr V Kp Good s := ⟨s, h, .inl rfl⟩
theorem VrP.vr {s : VS} (h : VrP V Kp Good s) : Vr V Kp Good s := h.imp fun _ x => ⟨x.1, .inr x.2⟩
theorem vrp_step (hk : ¬ Kp f ts v) (t : Nat → Question → Nat) (ht : ∀ j, j < v.drawn → t j = v.tape j) (h : stepG V true (G f (ts ++ [door V])) (v.taped t) = .go (G f1 (ts1 ++ [door V])) v1 es) (next : Vr V Kp Good ⟨f1, ts1, v1⟩) : VrP V Kp Good ⟨f, ts, v⟩ := by
  have hn : Nx V Kp ⟨f1, ts1, v1⟩ ⟨f, ts, v⟩ := ⟨hk, t, ht, es, h⟩
  obtain ⟨s', hg, e | hp⟩ := next
  · subst e; exact ⟨_, hg, .one hn⟩
  · exact ⟨s', hg, .cons hn hp⟩
theorem vrp_at (hk : ¬ Kp f ts v) (h : stepG V true (G f (ts ++ [door V])) v = .go (G f1 (ts1 ++ [door V])) v1 es) (next : Vr V Kp Good ⟨f1, ts1, v1⟩) : VrP V Kp Good ⟨f, ts, v⟩ := vrp_step hk v.tape (fun _ _ => rfl) h next
theorem VrP.trans {Good' : VS → Prop} {s : VS} (h : VrP V Kp Good' s) (k : ∀ s', Good' s' → Vr V Kp Good s') : VrP V Kp Good s := by
  obtain ⟨s1, h1, h2⟩ := h
  obtain ⟨s2, g, e | h3⟩ := k s1 h1
  · subst e; exact ⟨_, g, h2⟩
  · exact ⟨s2, g, h3.trans h2⟩
end
section
variable {V : Program} {Kp : Frame → List Frame → World → Prop} (hKp : ∀ f ts v, Kp f ts v → ts = []) {Good : VS → Prop} {fn : FuncId} {T : Array Value} {k : List Item} {D : List Deferred} {cs : List Frame} {c0 : Frame} {v v1 : World}
  {ops : Array Oper} {i : Nat} {rest : List Nat} {op : Oper}
 include hKp
/-- a step of control -/
theorem vr_q {f1 : Frame} {f : Frame} (h : ∀ w, stepG V true (G f (c0 :: cs ++ [door V])) w = .go (G f1 (c0 :: cs ++ [door V])) w #[]) (next : Vr V Kp Good ⟨f1, c0 :: cs, v⟩) : Vr V Kp Good ⟨f, c0 :: cs, v⟩ :=
  (vrp_at (fun x => by cases hKp _ _ _ x) (h v) next).vr
/-- an operation that yields a value -/
theorem vr_v (x : Value) (ho : ops[i]? = some op) (hw : Region.wanted op (yielded ops T) = true) (hr : ∀ w, (execOp (ev T) op).run V w = .ok (.value x) w)
    (next : Vr V Kp Good ⟨fr fn (put T op.dst x) (.inRegion ops rest :: k) D none, c0 :: cs, v⟩) : Vr V Kp Good ⟨fr fn T (.inRegion ops (i :: rest) :: k) D none, c0 :: cs, v⟩ :=
  (vrp_at (fun x => by cases hKp _ _ _ x) (s_val ho hw (.inl rfl) (hr v)) next).vr
theorem vr_call {f : FuncId} {args : Array Value} (ho : ops[i]? = some op) (hw : Region.wanted op (yielded ops T) = true) (hr : ∀ w, (execOp (ev T) op).run V w = .ok (.enter f args) w)
    (next : Vr V Kp Good ⟨Frame.enter V f args .normal, fr fn T (.inRegion ops (i :: rest) :: k) D none :: c0 :: cs, v⟩) : Vr V Kp Good ⟨fr fn T (.inRegion ops (i :: rest) :: k) D none, c0 :: cs, v⟩ :=
  (vrp_at (fun x => by cases hKp _ _ _ x) (ts1 := fr fn T (.inRegion ops (i :: rest) :: k) D none :: c0 :: cs) (s_call ho hw (.inl rfl) (hr v)) next).vr
theorem vr_leave {f : Func} {x : Value} (hf : V.funcs[fn]? = some f) (hr : ∀ w, (results f T).runT V w #[] = (.ok x w, #[])) (next : Vr V Kp Good ⟨c0.finish x, cs, v⟩) : Vr V Kp Good ⟨{ fr fn T k [] none with mode := .returning }, c0 :: cs, v⟩ :=
  (vrp_at (fun x => by cases hKp _ _ _ x) (s_leave hf (hr v)) next).vr
end

end Go.Proofs.Ytcdhmnefmbcmaaa

namespace Go.Proofs.Ytcdhmnefmbcmaaa
open Go Go.Conc Go.RowKit

theorem enter_fr {P : Program} {f : FuncId} {fn : Func} {c : Code} {p : Array Value} (hf : P.funcs[f]? = some fn) (hb : fn.body = some c) : Frame.enter P f p .normal = fr f (p ++ Array.replicate (fn.ntmps - p.size) undef) [.code c] [] none := by
  unfold Frame.enter
  simp [hf, hb, fr]

theorem enter_frD {P : Program} {f : FuncId} {fn : Func} {c : Code} {p : Array Value} (hf : P.funcs[f]? = some fn) (hb : fn.body = some c) : Frame.enter P f p .deferred = fr f (p ++ Array.replicate (fn.ntmps - p.size) undef) [.code c] [] none true := by
  unfold Frame.enter
  simp [hf, hb, fr]
/-- bytes -/
def byt (l : List UInt8) : List Value := l.map fun b => .int .u8 b.toNat
theorem byt_one {l : List UInt8} : ∀ u ∈ byt l, u.oneCell' = true := by
  intro u hu
  obtain ⟨b, _, rfl⟩ := List.mem_map.1 hu
  rfl

theorem ow_perm {SR : Nat → Prop} {R : RF SR} {Gb : Nat → Prop} {L L' : List (Nat × Obj)} (h : ∀ p, p ∈ L ↔ p ∈ L') : ow R Gb L = ow R Gb L' := by
  have h1 : ∀ b, b ∈ L.map Prod.fst ↔ b ∈ L'.map Prod.fst := fun b => by
    simp only [List.mem_map, h]
  have e1 : (ow R Gb L).O = (ow R Gb L').O := funext fun b => propext (or_congr_right (h1 b))
  have e2 : (ow R Gb L).I = (ow R Gb L').I := funext fun w => propext (and_congr_left' (forall_congr' fun p => by rw [h]))
  generalize ow R Gb L = o at e1 e2
  generalize ow R Gb L' = o' at e1 e2
  obtain ⟨O, I, st⟩ := o
  obtain ⟨O', I', st'⟩ := o'
  simp only at e1 e2
  subst e1 e2
  rfl
theorem Lw_more {W : WB} {x : List (Nat × Obj)} {s1 s2 : LS} {q r : Nat × Obj} : ∀ p, p ∈ q :: r :: Lw W x s1 s2 ↔ p ∈ Lw W (q :: r :: x) s1 s2 := by
  intro p
  simp only [Lw, List.mem_cons, List.mem_append]
  constructor
  · rintro (h | h | h | h | h | h | h | h) <;> simp [h]
  · rintro (h | h | h | h | h | h | h | h) <;> simp [h]
/-- a call of yield -/
theorem t_yield {P : Program} {w : World} {l : Nat} {r : Loop} {t : Tmp} {v : Value} (hl : w.heap[l]? = some (.loop r)) (hp : r.params = #[t]) :
    (Instr.yield l #[v]).run P w = .ok (.round l r.fn (r.tmps.setIfInBounds t v) r.assign r.body) w ∧ (Instr.yield l #[v]).events P w #[] = #[⟨.obj l, false, false⟩] := by
  have e : (Instr.yield l #[v]).runT P w #[] = (.ok (.round l r.fn (r.tmps.setIfInBounds t v) r.assign r.body) w, #[⟨.obj l, false, false⟩]) := by
    unfold Instr.yield
    rw [t_getLoop hl, hp]
    have e1 : (#[v] : Array Value).size = (#[t] : Array Tmp).size := rfl
    simp only [e1, ne_eq, not_true_eq_false, if_false]
    have e2 : (#[t] : Array Tmp).zip #[v] = #[(t, v)] := by simp
    rw [e2]
    simp [pure]
  rw [Sem.runT_eq] at e
  exact ⟨(Prod.mk.inj e).1, (Prod.mk.inj e).2⟩
theorem exec_yield {T : Array Value} {op : Oper} {f x : Operand} {ats : Array TypeId} {l : Nat} {v : Value} (hop : op.op = .call { callee := .value f, args := #[x], argTypes := ats }) (hf : ev T f = .func (.yield l) #[] #[]) (hx : ev T x = v) : execOp (ev T) op = Instr.yield l #[v] := by
  unfold execOp
  simp only [hop, resolve, hf, List.map_toArray, List.map_cons, List.map_nil, hx]
  rfl
theorem no_ev {SR : Nat → Prop} {o : Own SR} {es : Array Event} (h : es = #[]) : ∀ e ∈ es, RdEv o e := by
  subst h
  intro e he
  simp at he
theorem exec_bi {T : Array Value} {op : Oper} {b : Builtin} {xs : Array Operand} {ats : Array TypeId} (hop : op.op = .call { callee := .builtin b, args := xs, argTypes := ats }) : execOp (ev T) op = builtin b ats op.type (xs.map fun | .const _ => true | _ => false) (xs.map (ev T)) := by
  unfold execOp
  simp only [hop, resolve, invoke]
  rfl
theorem bi_len {ty : TypeId} {fl : Array Bool} {a : Option Addr} {n c : Nat} {w : World} :
    (builtin .len #[22] ty fl #[.slice a n c]).run Try.prog w = .ok (.value (.int .i64 (n : Int))) w ∧ (builtin .len #[22] ty fl #[.slice a n c]).events Try.prog w #[] = #[] := ⟨rfl, rfl⟩
theorem bi_min {ty : TypeId} {fl : Array Bool} {a b : Nat} {w : World} :
    (builtin .min #[3, 3] ty fl #[.int .i64 (a : Int), .int .i64 (b : Int)]).run Try.prog w = .ok (.value (.int .i64 ((min a b : Nat) : Int))) w ∧ (builtin .min #[3, 3] ty fl #[.int .i64 (a : Int), .int .i64 (b : Int)]).events Try.prog w #[] = #[] := by
  constructor
  · have h : (if (b : Int) < (a : Int) then (b : Int) else (a : Int)) = ((min a b : Nat) : Int) := by split <;> omega
    have h2 : (builtin .min #[3, 3] ty fl #[.int .i64 (a : Int), .int .i64 (b : Int)]).run Try.prog w = .ok (.value (.int .i64 (if (b : Int) < (a : Int) then (b : Int) else (a : Int)))) w := by rfl
    rw [h2, h]
  · rfl
theorem exec_call {T : Array Value} {op : Oper} {f : FuncId} {xs : Array Operand} {ats : Array TypeId} {vs : Array Value} (hop : op.op = .call { callee := .value (.func f), args := xs, argTypes := ats }) (hx : xs.map (ev T) = vs) : execOp (ev T) op = callFunc f vs := by
  unfold execOp
  simp only [hop, resolve, hx]
  show callFunc f (#[] ++ vs ++ #[]) = _
  simp
theorem rP_copy1 : rP Try.f25 = #[7] := rfl
theorem rP_chunks1 : rP Try.f22 = #[8] := rfl
theorem ev_clone {p : Array Value} {w : World} : (callFunc 21 p).events Try.prog w #[] = #[] := by rfl

theorem ev_eqnil {a : Addr} {n c : Nat} {w : World} : (binOp .eql 22 (.slice (some a) n c) (.slice none 0 0)).events Try.prog w #[] = #[] := by rfl

section
variable {C : Cx} (hP : C.P = Try.prog) {k : Nat} {s : Bool} {R : RF C.SR} {Gb : Nat → Prop} {L : List (Nat × Obj)} {cs : List Frame}
 include hP

set_option maxRecDepth 10000 in
theorem w21 {a : Addr} {n c : Nat} {l : List UInt8} (hl : l.length = n) (hn : 0 < n) (hle : n ≤ 1073741824) (hnews : ∀ w, R.R w → ∀ j v, (byt l)[j]? = some v → w.cell? (a.add j) = some v) (haS : C.SR a.block) {c22 : Frame}
    (next : ∀ m0 m cap, n ≤ cap → CapOk n 5 cap → (∃ w, (ow R Gb L).I w ∧ w.heap.size = m0) → m0 < m → PW C (.work s) k (G (c22.finish (.slice (some ⟨m, 0, none⟩) n cap)) cs) (ow R Gb ((m, .cells ((byt l).toArray ++ Array.replicate (cap - n) (.int .u8 0)) 5) :: (m0, .cells #[] 5) :: L))) :
    PW C (.work s) k (G (Frame.enter Try.prog 21 #[.slice (some a) n c] .normal) (c22 :: cs)) (ow R Gb L) := by
  rw [enter_fr Try.func21 rfl]
  simp only [Try.f21, List.size_toArray, List.length_cons, List.length_nil, Nat.reduceAdd, Nat.reduceSub, Array.replicate_succ, Array.replicate_zero, List.push_toArray, List.append_toArray, List.nil_append, List.cons_append]
  refine pw_q hP (fun w => s_seq) rfl ?_
  refine pw_q hP (fun w => s_region) rfl ?_
  simp only [List.size_toArray, List.length_cons, List.length_nil, Nat.zero_add, List.range, List.range.loop]
  refine pw_vl hP (v := ?_) rfl rfl (by first | exact .inl rfl | exact .inr (fun c h => by cases h)) (fun w hw => ?_) (fun w hw => ?_) ?_
  rotate_left
  · unfold ev; go_simp; try exact rfl
  · unfold ev; simp [go_sem]
  simp only [put]; walk_nrm
  refine pw_q hP (fun w => s_region_end) rfl ?_
  refine pw_q hP (fun w => s_seq) rfl ?_
  refine pw_q hP (fun w => s_seq) rfl ?_
  refine pw_q hP (fun w => s_region) rfl ?_
  simp only [List.size_toArray, List.length_cons, List.length_nil, Nat.reduceAdd, Nat.zero_add, List.range, List.range.loop]
  refine pw_vl hP (v := ?_) rfl rfl (by first | exact .inl rfl | exact .inr (fun c h => by cases h)) (fun w hw => ?_) (fun w hw => ?_) ?_
  rotate_left
  · unfold ev; go_simp; try exact rfl
  · unfold ev; simp [go_sem]
  simp only [put]; walk_nrm
  refine pw_vl hP (v := ?_) rfl rfl (by first | exact .inl rfl | exact .inr (fun c h => by cases h)) (fun w hw => ?_) (fun w hw => ?_) ?_
  rotate_left
  · unfold ev; go_simp; try exact rfl
  · unfold ev; simp [go_sem, ev_eqnil]
  simp only [put]; walk_nrm
  refine pw_q hP (fun w => s_region_end) rfl ?_
  refine pw_q hP (fun w => s_cond (b := false) rfl) rfl ?_
  simp only [if_true, Bool.false_eq_true, ↓reduceIte]
  refine pw_q hP (fun w => s_skip) rfl ?_
  refine pw_q hP (fun w => s_seq) rfl ?_
  refine pw_q hP (fun w => s_region) rfl ?_
  simp only [List.size_toArray, List.length_cons, List.length_nil, Nat.reduceAdd, Nat.zero_add, List.range, List.range.loop]
  refine pw_new1 hP (fun m => .slice (some ⟨m, 0, none⟩) 0 0) (.cells #[] 5) rfl rfl (.inl rfl) (fun w hw => ?_) (fun w hw => ?_) fun m0 hm0 => ?_
  · unfold ev; simp [go_sem, execOp, Instr.buildSlice, newRow, Instr.fill]
  · unfold ev; simp [go_sem, execOp, Instr.buildSlice, newRow, Instr.fill]
  simp only [put]; walk_nrm
  refine pw_vl hP (v := ?_) rfl rfl (by first | exact .inl rfl | exact .inr (fun c h => by cases h)) (fun w hw => ?_) (fun w hw => ?_) ?_
  rotate_left
  · unfold ev; go_simp; try exact rfl
  · unfold ev; simp [go_sem]
  simp only [put]; walk_nrm
  refine pw_app hP (.tmp 5) (.tmp 6) rfl (t := 22) (e := 5) (z := .int .u8 0) Try.underlying22 rfl rfl rfl rfl rfl (b0 := m0) rfl (List.mem_cons_self ..) (a := a) (n := n) (c := c) rfl (news := byt l) (by simp [byt, hl]) hn hle byt_one hnews haS rfl rfl rfl fun m cap h1 h2 h3 => ?_
  simp only [put]; walk_nrm
  refine pw_vl hP (v := ?_) rfl rfl (by first | exact .inl rfl | exact .inr (fun c h => by cases h)) (fun w hw => ?_) (fun w hw => ?_) ?_
  rotate_left
  · unfold ev; go_simp; try exact rfl
  · unfold ev; simp [go_sem]
  simp only [put]; walk_nrm
  refine pw_q hP (fun w => s_region_end) rfl ?_
  refine pw_q hP (fun w => s_ret) rfl ?_
  refine pw_leave hP Try.func21 (fun w => res_tmp rfl w) ?_
  refine next m0 m cap h1 h2 hm0 ?_
  obtain ⟨w, hw, e⟩ := h3
  have := (Array.getElem?_eq_some_iff.1 (hw.1 (m0, .cells #[] 5) (List.mem_cons_self ..))).1
  omega
end
end Go.Proofs.Ytcdhmnefmbcmaaa

namespace Go.Proofs.Ytcdhmnefmbcmaaa
open Go Go.Conc Go.RowKit
/-- the virtual Copy's temporaries -/
def vbT (src to tup : Value) (s : ByteArray) (cnt e n : Int) (lo : Nat) (r9 r10 r11 r12 r13 r14 r15 r16 r17 r18 : Value) : Array Value :=
  #[src, to, tup, .string s, .int .i64 cnt, .int .i64 e, .int .i64 n, .int .i64 (s.size : Int), .int .i64 (lo : Int), r9, r10, r11, r12, r13, r14, r15, r16, r17, r18]
theorem run_slS {s : ByteArray} {i g : Nat} {w : World} (b1 : i ≤ g) (b2 : g ≤ s.size) : (Instr.sliceAt 9 (.string s) (some (.int .i64 (i : Int))) (some (.int .i64 (g : Int))) none).run Tryv.prog w = .ok (.string (s.extract i g)) w := by
  simp [Instr.sliceAt, Instr.slice, Instr.sliceBounds, Instr.sliceBound, asIntOf, b1, b2]
/-- bytes, as cells -/
def bcells (s : ByteArray) : List Value := s.data.toList.map fun b => .int .u8 b.toNat
section
variable {Kp : Frame → List Frame → World → Prop} (hKp : ∀ f ts v, Kp f ts v → ts = []) {Good : VS → Prop} {cs : List Frame} {c0 : Frame} {v : World}
  {src to tup : Value} {s : ByteArray} {cnt e n : Int} {lo : Nat} {r9 r10 r11 r12 r13 r14 r15 r16 r17 r18 : Value} {kt : List Item}
 include hKp
/-- the append: the tape may be turned so that the row is as great as it must be -/
theorem vr_app {fn : FuncId} {T : Array Value} {k : List Item} {ops : Array Oper} {i : Nat} {rest : List Nat} {op : Oper} (xi : Operand) (hop : op.op = .call { callee := .builtin .append, args := #[.const (.slice none 0 0), xi], argTypes := #[22, 9] })
    {p : ByteArray} (hx : ev T xi = .string p) (h0 : 0 < p.size) (h1 : p.size ≤ 1073741824) {cap : Nat} (hcap : CapOk p.size 5 cap) (ho : ops[i]? = some op) (hw : Region.wanted op (yielded ops T) = true)
    (next : ∀ t, Vr Tryv.prog Kp Good ⟨fr fn (put T op.dst (.slice (some ⟨v.heap.size, 0, none⟩) p.size cap)) (.inRegion ops rest :: k) [] none, c0 :: cs, { v with heap := v.heap.push (.cells ((bcells p).toArray ++ Array.replicate (cap - p.size) (.int .u8 0)) 5), drawn := v.drawn + 1, tape := t }⟩) :
    Vr Tryv.prog Kp Good ⟨fr fn T (.inRegion ops (i :: rest) :: k) [] none, c0 :: cs, v⟩ := by
  obtain ⟨_, x, hx'⟩ := hcap
  let t : Nat → Question → Nat := fun j q => if j = v.drawn then x else v.tape j q
  have hg : grownCap (v.taped t) p.size 0 5 = cap := by
    show (Question.appendCap p.size 0 5).cut (t v.drawn _) = cap
    simp only [t, if_true]
    exact hx'.symm
  have hi : ∃ ie, Tryv.prog.info? 5 = some ie ∧ ie.zero = some (.int .u8 0) ∧ ie.bytes = 1 := by
    have h : (Tryv.prog.info? 5).map (fun i => (i.zero, i.bytes)) = some (some (.int .u8 0), 1) := by kernel_rfl
    cases hq : Tryv.prog.info? 5 with
    | none => rw [hq] at h; cases h
    | some ie =>
      rw [hq] at h
      simp only [Option.map_some, Option.some.injEq, Prod.mk.injEq] at h
      exact ⟨ie, rfl, h.1, h.2⟩
  obtain ⟨ie, hi1, hi2, hi3⟩ := hi
  have hr := run_append_nil_string (P := Tryv.prog) (w := v.taped t) 22 9 op.type 5 ie (.int .u8 0) ((Tryv.und _).trans Try.underlying22) ((Tryv.und _).trans Try.underlying9) hi1 hi2 p h0 (by omega) (by rw [hi3]; omega)
  rw [hg] at hr
  have hzz : ∀ m, Builtin.zeroCells (Value.int .u8 0).cells m = Array.replicate m (.int .u8 0) := by
    intro m
    unfold Builtin.zeroCells
    apply Array.ext
    · simp [Value.cells]
    · intro j h1 h2
      simp [Value.cells, Nat.mod_one]
  rw [hzz] at hr
  have hd : p.data.map (fun b => Value.int .u8 b.toNat) = (bcells p).toArray := by
    unfold bcells
    rw [← Array.toList_map, Array.toArray_toList]
  rw [hd] at hr
  have hrun : (execOp (ev T) op).run Tryv.prog (v.taped t) = .ok (.value (.slice (some ⟨v.heap.size, 0, none⟩) p.size cap)) { v with heap := v.heap.push (.cells ((bcells p).toArray ++ Array.replicate (cap - p.size) (.int .u8 0)) 5), drawn := v.drawn + 1, tape := t } := by
    rw [exec_bi hop]
    simp only [List.map_toArray, List.map_cons, List.map_nil]
    rw [show ev T (.const (.slice none 0 0)) = .slice none 0 0 from rfl, hx]
    simp only [builtin, Sem.run_bind, hr, Result.andThen_ok, Sem.run_pure]
    rfl
  refine (vrp_step (fun x => by cases hKp _ _ _ x) t (fun j hj => ?_) (s_val ho hw (.inl rfl) hrun) (next t)).vr
  have : ¬ j = v.drawn := by omega
  funext q
  simp only [t, this, if_false]
set_option maxRecDepth 10000 in
theorem vb_a (hlt : lo < s.size) (hs : s.size ≤ 1073741824) (hn : 1 ≤ n) {d : Nat} (hd : (d : Int) = min n ((s.size : Int) - lo)) {cap : Nat} (hcap : CapOk d 5 cap)
    (next : ∀ t, Vr Tryv.prog Kp Good ⟨fr 19 (vbT src to tup s cnt e n lo (.bool true) (.int .i64 ((s.size : Int) - lo)) (.int .i64 d) (.int .i64 ((lo : Int) + (d : Int))) (.string (s.extract lo (lo + d))) (.slice (some ⟨v.heap.size, 0, none⟩) d cap) r15 r16 r17 r18) (.inRegion vopsT [0] :: .code vaft :: kt) [] none, c0 :: cs,
      { v with heap := v.heap.push (.cells ((bcells (s.extract lo (lo + d))).toArray ++ Array.replicate (cap - d) (.int .u8 0)) 5), drawn := v.drawn + 1, tape := t }⟩) :
    Vr Tryv.prog Kp Good ⟨fr 19 (vbT src to tup s cnt e n lo r9 r10 r11 r12 r13 r14 r15 r16 r17 r18) (.code Tryv.loop :: kt) [] none, c0 :: cs, v⟩ := by
  have Next := Lib.hid next
  clear next
  unfold vbT at Next ⊢
  have hw1 : IntKind.i64.wrap ((s.size : Int) - (lo : Int)) = (s.size : Int) - lo := by rw [IntKind.wrap_i64]; omega
  have hd1 : 1 ≤ d := by omega
  have hd2 : lo + d ≤ s.size := by omega
  have hw2 : IntKind.i64.wrap ((lo : Int) + (d : Int)) = (lo : Int) + (d : Int) := by rw [IntKind.wrap_i64]; omega
  have hps : (s.extract lo (lo + d)).size = d := by rw [ByteArray.size_extract]; omega
  have hsl : ∀ w, (Instr.sliceAt 9 (.string s) (some (.int .i64 (lo : Int))) (some (.int .i64 ((lo : Int) + (d : Int)))) none).run Tryv.prog w = .ok (.string (s.extract lo (lo + d))) w := fun w => by
    have := run_slS (s := s) (i := lo) (g := lo + d) (w := w) (by omega) hd2
    rwa [show ((lo + d : Nat) : Int) = (lo : Int) + (d : Int) by omega] at this
  have hif : (if (s.size : Int) - (lo : Int) < n then (s.size : Int) - (lo : Int) else n) = (d : Int) := by split <;> omega
  clear hd hn
  refine vr_q hKp (fun w => s_seq) ?_
  refine vr_q hKp (fun w => s_region) ?_
  simp only [List.size_toArray, List.length_cons, List.length_nil, Nat.zero_add, List.range, List.range.loop]
  refine vr_v hKp ?_ rfl rfl (fun w => ?_) ?_
  rotate_left
  · unfold ev; go_simp; try exact rfl
  simp only [put]; walk_nrm
  refine vr_q hKp (fun w => s_region_end) ?_
  refine vr_q hKp (fun w => s_seq) ?_
  refine vr_q hKp (fun w => s_cond (b := true) rfl) ?_
  simp only [if_false, Bool.false_eq_true, ↓reduceIte]
  refine vr_q hKp (fun w => s_skip) ?_
  refine vr_q hKp (fun w => s_seq) ?_
  refine vr_q hKp (fun w => s_region) ?_
  simp only [List.size_toArray, List.length_cons, List.length_nil, Nat.reduceAdd, Nat.zero_add, List.range, List.range.loop]
  refine vr_v hKp ?_ rfl rfl (fun w => ?_) ?_
  rotate_left
  · unfold ev; go_simp; try exact rfl
  simp only [put]; walk_nrm
  refine vr_v hKp ?_ rfl rfl (fun w => ?_) ?_
  rotate_left
  · unfold ev; go_simp; try exact rfl
  simp only [put]; walk_nrm
  refine vr_v hKp ?_ rfl rfl (fun w => ?_) ?_
  rotate_left
  · unfold ev; go_simp; try exact rfl
  simp only [put]; walk_nrm
  refine vr_v hKp ?_ rfl rfl (fun w => ?_) ?_
  rotate_left
  · unfold ev; go_simp; try exact rfl
  simp only [put]; walk_nrm
  rw [← hps] at hcap
  refine vr_app hKp (op := _) (.tmp 13) rfl (p := s.extract lo (lo + d)) rfl (by omega) (by omega) hcap rfl rfl fun t => ?_
  simp only [put]; walk_nrm
  rw [hps]
  refine vr_q hKp (fun w => s_region_end) ?_
  refine vr_q hKp (fun w => s_seq) ?_
  refine vr_q hKp (fun w => s_region) ?_
  simp only [List.size_toArray, List.length_cons, List.length_nil, Nat.zero_add, List.range, List.range.loop]
  rw [hif]
  exact Next.out t

 omit hKp in
theorem res_two {P : Program} {f : Func} {T : Array Value} {a b : Tmp} (h : f.results = #[.tmp a, .tmp b]) (w : World) : (results f T).runT P w #[] = (.ok (.tuple #[T.getD a undef, T.getD b undef]) w, #[]) := by
  rw [Sem.runT_eq]
  simp [results, h]
/-- the loop is over -/
theorem vb_out {T : Array Value} (next : Vr Tryv.prog Kp Good ⟨c0.finish (.tuple #[T.getD 4 undef, T.getD 5 undef]), cs, v⟩) : Vr Tryv.prog Kp Good ⟨fr 19 T [.code .ret] [] none, c0 :: cs, v⟩ := by
  refine vr_q hKp (fun w => s_ret) ?_
  exact (vrp_at (fun x => by cases hKp _ _ _ x) (s_leave (mn := true) Tryv.func19 (res_two rfl v)) next).vr
set_option maxRecDepth 10000 in
/-- nothing is left -/
theorem vb_0 (hlt : s.size ≤ lo) (next : Vr Tryv.prog Kp Good ⟨c0.finish (.tuple #[.int .i64 cnt, .int .i64 e]), cs, v⟩) :
    Vr Tryv.prog Kp Good ⟨fr 19 (vbT src to tup s cnt e n lo r9 r10 r11 r12 r13 r14 r15 r16 r17 r18) [.code Tryv.loop, .inLoop Tryv.loop, .inBlock 0, .code .ret] [] none, c0 :: cs, v⟩ := by
  have Next := Lib.hid next
  clear next
  unfold vbT
  have hd0 : decide (lo < s.size) = false := by simp; omega
  have hlt' : ¬ lo < s.size := by omega
  refine vr_q hKp (fun w => s_seq) ?_
  refine vr_q hKp (fun w => s_region) ?_
  simp only [List.size_toArray, List.length_cons, List.length_nil, Nat.zero_add, List.range, List.range.loop]
  refine vr_v hKp ?_ rfl rfl (fun w => ?_) ?_
  rotate_left
  · unfold ev; go_simp; try exact rfl
  simp only [put]; walk_nrm
  refine vr_q hKp (fun w => s_region_end) ?_
  refine vr_q hKp (fun w => s_seq) ?_
  refine vr_q hKp (fun w => s_cond (b := false) rfl) ?_
  simp only [if_true, Bool.false_eq_true, ↓reduceIte]
  refine vr_q hKp (fun w => s_exit rfl) ?_
  exact vb_out hKp Next.out
/-- behind the call of Take: an error ends the loop -/
theorem vb_err (he : e ≠ 0) {e0 : Int} (next : Vr Tryv.prog Kp Good ⟨c0.finish (.tuple #[.int .i64 cnt, .int .i64 e]), cs, v⟩) :
    Vr Tryv.prog Kp Good ⟨(fr 19 (vbT src to tup s cnt e0 n lo r9 r10 r11 r12 r13 r14 r15 r16 r17 r18) [.inRegion vopsT [0], .code vaft, .inLoop Tryv.loop, .inBlock 0, .code .ret] [] none).finish (.int .i64 e), c0 :: cs, v⟩ := by
  have Next := Lib.hid next
  clear next
  unfold vbT
  rw [fr_finish (o := _) rfl]
  simp only [put]; walk_nrm
  have hne : (e != 0) = true := by simpa using he
  refine vr_q hKp (fun w => s_region_end) ?_
  refine vr_q hKp (fun w => s_seq) ?_
  refine vr_q hKp (fun w => s_region) ?_
  simp only [List.size_toArray, List.length_cons, List.length_nil, Nat.reduceAdd, Nat.zero_add, List.range, List.range.loop]
  refine vr_v hKp ?_ rfl rfl (fun w => ?_) ?_
  rotate_left
  · unfold ev; go_simp; try exact rfl
  simp only [put]; walk_nrm
  refine vr_v hKp ?_ rfl rfl (fun w => ?_) ?_
  rotate_left
  · unfold ev; go_simp; try exact rfl
  simp only [put]; walk_nrm
  refine vr_v hKp ?_ rfl rfl (fun w => ?_) ?_
  rotate_left
  · unfold ev; go_simp; try exact rfl
  simp only [put]; walk_nrm
  refine vr_q hKp (fun w => s_region_end) ?_
  refine vr_q hKp (fun w => s_seq) ?_
  refine vr_q hKp (fun w => s_cond (b := true) rfl) ?_
  simp only [if_true, if_false, ↓reduceIte]
  refine vr_q hKp (fun w => s_exit rfl) ?_
  exact vb_out hKp Next.out
/-- .. no error: it goes on -/
theorem vb_ok {e0 c2 : Int} {d : Nat} (hc2 : IntKind.i64.wrap (cnt + 1) = c2) (next : Vr Tryv.prog Kp Good ⟨fr 19 (vbT src to tup s c2 0 n (lo + d) r9 r10 r11 (.int .i64 ((lo : Int) + (d : Int))) r13 r14 (.int .i64 0) (.int .i64 0) (.bool false) (.int .i64 c2)) [.code Tryv.loop, .inLoop Tryv.loop, .inBlock 0, .code .ret] [] none, c0 :: cs, v⟩) :
    Vr Tryv.prog Kp Good ⟨(fr 19 (vbT src to tup s cnt e0 n lo r9 r10 r11 (.int .i64 ((lo : Int) + (d : Int))) r13 r14 r15 r16 r17 r18) [.inRegion vopsT [0], .code vaft, .inLoop Tryv.loop, .inBlock 0, .code .ret] [] none).finish (.int .i64 0), c0 :: cs, v⟩ := by
  have Next := Lib.hid next
  clear next
  unfold vbT at Next ⊢
  rw [fr_finish (o := _) rfl]
  simp only [put]; walk_nrm
  have hw0 : IntKind.i64.wrap 0 = 0 := by decide
  refine vr_q hKp (fun w => s_region_end) ?_
  refine vr_q hKp (fun w => s_seq) ?_
  refine vr_q hKp (fun w => s_region) ?_
  simp only [List.size_toArray, List.length_cons, List.length_nil, Nat.reduceAdd, Nat.zero_add, List.range, List.range.loop]
  refine vr_v hKp ?_ rfl rfl (fun w => ?_) ?_
  rotate_left
  · unfold ev; go_simp; try exact rfl
  simp only [put]; walk_nrm
  refine vr_v hKp ?_ rfl rfl (fun w => ?_) ?_
  rotate_left
  · unfold ev; go_simp; try exact rfl
  simp only [put]; walk_nrm
  refine vr_v hKp ?_ rfl rfl (fun w => ?_) ?_
  rotate_left
  · unfold ev; go_simp; try exact rfl
  simp only [put]; walk_nrm
  refine vr_q hKp (fun w => s_region_end) ?_
  refine vr_q hKp (fun w => s_seq) ?_
  refine vr_q hKp (fun w => s_cond (b := false) rfl) ?_
  simp only [if_true, Bool.false_eq_true, ↓reduceIte]
  refine vr_q hKp (fun w => s_skip) ?_
  refine vr_q hKp (fun w => s_region) ?_
  simp only [List.size_toArray, List.length_cons, List.length_nil, Nat.reduceAdd, Nat.zero_add, List.range, List.range.loop]
  refine vr_v hKp ?_ rfl rfl (fun w => ?_) ?_
  rotate_left
  · unfold ev; go_simp; try exact rfl
  simp only [put]; walk_nrm
  refine vr_v hKp ?_ rfl rfl (fun w => ?_) ?_
  rotate_left
  · unfold ev; go_simp; try exact rfl
  simp only [put]; walk_nrm
  refine vr_v hKp ?_ rfl rfl (fun w => ?_) ?_
  rotate_left
  · unfold ev; go_simp; try exact rfl
  simp only [put]; walk_nrm
  refine vr_q hKp (fun w => s_region_end) ?_
  refine vr_q hKp (fun w => s_inLoop) ?_
  have hc : ((lo + d : Nat) : Int) = (lo : Int) + (d : Int) := by omega
  rw [← hc]
  rw [← hc] at Next
  exact Next.out
end
end Go.Proofs.Ytcdhmnefmbcmaaa

namespace Go.Proofs.Ytcdhmnefmbcmaaa
open Go Go.Conc Go.RowKit
theorem exec_callV {T : Array Value} {op : Oper} {f : Operand} {xs : Array Operand} {ats : Array TypeId} {g : FuncId} {q vs : Array Value} (hop : op.op = .call { callee := .value f, args := xs, argTypes := ats }) (hf : ev T f = .func (.func g) #[] q) (hx : xs.map (ev T) = vs) : execOp (ev T) op = callFunc g (vs ++ q) := by
  unfold execOp
  simp only [hop, resolve, Deferred.ofValue, hf, hx]
  show invoke (.fn (.func g) q) (#[] ++ vs) = _
  simp [invoke]
theorem callV {w : World} {p : Array Value} : (callFunc 22 p).run Tryv.prog w = .ok (.enter 22 p) w := by
  unfold callFunc
  simp only [Sem.run_bind]
  have : (program).run Tryv.prog w = .ok Tryv.prog w := rfl
  rw [this]
  simp only [Result.andThen_ok, Tryv.func22]
  rfl
section
variable {Kp : Frame → List Frame → World → Prop} (hKp : ∀ f ts v, Kp f ts v → ts = []) {Good : VS → Prop} {cs : List Frame} {c0 : Frame} {v : World}
  {to : Value} {s : ByteArray} {n : Int}
 include hKp
set_option maxRecDepth 10000 in
theorem vb_pre (next : Vr Tryv.prog Kp Good ⟨fr 19 (vbT (seqV 22 s n) to (.tuple #[.string s, .int .i64 n]) s 0 0 n 0 undef undef undef undef undef undef undef undef undef undef) [.code Tryv.loop, .inLoop Tryv.loop, .inBlock 0, .code .ret] [] none, c0 :: cs, v⟩) :
    VrP Tryv.prog Kp Good ⟨Frame.enter Tryv.prog 19 #[seqV 22 s n, to] .normal, c0 :: cs, v⟩ := by
  have Next := Lib.hid next
  clear next
  unfold vbT at Next
  rw [enter_fr Tryv.func19 rfl]
  simp only [Tryv.f19, List.size_toArray, List.length_cons, List.length_nil, Nat.reduceAdd, Nat.reduceSub, Array.replicate_succ, Array.replicate_zero, List.push_toArray, List.append_toArray, List.nil_append, List.cons_append]
  refine vrp_at (fun x => by cases hKp _ _ _ x) s_seq ?_
  refine vr_q hKp (fun w => s_region) ?_
  simp only [List.size_toArray, List.length_cons, List.length_nil, Nat.reduceAdd, Nat.zero_add, List.range, List.range.loop]
  refine vr_call hKp (f := 22) (args := #[.int .i64 0, .int .i64 0, .int .i64 0, .int .i64 0, .int .i64 0, .string s, .int .i64 n]) rfl rfl (fun w => ?_) ?_
  · rw [exec_callV (op := _) (f := .tmp 0) (g := 22) (q := #[.string s, .int .i64 n]) (vs := #[.int .i64 0, .int .i64 0, .int .i64 0, .int .i64 0, .int .i64 0]) rfl rfl (by simp only [List.map_toArray, List.map_cons, List.map_nil]; rfl), callV]
    rfl
  rw [enter_fr Tryv.func22 rfl]
  simp only [Tryv.f22, List.size_toArray, List.length_cons, List.length_nil, Nat.reduceAdd, Nat.reduceSub, Array.replicate_succ, Array.replicate_zero, List.push_toArray, List.append_toArray, List.nil_append, List.cons_append]
  refine vr_q hKp (fun w => s_seq) ?_
  refine vr_q hKp (fun w => s_region) ?_
  simp only [List.size_toArray, List.length_cons, List.length_nil, Nat.reduceAdd, Nat.zero_add, List.range, List.range.loop]
  refine vr_v hKp ?_ rfl rfl (fun w => ?_) ?_
  rotate_left
  · unfold ev; go_simp; try exact rfl
  simp only [put]; walk_nrm
  refine vr_q hKp (fun w => s_region_end) ?_
  refine vr_q hKp (fun w => s_ret) ?_
  refine vr_leave hKp Tryv.func22 (fun w => res_two rfl w) ?_
  rw [fr_finish (o := _) rfl]
  simp only [put]; walk_nrm
  refine vr_v hKp ?_ rfl rfl (fun w => ?_) ?_
  rotate_left
  · unfold ev; go_simp; try exact rfl
  simp only [put]; walk_nrm
  refine vr_v hKp ?_ rfl rfl (fun w => ?_) ?_
  rotate_left
  · unfold ev; go_simp; try exact rfl
  simp only [put]; walk_nrm
  refine vr_v hKp ?_ rfl rfl (fun w => ?_) ?_
  rotate_left
  · unfold ev; go_simp; try exact rfl
  simp only [put]; walk_nrm
  refine vr_v hKp ?_ rfl rfl (fun w => ?_) ?_
  rotate_left
  · unfold ev; go_simp; try exact rfl
  simp only [put]; walk_nrm
  refine vr_v hKp ?_ rfl rfl (fun w => ?_) ?_
  rotate_left
  · unfold ev; go_simp; try exact rfl
  simp only [put]; walk_nrm
  refine vr_v hKp ?_ rfl rfl (fun w => ?_) ?_
  rotate_left
  · unfold ev; go_simp; try exact rfl
  simp only [put]; walk_nrm
  refine vr_q hKp (fun w => s_region_end) ?_
  refine vr_q hKp (fun w => s_seq) ?_
  refine vr_q hKp (fun w => s_block) ?_
  refine vr_q hKp (fun w => s_loop) ?_
  exact Next.out
end
end Go.Proofs.Ytcdhmnefmbcmaaa
