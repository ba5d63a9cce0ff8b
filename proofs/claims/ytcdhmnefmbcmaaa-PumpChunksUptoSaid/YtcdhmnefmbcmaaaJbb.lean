/-
  Copy beside goroutines that only leave: from its call to its return; no condition but what each law names.
  What a virtual run that turns bytes into a string says of the true memory; no condition but what each law names.
  The virtual Chunks, out of its game: what its bytes and its size are; no condition but what each law names.
-/
import Derived.Test.YtcdhmnefmbcmaaaJba
import Derived.Laws.BytesArg
import Derived.Lib.ByteType
namespace Go.Proofs.Ytcdhmnefmbcmaaa
open Go Go.Conc Go.RowKit Go.Conc.Lib Go.ConcX Go.ConcX.Gen

section
variable {SR : Nat → Prop} {J : Goroutine → Own SR → Prop} (hJ : Pln Try.prog true J) {o : Own SR} {cs : List Frame} {c0 : Frame} {cnt e : Int} {d0 d1 d2 d3 d6 d7 d8 d9 d10 d11 d12 d13 d14 d15 d16 d17 d18 d19 d20 d21 d22 d23 d24 d25 d26 d27 d28 : Value}
 include hJ
set_option maxRecDepth 10000 in
theorem p19_out (next : J (G (c0.finish (.tuple #[.int .i64 cnt, .int .i64 e])) cs) o) :
    J (G (fr 19 #[d0, d1, d2, d3, .int .i64 cnt, .int .i64 e, d6, d7, d8, d9, d10, d11, d12, d13, d14, d15, d16, d17, d18, d19, d20, d21, d22, d23, d24, d25, d26, d27, d28] [.inRegion ops12 [], .code rest13] [] none) (c0 :: cs)) o := by
  have Next := Lib.hid next
  clear next
  have el : rest13 = rest13 := rfl
  conv at el => lhs; simp only [rest13, rest19, bodyOf, Try.f19, Option.getD_some]
  rw [← el]
  clear el
  refine pj_q hJ (fun w => s_region_end) rfl ?_
  refine pj_q hJ (fun w => s_seq) rfl ?_
  refine pj_q hJ (fun w => s_region) rfl ?_
  simp only [List.size_toArray, List.length_cons, List.length_nil, Nat.reduceAdd, Nat.zero_add, List.range, List.range.loop]
  refine pj_vl hJ (v := ?_) rfl rfl (by first | exact .inl rfl | exact .inr (fun c h => by cases h)) (fun w hw => ?_) (fun w hw => ?_) ?_
  rotate_left
  · unfold ev; go_simp; try exact rfl
  · unfold ev; simp [go_sem]
  simp only [put]; walk_nrm
  refine pj_vl hJ (v := ?_) rfl rfl (by first | exact .inl rfl | exact .inr (fun c h => by cases h)) (fun w hw => ?_) (fun w hw => ?_) ?_
  rotate_left
  · unfold ev; go_simp; try exact rfl
  · unfold ev; simp [go_sem]
  simp only [put]; walk_nrm
  refine pj_vl hJ (v := ?_) rfl rfl (by first | exact .inl rfl | exact .inr (fun c h => by cases h)) (fun w hw => ?_) (fun w hw => ?_) ?_
  rotate_left
  · unfold ev; go_simp; try exact rfl
  · unfold ev; simp [go_sem]
  simp only [put]; walk_nrm
  refine pj_vl hJ (v := ?_) rfl rfl (by first | exact .inl rfl | exact .inr (fun c h => by cases h)) (fun w hw => ?_) (fun w hw => ?_) ?_
  rotate_left
  · unfold ev; go_simp; try exact rfl
  · unfold ev; simp [go_sem]
  simp only [put]; walk_nrm
  refine pj_q hJ (fun w => s_region_end) rfl ?_
  refine pj_q hJ (fun w => s_ret) rfl ?_
  exact pj_leave (v := .tuple #[.int .i64 cnt, .int .i64 e]) hJ Try.func19 (fun w => (by rw [res_two (f := Try.f19) (a := 4) (b := 5) rfl w]; rfl)) Next.out
end

/-- a walk that leaves the world alone: whatever is asked of the world, and of it -/
theorem goes_still {P : Program} {g' : Goroutine} {w0 : World} : ∀ {n : Nat} {g : Goroutine} {w : World}, AtRel w0 w → Goes P true (fun _ _ => True) DC0 (fun x _ => x = g') n g w → Goes P true AtRel DC0 (fun x w1 => x = g' ∧ AtRel w0 w1) n g w := by
  intro n
  induction n with
  | zero => exact fun hw h w1 h1 => ⟨h w1 trivial, atRel_trans _ _ _ hw h1⟩
  | succ n ih =>
    intro g w hw h
    rcases h with h | ⟨hr, h⟩
    · exact .inl fun w1 h1 => ⟨h w1 trivial, atRel_trans _ _ _ hw h1⟩
    · refine .inr ⟨hr, fun w1 h1 => ?_⟩
      have h2 := h w1 trivial
      cases hs : stepG P true g w1 with
      | go g2 w2 es =>
        rw [hs] at h2
        obtain ⟨⟨rfl, rfl⟩, h3⟩ := h2
        exact ⟨⟨rfl, rfl⟩, ih (atRel_trans _ _ _ hw h1) h3⟩
      | _ => rw [hs] at h2; exact h2.elim

theorem RelW.kept {F : Fs} {N : Nat} {ρ : Rn} {v w w1 : World} (h : RelW F N ρ v w) (hr : ∀ b, b < w.heap.size → w1.heap[b]? = w.heap[b]?) (hz : w.heap.size ≤ w1.heap.size) (ho : w1.os = w.os) : RelW F N ρ v w1 :=
  ⟨h.ok, fun a b hab => by
    obtain ⟨o, o', h1, h2, h3⟩ := h.obj a b hab
    exact ⟨o, o', h1, by rw [hr b (h.dom hab).2]; exact h2, h3⟩, h.tok, h.nv, Nat.le_trans h.nw hz, ho.trans h.os, fun s n a b hq => by
    obtain ⟨B, hB, hc⟩ := h.seq s n a b hq
    exact ⟨B, hB.keep2 fun c hcB => hr c (hB.lt c hcB), hc⟩⟩
theorem SlOk.kept {Z : Nat → Prop} {ρ : Rn} {w w1 : World} (h : SlOk Z ρ w) (hr : ∀ b, b < w.heap.size → w1.heap[b]? = w.heap[b]?) : SlOk Z ρ w1 := fun s n a b hq => by
  obtain ⟨B, hB, hc⟩ := h s n a b hq
  exact ⟨B, hB.keep2 fun c hcB => hr c (hB.lt c hcB), hc⟩

/-- how goroutine 0's memory lies beside what a stretch of its leaves -/
structure Dv (Z : Nat → Prop) (ρ : Rn) (w : World) (Z' : Nat → Prop) (ρ1 : Rn) (v1 w' : World) : Prop where
  le : ρ.le ρ1
  rel : RelW K1.F 0 ρ1 v1 w'
  apart : Apart Z' ρ1 w'
  sl : SlOk Z' ρ1 w'
  zle : ∀ b, Z b → Z' b
  znew : ∀ b, Z' b → Z b ∨ w.heap.size ≤ b
  low : ∀ a b, ρ1.r a b → b < w.heap.size → ∃ a', ρ.r a' b
  sz : w.heap.size ≤ w'.heap.size
  keep : ∀ b, b < w.heap.size → (∀ a, ¬ ρ.r a b) → w'.heap[b]? = w.heap[b]?
  same : w'.tape = w.tape ∧ w'.os = w.os ∧ w'.output = w.output
theorem Dv.trans {Z Z' Z'' : Nat → Prop} {ρ ρ1 ρ2 : Rn} {v1 v2 w w1 w2 : World} (h : Dv Z ρ w Z' ρ1 v1 w1) (k : Dv Z' ρ1 w1 Z'' ρ2 v2 w2) : Dv Z ρ w Z'' ρ2 v2 w2 where
  le := h.le.trans k.le
  rel := k.rel
  apart := k.apart
  sl := k.sl
  zle := fun b hb => k.zle b (h.zle b hb)
  znew := fun b hb => by
    rcases k.znew b hb with x | x
    · exact h.znew b x
    · exact .inr (Nat.le_trans h.sz x)
  low := fun a b hab hb => by
    obtain ⟨a', h1⟩ := k.low a b hab (Nat.lt_of_lt_of_le hb h.sz)
    exact h.low a' b h1 hb
  sz := Nat.le_trans h.sz k.sz
  keep := fun b hb hn => (k.keep b (Nat.lt_of_lt_of_le hb h.sz) fun a hab => by
    obtain ⟨a', h1⟩ := h.low a b hab hb
    exact hn a' h1).trans (h.keep b hb hn)
  same := ⟨k.same.1.trans h.same.1, k.same.2.1.trans h.same.2.1, k.same.2.2.trans h.same.2.2⟩

/-- nothing is asked of what nobody writes -/
def rfT : RF (fun _ : Nat => False) where
  R := fun _ => True
  st := fun _ _ _ _ _ => trivial
  lt := fun _ _ _ h => h.elim

section
variable {Z : Nat → Prop} {gs : Array Goroutine} {t : Trace} {q : Nat → Nat} {sl : Option (Nat × Nat)} {w v : World} {ρ : Rn} {to to' : Value} {s : ByteArray} {n : Int} {p1 p2 : Nat} {Kp : Frame → List Frame → World → Prop} {c0 c0' : Frame} {cs cs0 : List Frame}
set_option maxRecDepth 10000 in
theorem copy_sit (hS : Sit Try.prog Z gs w t (G (Frame.enter Try.prog 19 #[seqT 22 p1 p2, to'] .normal) (c0' :: cs0)) q) (hW : RelW K1.F 0 ρ v w) (hZ : Apart Z ρ w) (hq : ρ.q s n p1 p2) (hsl : SlOk Z ρ w)
    (hev : Ev Tryv.prog Kp (Frame.enter Tryv.prog 19 #[seqV 22 s n, to] .normal) (c0 :: cs) v) (hto : RelV K1.F ρ to to') (hKp : ∀ f ts v, Kp f ts v → ts = [] ∧ f.mode = .returning)
    (hcs : ∀ g ∈ c0 :: cs, g.defers = [] ∧ ∃ fn, Tryv.prog.funcs[g.fn]? = some fn) :
    ∃ (N : Nat) (gs' : Array Goroutine) (w' : World) (sl' : Option (Nat × Nat)) (t' : Trace) (q' : Nat → Nat) (Z' : Nat → Prop) (ρ1 : Rn) (v1 : World) (cnt e : Int),
      runNT Try.prog N (crowd gs w sl) t = (.next (crowd gs' w' sl'), t') ∧ Sit Try.prog Z' gs' w' t' (G (c0'.finish (.tuple #[.int .i64 cnt, .int .i64 e])) cs0) q' ∧
      NxP Tryv.prog Kp ⟨c0.finish (.tuple #[.int .i64 cnt, .int .i64 e]), cs, v1⟩ ⟨Frame.enter Tryv.prog 19 #[seqV 22 s n, to] .normal, c0 :: cs, v⟩ ∧ Dv Z ρ w Z' ρ1 v1 w' := by
  obtain ⟨B0, hSl0, hB0⟩ := hsl _ _ _ _ hq
  obtain ⟨sz, rfl⟩ : ∃ sz : Nat, n = sz := ⟨n.toNat, by have := hSl0.pos; omega⟩
  have hZw : ∀ b, Z b → b < w.heap.size := hZ.z
  -- to the call of Add
  have hpre : Ps Try.prog (fun (a : Goroutine) (o : Own (fun _ : Nat => False)) => ∃ xb c1 c2 b1 b2 wg, [wg, b2, b1, c2, c1, xb].Nodup ∧ a = G (Frame.enter Try.prog 24 #[.pointer (some ⟨wg, 0, none⟩), .int .i64 1] .normal)
      (fr 19 #[.func (.func 22) #[] #[.pointer (some ⟨p1, 0, none⟩), .pointer (some ⟨p2, 0, none⟩)], to', .pointer (some ⟨xb, 0, none⟩), undef, .int .i64 0, .int .i64 0, .pointer (some ⟨b1, 0, none⟩), .pointer (some ⟨b2, 0, none⟩), .pointer (some ⟨wg, 0, none⟩), undef, .chan (some c1), .chan (some c2), undef, undef, undef, undef, undef, undef, undef, undef, undef, undef, undef, undef, undef, undef, undef, undef, undef] [.inRegion ops3 [0], .code c19b] [] none :: c0' :: cs0) ∧
      o = ow rfT (fun _ => False) [(wg, .cells #[.int .u64 0, .int .u32 0] 67), (b2, .cells #[.chan (some c2)] 57), (b1, .cells #[.chan (some c1)] 56), (c2, .chan 0 #[] false 0 0 false), (c1, .chan 0 #[] false 0 0 false), (xb, .cells #[.func (.func 22) #[] #[.pointer (some ⟨p1, 0, none⟩), .pointer (some ⟨p2, 0, none⟩)]] 25)])
      (G (Frame.enter Try.prog 19 #[.func (.func 22) #[] #[.pointer (some ⟨p1, 0, none⟩), .pointer (some ⟨p2, 0, none⟩)], to'] .normal) (c0' :: cs0)) (ow rfT (fun _ => False) []) :=
    c19_pre ps_pln fun xb c1 c2 b1 b2 wg hnd => Ps.fin ⟨xb, c1, c2, b1, b2, wg, hnd, rfl, rfl⟩
  obtain ⟨N1, gs1, w1, sl1, t1, q1, a1, o1, r1, z1, S1, ⟨xb, c1, c2, b1, b2, wg, hnd, rfl, rfl⟩, I1, E1⟩ := hpre (sl := sl) hS.sitD ⟨fun p hp => (by cases hp), trivial⟩ (fun b hb => (by rcases hb with h | h; exact h.elim; simp at h)) (fun b hb => hb.elim) hZw
  clear hpre
  have hI1 := I1.1
  simp only [List.mem_cons, List.not_mem_nil, or_false, forall_eq_or_imp, forall_eq] at hI1
  obtain ⟨iwg, ib2, ib1, ic2, ic1, ixb⟩ := hI1
  have new1 : ∀ b ∈ [wg, b2, b1, c2, c1, xb], w.heap.size ≤ b ∧ ¬ Z b := fun b hb => by
    have hO : (ow rfT (fun _ => False) [(wg, Obj.cells #[.int .u64 0, .int .u32 0] 67), (b2, .cells #[.chan (some c2)] 57), (b1, .cells #[.chan (some c1)] 56), (c2, .chan 0 #[] false 0 0 false), (c1, .chan 0 #[] false 0 0 false), (xb, .cells #[.func (.func 22) #[] #[.pointer (some ⟨p1, 0, none⟩), .pointer (some ⟨p2, 0, none⟩)]] 25)]).O b := .inr hb
    refine ⟨?_, (E1.own b hO).2⟩
    rcases E1.new b hO with h | h
    · rcases h with h | h
      · exact h.elim
      · simp at h
    · exact h
  have hnd' := hnd
  simp only [List.nodup_cons, List.mem_cons, List.not_mem_nil, or_false, not_or] at hnd'
  have hwl : wg < w1.heap.size := (Array.getElem?_eq_some_iff.1 iwg).1
  -- Add
  obtain ⟨T, hT⟩ : ∃ T : Array Value, T = #[.func (.func 22) #[] #[.pointer (some ⟨p1, 0, none⟩), .pointer (some ⟨p2, 0, none⟩)], to', .pointer (some ⟨xb, 0, none⟩), undef, .int .i64 0, .int .i64 0, .pointer (some ⟨b1, 0, none⟩), .pointer (some ⟨b2, 0, none⟩), .pointer (some ⟨wg, 0, none⟩), undef, .chan (some c1), .chan (some c2), undef, undef, undef, undef, undef, undef, undef, undef, undef, undef, undef, undef, undef, undef, undef, undef, undef] := ⟨_, rfl⟩
  rw [← hT] at S1
  obtain ⟨N2, gs2, sl2, t2, q2, dd, r2, z2, S2⟩ := add_sit (b₀ := fr 19 T [.inRegion ops3 [0], .code c19b] [] none) (a₀ := ⟨T, []⟩) (ops₀ := ops3) (i₀ := 0) (rest₀ := []) (k₀ := [.code c19b]) (cs := c0' :: cs0) (w := w1) (sl := sl1) wgLib S1 iwg hwl (new1 wg (by simp)).2 (by rw [enter_add]; rfl)
  obtain ⟨w2, hw2⟩ : ∃ w2 : World, w2 = (w1.setCell (stC wg) (.int .u64 KQ)).at dd := ⟨_, rfl⟩
  have h2o : ∀ b, b ≠ wg → w2.heap[b]? = w1.heap[b]? := fun b hb => by
    rw [hw2]
    show (w1.setCell (stC wg) (.int .u64 KQ)).heap[b]? = _
    exact (wa_block w1 (stC wg) (.int .u64 KQ)).1 b hb
  have h2w : w2.heap[wg]? = some (.cells #[.int .u64 KQ, .int .u32 0] 67) := by
    rw [hw2]
    exact WA.setSt (C := cx Z ρ wg c1 c2 0 w s sz) (w := w1) (st := 0) (sm := 0) iwg KQ
  have h2z : w2.heap.size = w1.heap.size := by rw [hw2]; exact (wa_block w1 (stC wg) (.int .u64 KQ)).2.1
  have h2s : w2.tape = w1.tape ∧ w2.os = w1.os ∧ w2.output = w1.output := by rw [hw2]; exact (wa_block w1 (stC wg) (.int .u64 KQ)).2.2
  rw [← hw2] at r2
  have ea : G ((fr 19 T [.inRegion ops3 [0], .code c19b] [] none).at ((⟨T, []⟩ : Act).put ((ops3[0]?).bind (·.dst)) (.tuple #[])) (.inRegion ops3 [] :: [.code c19b])) (c0' :: cs0) = G (fr 19 #[.func (.func 22) #[] #[.pointer (some ⟨p1, 0, none⟩), .pointer (some ⟨p2, 0, none⟩)], to', .pointer (some ⟨xb, 0, none⟩), undef, .int .i64 0, .int .i64 0, .pointer (some ⟨b1, 0, none⟩), .pointer (some ⟨b2, 0, none⟩), .pointer (some ⟨wg, 0, none⟩), undef, .chan (some c1), .chan (some c2), .tuple #[], undef, undef, undef, undef, undef, undef, undef, undef, undef, undef, undef, undef, undef, undef, undef, undef] [.inRegion ops3 [], .code c19b] [] none) (c0' :: cs0) := by rw [hT]; rfl
  rw [ea] at S2
  -- to the go statement
  obtain ⟨o3, ho3⟩ : ∃ o3 : Own (fun _ : Nat => False), o3 = ow rfT (fun _ => False) [(wg, Obj.cells #[.int .u64 KQ, .int .u32 0] 67), (b2, .cells #[.chan (some c2)] 57), (b1, .cells #[.chan (some c1)] 56), (c2, .chan 0 #[] false 0 0 false), (c1, .chan 0 #[] false 0 0 false), (xb, .cells #[.func (.func 22) #[] #[.pointer (some ⟨p1, 0, none⟩), .pointer (some ⟨p2, 0, none⟩)]] 25)] := ⟨_, rfl⟩
  have hO3 : ∀ b, o3.O b → b ∈ [wg, b2, b1, c2, c1, xb] := fun b hb => by
    rw [ho3] at hb
    rcases hb with h | h
    · exact h.elim
    · exact h
  have hmid : Ps Try.prog (fun a o => a = G (fr 19 #[.func (.func 22) #[] #[.pointer (some ⟨p1, 0, none⟩), .pointer (some ⟨p2, 0, none⟩)], to', .pointer (some ⟨xb, 0, none⟩), undef, .int .i64 0, .int .i64 0, .pointer (some ⟨b1, 0, none⟩), .pointer (some ⟨b2, 0, none⟩), .pointer (some ⟨wg, 0, none⟩), undef, .chan (some c1), .chan (some c2), .tuple #[], .func (.func 25) #[] #[.pointer (some ⟨wg, 0, none⟩), .pointer (some ⟨b1, 0, none⟩), .pointer (some ⟨xb, 0, none⟩), .pointer (some ⟨b2, 0, none⟩)], undef, undef, undef, undef, undef, undef, undef, undef, undef, undef, undef, undef, undef, undef, undef] [.inRegion ops4 [1], .code c19c] [] none) (c0' :: cs0) ∧ o = o3) _ o3 := p19_mid (a13 := undef) ps_pln (Ps.fin ⟨rfl, rfl⟩)
  have hI2 : o3.I w2 := by
    rw [ho3]
    refine ⟨fun p hp => ?_, trivial⟩
    simp only [List.mem_cons, List.not_mem_nil, or_false] at hp
    rcases hp with rfl | rfl | rfl | rfl | rfl | rfl
    · exact h2w
    · exact (h2o _ (by omega)).trans ib2
    · exact (h2o _ (by omega)).trans ib1
    · exact (h2o _ (by omega)).trans ic2
    · exact (h2o _ (by omega)).trans ic1
    · exact (h2o _ (by omega)).trans ixb
  have hO2 : ∀ b, o3.O b → b < w2.heap.size ∧ ¬ Z b := fun b hb => ⟨by
    obtain ⟨p, hp, rfl⟩ : ∃ p ∈ [(wg, Obj.cells #[.int .u64 KQ, .int .u32 0] 67), (b2, .cells #[.chan (some c2)] 57), (b1, .cells #[.chan (some c1)] 56), (c2, .chan 0 #[] false 0 0 false), (c1, .chan 0 #[] false 0 0 false), (xb, .cells #[.func (.func 22) #[] #[.pointer (some ⟨p1, 0, none⟩), .pointer (some ⟨p2, 0, none⟩)]] 25)], p.1 = b := by
      rw [ho3] at hb
      rcases hb with h | h
      · exact h.elim
      · exact List.mem_map.1 h
    rw [ho3] at hI2
    exact (Array.getElem?_eq_some_iff.1 (hI2.1 p hp)).1, (new1 b (hO3 b hb)).2⟩
  rw [← h2z] at S2
  obtain ⟨N3, gs3, w3, sl3, t3, q3, a3, o3', r3, z3, S3, ⟨rfl, rfl⟩, I3, E3⟩ := hmid (sl := sl2) (w := w2) S2 hI2 hO2 (fun b hb => hb.elim) (fun b hb => by rw [h2z]; exact Nat.lt_of_lt_of_le (hZw b hb) E1.sz)
  clear hmid
  have hold : ∀ b, b < w.heap.size → w3.heap[b]? = w.heap[b]? := fun b hb => by
    have hnew : ∀ b', b' ∈ [wg, b2, b1, c2, c1, xb] → b ≠ b' := fun b' hb' e => by have := (new1 b' hb').1; omega
    rw [E3.keep b (by rw [h2z]; exact Nat.lt_of_lt_of_le hb E1.sz) (fun h => hnew b (hO3 b h) rfl), h2o b (hnew wg (by simp))]
    exact E1.keep b hb (fun h => by rcases h with h | h; exact h.elim; simp at h)
  have hz13 : w.heap.size ≤ w3.heap.size := Nat.le_trans E1.sz (by rw [← h2z]; exact E3.sz)
  have hs3 : w3.tape = w.tape ∧ w3.os = w.os ∧ w3.output = w.output := ⟨(E3.same.1.trans h2s.1).trans E1.same.1, (E3.same.2.1.trans h2s.2.1).trans E1.same.2.1, (E3.same.2.2.trans h2s.2.2).trans E1.same.2.2⟩
  have hI3 := I3
  rw [ho3] at hI3
  have hI3 := hI3.1
  simp only [List.mem_cons, List.not_mem_nil, or_false, forall_eq_or_imp, forall_eq] at hI3
  obtain ⟨jwg, jb2, jb1, jc2, jc1, jxb⟩ := hI3
  have hwgw := (new1 wg (by simp)).1
  obtain ⟨N4, gs4, w4, sl4, t4, q4, a4, ρ1, v1, cnt, e, d0, d1, d2, d3, d6, d9, d10, d11, d12, d13, d14, d15, d16, d17, d18, d19, d20, d21, d22, d23, d24, d25, d26, d27, d28, r4, S4, ⟨nl, hlv⟩, hnx, hP⟩ := copy_go (v := v) (ρ := ρ) (to := to) (s := s) (Kp := Kp) (c0 := c0) (cs := cs) (sl := sl3) S3 hwgw ((hW.alike alike12).kept hold hz13 hs3.2.1)
    ⟨hZ.r, fun b hb => Nat.lt_of_lt_of_le (hZw b hb) hz13⟩ hq (fun s n a b hq => by
      obtain ⟨B, hB, hc⟩ := hsl s n a b hq
      refine ⟨B, hB.keep2 fun c hcB => hold c (hB.lt c hcB), fun c hcB => ⟨(hc c hcB).1, ?_⟩⟩
      rintro (h | h)
      · exact (hc c hcB).2 h
      · have := hB.lt c hcB; omega) jwg jxb jb1 jb2 jc1 jc2 (fun b hb => ⟨fun a hab => by have h1 := (hW.dom hab).2; have h2 := (new1 b hb).1; omega, (new1 b hb).2⟩) hnd hev (hto.alike alike12) hKp hcs
  -- the return
  obtain ⟨N5, gs5, w5, sl5, t5, q5, a5, r5, z5, S5, st5⟩ := walkD (B := w4.heap.size) (D := DC0) (sl := sl4) (fun w w' es h e he => by rw [h.2] at he; simp at he) S4.sitD (goes_still (w0 := w4) (atRel_refl _) (hlv w4))
  obtain ⟨rfl, d5, e5⟩ := st5 w5.drawn
  have e5 : w5 = w4.at d5 := e5
  subst e5
  have hout : Ps Try.prog (fun a o => a = G (c0'.finish (.tuple #[.int .i64 cnt, .int .i64 e])) cs0 ∧ o = ow rfT (fun _ => False) []) _ (ow rfT (fun _ => False) []) := p19_out (d0 := d0) (d1 := d1) (d2 := d2) (d3 := d3) (d6 := d6) (d9 := d9) (d10 := d10) (d11 := d11) (d12 := d12) (d13 := d13) (d14 := d14) (d15 := d15) (d16 := d16) (d17 := d17) (d18 := d18) (d19 := d19) (d20 := d20) (d21 := d21) (d22 := d22) (d23 := d23) (d24 := d24) (d25 := d25) (d26 := d26) (d27 := d27) (d28 := d28) (d7 := .pointer (some ⟨b2, 0, none⟩)) (d8 := .pointer (some ⟨wg, 0, none⟩)) ps_pln (Ps.fin ⟨rfl, rfl⟩)
  have hZ4 : ∀ b, (Z b ∨ b = wg) → b < w4.heap.size := fun b hb => by
    have h3 := hP.sz
    rcases hb with hb | rfl
    · have := hZw b hb; omega
    · have := (Array.getElem?_eq_some_iff.1 jwg).1; omega
  obtain ⟨N6, gs6, w6, sl6, t6, q6, a6, o6, r6, z6, S6, ⟨rfl, rfl⟩, I6, E6⟩ := hout (sl := sl5) (w := w4.at d5) S5 ⟨fun p hp => (by cases hp), trivial⟩ (fun b hb => (by rcases hb with h | h; exact h.elim; simp at h)) (fun b hb => hb.elim) hZ4
  have h64 : ∀ b, b < w4.heap.size → w6.heap[b]? = w4.heap[b]? := fun b hb => E6.keep b hb (fun h => by rcases h with h | h; exact h.elim; simp at h)
  have hz6 : w4.heap.size ≤ w6.heap.size := E6.sz
  refine ⟨_, gs6, w6, sl6, t6, q6, fun b => Z b ∨ b = wg, ρ1, v1, cnt, e, runNT_join (runNT_join (runNT_join (runNT_join (runNT_join r1 r2) r3) r4) r5) r6, ?_, hnx, ?_⟩
  · exact ⟨S6.at0, S6.leavers, (S6.past.mono (Nat.le_refl _)).past⟩
  · refine ⟨hP.le, (hP.rel.alike alike21).kept h64 hz6 E6.same.2.1, ⟨hP.apart, fun b hb => Nat.lt_of_lt_of_le (hZ4 b hb) hz6⟩, SlOk.kept hP.sl h64, fun b hb => .inl hb, fun b hb => ?_, fun a b hab hb => ?_, Nat.le_trans hz13 (Nat.le_trans hP.sz hz6), fun b hb hn => ?_, (E6.same.1.trans hP.same.1).trans hs3.1, (E6.same.2.1.trans hP.same.2.1).trans hs3.2.1, (E6.same.2.2.trans hP.same.2.2).trans hs3.2.2⟩
    · rcases hb with hb | rfl
      · exact .inl hb
      · exact .inr hwgw
    · rcases hP.low a b hab (Nat.lt_of_lt_of_le hb hz13) with h | h
      · exact h
      · exfalso
        have := (new1 b (by simp at h ⊢; rcases h with rfl | rfl | rfl <;> simp)).1
        omega
    · have hb3 := Nat.lt_of_lt_of_le hb hz13
      rw [h64 b (Nat.lt_of_lt_of_le hb3 hP.sz), hP.keep b hb3 hn (fun h => by
        have := (new1 b (by simp at h ⊢; rcases h with rfl | rfl | rfl <;> simp)).1
        omega)]
      exact hold b hb
end
end Go.Proofs.Ytcdhmnefmbcmaaa

namespace Go.Proofs.Ytcdhmnefmbcmaaa
open Go Go.Conc
section
variable {T : Twin} {F : Fs} {N : Nat} {ρ : Rn} {v w : World}
theorem lc_inv (hW : RelW F N ρ v w) {a a' : Addr} (ha : RelA ρ a a') : ∀ (n i : Nat) (acc : Array Value),
    (∃ vs : List Value, vs.length = n ∧ (∀ j x, vs[j]? = some x → ∃ x', v.cell? (a.add (i + j)) = some x ∧ w.cell? (a'.add (i + j)) = some x' ∧ RelV F ρ x x') ∧ (loadCellsFrom a i n acc).run T.v v = .ok (acc ++ vs.toArray) v) ∨
    ∃ h, (loadCellsFrom a i n acc).run T.v v = .halt h v ∧ Halt.still h := by
  intro n
  induction n with
  | zero => intro i acc; exact .inl ⟨[], rfl, fun j x h => (by simp at h), by simp [loadCellsFrom]⟩
  | succ n ih =>
    intro i acc
    rcases cell_rel hW (ha.add i) with ⟨x, x', h1, h2, h3⟩ | ⟨h1, h2⟩
    · have e : (loadCellsFrom a i (n + 1) acc).run T.v v = (loadCellsFrom a (i + 1) n (acc.push x)).run T.v v := by
        simp only [loadCellsFrom, load, Sem.run_bind]
        rw [Sem.run, h1]
        rfl
      rw [e]
      rcases ih (i + 1) (acc.push x) with ⟨vs, k1, k2, k3⟩ | h
      · refine .inl ⟨x :: vs, by simp [k1], fun j y hy => ?_, by rw [k3]; simp⟩
        cases j with
        | zero =>
          simp only [List.getElem?_cons_zero, Option.some.injEq] at hy
          subst hy
          exact ⟨x', h1, h2, h3⟩
        | succ j =>
          simp only [List.getElem?_cons_succ] at hy
          have := k2 j y hy
          rwa [show i + 1 + j = i + (j + 1) by omega] at this
      · exact .inr h
    · right
      obtain ⟨s, hs⟩ := (far_still (T := T) h1 h2 false).1
      refine ⟨.stuck s, ?_, trivial⟩
      simp only [loadCellsFrom, load, Sem.run_bind]
      rw [Sem.run, h1]
      have e : (Mode.plain == Mode.atomic) = false := rfl
      simp only [e, hs]
      rfl
theorem bts_inv {P : Program} {a : Addr} {n k : Nat} {vs : List Value} (hl : (loadCells a n).run P v = .ok vs.toArray v) : (∃ ks : List Int, vs = ks.map (Value.int .u8)) ∨
    ∃ h, (Conv.bytesToString (.slice (some a) n k)).run P v = .halt h v ∧ Halt.still h := by
  unfold Conv.bytesToString
  simp only [Sem.run_bind, hl, Result.andThen, List.forIn_toArray]
  clear hl
  generalize ByteArray.empty = s0
  induction vs generalizing s0 with
  | nil => exact .inl ⟨[], rfl⟩
  | cons x l ih =>
    by_cases hx : ∃ k, x = .int .u8 k
    · obtain ⟨k, rfl⟩ := hx
      rcases ih (s0.push (UInt8.ofNat k.toNat)) with ⟨ks, rfl⟩ | ⟨h, h1, h2⟩
      · exact .inl ⟨k :: ks, rfl⟩
      · refine .inr ⟨h, ?_, h2⟩
        simp only [List.forIn_cons, pure_bind]
        exact h1
    · refine .inr ⟨.stuck "bytesToString: byte expected", ?_, trivial⟩
      simp only [List.forIn_cons]
      cases x with
      | int k n => cases k <;> first | exact absurd ⟨n, rfl⟩ hx | rfl
      | _ => rfl
/-- bytes that a virtual run reads stand in the true memory too -/
theorem bytes_inv (hW : RelW F N ρ v w) {x x' : Value} (hx : RelV F ρ x x') : (∃ h, (Conv.bytesToString x).run T.v v = .halt h v ∧ Halt.still h) ∨
    ∃ ks : List Int, (Conv.bytesToString x).run T.v v = .ok (.string (strOfNums ks)) v ∧ ((∃ l c, x = .slice none l c ∧ x' = x ∧ ks = []) ∨
      ∃ a a' l c, x = .slice (some a) l c ∧ x' = .slice (some a') l c ∧ (0 < l → RelA ρ a a') ∧ ks.length = l ∧ ∀ (i : Nat) (k : Int), ks[i]? = some k → v.cell? (a.add i) = some (.int .u8 k) ∧ w.cell? (a'.add i) = some (.int .u8 k)) := by
  have stk : ∀ s, (stuck s : Sem Value).run T.v v = .halt (.stuck s) v := fun s => rfl
  cases hx with
  | flat hf =>
    cases x <;> first | exact .inl ⟨_, rfl, trivial⟩ | skip
    rename_i a n k
    cases a with
    | none => exact .inr ⟨[], rfl, .inl ⟨n, k, rfl, rfl, rfl⟩⟩
    | some _ => exact absurd (show false = true from hf) (by simp)
  | @slice a a' n k ha =>
    rcases lc_inv (T := T) hW ha n 0 #[] with ⟨vs, h1, h2, h3⟩ | ⟨h, h1, h2⟩
    · rcases bts_inv (v := v) (P := T.v) (a := a) (n := n) (k := k) (vs := vs) (by unfold loadCells; rw [h3]; simp) with ⟨ks, rfl⟩ | ⟨h, h4, h5⟩
      · refine .inr ⟨ks, ?_, .inr ⟨a, a', n, k, rfl, rfl, fun _ => ha, by simpa using h1, fun i kk hk => ?_⟩⟩
        · rw [run_bytesToString v a n k ks (by unfold loadCells; rw [h3]; simp), foldl_push_bytes]
          simp [strOfNums, ByteArray.empty, ByteArray.emptyWithCapacity]
          rfl
        · obtain ⟨x', k1, k2, k3⟩ := h2 i (.int .u8 kk) (by simp [hk])
          obtain rfl := rel_flat_eq k3 rfl
          rw [Nat.zero_add] at k1 k2
          exact ⟨k1, k2⟩
      · exact .inl ⟨h, h4, h5⟩
    · refine .inl ⟨h, ?_, h2⟩
      unfold Conv.bytesToString loadCells
      simp only [Sem.run_bind, h1, Result.andThen]
  | @emp b a hc => exact .inr ⟨[], rfl, .inr ⟨⟨b, 0, none⟩, a, 0, 0, rfl, rfl, fun h => absurd h (Nat.lt_irrefl 0), rfl, fun i k h => (by cases h)⟩⟩
  | _ => exact .inl ⟨_, rfl, trivial⟩
end
end Go.Proofs.Ytcdhmnefmbcmaaa

namespace Go.Proofs.Ytcdhmnefmbcmaaa
open Go Go.Conc Go.RowKit
/-- what stands in its frame while it goes over its bytes -/
def v9T (x y : Value) (s : ByteArray) (l i : Nat) (r12 r13 r14 r15 r16 r17 : Value) : Array Value :=
  #[x, y, .string s, .int .i64 l, undef, .bool true, undef, undef, undef, undef, undef, .int .i64 i, r12, r13, r14, r15, r16, r17, .int .i64 l, .bool true]
theorem und_bytesV : Tryv.prog.underlying 22 = some (.slice 5) := (Tryv.und _).trans Try.underlying22
theorem run_ixV {a : Addr} {l c i : Nat} {w : World} (hi : i < l) : (Instr.indexAt 22 (.slice (some a) l c) (.int .i64 (i : Int))).run Tryv.prog w = .ok (.pointer (some (a.add i))) w := by
  have he : Tryv.prog.elem 22 = 5 := by unfold Program.elem; rw [und_bytesV]
  rw [run_indexAt_slice _ _ _ _ _ _ _ (by rw [he]; exact und_bytesV), he]
  have hs : (sizeOf 5).run Tryv.prog w = .ok 1 w := Lib.byte_size (by kernel_rfl) w
  rw [hs]
  have h1 : (0 : Int) ≤ (i : Int) ∧ (i : Int) < (l : Int) := by omega
  simp [h1]
theorem run_lenV {A : Option Addr} {l c : Nat} {w : World} (ty : TypeId) : (Builtin.len_ #[22] ty #[.slice A l c]).run Tryv.prog w = .ok (.int .i64 (l : Int)) w := by
  have he : Tryv.prog.elem 22 = 5 := by unfold Program.elem; rw [und_bytesV]
  rw [run_len_slice _ _ _ _ _ _ (by rw [he]; exact und_bytesV)]
  rfl
theorem conv_any {A : Option Addr} {l c : Nat} {w : World} : (convert 22 9 (.slice A l c)).run Tryv.prog w = (Conv.bytesToString (.slice A l c)).run Tryv.prog w := by
  have h1 := und_bytesV
  have h2 : Tryv.prog.underlying 9 = some .string := (Tryv.und _).trans Try.underlying9
  have h3 : Tryv.prog.underlying 5 = some (.int .u8) := (Tryv.und _).trans Try.underlying5
  simp [convert, run_underlying h1, run_underlying h2, run_underlying h3]
section
variable {Kp : Frame → List Frame → World → Prop} (hKp : ∀ f ts v, Kp f ts v → ts = []) {Good : VS → Prop} {fn : FuncId} {T : Array Value} {k : List Item} {cs : List Frame} {c0 : Frame} {v v1 : World}
  {ops : Array Oper} {i : Nat} {rest : List Nat} {op : Oper}
 include hKp
/-- an operation that yields a value here -/
theorem vr_v1 (x : Value) (ho : ops[i]? = some op) (hw : Region.wanted op (yielded ops T) = true) (hr : (execOp (ev T) op).run Tryv.prog v = .ok (.value x) v)
    (next : Vr Tryv.prog Kp Good ⟨fr fn (put T op.dst x) (.inRegion ops rest :: k) [] none, c0 :: cs, v⟩) : Vr Tryv.prog Kp Good ⟨fr fn T (.inRegion ops (i :: rest) :: k) [] none, c0 :: cs, v⟩ :=
  (vrp_at (fun x => by cases hKp _ _ _ x) (s_val ho hw (.inl rfl) hr) next).vr
theorem ev_refuse {m : String} (h : Ev Tryv.prog Kp (fr fn T (.code (.refuse m) :: k) [] none) (c0 :: cs) v) : False := by
  have e : ∃ o u es, stepG Tryv.prog true (G (fr fn T (.code (.refuse m) :: k) [] none) (c0 :: cs ++ [door Tryv.prog])) v = .ended o u es := ⟨_, _, _, rfl⟩
  obtain ⟨o, u, es, e⟩ := e
  exact ev_ended hKp h e
theorem ev_still {hh : Halt} (h : Ev Tryv.prog Kp (fr fn T (.inRegion ops (i :: rest) :: k) [] none) (c0 :: cs) v) (ho : ops[i]? = some op) (hw : Region.wanted op (yielded ops T) = true) (hr : (execOp (ev T) op).run Tryv.prog v = .halt hh v) (hs : Halt.still hh) : False := by
  obtain ⟨q, u, es, e⟩ := s_still (P := Tryv.prog) (mn := true) (fn := fn) (T := T) (k := k) (D := []) (cs := c0 :: cs ++ [door Tryv.prog]) (i := i) (rest := rest) ho hw hr hs
  exact ev_ended hKp h e
 omit hKp in
theorem vr_ev {s : VS} (h : Ev Tryv.prog Kp s.f s.ts s.v) (k : Vr Tryv.prog Kp Good s) : ∃ s', Good s' ∧ (s' = s ∨ NxP Tryv.prog Kp s' s) ∧ Ev Tryv.prog Kp s'.f s'.ts s'.v := by
  obtain ⟨s', hg, e⟩ := k
  refine ⟨s', hg, e, ?_⟩
  rcases e with rfl | e
  · exact h
  · exact Ev.nextP h e

set_option maxRecDepth 10000 in
/-- it goes over its bytes -/
theorem v9_loop {x y : Value} {s : ByteArray} {A : Option Addr} {l c : Nat} {ks : List Int} (hx : x = .slice A l c) (hl : l ≤ 1073741824) (hks : ks.length = l) (hcell : ∀ (i : Nat) (k : Int), ks[i]? = some k → ∃ a, A = some a ∧ v.cell? (a.add i) = some (.int .u8 k)) :
    ∀ (m i : Nat), m + i = l → ∀ (r12 r13 r14 r15 r16 r17 : Value), Ev Tryv.prog Kp (fr 9 (v9T x y s l i r12 r13 r14 r15 r16 r17) [.code Tryv.loop9, .inLoop Tryv.loop9, .inBlock 0, .code Tryv.post9] [] none) (c0 :: cs) v →
      (∃ q12 q13 q14 q15 q16 q17, NxP Tryv.prog Kp ⟨fr 9 (v9T x y s l l q12 q13 q14 q15 q16 q17) [.code Tryv.post9] [] none, c0 :: cs, v⟩ ⟨fr 9 (v9T x y s l i r12 r13 r14 r15 r16 r17) [.code Tryv.loop9, .inLoop Tryv.loop9, .inBlock 0, .code Tryv.post9] [] none, c0 :: cs, v⟩) ∧
      ∀ (j : Nat) (k : Int), i ≤ j → ks[j]? = some k → 0 ≤ k ∧ k ≤ 255 := by
  intro m
  induction m with
  | zero =>
    intro i hi r12 r13 r14 r15 r16 r17 hev
    obtain rfl : i = l := by omega
    refine ⟨?_, fun j k hj hk => ?_⟩
    · have hvr : VrP Tryv.prog Kp (fun s' => ∃ q12 q13 q14 q15 q16 q17, s' = ⟨fr 9 (v9T x y s i i q12 q13 q14 q15 q16 q17) [.code Tryv.post9] [] none, c0 :: cs, v⟩) ⟨fr 9 (v9T x y s i i r12 r13 r14 r15 r16 r17) [.code Tryv.loop9, .inLoop Tryv.loop9, .inBlock 0, .code Tryv.post9] [] none, c0 :: cs, v⟩ := by
        unfold v9T
        refine vrp_at (fun x => by cases hKp _ _ _ x) s_seq ?_
        refine vr_q hKp (fun w => s_region) ?_
        simp only [List.size_toArray, List.length_cons, List.length_nil, Nat.reduceAdd, Nat.zero_add, List.range, List.range.loop]
        refine vr_v hKp ?_ rfl rfl (fun w => ?_) ?_
        rotate_left
        · unfold ev; go_simp; try exact rfl
        simp only [put]; walk_nrm
        refine vr_q hKp (fun w => s_region_end) ?_
        refine vr_q hKp (fun w => s_seq) ?_
        have hd : decide ((i : Int) < (i : Int)) = false := by simp
        refine vr_q hKp (fun w => s_cond (b := false) rfl) ?_
        simp only [if_true, if_false, Bool.false_eq_true, ↓reduceIte]
        refine vr_q hKp (fun w => s_exit rfl) ?_
        exact .fin ⟨_, _, _, _, _, _, rfl⟩
      obtain ⟨s', ⟨q12, q13, q14, q15, q16, q17, rfl⟩, hn⟩ := hvr
      exact ⟨q12, q13, q14, q15, q16, q17, hn⟩
    · have := (List.getElem?_eq_some_iff.1 hk).1
      omega
  | succ m ih =>
    intro i hi r12 r13 r14 r15 r16 r17 hev
    have hil : i < l := by omega
    obtain ⟨kk, hkk⟩ : ∃ kk, ks[i]? = some kk := ⟨_, List.getElem?_eq_getElem (by omega)⟩
    obtain ⟨a, rfl, hc⟩ := hcell i kk hkk
    have hw : IntKind.i64.wrap ((i : Int) + 1) = (i : Int) + 1 := by rw [IntKind.wrap_i64]; omega
    have hw2 : ((i + 1 : Nat) : Int) = (i : Int) + 1 := by omega
    -- up to the first question
    have hvr : VrP Tryv.prog Kp (fun s' => s' = ⟨fr 9 (v9T x y s l (i + 1) (.bool true) (.pointer (some (a.add i))) (.int .u8 kk) (.bool (decide (0 ≤ kk))) (.bool (decide (kk ≤ 255))) (.int .i64 ((i + 1 : Nat) : Int))) [.code (.seq (.cond (.tmp 15) .skip (.refuse "")) (.cond (.tmp 16) .skip (.refuse ""))), .inLoop Tryv.loop9, .inBlock 0, .code Tryv.post9] [] none, c0 :: cs, v⟩) ⟨fr 9 (v9T x y s l i r12 r13 r14 r15 r16 r17) [.code Tryv.loop9, .inLoop Tryv.loop9, .inBlock 0, .code Tryv.post9] [] none, c0 :: cs, v⟩ := by
      subst hx
      unfold v9T
      refine vrp_at (fun x => by cases hKp _ _ _ x) s_seq ?_
      have hlt : decide ((i : Int) < (l : Int)) = true := by simp; omega
      refine vr_q hKp (fun w => s_region) ?_
      simp only [List.size_toArray, List.length_cons, List.length_nil, Nat.reduceAdd, Nat.zero_add, List.range, List.range.loop]
      refine vr_v hKp ?_ rfl rfl (fun w => ?_) ?_
      rotate_left
      · unfold ev; go_simp; try exact rfl
      simp only [put]; walk_nrm
      refine vr_q hKp (fun w => s_region_end) ?_
      refine vr_q hKp (fun w => s_seq) ?_
      refine vr_q hKp (fun w => s_cond (b := true) rfl) ?_
      simp only [if_true, if_false, Bool.false_eq_true, ↓reduceIte]
      refine vr_q hKp (fun w => s_skip) ?_
      refine vr_q hKp (fun w => s_seq) ?_
      refine vr_q hKp (fun w => s_region) ?_
      simp only [List.size_toArray, List.length_cons, List.length_nil, Nat.reduceAdd, Nat.zero_add, List.range, List.range.loop]
      refine vr_v hKp (.pointer (some (a.add i))) rfl rfl (fun w => ?_) ?_
      · show ((Instr.indexAt 22 (.slice (some a) l c) (.int .i64 (i : Int)) >>= fun r => pure (Next.value r)) : Sem Next).run Tryv.prog w = _
        rw [Sem.run_bind, run_ixV hil]
        rfl
      simp only [put]; walk_nrm
      refine vr_v1 hKp (.int .u8 kk) rfl rfl ?_ ?_
      · have f0 := hc
        unfold ev
        go_simp
        try exact rfl
      simp only [put]; walk_nrm
      refine vr_v hKp ?_ rfl rfl (fun w => ?_) ?_
      rotate_left
      · unfold ev; go_simp; try exact rfl
      simp only [put]; walk_nrm
      refine vr_v hKp ?_ rfl rfl (fun w => ?_) ?_
      rotate_left
      · unfold ev; go_simp; try exact rfl
      simp only [put]; walk_nrm
      refine vr_v hKp ?_ rfl rfl (fun w => ?_) ?_
      rotate_left
      · unfold ev; go_simp; try exact rfl
      simp only [put]; walk_nrm
      refine vr_v hKp ?_ rfl rfl (fun w => ?_) ?_
      rotate_left
      · unfold ev; go_simp; try exact rfl
      simp only [put]; walk_nrm
      refine vr_q hKp (fun w => s_region_end) ?_
      rw [← hw2]
      exact .fin rfl
    obtain ⟨s', rfl, hn⟩ := hvr
    have hev1 := Ev.nextP (s := ⟨_, _, _⟩) hev hn
    simp only at hev1
    have hev2 := ev_go hKp (c := c0) (ts := cs) hev1 s_seq
    by_cases h0 : 0 ≤ kk
    · by_cases h5 : kk ≤ 255
      · have hvr2 : Vr Tryv.prog Kp (fun s' => s' = ⟨fr 9 (v9T x y s l (i + 1) (.bool true) (.pointer (some (a.add i))) (.int .u8 kk) (.bool true) (.bool true) (.int .i64 ((i + 1 : Nat) : Int))) [.code Tryv.loop9, .inLoop Tryv.loop9, .inBlock 0, .code Tryv.post9] [] none, c0 :: cs, v⟩) ⟨fr 9 (v9T x y s l (i + 1) (.bool true) (.pointer (some (a.add i))) (.int .u8 kk) (.bool (decide (0 ≤ kk))) (.bool (decide (kk ≤ 255))) (.int .i64 ((i + 1 : Nat) : Int))) [.code (.seq (.cond (.tmp 15) .skip (.refuse "")) (.cond (.tmp 16) .skip (.refuse ""))), .inLoop Tryv.loop9, .inBlock 0, .code Tryv.post9] [] none, c0 :: cs, v⟩ := by
          have e1 : decide (0 ≤ kk) = true := by simpa using h0
          have e2 : decide (kk ≤ 255) = true := by simpa using h5
          rw [e1, e2]
          unfold v9T
          refine vr_q hKp (fun w => s_seq) ?_
          refine vr_q hKp (fun w => s_cond (b := true) rfl) ?_
          simp only [if_true, if_false, Bool.false_eq_true, ↓reduceIte]
          refine vr_q hKp (fun w => s_skip) ?_
          refine vr_q hKp (fun w => s_cond (b := true) rfl) ?_
          simp only [if_true, if_false, Bool.false_eq_true, ↓reduceIte]
          refine vr_q hKp (fun w => s_skip) ?_
          refine vr_q hKp (fun w => s_inLoop) ?_
          exact .fin rfl
        obtain ⟨s', rfl, hn2⟩ := hvr2
        have hn3 : NxP Tryv.prog Kp ⟨fr 9 (v9T x y s l (i + 1) (.bool true) (.pointer (some (a.add i))) (.int .u8 kk) (.bool true) (.bool true) (.int .i64 ((i + 1 : Nat) : Int))) [.code Tryv.loop9, .inLoop Tryv.loop9, .inBlock 0, .code Tryv.post9] [] none, c0 :: cs, v⟩ ⟨fr 9 (v9T x y s l i r12 r13 r14 r15 r16 r17) [.code Tryv.loop9, .inLoop Tryv.loop9, .inBlock 0, .code Tryv.post9] [] none, c0 :: cs, v⟩ := by
          rcases hn2 with e | hn2
          · rw [e]; exact hn
          · exact hn2.trans hn
        have hev3 := Ev.nextP (s := ⟨_, _, _⟩) hev hn3
        obtain ⟨⟨q12, q13, q14, q15, q16, q17, hq⟩, hall⟩ := ih (i + 1) (by omega) _ _ _ _ _ _ hev3
        refine ⟨⟨q12, q13, q14, q15, q16, q17, hq.trans hn3⟩, fun j k hj hk => ?_⟩
        rcases Nat.eq_or_lt_of_le hj with rfl | hj
        · rw [hkk] at hk
          obtain rfl := Option.some.inj hk
          exact ⟨h0, h5⟩
        · exact hall j k hj hk
      · exfalso
        have e1 : decide (0 ≤ kk) = true := by simpa using h0
        have e2 : decide (kk ≤ 255) = false := by simpa using h5
        rw [e1, e2] at hev2
        have h3 := ev_go hKp (c := c0) (ts := cs) hev2 (s_cond (b := true) rfl)
        have h4 := ev_go hKp (c := c0) (ts := cs) h3 s_skip
        have h5 := ev_go hKp (c := c0) (ts := cs) h4 (s_cond (b := false) rfl)
        exact ev_refuse hKp h5
    · exfalso
      have e1 : decide (0 ≤ kk) = false := by simpa using h0
      rw [e1] at hev2
      have h3 := ev_go hKp (c := c0) (ts := cs) hev2 (s_cond (b := false) rfl)
      exact ev_refuse hKp h3
end
end Go.Proofs.Ytcdhmnefmbcmaaa
