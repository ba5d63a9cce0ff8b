/-
  (*WaitGroup).Add(1) beside goroutines that only leave; whoever calls it; no condition but what each law names.
  Copy from the call of Add to its loop: the go statement; no condition but what each law names.
  A goroutine is made beside goroutines that only leave: what holds then; no condition but what each law names.
  What the worker sees of a sealed closure; no condition but what each law names.
  Copy's phase: from the go statement until goroutine 0 leaves Wait; no condition but what each law names.
-/
import Derived.Test.YtcdhmnefmbcmaaaJay
import Derived.Test.YtcdhmnefmbcmaaaJao
import Derived.Test.YtcdhmnefmbcmaaaJax
import Derived.Test.YtcdhmnefmbcmaaaJaz
import Derived.Conc.CrowdTrace
namespace Go.Proofs.Ytcdhmnefmbcmaaa
open Go Go.Conc Go.RowKit Go.Conc.Lib Go.ConcX Go.ConcX.Gen
/-- what Add may list: its own cells alone -/
def okAdd (wg : Nat) (act : MemAct) : Prop := (∀ B, wg < B → act.low B) ∧ (∀ a, act ≠ .mark (.release a)) ∧ ∀ x b, act.touch? = some x → x.loc.blk = some b → b = wg
abbrev shyAdd (wg : Nat) : Shy wg wg where
  ok := okAdd wg
  atomicWg := fun a wr h => ⟨fun B hB => by show a.block < B; omega, fun _ h => (by cases h), fun x b hx hb => by simp only [MemAct.touch?, Option.some.injEq] at hx; subst hx; simp only [Loc.blk, Option.some.injEq] at hb; omega⟩
  readWg := fun a h => ⟨fun B hB => by show a.block < B; omega, fun _ h => (by cases h), fun x b hx hb => by simp only [MemAct.touch?, Option.some.injEq] at hx; subst hx; simp only [Loc.blk, Option.some.injEq] at hb; omega⟩
  writeWg := fun a h => ⟨fun B hB => by show a.block < B; omega, fun _ h => (by cases h), fun x b hx hb => by simp only [MemAct.touch?, Option.some.injEq] at hx; subst hx; simp only [Loc.blk, Option.some.injEq] at hb; omega⟩
  theirs := fun a wr h => ⟨fun B hB => by show a.block < B; omega, fun _ h => (by cases h), fun x b hx hb => by simp only [MemAct.touch?, Option.some.injEq] at hx; subst hx; simp only [Loc.blk, Option.some.injEq] at hb; omega⟩
  disable := ⟨fun _ _ => trivial, fun _ h => (by cases h), fun x b hx => by simp [MemAct.touch?] at hx⟩
  enable := ⟨fun _ _ => trivial, fun _ h => (by cases h), fun x b hx => by simp [MemAct.touch?] at hx⟩
  relMerge := ⟨fun _ h => h, fun _ h => (by cases h), fun x b hx => by simp [MemAct.touch?] at hx⟩
  acquire := ⟨fun _ h => h, fun _ h => (by cases h), fun x b hx => by simp [MemAct.touch?] at hx⟩
  go1 := ⟨fun _ _ => trivial, fun _ h => (by cases h), fun x b hx => by simp [MemAct.touch?] at hx⟩
  start := ⟨fun _ _ => trivial, fun _ h => (by cases h), fun x b hx => by simp [MemAct.touch?] at hx⟩
  stop := fun _ _ => True
theorem mem_shun {Z : Nat → Prop} {l : Loc} (h : ShunZ Z l) : ∃ b, l.blk = some b ∧ Z b := by
  cases l <;> first | exact ⟨_, rfl, h⟩ | exact h.elim
section
variable {P : Program} {L : WgLink} (H : WgLib P L) {Z : Nat → Prop} {B Lr : Nat} {gs : Array Goroutine} {w : World} {sl : Option (Nat × Nat)} {t : Trace} {q : Nat → Nat}
  {b₀ : Frame} {a₀ : Act} {ops₀ : Array Oper} {i₀ : Nat} {rest₀ : List Nat} {k₀ : List Item} {cs : List Frame} {wg : Nat}
 include H
set_option maxRecDepth 100000 in
theorem add_sit {a : Goroutine} (hS : SitD P Z B Lr gs t a q 0) (hwg : w.heap[wg]? = some (.cells #[.int .u64 0, .int .u32 0] L.tWg)) (hB : wg < B) (hZ : ¬ Z wg)
    (ha : a = G ((base L.add).at ⟨#[.pointer (some ⟨wg, 0, none⟩), .int .i64 1, undef, undef, undef, undef, undef, undef, undef, undef, undef, undef, undef, undef, undef, undef, undef, undef, undef, undef, undef, undef, undef, undef, undef, undef, undef, undef, undef, undef, undef, undef, undef, undef, undef, undef, undef, undef, undef, undef, undef, undef, undef, undef, undef, undef, undef, undef, undef, undef, undef, undef, undef, undef, undef, undef, undef, undef, undef, undef, undef, undef, undef, undef, undef, undef, undef, undef, undef, undef, undef, undef, undef, undef, undef, undef, undef, undef, undef, undef, undef, undef, undef, undef, undef, undef, undef, undef, undef, undef, undef, undef, undef, undef, undef, undef, undef, undef, undef, undef, undef, undef, undef, undef, undef, undef, undef, undef, undef, undef, undef, undef, undef, undef, undef, undef, undef], []⟩ [.code (body_add L)]) (b₀.at a₀ (.inRegion ops₀ (i₀ :: rest₀) :: k₀) :: cs)) :
    ∃ N gs' sl' t' q' d, runNT P N (crowd gs w sl) t = (.next (crowd gs' ((w.setCell (stC wg) (.int .u64 KQ)).at d) sl'), t') ∧ gs'.size = gs.size ∧ SitD P Z B Lr gs' t' (G (b₀.at (a₀.put ((ops₀[i₀]?).bind (·.dst)) (.tuple #[])) (.inRegion ops₀ rest₀ :: k₀)) cs) q' 0 := by
  letI := shyAdd wg
  have hD : ∀ w w' es, DE (EvS wg wg) w w' es → ∀ e ∈ es, EvG (ShunZ Z) B e ∧ e.loc ≠ .mark .disable ∧ e.loc ≠ .mark .enable := by
    intro w w' es h e he
    obtain ⟨_, _, _, h4, h5, h6, h7, h8⟩ := h e he
    refine ⟨⟨fun x hx hz => ?_, h6 B hB, h7⟩, fun hl => h4 ?_, fun hl => h5 ?_⟩
    · obtain ⟨b, h9, h10⟩ := mem_shun hz
      exact absurd (h8 x b hx h9 ▸ h10) hZ
    · obtain ⟨l, wr, sy⟩ := e; simp only at hl; subst hl; rfl
    · obtain ⟨l, wr, sy⟩ := e; simp only at hl; subst hl; rfl
  have evm : ∀ m : Mark, (m = .disable ∨ m = .enable) → ∀ e ∈ (#[Go.ConcX.mk m] : Array Event), EvG (ShunZ Z) B e := by
    intro m hm e he
    rw [Array.mem_singleton] at he
    subst he
    rcases hm with rfl | rfl <;> exact ⟨fun x hx => by simp [Go.ConcX.mk, MemAct.ofEvent, MemAct.touch?] at hx, trivial, fun a h => by cases h⟩
  have hG := addPos (Wg := wg) (C := wg) (b₀ := b₀) (a₀ := a₀) (ops₀ := ops₀) (i₀ := i₀) (rest₀ := rest₀) (k₀ := k₀) (cs := cs) (mT := 0)
    (StopG := fun g w' => g = G (b₀.at (a₀.put ((ops₀[i₀]?).bind (·.dst)) (.tuple #[])) (.inRegion ops₀ rest₀ :: k₀)) cs ∧ ∃ d, w' = (w.setCell (stC wg) (.int .u64 KQ)).at d) H w hwg
    (Goes.stop fun w₁ h₁ => by obtain ⟨d, rfl⟩ := h₁; exact ⟨rfl, d, rfl⟩)
  rw [← ha] at hG
  -- to 'disable'
  obtain ⟨N1, gs1, w1, sl1, t1, q1, a1, r1, z1, S1, st1⟩ := walkD hD (sl := sl) hS hG
  obtain ⟨N2, gs2, w2, sl2, t2, q2, a2, es2, B2, r2, z2, S2, rfl, rfl, n2, G2⟩ := turnD (w := w1) (sl := sl1) (R := fun a' w' es B' => B' = B ∧ es = #[Go.ConcX.mk .disable] ∧ ∃ n, Goes P true AtRel (DE (EvS wg wg)) _ n a' w') S1 (st1 0).1 (fun dd => by
    obtain ⟨_, a', h1, h2⟩ := st1 dd
    exact ⟨a', _, _, B, h1, Nat.le_refl _, evm _ (.inl rfl), rfl, rfl, h2⟩)
  -- to 'enable'
  obtain ⟨N3, gs3, w3, sl3, t3, q3, a3, r3, z3, S3, st3⟩ := walkD hD (sl := sl2) S2 G2
  obtain ⟨N4, gs4, w4, sl4, t4, q4, a4, es4, B4, r4, z4, S4, rfl, rfl, n4, G4⟩ := turnD (w := w3) (sl := sl3) (R := fun a' w' es B' => B' = B2 ∧ es = #[Go.ConcX.mk .enable] ∧ ∃ n, Goes P true AtRel (DE (EvS wg wg)) _ n a' w') S3 (st3 0).1 (fun dd => by
    obtain ⟨_, a', h1, h2⟩ := st3 dd
    exact ⟨a', _, _, B2, h1, Nat.le_refl _, evm _ (.inr rfl), rfl, rfl, h2⟩)
  obtain ⟨N5, gs5, w5, sl5, t5, q5, a5, r5, z5, S5, st5⟩ := walkD hD (sl := sl4) S4 G4
  obtain ⟨h5, d5, e5⟩ := st5 w5.drawn
  have e5 : w5 = (w.setCell (stC wg) (.int .u64 KQ)).at d5 := e5
  subst e5 h5
  refine ⟨_, gs5, sl5, t5, q5, d5, runNT_join (runNT_join (runNT_join (runNT_join r1 r2) r3) r4) r5, by omega, ?_⟩
  exact S5
end
theorem enter_add (wg : Nat) : Frame.enter Try.prog 24 #[.pointer (some ⟨wg, 0, none⟩), .int .i64 1] .normal = (base link.add).at ⟨#[.pointer (some ⟨wg, 0, none⟩), .int .i64 1, undef, undef, undef, undef, undef, undef, undef, undef, undef, undef, undef, undef, undef, undef, undef, undef, undef, undef, undef, undef, undef, undef, undef, undef, undef, undef, undef, undef, undef, undef, undef, undef, undef, undef, undef, undef, undef, undef, undef, undef, undef, undef, undef, undef, undef, undef, undef, undef, undef, undef, undef, undef, undef, undef, undef, undef, undef, undef, undef, undef, undef, undef, undef, undef, undef, undef, undef, undef, undef, undef, undef, undef, undef, undef, undef, undef, undef, undef, undef, undef, undef, undef, undef, undef, undef, undef, undef, undef, undef, undef, undef, undef, undef, undef, undef, undef, undef, undef, undef, undef, undef, undef, undef, undef, undef, undef, undef, undef, undef, undef, undef, undef, undef, undef, undef], []⟩ [.code (body_add link)] := by kernel_rfl

end Go.Proofs.Ytcdhmnefmbcmaaa

namespace Go.Proofs.Ytcdhmnefmbcmaaa
open Go Go.Conc Go.RowKit
noncomputable def ops4 : Array Oper := match c19b with | .seq (.region _ o _) _ => o | _ => #[]
noncomputable def c19c : Code := match c19b with | .seq _ c => c | _ => .skip
section
variable {SR : Nat → Prop} {J : Goroutine → Own SR → Prop} (hJ : Pln Try.prog true J) {o : Own SR} {cs : List Frame} {a0 a1 a3 a9 a14 a15 a16 a17 a18 a19 a20 a21 a22 a23 a24 a25 a26 a27 a28 : Value} {xb c1 c2 b1 b2 wg : Nat}
 include hJ
set_option maxRecDepth 10000 in
theorem p19_mid (next : J (G (fr 19 #[a0, a1, .pointer (some ⟨xb, 0, none⟩), a3, .int .i64 0, .int .i64 0, .pointer (some ⟨b1, 0, none⟩), .pointer (some ⟨b2, 0, none⟩), .pointer (some ⟨wg, 0, none⟩), a9, .chan (some c1), .chan (some c2), .tuple #[], .func (.func 25) #[] #[.pointer (some ⟨wg, 0, none⟩), .pointer (some ⟨b1, 0, none⟩), .pointer (some ⟨xb, 0, none⟩), .pointer (some ⟨b2, 0, none⟩)], a14, a15, a16, a17, a18, a19, a20, a21, a22, a23, a24, a25, a26, a27, a28] [.inRegion ops4 [1], .code c19c] [] none) cs) o) {a13 : Value} :
    J (G (fr 19 #[a0, a1, .pointer (some ⟨xb, 0, none⟩), a3, .int .i64 0, .int .i64 0, .pointer (some ⟨b1, 0, none⟩), .pointer (some ⟨b2, 0, none⟩), .pointer (some ⟨wg, 0, none⟩), a9, .chan (some c1), .chan (some c2), .tuple #[], a13, a14, a15, a16, a17, a18, a19, a20, a21, a22, a23, a24, a25, a26, a27, a28] [.inRegion ops3 [], .code c19b] [] none) cs) o := by
  have Next := Lib.hid next
  clear next
  have el : c19b = c19b := rfl
  conv at el => lhs; simp only [c19b, c19a, bodyOf, Try.f19, Option.getD_some]
  rw [← el]
  clear el
  refine pj_q hJ (fun w => s_region_end) rfl ?_
  refine pj_q hJ (fun w => s_seq) rfl ?_
  refine pj_q hJ (fun w => s_region) rfl ?_
  simp only [List.size_toArray, List.length_cons, List.length_nil, Nat.reduceAdd, Nat.zero_add, List.range, List.range.loop]
  refine pj_vl hJ (v := ?_) rfl rfl (by first | exact .inl rfl | exact .inr (fun c h => by cases h)) (fun w hw => ?_) (fun w hw => ?_) ?_
  rotate_left
  · unfold ev; go_simp; try exact rfl
  · unfold ev; simp [go_sem, Instr.makeFunc]
  simp only [put]; walk_nrm
  exact Next.out
end
theorem s_go {cs : List Frame} {T : Array Value} {q : Array Value} {w : World} (hT : ev T (.tmp 13) = .func (.func 25) #[] q) : stepG Try.prog true (G (fr 19 T [.inRegion ops4 [1], .code c19c] [] none) cs) w = .spawn (G (fr 19 T [.inRegion ops4 [], .code c19c] [] none) cs) (born Try.prog { target := .fn (.func 25) q, args := #[] }) w #[] := by
  obtain ⟨og, hog, hogc, hogw, hogd⟩ : ∃ og, ops4[1]? = some og ∧ og.op = .go { callee := .value (.tmp 13), args := #[], argTypes := #[] } ∧ (∀ T, Region.wanted og T = true) ∧ og.dst = none := ⟨_, rfl, rfl, fun _ => rfl, rfl⟩
  have hx : execOp (ev T) og = pure (.spawn { target := .fn (.func 25) q, args := #[] }) := by
    unfold execOp
    simp [hogc, resolve, Deferred.ofValue, hT]
  rw [s_oper (kd := false) hog (hogw _) (.inl rfl), hx]
  have hf : (fr 19 T [.inRegion ops4 [1], .code c19c] [] none).finish undef = fr 19 T [.inRegion ops4 [], .code c19c] [] none := by rw [fr_finish hog, hogd]; rfl
  rw [← hf]
  rfl
section
variable {C : Cx} (hP : C.P = Try.prog) {R : RF C.SR} {s : ByteArray} {sz : Nat} (hCs : ∀ k xv bk ob, C.Cs k xv bk ob → Piece C.SR s sz k xv bk ob) (hNN : s.size ≤ C.N * sz) (hsz : 1 ≤ sz) (hsz2 : (sz : Int) ≤ 9223372036854775807) (hs : s.size ≤ 1073741824)
  {sb : Nat} (hsb : C.SR sb) (hrd : ∀ w, R.R w → w.cell? ⟨sb, 0, none⟩ = some (.chan (some C.bs))) (hlive : ∃ w, Live C w) {Kp : Frame → List Frame → World → Prop} (hKp : ∀ f ts v, Kp f ts v → ts = [] ∧ f.mode = .returning)
  {c0 : Frame} {cs : List Frame} (hcs : ∀ g ∈ c0 :: cs, g.defers = [] ∧ ∃ fn, Tryv.prog.funcs[g.fn]? = some fn) {cs0 : List Frame}
  {b1 : Nat} (hb1 : C.SR b1) (hrd1 : ∀ w, R.R w → w.cell? ⟨b1, 0, none⟩ = some (.chan (some C.bc)))
 include hP hCs hNN hsz hsz2 hs hsb hrd hlive hKp hcs hb1 hrd1
set_option maxRecDepth 10000 in
theorem p19_start {to to' : Value} {v : World} {ρ : Rn} (h : OG R ρ) (hev : Ev Tryv.prog Kp (Frame.enter Tryv.prog 19 #[seqV 22 s sz, to] .normal) (c0 :: cs) v) (hto : RelV K2.F ρ to to')
    {a0 a2 a3 a9 a10 a11 a12 a13 a14 a15 a16 a17 a18 a19 a20 a21 a22 a23 a24 a25 a26 a27 a28 : Value} :
    PM C (FinC C R sb Kp c0 cs cs0 ⟨Frame.enter Tryv.prog 19 #[seqV 22 s sz, to] .normal, c0 :: cs, v⟩ ρ) .work 0 (G (fr 19 #[a0, to', a2, a3, .int .i64 0, .int .i64 0, .pointer (some ⟨b1, 0, none⟩), .pointer (some ⟨sb, 0, none⟩), .pointer (some ⟨C.wg, 0, none⟩), a9, a10, a11, a12, a13, a14, a15, a16, a17, a18, a19, a20, a21, a22, a23, a24, a25, a26, a27, a28] [.inRegion ops4 [], .code c19c] [] none) cs0) (og K2.F 0 R ρ v h) := by
  have hKp' : ∀ f ts v, Kp f ts v → ts = [] := fun f ts v x => (hKp f ts v x).1
  obtain ⟨s', hs', hn⟩ := vb_pre (Kp := Kp) hKp' (Good := fun s' => s' = ⟨fr 19 (vbT (seqV 22 s sz) to (.tuple #[.string s, .int .i64 sz]) s 0 0 sz 0 undef undef undef undef undef undef undef undef undef undef) [.code Tryv.loop, .inLoop Tryv.loop, .inBlock 0, .code .ret] [] none, c0 :: cs, v⟩) (to := to) (s := s) (n := sz) (cs := cs) (c0 := c0) (v := v) (.fin rfl)
  subst hs'
  have head := p19_headM (cs0 := cs0) (tup := .tuple #[.string s, .int .i64 sz]) (r9 := undef) (r10 := undef) (r11 := undef) (r12 := undef) (r13 := undef) (r14 := undef) (r15 := undef) (r16 := undef) (r17 := undef) (r18 := undef) (cnt := 0) (e := 0) (k := 0) (lo := 0) (to := to) (to' := to') (v := v) (a0 := a0) (a2 := a2) (a3 := a3) (a6 := .pointer (some ⟨b1, 0, none⟩)) (a9 := a9) (a10 := a10) (a11 := a11) (a12 := a12) (a13 := a13) (a15 := a15) (a16 := a16) (a17 := a17) (a18 := a18) (a19 := a19) (a20 := a20) (a21 := a21) (a22 := a22) (a23 := a23) (a24 := a24) (a25 := a25) (a26 := a26) (a27 := a27) (a28 := a28)
    hP hCs hNN hsz hsz2 hs hsb hrd hlive hKp ⟨Frame.enter Tryv.prog 19 #[seqV 22 s sz, to] .normal, c0 :: cs, v⟩ ρ h (fun st hst => p19_take hP hCs hNN hsz hsz2 hs hsb hrd hlive hKp hcs _ ρ (Ev.nextP (s := ⟨_, _, _⟩) hev (hst.trans hn))) hn (.refl _) (by simp) hto
  have Head := Lib.hid head
  have fB : ∀ w, (og K2.F 0 R ρ v h).I w → w.cell? ⟨b1, 0, none⟩ = some (.chan (some C.bc)) := fun w hw => hrd1 w hw.2
  clear head hn hev hKp' hto hrd1 hrd hcs hKp hNN hCs hsz hsz2 hs
  have el : c19c = c19c := rfl
  conv at el => lhs; simp only [c19c, c19b, c19a, bodyOf, Try.f19, Option.getD_some]
  rw [← el]
  clear el
  refine pm_q hP (fun w => s_region_end) rfl ?_
  refine pm_q hP (fun w => s_seq) rfl ?_
  refine pm_q hP (fun w => s_seq) rfl ?_
  refine pm_q hP (fun w => s_region) rfl ?_
  simp only [List.size_toArray, List.length_cons, List.length_nil, Nat.reduceAdd, Nat.zero_add, List.range, List.range.loop]
  refine pm_vl hP (v := ?_) rfl rfl (by first | exact .inl rfl | exact .inr (fun c h => by cases h)) (fun w hw => ?_) (fun w hw => ?_) ?_
  rotate_left
  · have f0 := fB w hw; unfold ev; go_simp; exact rfl
  · have f0 := fB w hw; unfold ev; simp [go_sem, f0]; exact ⟨.inr hb1,rfl⟩
  simp only [put]; walk_nrm
  refine pm_q hP (fun w => s_region_end) rfl ?_
  refine pm_q hP (fun w => s_block) rfl ?_
  refine pm_q hP (fun w => s_loop) rfl ?_
  exact Head.out
end
end Go.Proofs.Ytcdhmnefmbcmaaa

namespace Go.Proofs.Ytcdhmnefmbcmaaa
open Go Go.Conc

section
variable {P : Program} {Z : Nat → Prop} {B L : Nat} {gs : Array Goroutine} {w : World} {t : Trace} {a a' child : Goroutine} {q : Nat → Nat} {sl : Option (Nat × Nat)}
theorem spawn_sit (h : SitD P Z B L gs t a q 0) (ha : a.status = .running) (hs : ∀ dd, stepG P true a (w.at dd) = .spawn a' child (w.at dd) #[]) :
    ∃ N gs1 sl1 t1 q1 d1 x y, runNT P N (crowd gs w sl) t = (.next (crowd ((gs1.setIfInBounds 0 a').push child) (w.at d1) sl1), t1 ++ #[x, y]) ∧ gs1.size = gs.size ∧ SitD P Z B L gs1 t1 a q1 0 ∧ (x.g = 0 ∧ x.act = .go gs.size) ∧ (y.g = gs.size ∧ y.act = .start) := by
  obtain ⟨N, gs1, w1, sl1, t1, q1, dd, sx, h1, h2, h3, ⟨d1, rfl⟩, h5⟩ := turn0 (w := w) (sl := sl) h ha
  have hr := runT_crowd_spawn (P := P) (w := w.at dd) (w' := w.at dd) (sl := sx) (i := 0) h3.at0 (show stepG P (0 == 0) a (w.at dd) = _ from hs dd)
  rw [h2] at hr
  refine ⟨N + 1, gs1, sx, t1, q1, dd, { g := 0, fn := a.frame.fn, pos := a.frame.place, act := .go gs.size }, { g := gs.size, fn := child.frame.fn, pos := a.frame.place, act := .start }, ?_, h2, h3, ⟨rfl, rfl⟩, rfl, rfl⟩
  rw [runNT_one h1 (h5.trans hr)]
  congr 1
end

/-- goroutine 0 and its child -/
theorem cf_born {C : Cx} {B L : Nat} {gs : Array Goroutine} {w : World} {t : Trace} {a a' child : Goroutine} {q : Nat → Nat} {x y : MemOp} {oM : Own C.SR} (h : SitD C.P C.Z B L gs t a q 0) (hj : C.j = gs.size) (hx : x.g = 0 ∧ x.act = .go gs.size) (hy : y.g = gs.size ∧ y.act = .start)
    (hB : B ≤ w.heap.size) (hL : L ≤ C.wg) (om : ∀ b, oM.O b → b < w.heap.size ∧ ¬ C.SR b ∧ ¬ C.SY b ∧ ¬ C.Z b) (sr : ∀ b, C.SR b → b < w.heap.size ∧ ¬ C.SY b ∧ ¬ C.Z b) (sy : ∀ b, C.SY b → b < w.heap.size ∧ ¬ C.Z b) (z : ∀ b, C.Z b → b < w.heap.size) (im : oM.I w)
    (keep : (∀ b, b < C.w0.heap.size → ¬ C.T0 b → w.heap[b]? = C.w0.heap[b]?) ∧ (∀ b, (oM.O b ∨ C.SY b) → b < C.w0.heap.size → C.T0 b)) (sz : C.w0.heap.size ≤ w.heap.size) (same : w.tape = C.w0.tape ∧ w.os = C.w0.os ∧ w.output = C.w0.output) :
    Cf C ((gs.setIfInBounds 0 a').push child) w (t ++ #[x, y]) q a' child 0 0 oM (fun _ => False) := by
  have h0 : 0 < gs.size := (Array.getElem?_eq_some_iff.1 h.at0).1
  have hmem : ∀ op ∈ (#[x, y] : Array MemOp), op = x ∨ op = y := fun op hop => by simpa using hop
  have hnt : ∀ op ∈ (#[x, y] : Array MemOp), op.act.touch? = none := fun op hop => by
    rcases hmem op hop with rfl | rfl
    · rw [hx.2]; rfl
    · rw [hy.2]; rfl
  have hdf : ∀ g, Deaf (t ++ #[x, y]) g = Deaf t g := fun g => Go.ConcX.Deaf_keep t g #[x, y] fun op hop => by
    rcases hmem op hop with rfl | rfl
    · rw [hx.2]; exact ⟨by simp, by simp⟩
    · rw [hy.2]; exact ⟨by simp, by simp⟩
  have hd0 : Deaf t 0 = 0 := h.past.deaf
  have hdj : Deaf t gs.size = 0 := h.leavers.above _ (Nat.le_refl _)
  have told : ∀ i a, touchAt (t ++ #[x, y]) i = some a → touchAt t i = some a := fun i a ha => by
    obtain ⟨op, hop, hoa⟩ := touch_of ha
    rcases getElem?_append_cases hop with ⟨_, hop'⟩ | ⟨_, hou⟩
    · rw [touchAt_of hop']; exact hoa
    · rw [hnt op hou] at hoa; cases hoa
  have both : ∀ i a, touchAt (t ++ #[x, y]) i = some a → (∃ b, a.loc.blk = some b ∧ ¬ C.Z b) → Knows (t ++ #[x, y]) 0 i ∧ Knows (t ++ #[x, y]) C.j i := fun i a ha ⟨b, hb, hz⟩ => by
    have hm : a.loc.isMemory = true := by
      generalize a.loc = l at hb
      cases l <;> first | rfl | cases hb
    rcases h.past.known i a (told i a ha) hm with hk | ⟨hs, _⟩
    · exact ⟨hk.app _, by rw [hj]; exact Go.ConcN.fork_knows hx hy hd0 hdj hk⟩
    · obtain ⟨b', hb', hz'⟩ := mem_shun hs
      rw [hb] at hb'
      cases hb'
      exact absurd hz' hz
  refine ⟨by rw [hj]; exact h0, ?_, ?_, fun i g hi hij hg => ?_, fun i hi => ?_, by rw [hdf, hd0], by rw [hdf, hj, hdj], ?_, ?_, ?_, fun b hb => ?_, fun b hb => hb.elim, sr, sy, z, im, ⟨keep.1, fun b hb hl => keep.2 b (hb.imp id fun x => x.elim (fun y => y.elim) id) hl⟩, sz, same, ?_⟩
  · rw [Array.getElem?_push_lt (by simpa using h0)]
    simp [h0]
  · rw [hj]
    have : (gs.setIfInBounds 0 a').size = gs.size := by simp
    rw [← this, Array.getElem?_push_size]
  · have hlt : i < gs.size := by
      have := (Array.getElem?_eq_some_iff.1 hg).1
      simp at this
      rw [hj] at hij
      omega
    rw [Array.getElem?_push_lt (by simpa using hlt), ← Array.getElem?_eq_getElem, Array.getElem?_setIfInBounds_ne (by omega)] at hg
    rw [hdf]
    exact h.leavers.old i g hi hg
  · rw [hdf]
    refine h.leavers.above i ?_
    simp at hi
    omega
  · refine ⟨fun said => ?_, fun i x b _ _ hb => hb.elim, fun i a b ha hb hs _ => both i a ha ⟨b, hb, (sr b hs).2.2⟩, fun i a b ha hb hs => .inr (both i a ha ⟨b, hb, (sy b hs).2⟩), fun i a b ha hb _ _ _ hz => (both i a ha ⟨b, hb, hz⟩).1, fun i a ha hm => ?_⟩
    · rintro ⟨i, k, hik, ⟨a, b, ha, hb, hc⟩, n1, n2⟩
      refine h.past.clean said ⟨i, k, hik, ⟨a, b, told i a ha, told k b hb, hc⟩, fun hh => n1 (hb_app _ hh), fun hh => n2 (hb_app _ hh)⟩
    · rcases h.past.known i a (told i a ha) hm with hk | hk
      · exact .inl (hk.app _)
      · exact .inr (.inr hk)
  · intro op hop
    rcases Array.mem_append.1 hop with hop | hop
    · exact MemAct.low_mono hB (h.past.seen op hop)
    · rcases hmem op hop with rfl | rfl
      · rw [hx.2]; trivial
      · rw [hy.2]; trivial
  · refine norel_app (fun i hi => ?_) fun op hop => ?_
    · obtain ⟨op, ho, hoa⟩ := Option.map_eq_some_iff.1 hi
      have := h.past.nor op (Array.mem_of_getElem? ho) _ hoa
      simp only [stC] at this
      omega
    · rcases hmem op hop with rfl | rfl
      · rw [hx.2]; simp
      · rw [hy.2]; simp
  · obtain ⟨h1, h2, h3⟩ := om b hb
    exact ⟨h1, fun x => x, h2, h3⟩
  · exact over_app (fun i g hg h0 _ hc => h.past.over i g hg h0 hc) fun op hop => .inr (.inr (hnt op hop))
end Go.Proofs.Ytcdhmnefmbcmaaa

namespace Go.Proofs.Ytcdhmnefmbcmaaa
open Go Go.Conc

/-- blocks that stand as they stood -/
def frz (SR : Nat → Prop) (W : World) (h : ∀ b, SR b → b < W.heap.size) : RF SR where
  R := fun w => ∀ b, SR b → w.heap[b]? = W.heap[b]?
  st := fun w w1 hw k _ b hb => (k b hb).trans (hw b hb)
  lt := fun w hw b hb => by
    have h1 := hw b hb
    rw [Array.getElem?_eq_getElem (h b hb)] at h1
    exact (Array.getElem?_eq_some_iff.1 h1).1

theorem sealed_mini {w : World} {B : List Nat} {s : ByteArray} {n : Int} {a b : Nat} (h : Sealed w B s n a b) : ∃ B', Sealed w B' s n a b ∧ ∀ c ∈ B', c ∈ B ∧ ∃ o, w.heap[c]? = some o ∧ isCells o := by
  obtain ⟨D, cap, ta, h1, h2⟩ := h.box
  obtain ⟨tb, h3⟩ := h.size
  rcases h2 with h2 | ⟨d, o, cells, td, e, hd, h4, h5, h6, h7⟩
  · refine ⟨[a, b], ⟨fun c hc => ?_, by simp, by simp, h.pos, h.hi, h.few, ⟨D, cap, ta, h1, .inl h2⟩, tb, h3⟩, fun c hc => ?_⟩
    · simp only [List.mem_cons, List.not_mem_nil, or_false] at hc
      rcases hc with rfl | rfl
      · exact h.lt _ h.ina
      · exact h.lt _ h.inb
    · simp only [List.mem_cons, List.not_mem_nil, or_false] at hc
      rcases hc with rfl | rfl
      · exact ⟨h.ina, _, h1, _, _, _, rfl⟩
      · exact ⟨h.inb, _, h3, _, _, _, rfl⟩
  · refine ⟨[a, b, d], ⟨fun c hc => ?_, by simp, by simp, h.pos, h.hi, h.few, ⟨D, cap, ta, h1, .inr ⟨d, o, cells, td, e, by simp, h4, h5, h6, h7⟩⟩, tb, h3⟩, fun c hc => ?_⟩
    · simp only [List.mem_cons, List.not_mem_nil, or_false] at hc
      rcases hc with rfl | rfl | rfl
      · exact h.lt _ h.ina
      · exact h.lt _ h.inb
      · exact h.lt _ hd
    · simp only [List.mem_cons, List.not_mem_nil, or_false] at hc
      rcases hc with rfl | rfl | rfl
      · exact ⟨h.ina, _, h1, _, _, _, rfl⟩
      · exact ⟨h.inb, _, h3, _, _, _, rfl⟩
      · exact ⟨hd, _, h4, _, _, _, rfl⟩
theorem Sealed.keep2 {w w' : World} {B : List Nat} {s : ByteArray} {n : Int} {a b : Nat} (h : Sealed w B s n a b) (hk : ∀ c ∈ B, w'.heap[c]? = w.heap[c]?) : Sealed w' B s n a b := by
  obtain ⟨D, cap, ta, h1, h2⟩ := h.box
  obtain ⟨tb, h3⟩ := h.size
  refine ⟨fun c hc => ?_, h.ina, h.inb, h.pos, h.hi, h.few, ⟨D, cap, ta, by rw [hk a h.ina]; exact h1, ?_⟩, tb, by rw [hk b h.inb]; exact h3⟩
  · have h4 := hk c hc
    rw [Array.getElem?_eq_getElem (h.lt c hc)] at h4
    exact (Array.getElem?_eq_some_iff.1 h4).1
  · rcases h2 with h2 | ⟨d, o, cells, td, e, hd, h4, h5⟩
    · exact .inl h2
    · exact .inr ⟨d, o, cells, td, e, hd, by rw [hk d hd]; exact h4, h5⟩
theorem cell_cells {w : World} {b o : Nat} {c : Array Value} {t : TypeId} {f : Nat × Nat} (h : w.heap[b]? = some (.cells c t f)) : w.cell? ⟨b, o, none⟩ = c[o]? := by
  unfold World.cell?
  rw [h]
  rfl

theorem seen_of {C : Cx} {W : World} {hlt : ∀ b, C.SR b → b < W.heap.size} {B : List Nat} {s : ByteArray} {sz p1 p2 xb : Nat} {t : TypeId} (hS : Sealed W B s sz p1 p2) (hB : ∀ c ∈ B, C.SR c) (hxb : C.SR xb)
    (hx : W.heap[xb]? = some (.cells #[.func (.func 22) #[] #[.pointer (some ⟨p1, 0, none⟩), .pointer (some ⟨p2, 0, none⟩)]] t (0, 0))) :
    ∃ D c, SeenP C (frz C.SR W hlt) xb p1 p2 D s.data.toList.length c sz ∧ s.data.toList.length ≤ c ∧ (D = none → s.data.toList = []) ∧
      (0 < s.data.toList.length → ∀ d, D = some d → C.SR d.block ∧ ∀ w, (frz C.SR W hlt).R w → ∀ j v, (byt s.data.toList)[j]? = some v → w.cell? (d.add j) = some v) := by
  obtain ⟨D, cap, ta, h1, h2⟩ := hS.box
  obtain ⟨tb, h3⟩ := hS.size
  have hl : s.data.toList.length = s.size := by rw [Array.length_toList]; rfl
  refine ⟨D, cap, ⟨hxb, hB _ hS.ina, hB _ hS.inb, fun w hw => ?_, fun w hw => ?_, fun w hw => ?_⟩, ?_, fun hn => ?_, fun hpos d hd => ?_⟩
  · rw [cell_cells ((hw xb hxb).trans hx)]; rfl
  · rw [cell_cells ((hw p1 (hB _ hS.ina)).trans h1), hl]; rfl
  · rw [cell_cells ((hw p2 (hB _ hS.inb)).trans h3)]; rfl
  · rw [hl]
    rcases h2 with h2 | ⟨_, _, _, _, _, _, _, _, h6, _⟩
    · omega
    · exact h6
  · rcases h2 with h2 | ⟨_, _, _, _, e, _⟩
    · exact List.length_eq_zero_iff.1 (hl.trans h2)
    · rw [hn] at e; cases e
  · rcases h2 with h2 | ⟨d', o, cells, td, e, hd', h4, h5, h6, h7⟩
    · omega
    · rw [hd] at e
      obtain rfl := Option.some.inj e
      refine ⟨hB _ hd', fun w hw j v hv => ?_⟩
      have hj : j < s.size := by
        have := (List.getElem?_eq_some_iff.1 hv).1
        simp only [byt, List.length_map, hl] at this
        exact this
      have hvv : v = .int .u8 (s[j].toNat : Int) := by
        simp only [byt, List.getElem?_map] at hv
        have e2 : s.data.toList[j]? = some s[j] := by
          rw [Array.getElem?_toList]
          exact Array.getElem?_eq_getElem _
        rw [e2] at hv
        exact (Option.some.inj hv).symm
      have hc := cell_cells (o := o + j) ((hw d' (hB _ hd')).trans h4)
      rw [h7 j hj, ← hvv] at hc
      have ea : (⟨d', o, none⟩ : Addr).add j = ⟨d', o + j, none⟩ := by simp [Addr.add]
      rw [ea]
      exact hc

theorem ceil_N {l sz : Nat} (hsz : 1 ≤ sz) : l ≤ ((l + sz - 1) / sz) * sz ∧ ∀ k, l ≤ k * sz → (∀ j, j < k → j * sz < l) → k = (l + sz - 1) / sz := by
  have h1 := Nat.div_add_mod (l + sz - 1) sz
  have h2 := Nat.mod_lt (l + sz - 1) (show sz > 0 by omega)
  have h3 : sz * ((l + sz - 1) / sz) = ((l + sz - 1) / sz) * sz := Nat.mul_comm _ _
  refine ⟨by omega, fun k hk hj => ?_⟩
  generalize hN : (l + sz - 1) / sz = N at *
  rcases Nat.lt_trichotomy k N with h | h | h
  · have : (k + 1) * sz ≤ N * sz := Nat.mul_le_mul_right _ h
    have e : (k + 1) * sz = k * sz + sz := Nat.succ_mul k sz
    omega
  · exact h
  · have := hj N h
    omega
end Go.Proofs.Ytcdhmnefmbcmaaa

namespace Go.Proofs.Ytcdhmnefmbcmaaa
open Go Go.Conc

/-- what nobody writes while the worker goes on -/
def SRof (Z : Nat → Prop) (ρ : Rn) (wg : Nat) (W : World) (b : Nat) : Prop := b ≠ wg ∧ (∀ a, ¬ ρ.r a b) ∧ ¬ Z b ∧ ∃ o, W.heap[b]? = some o ∧ isCells o
theorem SRof.lt {Z : Nat → Prop} {ρ : Rn} {wg : Nat} {W : World} (b : Nat) (h : SRof Z ρ wg W b) : b < W.heap.size := by
  obtain ⟨_, _, _, o, h, _⟩ := h
  exact (Array.getElem?_eq_some_iff.1 h).1
/-- how sealed closures lie -/
def SlOk (Z : Nat → Prop) (ρ : Rn) (w : World) : Prop := ∀ s n a b, ρ.q s n a b → ∃ B, Sealed w B s n a b ∧ ∀ c ∈ B, (∀ x, ¬ ρ.r x c) ∧ ¬ Z c

noncomputable def cx (Z : Nat → Prop) (ρ : Rn) (wg c1 c2 j : Nat) (W : World) (s : ByteArray) (sz : Nat) : Cx :=
  { P := Try.prog, j := j, bc := c1, bs := c2, wg := wg, ty := 67, N := (s.size + sz - 1) / sz, Cs := Piece (SRof Z ρ wg W) s sz, SR := SRof Z ρ wg W, Z := Z, w0 := W, T0 := fun b => (∃ a, ρ.r a b) ∨ b = wg ∨ b = c1 ∨ b = c2, FW := fun _ => True }

/-- what is left when goroutine 0 leaves Wait -/
structure Past19 (Z : Nat → Prop) (ρ : Rn) (W : World) (new : List Nat) (ρ1 : Rn) (v1 w' : World) (wg : Nat) : Prop where
  le : ρ.le ρ1
  rel : RelW K2.F 0 ρ1 v1 w'
  apart : ∀ a b, ρ1.r a b → ¬ (Z b ∨ b = wg)
  low : ∀ a b, ρ1.r a b → b < W.heap.size → (∃ a', ρ.r a' b) ∨ b ∈ new
  sz : W.heap.size ≤ w'.heap.size
  keep : ∀ b, b < W.heap.size → (∀ a, ¬ ρ.r a b) → b ∉ new → w'.heap[b]? = W.heap[b]?
  same : w'.tape = W.tape ∧ w'.os = W.os ∧ w'.output = W.output
  sl : ∀ s n a b, ρ1.q s n a b → ∃ B, Sealed w' B s n a b ∧ ∀ c ∈ B, (∀ x, ¬ ρ1.r x c) ∧ ¬ (Z c ∨ c = wg)

section
variable {Z : Nat → Prop} {L : Nat} {gs : Array Goroutine} {t : Trace} {q : Nat → Nat} {sl : Option (Nat × Nat)} {W : World} {v : World} {ρ : Rn} {to to' : Value} {s : ByteArray} {sz p1 p2 wg b1 b2 c1 c2 xb : Nat} {Kp : Frame → List Frame → World → Prop} {c0 : Frame} {cs cs0 : List Frame}
  {a0 a3 a9 a14 a15 a16 a17 a18 a19 a20 a21 a22 a23 a24 a25 a26 a27 a28 : Value}
set_option maxRecDepth 10000 in
theorem copy_go (hS : SitD Try.prog Z W.heap.size L gs t (G (fr 19 #[a0, to', .pointer (some ⟨xb, 0, none⟩), a3, .int .i64 0, .int .i64 0, .pointer (some ⟨b1, 0, none⟩), .pointer (some ⟨b2, 0, none⟩), .pointer (some ⟨wg, 0, none⟩), a9, .chan (some c1), .chan (some c2), .tuple #[], .func (.func 25) #[] #[.pointer (some ⟨wg, 0, none⟩), .pointer (some ⟨b1, 0, none⟩), .pointer (some ⟨xb, 0, none⟩), .pointer (some ⟨b2, 0, none⟩)], a14, a15, a16, a17, a18, a19, a20, a21, a22, a23, a24, a25, a26, a27, a28] [.inRegion ops4 [1], .code c19c] [] none) cs0) q 0)
    (hL : L ≤ wg) (hW : RelW K2.F 0 ρ v W) (hZ : Apart Z ρ W) (hq : ρ.q s sz p1 p2) (hsl : SlOk (fun b => Z b ∨ b = wg) ρ W)
    (hwg : W.heap[wg]? = some (.cells #[.int .u64 KQ, .int .u32 0] 67)) (hx : W.heap[xb]? = some (.cells #[.func (.func 22) #[] #[.pointer (some ⟨p1, 0, none⟩), .pointer (some ⟨p2, 0, none⟩)]] 25))
    (hb1 : W.heap[b1]? = some (.cells #[.chan (some c1)] 56)) (hb2 : W.heap[b2]? = some (.cells #[.chan (some c2)] 57)) (hc1 : W.heap[c1]? = some (.chan 0 #[] false 0 0 false)) (hc2 : W.heap[c2]? = some (.chan 0 #[] false 0 0 false))
    (hnew : ∀ b ∈ [wg, b2, b1, c2, c1, xb], (∀ a, ¬ ρ.r a b) ∧ ¬ Z b) (hnd : [wg, b2, b1, c2, c1, xb].Nodup)
    (hev : Ev Tryv.prog Kp (Frame.enter Tryv.prog 19 #[seqV 22 s sz, to] .normal) (c0 :: cs) v) (hto : RelV K2.F ρ to to') (hKp : ∀ f ts v, Kp f ts v → ts = [] ∧ f.mode = .returning)
    (hcs : ∀ g ∈ c0 :: cs, g.defers = [] ∧ ∃ fn, Tryv.prog.funcs[g.fn]? = some fn) :
    ∃ (N : Nat) (gs' : Array Goroutine) (w' : World) (sl' : Option (Nat × Nat)) (t' : Trace) (q' : Nat → Nat) (a' : Goroutine) (ρ1 : Rn) (v1 : World) (cnt e : Int) (d0 d1 d2 d3 d6 d9 d10 d11 d12 d13 d14 d15 d16 d17 d18 d19 d20 d21 d22 d23 d24 d25 d26 d27 d28 : Value),
      runNT Try.prog N (crowd gs W sl) t = (.next (crowd gs' w' sl'), t') ∧ Sit Try.prog (fun b => Z b ∨ b = wg) gs' w' t' a' q' ∧
      Leaves0 Try.prog a' (G (fr 19 #[d0, d1, d2, d3, .int .i64 cnt, .int .i64 e, d6, .pointer (some ⟨b2, 0, none⟩), .pointer (some ⟨wg, 0, none⟩), d9, d10, d11, d12, d13, d14, d15, d16, d17, d18, d19, d20, d21, d22, d23, d24, d25, d26, d27, d28] [.inRegion ops12 [], .code rest13] [] none) cs0) ∧
      NxP Tryv.prog Kp ⟨c0.finish (.tuple #[.int .i64 cnt, .int .i64 e]), cs, v1⟩ ⟨Frame.enter Tryv.prog 19 #[seqV 22 s sz, to] .normal, c0 :: cs, v⟩ ∧ Past19 Z ρ W [wg, c1, c2] ρ1 v1 w' wg := by
  obtain ⟨B0, hSl0, hB0⟩ := hsl _ _ _ _ hq
  have hsz : 1 ≤ sz := by have := hSl0.pos; omega
  have hsz2 : (sz : Int) ≤ 9223372036854775807 := hSl0.hi
  have hs : s.size ≤ 1073741824 := hSl0.few
  have hl : s.data.toList.length = s.size := by rw [Array.length_toList]; rfl
  obtain ⟨N, gs1, sl1, t1, q1, d1, x, y, r1, z1, S1, hxx, hyy⟩ := spawn_sit (w := W) (sl := sl) hS rfl (fun dd => s_go (w := W.at dd) rfl)
  obtain ⟨C, hC⟩ : ∃ C, C = cx Z ρ wg c1 c2 gs1.size W s sz := ⟨_, rfl⟩
  have hCP : C.P = Try.prog := by rw [hC]; rfl
  have hCSR : C.SR = SRof Z ρ wg W := by rw [hC]; rfl
  have hSRn : ∀ b ∈ [b2, b1, xb], (∃ o, W.heap[b]? = some o ∧ isCells o) → C.SR b := fun b hb ho => by
    rw [hCSR]
    have h1 := hnew b (by simp at hb ⊢; rcases hb with rfl | rfl | rfl <;> simp)
    refine ⟨?_, h1.1, h1.2, ho⟩
    simp only [List.nodup_cons, List.mem_cons, List.not_mem_nil, or_false, not_or] at hnd hb
    omega
  have hlt : ∀ b, C.SR b → b < W.heap.size := fun b hb => by rw [hCSR] at hb; exact hb.lt
  have hslS : ∀ s n a b, ρ.q s n a b → ∃ B, Sealed W B s n a b ∧ ∀ c ∈ B, C.SR c := fun s n a b hq => by
    obtain ⟨B, hB, hBc⟩ := hsl _ _ _ _ hq
    obtain ⟨B2, hB2, hBc2⟩ := sealed_mini hB
    refine ⟨B2, hB2, fun c hc => ?_⟩
    obtain ⟨h1, h2⟩ := hBc2 c hc
    obtain ⟨h3, h4⟩ := hBc c h1
    rw [hCSR]
    exact ⟨fun e => h4 (.inr e), h3, fun e => h4 (.inl e), h2⟩
  obtain ⟨R, hR⟩ : ∃ R, R = frz C.SR W hlt := ⟨_, rfl⟩
  have hRR : ∀ w, R.R w ↔ ∀ b, C.SR b → w.heap[b]? = W.heap[b]? := fun w => by rw [hR]; rfl
  have hOG : OG R ρ := ⟨fun a b hab hb => by rw [hCSR] at hb; exact hb.2.1 a hab, fun w hw s n a b hq => by
    obtain ⟨B, hB, hc⟩ := hslS _ _ _ _ hq
    exact ⟨B, hB.keep2 fun c hcB => (hRR w).1 hw c (hc c hcB), hc⟩⟩
  have hROk : R.Ok := ⟨fun w hw b hb => by
    rw [(hRR w).1 hw b hb]
    rw [hCSR] at hb
    exact hb.2.2.2⟩
  have sb1 : C.SR b1 := hSRn b1 (by simp) ⟨_, hb1, _, _, _, rfl⟩
  have sb2 : C.SR b2 := hSRn b2 (by simp) ⟨_, hb2, _, _, _, rfl⟩
  have sxb : C.SR xb := hSRn xb (by simp) ⟨_, hx, _, _, _, rfl⟩
  have hbc : C.bc = c1 := by rw [hC]; rfl
  have hbs : C.bs = c2 := by rw [hC]; rfl
  have hCwg : C.wg = wg := by rw [hC]; rfl
  have hCCs : C.Cs = Piece C.SR s sz := by rw [hC]; rfl
  have hCN : C.N = (s.size + sz - 1) / sz := by rw [hC]; rfl
  have hCZ : C.Z = Z := by rw [hC]; rfl
  have hCj : C.j = gs1.size := by rw [hC]; rfl
  have hCw0 : C.w0 = W := by rw [hC]; rfl
  have hCT0 : C.T0 = fun b => (∃ a, ρ.r a b) ∨ b = wg ∨ b = c1 ∨ b = c2 := by rw [hC]; rfl
  have hCty : C.ty = 67 := by rw [hC]; rfl
  have hCFW : C.FW = fun _ => True := by rw [hC]; rfl
  clear hC
  have hWA : ∀ d, WA C (W.at d) KQ 0 := fun d => by unfold WA; rw [hCwg, hCty]; exact hwg
  have hlive : ∃ w, Live C w := ⟨_, _, _, hWA 0⟩
  have rd1 : ∀ w, R.R w → w.cell? ⟨b1, 0, none⟩ = some (.chan (some C.bc)) := fun w hw => by rw [cell_cells (((hRR w).1 hw b1 sb1).trans hb1), hbc]; rfl
  have rd2 : ∀ w, R.R w → w.cell? ⟨b2, 0, none⟩ = some (.chan (some C.bs)) := fun w hw => by rw [cell_cells (((hRR w).1 hw b2 sb2).trans hb2), hbs]; rfl
  have hSY : ∀ b, C.SY b ↔ b = wg ∨ b = c1 ∨ b = c2 := fun b => by unfold Cx.SY; rw [hCwg, hbc, hbs]
  have hSYn : ∀ b, C.SY b → (∀ a, ¬ ρ.r a b) ∧ ¬ Z b ∧ b < W.heap.size ∧ ¬ C.SR b := fun b hb => by
    have hb := (hSY b).1 hb
    rcases hb with rfl | rfl | rfl
    · exact ⟨(hnew _ (by simp)).1, (hnew _ (by simp)).2, (Array.getElem?_eq_some_iff.1 hwg).1, fun h => by rw [hCSR] at h; exact h.1 rfl⟩
    · refine ⟨(hnew _ (by simp)).1, (hnew _ (by simp)).2, (Array.getElem?_eq_some_iff.1 hc1).1, fun h => ?_⟩
      rw [hCSR] at h
      obtain ⟨_, _, _, o, ho, c, tt, f, rfl⟩ := h
      rw [hc1] at ho; cases ho
    · refine ⟨(hnew _ (by simp)).1, (hnew _ (by simp)).2, (Array.getElem?_eq_some_iff.1 hc2).1, fun h => ?_⟩
      rw [hCSR] at h
      obtain ⟨_, _, _, o, ho, c, tt, f, rfl⟩ := h
      rw [hc2] at ho; cases ho
  -- the plans
  have hM := p19_start (C := C) (R := R) (cs0 := cs0) hCP (s := s) (sz := sz) (fun k xv bk ob h => by rw [hCCs] at h; exact h) (by rw [hCN]; exact (ceil_N hsz).1) hsz hsz2 hs (sb := b2) sb2 rd2 hlive hKp hcs (b1 := b1) sb1 rd1 hOG hev hto (a0 := a0) (a2 := .pointer (some ⟨xb, 0, none⟩)) (a3 := a3) (a9 := a9) (a10 := .chan (some c1)) (a11 := .chan (some c2)) (a12 := .tuple #[])
    (a13 := .func (.func 25) #[] #[.pointer (some ⟨wg, 0, none⟩), .pointer (some ⟨b1, 0, none⟩), .pointer (some ⟨xb, 0, none⟩), .pointer (some ⟨b2, 0, none⟩)]) (a14 := a14) (a15 := a15) (a16 := a16) (a17 := a17) (a18 := a18) (a19 := a19) (a20 := a20) (a21 := a21) (a22 := a22) (a23 := a23) (a24 := a24) (a25 := a25) (a26 := a26) (a27 := a27) (a28 := a28)
  obtain ⟨B3, hB3, hBc3⟩ := hslS _ _ _ _ hq
  obtain ⟨D, c, hX, hle, hDn, hD⟩ := seen_of (C := C) (hlt := hlt) hB3 hBc3 sxb hx
  rw [← hR] at hX hD
  have hPW := w_all (C := C) hCP hROk (wg := wg) (cb := b1) (sb := b2) (xb := xb) (p1 := p1) (p2 := p2) ⟨sb1, sb2, rd1, rd2⟩ hX hsz (by rw [hl]; exact hs) (by omega) hle hDn hD
    (fun k hk m cap hm h1 h2 => by rw [hCCs]; exact ⟨by rw [hl] at hk; exact hk, hm, cap, h1, h2, rfl, rfl⟩) (fun k h1 h2 => by rw [hCN, ← hl]; exact (ceil_N hsz).2 k h1 h2) hlive (fun L => by rw [hCFW]; trivial) hCwg
  have hph : All C _ _ _ _ _ _ _ _ _ := phase hM hPW
  -- what holds where both begin
  obtain ⟨gA, hgA⟩ : ∃ gA, gA = G (fr 19 #[a0, to', .pointer (some ⟨xb, 0, none⟩), a3, .int .i64 0, .int .i64 0, .pointer (some ⟨b1, 0, none⟩), .pointer (some ⟨b2, 0, none⟩), .pointer (some ⟨wg, 0, none⟩), a9, .chan (some c1), .chan (some c2), .tuple #[], .func (.func 25) #[] #[.pointer (some ⟨wg, 0, none⟩), .pointer (some ⟨b1, 0, none⟩), .pointer (some ⟨xb, 0, none⟩), .pointer (some ⟨b2, 0, none⟩)], a14, a15, a16, a17, a18, a19, a20, a21, a22, a23, a24, a25, a26, a27, a28] [.inRegion ops4 [], .code c19c] [] none) cs0 := ⟨_, rfl⟩
  obtain ⟨gB, hgB⟩ : ∃ gB, gB = born Try.prog { target := .fn (.func 25) #[.pointer (some ⟨wg, 0, none⟩), .pointer (some ⟨b1, 0, none⟩), .pointer (some ⟨xb, 0, none⟩), .pointer (some ⟨b2, 0, none⟩)], args := #[] } := ⟨_, rfl⟩
  have hAr : gA.status = .running := by rw [hgA]; rfl
  have hBr : gB.status = .running := by rw [hgB]; rfl
  rw [hCwg, ← hgA] at hph
  rw [← hgB] at hph
  rw [← hgA, ← hgB] at r1
  clear hM hPW
  have hcf : Cf C ((gs1.setIfInBounds 0 gA).push gB) (W.at d1) (t1 ++ #[x, y]) q1 gA gB 0 0 (og K2.F 0 R ρ v hOG) (fun _ => False) := by
    rw [← z1] at hxx hyy
    refine cf_born (B := W.heap.size) (L := L) (by rw [hCP, hCZ]; exact S1) hCj hxx hyy (Nat.le_refl _) (by rw [hCwg]; exact hL) (fun b ⟨a, hab⟩ => ⟨(hW.dom hab).2, hOG.dis a b hab, fun h => (hSYn b h).1 a hab, by rw [hCZ]; exact hZ.r a b hab⟩)
      (fun b hb => ⟨hlt b hb, fun h => (hSYn b h).2.2.2 hb, by rw [hCZ]; rw [hCSR] at hb; exact hb.2.2.1⟩) (fun b hb => ⟨(hSYn b hb).2.2.1, by rw [hCZ]; exact (hSYn b hb).2.1⟩) (fun b hb => by rw [hCZ] at hb; exact hZ.z b hb) ⟨hW.pre ⟨rfl, rfl⟩ ⟨rfl, rfl⟩, (hRR _).2 fun _ _ => rfl⟩
      ⟨fun b _ _ => by rw [hCw0]; rfl, fun b hb _ => ?_⟩ (by rw [hCw0]; exact Nat.le_refl _) (by rw [hCw0]; exact ⟨rfl, rfl, rfl⟩)
    rw [hCT0]
    rcases hb with hb | hb
    · exact .inl hb
    · exact .inr ((hSY b).1 hb)
  have hnd' := hnd
  simp only [List.nodup_cons, List.mem_cons, List.not_mem_nil, or_false, not_or] at hnd'
  have hst : St C .work (.work false) 0 0 gA gB (og K2.F 0 R ρ v hOG) (ow R (fun _ => False) []) ((gs1.setIfInBounds 0 gA).push gB) (W.at d1) (t1 ++ #[x, y]) q1 gA gB (fun _ => False) 0 :=
    { cf := hcf
      ne := (by rw [hbc, hbs, hCwg]; omega)
      aok := .inl ⟨hAr, rfl, rfl, rfl⟩
      bok := fun _ => .inl ⟨hBr, rfl, rfl, rfl⟩
      qu := fun h => (by cases h)
      nb := .inl hAr
      iw := fun _ => ⟨fun p hp => (by cases hp), (hRR _).2 fun _ _ => rfl⟩
      ow := fun x hx => (by rcases hx with h | h; exact h; simp at h)
      c1 := ⟨0, (by rw [hbc]; exact hc1)⟩
      c2 := ⟨0, (by rw [hbs]; exact hc2)⟩
      wg := .inl ⟨.inl rfl, hWA _⟩
      dw := fun _ => rfl
      kk := fun _ => ⟨fun s hs => ⟨rfl, (by cases hs; rfl)⟩, fun h => (by cases h)⟩
      rel := fun h => (by cases h) }
  obtain ⟨n, gs', w', sl', t', q', a', k, oM, h1, h2, h3, h4, h5, h6, h7, h8, h9, h10, h11, h12, h13, h14⟩ := hph (sl := sl1) hst
  obtain ⟨a0', a1', a2', a3', a6', a9', a10', a11', a12', a13', a14', a15', a16', a17', a18', a19', a20', a21', a22', a23', a24', a27', a28', cnt, e, ρ1, v1, hOG1, l1, rfl, l3, l4⟩ := h4
  rw [hCwg] at l1
  rw [hCP] at h1 h3
  have hZ' : C.Z' = fun b => Z b ∨ b = wg := by unfold Cx.Z'; rw [hCZ, hCwg]
  rw [hZ'] at h3 h6 h7
  rw [hCw0] at h8 h9 h10 h11 h12 h14
  rw [hCT0] at h9 h14
  have hR' : ∀ b, C.SR b → w'.heap[b]? = W.heap[b]? := (hRR w').1 h5.2
  refine ⟨N + n, gs', w', sl', t', q', a', ρ1, v1, cnt, e, _, _, _, _, _, _, _, _, _, _, _, _, _, _, _, _, _, _, _, _, _, _, _, _, _, runNT_join r1 h1, h3, l1, l3, l4, h5.1, fun a b hab => (h6 b ⟨a, hab⟩).2, fun a b hab hb => ?_, h8, fun b hb hn hnn => ?_, ⟨h10, h11, h12⟩, fun s n a b hq => ?_⟩
  · rcases h14 b ⟨a, hab⟩ hb with h | h
    · exact .inl h
    · exact .inr (by simp; exact h)
  · refine h9 b hb ?_
    rintro (⟨a, h⟩ | h)
    · exact hn a h
    · exact hnn (by simp; exact h)
  · obtain ⟨B, hB, hc⟩ := hOG1.sl w' h5.2 s n a b hq
    refine ⟨B, hB, fun c hcB => ⟨fun x hx => hOG1.dis x c hx (hc c hcB), ?_⟩⟩
    have := hc c hcB
    rw [hCSR] at this
    rintro (h | h)
    · exact this.2.2.1 h
    · exact this.1 h
end
end Go.Proofs.Ytcdhmnefmbcmaaa
