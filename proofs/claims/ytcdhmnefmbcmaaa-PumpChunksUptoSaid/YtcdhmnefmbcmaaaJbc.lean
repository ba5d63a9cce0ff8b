/-
  The virtual Chunks, out of its game, whole; no condition but what each law names.
  The virtual Chunks, out of its game, beside the true memory; a sealed closure more; no condition but what each law names.
-/
import Derived.Test.YtcdhmnefmbcmaaaJbb
namespace Go.Proofs.Ytcdhmnefmbcmaaa
open Go Go.Conc Go.RowKit
noncomputable def ops9 : Array Oper := match bodyOf Tryv.f9 with | .seq (.region _ o _) _ => o | _ => #[]
noncomputable def c9 : Code := match bodyOf Tryv.f9 with | .seq _ c => c | _ => .skip
noncomputable def ops9p : Array Oper := match Tryv.post9 with | .seq (.region _ o _) _ => o | _ => #[]
noncomputable def c9p : Code := match Tryv.post9 with | .seq _ c => c | _ => .skip
theorem len_inv {x : Value} {w : World} (ty : TypeId) : (∃ A l c, x = .slice A l c) ∨ ∃ h, (Builtin.len_ #[22] ty #[x]).run Tryv.prog w = .halt h w ∧ Halt.still h := by
  by_cases hx : ∃ A l c, x = .slice A l c
  · exact .inl hx
  · right
    have h1 := und_bytesV
    have key : ∃ s, (Builtin.len_ #[22] ty #[x]).run Tryv.prog w = .halt (.stuck s) w := by
      cases x <;> first | exact absurd ⟨_, _, _, rfl⟩ hx | (refine ⟨"len: string, array, pointer to array, slice, map or channel expected", ?_⟩; simp [Builtin.len_, run_underlying h1, stuck])
    obtain ⟨s, e⟩ := key
    exact ⟨_, e, trivial⟩
section
variable {Kp : Frame → List Frame → World → Prop} (hKp : ∀ f ts v, Kp f ts v → ts = []) {Good : VS → Prop} {cs : List Frame} {c0 : Frame} {v : World}
 include hKp
set_option maxRecDepth 10000 in
/-- up to the loop -/
theorem v9_a {x y : Value} {s : ByteArray} {A : Option Addr} {l c : Nat} (hx : x = .slice A l c) (hs : (Conv.bytesToString x).run Tryv.prog v = .ok (.string s) v)
    (hev : Ev Tryv.prog Kp (fr 9 #[x, y, undef, undef, undef, undef, undef, undef, undef, undef, undef, undef, undef, undef, undef, undef, undef, undef, undef, undef] [.inRegion ops9 [0, 1, 2, 3, 4, 5], .code c9] [] none) (c0 :: cs) v) :
    s.size = l ∧ l ≤ 1073741824 ∧ Vr Tryv.prog Kp (fun s' => s' = ⟨fr 9 (v9T x y s l 0 undef undef undef undef undef undef) [.code Tryv.loop9, .inLoop Tryv.loop9, .inBlock 0, .code Tryv.post9] [] none, c0 :: cs, v⟩) ⟨fr 9 #[x, y, undef, undef, undef, undef, undef, undef, undef, undef, undef, undef, undef, undef, undef, undef, undef, undef, undef, undef] [.inRegion ops9 [0, 1, 2, 3, 4, 5], .code c9] [] none, c0 :: cs, v⟩ := by
  have start : ∀ {G : VS → Prop}, (∀ (b5 b19 : Bool), b5 = decide ((l : Int) ≤ 1073741824) → b19 = decide ((s.size : Int) = (l : Int)) → Vr Tryv.prog Kp G ⟨fr 9 #[x, y, .string s, .int .i64 l, undef, .bool b5, undef, undef, undef, undef, undef, .int .i64 0, undef, undef, undef, undef, undef, undef, .int .i64 s.size, .bool b19] [.inRegion ops9 [], .code c9] [] none, c0 :: cs, v⟩) →
      Vr Tryv.prog Kp G ⟨fr 9 #[x, y, undef, undef, undef, undef, undef, undef, undef, undef, undef, undef, undef, undef, undef, undef, undef, undef, undef, undef] [.inRegion ops9 [0, 1, 2, 3, 4, 5], .code c9] [] none, c0 :: cs, v⟩ := fun {G} next => by
    have NX := Lib.hid next
    clear next hev
    subst hx
    have el : ops9 = ops9 := rfl
    conv at el => lhs; simp only [ops9, bodyOf, Option.getD_some]
    rw [← el] at NX ⊢
    clear el
    refine vr_v hKp (.int .i64 (l : Int)) rfl rfl (fun w => ?_) ?_
    · rw [exec_bi (op := _) rfl]
      simp only [List.map_toArray, List.map_cons, List.map_nil]
      show ((Builtin.len_ #[22] 3 #[.slice A l c] >>= fun r => pure (Next.value r)) : Sem Next).run Tryv.prog w = _
      rw [Sem.run_bind, run_lenV]
      rfl
    simp only [put]; walk_nrm
    refine vr_v1 hKp (.string s) rfl rfl ?_ ?_
    · show ((convert 22 9 (.slice A l c) >>= fun r => pure (Next.value r)) : Sem Next).run Tryv.prog v = _
      rw [Sem.run_bind, conv_any, hs]
      rfl
    simp only [put]; walk_nrm
    refine vr_v hKp ?_ rfl rfl (fun w => ?_) ?_
    rotate_left
    · unfold ev; go_simp; try exact rfl
    simp only [put]; walk_nrm
    refine vr_v hKp ?_ rfl rfl (fun w => ?_) ?_
    rotate_left
    · unfold ev; go_simp; try exact rfl
    simp only [put]; walk_nrm
    refine vr_v hKp ?_ rfl rfl (fun w => ?_) ?_
    rotate_left
    · unfold ev; go_simp; try exact rfl
    simp only [put]; walk_nrm
    refine vr_v hKp ?_ rfl rfl (fun w => ?_) ?_
    rotate_left
    · unfold ev; go_simp; try exact rfl
    simp only [put]; walk_nrm
    exact NX.out _ _ rfl (by first | rfl | simp | (trace_state; rfl))
  by_cases h1 : s.size = l
  · by_cases h2 : l ≤ 1073741824
    · refine ⟨h1, h2, start fun b5 b19 e5 e19 => ?_⟩
      have e5 : b5 = true := by rw [e5]; simp; omega
      have e19 : b19 = true := by rw [e19]; simp [h1]
      subst e5 e19
      rw [h1]
      have el : c9 = c9 := rfl
      conv at el => lhs; simp only [c9, bodyOf, Option.getD_some]
      rw [← el]
      clear el
      refine vr_q hKp (fun w => s_region_end) ?_
      refine vr_q hKp (fun w => s_seq) ?_
      refine vr_q hKp (fun w => s_cond (b := true) rfl) ?_
      simp only [if_true, if_false, Bool.false_eq_true, ↓reduceIte]
      refine vr_q hKp (fun w => s_skip) ?_
      refine vr_q hKp (fun w => s_seq) ?_
      refine vr_q hKp (fun w => s_cond (b := true) rfl) ?_
      simp only [if_true, if_false, Bool.false_eq_true, ↓reduceIte]
      refine vr_q hKp (fun w => s_skip) ?_
      refine vr_q hKp (fun w => s_seq) ?_
      refine vr_q hKp (fun w => s_block) ?_
      refine vr_q hKp (fun w => s_loop) ?_
      exact .fin rfl
    · exfalso
      obtain ⟨s', ⟨T, k, rfl⟩, _, h⟩ := vr_ev (Good := fun s' => ∃ T k, s' = ⟨fr 9 T (.code (.refuse "") :: k) [] none, c0 :: cs, v⟩) (s := ⟨_, _, _⟩) hev (start fun b5 b19 e5 e19 => by
        have e5 : b5 = false := by rw [e5]; simp; omega
        have e19 : b19 = true := by rw [e19]; simp [h1]
        subst e5 e19
        have el : c9 = c9 := rfl
        conv at el => lhs; simp only [c9, bodyOf, Option.getD_some]
        rw [← el]
        clear el
        refine vr_q hKp (fun w => s_region_end) ?_
        refine vr_q hKp (fun w => s_seq) ?_
        refine vr_q hKp (fun w => s_cond (b := true) rfl) ?_
        simp only [if_true, if_false, Bool.false_eq_true, ↓reduceIte]
        refine vr_q hKp (fun w => s_skip) ?_
        refine vr_q hKp (fun w => s_seq) ?_
        refine vr_q hKp (fun w => s_cond (b := false) rfl) ?_
        simp only [if_true, if_false, Bool.false_eq_true, ↓reduceIte]
        exact .fin ⟨_, _, rfl⟩)
      exact ev_refuse hKp h
  · exfalso
    obtain ⟨s', ⟨T, k, rfl⟩, _, h⟩ := vr_ev (Good := fun s' => ∃ T k, s' = ⟨fr 9 T (.code (.refuse "") :: k) [] none, c0 :: cs, v⟩) (s := ⟨_, _, _⟩) hev (start fun b5 b19 e5 e19 => by
      have e19 : b19 = false := by rw [e19]; simp; omega
      subst e19
      have el : c9 = c9 := rfl
      conv at el => lhs; simp only [c9, bodyOf, Option.getD_some]
      rw [← el]
      clear el
      refine vr_q hKp (fun w => s_region_end) ?_
      refine vr_q hKp (fun w => s_seq) ?_
      refine vr_q hKp (fun w => s_cond (b := false) rfl) ?_
      simp only [if_true, if_false, Bool.false_eq_true, ↓reduceIte]
      exact .fin ⟨_, _, rfl⟩)
    exact ev_refuse hKp h
set_option maxRecDepth 10000 in
/-- behind the loop -/
theorem v9_b {x y : Value} {s : ByteArray} {l : Nat} {r12 r13 r14 r15 r16 r17 : Value} (hl : l ≤ 1073741824) (hev : Ev Tryv.prog Kp (fr 9 (v9T x y s l l r12 r13 r14 r15 r16 r17) [.code Tryv.post9] [] none) (c0 :: cs) v) :
    ∃ n sz : Int, y = .int .i64 n ∧ (n < 1 → sz = if (1 : Int) < l then (l : Int) else 1) ∧ (1 ≤ n → sz = n) ∧ sz ≤ 9223372036854775807 ∧
      VrP Tryv.prog Kp (fun s' => s' = ⟨c0.finish (seqV 22 s sz), cs, v⟩) ⟨fr 9 (v9T x y s l l r12 r13 r14 r15 r16 r17) [.code Tryv.post9] [] none, c0 :: cs, v⟩ := by
  have e0 : Ev Tryv.prog Kp (fr 9 (v9T x y s l l r12 r13 r14 r15 r16 r17) [.inRegion ops9p [0, 1], .code c9p] [] none) (c0 :: cs) v :=
    ev_go hKp (c := c0) (ts := cs) (ev_go hKp (c := c0) (ts := cs) hev s_seq) s_region
  obtain ⟨op, ho, hop, hw⟩ : ∃ op, ops9p[0]? = some op ∧ op.op = .binOp .lss 3 (.tmp 1) (.const (.int .i64 1)) 3 ∧ ∀ T, Region.wanted op T = true := ⟨_, rfl, rfl, fun _ => rfl⟩
  have hy : ∃ n, y = .int .i64 n := by
    refine Classical.byContradiction fun hn => ?_
    have hst : ∃ why, (execOp (ev (v9T x y s l l r12 r13 r14 r15 r16 r17)) op).run Tryv.prog v = .halt why v ∧ Halt.still why := by
      have e1 : ev (v9T x y s l l r12 r13 r14 r15 r16 r17) (.tmp 1) = y := rfl
      have e2 : ev (v9T x y s l l r12 r13 r14 r15 r16 r17) (.const (.int .i64 1)) = .int .i64 1 := rfl
      unfold execOp
      simp only [hop, e1, e2]
      cases y with
      | int kk n =>
        cases kk <;> first | exact absurd ⟨n, rfl⟩ hn | exact ⟨_, rfl, trivial⟩
      | _ => first | exact ⟨_, rfl, trivial⟩ | (rename_i y; cases y <;> exact ⟨_, rfl, trivial⟩)
    obtain ⟨why, hst, hs⟩ := hst
    exact ev_still hKp e0 ho (hw _) hst hs
  obtain ⟨n, rfl⟩ := hy
  have hmx : ∀ w, (Builtin.max_ #[3, 3] 3 #[.int .i64 1, .int .i64 (l : Int)]).run Tryv.prog w = .ok (.int .i64 (if (1 : Int) < l then (l : Int) else 1)) w := fun w => by
    simp [Builtin.max_, Builtin.max2, Sem.run_pure]
  obtain ⟨b6, hb6⟩ : ∃ b6, b6 = decide (n < 1) := ⟨_, rfl⟩
  obtain ⟨mx, hmxe⟩ : ∃ mx : Int, mx = if (1 : Int) < l then (l : Int) else 1 := ⟨_, rfl⟩
  rw [← hmxe] at hmx
  have start : ∀ {G : VS → Prop}, (∀ sz : Int, ((b6 = true ∧ sz = mx) ∨ (b6 = false ∧ sz = n)) → Vr Tryv.prog Kp G ⟨fr 9 #[x, .int .i64 n, .string s, .int .i64 l, undef, .bool true, .bool b6, .int .i64 mx, .int .i64 sz, .bool (decide (sz ≤ 9223372036854775807)), undef, .int .i64 l, r12, r13, r14, r15, r16, r17, .int .i64 l, .bool true] [.code (.seq (.cond (.tmp 9) .skip (.refuse "")) (match Tryv.post9 with | .seq _ (.seq _ (.seq _ (.seq _ c))) => c | _ => .skip))] [] none, c0 :: cs, v⟩) →
      VrP Tryv.prog Kp G ⟨fr 9 (v9T x (.int .i64 n) s l l r12 r13 r14 r15 r16 r17) [.code Tryv.post9] [] none, c0 :: cs, v⟩ := fun {G} next => by
    have NX := Lib.hid next
    clear next hev e0 hmxe
    unfold v9T
    refine vrp_at (fun x => by cases hKp _ _ _ x) s_seq ?_
    refine vr_q hKp (fun w => s_region) ?_
    simp only [List.size_toArray, List.length_cons, List.length_nil, Nat.reduceAdd, Nat.zero_add, List.range, List.range.loop]
    refine vr_v hKp ?_ rfl rfl (fun w => ?_) ?_
    rotate_left
    · unfold ev; go_simp; try exact rfl
    simp only [put]; walk_nrm
    rw [← hb6]
    refine vr_v hKp (.int .i64 mx) rfl rfl (fun w => ?_) ?_
    · rw [exec_bi (op := _) rfl]
      simp only [List.map_toArray, List.map_cons, List.map_nil]
      show ((Builtin.max_ #[3, 3] 3 #[.int .i64 1, .int .i64 (l : Int)] >>= fun r => pure (Next.value r)) : Sem Next).run Tryv.prog w = _
      rw [Sem.run_bind, hmx]
      rfl
    simp only [put]; walk_nrm
    refine vr_q hKp (fun w => s_region_end) ?_
    refine vr_q hKp (fun w => s_seq) ?_
    cases b6 with
    | true =>
      refine vr_q hKp (fun w => s_cond (b := true) rfl) ?_
      simp only [if_true, if_false, Bool.false_eq_true, ↓reduceIte]
      refine vr_q hKp (fun w => s_region) ?_
      simp only [List.size_toArray, List.length_cons, List.length_nil, Nat.reduceAdd, Nat.zero_add, List.range, List.range.loop]
      refine vr_v hKp ?_ rfl rfl (fun w => ?_) ?_
      rotate_left
      · unfold ev; go_simp; try exact rfl
      simp only [put]; walk_nrm
      refine vr_q hKp (fun w => s_region_end) ?_
      refine vr_q hKp (fun w => s_seq) ?_
      refine vr_q hKp (fun w => s_region) ?_
      simp only [List.size_toArray, List.length_cons, List.length_nil, Nat.reduceAdd, Nat.zero_add, List.range, List.range.loop]
      refine vr_v hKp ?_ rfl rfl (fun w => ?_) ?_
      rotate_left
      · unfold ev; go_simp; try exact rfl
      simp only [put]; walk_nrm
      refine vr_q hKp (fun w => s_region_end) ?_
      exact NX.out mx (.inl ⟨rfl, rfl⟩)
    | false =>
      refine vr_q hKp (fun w => s_cond (b := false) rfl) ?_
      simp only [if_true, if_false, Bool.false_eq_true, ↓reduceIte]
      refine vr_q hKp (fun w => s_region) ?_
      simp only [List.size_toArray, List.length_cons, List.length_nil, Nat.reduceAdd, Nat.zero_add, List.range, List.range.loop]
      refine vr_v hKp ?_ rfl rfl (fun w => ?_) ?_
      rotate_left
      · unfold ev; go_simp; try exact rfl
      simp only [put]; walk_nrm
      refine vr_q hKp (fun w => s_region_end) ?_
      refine vr_q hKp (fun w => s_seq) ?_
      refine vr_q hKp (fun w => s_region) ?_
      simp only [List.size_toArray, List.length_cons, List.length_nil, Nat.reduceAdd, Nat.zero_add, List.range, List.range.loop]
      refine vr_v hKp ?_ rfl rfl (fun w => ?_) ?_
      rotate_left
      · unfold ev; go_simp; try exact rfl
      simp only [put]; walk_nrm
      refine vr_q hKp (fun w => s_region_end) ?_
      exact NX.out n (.inr ⟨rfl, rfl⟩)
  have hmle : mx ≤ 9223372036854775807 := by rw [hmxe]; split <;> omega
  have fin : ∀ sz : Int, sz ≤ 9223372036854775807 → Vr Tryv.prog Kp (fun s' => s' = ⟨c0.finish (seqV 22 s sz), cs, v⟩) ⟨fr 9 #[x, .int .i64 n, .string s, .int .i64 l, undef, .bool true, .bool b6, .int .i64 mx, .int .i64 sz, .bool true, undef, .int .i64 l, r12, r13, r14, r15, r16, r17, .int .i64 l, .bool true] [.code (.seq (.cond (.tmp 9) .skip (.refuse "")) (match Tryv.post9 with | .seq _ (.seq _ (.seq _ (.seq _ c))) => c | _ => .skip))] [] none, c0 :: cs, v⟩ := fun sz hsz => by
    clear start hev e0
    refine vr_q hKp (fun w => s_seq) ?_
    refine vr_q hKp (fun w => s_cond (b := true) rfl) ?_
    simp only [if_true, if_false, Bool.false_eq_true, ↓reduceIte]
    refine vr_q hKp (fun w => s_skip) ?_
    refine vr_q hKp (fun w => s_seq) ?_
    refine vr_q hKp (fun w => s_region) ?_
    simp only [List.size_toArray, List.length_cons, List.length_nil, Nat.reduceAdd, Nat.zero_add, List.range, List.range.loop]
    refine vr_v hKp ?_ rfl rfl (fun w => ?_) ?_
    rotate_left
    · unfold ev; go_simp; try exact rfl
    simp only [put]; walk_nrm
    refine vr_v hKp ?_ rfl rfl (fun w => ?_) ?_
    rotate_left
    · unfold ev; go_simp; try exact rfl
    simp only [put]; walk_nrm
    refine vr_q hKp (fun w => s_region_end) ?_
    refine vr_q hKp (fun w => s_ret) ?_
    exact vr_leave hKp Tryv.func9 (fun w => res_tmp (t := 4) rfl w) (.fin rfl)
  have hszle : ∀ sz : Int, ((b6 = true ∧ sz = mx) ∨ (b6 = false ∧ sz = n)) → sz ≤ 9223372036854775807 := fun sz h => by
    rcases h with ⟨_, rfl⟩ | ⟨_, rfl⟩
    · exact hmle
    · refine Classical.byContradiction fun hlt => ?_
      obtain ⟨s', ⟨T, k, rfl⟩, _, h⟩ := vr_ev (Good := fun s' => ∃ T k, s' = ⟨fr 9 T (.code (.refuse "") :: k) [] none, c0 :: cs, v⟩) (s := ⟨_, _, _⟩) hev (start fun sz' h' => by
        have e9 : decide (sz ≤ 9223372036854775807) = false := by simpa using hlt
        rcases h' with ⟨h1, h2⟩ | ⟨h1, h2⟩
        · have h3 := ‹b6 = false›
          rw [h1] at h3; cases h3
        · subst h2
          rw [e9]
          refine vr_q hKp (fun w => s_seq) ?_
          refine vr_q hKp (fun w => s_cond (b := false) rfl) ?_
          simp only [if_true, if_false, Bool.false_eq_true, ↓reduceIte]
          exact .fin ⟨_, _, rfl⟩).vr
      exact ev_refuse hKp h
  obtain ⟨sz, hsz⟩ : ∃ sz : Int, (b6 = true ∧ sz = mx) ∨ (b6 = false ∧ sz = n) := by cases b6 <;> simp
  refine ⟨n, sz, rfl, fun h => ?_, fun h => ?_, hszle sz hsz, start fun sz' h' => ?_⟩
  · rcases hsz with ⟨_, h2⟩ | ⟨h1, _⟩
    · rw [h2, hmxe]
    · rw [hb6] at h1; simp at h1; omega
  · rcases hsz with ⟨h1, _⟩ | ⟨_, h2⟩
    · rw [hb6] at h1; simp at h1; omega
    · exact h2
  · have e : sz' = sz := by
      rcases hsz with ⟨h1, h2⟩ | ⟨h1, h2⟩ <;> rcases h' with ⟨h3, h4⟩ | ⟨h3, h4⟩ <;> first | exact h4.trans h2.symm | (rw [h1] at h3; cases h3)
    subst e
    have e9 : decide (sz' ≤ 9223372036854775807) = true := by simpa using hszle sz' hsz
    rw [e9]
    exact fin sz' (hszle sz' hsz)
end
end Go.Proofs.Ytcdhmnefmbcmaaa

namespace Go.Proofs.Ytcdhmnefmbcmaaa
open Go Go.Conc Go.RowKit
theorem strOfNums_get {ks : List Int} {i : Nat} (h : i < (strOfNums ks).size) {k : Int} (hk : ks[i]? = some k) : (strOfNums ks)[i] = UInt8.ofNat k.toNat := by
  have h1 : (strOfNums ks).data.toList[i]? = some (strOfNums ks)[i] := by
    rw [Array.getElem?_toList]
    exact Array.getElem?_eq_getElem _
  rw [strOfNums_data, List.getElem?_map, hk] at h1
  exact (Option.some.inj h1).symm
section
variable {Kp : Frame → List Frame → World → Prop} (hKp : ∀ f ts v, Kp f ts v → ts = []) {cs : List Frame} {c0 : Frame} {v w : World} {ρ : Rn}
 include hKp
set_option maxRecDepth 10000 in
theorem v9_inv (hW : RelW K1.F 0 ρ v w) {x y x' y' : Value} (hx : RelV K1.F ρ x x') (hy : RelV K1.F ρ y y') (hev : Ev Tryv.prog Kp (Frame.enter Tryv.prog 9 #[x, y] .normal) (c0 :: cs) v) :
    ∃ (s : ByteArray) (n sz : Int), y' = .int .i64 n ∧ (n < 1 → sz = if (1 : Int) < s.size then (s.size : Int) else 1) ∧ (1 ≤ n → sz = n) ∧ sz ≤ 9223372036854775807 ∧ s.size ≤ 1073741824 ∧
      NxP Tryv.prog Kp ⟨c0.finish (seqV 22 s sz), cs, v⟩ ⟨Frame.enter Tryv.prog 9 #[x, y] .normal, c0 :: cs, v⟩ ∧
      ((∃ c, x' = .slice none 0 c ∧ s.size = 0) ∨ ∃ a' c, x' = .slice (some a') s.size c ∧ (0 < s.size → ∃ b, ρ.r b a'.block) ∧ ∀ i (h : i < s.size), w.cell? (a'.add i) = some (.int .u8 (s[i].toNat : Int))) := by
  have hvr : VrP Tryv.prog Kp (fun s' => s' = ⟨fr 9 #[x, y, undef, undef, undef, undef, undef, undef, undef, undef, undef, undef, undef, undef, undef, undef, undef, undef, undef, undef] [.inRegion ops9 [0, 1, 2, 3, 4, 5], .code c9] [] none, c0 :: cs, v⟩) ⟨Frame.enter Tryv.prog 9 #[x, y] .normal, c0 :: cs, v⟩ := by
    rw [enter_fr Tryv.func9 rfl]
    simp only [List.size_toArray, List.length_cons, List.length_nil, Nat.reduceAdd, Nat.reduceSub, Array.replicate_succ, Array.replicate_zero, List.push_toArray, List.append_toArray, List.nil_append, List.cons_append]
    refine vrp_at (fun x => by cases hKp _ _ _ x) s_seq ?_
    refine vr_q hKp (fun w => s_region) ?_
    simp only [List.size_toArray, List.length_cons, List.length_nil, Nat.reduceAdd, Nat.zero_add, List.range, List.range.loop]
    exact .fin rfl
  obtain ⟨s', rfl, nA⟩ := hvr
  have hevA := Ev.nextP (s := ⟨_, _, _⟩) hev nA
  simp only at hevA
  obtain ⟨T, hT⟩ : ∃ T : Array Value, T = #[x, y, undef, undef, undef, undef, undef, undef, undef, undef, undef, undef, undef, undef, undef, undef, undef, undef, undef, undef] := ⟨_, rfl⟩
  obtain ⟨op0, ho0, hop0, hw0, hd0⟩ : ∃ op, ops9[0]? = some op ∧ op.op = .call { callee := .builtin .len, args := #[.tmp 0], argTypes := #[22] } ∧ (∀ T, Region.wanted op T = true) ∧ op.dst = some 3 := ⟨_, rfl, rfl, fun _ => rfl, rfl⟩
  obtain ⟨op1, ho1, hop1, hw1⟩ : ∃ op, ops9[1]? = some op ∧ op.op = .convert 22 9 (.tmp 0) ∧ ∀ T, Region.wanted op T = true := ⟨_, rfl, rfl, fun _ => rfl⟩
  have hx0 : ∀ T : Array Value, T.getD 0 undef = x → (execOp (ev T) op0) = ((Builtin.len_ #[22] op0.type #[x] >>= fun r => pure (Go.Next.value r)) : Sem Go.Next) := fun T h => by
    rw [exec_bi hop0]
    simp only [List.map_toArray, List.map_cons, List.map_nil]
    rw [show ev T (.tmp 0) = x from h]
    rfl
  have hsl : ∃ A l c, x = .slice A l c := by
    rcases len_inv (x := x) (w := v) op0.type with h | ⟨h, h1, h2⟩
    · exact h
    · exfalso
      refine ev_still hKp hevA ho0 (hw0 _) (hh := h) ?_ h2
      rw [hx0 _ rfl, Sem.run_bind, h1]
      rfl
  obtain ⟨A, l, c, rfl⟩ := hsl
  rcases bytes_inv (T := T1) hW hx with ⟨h, h1, h2⟩ | ⟨ks, hok, hcase⟩
  · exfalso
    have hevB := ev_go hKp (c := c0) (ts := cs) hevA (s_val (kd := false) (v := .int .i64 (l : Int)) (w' := v) ho0 (hw0 _) (.inl rfl) (by rw [hx0 _ rfl, Sem.run_bind, run_lenV]; rfl))
    refine ev_still hKp hevB ho1 (hw1 _) (hh := h) ?_ h2
    have e : execOp (ev (put #[.slice A l c, y, undef, undef, undef, undef, undef, undef, undef, undef, undef, undef, undef, undef, undef, undef, undef, undef, undef, undef] op0.dst (.int .i64 (l : Int)))) op1 = ((convert 22 9 (.slice A l c) >>= fun r => pure (Go.Next.value r)) : Sem Go.Next) := by
      unfold execOp
      simp only [hop1, hd0]
      rfl
    rw [e, Sem.run_bind, conv_any]
    have h1' : (Conv.bytesToString (.slice A l c)).run Tryv.prog v = .halt h v := h1
    rw [h1']
    rfl
  · have hok' : (Conv.bytesToString (.slice A l c)).run Tryv.prog v = .ok (.string (strOfNums ks)) v := hok
    obtain ⟨hsz, hl, hvr⟩ := v9_a hKp (y := y) rfl hok' hevA
    obtain ⟨s', rfl, nB, hevB⟩ := vr_ev (s := ⟨_, _, _⟩) hevA hvr
    have hksl : ks.length = l := by rw [← hsz, strOfNums_size]
    have hcell : ∀ (i : Nat) (k : Int), ks[i]? = some k → ∃ a, A = some a ∧ v.cell? (a.add i) = some (.int .u8 k) := fun i k hk => by
      rcases hcase with ⟨_, _, _, _, rfl⟩ | ⟨a, a', l', c', e1, _, _, _, h⟩
      · cases hk
      · cases e1
        exact ⟨a, rfl, (h i k hk).1⟩
    obtain ⟨⟨q12, q13, q14, q15, q16, q17, nC⟩, hall⟩ := v9_loop hKp (y := y) (s := strOfNums ks) (c0 := c0) (cs := cs) (c := c) rfl hl hksl hcell l 0 (by omega) _ _ _ _ _ _ hevB
    have hevC := Ev.nextP (s := ⟨_, _, _⟩) hevB nC
    obtain ⟨n, sz, rfl, e1, e2, e3, s', rfl, nD⟩ := v9_b hKp hl hevC
    obtain rfl := rel_flat_eq hy rfl
    refine ⟨strOfNums ks, n, sz, rfl, by rw [hsz]; exact e1, e2, e3, by rw [hsz]; exact hl, ?_, ?_⟩
    · rcases nB with e | nB
      · rw [e] at nC
        exact (nD.trans nC).trans nA
      · exact ((nD.trans nC).trans nB).trans nA
    · rcases hcase with ⟨l', c', e1, e2, rfl⟩ | ⟨a, a', l', c', e1, e2, e3, e4, h⟩
      · cases e1
        refine .inl ⟨c, ?_, rfl⟩
        rw [e2]
        have : l = 0 := by rw [← hksl]; rfl
        rw [this]
      · cases e1
        refine .inr ⟨a', c, by rw [e2, hsz], fun hp => ⟨_, (e3 (by omega)).1⟩, fun i hi => ?_⟩
        have hi' : i < ks.length := by rw [hksl, ← hsz]; exact hi
        obtain ⟨k, hk⟩ : ∃ k, ks[i]? = some k := ⟨_, List.getElem?_eq_getElem hi'⟩
        have hr := hall i k (Nat.zero_le _) hk
        rw [(h i k hk).2, strOfNums_get hi hk]
        have e5 : ((UInt8.ofNat k.toNat).toNat : Int) = k := by
          rw [UInt8.toNat_ofNat']
          omega
        rw [e5]
end
/-- one more sealed closure -/
def Rn.sealMore (ρ : Rn) (s : ByteArray) (n : Int) (a b : Nat) : Rn := { r := ρ.r, c := ρ.c, q := fun s' n' a' b' => ρ.q s' n' a' b' ∨ (s' = s ∧ n' = n ∧ a' = a ∧ b' = b) }
theorem Rn.le_sealMore {ρ : Rn} {s : ByteArray} {n : Int} {a b : Nat} : ρ.le (ρ.sealMore s n a b) := ⟨fun _ _ h => h, fun _ _ h => h, fun _ _ _ _ h => .inl h⟩
theorem RelW.sealMore {F : Fs} {N : Nat} {ρ : Rn} {v w : World} (h : RelW F N ρ v w) {s : ByteArray} {n : Int} {a b : Nat} {B : List Nat} (hS : Sealed w B s n a b) (hB : ∀ c ∈ B, ∀ x, ¬ ρ.r x c) : RelW F N (ρ.sealMore s n a b) v w :=
  ⟨⟨h.ok.fn, h.ok.inj, h.ok.cfn, h.ok.apart, h.ok.low⟩, fun a b hab => by
    obtain ⟨o, o', h1, h2, h3⟩ := h.obj a b hab
    exact ⟨o, o', h1, h2, h3.mono Rn.le_sealMore⟩, h.tok, h.nv, h.nw, h.os, fun s' n' a' b' hq => by
    rcases hq with hq | ⟨rfl, rfl, rfl, rfl⟩
    · exact h.seq _ _ _ _ hq
    · exact ⟨B, hS, hB⟩⟩
end Go.Proofs.Ytcdhmnefmbcmaaa
