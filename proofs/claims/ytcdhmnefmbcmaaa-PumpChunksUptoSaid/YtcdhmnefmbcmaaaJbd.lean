/-
  The true Chunks, as a plan: its boxes, the copy of its bytes, its size; no condition but what each law names.
  Chunks beside goroutines that only leave: from its call to its return; no condition but what each law names.
-/
import Derived.Test.YtcdhmnefmbcmaaaJbc
namespace Go.Proofs.Ytcdhmnefmbcmaaa
open Go Go.Conc Go.RowKit
noncomputable def opsC : Array Oper := match bodyOf Try.f9 with | .seq _ (.seq (.region _ o _) _) => o | _ => #[]
noncomputable def cC : Code := match bodyOf Try.f9 with | .seq _ (.seq _ c) => c | _ => .skip
theorem ev_eqnil0 {n c : Nat} {w : World} : (binOp .eql 22 (.slice none n c) (.slice none 0 0)).events Try.prog w #[] = #[] := by rfl
theorem ev_st_slice {P : Program} {w : World} {es : Array Event} {a : Addr} {m : Mode} {b : Option Addr} {l c : Nat} : (store a (.slice b l c) m).events P w es = storedEv P w es a (.slice b l c) m := events_store P w es a _ m rfl
theorem bi_max {ty : TypeId} {fl : Array Bool} {b : Nat} {w : World} :
    (builtin .max #[3, 3] ty fl #[.int .i64 1, .int .i64 (b : Int)]).run Try.prog w = .ok (.value (.int .i64 (if (1 : Int) < (b : Int) then (b : Int) else 1))) w ∧ (builtin .max #[3, 3] ty fl #[.int .i64 1, .int .i64 (b : Int)]).events Try.prog w #[] = #[] := ⟨rfl, rfl⟩
theorem bi_app0 {ty : TypeId} {fl : Array Bool} {a a' : Addr} {c : Nat} {w : World} :
    (builtin .append #[22, 22] ty fl #[.slice (some a) 0 0, .slice (some a') 0 c]).run Try.prog w = .ok (.value (.slice (some a) 0 0)) w ∧ (builtin .append #[22, 22] ty fl #[.slice (some a) 0 0, .slice (some a') 0 c]).events Try.prog w #[] = #[] := ⟨rfl, rfl⟩
section
variable {SR : Nat → Prop} {J : Goroutine → Own SR → Prop} (hJ : Pln Try.prog true J) {R : RF SR} {Gb : Nat → Prop} {L : List (Nat × Obj)} {cs : List Frame}
 include hJ
set_option maxRecDepth 10000 in
theorem c21_nil {n c : Nat} {c22 : Frame} {o : Own SR} (next : J (G (c22.finish (.slice none 0 0)) cs) o) : J (G (Frame.enter Try.prog 21 #[.slice none n c] .normal) (c22 :: cs)) o := by
  rw [enter_fr Try.func21 rfl]
  simp only [Try.f21, List.size_toArray, List.length_cons, List.length_nil, Nat.reduceAdd, Nat.reduceSub, Array.replicate_succ, Array.replicate_zero, List.push_toArray, List.append_toArray, List.nil_append, List.cons_append]
  refine pj_q hJ (fun w => s_seq) rfl ?_
  refine pj_q hJ (fun w => s_region) rfl ?_
  simp only [List.size_toArray, List.length_cons, List.length_nil, Nat.reduceAdd, Nat.zero_add, List.range, List.range.loop]
  refine pj_vl hJ (v := ?_) rfl rfl (by first | exact .inl rfl | exact .inr (fun c h => by cases h)) (fun w hw => ?_) (fun w hw => ?_) ?_
  rotate_left
  · unfold ev; go_simp; try exact rfl
  · unfold ev; simp [go_sem]
  simp only [put]; walk_nrm
  refine pj_q hJ (fun w => s_region_end) rfl ?_
  refine pj_q hJ (fun w => s_seq) rfl ?_
  refine pj_q hJ (fun w => s_seq) rfl ?_
  refine pj_q hJ (fun w => s_region) rfl ?_
  simp only [List.size_toArray, List.length_cons, List.length_nil, Nat.reduceAdd, Nat.zero_add, List.range, List.range.loop]
  refine pj_vl hJ (v := ?_) rfl rfl (by first | exact .inl rfl | exact .inr (fun c h => by cases h)) (fun w hw => ?_) (fun w hw => ?_) ?_
  rotate_left
  · unfold ev; go_simp; try exact rfl
  · unfold ev; simp [go_sem]
  simp only [put]; walk_nrm
  refine pj_vl hJ (v := ?_) rfl rfl (by first | exact .inl rfl | exact .inr (fun c h => by cases h)) (fun w hw => ?_) (fun w hw => ?_) ?_
  rotate_left
  · unfold ev; go_simp; try exact rfl
  · unfold ev; simp [go_sem, ev_eqnil0]
  simp only [put]; walk_nrm
  refine pj_q hJ (fun w => s_region_end) rfl ?_
  refine pj_q hJ (fun w => s_cond (b := true) rfl) rfl ?_
  simp only [if_true, if_false, Bool.false_eq_true, ↓reduceIte]
  refine pj_q hJ (fun w => s_seq) rfl ?_
  refine pj_q hJ (fun w => s_region) rfl ?_
  simp only [List.size_toArray, List.length_cons, List.length_nil, Nat.reduceAdd, Nat.zero_add, List.range, List.range.loop]
  refine pj_vl hJ (v := ?_) rfl rfl (by first | exact .inl rfl | exact .inr (fun c h => by cases h)) (fun w hw => ?_) (fun w hw => ?_) ?_
  rotate_left
  · unfold ev; go_simp; try exact rfl
  · unfold ev; simp [go_sem]
  simp only [put]; walk_nrm
  refine pj_q hJ (fun w => s_region_end) rfl ?_
  refine pj_q hJ (fun w => s_ret) rfl ?_
  exact pj_leave (v := .slice none 0 0) hJ Try.func21 (fun w => res_tmp (t := 2) rfl w) next
set_option maxRecDepth 10000 in
theorem c21_emp {a : Addr} {c : Nat} {c22 : Frame} (next : ∀ m0, (∃ w, (ow R Gb L).I w ∧ w.heap.size = m0) → J (G (c22.finish (.slice (some ⟨m0, 0, none⟩) 0 0)) cs) (ow R Gb ((m0, .cells #[] 5) :: L))) :
    J (G (Frame.enter Try.prog 21 #[.slice (some a) 0 c] .normal) (c22 :: cs)) (ow R Gb L) := by
  rw [enter_fr Try.func21 rfl]
  simp only [Try.f21, List.size_toArray, List.length_cons, List.length_nil, Nat.reduceAdd, Nat.reduceSub, Array.replicate_succ, Array.replicate_zero, List.push_toArray, List.append_toArray, List.nil_append, List.cons_append]
  refine pj_q hJ (fun w => s_seq) rfl ?_
  refine pj_q hJ (fun w => s_region) rfl ?_
  simp only [List.size_toArray, List.length_cons, List.length_nil, Nat.reduceAdd, Nat.zero_add, List.range, List.range.loop]
  refine pj_vl hJ (v := ?_) rfl rfl (by first | exact .inl rfl | exact .inr (fun c h => by cases h)) (fun w hw => ?_) (fun w hw => ?_) ?_
  rotate_left
  · unfold ev; go_simp; try exact rfl
  · unfold ev; simp [go_sem]
  simp only [put]; walk_nrm
  refine pj_q hJ (fun w => s_region_end) rfl ?_
  refine pj_q hJ (fun w => s_seq) rfl ?_
  refine pj_q hJ (fun w => s_seq) rfl ?_
  refine pj_q hJ (fun w => s_region) rfl ?_
  simp only [List.size_toArray, List.length_cons, List.length_nil, Nat.reduceAdd, Nat.zero_add, List.range, List.range.loop]
  refine pj_vl hJ (v := ?_) rfl rfl (by first | exact .inl rfl | exact .inr (fun c h => by cases h)) (fun w hw => ?_) (fun w hw => ?_) ?_
  rotate_left
  · unfold ev; go_simp; try exact rfl
  · unfold ev; simp [go_sem]
  simp only [put]; walk_nrm
  refine pj_vl hJ (v := ?_) rfl rfl (by first | exact .inl rfl | exact .inr (fun c h => by cases h)) (fun w hw => ?_) (fun w hw => ?_) ?_
  rotate_left
  · unfold ev; go_simp; try exact rfl
  · unfold ev; simp [go_sem, ev_eqnil]
  simp only [put]; walk_nrm
  refine pj_q hJ (fun w => s_region_end) rfl ?_
  refine pj_q hJ (fun w => s_cond (b := false) rfl) rfl ?_
  simp only [if_true, if_false, Bool.false_eq_true, ↓reduceIte]
  refine pj_q hJ (fun w => s_skip) rfl ?_
  refine pj_q hJ (fun w => s_seq) rfl ?_
  refine pj_q hJ (fun w => s_region) rfl ?_
  simp only [List.size_toArray, List.length_cons, List.length_nil, Nat.reduceAdd, Nat.zero_add, List.range, List.range.loop]
  refine pj_new1 hJ (fun m => .slice (some ⟨m, 0, none⟩) 0 0) (.cells #[] 5) rfl rfl (.inl rfl) (fun w hw => ?_) (fun w hw => ?_) fun m0 hm0 => ?_
  · unfold ev; simp [go_sem, execOp, Instr.buildSlice, newRow, Instr.fill]
  · unfold ev; simp [go_sem, execOp, Instr.buildSlice, newRow, Instr.fill]
  simp only [put]; walk_nrm
  refine pj_vl hJ (v := ?_) rfl rfl (by first | exact .inl rfl | exact .inr (fun c h => by cases h)) (fun w hw => ?_) (fun w hw => ?_) ?_
  rotate_left
  · unfold ev; go_simp; try exact rfl
  · unfold ev; simp [go_sem]
  simp only [put]; walk_nrm
  refine pj_vl hJ (v := ?_) rfl rfl (by first | exact .inl rfl | exact .inr (fun c h => by cases h)) (fun w hw => ?_) (fun w hw => ?_) ?_
  rotate_left
  · rw [exec_bi (op := _) rfl]; simp only [List.map_toArray, List.map_cons, List.map_nil]; exact bi_app0.1
  · rw [exec_bi (op := _) rfl]; simp only [List.map_toArray, List.map_cons, List.map_nil]; exact no_ev bi_app0.2
  simp only [put]; walk_nrm
  refine pj_vl hJ (v := ?_) rfl rfl (by first | exact .inl rfl | exact .inr (fun c h => by cases h)) (fun w hw => ?_) (fun w hw => ?_) ?_
  rotate_left
  · unfold ev; go_simp; try exact rfl
  · unfold ev; simp [go_sem]
  simp only [put]; walk_nrm
  refine pj_q hJ (fun w => s_region_end) rfl ?_
  refine pj_q hJ (fun w => s_ret) rfl ?_
  exact pj_leave (v := .slice (some ⟨m0, 0, none⟩) 0 0) hJ Try.func21 (fun w => res_tmp (t := 2) rfl w) (next m0 hm0)
set_option maxRecDepth 10000 in
theorem c21_full {a : Addr} {n c : Nat} {l : List UInt8} (hl : l.length = n) (hn : 0 < n) (hle : n ≤ 1073741824) (hnews : ∀ w, R.R w → ∀ j v, (byt l)[j]? = some v → w.cell? (a.add j) = some v) (haS : SR a.block) {c22 : Frame}
    (next : ∀ m0 m cap, n ≤ cap → (∃ w, (ow R Gb L).I w ∧ w.heap.size = m0) → m0 < m → J (G (c22.finish (.slice (some ⟨m, 0, none⟩) n cap)) cs) (ow R Gb ((m, .cells ((byt l).toArray ++ Array.replicate (cap - n) (.int .u8 0)) 5) :: (m0, .cells #[] 5) :: L))) :
    J (G (Frame.enter Try.prog 21 #[.slice (some a) n c] .normal) (c22 :: cs)) (ow R Gb L) := by
  rw [enter_fr Try.func21 rfl]
  simp only [Try.f21, List.size_toArray, List.length_cons, List.length_nil, Nat.reduceAdd, Nat.reduceSub, Array.replicate_succ, Array.replicate_zero, List.push_toArray, List.append_toArray, List.nil_append, List.cons_append]
  refine pj_q hJ (fun w => s_seq) rfl ?_
  refine pj_q hJ (fun w => s_region) rfl ?_
  simp only [List.size_toArray, List.length_cons, List.length_nil, Nat.reduceAdd, Nat.zero_add, List.range, List.range.loop]
  refine pj_vl hJ (v := ?_) rfl rfl (by first | exact .inl rfl | exact .inr (fun c h => by cases h)) (fun w hw => ?_) (fun w hw => ?_) ?_
  rotate_left
  · unfold ev; go_simp; try exact rfl
  · unfold ev; simp [go_sem]
  simp only [put]; walk_nrm
  refine pj_q hJ (fun w => s_region_end) rfl ?_
  refine pj_q hJ (fun w => s_seq) rfl ?_
  refine pj_q hJ (fun w => s_seq) rfl ?_
  refine pj_q hJ (fun w => s_region) rfl ?_
  simp only [List.size_toArray, List.length_cons, List.length_nil, Nat.reduceAdd, Nat.zero_add, List.range, List.range.loop]
  refine pj_vl hJ (v := ?_) rfl rfl (by first | exact .inl rfl | exact .inr (fun c h => by cases h)) (fun w hw => ?_) (fun w hw => ?_) ?_
  rotate_left
  · unfold ev; go_simp; try exact rfl
  · unfold ev; simp [go_sem]
  simp only [put]; walk_nrm
  refine pj_vl hJ (v := ?_) rfl rfl (by first | exact .inl rfl | exact .inr (fun c h => by cases h)) (fun w hw => ?_) (fun w hw => ?_) ?_
  rotate_left
  · unfold ev; go_simp; try exact rfl
  · unfold ev; simp [go_sem, ev_eqnil]
  simp only [put]; walk_nrm
  refine pj_q hJ (fun w => s_region_end) rfl ?_
  refine pj_q hJ (fun w => s_cond (b := false) rfl) rfl ?_
  simp only [if_true, if_false, Bool.false_eq_true, ↓reduceIte]
  refine pj_q hJ (fun w => s_skip) rfl ?_
  refine pj_q hJ (fun w => s_seq) rfl ?_
  refine pj_q hJ (fun w => s_region) rfl ?_
  simp only [List.size_toArray, List.length_cons, List.length_nil, Nat.reduceAdd, Nat.zero_add, List.range, List.range.loop]
  refine pj_new1 hJ (fun m => .slice (some ⟨m, 0, none⟩) 0 0) (.cells #[] 5) rfl rfl (.inl rfl) (fun w hw => ?_) (fun w hw => ?_) fun m0 hm0 => ?_
  · unfold ev; simp [go_sem, execOp, Instr.buildSlice, newRow, Instr.fill]
  · unfold ev; simp [go_sem, execOp, Instr.buildSlice, newRow, Instr.fill]
  simp only [put]; walk_nrm
  refine pj_vl hJ (v := ?_) rfl rfl (by first | exact .inl rfl | exact .inr (fun c h => by cases h)) (fun w hw => ?_) (fun w hw => ?_) ?_
  rotate_left
  · unfold ev; go_simp; try exact rfl
  · unfold ev; simp [go_sem]
  simp only [put]; walk_nrm
  refine pj_app hJ (.tmp 5) (.tmp 6) rfl (t := 22) (e := 5) (z := .int .u8 0) Try.underlying22 rfl rfl rfl rfl rfl (b0 := m0) rfl (List.mem_cons_self ..) (a := a) (n := n) (c := c) rfl (news := byt l) (by simp [byt, hl]) hn hle byt_one hnews haS rfl rfl rfl fun m cap h1 h2 h3 => ?_
  simp only [put]; walk_nrm
  refine pj_vl hJ (v := ?_) rfl rfl (by first | exact .inl rfl | exact .inr (fun c h => by cases h)) (fun w hw => ?_) (fun w hw => ?_) ?_
  rotate_left
  · unfold ev; go_simp; try exact rfl
  · unfold ev; simp [go_sem]
  simp only [put]; walk_nrm
  refine pj_q hJ (fun w => s_region_end) rfl ?_
  refine pj_q hJ (fun w => s_ret) rfl ?_
  refine pj_leave hJ Try.func21 (fun w => res_tmp rfl w) ?_
  refine next m0 m cap h1 hm0 ?_
  obtain ⟨w, hw, e⟩ := h3
  have := (Array.getElem?_eq_some_iff.1 (hw.1 (m0, .cells #[] 5) (List.mem_cons_self ..))).1
  omega
set_option maxRecDepth 10000 in
/-- up to the copy -/
theorem c9_pre {A : Option Addr} {l c : Nat} {n : Int} (next : ∀ p1 p2, p1 < p2 → (∃ w, (ow R Gb L).I w ∧ w.heap.size = p1) → J (G (Frame.enter Try.prog 21 #[.slice A l c] .normal) (fr 9 #[.slice A l c, .int .i64 n, .pointer (some ⟨p1, 0, none⟩), .pointer (some ⟨p2, 0, none⟩), .nilFunc, .slice A l c, undef, undef, undef, undef, undef, undef, undef] [.inRegion opsC [1, 2], .code cC] [] none :: cs))
      (ow R Gb ((p2, .cells #[.int .i64 n] 3) :: (p1, .cells #[.slice A l c] 22) :: L))) :
    J (G (Frame.enter Try.prog 9 #[.slice A l c, .int .i64 n] .normal) cs) (ow R Gb L) := by
  have NX := Lib.hid next
  clear next
  rw [enter_fr Try.func9 rfl]
  simp only [Try.f9, List.size_toArray, List.length_cons, List.length_nil, Nat.reduceAdd, Nat.reduceSub, Array.replicate_succ, Array.replicate_zero, List.push_toArray, List.append_toArray, List.nil_append, List.cons_append]
  refine pj_q hJ (fun w => s_seq) rfl ?_
  refine pj_q hJ (fun w => s_region) rfl ?_
  simp only [List.size_toArray, List.length_cons, List.length_nil, Nat.reduceAdd, Nat.zero_add, List.range, List.range.loop]
  refine pj_new1 hJ (fun m => .pointer (some ⟨m, 0, none⟩)) (.cells #[.slice A l c] 22) rfl rfl (.inl rfl) (fun w hw => ?_) (fun w hw => ?_) fun p1 hp1 => ?_
  · unfold ev; simp [go_sem, execOp, Instr.box]
  · unfold ev; simp [go_sem, execOp, Instr.box]
  simp only [put]; walk_nrm
  refine pj_new1 hJ (fun m => .pointer (some ⟨m, 0, none⟩)) (.cells #[.int .i64 n] 3) rfl rfl (.inl rfl) (fun w hw => ?_) (fun w hw => ?_) fun p2 hp2 => ?_
  · unfold ev; simp [go_sem, execOp, Instr.box]
  · unfold ev; simp [go_sem, execOp, Instr.box]
  simp only [put]; walk_nrm
  have hpp : p1 < p2 := by
    obtain ⟨w, hw, e⟩ := hp2
    have := (Array.getElem?_eq_some_iff.1 (hw.1 (p1, .cells #[.slice A l c] 22) (List.mem_cons_self ..))).1
    omega
  have fB : ∀ (w : World), (ow R Gb ((p2, .cells #[.int .i64 n] 3) :: (p1, .cells #[.slice A l c] 22) :: L)).I w → w.cell? ⟨p1, 0, none⟩ = some (.slice A l c) := fun w hw => by
    rw [cell_cells (hw.1 (p1, .cells #[.slice A l c] 22) (List.mem_cons_of_mem _ (List.mem_cons_self ..)))]; rfl
  have rB : (ow R Gb ((p2, .cells #[.int .i64 n] 3) :: (p1, .cells #[.slice A l c] 22) :: L)).O p1 := .inr (List.mem_map_of_mem (List.mem_cons_of_mem _ (List.mem_cons_self ..)))
  refine pj_vl hJ (v := ?_) rfl rfl (by first | exact .inl rfl | exact .inr (fun c h => by cases h)) (fun w hw => ?_) (fun w hw => ?_) ?_
  rotate_left
  · unfold ev; go_simp; try exact rfl
  · unfold ev; simp [go_sem]
  simp only [put]; walk_nrm
  refine pj_q hJ (fun w => s_region_end) rfl ?_
  refine pj_q hJ (fun w => s_seq) rfl ?_
  refine pj_q hJ (fun w => s_region) rfl ?_
  simp only [List.size_toArray, List.length_cons, List.length_nil, Nat.reduceAdd, Nat.zero_add, List.range, List.range.loop]
  refine pj_vl hJ (v := ?_) rfl rfl (by first | exact .inl rfl | exact .inr (fun c h => by cases h)) (fun w hw => ?_) (fun w hw => ?_) ?_
  rotate_left
  · have f0 := fB w hw; unfold ev; go_simp; exact rfl
  · have f0 := fB w hw; unfold ev; simp [go_sem, f0]; exact ⟨.inl rB,rfl⟩
  simp only [put]; walk_nrm
  refine pj_enter hJ (f := 21) (args := #[.slice A l c]) rfl rfl (.inl rfl) (fun w hw => ?_) (fun w hw => ?_) ?_
  · rw [exec_call (op := _) (f := 21) (vs := #[.slice A l c]) rfl (by simp only [List.map_toArray, List.map_cons, List.map_nil]; rfl)]; rfl
  · rw [exec_call (op := _) (f := 21) (vs := #[.slice A l c]) rfl (by simp only [List.map_toArray, List.map_cons, List.map_nil]; rfl), ev_clone]; intro e he; simp at he
  exact NX.out p1 p2 hpp hp1
set_option maxRecDepth 10000 in
/-- behind the copy -/
theorem c9_post {X : List (Nat × Obj)} {x' : Value} {D : Option Addr} {l c p1 p2 : Nat} {n : Int} {cF : Frame} {t5 : Value} (h12 : p1 ≠ p2) (hS1 : ¬ SR p1) (hS2 : ¬ SR p2) (hX : ∀ p ∈ X, p.1 ≠ p1 ∧ p.1 ≠ p2)
    (next : ∀ sz : Int, (n < 1 → sz = if (1 : Int) < l then (l : Int) else 1) → (1 ≤ n → sz = n) → J (G (cF.finish (.func (.func 22) #[] #[.pointer (some ⟨p1, 0, none⟩), .pointer (some ⟨p2, 0, none⟩)])) cs) (ow R Gb (X ++ [(p2, .cells #[.int .i64 sz] 3), (p1, .cells #[.slice D l c] 22)]))) :
    J (G ((fr 9 #[x', .int .i64 n, .pointer (some ⟨p1, 0, none⟩), .pointer (some ⟨p2, 0, none⟩), .nilFunc, t5, undef, undef, undef, undef, undef, undef, undef] [.inRegion opsC [1, 2], .code cC] [] none).finish (.slice D l c)) (cF :: cs)) (ow R Gb (X ++ [(p2, .cells #[.int .i64 n] 3), (p1, .cells #[x'] 22)])) := by
  have NX := Lib.hid next
  clear next
  have e1 : opsC = opsC := rfl
  conv at e1 => lhs; simp only [opsC, bodyOf, Try.f9, Option.getD_some]
  have e2 : cC = cC := rfl
  conv at e2 => lhs; simp only [cC, bodyOf, Try.f9, Option.getD_some]
  rw [← e1, ← e2, fr_finish (o := _) rfl]
  clear e1 e2
  simp only [put]; walk_nrm
  have key : ∀ (x v : Value) (p : Nat × Obj), p ∈ X ++ [(p2, .cells #[x] 3), (p1, .cells #[v] 22)] ↔ p ∈ X ∨ p = (p2, .cells #[x] 3) ∨ p = (p1, .cells #[v] 22) := fun x v p => by simp
  refine pj_st hJ (t := 22) (L' := X ++ [(p2, .cells #[.int .i64 n] 3), (p1, .cells #[.slice D l c] 22)]) (b := p1) (x := x') (v := .slice D l c) (by simp) hS1 (fun y => by simp) (fun p hp => ?_) rfl rfl (.inl rfl) (fun w f0 f1 => ?_) (fun w f0 f1 => ?_) ?_
  · rcases (key _ _ _).1 hp with h | rfl | rfl
    · exact .inr ⟨(key _ _ _).2 (.inl h), (hX p h).1⟩
    · exact .inr ⟨(key _ _ _).2 (.inr (.inl rfl)), fun e => h12 e.symm⟩
    · exact .inl rfl
  · unfold ev; go_simp; try exact rfl
  · unfold ev; intro e he; simp [go_sem, f0, f1, ev_st_slice] at he; exact he
  simp only [put]; walk_nrm
  have fB : ∀ (w : World), (ow R Gb (X ++ [(p2, .cells #[.int .i64 n] 3), (p1, .cells #[.slice D l c] 22)])).I w → w.cell? ⟨p2, 0, none⟩ = some (.int .i64 n) := fun w hw => by
    rw [cell_cells (hw.1 (p2, .cells #[.int .i64 n] 3) (by simp))]; rfl
  have fA : ∀ (w : World), (ow R Gb (X ++ [(p2, .cells #[.int .i64 n] 3), (p1, .cells #[.slice D l c] 22)])).I w → w.cell? ⟨p1, 0, none⟩ = some (.slice D l c) := fun w hw => by
    rw [cell_cells (hw.1 (p1, .cells #[.slice D l c] 22) (by simp))]; rfl
  have rB : (ow R Gb (X ++ [(p2, .cells #[.int .i64 n] 3), (p1, .cells #[.slice D l c] 22)])).O p2 := .inr (by simp)
  have rA : (ow R Gb (X ++ [(p2, .cells #[.int .i64 n] 3), (p1, .cells #[.slice D l c] 22)])).O p1 := .inr (by simp)
  refine pj_q hJ (fun w => s_region_end) rfl ?_
  refine pj_q hJ (fun w => s_seq) rfl ?_
  refine pj_q hJ (fun w => s_seq) rfl ?_
  refine pj_q hJ (fun w => s_region) rfl ?_
  simp only [List.size_toArray, List.length_cons, List.length_nil, Nat.reduceAdd, Nat.zero_add, List.range, List.range.loop]
  refine pj_vl hJ (v := ?_) rfl rfl (by first | exact .inl rfl | exact .inr (fun c h => by cases h)) (fun w hw => ?_) (fun w hw => ?_) ?_
  rotate_left
  · have f0 := fB w hw; unfold ev; go_simp; exact rfl
  · have f0 := fB w hw; unfold ev; simp [go_sem, f0]; exact ⟨.inl rB,rfl⟩
  simp only [put]; walk_nrm
  refine pj_vl hJ (v := ?_) rfl rfl (by first | exact .inl rfl | exact .inr (fun c h => by cases h)) (fun w hw => ?_) (fun w hw => ?_) ?_
  rotate_left
  · unfold ev; go_simp; try exact rfl
  · unfold ev; simp [go_sem]
  simp only [put]; walk_nrm
  refine pj_q hJ (fun w => s_region_end) rfl ?_
  by_cases hn : n < 1
  · have hd : decide (n < 1) = true := by simpa using hn
    rw [hd]
    refine pj_q hJ (fun w => s_cond (b := true) rfl) rfl ?_
    simp only [if_true, if_false, Bool.false_eq_true, ↓reduceIte]
    refine pj_q hJ (fun w => s_region) rfl ?_
    simp only [List.size_toArray, List.length_cons, List.length_nil, Nat.reduceAdd, Nat.zero_add, List.range, List.range.loop]
    refine pj_vl hJ (v := ?_) rfl rfl (by first | exact .inl rfl | exact .inr (fun c h => by cases h)) (fun w hw => ?_) (fun w hw => ?_) ?_
    rotate_left
    · have f0 := fA w hw; unfold ev; go_simp; exact rfl
    · have f0 := fA w hw; unfold ev; simp [go_sem, f0]; exact ⟨.inl rA,rfl⟩
    simp only [put]; walk_nrm
    refine pj_vl hJ (v := ?_) rfl rfl (by first | exact .inl rfl | exact .inr (fun c h => by cases h)) (fun w hw => ?_) (fun w hw => ?_) ?_
    rotate_left
    · rw [exec_bi (op := _) rfl]; simp only [List.map_toArray, List.map_cons, List.map_nil]; exact bi_len.1
    · rw [exec_bi (op := _) rfl]; simp only [List.map_toArray, List.map_cons, List.map_nil]; exact no_ev bi_len.2
    simp only [put]; walk_nrm
    refine pj_vl hJ (v := ?_) rfl rfl (by first | exact .inl rfl | exact .inr (fun c h => by cases h)) (fun w hw => ?_) (fun w hw => ?_) ?_
    rotate_left
    · rw [exec_bi (op := _) rfl]; simp only [List.map_toArray, List.map_cons, List.map_nil]; exact bi_max.1
    · rw [exec_bi (op := _) rfl]; simp only [List.map_toArray, List.map_cons, List.map_nil]; exact no_ev bi_max.2
    simp only [put]; walk_nrm
    refine pj_st hJ (t := 3) (L' := X ++ [(p2, .cells #[.int .i64 (if (1 : Int) < l then (l : Int) else 1)] 3), (p1, .cells #[.slice D l c] 22)]) (b := p2) (x := .int .i64 n) (v := .int .i64 (if (1 : Int) < l then (l : Int) else 1)) (by simp) hS2 (fun y => by simp) (fun p hp => ?_) rfl rfl (.inl rfl) (fun w f0 f1 => ?_) (fun w f0 f1 => ?_) ?_
    · rcases (key _ _ _).1 hp with h | rfl | rfl
      · exact .inr ⟨(key _ _ _).2 (.inl h), (hX p h).2⟩
      · exact .inl rfl
      · exact .inr ⟨(key _ _ _).2 (.inr (.inr rfl)), h12⟩
    · unfold ev; go_simp; try exact rfl
    · unfold ev; intro e he; simp [go_sem, f0, f1] at he; exact he
    simp only [put]; walk_nrm
    refine pj_q hJ (fun w => s_region_end) rfl ?_
    refine pj_q hJ (fun w => s_seq) rfl ?_
    refine pj_q hJ (fun w => s_region) rfl ?_
    simp only [List.size_toArray, List.length_cons, List.length_nil, Nat.reduceAdd, Nat.zero_add, List.range, List.range.loop]
    refine pj_vl hJ (v := ?_) rfl rfl (by first | exact .inl rfl | exact .inr (fun c h => by cases h)) (fun w hw => ?_) (fun w hw => ?_) ?_
    rotate_left
    · unfold ev; go_simp; try exact rfl
    · unfold ev; simp [go_sem, Instr.makeFunc]
    simp only [put]; walk_nrm
    refine pj_vl hJ (v := ?_) rfl rfl (by first | exact .inl rfl | exact .inr (fun c h => by cases h)) (fun w hw => ?_) (fun w hw => ?_) ?_
    rotate_left
    · unfold ev; go_simp; try exact rfl
    · unfold ev; simp [go_sem]
    simp only [put]; walk_nrm
    refine pj_q hJ (fun w => s_region_end) rfl ?_
    refine pj_q hJ (fun w => s_ret) rfl ?_
    exact pj_leave hJ Try.func9 (fun w => res_tmp (t := 4) rfl w) (NX.out _ (fun _ => rfl) (fun h => absurd hn (by omega)))
  · have hd : decide (n < 1) = false := by simpa using hn
    rw [hd]
    refine pj_q hJ (fun w => s_cond (b := false) rfl) rfl ?_
    simp only [if_true, if_false, Bool.false_eq_true, ↓reduceIte]
    refine pj_q hJ (fun w => s_skip) rfl ?_
    refine pj_q hJ (fun w => s_seq) rfl ?_
    refine pj_q hJ (fun w => s_region) rfl ?_
    simp only [List.size_toArray, List.length_cons, List.length_nil, Nat.reduceAdd, Nat.zero_add, List.range, List.range.loop]
    refine pj_vl hJ (v := ?_) rfl rfl (by first | exact .inl rfl | exact .inr (fun c h => by cases h)) (fun w hw => ?_) (fun w hw => ?_) ?_
    rotate_left
    · unfold ev; go_simp; try exact rfl
    · unfold ev; simp [go_sem, Instr.makeFunc]
    simp only [put]; walk_nrm
    refine pj_vl hJ (v := ?_) rfl rfl (by first | exact .inl rfl | exact .inr (fun c h => by cases h)) (fun w hw => ?_) (fun w hw => ?_) ?_
    rotate_left
    · unfold ev; go_simp; try exact rfl
    · unfold ev; simp [go_sem]
    simp only [put]; walk_nrm
    refine pj_q hJ (fun w => s_region_end) rfl ?_
    refine pj_q hJ (fun w => s_ret) rfl ?_
    exact pj_leave hJ Try.func9 (fun w => res_tmp (t := 4) rfl w) (NX.out _ (fun h => absurd h hn) (fun _ => rfl))
end
end Go.Proofs.Ytcdhmnefmbcmaaa

namespace Go.Proofs.Ytcdhmnefmbcmaaa
open Go Go.Conc

/-- Chunks has returned: its closure is sealed -/
def FinK {SR : Nat → Prop} (c0 : Frame) (cs : List Frame) (s : ByteArray) (sz : Int) (a : Goroutine) (o : Own SR) : Prop :=
  ∃ p1 p2 B, a = G (c0.finish (seqT 22 p1 p2)) cs ∧ (∀ w, o.I w → Sealed w B s sz p1 p2) ∧ ∀ c ∈ B, o.O c

section
variable {Z : Nat → Prop} {gs : Array Goroutine} {t : Trace} {q : Nat → Nat} {sl : Option (Nat × Nat)} {w v : World} {ρ : Rn} {s : ByteArray} {sz : Int} {c0' : Frame} {cs0 : List Frame} {a : Goroutine}
theorem ps_sealMore {SR : Nat → Prop} {R : RF SR} (hpl : Ps Try.prog (FinK (SR := SR) c0' cs0 s sz) a (ow R (fun _ => False) [])) (hS : Sit Try.prog Z gs w t a q) (hW : RelW K1.F 0 ρ v w) (hZ : Apart Z ρ w) (hsl : SlOk Z ρ w) (hR : R.R w) (hSR : ∀ b, SR b → b < w.heap.size ∧ ¬ Z b) :
    ∃ (N : Nat) (gs' : Array Goroutine) (w' : World) (sl' : Option (Nat × Nat)) (t' : Trace) (q' : Nat → Nat) (p1 p2 : Nat),
      runNT Try.prog N (crowd gs w sl) t = (.next (crowd gs' w' sl'), t') ∧ Sit Try.prog Z gs' w' t' (G (c0'.finish (seqT 22 p1 p2)) cs0) q' ∧ Dv Z ρ w Z (ρ.sealMore s sz p1 p2) v w' := by
  have hO0 : ∀ b, ¬ (ow R (fun _ => False) []).O b := fun b h => by
    rcases h with h | h
    · exact h
    · simp at h
  obtain ⟨N, gs', w', sl', t', q', a', o', r1, z1, S1, ⟨p1, p2, B, rfl, hSe, hB⟩, I1, E1⟩ := hpl (sl := sl) hS.sitD ⟨fun p hp => (by cases hp), hR⟩ (fun b hb => absurd hb (hO0 b)) hSR hZ.z
  have hold : ∀ b, b < w.heap.size → w'.heap[b]? = w.heap[b]? := fun b hb => E1.keep b hb (hO0 b)
  have hnew : ∀ c ∈ B, w.heap.size ≤ c ∧ ¬ Z c := fun c hc => ⟨(E1.new c (hB c hc)).elim (fun h => absurd h (hO0 c)) id, (E1.own c (hB c hc)).2⟩
  have hBr : ∀ c ∈ B, ∀ x, ¬ ρ.r x c := fun c hc x hx => by
    have h1 := (hW.dom hx).2
    have h2 := (hnew c hc).1
    omega
  refine ⟨N, gs', w', sl', t', q', p1, p2, r1, ⟨S1.at0, S1.leavers, (S1.past.mono (Nat.le_refl _)).past⟩, Rn.le_sealMore, (hW.kept hold E1.sz E1.same.2.1).sealMore (hSe w' I1) hBr, ⟨hZ.r, fun b hb => Nat.lt_of_lt_of_le (hZ.z b hb) E1.sz⟩, fun s' n' a' b' hq => ?_, fun b hb => hb, fun b hb => .inl hb, fun a b hab _ => ⟨a, hab⟩, E1.sz, fun b hb _ => hold b hb, E1.same⟩
  rcases hq with hq | ⟨rfl, rfl, rfl, rfl⟩
  · exact hsl.kept hold s' n' a' b' hq
  · exact ⟨B, hSe w' I1, fun c hc => ⟨hBr c hc, (hnew c hc).2⟩⟩
end

theorem byt_get {s : ByteArray} {i : Nat} (h : i < s.size) (n : Nat) : ((byt s.data.toList).toArray ++ Array.replicate n (Value.int .u8 0))[i]? = some (.int .u8 (s[i].toNat : Int)) := by
  have h1 : s.data.toList[i]? = some s[i] := by
    rw [Array.getElem?_toList]
    exact Array.getElem?_eq_getElem _
  have hl : (byt s.data.toList).toArray.size = s.size := by
    simp only [byt, List.size_toArray, List.length_map, Array.length_toList]
    rfl
  rw [Array.getElem?_append_left (by omega), List.getElem?_toArray]
  simp only [byt, List.getElem?_map, h1]
  rfl
section
variable {Z : Nat → Prop} {gs : Array Goroutine} {t : Trace} {q : Nat → Nat} {sl : Option (Nat × Nat)} {w v : World} {ρ : Rn} {x y x' y' : Value} {Kp : Frame → List Frame → World → Prop} {c0 c0' : Frame} {cs cs0 : List Frame}
theorem chunks_sit (hS : Sit Try.prog Z gs w t (G (Frame.enter Try.prog 9 #[x', y'] .normal) (c0' :: cs0)) q) (hW : RelW K1.F 0 ρ v w) (hZ : Apart Z ρ w) (hsl : SlOk Z ρ w) (hx : RelV K1.F ρ x x') (hy : RelV K1.F ρ y y')
    (hev : Ev Tryv.prog Kp (Frame.enter Tryv.prog 9 #[x, y] .normal) (c0 :: cs) v) (hKp : ∀ f ts v, Kp f ts v → ts = []) :
    ∃ (N : Nat) (gs' : Array Goroutine) (w' : World) (sl' : Option (Nat × Nat)) (t' : Trace) (q' : Nat → Nat) (s : ByteArray) (sz : Int) (p1 p2 : Nat),
      runNT Try.prog N (crowd gs w sl) t = (.next (crowd gs' w' sl'), t') ∧ Sit Try.prog Z gs' w' t' (G (c0'.finish (seqT 22 p1 p2)) cs0) q' ∧
      NxP Tryv.prog Kp ⟨c0.finish (seqV 22 s sz), cs, v⟩ ⟨Frame.enter Tryv.prog 9 #[x, y] .normal, c0 :: cs, v⟩ ∧ Dv Z ρ w Z (ρ.sealMore s sz p1 p2) v w' := by
  obtain ⟨s, n, sz, rfl, e1, e2, e3, e4, hn, hcase⟩ := v9_inv hKp hW hx hy hev
  have hsz1 : 1 ≤ sz := by
    by_cases h : n < 1
    · rw [e1 h]; split <;> omega
    · rw [e2 (by omega)]; omega
  have huniq : ∀ sz' : Int, (n < 1 → sz' = if (1 : Int) < s.size then (s.size : Int) else 1) → (1 ≤ n → sz' = n) → sz' = sz := fun sz' h1 h2 => by
    by_cases h : n < 1
    · rw [h1 h, e1 h]
    · rw [h2 (by omega), e2 (by omega)]
  have lt_of : ∀ {w' : World} {b : Nat} {o : Obj}, w'.heap[b]? = some o → b < w'.heap.size := fun h => (Array.getElem?_eq_some_iff.1 h).1
  rcases hcase with ⟨c, rfl, h0⟩ | ⟨a', c, rfl, hab, hc⟩
  · -- no bytes at all
    have hpl : Ps Try.prog (FinK (SR := fun _ => False) c0' cs0 s sz) (G (Frame.enter Try.prog 9 #[.slice none 0 c, .int .i64 n] .normal) (c0' :: cs0)) (ow rfT (fun _ => False) []) := c9_pre ps_pln fun p1 p2 h12 hp1 => c21_nil ps_pln (c9_post (J := Ps Try.prog (FinK (SR := fun _ => False) c0' cs0 s sz)) ps_pln (X := []) (Nat.ne_of_lt h12) (fun h => h) (fun h => h) (fun p hp => by cases hp) fun sz' f1 f2 => Ps.fin ⟨p1, p2, [p1, p2], rfl, fun w' hI => by
      obtain rfl := huniq sz' (by rw [h0]; exact f1) f2
      have g2 := hI.1 (p2, .cells #[.int .i64 sz'] 3) (by simp)
      have g1 := hI.1 (p1, .cells #[.slice none 0 0] 22) (by simp)
      exact ⟨fun c hc => by simp only [List.mem_cons, List.not_mem_nil, or_false] at hc; rcases hc with rfl | rfl; exact lt_of g1; exact lt_of g2, by simp, by simp, hsz1, e3, e4, ⟨none, 0, _, by rw [h0]; exact g1, .inl h0⟩, _, g2⟩,
      fun c hc => .inr (by simp at hc ⊢; rcases hc with rfl | rfl <;> simp)⟩)
    obtain ⟨N, gs', w', sl', t', q', p1, p2, k1, k2, k3⟩ := ps_sealMore (sl := sl) hpl hS hW hZ hsl trivial (fun b hb => hb.elim)
    exact ⟨N, gs', w', sl', t', q', s, sz, p1, p2, k1, k2, hn, k3⟩
  · by_cases hpos : s.size = 0
    · rw [hpos] at hS
      have hpl : Ps Try.prog (FinK (SR := fun _ => False) c0' cs0 s sz) (G (Frame.enter Try.prog 9 #[.slice (some a') 0 c, .int .i64 n] .normal) (c0' :: cs0)) (ow rfT (fun _ => False) []) := c9_pre ps_pln fun p1 p2 h12 hp1 => c21_emp ps_pln fun m0 hm0 => by
        have hm : p2 < m0 := by
          obtain ⟨w1, hw1, rfl⟩ := hm0
          exact lt_of (hw1.1 (p2, .cells #[.int .i64 n] 3) (by simp))
        exact @c9_post (fun _ => False) (Ps Try.prog (FinK c0' cs0 s sz)) ps_pln rfT (fun _ => False) cs0 [(m0, .cells #[] 5)] (.slice (some a') 0 c) (some ⟨m0, 0, none⟩) 0 0 p1 p2 n c0' (.slice (some a') 0 c) (Nat.ne_of_lt h12) (fun h => h) (fun h => h) (fun p hp => by simp only [List.mem_singleton] at hp; subst hp; exact ⟨by omega, by omega⟩) fun sz' f1 f2 => Ps.fin ⟨p1, p2, [p1, p2], rfl, fun w' hI => by
          obtain rfl := huniq sz' (by rw [hpos]; exact f1) f2
          have g2 := hI.1 (p2, .cells #[.int .i64 sz'] 3) (by simp)
          have g1 := hI.1 (p1, .cells #[.slice (some ⟨m0, 0, none⟩) 0 0] 22) (by simp)
          exact ⟨fun c hc => by simp only [List.mem_cons, List.not_mem_nil, or_false] at hc; rcases hc with rfl | rfl; exact lt_of g1; exact lt_of g2, by simp, by simp, hsz1, e3, e4, ⟨_, 0, _, by rw [hpos]; exact g1, .inl hpos⟩, _, g2⟩,
          fun c hc => .inr (by simp at hc ⊢; rcases hc with rfl | rfl <;> simp)⟩
      obtain ⟨N, gs', w', sl', t', q', p1, p2, k1, k2, k3⟩ := ps_sealMore (sl := sl) hpl hS hW hZ hsl trivial (fun b hb => hb.elim)
      exact ⟨N, gs', w', sl', t', q', s, sz, p1, p2, k1, k2, hn, k3⟩
    · obtain ⟨xa, hxa⟩ := hab (by omega)
      have hbl : a'.block < w.heap.size := (hW.dom hxa).2
      have hll : s.data.toList.length = s.size := by rw [Array.length_toList]; rfl
      obtain ⟨R, hR⟩ : ∃ R : RF (fun b => b = a'.block), R = frz (fun b => b = a'.block) w (fun b hb => by rw [hb]; exact hbl) := ⟨_, rfl⟩
      have hRR : ∀ w', R.R w' → w'.heap[a'.block]? = w.heap[a'.block]? := fun w' h => by rw [hR] at h; exact h _ rfl
      have hnews : ∀ w', R.R w' → ∀ j v, (byt s.data.toList)[j]? = some v → w'.cell? (a'.add j) = some v := fun w' h j v hv => by
        have hj : j < s.size := by
          have := (List.getElem?_eq_some_iff.1 hv).1
          simp only [byt, List.length_map, hll] at this
          exact this
        have h1 := byt_get hj 0
        have h2 : v = .int .u8 (s[j].toNat : Int) := by
          have h3 := (byt_get hj 0).symm
          rw [Array.getElem?_append_left (by simp only [byt, List.size_toArray, List.length_map, hll]; exact hj), List.getElem?_toArray, hv] at h3
          exact (Option.some.inj h3).symm
        have h3 : (a'.add j).block = a'.block := by unfold Addr.add; split <;> rfl
        have h4 : w'.cell? (a'.add j) = w.cell? (a'.add j) := by
          unfold World.cell?
          rw [h3, hRR w' h]
        rw [h4, hc j hj, h2]
      have hpl : Ps Try.prog (FinK (SR := fun b => b = a'.block) c0' cs0 s sz) (G (Frame.enter Try.prog 9 #[.slice (some a') s.size c, .int .i64 n] .normal) (c0' :: cs0)) (ow R (fun _ => False) []) := c9_pre ps_pln fun p1 p2 h12 hp1 => c21_full ps_pln hll (by omega) e4 hnews rfl fun m0 m cap hcap hm0 hm => by
        have hm2 : p2 < m0 := by
          obtain ⟨w1, hw1, rfl⟩ := hm0
          exact lt_of (hw1.1 (p2, .cells #[.int .i64 n] 3) (by simp))
        have hap : a'.block < p1 := by
          obtain ⟨w1, hw1, rfl⟩ := hp1
          exact R.lt w1 hw1.2 _ rfl
        exact @c9_post (fun b => b = a'.block) (Ps Try.prog (FinK c0' cs0 s sz)) ps_pln R (fun _ => False) cs0 [(m, .cells ((byt s.data.toList).toArray ++ Array.replicate (cap - s.size) (.int .u8 0)) 5), (m0, .cells #[] 5)] (.slice (some a') s.size c) (some ⟨m, 0, none⟩) s.size cap p1 p2 n c0' (.slice (some a') s.size c) (Nat.ne_of_lt h12) (fun h => by have h : p1 = a'.block := h; omega) (fun h => by have h : p2 = a'.block := h; omega) (fun p hp => by simp only [List.mem_cons, List.not_mem_nil, or_false] at hp; rcases hp with rfl | rfl <;> exact ⟨by simp only; omega, by simp only; omega⟩) fun sz' f1 f2 => Ps.fin ⟨p1, p2, [p1, p2, m], rfl, fun w' hI => by
          obtain rfl := huniq sz' f1 f2
          have g2 := hI.1 (p2, .cells #[.int .i64 sz'] 3) (by simp)
          have g1 := hI.1 (p1, .cells #[.slice (some ⟨m, 0, none⟩) s.size cap] 22) (by simp)
          have g3 := hI.1 (m, .cells ((byt s.data.toList).toArray ++ Array.replicate (cap - s.size) (.int .u8 0)) 5) (by simp)
          exact ⟨fun c hc => by simp only [List.mem_cons, List.not_mem_nil, or_false] at hc; rcases hc with rfl | rfl | rfl; exact lt_of g1; exact lt_of g2; exact lt_of g3, by simp, by simp, hsz1, e3, e4, ⟨_, cap, _, g1, .inr ⟨m, 0, _, _, rfl, by simp, g3, by simp only [byt, Array.size_append, List.size_toArray, List.length_map, hll, Array.size_replicate]; omega, hcap, fun i hi => by rw [Nat.zero_add]; exact byt_get hi _⟩⟩, _, g2⟩,
          fun c hc => .inr (by simp at hc ⊢; rcases hc with rfl | rfl | rfl <;> simp)⟩
      obtain ⟨N, gs', w', sl', t', q', p1, p2, k1, k2, k3⟩ := ps_sealMore (sl := sl) hpl hS hW hZ hsl (by rw [hR]; exact fun _ _ => rfl) (fun b hb => by rw [hb]; exact ⟨hbl, hZ.r _ _ hxa⟩)
      exact ⟨N, gs', w', sl', t', q', s, sz, p1, p2, k1, k2, hn, k3⟩
end
end Go.Proofs.Ytcdhmnefmbcmaaa
