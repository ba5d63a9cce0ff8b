/-
  Copy's beginning: its boxes, its channels, its group; no condition but what each law names.
-/
import Derived.Test.YtcdhmnefmbcmaaaJay
import Derived.Test.YtcdhmnefmbcmaaaJav
namespace Go.Proofs.Ytcdhmnefmbcmaaa
open Go Go.Conc Go.RowKit
theorem share4 {q : Prop} (H : Nat → Nat → Nat → Nat → Prop) {p : Nat → Nat → Nat → Nat → Prop} (k : (∀ a b c d, H a b c d → p a b c d) → q) (h : ∀ a b c d, H a b c d → p a b c d) : q := k h
noncomputable def c19a : Code := match bodyOf Try.f19 with | .seq _ (.seq _ (.seq _ c)) => c | _ => .skip
noncomputable def ops3 : Array Oper := match c19a with | .seq (.region _ o _) _ => o | _ => #[]
noncomputable def c19b : Code := match c19a with | .seq _ c => c | _ => .skip
theorem ev_add {p : Array Value} {w : World} : (callFunc 24 p).events Try.prog w #[] = #[] := by rfl
theorem ev_mk1 (w : World) : (Instr.makeChan 56 (.int .i64 0)).events Try.prog w #[] = #[] := by simp [Instr.makeChan, asInt, go_sem]
theorem ev_mk2 (w : World) : (Instr.makeChan 57 (.int .i64 0)).events Try.prog w #[] = #[] := by simp [Instr.makeChan, asInt, go_sem]
section
variable {J : Goroutine → Own (fun _ : Nat => False) → Prop} (hJ : Pln Try.prog true J) {R : RF (fun _ : Nat => False)} {Gb : Nat → Prop} {fv : Fn} {ps qs : Array Value} {to : Value} {cs : List Frame}
 include hJ
set_option maxRecDepth 10000 in
set_option maxHeartbeats 4000000 in
theorem c19_pre (next : ∀ xb c1 c2 b1 b2 wg, [wg, b2, b1, c2, c1, xb].Nodup → J (G (Frame.enter Try.prog 24 #[.pointer (some ⟨wg, 0, none⟩), .int .i64 1] .normal)
      (fr 19 #[.func fv ps qs, to, .pointer (some ⟨xb, 0, none⟩), undef, .int .i64 0, .int .i64 0, .pointer (some ⟨b1, 0, none⟩), .pointer (some ⟨b2, 0, none⟩), .pointer (some ⟨wg, 0, none⟩), undef, .chan (some c1), .chan (some c2), undef, undef, undef, undef, undef, undef, undef, undef, undef, undef, undef, undef, undef, undef, undef, undef, undef] [.inRegion ops3 [0], .code c19b] [] none :: cs))
      (ow R Gb [(wg, .cells #[.int .u64 0, .int .u32 0] 67), (b2, .cells #[.chan (some c2)] 57), (b1, .cells #[.chan (some c1)] 56), (c2, .chan 0 #[] false 0 0 false), (c1, .chan 0 #[] false 0 0 false), (xb, .cells #[.func fv ps qs] 25)])) :
    J (G (Frame.enter Try.prog 19 #[.func fv ps qs, to] .normal) cs) (ow R Gb []) := by
  have Next := Lib.hid next
  clear next
  rw [enter_fr Try.func19 rfl]
  simp only [Try.f19, List.size_toArray, List.length_cons, List.length_nil, Nat.reduceAdd, Nat.reduceSub, Array.replicate_succ, Array.replicate_zero, List.push_toArray, List.append_toArray, List.nil_append, List.cons_append]
  refine pj_q hJ (fun w => s_seq) rfl ?_
  refine pj_q hJ (fun w => s_region) rfl ?_
  simp only [List.size_toArray, List.length_cons, List.length_nil, Nat.reduceAdd, Nat.zero_add, List.range, List.range.loop]
  refine pj_new hJ (fun n => .pointer (some ⟨n, 0, none⟩)) (.cells #[.func fv ps qs] 25) rfl rfl (.inl rfl) (fun w => ?_) (fun w => ?_) fun xb hxb _ => ?_
  · unfold ev; go_simp; try exact rfl
  · unfold ev; simp [go_sem]
  simp only [put]; walk_nrm
  refine pj_vl hJ (v := ?_) rfl rfl (by first | exact .inl rfl | exact .inr (fun c h => by cases h)) (fun w hw => ?_) (fun w hw => ?_) ?_
  rotate_left
  · unfold ev; go_simp; try exact rfl
  · unfold ev; simp [go_sem]
  simp only [put]; walk_nrm
  refine pj_vl hJ (v := ?_) rfl rfl (by first | exact .inl rfl | exact .inr (fun c h => by cases h)) (fun w hw => ?_) (fun w hw => ?_) ?_
  rotate_left
  · unfold ev; go_simp; try exact rfl
  · unfold ev; simp [go_sem]
  simp only [put]; walk_nrm
  refine pj_q hJ (fun w => s_region_end) rfl ?_
  refine pj_q hJ (fun w => s_seq) rfl ?_
  refine gen_tailj fun k1 hk1 => ?_
  apply share4 (fun c1 c2 b1 b2 => [b2, b1, c2, c1, xb].Nodup)
  · intro fin
    refine pj_draw hJ [[0, 1, 2, 3, 4, 5], [0, 1, 3, 2, 4, 5], [0, 2, 1, 3, 4, 5], [0, 2, 3, 1, 4, 5], [0, 2, 3, 4, 1, 5], [0, 3, 1, 2, 4, 5], [0, 3, 2, 1, 4, 5], [0, 3, 2, 4, 1, 5], [1, 0, 2, 3, 4, 5], [1, 0, 3, 2, 4, 5], [1, 2, 0, 3, 4, 5], [1, 2, 3, 0, 4, 5], [1, 3, 0, 2, 4, 5], [1, 3, 2, 0, 4, 5], [2, 0, 1, 3, 4, 5], [2, 0, 3, 1, 4, 5], [2, 0, 3, 4, 1, 5], [2, 1, 0, 3, 4, 5], [2, 1, 3, 0, 4, 5], [2, 3, 0, 1, 4, 5], [2, 3, 0, 4, 1, 5], [2, 3, 1, 0, 4, 5], [3, 0, 1, 2, 4, 5], [3, 0, 2, 1, 4, 5], [3, 0, 2, 4, 1, 5], [3, 1, 0, 2, 4, 5], [3, 1, 2, 0, 4, 5], [3, 2, 0, 1, 4, 5], [3, 2, 0, 4, 1, 5], [3, 2, 1, 0, 4, 5]] (.inr (by kernel_rfl)) (by kernel_rfl) fun l hl => ?_
    simp only [List.mem_cons, List.not_mem_nil, or_false] at hl
    rcases hl with rfl | rfl | rfl | rfl | rfl | rfl | rfl | rfl | rfl | rfl | rfl | rfl | rfl | rfl | rfl | rfl | rfl | rfl | rfl | rfl | rfl | rfl | rfl | rfl | rfl | rfl | rfl | rfl | rfl | rfl
    · skip
      refine pj_new hJ (fun n => .chan (some n)) (.chan 0 #[] false 0 0 false) rfl rfl (.inl rfl) (fun w => ?_) (fun w => ?_) fun c1 hc1 _ => ?_
      · unfold ev; go_simp; try exact rfl
      · unfold ev; first | (simp [go_sem]; done) | (simp [go_sem, ev_mk1]; done) | simp [go_sem, ev_mk2]
      simp only [put]; walk_nrm
      simp only [List.map_cons, List.map_nil, List.mem_cons, List.not_mem_nil, or_false, forall_eq_or_imp, forall_eq] at hc1
      refine pj_new hJ (fun n => .chan (some n)) (.chan 0 #[] false 0 0 false) rfl rfl (.inl rfl) (fun w => ?_) (fun w => ?_) fun c2 hc2 _ => ?_
      · unfold ev; go_simp; try exact rfl
      · unfold ev; first | (simp [go_sem]; done) | (simp [go_sem, ev_mk1]; done) | simp [go_sem, ev_mk2]
      simp only [put]; walk_nrm
      simp only [List.map_cons, List.map_nil, List.mem_cons, List.not_mem_nil, or_false, forall_eq_or_imp, forall_eq] at hc2
      refine pj_new hJ (fun n => .pointer (some ⟨n, 0, none⟩)) (.cells #[.chan none] 56) rfl rfl (.inl rfl) (fun w => ?_) (fun w => ?_) fun b1 hb1 _ => ?_
      · unfold ev; go_simp; try exact rfl
      · unfold ev; first | (simp [go_sem]; done) | (simp [go_sem, ev_mk1]; done) | simp [go_sem, ev_mk2]
      simp only [put]; walk_nrm
      simp only [List.map_cons, List.map_nil, List.mem_cons, List.not_mem_nil, or_false, forall_eq_or_imp, forall_eq] at hb1
      refine pj_new hJ (fun n => .pointer (some ⟨n, 0, none⟩)) (.cells #[.chan none] 57) rfl rfl (.inl rfl) (fun w => ?_) (fun w => ?_) fun b2 hb2 _ => ?_
      · unfold ev; go_simp; try exact rfl
      · unfold ev; first | (simp [go_sem]; done) | (simp [go_sem, ev_mk1]; done) | simp [go_sem, ev_mk2]
      simp only [put]; walk_nrm
      simp only [List.map_cons, List.map_nil, List.mem_cons, List.not_mem_nil, or_false, forall_eq_or_imp, forall_eq] at hb2
      refine pj_st hJ (t := 56) (L' := [(b2, .cells #[.chan none] 57), (b1, .cells #[.chan (some c1)] 56), (c2, .chan 0 #[] false 0 0 false), (c1, .chan 0 #[] false 0 0 false), (xb, .cells #[.func fv ps qs] 25)]) (b := b1) (x := .chan none) (v := .chan (some c1)) (by simp) (fun h => h) (fun y => Iff.rfl) (fun p hp => ?_) rfl rfl (.inl rfl) (fun w f0 f1 => ?_) (fun w f0 f1 => ?_) ?_
      · simp only [List.mem_cons, List.not_mem_nil, or_false] at hp; rcases hp with rfl | rfl | rfl | rfl | rfl <;> first | exact .inl rfl | exact .inr ⟨by simp, by simp; omega⟩
      · unfold ev; go_simp; try exact rfl
      · unfold ev; intro e he; simp [go_sem, f0, f1] at he; exact he
      simp only [put]; walk_nrm
      refine pj_st hJ (t := 57) (L' := [(b2, .cells #[.chan (some c2)] 57), (b1, .cells #[.chan (some c1)] 56), (c2, .chan 0 #[] false 0 0 false), (c1, .chan 0 #[] false 0 0 false), (xb, .cells #[.func fv ps qs] 25)]) (b := b2) (x := .chan none) (v := .chan (some c2)) (by simp) (fun h => h) (fun y => Iff.rfl) (fun p hp => ?_) rfl rfl (.inl rfl) (fun w f0 f1 => ?_) (fun w f0 f1 => ?_) ?_
      · simp only [List.mem_cons, List.not_mem_nil, or_false] at hp; rcases hp with rfl | rfl | rfl | rfl | rfl <;> first | exact .inl rfl | exact .inr ⟨by simp, by simp; omega⟩
      · unfold ev; go_simp; try exact rfl
      · unfold ev; intro e he; simp [go_sem, f0, f1] at he; exact he
      simp only [put]; walk_nrm
      rw [ow_perm (L' := [(b2, .cells #[.chan (some c2)] 57), (b1, .cells #[.chan (some c1)] 56), (c2, .chan 0 #[] false 0 0 false), (c1, .chan 0 #[] false 0 0 false), (xb, .cells #[.func fv ps qs] 25)]) (by intro p; simp only [List.mem_cons, List.not_mem_nil, or_false] <;> constructor <;> (rintro (h | h | h | h | h) <;> simp [h]))]
      exact fin c1 c2 b1 b2 (by simp; omega)
    · skip
      refine pj_new hJ (fun n => .chan (some n)) (.chan 0 #[] false 0 0 false) rfl rfl (.inl rfl) (fun w => ?_) (fun w => ?_) fun c1 hc1 _ => ?_
      · unfold ev; go_simp; try exact rfl
      · unfold ev; first | (simp [go_sem]; done) | (simp [go_sem, ev_mk1]; done) | simp [go_sem, ev_mk2]
      simp only [put]; walk_nrm
      simp only [List.map_cons, List.map_nil, List.mem_cons, List.not_mem_nil, or_false, forall_eq_or_imp, forall_eq] at hc1
      refine pj_new hJ (fun n => .chan (some n)) (.chan 0 #[] false 0 0 false) rfl rfl (.inl rfl) (fun w => ?_) (fun w => ?_) fun c2 hc2 _ => ?_
      · unfold ev; go_simp; try exact rfl
      · unfold ev; first | (simp [go_sem]; done) | (simp [go_sem, ev_mk1]; done) | simp [go_sem, ev_mk2]
      simp only [put]; walk_nrm
      simp only [List.map_cons, List.map_nil, List.mem_cons, List.not_mem_nil, or_false, forall_eq_or_imp, forall_eq] at hc2
      refine pj_new hJ (fun n => .pointer (some ⟨n, 0, none⟩)) (.cells #[.chan none] 57) rfl rfl (.inl rfl) (fun w => ?_) (fun w => ?_) fun b2 hb2 _ => ?_
      · unfold ev; go_simp; try exact rfl
      · unfold ev; first | (simp [go_sem]; done) | (simp [go_sem, ev_mk1]; done) | simp [go_sem, ev_mk2]
      simp only [put]; walk_nrm
      simp only [List.map_cons, List.map_nil, List.mem_cons, List.not_mem_nil, or_false, forall_eq_or_imp, forall_eq] at hb2
      refine pj_new hJ (fun n => .pointer (some ⟨n, 0, none⟩)) (.cells #[.chan none] 56) rfl rfl (.inl rfl) (fun w => ?_) (fun w => ?_) fun b1 hb1 _ => ?_
      · unfold ev; go_simp; try exact rfl
      · unfold ev; first | (simp [go_sem]; done) | (simp [go_sem, ev_mk1]; done) | simp [go_sem, ev_mk2]
      simp only [put]; walk_nrm
      simp only [List.map_cons, List.map_nil, List.mem_cons, List.not_mem_nil, or_false, forall_eq_or_imp, forall_eq] at hb1
      refine pj_st hJ (t := 56) (L' := [(b1, .cells #[.chan (some c1)] 56), (b2, .cells #[.chan none] 57), (c2, .chan 0 #[] false 0 0 false), (c1, .chan 0 #[] false 0 0 false), (xb, .cells #[.func fv ps qs] 25)]) (b := b1) (x := .chan none) (v := .chan (some c1)) (by simp) (fun h => h) (fun y => Iff.rfl) (fun p hp => ?_) rfl rfl (.inl rfl) (fun w f0 f1 => ?_) (fun w f0 f1 => ?_) ?_
      · simp only [List.mem_cons, List.not_mem_nil, or_false] at hp; rcases hp with rfl | rfl | rfl | rfl | rfl <;> first | exact .inl rfl | exact .inr ⟨by simp, by simp; omega⟩
      · unfold ev; go_simp; try exact rfl
      · unfold ev; intro e he; simp [go_sem, f0, f1] at he; exact he
      simp only [put]; walk_nrm
      refine pj_st hJ (t := 57) (L' := [(b1, .cells #[.chan (some c1)] 56), (b2, .cells #[.chan (some c2)] 57), (c2, .chan 0 #[] false 0 0 false), (c1, .chan 0 #[] false 0 0 false), (xb, .cells #[.func fv ps qs] 25)]) (b := b2) (x := .chan none) (v := .chan (some c2)) (by simp) (fun h => h) (fun y => Iff.rfl) (fun p hp => ?_) rfl rfl (.inl rfl) (fun w f0 f1 => ?_) (fun w f0 f1 => ?_) ?_
      · simp only [List.mem_cons, List.not_mem_nil, or_false] at hp; rcases hp with rfl | rfl | rfl | rfl | rfl <;> first | exact .inl rfl | exact .inr ⟨by simp, by simp; omega⟩
      · unfold ev; go_simp; try exact rfl
      · unfold ev; intro e he; simp [go_sem, f0, f1] at he; exact he
      simp only [put]; walk_nrm
      rw [ow_perm (L' := [(b2, .cells #[.chan (some c2)] 57), (b1, .cells #[.chan (some c1)] 56), (c2, .chan 0 #[] false 0 0 false), (c1, .chan 0 #[] false 0 0 false), (xb, .cells #[.func fv ps qs] 25)]) (by intro p; simp only [List.mem_cons, List.not_mem_nil, or_false] <;> constructor <;> (rintro (h | h | h | h | h) <;> simp [h]))]
      exact fin c1 c2 b1 b2 (by simp; omega)
    · skip
      refine pj_new hJ (fun n => .chan (some n)) (.chan 0 #[] false 0 0 false) rfl rfl (.inl rfl) (fun w => ?_) (fun w => ?_) fun c1 hc1 _ => ?_
      · unfold ev; go_simp; try exact rfl
      · unfold ev; first | (simp [go_sem]; done) | (simp [go_sem, ev_mk1]; done) | simp [go_sem, ev_mk2]
      simp only [put]; walk_nrm
      simp only [List.map_cons, List.map_nil, List.mem_cons, List.not_mem_nil, or_false, forall_eq_or_imp, forall_eq] at hc1
      refine pj_new hJ (fun n => .pointer (some ⟨n, 0, none⟩)) (.cells #[.chan none] 56) rfl rfl (.inl rfl) (fun w => ?_) (fun w => ?_) fun b1 hb1 _ => ?_
      · unfold ev; go_simp; try exact rfl
      · unfold ev; first | (simp [go_sem]; done) | (simp [go_sem, ev_mk1]; done) | simp [go_sem, ev_mk2]
      simp only [put]; walk_nrm
      simp only [List.map_cons, List.map_nil, List.mem_cons, List.not_mem_nil, or_false, forall_eq_or_imp, forall_eq] at hb1
      refine pj_new hJ (fun n => .chan (some n)) (.chan 0 #[] false 0 0 false) rfl rfl (.inl rfl) (fun w => ?_) (fun w => ?_) fun c2 hc2 _ => ?_
      · unfold ev; go_simp; try exact rfl
      · unfold ev; first | (simp [go_sem]; done) | (simp [go_sem, ev_mk1]; done) | simp [go_sem, ev_mk2]
      simp only [put]; walk_nrm
      simp only [List.map_cons, List.map_nil, List.mem_cons, List.not_mem_nil, or_false, forall_eq_or_imp, forall_eq] at hc2
      refine pj_new hJ (fun n => .pointer (some ⟨n, 0, none⟩)) (.cells #[.chan none] 57) rfl rfl (.inl rfl) (fun w => ?_) (fun w => ?_) fun b2 hb2 _ => ?_
      · unfold ev; go_simp; try exact rfl
      · unfold ev; first | (simp [go_sem]; done) | (simp [go_sem, ev_mk1]; done) | simp [go_sem, ev_mk2]
      simp only [put]; walk_nrm
      simp only [List.map_cons, List.map_nil, List.mem_cons, List.not_mem_nil, or_false, forall_eq_or_imp, forall_eq] at hb2
      refine pj_st hJ (t := 56) (L' := [(b2, .cells #[.chan none] 57), (c2, .chan 0 #[] false 0 0 false), (b1, .cells #[.chan (some c1)] 56), (c1, .chan 0 #[] false 0 0 false), (xb, .cells #[.func fv ps qs] 25)]) (b := b1) (x := .chan none) (v := .chan (some c1)) (by simp) (fun h => h) (fun y => Iff.rfl) (fun p hp => ?_) rfl rfl (.inl rfl) (fun w f0 f1 => ?_) (fun w f0 f1 => ?_) ?_
      · simp only [List.mem_cons, List.not_mem_nil, or_false] at hp; rcases hp with rfl | rfl | rfl | rfl | rfl <;> first | exact .inl rfl | exact .inr ⟨by simp, by simp; omega⟩
      · unfold ev; go_simp; try exact rfl
      · unfold ev; intro e he; simp [go_sem, f0, f1] at he; exact he
      simp only [put]; walk_nrm
      refine pj_st hJ (t := 57) (L' := [(b2, .cells #[.chan (some c2)] 57), (c2, .chan 0 #[] false 0 0 false), (b1, .cells #[.chan (some c1)] 56), (c1, .chan 0 #[] false 0 0 false), (xb, .cells #[.func fv ps qs] 25)]) (b := b2) (x := .chan none) (v := .chan (some c2)) (by simp) (fun h => h) (fun y => Iff.rfl) (fun p hp => ?_) rfl rfl (.inl rfl) (fun w f0 f1 => ?_) (fun w f0 f1 => ?_) ?_
      · simp only [List.mem_cons, List.not_mem_nil, or_false] at hp; rcases hp with rfl | rfl | rfl | rfl | rfl <;> first | exact .inl rfl | exact .inr ⟨by simp, by simp; omega⟩
      · unfold ev; go_simp; try exact rfl
      · unfold ev; intro e he; simp [go_sem, f0, f1] at he; exact he
      simp only [put]; walk_nrm
      rw [ow_perm (L' := [(b2, .cells #[.chan (some c2)] 57), (b1, .cells #[.chan (some c1)] 56), (c2, .chan 0 #[] false 0 0 false), (c1, .chan 0 #[] false 0 0 false), (xb, .cells #[.func fv ps qs] 25)]) (by intro p; simp only [List.mem_cons, List.not_mem_nil, or_false] <;> constructor <;> (rintro (h | h | h | h | h) <;> simp [h]))]
      exact fin c1 c2 b1 b2 (by simp; omega)
    · skip
      refine pj_new hJ (fun n => .chan (some n)) (.chan 0 #[] false 0 0 false) rfl rfl (.inl rfl) (fun w => ?_) (fun w => ?_) fun c1 hc1 _ => ?_
      · unfold ev; go_simp; try exact rfl
      · unfold ev; first | (simp [go_sem]; done) | (simp [go_sem, ev_mk1]; done) | simp [go_sem, ev_mk2]
      simp only [put]; walk_nrm
      simp only [List.map_cons, List.map_nil, List.mem_cons, List.not_mem_nil, or_false, forall_eq_or_imp, forall_eq] at hc1
      refine pj_new hJ (fun n => .pointer (some ⟨n, 0, none⟩)) (.cells #[.chan none] 56) rfl rfl (.inl rfl) (fun w => ?_) (fun w => ?_) fun b1 hb1 _ => ?_
      · unfold ev; go_simp; try exact rfl
      · unfold ev; first | (simp [go_sem]; done) | (simp [go_sem, ev_mk1]; done) | simp [go_sem, ev_mk2]
      simp only [put]; walk_nrm
      simp only [List.map_cons, List.map_nil, List.mem_cons, List.not_mem_nil, or_false, forall_eq_or_imp, forall_eq] at hb1
      refine pj_new hJ (fun n => .pointer (some ⟨n, 0, none⟩)) (.cells #[.chan none] 57) rfl rfl (.inl rfl) (fun w => ?_) (fun w => ?_) fun b2 hb2 _ => ?_
      · unfold ev; go_simp; try exact rfl
      · unfold ev; first | (simp [go_sem]; done) | (simp [go_sem, ev_mk1]; done) | simp [go_sem, ev_mk2]
      simp only [put]; walk_nrm
      simp only [List.map_cons, List.map_nil, List.mem_cons, List.not_mem_nil, or_false, forall_eq_or_imp, forall_eq] at hb2
      refine pj_new hJ (fun n => .chan (some n)) (.chan 0 #[] false 0 0 false) rfl rfl (.inl rfl) (fun w => ?_) (fun w => ?_) fun c2 hc2 _ => ?_
      · unfold ev; go_simp; try exact rfl
      · unfold ev; first | (simp [go_sem]; done) | (simp [go_sem, ev_mk1]; done) | simp [go_sem, ev_mk2]
      simp only [put]; walk_nrm
      simp only [List.map_cons, List.map_nil, List.mem_cons, List.not_mem_nil, or_false, forall_eq_or_imp, forall_eq] at hc2
      refine pj_st hJ (t := 56) (L' := [(c2, .chan 0 #[] false 0 0 false), (b2, .cells #[.chan none] 57), (b1, .cells #[.chan (some c1)] 56), (c1, .chan 0 #[] false 0 0 false), (xb, .cells #[.func fv ps qs] 25)]) (b := b1) (x := .chan none) (v := .chan (some c1)) (by simp) (fun h => h) (fun y => Iff.rfl) (fun p hp => ?_) rfl rfl (.inl rfl) (fun w f0 f1 => ?_) (fun w f0 f1 => ?_) ?_
      · simp only [List.mem_cons, List.not_mem_nil, or_false] at hp; rcases hp with rfl | rfl | rfl | rfl | rfl <;> first | exact .inl rfl | exact .inr ⟨by simp, by simp; omega⟩
      · unfold ev; go_simp; try exact rfl
      · unfold ev; intro e he; simp [go_sem, f0, f1] at he; exact he
      simp only [put]; walk_nrm
      refine pj_st hJ (t := 57) (L' := [(c2, .chan 0 #[] false 0 0 false), (b2, .cells #[.chan (some c2)] 57), (b1, .cells #[.chan (some c1)] 56), (c1, .chan 0 #[] false 0 0 false), (xb, .cells #[.func fv ps qs] 25)]) (b := b2) (x := .chan none) (v := .chan (some c2)) (by simp) (fun h => h) (fun y => Iff.rfl) (fun p hp => ?_) rfl rfl (.inl rfl) (fun w f0 f1 => ?_) (fun w f0 f1 => ?_) ?_
      · simp only [List.mem_cons, List.not_mem_nil, or_false] at hp; rcases hp with rfl | rfl | rfl | rfl | rfl <;> first | exact .inl rfl | exact .inr ⟨by simp, by simp; omega⟩
      · unfold ev; go_simp; try exact rfl
      · unfold ev; intro e he; simp [go_sem, f0, f1] at he; exact he
      simp only [put]; walk_nrm
      rw [ow_perm (L' := [(b2, .cells #[.chan (some c2)] 57), (b1, .cells #[.chan (some c1)] 56), (c2, .chan 0 #[] false 0 0 false), (c1, .chan 0 #[] false 0 0 false), (xb, .cells #[.func fv ps qs] 25)]) (by intro p; simp only [List.mem_cons, List.not_mem_nil, or_false] <;> constructor <;> (rintro (h | h | h | h | h) <;> simp [h]))]
      exact fin c1 c2 b1 b2 (by simp; omega)
    · skip
      refine pj_new hJ (fun n => .chan (some n)) (.chan 0 #[] false 0 0 false) rfl rfl (.inl rfl) (fun w => ?_) (fun w => ?_) fun c1 hc1 _ => ?_
      · unfold ev; go_simp; try exact rfl
      · unfold ev; first | (simp [go_sem]; done) | (simp [go_sem, ev_mk1]; done) | simp [go_sem, ev_mk2]
      simp only [put]; walk_nrm
      simp only [List.map_cons, List.map_nil, List.mem_cons, List.not_mem_nil, or_false, forall_eq_or_imp, forall_eq] at hc1
      refine pj_new hJ (fun n => .pointer (some ⟨n, 0, none⟩)) (.cells #[.chan none] 56) rfl rfl (.inl rfl) (fun w => ?_) (fun w => ?_) fun b1 hb1 _ => ?_
      · unfold ev; go_simp; try exact rfl
      · unfold ev; first | (simp [go_sem]; done) | (simp [go_sem, ev_mk1]; done) | simp [go_sem, ev_mk2]
      simp only [put]; walk_nrm
      simp only [List.map_cons, List.map_nil, List.mem_cons, List.not_mem_nil, or_false, forall_eq_or_imp, forall_eq] at hb1
      refine pj_new hJ (fun n => .pointer (some ⟨n, 0, none⟩)) (.cells #[.chan none] 57) rfl rfl (.inl rfl) (fun w => ?_) (fun w => ?_) fun b2 hb2 _ => ?_
      · unfold ev; go_simp; try exact rfl
      · unfold ev; first | (simp [go_sem]; done) | (simp [go_sem, ev_mk1]; done) | simp [go_sem, ev_mk2]
      simp only [put]; walk_nrm
      simp only [List.map_cons, List.map_nil, List.mem_cons, List.not_mem_nil, or_false, forall_eq_or_imp, forall_eq] at hb2
      refine pj_st hJ (t := 56) (L' := [(b2, .cells #[.chan none] 57), (b1, .cells #[.chan (some c1)] 56), (c1, .chan 0 #[] false 0 0 false), (xb, .cells #[.func fv ps qs] 25)]) (b := b1) (x := .chan none) (v := .chan (some c1)) (by simp) (fun h => h) (fun y => Iff.rfl) (fun p hp => ?_) rfl rfl (.inl rfl) (fun w f0 f1 => ?_) (fun w f0 f1 => ?_) ?_
      · simp only [List.mem_cons, List.not_mem_nil, or_false] at hp; rcases hp with rfl | rfl | rfl | rfl <;> first | exact .inl rfl | exact .inr ⟨by simp, by simp; omega⟩
      · unfold ev; go_simp; try exact rfl
      · unfold ev; intro e he; simp [go_sem, f0, f1] at he; exact he
      simp only [put]; walk_nrm
      refine pj_new hJ (fun n => .chan (some n)) (.chan 0 #[] false 0 0 false) rfl rfl (.inl rfl) (fun w => ?_) (fun w => ?_) fun c2 hc2 _ => ?_
      · unfold ev; go_simp; try exact rfl
      · unfold ev; first | (simp [go_sem]; done) | (simp [go_sem, ev_mk1]; done) | simp [go_sem, ev_mk2]
      simp only [put]; walk_nrm
      simp only [List.map_cons, List.map_nil, List.mem_cons, List.not_mem_nil, or_false, forall_eq_or_imp, forall_eq] at hc2
      refine pj_st hJ (t := 57) (L' := [(c2, .chan 0 #[] false 0 0 false), (b2, .cells #[.chan (some c2)] 57), (b1, .cells #[.chan (some c1)] 56), (c1, .chan 0 #[] false 0 0 false), (xb, .cells #[.func fv ps qs] 25)]) (b := b2) (x := .chan none) (v := .chan (some c2)) (by simp) (fun h => h) (fun y => Iff.rfl) (fun p hp => ?_) rfl rfl (.inl rfl) (fun w f0 f1 => ?_) (fun w f0 f1 => ?_) ?_
      · simp only [List.mem_cons, List.not_mem_nil, or_false] at hp; rcases hp with rfl | rfl | rfl | rfl | rfl <;> first | exact .inl rfl | exact .inr ⟨by simp, by simp; omega⟩
      · unfold ev; go_simp; try exact rfl
      · unfold ev; intro e he; simp [go_sem, f0, f1] at he; exact he
      simp only [put]; walk_nrm
      rw [ow_perm (L' := [(b2, .cells #[.chan (some c2)] 57), (b1, .cells #[.chan (some c1)] 56), (c2, .chan 0 #[] false 0 0 false), (c1, .chan 0 #[] false 0 0 false), (xb, .cells #[.func fv ps qs] 25)]) (by intro p; simp only [List.mem_cons, List.not_mem_nil, or_false] <;> constructor <;> (rintro (h | h | h | h | h) <;> simp [h]))]
      exact fin c1 c2 b1 b2 (by simp; omega)
    · skip
      refine pj_new hJ (fun n => .chan (some n)) (.chan 0 #[] false 0 0 false) rfl rfl (.inl rfl) (fun w => ?_) (fun w => ?_) fun c1 hc1 _ => ?_
      · unfold ev; go_simp; try exact rfl
      · unfold ev; first | (simp [go_sem]; done) | (simp [go_sem, ev_mk1]; done) | simp [go_sem, ev_mk2]
      simp only [put]; walk_nrm
      simp only [List.map_cons, List.map_nil, List.mem_cons, List.not_mem_nil, or_false, forall_eq_or_imp, forall_eq] at hc1
      refine pj_new hJ (fun n => .pointer (some ⟨n, 0, none⟩)) (.cells #[.chan none] 57) rfl rfl (.inl rfl) (fun w => ?_) (fun w => ?_) fun b2 hb2 _ => ?_
      · unfold ev; go_simp; try exact rfl
      · unfold ev; first | (simp [go_sem]; done) | (simp [go_sem, ev_mk1]; done) | simp [go_sem, ev_mk2]
      simp only [put]; walk_nrm
      simp only [List.map_cons, List.map_nil, List.mem_cons, List.not_mem_nil, or_false, forall_eq_or_imp, forall_eq] at hb2
      refine pj_new hJ (fun n => .chan (some n)) (.chan 0 #[] false 0 0 false) rfl rfl (.inl rfl) (fun w => ?_) (fun w => ?_) fun c2 hc2 _ => ?_
      · unfold ev; go_simp; try exact rfl
      · unfold ev; first | (simp [go_sem]; done) | (simp [go_sem, ev_mk1]; done) | simp [go_sem, ev_mk2]
      simp only [put]; walk_nrm
      simp only [List.map_cons, List.map_nil, List.mem_cons, List.not_mem_nil, or_false, forall_eq_or_imp, forall_eq] at hc2
      refine pj_new hJ (fun n => .pointer (some ⟨n, 0, none⟩)) (.cells #[.chan none] 56) rfl rfl (.inl rfl) (fun w => ?_) (fun w => ?_) fun b1 hb1 _ => ?_
      · unfold ev; go_simp; try exact rfl
      · unfold ev; first | (simp [go_sem]; done) | (simp [go_sem, ev_mk1]; done) | simp [go_sem, ev_mk2]
      simp only [put]; walk_nrm
      simp only [List.map_cons, List.map_nil, List.mem_cons, List.not_mem_nil, or_false, forall_eq_or_imp, forall_eq] at hb1
      refine pj_st hJ (t := 56) (L' := [(b1, .cells #[.chan (some c1)] 56), (c2, .chan 0 #[] false 0 0 false), (b2, .cells #[.chan none] 57), (c1, .chan 0 #[] false 0 0 false), (xb, .cells #[.func fv ps qs] 25)]) (b := b1) (x := .chan none) (v := .chan (some c1)) (by simp) (fun h => h) (fun y => Iff.rfl) (fun p hp => ?_) rfl rfl (.inl rfl) (fun w f0 f1 => ?_) (fun w f0 f1 => ?_) ?_
      · simp only [List.mem_cons, List.not_mem_nil, or_false] at hp; rcases hp with rfl | rfl | rfl | rfl | rfl <;> first | exact .inl rfl | exact .inr ⟨by simp, by simp; omega⟩
      · unfold ev; go_simp; try exact rfl
      · unfold ev; intro e he; simp [go_sem, f0, f1] at he; exact he
      simp only [put]; walk_nrm
      refine pj_st hJ (t := 57) (L' := [(b1, .cells #[.chan (some c1)] 56), (c2, .chan 0 #[] false 0 0 false), (b2, .cells #[.chan (some c2)] 57), (c1, .chan 0 #[] false 0 0 false), (xb, .cells #[.func fv ps qs] 25)]) (b := b2) (x := .chan none) (v := .chan (some c2)) (by simp) (fun h => h) (fun y => Iff.rfl) (fun p hp => ?_) rfl rfl (.inl rfl) (fun w f0 f1 => ?_) (fun w f0 f1 => ?_) ?_
      · simp only [List.mem_cons, List.not_mem_nil, or_false] at hp; rcases hp with rfl | rfl | rfl | rfl | rfl <;> first | exact .inl rfl | exact .inr ⟨by simp, by simp; omega⟩
      · unfold ev; go_simp; try exact rfl
      · unfold ev; intro e he; simp [go_sem, f0, f1] at he; exact he
      simp only [put]; walk_nrm
      rw [ow_perm (L' := [(b2, .cells #[.chan (some c2)] 57), (b1, .cells #[.chan (some c1)] 56), (c2, .chan 0 #[] false 0 0 false), (c1, .chan 0 #[] false 0 0 false), (xb, .cells #[.func fv ps qs] 25)]) (by intro p; simp only [List.mem_cons, List.not_mem_nil, or_false] <;> constructor <;> (rintro (h | h | h | h | h) <;> simp [h]))]
      exact fin c1 c2 b1 b2 (by simp; omega)
    · skip
      refine pj_new hJ (fun n => .chan (some n)) (.chan 0 #[] false 0 0 false) rfl rfl (.inl rfl) (fun w => ?_) (fun w => ?_) fun c1 hc1 _ => ?_
      · unfold ev; go_simp; try exact rfl
      · unfold ev; first | (simp [go_sem]; done) | (simp [go_sem, ev_mk1]; done) | simp [go_sem, ev_mk2]
      simp only [put]; walk_nrm
      simp only [List.map_cons, List.map_nil, List.mem_cons, List.not_mem_nil, or_false, forall_eq_or_imp, forall_eq] at hc1
      refine pj_new hJ (fun n => .pointer (some ⟨n, 0, none⟩)) (.cells #[.chan none] 57) rfl rfl (.inl rfl) (fun w => ?_) (fun w => ?_) fun b2 hb2 _ => ?_
      · unfold ev; go_simp; try exact rfl
      · unfold ev; first | (simp [go_sem]; done) | (simp [go_sem, ev_mk1]; done) | simp [go_sem, ev_mk2]
      simp only [put]; walk_nrm
      simp only [List.map_cons, List.map_nil, List.mem_cons, List.not_mem_nil, or_false, forall_eq_or_imp, forall_eq] at hb2
      refine pj_new hJ (fun n => .pointer (some ⟨n, 0, none⟩)) (.cells #[.chan none] 56) rfl rfl (.inl rfl) (fun w => ?_) (fun w => ?_) fun b1 hb1 _ => ?_
      · unfold ev; go_simp; try exact rfl
      · unfold ev; first | (simp [go_sem]; done) | (simp [go_sem, ev_mk1]; done) | simp [go_sem, ev_mk2]
      simp only [put]; walk_nrm
      simp only [List.map_cons, List.map_nil, List.mem_cons, List.not_mem_nil, or_false, forall_eq_or_imp, forall_eq] at hb1
      refine pj_new hJ (fun n => .chan (some n)) (.chan 0 #[] false 0 0 false) rfl rfl (.inl rfl) (fun w => ?_) (fun w => ?_) fun c2 hc2 _ => ?_
      · unfold ev; go_simp; try exact rfl
      · unfold ev; first | (simp [go_sem]; done) | (simp [go_sem, ev_mk1]; done) | simp [go_sem, ev_mk2]
      simp only [put]; walk_nrm
      simp only [List.map_cons, List.map_nil, List.mem_cons, List.not_mem_nil, or_false, forall_eq_or_imp, forall_eq] at hc2
      refine pj_st hJ (t := 56) (L' := [(c2, .chan 0 #[] false 0 0 false), (b1, .cells #[.chan (some c1)] 56), (b2, .cells #[.chan none] 57), (c1, .chan 0 #[] false 0 0 false), (xb, .cells #[.func fv ps qs] 25)]) (b := b1) (x := .chan none) (v := .chan (some c1)) (by simp) (fun h => h) (fun y => Iff.rfl) (fun p hp => ?_) rfl rfl (.inl rfl) (fun w f0 f1 => ?_) (fun w f0 f1 => ?_) ?_
      · simp only [List.mem_cons, List.not_mem_nil, or_false] at hp; rcases hp with rfl | rfl | rfl | rfl | rfl <;> first | exact .inl rfl | exact .inr ⟨by simp, by simp; omega⟩
      · unfold ev; go_simp; try exact rfl
      · unfold ev; intro e he; simp [go_sem, f0, f1] at he; exact he
      simp only [put]; walk_nrm
      refine pj_st hJ (t := 57) (L' := [(c2, .chan 0 #[] false 0 0 false), (b1, .cells #[.chan (some c1)] 56), (b2, .cells #[.chan (some c2)] 57), (c1, .chan 0 #[] false 0 0 false), (xb, .cells #[.func fv ps qs] 25)]) (b := b2) (x := .chan none) (v := .chan (some c2)) (by simp) (fun h => h) (fun y => Iff.rfl) (fun p hp => ?_) rfl rfl (.inl rfl) (fun w f0 f1 => ?_) (fun w f0 f1 => ?_) ?_
      · simp only [List.mem_cons, List.not_mem_nil, or_false] at hp; rcases hp with rfl | rfl | rfl | rfl | rfl <;> first | exact .inl rfl | exact .inr ⟨by simp, by simp; omega⟩
      · unfold ev; go_simp; try exact rfl
      · unfold ev; intro e he; simp [go_sem, f0, f1] at he; exact he
      simp only [put]; walk_nrm
      rw [ow_perm (L' := [(b2, .cells #[.chan (some c2)] 57), (b1, .cells #[.chan (some c1)] 56), (c2, .chan 0 #[] false 0 0 false), (c1, .chan 0 #[] false 0 0 false), (xb, .cells #[.func fv ps qs] 25)]) (by intro p; simp only [List.mem_cons, List.not_mem_nil, or_false] <;> constructor <;> (rintro (h | h | h | h | h) <;> simp [h]))]
      exact fin c1 c2 b1 b2 (by simp; omega)
    · skip
      refine pj_new hJ (fun n => .chan (some n)) (.chan 0 #[] false 0 0 false) rfl rfl (.inl rfl) (fun w => ?_) (fun w => ?_) fun c1 hc1 _ => ?_
      · unfold ev; go_simp; try exact rfl
      · unfold ev; first | (simp [go_sem]; done) | (simp [go_sem, ev_mk1]; done) | simp [go_sem, ev_mk2]
      simp only [put]; walk_nrm
      simp only [List.map_cons, List.map_nil, List.mem_cons, List.not_mem_nil, or_false, forall_eq_or_imp, forall_eq] at hc1
      refine pj_new hJ (fun n => .pointer (some ⟨n, 0, none⟩)) (.cells #[.chan none] 57) rfl rfl (.inl rfl) (fun w => ?_) (fun w => ?_) fun b2 hb2 _ => ?_
      · unfold ev; go_simp; try exact rfl
      · unfold ev; first | (simp [go_sem]; done) | (simp [go_sem, ev_mk1]; done) | simp [go_sem, ev_mk2]
      simp only [put]; walk_nrm
      simp only [List.map_cons, List.map_nil, List.mem_cons, List.not_mem_nil, or_false, forall_eq_or_imp, forall_eq] at hb2
      refine pj_new hJ (fun n => .pointer (some ⟨n, 0, none⟩)) (.cells #[.chan none] 56) rfl rfl (.inl rfl) (fun w => ?_) (fun w => ?_) fun b1 hb1 _ => ?_
      · unfold ev; go_simp; try exact rfl
      · unfold ev; first | (simp [go_sem]; done) | (simp [go_sem, ev_mk1]; done) | simp [go_sem, ev_mk2]
      simp only [put]; walk_nrm
      simp only [List.map_cons, List.map_nil, List.mem_cons, List.not_mem_nil, or_false, forall_eq_or_imp, forall_eq] at hb1
      refine pj_st hJ (t := 56) (L' := [(b1, .cells #[.chan (some c1)] 56), (b2, .cells #[.chan none] 57), (c1, .chan 0 #[] false 0 0 false), (xb, .cells #[.func fv ps qs] 25)]) (b := b1) (x := .chan none) (v := .chan (some c1)) (by simp) (fun h => h) (fun y => Iff.rfl) (fun p hp => ?_) rfl rfl (.inl rfl) (fun w f0 f1 => ?_) (fun w f0 f1 => ?_) ?_
      · simp only [List.mem_cons, List.not_mem_nil, or_false] at hp; rcases hp with rfl | rfl | rfl | rfl <;> first | exact .inl rfl | exact .inr ⟨by simp, by simp; omega⟩
      · unfold ev; go_simp; try exact rfl
      · unfold ev; intro e he; simp [go_sem, f0, f1] at he; exact he
      simp only [put]; walk_nrm
      refine pj_new hJ (fun n => .chan (some n)) (.chan 0 #[] false 0 0 false) rfl rfl (.inl rfl) (fun w => ?_) (fun w => ?_) fun c2 hc2 _ => ?_
      · unfold ev; go_simp; try exact rfl
      · unfold ev; first | (simp [go_sem]; done) | (simp [go_sem, ev_mk1]; done) | simp [go_sem, ev_mk2]
      simp only [put]; walk_nrm
      simp only [List.map_cons, List.map_nil, List.mem_cons, List.not_mem_nil, or_false, forall_eq_or_imp, forall_eq] at hc2
      refine pj_st hJ (t := 57) (L' := [(c2, .chan 0 #[] false 0 0 false), (b1, .cells #[.chan (some c1)] 56), (b2, .cells #[.chan (some c2)] 57), (c1, .chan 0 #[] false 0 0 false), (xb, .cells #[.func fv ps qs] 25)]) (b := b2) (x := .chan none) (v := .chan (some c2)) (by simp) (fun h => h) (fun y => Iff.rfl) (fun p hp => ?_) rfl rfl (.inl rfl) (fun w f0 f1 => ?_) (fun w f0 f1 => ?_) ?_
      · simp only [List.mem_cons, List.not_mem_nil, or_false] at hp; rcases hp with rfl | rfl | rfl | rfl | rfl <;> first | exact .inl rfl | exact .inr ⟨by simp, by simp; omega⟩
      · unfold ev; go_simp; try exact rfl
      · unfold ev; intro e he; simp [go_sem, f0, f1] at he; exact he
      simp only [put]; walk_nrm
      rw [ow_perm (L' := [(b2, .cells #[.chan (some c2)] 57), (b1, .cells #[.chan (some c1)] 56), (c2, .chan 0 #[] false 0 0 false), (c1, .chan 0 #[] false 0 0 false), (xb, .cells #[.func fv ps qs] 25)]) (by intro p; simp only [List.mem_cons, List.not_mem_nil, or_false] <;> constructor <;> (rintro (h | h | h | h | h) <;> simp [h]))]
      exact fin c1 c2 b1 b2 (by simp; omega)
    · skip
      refine pj_new hJ (fun n => .chan (some n)) (.chan 0 #[] false 0 0 false) rfl rfl (.inl rfl) (fun w => ?_) (fun w => ?_) fun c2 hc2 _ => ?_
      · unfold ev; go_simp; try exact rfl
      · unfold ev; first | (simp [go_sem]; done) | (simp [go_sem, ev_mk1]; done) | simp [go_sem, ev_mk2]
      simp only [put]; walk_nrm
      simp only [List.map_cons, List.map_nil, List.mem_cons, List.not_mem_nil, or_false, forall_eq_or_imp, forall_eq] at hc2
      refine pj_new hJ (fun n => .chan (some n)) (.chan 0 #[] false 0 0 false) rfl rfl (.inl rfl) (fun w => ?_) (fun w => ?_) fun c1 hc1 _ => ?_
      · unfold ev; go_simp; try exact rfl
      · unfold ev; first | (simp [go_sem]; done) | (simp [go_sem, ev_mk1]; done) | simp [go_sem, ev_mk2]
      simp only [put]; walk_nrm
      simp only [List.map_cons, List.map_nil, List.mem_cons, List.not_mem_nil, or_false, forall_eq_or_imp, forall_eq] at hc1
      refine pj_new hJ (fun n => .pointer (some ⟨n, 0, none⟩)) (.cells #[.chan none] 56) rfl rfl (.inl rfl) (fun w => ?_) (fun w => ?_) fun b1 hb1 _ => ?_
      · unfold ev; go_simp; try exact rfl
      · unfold ev; first | (simp [go_sem]; done) | (simp [go_sem, ev_mk1]; done) | simp [go_sem, ev_mk2]
      simp only [put]; walk_nrm
      simp only [List.map_cons, List.map_nil, List.mem_cons, List.not_mem_nil, or_false, forall_eq_or_imp, forall_eq] at hb1
      refine pj_new hJ (fun n => .pointer (some ⟨n, 0, none⟩)) (.cells #[.chan none] 57) rfl rfl (.inl rfl) (fun w => ?_) (fun w => ?_) fun b2 hb2 _ => ?_
      · unfold ev; go_simp; try exact rfl
      · unfold ev; first | (simp [go_sem]; done) | (simp [go_sem, ev_mk1]; done) | simp [go_sem, ev_mk2]
      simp only [put]; walk_nrm
      simp only [List.map_cons, List.map_nil, List.mem_cons, List.not_mem_nil, or_false, forall_eq_or_imp, forall_eq] at hb2
      refine pj_st hJ (t := 56) (L' := [(b2, .cells #[.chan none] 57), (b1, .cells #[.chan (some c1)] 56), (c1, .chan 0 #[] false 0 0 false), (c2, .chan 0 #[] false 0 0 false), (xb, .cells #[.func fv ps qs] 25)]) (b := b1) (x := .chan none) (v := .chan (some c1)) (by simp) (fun h => h) (fun y => Iff.rfl) (fun p hp => ?_) rfl rfl (.inl rfl) (fun w f0 f1 => ?_) (fun w f0 f1 => ?_) ?_
      · simp only [List.mem_cons, List.not_mem_nil, or_false] at hp; rcases hp with rfl | rfl | rfl | rfl | rfl <;> first | exact .inl rfl | exact .inr ⟨by simp, by simp; omega⟩
      · unfold ev; go_simp; try exact rfl
      · unfold ev; intro e he; simp [go_sem, f0, f1] at he; exact he
      simp only [put]; walk_nrm
      refine pj_st hJ (t := 57) (L' := [(b2, .cells #[.chan (some c2)] 57), (b1, .cells #[.chan (some c1)] 56), (c1, .chan 0 #[] false 0 0 false), (c2, .chan 0 #[] false 0 0 false), (xb, .cells #[.func fv ps qs] 25)]) (b := b2) (x := .chan none) (v := .chan (some c2)) (by simp) (fun h => h) (fun y => Iff.rfl) (fun p hp => ?_) rfl rfl (.inl rfl) (fun w f0 f1 => ?_) (fun w f0 f1 => ?_) ?_
      · simp only [List.mem_cons, List.not_mem_nil, or_false] at hp; rcases hp with rfl | rfl | rfl | rfl | rfl <;> first | exact .inl rfl | exact .inr ⟨by simp, by simp; omega⟩
      · unfold ev; go_simp; try exact rfl
      · unfold ev; intro e he; simp [go_sem, f0, f1] at he; exact he
      simp only [put]; walk_nrm
      rw [ow_perm (L' := [(b2, .cells #[.chan (some c2)] 57), (b1, .cells #[.chan (some c1)] 56), (c2, .chan 0 #[] false 0 0 false), (c1, .chan 0 #[] false 0 0 false), (xb, .cells #[.func fv ps qs] 25)]) (by intro p; simp only [List.mem_cons, List.not_mem_nil, or_false] <;> constructor <;> (rintro (h | h | h | h | h) <;> simp [h]))]
      exact fin c1 c2 b1 b2 (by simp; omega)
    · skip
      refine pj_new hJ (fun n => .chan (some n)) (.chan 0 #[] false 0 0 false) rfl rfl (.inl rfl) (fun w => ?_) (fun w => ?_) fun c2 hc2 _ => ?_
      · unfold ev; go_simp; try exact rfl
      · unfold ev; first | (simp [go_sem]; done) | (simp [go_sem, ev_mk1]; done) | simp [go_sem, ev_mk2]
      simp only [put]; walk_nrm
      simp only [List.map_cons, List.map_nil, List.mem_cons, List.not_mem_nil, or_false, forall_eq_or_imp, forall_eq] at hc2
      refine pj_new hJ (fun n => .chan (some n)) (.chan 0 #[] false 0 0 false) rfl rfl (.inl rfl) (fun w => ?_) (fun w => ?_) fun c1 hc1 _ => ?_
      · unfold ev; go_simp; try exact rfl
      · unfold ev; first | (simp [go_sem]; done) | (simp [go_sem, ev_mk1]; done) | simp [go_sem, ev_mk2]
      simp only [put]; walk_nrm
      simp only [List.map_cons, List.map_nil, List.mem_cons, List.not_mem_nil, or_false, forall_eq_or_imp, forall_eq] at hc1
      refine pj_new hJ (fun n => .pointer (some ⟨n, 0, none⟩)) (.cells #[.chan none] 57) rfl rfl (.inl rfl) (fun w => ?_) (fun w => ?_) fun b2 hb2 _ => ?_
      · unfold ev; go_simp; try exact rfl
      · unfold ev; first | (simp [go_sem]; done) | (simp [go_sem, ev_mk1]; done) | simp [go_sem, ev_mk2]
      simp only [put]; walk_nrm
      simp only [List.map_cons, List.map_nil, List.mem_cons, List.not_mem_nil, or_false, forall_eq_or_imp, forall_eq] at hb2
      refine pj_new hJ (fun n => .pointer (some ⟨n, 0, none⟩)) (.cells #[.chan none] 56) rfl rfl (.inl rfl) (fun w => ?_) (fun w => ?_) fun b1 hb1 _ => ?_
      · unfold ev; go_simp; try exact rfl
      · unfold ev; first | (simp [go_sem]; done) | (simp [go_sem, ev_mk1]; done) | simp [go_sem, ev_mk2]
      simp only [put]; walk_nrm
      simp only [List.map_cons, List.map_nil, List.mem_cons, List.not_mem_nil, or_false, forall_eq_or_imp, forall_eq] at hb1
      refine pj_st hJ (t := 56) (L' := [(b1, .cells #[.chan (some c1)] 56), (b2, .cells #[.chan none] 57), (c1, .chan 0 #[] false 0 0 false), (c2, .chan 0 #[] false 0 0 false), (xb, .cells #[.func fv ps qs] 25)]) (b := b1) (x := .chan none) (v := .chan (some c1)) (by simp) (fun h => h) (fun y => Iff.rfl) (fun p hp => ?_) rfl rfl (.inl rfl) (fun w f0 f1 => ?_) (fun w f0 f1 => ?_) ?_
      · simp only [List.mem_cons, List.not_mem_nil, or_false] at hp; rcases hp with rfl | rfl | rfl | rfl | rfl <;> first | exact .inl rfl | exact .inr ⟨by simp, by simp; omega⟩
      · unfold ev; go_simp; try exact rfl
      · unfold ev; intro e he; simp [go_sem, f0, f1] at he; exact he
      simp only [put]; walk_nrm
      refine pj_st hJ (t := 57) (L' := [(b1, .cells #[.chan (some c1)] 56), (b2, .cells #[.chan (some c2)] 57), (c1, .chan 0 #[] false 0 0 false), (c2, .chan 0 #[] false 0 0 false), (xb, .cells #[.func fv ps qs] 25)]) (b := b2) (x := .chan none) (v := .chan (some c2)) (by simp) (fun h => h) (fun y => Iff.rfl) (fun p hp => ?_) rfl rfl (.inl rfl) (fun w f0 f1 => ?_) (fun w f0 f1 => ?_) ?_
      · simp only [List.mem_cons, List.not_mem_nil, or_false] at hp; rcases hp with rfl | rfl | rfl | rfl | rfl <;> first | exact .inl rfl | exact .inr ⟨by simp, by simp; omega⟩
      · unfold ev; go_simp; try exact rfl
      · unfold ev; intro e he; simp [go_sem, f0, f1] at he; exact he
      simp only [put]; walk_nrm
      rw [ow_perm (L' := [(b2, .cells #[.chan (some c2)] 57), (b1, .cells #[.chan (some c1)] 56), (c2, .chan 0 #[] false 0 0 false), (c1, .chan 0 #[] false 0 0 false), (xb, .cells #[.func fv ps qs] 25)]) (by intro p; simp only [List.mem_cons, List.not_mem_nil, or_false] <;> constructor <;> (rintro (h | h | h | h | h) <;> simp [h]))]
      exact fin c1 c2 b1 b2 (by simp; omega)
    · skip
      refine pj_new hJ (fun n => .chan (some n)) (.chan 0 #[] false 0 0 false) rfl rfl (.inl rfl) (fun w => ?_) (fun w => ?_) fun c2 hc2 _ => ?_
      · unfold ev; go_simp; try exact rfl
      · unfold ev; first | (simp [go_sem]; done) | (simp [go_sem, ev_mk1]; done) | simp [go_sem, ev_mk2]
      simp only [put]; walk_nrm
      simp only [List.map_cons, List.map_nil, List.mem_cons, List.not_mem_nil, or_false, forall_eq_or_imp, forall_eq] at hc2
      refine pj_new hJ (fun n => .pointer (some ⟨n, 0, none⟩)) (.cells #[.chan none] 56) rfl rfl (.inl rfl) (fun w => ?_) (fun w => ?_) fun b1 hb1 _ => ?_
      · unfold ev; go_simp; try exact rfl
      · unfold ev; first | (simp [go_sem]; done) | (simp [go_sem, ev_mk1]; done) | simp [go_sem, ev_mk2]
      simp only [put]; walk_nrm
      simp only [List.map_cons, List.map_nil, List.mem_cons, List.not_mem_nil, or_false, forall_eq_or_imp, forall_eq] at hb1
      refine pj_new hJ (fun n => .chan (some n)) (.chan 0 #[] false 0 0 false) rfl rfl (.inl rfl) (fun w => ?_) (fun w => ?_) fun c1 hc1 _ => ?_
      · unfold ev; go_simp; try exact rfl
      · unfold ev; first | (simp [go_sem]; done) | (simp [go_sem, ev_mk1]; done) | simp [go_sem, ev_mk2]
      simp only [put]; walk_nrm
      simp only [List.map_cons, List.map_nil, List.mem_cons, List.not_mem_nil, or_false, forall_eq_or_imp, forall_eq] at hc1
      refine pj_new hJ (fun n => .pointer (some ⟨n, 0, none⟩)) (.cells #[.chan none] 57) rfl rfl (.inl rfl) (fun w => ?_) (fun w => ?_) fun b2 hb2 _ => ?_
      · unfold ev; go_simp; try exact rfl
      · unfold ev; first | (simp [go_sem]; done) | (simp [go_sem, ev_mk1]; done) | simp [go_sem, ev_mk2]
      simp only [put]; walk_nrm
      simp only [List.map_cons, List.map_nil, List.mem_cons, List.not_mem_nil, or_false, forall_eq_or_imp, forall_eq] at hb2
      refine pj_st hJ (t := 56) (L' := [(b2, .cells #[.chan none] 57), (c1, .chan 0 #[] false 0 0 false), (b1, .cells #[.chan (some c1)] 56), (c2, .chan 0 #[] false 0 0 false), (xb, .cells #[.func fv ps qs] 25)]) (b := b1) (x := .chan none) (v := .chan (some c1)) (by simp) (fun h => h) (fun y => Iff.rfl) (fun p hp => ?_) rfl rfl (.inl rfl) (fun w f0 f1 => ?_) (fun w f0 f1 => ?_) ?_
      · simp only [List.mem_cons, List.not_mem_nil, or_false] at hp; rcases hp with rfl | rfl | rfl | rfl | rfl <;> first | exact .inl rfl | exact .inr ⟨by simp, by simp; omega⟩
      · unfold ev; go_simp; try exact rfl
      · unfold ev; intro e he; simp [go_sem, f0, f1] at he; exact he
      simp only [put]; walk_nrm
      refine pj_st hJ (t := 57) (L' := [(b2, .cells #[.chan (some c2)] 57), (c1, .chan 0 #[] false 0 0 false), (b1, .cells #[.chan (some c1)] 56), (c2, .chan 0 #[] false 0 0 false), (xb, .cells #[.func fv ps qs] 25)]) (b := b2) (x := .chan none) (v := .chan (some c2)) (by simp) (fun h => h) (fun y => Iff.rfl) (fun p hp => ?_) rfl rfl (.inl rfl) (fun w f0 f1 => ?_) (fun w f0 f1 => ?_) ?_
      · simp only [List.mem_cons, List.not_mem_nil, or_false] at hp; rcases hp with rfl | rfl | rfl | rfl | rfl <;> first | exact .inl rfl | exact .inr ⟨by simp, by simp; omega⟩
      · unfold ev; go_simp; try exact rfl
      · unfold ev; intro e he; simp [go_sem, f0, f1] at he; exact he
      simp only [put]; walk_nrm
      rw [ow_perm (L' := [(b2, .cells #[.chan (some c2)] 57), (b1, .cells #[.chan (some c1)] 56), (c2, .chan 0 #[] false 0 0 false), (c1, .chan 0 #[] false 0 0 false), (xb, .cells #[.func fv ps qs] 25)]) (by intro p; simp only [List.mem_cons, List.not_mem_nil, or_false] <;> constructor <;> (rintro (h | h | h | h | h) <;> simp [h]))]
      exact fin c1 c2 b1 b2 (by simp; omega)
    · skip
      refine pj_new hJ (fun n => .chan (some n)) (.chan 0 #[] false 0 0 false) rfl rfl (.inl rfl) (fun w => ?_) (fun w => ?_) fun c2 hc2 _ => ?_
      · unfold ev; go_simp; try exact rfl
      · unfold ev; first | (simp [go_sem]; done) | (simp [go_sem, ev_mk1]; done) | simp [go_sem, ev_mk2]
      simp only [put]; walk_nrm
      simp only [List.map_cons, List.map_nil, List.mem_cons, List.not_mem_nil, or_false, forall_eq_or_imp, forall_eq] at hc2
      refine pj_new hJ (fun n => .pointer (some ⟨n, 0, none⟩)) (.cells #[.chan none] 56) rfl rfl (.inl rfl) (fun w => ?_) (fun w => ?_) fun b1 hb1 _ => ?_
      · unfold ev; go_simp; try exact rfl
      · unfold ev; first | (simp [go_sem]; done) | (simp [go_sem, ev_mk1]; done) | simp [go_sem, ev_mk2]
      simp only [put]; walk_nrm
      simp only [List.map_cons, List.map_nil, List.mem_cons, List.not_mem_nil, or_false, forall_eq_or_imp, forall_eq] at hb1
      refine pj_new hJ (fun n => .pointer (some ⟨n, 0, none⟩)) (.cells #[.chan none] 57) rfl rfl (.inl rfl) (fun w => ?_) (fun w => ?_) fun b2 hb2 _ => ?_
      · unfold ev; go_simp; try exact rfl
      · unfold ev; first | (simp [go_sem]; done) | (simp [go_sem, ev_mk1]; done) | simp [go_sem, ev_mk2]
      simp only [put]; walk_nrm
      simp only [List.map_cons, List.map_nil, List.mem_cons, List.not_mem_nil, or_false, forall_eq_or_imp, forall_eq] at hb2
      refine pj_new hJ (fun n => .chan (some n)) (.chan 0 #[] false 0 0 false) rfl rfl (.inl rfl) (fun w => ?_) (fun w => ?_) fun c1 hc1 _ => ?_
      · unfold ev; go_simp; try exact rfl
      · unfold ev; first | (simp [go_sem]; done) | (simp [go_sem, ev_mk1]; done) | simp [go_sem, ev_mk2]
      simp only [put]; walk_nrm
      simp only [List.map_cons, List.map_nil, List.mem_cons, List.not_mem_nil, or_false, forall_eq_or_imp, forall_eq] at hc1
      refine pj_st hJ (t := 56) (L' := [(c1, .chan 0 #[] false 0 0 false), (b2, .cells #[.chan none] 57), (b1, .cells #[.chan (some c1)] 56), (c2, .chan 0 #[] false 0 0 false), (xb, .cells #[.func fv ps qs] 25)]) (b := b1) (x := .chan none) (v := .chan (some c1)) (by simp) (fun h => h) (fun y => Iff.rfl) (fun p hp => ?_) rfl rfl (.inl rfl) (fun w f0 f1 => ?_) (fun w f0 f1 => ?_) ?_
      · simp only [List.mem_cons, List.not_mem_nil, or_false] at hp; rcases hp with rfl | rfl | rfl | rfl | rfl <;> first | exact .inl rfl | exact .inr ⟨by simp, by simp; omega⟩
      · unfold ev; go_simp; try exact rfl
      · unfold ev; intro e he; simp [go_sem, f0, f1] at he; exact he
      simp only [put]; walk_nrm
      refine pj_st hJ (t := 57) (L' := [(c1, .chan 0 #[] false 0 0 false), (b2, .cells #[.chan (some c2)] 57), (b1, .cells #[.chan (some c1)] 56), (c2, .chan 0 #[] false 0 0 false), (xb, .cells #[.func fv ps qs] 25)]) (b := b2) (x := .chan none) (v := .chan (some c2)) (by simp) (fun h => h) (fun y => Iff.rfl) (fun p hp => ?_) rfl rfl (.inl rfl) (fun w f0 f1 => ?_) (fun w f0 f1 => ?_) ?_
      · simp only [List.mem_cons, List.not_mem_nil, or_false] at hp; rcases hp with rfl | rfl | rfl | rfl | rfl <;> first | exact .inl rfl | exact .inr ⟨by simp, by simp; omega⟩
      · unfold ev; go_simp; try exact rfl
      · unfold ev; intro e he; simp [go_sem, f0, f1] at he; exact he
      simp only [put]; walk_nrm
      rw [ow_perm (L' := [(b2, .cells #[.chan (some c2)] 57), (b1, .cells #[.chan (some c1)] 56), (c2, .chan 0 #[] false 0 0 false), (c1, .chan 0 #[] false 0 0 false), (xb, .cells #[.func fv ps qs] 25)]) (by intro p; simp only [List.mem_cons, List.not_mem_nil, or_false] <;> constructor <;> (rintro (h | h | h | h | h) <;> simp [h]))]
      exact fin c1 c2 b1 b2 (by simp; omega)
    · skip
      refine pj_new hJ (fun n => .chan (some n)) (.chan 0 #[] false 0 0 false) rfl rfl (.inl rfl) (fun w => ?_) (fun w => ?_) fun c2 hc2 _ => ?_
      · unfold ev; go_simp; try exact rfl
      · unfold ev; first | (simp [go_sem]; done) | (simp [go_sem, ev_mk1]; done) | simp [go_sem, ev_mk2]
      simp only [put]; walk_nrm
      simp only [List.map_cons, List.map_nil, List.mem_cons, List.not_mem_nil, or_false, forall_eq_or_imp, forall_eq] at hc2
      refine pj_new hJ (fun n => .pointer (some ⟨n, 0, none⟩)) (.cells #[.chan none] 57) rfl rfl (.inl rfl) (fun w => ?_) (fun w => ?_) fun b2 hb2 _ => ?_
      · unfold ev; go_simp; try exact rfl
      · unfold ev; first | (simp [go_sem]; done) | (simp [go_sem, ev_mk1]; done) | simp [go_sem, ev_mk2]
      simp only [put]; walk_nrm
      simp only [List.map_cons, List.map_nil, List.mem_cons, List.not_mem_nil, or_false, forall_eq_or_imp, forall_eq] at hb2
      refine pj_new hJ (fun n => .chan (some n)) (.chan 0 #[] false 0 0 false) rfl rfl (.inl rfl) (fun w => ?_) (fun w => ?_) fun c1 hc1 _ => ?_
      · unfold ev; go_simp; try exact rfl
      · unfold ev; first | (simp [go_sem]; done) | (simp [go_sem, ev_mk1]; done) | simp [go_sem, ev_mk2]
      simp only [put]; walk_nrm
      simp only [List.map_cons, List.map_nil, List.mem_cons, List.not_mem_nil, or_false, forall_eq_or_imp, forall_eq] at hc1
      refine pj_new hJ (fun n => .pointer (some ⟨n, 0, none⟩)) (.cells #[.chan none] 56) rfl rfl (.inl rfl) (fun w => ?_) (fun w => ?_) fun b1 hb1 _ => ?_
      · unfold ev; go_simp; try exact rfl
      · unfold ev; first | (simp [go_sem]; done) | (simp [go_sem, ev_mk1]; done) | simp [go_sem, ev_mk2]
      simp only [put]; walk_nrm
      simp only [List.map_cons, List.map_nil, List.mem_cons, List.not_mem_nil, or_false, forall_eq_or_imp, forall_eq] at hb1
      refine pj_st hJ (t := 56) (L' := [(b1, .cells #[.chan (some c1)] 56), (c1, .chan 0 #[] false 0 0 false), (b2, .cells #[.chan none] 57), (c2, .chan 0 #[] false 0 0 false), (xb, .cells #[.func fv ps qs] 25)]) (b := b1) (x := .chan none) (v := .chan (some c1)) (by simp) (fun h => h) (fun y => Iff.rfl) (fun p hp => ?_) rfl rfl (.inl rfl) (fun w f0 f1 => ?_) (fun w f0 f1 => ?_) ?_
      · simp only [List.mem_cons, List.not_mem_nil, or_false] at hp; rcases hp with rfl | rfl | rfl | rfl | rfl <;> first | exact .inl rfl | exact .inr ⟨by simp, by simp; omega⟩
      · unfold ev; go_simp; try exact rfl
      · unfold ev; intro e he; simp [go_sem, f0, f1] at he; exact he
      simp only [put]; walk_nrm
      refine pj_st hJ (t := 57) (L' := [(b1, .cells #[.chan (some c1)] 56), (c1, .chan 0 #[] false 0 0 false), (b2, .cells #[.chan (some c2)] 57), (c2, .chan 0 #[] false 0 0 false), (xb, .cells #[.func fv ps qs] 25)]) (b := b2) (x := .chan none) (v := .chan (some c2)) (by simp) (fun h => h) (fun y => Iff.rfl) (fun p hp => ?_) rfl rfl (.inl rfl) (fun w f0 f1 => ?_) (fun w f0 f1 => ?_) ?_
      · simp only [List.mem_cons, List.not_mem_nil, or_false] at hp; rcases hp with rfl | rfl | rfl | rfl | rfl <;> first | exact .inl rfl | exact .inr ⟨by simp, by simp; omega⟩
      · unfold ev; go_simp; try exact rfl
      · unfold ev; intro e he; simp [go_sem, f0, f1] at he; exact he
      simp only [put]; walk_nrm
      rw [ow_perm (L' := [(b2, .cells #[.chan (some c2)] 57), (b1, .cells #[.chan (some c1)] 56), (c2, .chan 0 #[] false 0 0 false), (c1, .chan 0 #[] false 0 0 false), (xb, .cells #[.func fv ps qs] 25)]) (by intro p; simp only [List.mem_cons, List.not_mem_nil, or_false] <;> constructor <;> (rintro (h | h | h | h | h) <;> simp [h]))]
      exact fin c1 c2 b1 b2 (by simp; omega)
    · skip
      refine pj_new hJ (fun n => .chan (some n)) (.chan 0 #[] false 0 0 false) rfl rfl (.inl rfl) (fun w => ?_) (fun w => ?_) fun c2 hc2 _ => ?_
      · unfold ev; go_simp; try exact rfl
      · unfold ev; first | (simp [go_sem]; done) | (simp [go_sem, ev_mk1]; done) | simp [go_sem, ev_mk2]
      simp only [put]; walk_nrm
      simp only [List.map_cons, List.map_nil, List.mem_cons, List.not_mem_nil, or_false, forall_eq_or_imp, forall_eq] at hc2
      refine pj_new hJ (fun n => .pointer (some ⟨n, 0, none⟩)) (.cells #[.chan none] 57) rfl rfl (.inl rfl) (fun w => ?_) (fun w => ?_) fun b2 hb2 _ => ?_
      · unfold ev; go_simp; try exact rfl
      · unfold ev; first | (simp [go_sem]; done) | (simp [go_sem, ev_mk1]; done) | simp [go_sem, ev_mk2]
      simp only [put]; walk_nrm
      simp only [List.map_cons, List.map_nil, List.mem_cons, List.not_mem_nil, or_false, forall_eq_or_imp, forall_eq] at hb2
      refine pj_new hJ (fun n => .pointer (some ⟨n, 0, none⟩)) (.cells #[.chan none] 56) rfl rfl (.inl rfl) (fun w => ?_) (fun w => ?_) fun b1 hb1 _ => ?_
      · unfold ev; go_simp; try exact rfl
      · unfold ev; first | (simp [go_sem]; done) | (simp [go_sem, ev_mk1]; done) | simp [go_sem, ev_mk2]
      simp only [put]; walk_nrm
      simp only [List.map_cons, List.map_nil, List.mem_cons, List.not_mem_nil, or_false, forall_eq_or_imp, forall_eq] at hb1
      refine pj_new hJ (fun n => .chan (some n)) (.chan 0 #[] false 0 0 false) rfl rfl (.inl rfl) (fun w => ?_) (fun w => ?_) fun c1 hc1 _ => ?_
      · unfold ev; go_simp; try exact rfl
      · unfold ev; first | (simp [go_sem]; done) | (simp [go_sem, ev_mk1]; done) | simp [go_sem, ev_mk2]
      simp only [put]; walk_nrm
      simp only [List.map_cons, List.map_nil, List.mem_cons, List.not_mem_nil, or_false, forall_eq_or_imp, forall_eq] at hc1
      refine pj_st hJ (t := 56) (L' := [(c1, .chan 0 #[] false 0 0 false), (b1, .cells #[.chan (some c1)] 56), (b2, .cells #[.chan none] 57), (c2, .chan 0 #[] false 0 0 false), (xb, .cells #[.func fv ps qs] 25)]) (b := b1) (x := .chan none) (v := .chan (some c1)) (by simp) (fun h => h) (fun y => Iff.rfl) (fun p hp => ?_) rfl rfl (.inl rfl) (fun w f0 f1 => ?_) (fun w f0 f1 => ?_) ?_
      · simp only [List.mem_cons, List.not_mem_nil, or_false] at hp; rcases hp with rfl | rfl | rfl | rfl | rfl <;> first | exact .inl rfl | exact .inr ⟨by simp, by simp; omega⟩
      · unfold ev; go_simp; try exact rfl
      · unfold ev; intro e he; simp [go_sem, f0, f1] at he; exact he
      simp only [put]; walk_nrm
      refine pj_st hJ (t := 57) (L' := [(c1, .chan 0 #[] false 0 0 false), (b1, .cells #[.chan (some c1)] 56), (b2, .cells #[.chan (some c2)] 57), (c2, .chan 0 #[] false 0 0 false), (xb, .cells #[.func fv ps qs] 25)]) (b := b2) (x := .chan none) (v := .chan (some c2)) (by simp) (fun h => h) (fun y => Iff.rfl) (fun p hp => ?_) rfl rfl (.inl rfl) (fun w f0 f1 => ?_) (fun w f0 f1 => ?_) ?_
      · simp only [List.mem_cons, List.not_mem_nil, or_false] at hp; rcases hp with rfl | rfl | rfl | rfl | rfl <;> first | exact .inl rfl | exact .inr ⟨by simp, by simp; omega⟩
      · unfold ev; go_simp; try exact rfl
      · unfold ev; intro e he; simp [go_sem, f0, f1] at he; exact he
      simp only [put]; walk_nrm
      rw [ow_perm (L' := [(b2, .cells #[.chan (some c2)] 57), (b1, .cells #[.chan (some c1)] 56), (c2, .chan 0 #[] false 0 0 false), (c1, .chan 0 #[] false 0 0 false), (xb, .cells #[.func fv ps qs] 25)]) (by intro p; simp only [List.mem_cons, List.not_mem_nil, or_false] <;> constructor <;> (rintro (h | h | h | h | h) <;> simp [h]))]
      exact fin c1 c2 b1 b2 (by simp; omega)
    · skip
      refine pj_new hJ (fun n => .pointer (some ⟨n, 0, none⟩)) (.cells #[.chan none] 56) rfl rfl (.inl rfl) (fun w => ?_) (fun w => ?_) fun b1 hb1 _ => ?_
      · unfold ev; go_simp; try exact rfl
      · unfold ev; first | (simp [go_sem]; done) | (simp [go_sem, ev_mk1]; done) | simp [go_sem, ev_mk2]
      simp only [put]; walk_nrm
      simp only [List.map_cons, List.map_nil, List.mem_cons, List.not_mem_nil, or_false, forall_eq_or_imp, forall_eq] at hb1
      refine pj_new hJ (fun n => .chan (some n)) (.chan 0 #[] false 0 0 false) rfl rfl (.inl rfl) (fun w => ?_) (fun w => ?_) fun c1 hc1 _ => ?_
      · unfold ev; go_simp; try exact rfl
      · unfold ev; first | (simp [go_sem]; done) | (simp [go_sem, ev_mk1]; done) | simp [go_sem, ev_mk2]
      simp only [put]; walk_nrm
      simp only [List.map_cons, List.map_nil, List.mem_cons, List.not_mem_nil, or_false, forall_eq_or_imp, forall_eq] at hc1
      refine pj_new hJ (fun n => .chan (some n)) (.chan 0 #[] false 0 0 false) rfl rfl (.inl rfl) (fun w => ?_) (fun w => ?_) fun c2 hc2 _ => ?_
      · unfold ev; go_simp; try exact rfl
      · unfold ev; first | (simp [go_sem]; done) | (simp [go_sem, ev_mk1]; done) | simp [go_sem, ev_mk2]
      simp only [put]; walk_nrm
      simp only [List.map_cons, List.map_nil, List.mem_cons, List.not_mem_nil, or_false, forall_eq_or_imp, forall_eq] at hc2
      refine pj_new hJ (fun n => .pointer (some ⟨n, 0, none⟩)) (.cells #[.chan none] 57) rfl rfl (.inl rfl) (fun w => ?_) (fun w => ?_) fun b2 hb2 _ => ?_
      · unfold ev; go_simp; try exact rfl
      · unfold ev; first | (simp [go_sem]; done) | (simp [go_sem, ev_mk1]; done) | simp [go_sem, ev_mk2]
      simp only [put]; walk_nrm
      simp only [List.map_cons, List.map_nil, List.mem_cons, List.not_mem_nil, or_false, forall_eq_or_imp, forall_eq] at hb2
      refine pj_st hJ (t := 56) (L' := [(b2, .cells #[.chan none] 57), (c2, .chan 0 #[] false 0 0 false), (c1, .chan 0 #[] false 0 0 false), (b1, .cells #[.chan (some c1)] 56), (xb, .cells #[.func fv ps qs] 25)]) (b := b1) (x := .chan none) (v := .chan (some c1)) (by simp) (fun h => h) (fun y => Iff.rfl) (fun p hp => ?_) rfl rfl (.inl rfl) (fun w f0 f1 => ?_) (fun w f0 f1 => ?_) ?_
      · simp only [List.mem_cons, List.not_mem_nil, or_false] at hp; rcases hp with rfl | rfl | rfl | rfl | rfl <;> first | exact .inl rfl | exact .inr ⟨by simp, by simp; omega⟩
      · unfold ev; go_simp; try exact rfl
      · unfold ev; intro e he; simp [go_sem, f0, f1] at he; exact he
      simp only [put]; walk_nrm
      refine pj_st hJ (t := 57) (L' := [(b2, .cells #[.chan (some c2)] 57), (c2, .chan 0 #[] false 0 0 false), (c1, .chan 0 #[] false 0 0 false), (b1, .cells #[.chan (some c1)] 56), (xb, .cells #[.func fv ps qs] 25)]) (b := b2) (x := .chan none) (v := .chan (some c2)) (by simp) (fun h => h) (fun y => Iff.rfl) (fun p hp => ?_) rfl rfl (.inl rfl) (fun w f0 f1 => ?_) (fun w f0 f1 => ?_) ?_
      · simp only [List.mem_cons, List.not_mem_nil, or_false] at hp; rcases hp with rfl | rfl | rfl | rfl | rfl <;> first | exact .inl rfl | exact .inr ⟨by simp, by simp; omega⟩
      · unfold ev; go_simp; try exact rfl
      · unfold ev; intro e he; simp [go_sem, f0, f1] at he; exact he
      simp only [put]; walk_nrm
      rw [ow_perm (L' := [(b2, .cells #[.chan (some c2)] 57), (b1, .cells #[.chan (some c1)] 56), (c2, .chan 0 #[] false 0 0 false), (c1, .chan 0 #[] false 0 0 false), (xb, .cells #[.func fv ps qs] 25)]) (by intro p; simp only [List.mem_cons, List.not_mem_nil, or_false] <;> constructor <;> (rintro (h | h | h | h | h) <;> simp [h]))]
      exact fin c1 c2 b1 b2 (by simp; omega)
    · skip
      refine pj_new hJ (fun n => .pointer (some ⟨n, 0, none⟩)) (.cells #[.chan none] 56) rfl rfl (.inl rfl) (fun w => ?_) (fun w => ?_) fun b1 hb1 _ => ?_
      · unfold ev; go_simp; try exact rfl
      · unfold ev; first | (simp [go_sem]; done) | (simp [go_sem, ev_mk1]; done) | simp [go_sem, ev_mk2]
      simp only [put]; walk_nrm
      simp only [List.map_cons, List.map_nil, List.mem_cons, List.not_mem_nil, or_false, forall_eq_or_imp, forall_eq] at hb1
      refine pj_new hJ (fun n => .chan (some n)) (.chan 0 #[] false 0 0 false) rfl rfl (.inl rfl) (fun w => ?_) (fun w => ?_) fun c1 hc1 _ => ?_
      · unfold ev; go_simp; try exact rfl
      · unfold ev; first | (simp [go_sem]; done) | (simp [go_sem, ev_mk1]; done) | simp [go_sem, ev_mk2]
      simp only [put]; walk_nrm
      simp only [List.map_cons, List.map_nil, List.mem_cons, List.not_mem_nil, or_false, forall_eq_or_imp, forall_eq] at hc1
      refine pj_new hJ (fun n => .pointer (some ⟨n, 0, none⟩)) (.cells #[.chan none] 57) rfl rfl (.inl rfl) (fun w => ?_) (fun w => ?_) fun b2 hb2 _ => ?_
      · unfold ev; go_simp; try exact rfl
      · unfold ev; first | (simp [go_sem]; done) | (simp [go_sem, ev_mk1]; done) | simp [go_sem, ev_mk2]
      simp only [put]; walk_nrm
      simp only [List.map_cons, List.map_nil, List.mem_cons, List.not_mem_nil, or_false, forall_eq_or_imp, forall_eq] at hb2
      refine pj_new hJ (fun n => .chan (some n)) (.chan 0 #[] false 0 0 false) rfl rfl (.inl rfl) (fun w => ?_) (fun w => ?_) fun c2 hc2 _ => ?_
      · unfold ev; go_simp; try exact rfl
      · unfold ev; first | (simp [go_sem]; done) | (simp [go_sem, ev_mk1]; done) | simp [go_sem, ev_mk2]
      simp only [put]; walk_nrm
      simp only [List.map_cons, List.map_nil, List.mem_cons, List.not_mem_nil, or_false, forall_eq_or_imp, forall_eq] at hc2
      refine pj_st hJ (t := 56) (L' := [(c2, .chan 0 #[] false 0 0 false), (b2, .cells #[.chan none] 57), (c1, .chan 0 #[] false 0 0 false), (b1, .cells #[.chan (some c1)] 56), (xb, .cells #[.func fv ps qs] 25)]) (b := b1) (x := .chan none) (v := .chan (some c1)) (by simp) (fun h => h) (fun y => Iff.rfl) (fun p hp => ?_) rfl rfl (.inl rfl) (fun w f0 f1 => ?_) (fun w f0 f1 => ?_) ?_
      · simp only [List.mem_cons, List.not_mem_nil, or_false] at hp; rcases hp with rfl | rfl | rfl | rfl | rfl <;> first | exact .inl rfl | exact .inr ⟨by simp, by simp; omega⟩
      · unfold ev; go_simp; try exact rfl
      · unfold ev; intro e he; simp [go_sem, f0, f1] at he; exact he
      simp only [put]; walk_nrm
      refine pj_st hJ (t := 57) (L' := [(c2, .chan 0 #[] false 0 0 false), (b2, .cells #[.chan (some c2)] 57), (c1, .chan 0 #[] false 0 0 false), (b1, .cells #[.chan (some c1)] 56), (xb, .cells #[.func fv ps qs] 25)]) (b := b2) (x := .chan none) (v := .chan (some c2)) (by simp) (fun h => h) (fun y => Iff.rfl) (fun p hp => ?_) rfl rfl (.inl rfl) (fun w f0 f1 => ?_) (fun w f0 f1 => ?_) ?_
      · simp only [List.mem_cons, List.not_mem_nil, or_false] at hp; rcases hp with rfl | rfl | rfl | rfl | rfl <;> first | exact .inl rfl | exact .inr ⟨by simp, by simp; omega⟩
      · unfold ev; go_simp; try exact rfl
      · unfold ev; intro e he; simp [go_sem, f0, f1] at he; exact he
      simp only [put]; walk_nrm
      rw [ow_perm (L' := [(b2, .cells #[.chan (some c2)] 57), (b1, .cells #[.chan (some c1)] 56), (c2, .chan 0 #[] false 0 0 false), (c1, .chan 0 #[] false 0 0 false), (xb, .cells #[.func fv ps qs] 25)]) (by intro p; simp only [List.mem_cons, List.not_mem_nil, or_false] <;> constructor <;> (rintro (h | h | h | h | h) <;> simp [h]))]
      exact fin c1 c2 b1 b2 (by simp; omega)
    · skip
      refine pj_new hJ (fun n => .pointer (some ⟨n, 0, none⟩)) (.cells #[.chan none] 56) rfl rfl (.inl rfl) (fun w => ?_) (fun w => ?_) fun b1 hb1 _ => ?_
      · unfold ev; go_simp; try exact rfl
      · unfold ev; first | (simp [go_sem]; done) | (simp [go_sem, ev_mk1]; done) | simp [go_sem, ev_mk2]
      simp only [put]; walk_nrm
      simp only [List.map_cons, List.map_nil, List.mem_cons, List.not_mem_nil, or_false, forall_eq_or_imp, forall_eq] at hb1
      refine pj_new hJ (fun n => .chan (some n)) (.chan 0 #[] false 0 0 false) rfl rfl (.inl rfl) (fun w => ?_) (fun w => ?_) fun c1 hc1 _ => ?_
      · unfold ev; go_simp; try exact rfl
      · unfold ev; first | (simp [go_sem]; done) | (simp [go_sem, ev_mk1]; done) | simp [go_sem, ev_mk2]
      simp only [put]; walk_nrm
      simp only [List.map_cons, List.map_nil, List.mem_cons, List.not_mem_nil, or_false, forall_eq_or_imp, forall_eq] at hc1
      refine pj_new hJ (fun n => .pointer (some ⟨n, 0, none⟩)) (.cells #[.chan none] 57) rfl rfl (.inl rfl) (fun w => ?_) (fun w => ?_) fun b2 hb2 _ => ?_
      · unfold ev; go_simp; try exact rfl
      · unfold ev; first | (simp [go_sem]; done) | (simp [go_sem, ev_mk1]; done) | simp [go_sem, ev_mk2]
      simp only [put]; walk_nrm
      simp only [List.map_cons, List.map_nil, List.mem_cons, List.not_mem_nil, or_false, forall_eq_or_imp, forall_eq] at hb2
      refine pj_st hJ (t := 56) (L' := [(b2, .cells #[.chan none] 57), (c1, .chan 0 #[] false 0 0 false), (b1, .cells #[.chan (some c1)] 56), (xb, .cells #[.func fv ps qs] 25)]) (b := b1) (x := .chan none) (v := .chan (some c1)) (by simp) (fun h => h) (fun y => Iff.rfl) (fun p hp => ?_) rfl rfl (.inl rfl) (fun w f0 f1 => ?_) (fun w f0 f1 => ?_) ?_
      · simp only [List.mem_cons, List.not_mem_nil, or_false] at hp; rcases hp with rfl | rfl | rfl | rfl <;> first | exact .inl rfl | exact .inr ⟨by simp, by simp; omega⟩
      · unfold ev; go_simp; try exact rfl
      · unfold ev; intro e he; simp [go_sem, f0, f1] at he; exact he
      simp only [put]; walk_nrm
      refine pj_new hJ (fun n => .chan (some n)) (.chan 0 #[] false 0 0 false) rfl rfl (.inl rfl) (fun w => ?_) (fun w => ?_) fun c2 hc2 _ => ?_
      · unfold ev; go_simp; try exact rfl
      · unfold ev; first | (simp [go_sem]; done) | (simp [go_sem, ev_mk1]; done) | simp [go_sem, ev_mk2]
      simp only [put]; walk_nrm
      simp only [List.map_cons, List.map_nil, List.mem_cons, List.not_mem_nil, or_false, forall_eq_or_imp, forall_eq] at hc2
      refine pj_st hJ (t := 57) (L' := [(c2, .chan 0 #[] false 0 0 false), (b2, .cells #[.chan (some c2)] 57), (c1, .chan 0 #[] false 0 0 false), (b1, .cells #[.chan (some c1)] 56), (xb, .cells #[.func fv ps qs] 25)]) (b := b2) (x := .chan none) (v := .chan (some c2)) (by simp) (fun h => h) (fun y => Iff.rfl) (fun p hp => ?_) rfl rfl (.inl rfl) (fun w f0 f1 => ?_) (fun w f0 f1 => ?_) ?_
      · simp only [List.mem_cons, List.not_mem_nil, or_false] at hp; rcases hp with rfl | rfl | rfl | rfl | rfl <;> first | exact .inl rfl | exact .inr ⟨by simp, by simp; omega⟩
      · unfold ev; go_simp; try exact rfl
      · unfold ev; intro e he; simp [go_sem, f0, f1] at he; exact he
      simp only [put]; walk_nrm
      rw [ow_perm (L' := [(b2, .cells #[.chan (some c2)] 57), (b1, .cells #[.chan (some c1)] 56), (c2, .chan 0 #[] false 0 0 false), (c1, .chan 0 #[] false 0 0 false), (xb, .cells #[.func fv ps qs] 25)]) (by intro p; simp only [List.mem_cons, List.not_mem_nil, or_false] <;> constructor <;> (rintro (h | h | h | h | h) <;> simp [h]))]
      exact fin c1 c2 b1 b2 (by simp; omega)
    · skip
      refine pj_new hJ (fun n => .pointer (some ⟨n, 0, none⟩)) (.cells #[.chan none] 56) rfl rfl (.inl rfl) (fun w => ?_) (fun w => ?_) fun b1 hb1 _ => ?_
      · unfold ev; go_simp; try exact rfl
      · unfold ev; first | (simp [go_sem]; done) | (simp [go_sem, ev_mk1]; done) | simp [go_sem, ev_mk2]
      simp only [put]; walk_nrm
      simp only [List.map_cons, List.map_nil, List.mem_cons, List.not_mem_nil, or_false, forall_eq_or_imp, forall_eq] at hb1
      refine pj_new hJ (fun n => .chan (some n)) (.chan 0 #[] false 0 0 false) rfl rfl (.inl rfl) (fun w => ?_) (fun w => ?_) fun c2 hc2 _ => ?_
      · unfold ev; go_simp; try exact rfl
      · unfold ev; first | (simp [go_sem]; done) | (simp [go_sem, ev_mk1]; done) | simp [go_sem, ev_mk2]
      simp only [put]; walk_nrm
      simp only [List.map_cons, List.map_nil, List.mem_cons, List.not_mem_nil, or_false, forall_eq_or_imp, forall_eq] at hc2
      refine pj_new hJ (fun n => .chan (some n)) (.chan 0 #[] false 0 0 false) rfl rfl (.inl rfl) (fun w => ?_) (fun w => ?_) fun c1 hc1 _ => ?_
      · unfold ev; go_simp; try exact rfl
      · unfold ev; first | (simp [go_sem]; done) | (simp [go_sem, ev_mk1]; done) | simp [go_sem, ev_mk2]
      simp only [put]; walk_nrm
      simp only [List.map_cons, List.map_nil, List.mem_cons, List.not_mem_nil, or_false, forall_eq_or_imp, forall_eq] at hc1
      refine pj_new hJ (fun n => .pointer (some ⟨n, 0, none⟩)) (.cells #[.chan none] 57) rfl rfl (.inl rfl) (fun w => ?_) (fun w => ?_) fun b2 hb2 _ => ?_
      · unfold ev; go_simp; try exact rfl
      · unfold ev; first | (simp [go_sem]; done) | (simp [go_sem, ev_mk1]; done) | simp [go_sem, ev_mk2]
      simp only [put]; walk_nrm
      simp only [List.map_cons, List.map_nil, List.mem_cons, List.not_mem_nil, or_false, forall_eq_or_imp, forall_eq] at hb2
      refine pj_st hJ (t := 56) (L' := [(b2, .cells #[.chan none] 57), (c1, .chan 0 #[] false 0 0 false), (c2, .chan 0 #[] false 0 0 false), (b1, .cells #[.chan (some c1)] 56), (xb, .cells #[.func fv ps qs] 25)]) (b := b1) (x := .chan none) (v := .chan (some c1)) (by simp) (fun h => h) (fun y => Iff.rfl) (fun p hp => ?_) rfl rfl (.inl rfl) (fun w f0 f1 => ?_) (fun w f0 f1 => ?_) ?_
      · simp only [List.mem_cons, List.not_mem_nil, or_false] at hp; rcases hp with rfl | rfl | rfl | rfl | rfl <;> first | exact .inl rfl | exact .inr ⟨by simp, by simp; omega⟩
      · unfold ev; go_simp; try exact rfl
      · unfold ev; intro e he; simp [go_sem, f0, f1] at he; exact he
      simp only [put]; walk_nrm
      refine pj_st hJ (t := 57) (L' := [(b2, .cells #[.chan (some c2)] 57), (c1, .chan 0 #[] false 0 0 false), (c2, .chan 0 #[] false 0 0 false), (b1, .cells #[.chan (some c1)] 56), (xb, .cells #[.func fv ps qs] 25)]) (b := b2) (x := .chan none) (v := .chan (some c2)) (by simp) (fun h => h) (fun y => Iff.rfl) (fun p hp => ?_) rfl rfl (.inl rfl) (fun w f0 f1 => ?_) (fun w f0 f1 => ?_) ?_
      · simp only [List.mem_cons, List.not_mem_nil, or_false] at hp; rcases hp with rfl | rfl | rfl | rfl | rfl <;> first | exact .inl rfl | exact .inr ⟨by simp, by simp; omega⟩
      · unfold ev; go_simp; try exact rfl
      · unfold ev; intro e he; simp [go_sem, f0, f1] at he; exact he
      simp only [put]; walk_nrm
      rw [ow_perm (L' := [(b2, .cells #[.chan (some c2)] 57), (b1, .cells #[.chan (some c1)] 56), (c2, .chan 0 #[] false 0 0 false), (c1, .chan 0 #[] false 0 0 false), (xb, .cells #[.func fv ps qs] 25)]) (by intro p; simp only [List.mem_cons, List.not_mem_nil, or_false] <;> constructor <;> (rintro (h | h | h | h | h) <;> simp [h]))]
      exact fin c1 c2 b1 b2 (by simp; omega)
    · skip
      refine pj_new hJ (fun n => .pointer (some ⟨n, 0, none⟩)) (.cells #[.chan none] 56) rfl rfl (.inl rfl) (fun w => ?_) (fun w => ?_) fun b1 hb1 _ => ?_
      · unfold ev; go_simp; try exact rfl
      · unfold ev; first | (simp [go_sem]; done) | (simp [go_sem, ev_mk1]; done) | simp [go_sem, ev_mk2]
      simp only [put]; walk_nrm
      simp only [List.map_cons, List.map_nil, List.mem_cons, List.not_mem_nil, or_false, forall_eq_or_imp, forall_eq] at hb1
      refine pj_new hJ (fun n => .chan (some n)) (.chan 0 #[] false 0 0 false) rfl rfl (.inl rfl) (fun w => ?_) (fun w => ?_) fun c2 hc2 _ => ?_
      · unfold ev; go_simp; try exact rfl
      · unfold ev; first | (simp [go_sem]; done) | (simp [go_sem, ev_mk1]; done) | simp [go_sem, ev_mk2]
      simp only [put]; walk_nrm
      simp only [List.map_cons, List.map_nil, List.mem_cons, List.not_mem_nil, or_false, forall_eq_or_imp, forall_eq] at hc2
      refine pj_new hJ (fun n => .pointer (some ⟨n, 0, none⟩)) (.cells #[.chan none] 57) rfl rfl (.inl rfl) (fun w => ?_) (fun w => ?_) fun b2 hb2 _ => ?_
      · unfold ev; go_simp; try exact rfl
      · unfold ev; first | (simp [go_sem]; done) | (simp [go_sem, ev_mk1]; done) | simp [go_sem, ev_mk2]
      simp only [put]; walk_nrm
      simp only [List.map_cons, List.map_nil, List.mem_cons, List.not_mem_nil, or_false, forall_eq_or_imp, forall_eq] at hb2
      refine pj_new hJ (fun n => .chan (some n)) (.chan 0 #[] false 0 0 false) rfl rfl (.inl rfl) (fun w => ?_) (fun w => ?_) fun c1 hc1 _ => ?_
      · unfold ev; go_simp; try exact rfl
      · unfold ev; first | (simp [go_sem]; done) | (simp [go_sem, ev_mk1]; done) | simp [go_sem, ev_mk2]
      simp only [put]; walk_nrm
      simp only [List.map_cons, List.map_nil, List.mem_cons, List.not_mem_nil, or_false, forall_eq_or_imp, forall_eq] at hc1
      refine pj_st hJ (t := 56) (L' := [(c1, .chan 0 #[] false 0 0 false), (b2, .cells #[.chan none] 57), (c2, .chan 0 #[] false 0 0 false), (b1, .cells #[.chan (some c1)] 56), (xb, .cells #[.func fv ps qs] 25)]) (b := b1) (x := .chan none) (v := .chan (some c1)) (by simp) (fun h => h) (fun y => Iff.rfl) (fun p hp => ?_) rfl rfl (.inl rfl) (fun w f0 f1 => ?_) (fun w f0 f1 => ?_) ?_
      · simp only [List.mem_cons, List.not_mem_nil, or_false] at hp; rcases hp with rfl | rfl | rfl | rfl | rfl <;> first | exact .inl rfl | exact .inr ⟨by simp, by simp; omega⟩
      · unfold ev; go_simp; try exact rfl
      · unfold ev; intro e he; simp [go_sem, f0, f1] at he; exact he
      simp only [put]; walk_nrm
      refine pj_st hJ (t := 57) (L' := [(c1, .chan 0 #[] false 0 0 false), (b2, .cells #[.chan (some c2)] 57), (c2, .chan 0 #[] false 0 0 false), (b1, .cells #[.chan (some c1)] 56), (xb, .cells #[.func fv ps qs] 25)]) (b := b2) (x := .chan none) (v := .chan (some c2)) (by simp) (fun h => h) (fun y => Iff.rfl) (fun p hp => ?_) rfl rfl (.inl rfl) (fun w f0 f1 => ?_) (fun w f0 f1 => ?_) ?_
      · simp only [List.mem_cons, List.not_mem_nil, or_false] at hp; rcases hp with rfl | rfl | rfl | rfl | rfl <;> first | exact .inl rfl | exact .inr ⟨by simp, by simp; omega⟩
      · unfold ev; go_simp; try exact rfl
      · unfold ev; intro e he; simp [go_sem, f0, f1] at he; exact he
      simp only [put]; walk_nrm
      rw [ow_perm (L' := [(b2, .cells #[.chan (some c2)] 57), (b1, .cells #[.chan (some c1)] 56), (c2, .chan 0 #[] false 0 0 false), (c1, .chan 0 #[] false 0 0 false), (xb, .cells #[.func fv ps qs] 25)]) (by intro p; simp only [List.mem_cons, List.not_mem_nil, or_false] <;> constructor <;> (rintro (h | h | h | h | h) <;> simp [h]))]
      exact fin c1 c2 b1 b2 (by simp; omega)
    · skip
      refine pj_new hJ (fun n => .pointer (some ⟨n, 0, none⟩)) (.cells #[.chan none] 56) rfl rfl (.inl rfl) (fun w => ?_) (fun w => ?_) fun b1 hb1 _ => ?_
      · unfold ev; go_simp; try exact rfl
      · unfold ev; first | (simp [go_sem]; done) | (simp [go_sem, ev_mk1]; done) | simp [go_sem, ev_mk2]
      simp only [put]; walk_nrm
      simp only [List.map_cons, List.map_nil, List.mem_cons, List.not_mem_nil, or_false, forall_eq_or_imp, forall_eq] at hb1
      refine pj_new hJ (fun n => .pointer (some ⟨n, 0, none⟩)) (.cells #[.chan none] 57) rfl rfl (.inl rfl) (fun w => ?_) (fun w => ?_) fun b2 hb2 _ => ?_
      · unfold ev; go_simp; try exact rfl
      · unfold ev; first | (simp [go_sem]; done) | (simp [go_sem, ev_mk1]; done) | simp [go_sem, ev_mk2]
      simp only [put]; walk_nrm
      simp only [List.map_cons, List.map_nil, List.mem_cons, List.not_mem_nil, or_false, forall_eq_or_imp, forall_eq] at hb2
      refine pj_new hJ (fun n => .chan (some n)) (.chan 0 #[] false 0 0 false) rfl rfl (.inl rfl) (fun w => ?_) (fun w => ?_) fun c1 hc1 _ => ?_
      · unfold ev; go_simp; try exact rfl
      · unfold ev; first | (simp [go_sem]; done) | (simp [go_sem, ev_mk1]; done) | simp [go_sem, ev_mk2]
      simp only [put]; walk_nrm
      simp only [List.map_cons, List.map_nil, List.mem_cons, List.not_mem_nil, or_false, forall_eq_or_imp, forall_eq] at hc1
      refine pj_new hJ (fun n => .chan (some n)) (.chan 0 #[] false 0 0 false) rfl rfl (.inl rfl) (fun w => ?_) (fun w => ?_) fun c2 hc2 _ => ?_
      · unfold ev; go_simp; try exact rfl
      · unfold ev; first | (simp [go_sem]; done) | (simp [go_sem, ev_mk1]; done) | simp [go_sem, ev_mk2]
      simp only [put]; walk_nrm
      simp only [List.map_cons, List.map_nil, List.mem_cons, List.not_mem_nil, or_false, forall_eq_or_imp, forall_eq] at hc2
      refine pj_st hJ (t := 56) (L' := [(c2, .chan 0 #[] false 0 0 false), (c1, .chan 0 #[] false 0 0 false), (b2, .cells #[.chan none] 57), (b1, .cells #[.chan (some c1)] 56), (xb, .cells #[.func fv ps qs] 25)]) (b := b1) (x := .chan none) (v := .chan (some c1)) (by simp) (fun h => h) (fun y => Iff.rfl) (fun p hp => ?_) rfl rfl (.inl rfl) (fun w f0 f1 => ?_) (fun w f0 f1 => ?_) ?_
      · simp only [List.mem_cons, List.not_mem_nil, or_false] at hp; rcases hp with rfl | rfl | rfl | rfl | rfl <;> first | exact .inl rfl | exact .inr ⟨by simp, by simp; omega⟩
      · unfold ev; go_simp; try exact rfl
      · unfold ev; intro e he; simp [go_sem, f0, f1] at he; exact he
      simp only [put]; walk_nrm
      refine pj_st hJ (t := 57) (L' := [(c2, .chan 0 #[] false 0 0 false), (c1, .chan 0 #[] false 0 0 false), (b2, .cells #[.chan (some c2)] 57), (b1, .cells #[.chan (some c1)] 56), (xb, .cells #[.func fv ps qs] 25)]) (b := b2) (x := .chan none) (v := .chan (some c2)) (by simp) (fun h => h) (fun y => Iff.rfl) (fun p hp => ?_) rfl rfl (.inl rfl) (fun w f0 f1 => ?_) (fun w f0 f1 => ?_) ?_
      · simp only [List.mem_cons, List.not_mem_nil, or_false] at hp; rcases hp with rfl | rfl | rfl | rfl | rfl <;> first | exact .inl rfl | exact .inr ⟨by simp, by simp; omega⟩
      · unfold ev; go_simp; try exact rfl
      · unfold ev; intro e he; simp [go_sem, f0, f1] at he; exact he
      simp only [put]; walk_nrm
      rw [ow_perm (L' := [(b2, .cells #[.chan (some c2)] 57), (b1, .cells #[.chan (some c1)] 56), (c2, .chan 0 #[] false 0 0 false), (c1, .chan 0 #[] false 0 0 false), (xb, .cells #[.func fv ps qs] 25)]) (by intro p; simp only [List.mem_cons, List.not_mem_nil, or_false] <;> constructor <;> (rintro (h | h | h | h | h) <;> simp [h]))]
      exact fin c1 c2 b1 b2 (by simp; omega)
    · skip
      refine pj_new hJ (fun n => .pointer (some ⟨n, 0, none⟩)) (.cells #[.chan none] 56) rfl rfl (.inl rfl) (fun w => ?_) (fun w => ?_) fun b1 hb1 _ => ?_
      · unfold ev; go_simp; try exact rfl
      · unfold ev; first | (simp [go_sem]; done) | (simp [go_sem, ev_mk1]; done) | simp [go_sem, ev_mk2]
      simp only [put]; walk_nrm
      simp only [List.map_cons, List.map_nil, List.mem_cons, List.not_mem_nil, or_false, forall_eq_or_imp, forall_eq] at hb1
      refine pj_new hJ (fun n => .pointer (some ⟨n, 0, none⟩)) (.cells #[.chan none] 57) rfl rfl (.inl rfl) (fun w => ?_) (fun w => ?_) fun b2 hb2 _ => ?_
      · unfold ev; go_simp; try exact rfl
      · unfold ev; first | (simp [go_sem]; done) | (simp [go_sem, ev_mk1]; done) | simp [go_sem, ev_mk2]
      simp only [put]; walk_nrm
      simp only [List.map_cons, List.map_nil, List.mem_cons, List.not_mem_nil, or_false, forall_eq_or_imp, forall_eq] at hb2
      refine pj_new hJ (fun n => .chan (some n)) (.chan 0 #[] false 0 0 false) rfl rfl (.inl rfl) (fun w => ?_) (fun w => ?_) fun c1 hc1 _ => ?_
      · unfold ev; go_simp; try exact rfl
      · unfold ev; first | (simp [go_sem]; done) | (simp [go_sem, ev_mk1]; done) | simp [go_sem, ev_mk2]
      simp only [put]; walk_nrm
      simp only [List.map_cons, List.map_nil, List.mem_cons, List.not_mem_nil, or_false, forall_eq_or_imp, forall_eq] at hc1
      refine pj_st hJ (t := 56) (L' := [(c1, .chan 0 #[] false 0 0 false), (b2, .cells #[.chan none] 57), (b1, .cells #[.chan (some c1)] 56), (xb, .cells #[.func fv ps qs] 25)]) (b := b1) (x := .chan none) (v := .chan (some c1)) (by simp) (fun h => h) (fun y => Iff.rfl) (fun p hp => ?_) rfl rfl (.inl rfl) (fun w f0 f1 => ?_) (fun w f0 f1 => ?_) ?_
      · simp only [List.mem_cons, List.not_mem_nil, or_false] at hp; rcases hp with rfl | rfl | rfl | rfl <;> first | exact .inl rfl | exact .inr ⟨by simp, by simp; omega⟩
      · unfold ev; go_simp; try exact rfl
      · unfold ev; intro e he; simp [go_sem, f0, f1] at he; exact he
      simp only [put]; walk_nrm
      refine pj_new hJ (fun n => .chan (some n)) (.chan 0 #[] false 0 0 false) rfl rfl (.inl rfl) (fun w => ?_) (fun w => ?_) fun c2 hc2 _ => ?_
      · unfold ev; go_simp; try exact rfl
      · unfold ev; first | (simp [go_sem]; done) | (simp [go_sem, ev_mk1]; done) | simp [go_sem, ev_mk2]
      simp only [put]; walk_nrm
      simp only [List.map_cons, List.map_nil, List.mem_cons, List.not_mem_nil, or_false, forall_eq_or_imp, forall_eq] at hc2
      refine pj_st hJ (t := 57) (L' := [(c2, .chan 0 #[] false 0 0 false), (c1, .chan 0 #[] false 0 0 false), (b2, .cells #[.chan (some c2)] 57), (b1, .cells #[.chan (some c1)] 56), (xb, .cells #[.func fv ps qs] 25)]) (b := b2) (x := .chan none) (v := .chan (some c2)) (by simp) (fun h => h) (fun y => Iff.rfl) (fun p hp => ?_) rfl rfl (.inl rfl) (fun w f0 f1 => ?_) (fun w f0 f1 => ?_) ?_
      · simp only [List.mem_cons, List.not_mem_nil, or_false] at hp; rcases hp with rfl | rfl | rfl | rfl | rfl <;> first | exact .inl rfl | exact .inr ⟨by simp, by simp; omega⟩
      · unfold ev; go_simp; try exact rfl
      · unfold ev; intro e he; simp [go_sem, f0, f1] at he; exact he
      simp only [put]; walk_nrm
      rw [ow_perm (L' := [(b2, .cells #[.chan (some c2)] 57), (b1, .cells #[.chan (some c1)] 56), (c2, .chan 0 #[] false 0 0 false), (c1, .chan 0 #[] false 0 0 false), (xb, .cells #[.func fv ps qs] 25)]) (by intro p; simp only [List.mem_cons, List.not_mem_nil, or_false] <;> constructor <;> (rintro (h | h | h | h | h) <;> simp [h]))]
      exact fin c1 c2 b1 b2 (by simp; omega)
    · skip
      refine pj_new hJ (fun n => .pointer (some ⟨n, 0, none⟩)) (.cells #[.chan none] 56) rfl rfl (.inl rfl) (fun w => ?_) (fun w => ?_) fun b1 hb1 _ => ?_
      · unfold ev; go_simp; try exact rfl
      · unfold ev; first | (simp [go_sem]; done) | (simp [go_sem, ev_mk1]; done) | simp [go_sem, ev_mk2]
      simp only [put]; walk_nrm
      simp only [List.map_cons, List.map_nil, List.mem_cons, List.not_mem_nil, or_false, forall_eq_or_imp, forall_eq] at hb1
      refine pj_new hJ (fun n => .pointer (some ⟨n, 0, none⟩)) (.cells #[.chan none] 57) rfl rfl (.inl rfl) (fun w => ?_) (fun w => ?_) fun b2 hb2 _ => ?_
      · unfold ev; go_simp; try exact rfl
      · unfold ev; first | (simp [go_sem]; done) | (simp [go_sem, ev_mk1]; done) | simp [go_sem, ev_mk2]
      simp only [put]; walk_nrm
      simp only [List.map_cons, List.map_nil, List.mem_cons, List.not_mem_nil, or_false, forall_eq_or_imp, forall_eq] at hb2
      refine pj_new hJ (fun n => .chan (some n)) (.chan 0 #[] false 0 0 false) rfl rfl (.inl rfl) (fun w => ?_) (fun w => ?_) fun c2 hc2 _ => ?_
      · unfold ev; go_simp; try exact rfl
      · unfold ev; first | (simp [go_sem]; done) | (simp [go_sem, ev_mk1]; done) | simp [go_sem, ev_mk2]
      simp only [put]; walk_nrm
      simp only [List.map_cons, List.map_nil, List.mem_cons, List.not_mem_nil, or_false, forall_eq_or_imp, forall_eq] at hc2
      refine pj_new hJ (fun n => .chan (some n)) (.chan 0 #[] false 0 0 false) rfl rfl (.inl rfl) (fun w => ?_) (fun w => ?_) fun c1 hc1 _ => ?_
      · unfold ev; go_simp; try exact rfl
      · unfold ev; first | (simp [go_sem]; done) | (simp [go_sem, ev_mk1]; done) | simp [go_sem, ev_mk2]
      simp only [put]; walk_nrm
      simp only [List.map_cons, List.map_nil, List.mem_cons, List.not_mem_nil, or_false, forall_eq_or_imp, forall_eq] at hc1
      refine pj_st hJ (t := 56) (L' := [(c1, .chan 0 #[] false 0 0 false), (c2, .chan 0 #[] false 0 0 false), (b2, .cells #[.chan none] 57), (b1, .cells #[.chan (some c1)] 56), (xb, .cells #[.func fv ps qs] 25)]) (b := b1) (x := .chan none) (v := .chan (some c1)) (by simp) (fun h => h) (fun y => Iff.rfl) (fun p hp => ?_) rfl rfl (.inl rfl) (fun w f0 f1 => ?_) (fun w f0 f1 => ?_) ?_
      · simp only [List.mem_cons, List.not_mem_nil, or_false] at hp; rcases hp with rfl | rfl | rfl | rfl | rfl <;> first | exact .inl rfl | exact .inr ⟨by simp, by simp; omega⟩
      · unfold ev; go_simp; try exact rfl
      · unfold ev; intro e he; simp [go_sem, f0, f1] at he; exact he
      simp only [put]; walk_nrm
      refine pj_st hJ (t := 57) (L' := [(c1, .chan 0 #[] false 0 0 false), (c2, .chan 0 #[] false 0 0 false), (b2, .cells #[.chan (some c2)] 57), (b1, .cells #[.chan (some c1)] 56), (xb, .cells #[.func fv ps qs] 25)]) (b := b2) (x := .chan none) (v := .chan (some c2)) (by simp) (fun h => h) (fun y => Iff.rfl) (fun p hp => ?_) rfl rfl (.inl rfl) (fun w f0 f1 => ?_) (fun w f0 f1 => ?_) ?_
      · simp only [List.mem_cons, List.not_mem_nil, or_false] at hp; rcases hp with rfl | rfl | rfl | rfl | rfl <;> first | exact .inl rfl | exact .inr ⟨by simp, by simp; omega⟩
      · unfold ev; go_simp; try exact rfl
      · unfold ev; intro e he; simp [go_sem, f0, f1] at he; exact he
      simp only [put]; walk_nrm
      rw [ow_perm (L' := [(b2, .cells #[.chan (some c2)] 57), (b1, .cells #[.chan (some c1)] 56), (c2, .chan 0 #[] false 0 0 false), (c1, .chan 0 #[] false 0 0 false), (xb, .cells #[.func fv ps qs] 25)]) (by intro p; simp only [List.mem_cons, List.not_mem_nil, or_false] <;> constructor <;> (rintro (h | h | h | h | h) <;> simp [h]))]
      exact fin c1 c2 b1 b2 (by simp; omega)
    · skip
      refine pj_new hJ (fun n => .pointer (some ⟨n, 0, none⟩)) (.cells #[.chan none] 57) rfl rfl (.inl rfl) (fun w => ?_) (fun w => ?_) fun b2 hb2 _ => ?_
      · unfold ev; go_simp; try exact rfl
      · unfold ev; first | (simp [go_sem]; done) | (simp [go_sem, ev_mk1]; done) | simp [go_sem, ev_mk2]
      simp only [put]; walk_nrm
      simp only [List.map_cons, List.map_nil, List.mem_cons, List.not_mem_nil, or_false, forall_eq_or_imp, forall_eq] at hb2
      refine pj_new hJ (fun n => .chan (some n)) (.chan 0 #[] false 0 0 false) rfl rfl (.inl rfl) (fun w => ?_) (fun w => ?_) fun c1 hc1 _ => ?_
      · unfold ev; go_simp; try exact rfl
      · unfold ev; first | (simp [go_sem]; done) | (simp [go_sem, ev_mk1]; done) | simp [go_sem, ev_mk2]
      simp only [put]; walk_nrm
      simp only [List.map_cons, List.map_nil, List.mem_cons, List.not_mem_nil, or_false, forall_eq_or_imp, forall_eq] at hc1
      refine pj_new hJ (fun n => .chan (some n)) (.chan 0 #[] false 0 0 false) rfl rfl (.inl rfl) (fun w => ?_) (fun w => ?_) fun c2 hc2 _ => ?_
      · unfold ev; go_simp; try exact rfl
      · unfold ev; first | (simp [go_sem]; done) | (simp [go_sem, ev_mk1]; done) | simp [go_sem, ev_mk2]
      simp only [put]; walk_nrm
      simp only [List.map_cons, List.map_nil, List.mem_cons, List.not_mem_nil, or_false, forall_eq_or_imp, forall_eq] at hc2
      refine pj_new hJ (fun n => .pointer (some ⟨n, 0, none⟩)) (.cells #[.chan none] 56) rfl rfl (.inl rfl) (fun w => ?_) (fun w => ?_) fun b1 hb1 _ => ?_
      · unfold ev; go_simp; try exact rfl
      · unfold ev; first | (simp [go_sem]; done) | (simp [go_sem, ev_mk1]; done) | simp [go_sem, ev_mk2]
      simp only [put]; walk_nrm
      simp only [List.map_cons, List.map_nil, List.mem_cons, List.not_mem_nil, or_false, forall_eq_or_imp, forall_eq] at hb1
      refine pj_st hJ (t := 56) (L' := [(b1, .cells #[.chan (some c1)] 56), (c2, .chan 0 #[] false 0 0 false), (c1, .chan 0 #[] false 0 0 false), (b2, .cells #[.chan none] 57), (xb, .cells #[.func fv ps qs] 25)]) (b := b1) (x := .chan none) (v := .chan (some c1)) (by simp) (fun h => h) (fun y => Iff.rfl) (fun p hp => ?_) rfl rfl (.inl rfl) (fun w f0 f1 => ?_) (fun w f0 f1 => ?_) ?_
      · simp only [List.mem_cons, List.not_mem_nil, or_false] at hp; rcases hp with rfl | rfl | rfl | rfl | rfl <;> first | exact .inl rfl | exact .inr ⟨by simp, by simp; omega⟩
      · unfold ev; go_simp; try exact rfl
      · unfold ev; intro e he; simp [go_sem, f0, f1] at he; exact he
      simp only [put]; walk_nrm
      refine pj_st hJ (t := 57) (L' := [(b1, .cells #[.chan (some c1)] 56), (c2, .chan 0 #[] false 0 0 false), (c1, .chan 0 #[] false 0 0 false), (b2, .cells #[.chan (some c2)] 57), (xb, .cells #[.func fv ps qs] 25)]) (b := b2) (x := .chan none) (v := .chan (some c2)) (by simp) (fun h => h) (fun y => Iff.rfl) (fun p hp => ?_) rfl rfl (.inl rfl) (fun w f0 f1 => ?_) (fun w f0 f1 => ?_) ?_
      · simp only [List.mem_cons, List.not_mem_nil, or_false] at hp; rcases hp with rfl | rfl | rfl | rfl | rfl <;> first | exact .inl rfl | exact .inr ⟨by simp, by simp; omega⟩
      · unfold ev; go_simp; try exact rfl
      · unfold ev; intro e he; simp [go_sem, f0, f1] at he; exact he
      simp only [put]; walk_nrm
      rw [ow_perm (L' := [(b2, .cells #[.chan (some c2)] 57), (b1, .cells #[.chan (some c1)] 56), (c2, .chan 0 #[] false 0 0 false), (c1, .chan 0 #[] false 0 0 false), (xb, .cells #[.func fv ps qs] 25)]) (by intro p; simp only [List.mem_cons, List.not_mem_nil, or_false] <;> constructor <;> (rintro (h | h | h | h | h) <;> simp [h]))]
      exact fin c1 c2 b1 b2 (by simp; omega)
    · skip
      refine pj_new hJ (fun n => .pointer (some ⟨n, 0, none⟩)) (.cells #[.chan none] 57) rfl rfl (.inl rfl) (fun w => ?_) (fun w => ?_) fun b2 hb2 _ => ?_
      · unfold ev; go_simp; try exact rfl
      · unfold ev; first | (simp [go_sem]; done) | (simp [go_sem, ev_mk1]; done) | simp [go_sem, ev_mk2]
      simp only [put]; walk_nrm
      simp only [List.map_cons, List.map_nil, List.mem_cons, List.not_mem_nil, or_false, forall_eq_or_imp, forall_eq] at hb2
      refine pj_new hJ (fun n => .chan (some n)) (.chan 0 #[] false 0 0 false) rfl rfl (.inl rfl) (fun w => ?_) (fun w => ?_) fun c1 hc1 _ => ?_
      · unfold ev; go_simp; try exact rfl
      · unfold ev; first | (simp [go_sem]; done) | (simp [go_sem, ev_mk1]; done) | simp [go_sem, ev_mk2]
      simp only [put]; walk_nrm
      simp only [List.map_cons, List.map_nil, List.mem_cons, List.not_mem_nil, or_false, forall_eq_or_imp, forall_eq] at hc1
      refine pj_new hJ (fun n => .pointer (some ⟨n, 0, none⟩)) (.cells #[.chan none] 56) rfl rfl (.inl rfl) (fun w => ?_) (fun w => ?_) fun b1 hb1 _ => ?_
      · unfold ev; go_simp; try exact rfl
      · unfold ev; first | (simp [go_sem]; done) | (simp [go_sem, ev_mk1]; done) | simp [go_sem, ev_mk2]
      simp only [put]; walk_nrm
      simp only [List.map_cons, List.map_nil, List.mem_cons, List.not_mem_nil, or_false, forall_eq_or_imp, forall_eq] at hb1
      refine pj_new hJ (fun n => .chan (some n)) (.chan 0 #[] false 0 0 false) rfl rfl (.inl rfl) (fun w => ?_) (fun w => ?_) fun c2 hc2 _ => ?_
      · unfold ev; go_simp; try exact rfl
      · unfold ev; first | (simp [go_sem]; done) | (simp [go_sem, ev_mk1]; done) | simp [go_sem, ev_mk2]
      simp only [put]; walk_nrm
      simp only [List.map_cons, List.map_nil, List.mem_cons, List.not_mem_nil, or_false, forall_eq_or_imp, forall_eq] at hc2
      refine pj_st hJ (t := 56) (L' := [(c2, .chan 0 #[] false 0 0 false), (b1, .cells #[.chan (some c1)] 56), (c1, .chan 0 #[] false 0 0 false), (b2, .cells #[.chan none] 57), (xb, .cells #[.func fv ps qs] 25)]) (b := b1) (x := .chan none) (v := .chan (some c1)) (by simp) (fun h => h) (fun y => Iff.rfl) (fun p hp => ?_) rfl rfl (.inl rfl) (fun w f0 f1 => ?_) (fun w f0 f1 => ?_) ?_
      · simp only [List.mem_cons, List.not_mem_nil, or_false] at hp; rcases hp with rfl | rfl | rfl | rfl | rfl <;> first | exact .inl rfl | exact .inr ⟨by simp, by simp; omega⟩
      · unfold ev; go_simp; try exact rfl
      · unfold ev; intro e he; simp [go_sem, f0, f1] at he; exact he
      simp only [put]; walk_nrm
      refine pj_st hJ (t := 57) (L' := [(c2, .chan 0 #[] false 0 0 false), (b1, .cells #[.chan (some c1)] 56), (c1, .chan 0 #[] false 0 0 false), (b2, .cells #[.chan (some c2)] 57), (xb, .cells #[.func fv ps qs] 25)]) (b := b2) (x := .chan none) (v := .chan (some c2)) (by simp) (fun h => h) (fun y => Iff.rfl) (fun p hp => ?_) rfl rfl (.inl rfl) (fun w f0 f1 => ?_) (fun w f0 f1 => ?_) ?_
      · simp only [List.mem_cons, List.not_mem_nil, or_false] at hp; rcases hp with rfl | rfl | rfl | rfl | rfl <;> first | exact .inl rfl | exact .inr ⟨by simp, by simp; omega⟩
      · unfold ev; go_simp; try exact rfl
      · unfold ev; intro e he; simp [go_sem, f0, f1] at he; exact he
      simp only [put]; walk_nrm
      rw [ow_perm (L' := [(b2, .cells #[.chan (some c2)] 57), (b1, .cells #[.chan (some c1)] 56), (c2, .chan 0 #[] false 0 0 false), (c1, .chan 0 #[] false 0 0 false), (xb, .cells #[.func fv ps qs] 25)]) (by intro p; simp only [List.mem_cons, List.not_mem_nil, or_false] <;> constructor <;> (rintro (h | h | h | h | h) <;> simp [h]))]
      exact fin c1 c2 b1 b2 (by simp; omega)
    · skip
      refine pj_new hJ (fun n => .pointer (some ⟨n, 0, none⟩)) (.cells #[.chan none] 57) rfl rfl (.inl rfl) (fun w => ?_) (fun w => ?_) fun b2 hb2 _ => ?_
      · unfold ev; go_simp; try exact rfl
      · unfold ev; first | (simp [go_sem]; done) | (simp [go_sem, ev_mk1]; done) | simp [go_sem, ev_mk2]
      simp only [put]; walk_nrm
      simp only [List.map_cons, List.map_nil, List.mem_cons, List.not_mem_nil, or_false, forall_eq_or_imp, forall_eq] at hb2
      refine pj_new hJ (fun n => .chan (some n)) (.chan 0 #[] false 0 0 false) rfl rfl (.inl rfl) (fun w => ?_) (fun w => ?_) fun c1 hc1 _ => ?_
      · unfold ev; go_simp; try exact rfl
      · unfold ev; first | (simp [go_sem]; done) | (simp [go_sem, ev_mk1]; done) | simp [go_sem, ev_mk2]
      simp only [put]; walk_nrm
      simp only [List.map_cons, List.map_nil, List.mem_cons, List.not_mem_nil, or_false, forall_eq_or_imp, forall_eq] at hc1
      refine pj_new hJ (fun n => .pointer (some ⟨n, 0, none⟩)) (.cells #[.chan none] 56) rfl rfl (.inl rfl) (fun w => ?_) (fun w => ?_) fun b1 hb1 _ => ?_
      · unfold ev; go_simp; try exact rfl
      · unfold ev; first | (simp [go_sem]; done) | (simp [go_sem, ev_mk1]; done) | simp [go_sem, ev_mk2]
      simp only [put]; walk_nrm
      simp only [List.map_cons, List.map_nil, List.mem_cons, List.not_mem_nil, or_false, forall_eq_or_imp, forall_eq] at hb1
      refine pj_st hJ (t := 56) (L' := [(b1, .cells #[.chan (some c1)] 56), (c1, .chan 0 #[] false 0 0 false), (b2, .cells #[.chan none] 57), (xb, .cells #[.func fv ps qs] 25)]) (b := b1) (x := .chan none) (v := .chan (some c1)) (by simp) (fun h => h) (fun y => Iff.rfl) (fun p hp => ?_) rfl rfl (.inl rfl) (fun w f0 f1 => ?_) (fun w f0 f1 => ?_) ?_
      · simp only [List.mem_cons, List.not_mem_nil, or_false] at hp; rcases hp with rfl | rfl | rfl | rfl <;> first | exact .inl rfl | exact .inr ⟨by simp, by simp; omega⟩
      · unfold ev; go_simp; try exact rfl
      · unfold ev; intro e he; simp [go_sem, f0, f1] at he; exact he
      simp only [put]; walk_nrm
      refine pj_new hJ (fun n => .chan (some n)) (.chan 0 #[] false 0 0 false) rfl rfl (.inl rfl) (fun w => ?_) (fun w => ?_) fun c2 hc2 _ => ?_
      · unfold ev; go_simp; try exact rfl
      · unfold ev; first | (simp [go_sem]; done) | (simp [go_sem, ev_mk1]; done) | simp [go_sem, ev_mk2]
      simp only [put]; walk_nrm
      simp only [List.map_cons, List.map_nil, List.mem_cons, List.not_mem_nil, or_false, forall_eq_or_imp, forall_eq] at hc2
      refine pj_st hJ (t := 57) (L' := [(c2, .chan 0 #[] false 0 0 false), (b1, .cells #[.chan (some c1)] 56), (c1, .chan 0 #[] false 0 0 false), (b2, .cells #[.chan (some c2)] 57), (xb, .cells #[.func fv ps qs] 25)]) (b := b2) (x := .chan none) (v := .chan (some c2)) (by simp) (fun h => h) (fun y => Iff.rfl) (fun p hp => ?_) rfl rfl (.inl rfl) (fun w f0 f1 => ?_) (fun w f0 f1 => ?_) ?_
      · simp only [List.mem_cons, List.not_mem_nil, or_false] at hp; rcases hp with rfl | rfl | rfl | rfl | rfl <;> first | exact .inl rfl | exact .inr ⟨by simp, by simp; omega⟩
      · unfold ev; go_simp; try exact rfl
      · unfold ev; intro e he; simp [go_sem, f0, f1] at he; exact he
      simp only [put]; walk_nrm
      rw [ow_perm (L' := [(b2, .cells #[.chan (some c2)] 57), (b1, .cells #[.chan (some c1)] 56), (c2, .chan 0 #[] false 0 0 false), (c1, .chan 0 #[] false 0 0 false), (xb, .cells #[.func fv ps qs] 25)]) (by intro p; simp only [List.mem_cons, List.not_mem_nil, or_false] <;> constructor <;> (rintro (h | h | h | h | h) <;> simp [h]))]
      exact fin c1 c2 b1 b2 (by simp; omega)
    · skip
      refine pj_new hJ (fun n => .pointer (some ⟨n, 0, none⟩)) (.cells #[.chan none] 57) rfl rfl (.inl rfl) (fun w => ?_) (fun w => ?_) fun b2 hb2 _ => ?_
      · unfold ev; go_simp; try exact rfl
      · unfold ev; first | (simp [go_sem]; done) | (simp [go_sem, ev_mk1]; done) | simp [go_sem, ev_mk2]
      simp only [put]; walk_nrm
      simp only [List.map_cons, List.map_nil, List.mem_cons, List.not_mem_nil, or_false, forall_eq_or_imp, forall_eq] at hb2
      refine pj_new hJ (fun n => .chan (some n)) (.chan 0 #[] false 0 0 false) rfl rfl (.inl rfl) (fun w => ?_) (fun w => ?_) fun c2 hc2 _ => ?_
      · unfold ev; go_simp; try exact rfl
      · unfold ev; first | (simp [go_sem]; done) | (simp [go_sem, ev_mk1]; done) | simp [go_sem, ev_mk2]
      simp only [put]; walk_nrm
      simp only [List.map_cons, List.map_nil, List.mem_cons, List.not_mem_nil, or_false, forall_eq_or_imp, forall_eq] at hc2
      refine pj_new hJ (fun n => .chan (some n)) (.chan 0 #[] false 0 0 false) rfl rfl (.inl rfl) (fun w => ?_) (fun w => ?_) fun c1 hc1 _ => ?_
      · unfold ev; go_simp; try exact rfl
      · unfold ev; first | (simp [go_sem]; done) | (simp [go_sem, ev_mk1]; done) | simp [go_sem, ev_mk2]
      simp only [put]; walk_nrm
      simp only [List.map_cons, List.map_nil, List.mem_cons, List.not_mem_nil, or_false, forall_eq_or_imp, forall_eq] at hc1
      refine pj_new hJ (fun n => .pointer (some ⟨n, 0, none⟩)) (.cells #[.chan none] 56) rfl rfl (.inl rfl) (fun w => ?_) (fun w => ?_) fun b1 hb1 _ => ?_
      · unfold ev; go_simp; try exact rfl
      · unfold ev; first | (simp [go_sem]; done) | (simp [go_sem, ev_mk1]; done) | simp [go_sem, ev_mk2]
      simp only [put]; walk_nrm
      simp only [List.map_cons, List.map_nil, List.mem_cons, List.not_mem_nil, or_false, forall_eq_or_imp, forall_eq] at hb1
      refine pj_st hJ (t := 56) (L' := [(b1, .cells #[.chan (some c1)] 56), (c1, .chan 0 #[] false 0 0 false), (c2, .chan 0 #[] false 0 0 false), (b2, .cells #[.chan none] 57), (xb, .cells #[.func fv ps qs] 25)]) (b := b1) (x := .chan none) (v := .chan (some c1)) (by simp) (fun h => h) (fun y => Iff.rfl) (fun p hp => ?_) rfl rfl (.inl rfl) (fun w f0 f1 => ?_) (fun w f0 f1 => ?_) ?_
      · simp only [List.mem_cons, List.not_mem_nil, or_false] at hp; rcases hp with rfl | rfl | rfl | rfl | rfl <;> first | exact .inl rfl | exact .inr ⟨by simp, by simp; omega⟩
      · unfold ev; go_simp; try exact rfl
      · unfold ev; intro e he; simp [go_sem, f0, f1] at he; exact he
      simp only [put]; walk_nrm
      refine pj_st hJ (t := 57) (L' := [(b1, .cells #[.chan (some c1)] 56), (c1, .chan 0 #[] false 0 0 false), (c2, .chan 0 #[] false 0 0 false), (b2, .cells #[.chan (some c2)] 57), (xb, .cells #[.func fv ps qs] 25)]) (b := b2) (x := .chan none) (v := .chan (some c2)) (by simp) (fun h => h) (fun y => Iff.rfl) (fun p hp => ?_) rfl rfl (.inl rfl) (fun w f0 f1 => ?_) (fun w f0 f1 => ?_) ?_
      · simp only [List.mem_cons, List.not_mem_nil, or_false] at hp; rcases hp with rfl | rfl | rfl | rfl | rfl <;> first | exact .inl rfl | exact .inr ⟨by simp, by simp; omega⟩
      · unfold ev; go_simp; try exact rfl
      · unfold ev; intro e he; simp [go_sem, f0, f1] at he; exact he
      simp only [put]; walk_nrm
      rw [ow_perm (L' := [(b2, .cells #[.chan (some c2)] 57), (b1, .cells #[.chan (some c1)] 56), (c2, .chan 0 #[] false 0 0 false), (c1, .chan 0 #[] false 0 0 false), (xb, .cells #[.func fv ps qs] 25)]) (by intro p; simp only [List.mem_cons, List.not_mem_nil, or_false] <;> constructor <;> (rintro (h | h | h | h | h) <;> simp [h]))]
      exact fin c1 c2 b1 b2 (by simp; omega)
    · skip
      refine pj_new hJ (fun n => .pointer (some ⟨n, 0, none⟩)) (.cells #[.chan none] 57) rfl rfl (.inl rfl) (fun w => ?_) (fun w => ?_) fun b2 hb2 _ => ?_
      · unfold ev; go_simp; try exact rfl
      · unfold ev; first | (simp [go_sem]; done) | (simp [go_sem, ev_mk1]; done) | simp [go_sem, ev_mk2]
      simp only [put]; walk_nrm
      simp only [List.map_cons, List.map_nil, List.mem_cons, List.not_mem_nil, or_false, forall_eq_or_imp, forall_eq] at hb2
      refine pj_new hJ (fun n => .chan (some n)) (.chan 0 #[] false 0 0 false) rfl rfl (.inl rfl) (fun w => ?_) (fun w => ?_) fun c2 hc2 _ => ?_
      · unfold ev; go_simp; try exact rfl
      · unfold ev; first | (simp [go_sem]; done) | (simp [go_sem, ev_mk1]; done) | simp [go_sem, ev_mk2]
      simp only [put]; walk_nrm
      simp only [List.map_cons, List.map_nil, List.mem_cons, List.not_mem_nil, or_false, forall_eq_or_imp, forall_eq] at hc2
      refine pj_new hJ (fun n => .pointer (some ⟨n, 0, none⟩)) (.cells #[.chan none] 56) rfl rfl (.inl rfl) (fun w => ?_) (fun w => ?_) fun b1 hb1 _ => ?_
      · unfold ev; go_simp; try exact rfl
      · unfold ev; first | (simp [go_sem]; done) | (simp [go_sem, ev_mk1]; done) | simp [go_sem, ev_mk2]
      simp only [put]; walk_nrm
      simp only [List.map_cons, List.map_nil, List.mem_cons, List.not_mem_nil, or_false, forall_eq_or_imp, forall_eq] at hb1
      refine pj_new hJ (fun n => .chan (some n)) (.chan 0 #[] false 0 0 false) rfl rfl (.inl rfl) (fun w => ?_) (fun w => ?_) fun c1 hc1 _ => ?_
      · unfold ev; go_simp; try exact rfl
      · unfold ev; first | (simp [go_sem]; done) | (simp [go_sem, ev_mk1]; done) | simp [go_sem, ev_mk2]
      simp only [put]; walk_nrm
      simp only [List.map_cons, List.map_nil, List.mem_cons, List.not_mem_nil, or_false, forall_eq_or_imp, forall_eq] at hc1
      refine pj_st hJ (t := 56) (L' := [(c1, .chan 0 #[] false 0 0 false), (b1, .cells #[.chan (some c1)] 56), (c2, .chan 0 #[] false 0 0 false), (b2, .cells #[.chan none] 57), (xb, .cells #[.func fv ps qs] 25)]) (b := b1) (x := .chan none) (v := .chan (some c1)) (by simp) (fun h => h) (fun y => Iff.rfl) (fun p hp => ?_) rfl rfl (.inl rfl) (fun w f0 f1 => ?_) (fun w f0 f1 => ?_) ?_
      · simp only [List.mem_cons, List.not_mem_nil, or_false] at hp; rcases hp with rfl | rfl | rfl | rfl | rfl <;> first | exact .inl rfl | exact .inr ⟨by simp, by simp; omega⟩
      · unfold ev; go_simp; try exact rfl
      · unfold ev; intro e he; simp [go_sem, f0, f1] at he; exact he
      simp only [put]; walk_nrm
      refine pj_st hJ (t := 57) (L' := [(c1, .chan 0 #[] false 0 0 false), (b1, .cells #[.chan (some c1)] 56), (c2, .chan 0 #[] false 0 0 false), (b2, .cells #[.chan (some c2)] 57), (xb, .cells #[.func fv ps qs] 25)]) (b := b2) (x := .chan none) (v := .chan (some c2)) (by simp) (fun h => h) (fun y => Iff.rfl) (fun p hp => ?_) rfl rfl (.inl rfl) (fun w f0 f1 => ?_) (fun w f0 f1 => ?_) ?_
      · simp only [List.mem_cons, List.not_mem_nil, or_false] at hp; rcases hp with rfl | rfl | rfl | rfl | rfl <;> first | exact .inl rfl | exact .inr ⟨by simp, by simp; omega⟩
      · unfold ev; go_simp; try exact rfl
      · unfold ev; intro e he; simp [go_sem, f0, f1] at he; exact he
      simp only [put]; walk_nrm
      rw [ow_perm (L' := [(b2, .cells #[.chan (some c2)] 57), (b1, .cells #[.chan (some c1)] 56), (c2, .chan 0 #[] false 0 0 false), (c1, .chan 0 #[] false 0 0 false), (xb, .cells #[.func fv ps qs] 25)]) (by intro p; simp only [List.mem_cons, List.not_mem_nil, or_false] <;> constructor <;> (rintro (h | h | h | h | h) <;> simp [h]))]
      exact fin c1 c2 b1 b2 (by simp; omega)
    · skip
      refine pj_new hJ (fun n => .pointer (some ⟨n, 0, none⟩)) (.cells #[.chan none] 57) rfl rfl (.inl rfl) (fun w => ?_) (fun w => ?_) fun b2 hb2 _ => ?_
      · unfold ev; go_simp; try exact rfl
      · unfold ev; first | (simp [go_sem]; done) | (simp [go_sem, ev_mk1]; done) | simp [go_sem, ev_mk2]
      simp only [put]; walk_nrm
      simp only [List.map_cons, List.map_nil, List.mem_cons, List.not_mem_nil, or_false, forall_eq_or_imp, forall_eq] at hb2
      refine pj_new hJ (fun n => .pointer (some ⟨n, 0, none⟩)) (.cells #[.chan none] 56) rfl rfl (.inl rfl) (fun w => ?_) (fun w => ?_) fun b1 hb1 _ => ?_
      · unfold ev; go_simp; try exact rfl
      · unfold ev; first | (simp [go_sem]; done) | (simp [go_sem, ev_mk1]; done) | simp [go_sem, ev_mk2]
      simp only [put]; walk_nrm
      simp only [List.map_cons, List.map_nil, List.mem_cons, List.not_mem_nil, or_false, forall_eq_or_imp, forall_eq] at hb1
      refine pj_new hJ (fun n => .chan (some n)) (.chan 0 #[] false 0 0 false) rfl rfl (.inl rfl) (fun w => ?_) (fun w => ?_) fun c1 hc1 _ => ?_
      · unfold ev; go_simp; try exact rfl
      · unfold ev; first | (simp [go_sem]; done) | (simp [go_sem, ev_mk1]; done) | simp [go_sem, ev_mk2]
      simp only [put]; walk_nrm
      simp only [List.map_cons, List.map_nil, List.mem_cons, List.not_mem_nil, or_false, forall_eq_or_imp, forall_eq] at hc1
      refine pj_new hJ (fun n => .chan (some n)) (.chan 0 #[] false 0 0 false) rfl rfl (.inl rfl) (fun w => ?_) (fun w => ?_) fun c2 hc2 _ => ?_
      · unfold ev; go_simp; try exact rfl
      · unfold ev; first | (simp [go_sem]; done) | (simp [go_sem, ev_mk1]; done) | simp [go_sem, ev_mk2]
      simp only [put]; walk_nrm
      simp only [List.map_cons, List.map_nil, List.mem_cons, List.not_mem_nil, or_false, forall_eq_or_imp, forall_eq] at hc2
      refine pj_st hJ (t := 56) (L' := [(c2, .chan 0 #[] false 0 0 false), (c1, .chan 0 #[] false 0 0 false), (b1, .cells #[.chan (some c1)] 56), (b2, .cells #[.chan none] 57), (xb, .cells #[.func fv ps qs] 25)]) (b := b1) (x := .chan none) (v := .chan (some c1)) (by simp) (fun h => h) (fun y => Iff.rfl) (fun p hp => ?_) rfl rfl (.inl rfl) (fun w f0 f1 => ?_) (fun w f0 f1 => ?_) ?_
      · simp only [List.mem_cons, List.not_mem_nil, or_false] at hp; rcases hp with rfl | rfl | rfl | rfl | rfl <;> first | exact .inl rfl | exact .inr ⟨by simp, by simp; omega⟩
      · unfold ev; go_simp; try exact rfl
      · unfold ev; intro e he; simp [go_sem, f0, f1] at he; exact he
      simp only [put]; walk_nrm
      refine pj_st hJ (t := 57) (L' := [(c2, .chan 0 #[] false 0 0 false), (c1, .chan 0 #[] false 0 0 false), (b1, .cells #[.chan (some c1)] 56), (b2, .cells #[.chan (some c2)] 57), (xb, .cells #[.func fv ps qs] 25)]) (b := b2) (x := .chan none) (v := .chan (some c2)) (by simp) (fun h => h) (fun y => Iff.rfl) (fun p hp => ?_) rfl rfl (.inl rfl) (fun w f0 f1 => ?_) (fun w f0 f1 => ?_) ?_
      · simp only [List.mem_cons, List.not_mem_nil, or_false] at hp; rcases hp with rfl | rfl | rfl | rfl | rfl <;> first | exact .inl rfl | exact .inr ⟨by simp, by simp; omega⟩
      · unfold ev; go_simp; try exact rfl
      · unfold ev; intro e he; simp [go_sem, f0, f1] at he; exact he
      simp only [put]; walk_nrm
      rw [ow_perm (L' := [(b2, .cells #[.chan (some c2)] 57), (b1, .cells #[.chan (some c1)] 56), (c2, .chan 0 #[] false 0 0 false), (c1, .chan 0 #[] false 0 0 false), (xb, .cells #[.func fv ps qs] 25)]) (by intro p; simp only [List.mem_cons, List.not_mem_nil, or_false] <;> constructor <;> (rintro (h | h | h | h | h) <;> simp [h]))]
      exact fin c1 c2 b1 b2 (by simp; omega)
    · skip
      refine pj_new hJ (fun n => .pointer (some ⟨n, 0, none⟩)) (.cells #[.chan none] 57) rfl rfl (.inl rfl) (fun w => ?_) (fun w => ?_) fun b2 hb2 _ => ?_
      · unfold ev; go_simp; try exact rfl
      · unfold ev; first | (simp [go_sem]; done) | (simp [go_sem, ev_mk1]; done) | simp [go_sem, ev_mk2]
      simp only [put]; walk_nrm
      simp only [List.map_cons, List.map_nil, List.mem_cons, List.not_mem_nil, or_false, forall_eq_or_imp, forall_eq] at hb2
      refine pj_new hJ (fun n => .pointer (some ⟨n, 0, none⟩)) (.cells #[.chan none] 56) rfl rfl (.inl rfl) (fun w => ?_) (fun w => ?_) fun b1 hb1 _ => ?_
      · unfold ev; go_simp; try exact rfl
      · unfold ev; first | (simp [go_sem]; done) | (simp [go_sem, ev_mk1]; done) | simp [go_sem, ev_mk2]
      simp only [put]; walk_nrm
      simp only [List.map_cons, List.map_nil, List.mem_cons, List.not_mem_nil, or_false, forall_eq_or_imp, forall_eq] at hb1
      refine pj_new hJ (fun n => .chan (some n)) (.chan 0 #[] false 0 0 false) rfl rfl (.inl rfl) (fun w => ?_) (fun w => ?_) fun c1 hc1 _ => ?_
      · unfold ev; go_simp; try exact rfl
      · unfold ev; first | (simp [go_sem]; done) | (simp [go_sem, ev_mk1]; done) | simp [go_sem, ev_mk2]
      simp only [put]; walk_nrm
      simp only [List.map_cons, List.map_nil, List.mem_cons, List.not_mem_nil, or_false, forall_eq_or_imp, forall_eq] at hc1
      refine pj_st hJ (t := 56) (L' := [(c1, .chan 0 #[] false 0 0 false), (b1, .cells #[.chan (some c1)] 56), (b2, .cells #[.chan none] 57), (xb, .cells #[.func fv ps qs] 25)]) (b := b1) (x := .chan none) (v := .chan (some c1)) (by simp) (fun h => h) (fun y => Iff.rfl) (fun p hp => ?_) rfl rfl (.inl rfl) (fun w f0 f1 => ?_) (fun w f0 f1 => ?_) ?_
      · simp only [List.mem_cons, List.not_mem_nil, or_false] at hp; rcases hp with rfl | rfl | rfl | rfl <;> first | exact .inl rfl | exact .inr ⟨by simp, by simp; omega⟩
      · unfold ev; go_simp; try exact rfl
      · unfold ev; intro e he; simp [go_sem, f0, f1] at he; exact he
      simp only [put]; walk_nrm
      refine pj_new hJ (fun n => .chan (some n)) (.chan 0 #[] false 0 0 false) rfl rfl (.inl rfl) (fun w => ?_) (fun w => ?_) fun c2 hc2 _ => ?_
      · unfold ev; go_simp; try exact rfl
      · unfold ev; first | (simp [go_sem]; done) | (simp [go_sem, ev_mk1]; done) | simp [go_sem, ev_mk2]
      simp only [put]; walk_nrm
      simp only [List.map_cons, List.map_nil, List.mem_cons, List.not_mem_nil, or_false, forall_eq_or_imp, forall_eq] at hc2
      refine pj_st hJ (t := 57) (L' := [(c2, .chan 0 #[] false 0 0 false), (c1, .chan 0 #[] false 0 0 false), (b1, .cells #[.chan (some c1)] 56), (b2, .cells #[.chan (some c2)] 57), (xb, .cells #[.func fv ps qs] 25)]) (b := b2) (x := .chan none) (v := .chan (some c2)) (by simp) (fun h => h) (fun y => Iff.rfl) (fun p hp => ?_) rfl rfl (.inl rfl) (fun w f0 f1 => ?_) (fun w f0 f1 => ?_) ?_
      · simp only [List.mem_cons, List.not_mem_nil, or_false] at hp; rcases hp with rfl | rfl | rfl | rfl | rfl <;> first | exact .inl rfl | exact .inr ⟨by simp, by simp; omega⟩
      · unfold ev; go_simp; try exact rfl
      · unfold ev; intro e he; simp [go_sem, f0, f1] at he; exact he
      simp only [put]; walk_nrm
      rw [ow_perm (L' := [(b2, .cells #[.chan (some c2)] 57), (b1, .cells #[.chan (some c1)] 56), (c2, .chan 0 #[] false 0 0 false), (c1, .chan 0 #[] false 0 0 false), (xb, .cells #[.func fv ps qs] 25)]) (by intro p; simp only [List.mem_cons, List.not_mem_nil, or_false] <;> constructor <;> (rintro (h | h | h | h | h) <;> simp [h]))]
      exact fin c1 c2 b1 b2 (by simp; omega)
    · skip
      refine pj_new hJ (fun n => .pointer (some ⟨n, 0, none⟩)) (.cells #[.chan none] 57) rfl rfl (.inl rfl) (fun w => ?_) (fun w => ?_) fun b2 hb2 _ => ?_
      · unfold ev; go_simp; try exact rfl
      · unfold ev; first | (simp [go_sem]; done) | (simp [go_sem, ev_mk1]; done) | simp [go_sem, ev_mk2]
      simp only [put]; walk_nrm
      simp only [List.map_cons, List.map_nil, List.mem_cons, List.not_mem_nil, or_false, forall_eq_or_imp, forall_eq] at hb2
      refine pj_new hJ (fun n => .pointer (some ⟨n, 0, none⟩)) (.cells #[.chan none] 56) rfl rfl (.inl rfl) (fun w => ?_) (fun w => ?_) fun b1 hb1 _ => ?_
      · unfold ev; go_simp; try exact rfl
      · unfold ev; first | (simp [go_sem]; done) | (simp [go_sem, ev_mk1]; done) | simp [go_sem, ev_mk2]
      simp only [put]; walk_nrm
      simp only [List.map_cons, List.map_nil, List.mem_cons, List.not_mem_nil, or_false, forall_eq_or_imp, forall_eq] at hb1
      refine pj_new hJ (fun n => .chan (some n)) (.chan 0 #[] false 0 0 false) rfl rfl (.inl rfl) (fun w => ?_) (fun w => ?_) fun c2 hc2 _ => ?_
      · unfold ev; go_simp; try exact rfl
      · unfold ev; first | (simp [go_sem]; done) | (simp [go_sem, ev_mk1]; done) | simp [go_sem, ev_mk2]
      simp only [put]; walk_nrm
      simp only [List.map_cons, List.map_nil, List.mem_cons, List.not_mem_nil, or_false, forall_eq_or_imp, forall_eq] at hc2
      refine pj_new hJ (fun n => .chan (some n)) (.chan 0 #[] false 0 0 false) rfl rfl (.inl rfl) (fun w => ?_) (fun w => ?_) fun c1 hc1 _ => ?_
      · unfold ev; go_simp; try exact rfl
      · unfold ev; first | (simp [go_sem]; done) | (simp [go_sem, ev_mk1]; done) | simp [go_sem, ev_mk2]
      simp only [put]; walk_nrm
      simp only [List.map_cons, List.map_nil, List.mem_cons, List.not_mem_nil, or_false, forall_eq_or_imp, forall_eq] at hc1
      refine pj_st hJ (t := 56) (L' := [(c1, .chan 0 #[] false 0 0 false), (c2, .chan 0 #[] false 0 0 false), (b1, .cells #[.chan (some c1)] 56), (b2, .cells #[.chan none] 57), (xb, .cells #[.func fv ps qs] 25)]) (b := b1) (x := .chan none) (v := .chan (some c1)) (by simp) (fun h => h) (fun y => Iff.rfl) (fun p hp => ?_) rfl rfl (.inl rfl) (fun w f0 f1 => ?_) (fun w f0 f1 => ?_) ?_
      · simp only [List.mem_cons, List.not_mem_nil, or_false] at hp; rcases hp with rfl | rfl | rfl | rfl | rfl <;> first | exact .inl rfl | exact .inr ⟨by simp, by simp; omega⟩
      · unfold ev; go_simp; try exact rfl
      · unfold ev; intro e he; simp [go_sem, f0, f1] at he; exact he
      simp only [put]; walk_nrm
      refine pj_st hJ (t := 57) (L' := [(c1, .chan 0 #[] false 0 0 false), (c2, .chan 0 #[] false 0 0 false), (b1, .cells #[.chan (some c1)] 56), (b2, .cells #[.chan (some c2)] 57), (xb, .cells #[.func fv ps qs] 25)]) (b := b2) (x := .chan none) (v := .chan (some c2)) (by simp) (fun h => h) (fun y => Iff.rfl) (fun p hp => ?_) rfl rfl (.inl rfl) (fun w f0 f1 => ?_) (fun w f0 f1 => ?_) ?_
      · simp only [List.mem_cons, List.not_mem_nil, or_false] at hp; rcases hp with rfl | rfl | rfl | rfl | rfl <;> first | exact .inl rfl | exact .inr ⟨by simp, by simp; omega⟩
      · unfold ev; go_simp; try exact rfl
      · unfold ev; intro e he; simp [go_sem, f0, f1] at he; exact he
      simp only [put]; walk_nrm
      rw [ow_perm (L' := [(b2, .cells #[.chan (some c2)] 57), (b1, .cells #[.chan (some c1)] 56), (c2, .chan 0 #[] false 0 0 false), (c1, .chan 0 #[] false 0 0 false), (xb, .cells #[.func fv ps qs] 25)]) (by intro p; simp only [List.mem_cons, List.not_mem_nil, or_false] <;> constructor <;> (rintro (h | h | h | h | h) <;> simp [h]))]
      exact fin c1 c2 b1 b2 (by simp; omega)
  · intro c1 c2 b1 b2 hd
    have hk1 := hk1.out
    subst hk1
    refine pj_q hJ (fun w => s_region_end) rfl ?_
    refine pj_q hJ (fun w => s_seq) rfl ?_
    refine pj_q hJ (fun w => s_region) rfl ?_
    simp only [List.size_toArray, List.length_cons, List.length_nil, Nat.reduceAdd, Nat.zero_add, List.range, List.range.loop]
    refine pj_new hJ (fun n => .pointer (some ⟨n, 0, none⟩)) (.cells #[.int .u64 0, .int .u32 0] 67) rfl rfl (.inl rfl) (fun w => ?_) (fun w => ?_) fun wg hwg _ => ?_
    · unfold ev; go_simp; try exact rfl
    · unfold ev; simp [go_sem]
    simp only [put]; walk_nrm
    refine pj_q hJ (fun w => s_region_end) rfl ?_
    refine pj_q hJ (fun w => s_seq) rfl ?_
    refine pj_q hJ (fun w => s_region) rfl ?_
    simp only [List.size_toArray, List.length_cons, List.length_nil, Nat.reduceAdd, Nat.zero_add, List.range, List.range.loop]
    refine pj_enter hJ (f := 24) (args := #[.pointer (some ⟨wg, 0, none⟩), .int .i64 1]) rfl rfl (.inl rfl) (fun w hw => ?_) (fun w hw => ?_) ?_
    · rw [exec_call (op := _) (f := 24) (vs := #[.pointer (some ⟨wg, 0, none⟩), .int .i64 1]) rfl (by simp only [List.map_toArray, List.map_cons, List.map_nil]; rfl)]; rfl
    · rw [exec_call (op := _) (f := 24) (vs := #[.pointer (some ⟨wg, 0, none⟩), .int .i64 1]) rfl (by simp only [List.map_toArray, List.map_cons, List.map_nil]; rfl)]; exact no_ev ev_add
    simp only [List.map_cons, List.map_nil, List.mem_cons, List.not_mem_nil, or_false, forall_eq_or_imp, forall_eq] at hwg
    exact Next.out xb c1 c2 b1 b2 wg (by simp at hd ⊢; omega)
end

end Go.Proofs.Ytcdhmnefmbcmaaa
