/-
  The worker: slices.Chunk's loop over the pieces; no condition but what each law names.
-/
import Derived.Test.YtcdhmnefmbcmaaaJat
import Derived.Lib.Hide
namespace Go.Proofs.Ytcdhmnefmbcmaaa
open Go Go.Conc Go.RowKit

noncomputable def loop29 : Code := match bodyOf Try.f29 with | .seq _ (.block _ (.loop c)) => c | _ => .skip

theorem ev_sz {w : World} {es : Array Event} : (sizeOf 5).events Try.prog w es = es := rfl
theorem run_sl1 {d : Addr} {n c i : Nat} {w' : World} (b1 : i ≤ n) (b2 : i < c) (hc : n ≤ c) : (Instr.sliceAt 22 (.slice (some d) n c) (some (.int .i64 (i : Int))) none none).run Try.prog w' = .ok (.slice (some (d.add i)) (n - i) (c - i)) w' := by
  have b3 : ¬ (c = i) := by omega
  simp [Instr.sliceAt, Instr.slice, Instr.sliceBounds, Instr.sliceBound, asIntOf, b1, b3, hc]
theorem ev_sl1 {d : Addr} {n c i : Nat} {w' : World} (b1 : i ≤ n) (b2 : i < c) (hc : n ≤ c) : (Instr.sliceAt 22 (.slice (some d) n c) (some (.int .i64 (i : Int))) none none).events Try.prog w' #[] = #[] := by
  have b3 : ¬ (c = i) := by omega
  simp [Instr.sliceAt, Instr.slice, Instr.sliceBounds, Instr.sliceBound, asIntOf, b1, b3, hc, ev_sz]
theorem run_sl3 {d : Addr} {n c i g : Nat} {w' : World} (b1 : i < g) (b2 : g ≤ n) (hc : n ≤ c) : (Instr.sliceAt 22 (.slice (some d) n c) (some (.int .i64 (i : Int))) (some (.int .i64 (g : Int))) (some (.int .i64 (g : Int)))).run Try.prog w' = .ok (.slice (some (d.add i)) (g - i) (g - i)) w' := by
  have b3 : ¬ (g = i) := by omega
  have b4 : i ≤ g := by omega
  have b5 : g ≤ c := by omega
  simp [Instr.sliceAt, Instr.slice, Instr.sliceBounds, Instr.sliceBound, asIntOf, b3, b4, b5]
theorem ev_sl3 {d : Addr} {n c i g : Nat} {w' : World} (b1 : i < g) (b2 : g ≤ n) (hc : n ≤ c) : (Instr.sliceAt 22 (.slice (some d) n c) (some (.int .i64 (i : Int))) (some (.int .i64 (g : Int))) (some (.int .i64 (g : Int)))).events Try.prog w' #[] = #[] := by
  have b3 : ¬ (g = i) := by omega
  have b4 : i ≤ g := by omega
  have b5 : g ≤ c := by omega
  simp [Instr.sliceAt, Instr.slice, Instr.sliceBounds, Instr.sliceBound, asIntOf, b3, b4, b5, ev_sz]

theorem ev_min {a b : Int} {w : World} : (Builtin.min_ #[3, 3] 3 #[.int .i64 a, .int .i64 b]).events Try.prog w #[] = #[] := by rfl

section
variable {C : Cx} (hP : C.P = Try.prog) {R : RF C.SR} (hR : R.Ok) {W : WB} (hW : W.Ok) {wg cb xb sb yb : Nat} (hS : Seen27 C R cb sb) {src v1 v2 u5 u6 u7 : Value}
  (hT1 : W.T1 = tm25 wg cb xb sb C.bc src undef) (hT2 : W.T2 = tm22 (.func (.yield W.l1) #[] #[]) v1 v2 yb u5 u6 u7 undef) (hyb : (yb, .cells #[.func (.yield W.l1) #[] #[]] 53) ∈ W.bx) {cF : Frame} {cs : List Frame}
  {l : List UInt8} {sz c : Nat} {D : Option Addr} {A2 B2 : Nat} (hA : (A2, .cells #[.slice D l.length c] 22) ∈ W.bx) (hB : (B2, .cells #[.int .i64 (sz : Int)] 3) ∈ W.bx)
  (hsz : 1 ≤ sz) (hle : l.length ≤ 1073741824) (hszl : sz ≤ 9223372036854775807) (hc : l.length ≤ c) (hDn : D = none → l = []) (hD : 0 < l.length → ∀ d, D = some d → C.SR d.block ∧ ∀ w, R.R w → ∀ j v, (byt l)[j]? = some v → w.cell? (d.add j) = some v)
  (hcs : ∀ k, k * sz < l.length → ∀ m cap, ¬ C.SR m → ((l.drop (k * sz)).take sz).length ≤ cap → CapOk ((l.drop (k * sz)).take sz).length 5 cap → C.Cs k (.slice (some ⟨m, 0, none⟩) ((l.drop (k * sz)).take sz).length cap) m (.cells ((byt ((l.drop (k * sz)).take sz)).toArray ++ Array.replicate (cap - ((l.drop (k * sz)).take sz).length) (.int .u8 0)) 5))
 include hP hR hW hS hT1 hT2 hyb hA hB hsz hle hszl hc hDn hD hcs

set_option maxRecDepth 10000 in
set_option maxHeartbeats 4000000 in
theorem w29 (hN : ∀ k, l.length ≤ k * sz → (∀ j, j < k → j * sz < l.length) → k = C.N)
    (hend : ∀ x, (∀ p ∈ x, isCells p.2) → PW C (.work false) C.N (G (cF.finish (.tuple #[])) cs) (ow R (fun _ => False) (Lw W x LS.ready LS.ready)))
    (hstop : ∀ k x, (∀ p ∈ x, isCells p.2) → PW C (.work true) k (G (cF.finish (.tuple #[])) cs) (ow R (fun _ => False) (Lw W x LS.left LS.left))) :
    ∀ (M k i : Nat), k * sz = i → l.length - i < M → (∀ j, j < k → j * sz < l.length) → ∀ (x : List (Nat × Obj)), (∀ p ∈ x, isCells p.2) → ∀ v3 v5 v6 v7 v8 v9 v10 v11 v12 v13 v14 v15 v16 v17 v18 v19 v20 v21 v22 v23 v24 v25 v26 v27 v28 v29 v30 : Value,
      PW C (.work false) k (G (fr 29 #[.func (.yield W.l2) #[] #[], .pointer (some ⟨A2, 0, none⟩), .pointer (some ⟨B2, 0, none⟩), v3, .int .i64 (i : Int), v5, v6, v7, v8, v9, v10, v11, v12, v13, v14, v15, v16, v17, v18, v19, v20, v21, v22, v23, v24, v25, v26, v27, v28, v29, v30] [.code loop29, .inLoop loop29, .inBlock 0] [] none) (cF :: cs)) (ow R (fun _ => False) (Lw W x LS.ready LS.ready)) := by
  intro M
  induction M with
  | zero => intro k i hi hM; omega
  | succ M ih =>
  intro k i hi hM hk x hx v3 v5 v6 v7 v8 v9 v10 v11 v12 v13 v14 v15 v16 v17 v18 v19 v20 v21 v22 v23 v24 v25 v26 v27 v28 v29 v30
  have fA : ∀ (s1 s2 : LS) (y : List (Nat × Obj)) (w : World), (ow R (fun _ => False) (Lw W y s1 s2)).I w → w.cell? ⟨A2, 0, none⟩ = some (.slice D l.length c) := fun _ _ _ w hw => by
    have h := hw.1 (A2, .cells #[.slice D l.length c] 22) (Lw_bx hA)
    unfold World.cell?
    rw [h]; rfl
  have fB : ∀ (s1 s2 : LS) (y : List (Nat × Obj)) (w : World), (ow R (fun _ => False) (Lw W y s1 s2)).I w → w.cell? ⟨B2, 0, none⟩ = some (.int .i64 (sz : Int)) := fun _ _ _ w hw => by
    have h := hw.1 (B2, .cells #[.int .i64 (sz : Int)] 3) (Lw_bx hB)
    unfold World.cell?
    rw [h]; rfl
  have rA : ∀ (s1 s2 : LS) (y : List (Nat × Obj)), (ow R (fun _ => False) (Lw W y s1 s2)).O A2 := fun s1 s2 y => .inr (List.mem_map_of_mem (Lw_bx hA))
  have rB : ∀ (s1 s2 : LS) (y : List (Nat × Obj)), (ow R (fun _ => False) (Lw W y s1 s2)).O B2 := fun s1 s2 y => .inr (List.mem_map_of_mem (Lw_bx hB))
  have FA := Lib.hid fA
  have FB := Lib.hid fB
  have RA := Lib.hid rA
  have RB := Lib.hid rB
  have HA := Lib.hid hA
  have HB := Lib.hid hB
  have Hcs := Lib.hid hcs
  have HD := Lib.hid hD
  have HDn := Lib.hid hDn
  have HT1 := Lib.hid hT1
  have HT2 := Lib.hid hT2
  have Hyb := Lib.hid hyb
  have HN := Lib.hid hN
  have Hend := Lib.hid hend
  have Hstop := Lib.hid hstop
  have Ih := Lib.hid ih
  have HR := Lib.hid hR
  have HW := Lib.hid hW
  have HS := Lib.hid hS
  have Hx := Lib.hid hx
  have Hk := Lib.hid hk
  have Hsz := Lib.hid hsz
  have Hle := Lib.hid hle
  have Hszl := Lib.hid hszl
  have HM := Lib.hid hM
  clear fA fB rA rB hA hB hM hszl hle hsz hk hx hS hW hR ih hstop hend hN hyb hT2 hT1 hDn hD hcs
  have el : loop29 = loop29 := rfl
  conv at el => lhs; simp only [loop29, bodyOf, Try.f29, Option.getD_some]
  obtain ⟨L0, hL0⟩ : ∃ L0, Item.inLoop loop29 = Item.inLoop L0 ∧ Go.RowKit.Hid (L0 = loop29) := ⟨loop29, rfl, rfl⟩
  rw [hL0.1, ← el]
  replace hL0 := hL0.2
  clear el
  refine pw_q hP (fun w => s_seq) rfl ?_
  refine pw_q hP (fun w => s_seq) rfl ?_
  refine pw_q hP (fun w => s_region) rfl ?_
  simp only [List.size_toArray, List.length_cons, List.length_nil, Nat.reduceAdd, Nat.zero_add, List.range, List.range.loop]
  refine pw_vl hP (v := ?_) rfl rfl (by first | exact .inl rfl | exact .inr (fun c h => by cases h)) (fun w hw => ?_) (fun w hw => ?_) ?_
  rotate_left
  · unfold ev; go_simp; try exact rfl
  · unfold ev; simp [go_sem]
  simp only [put]; walk_nrm
  refine pw_vl hP (v := ?_) rfl rfl (by first | exact .inl rfl | exact .inr (fun c h => by cases h)) (fun w hw => ?_) (fun w hw => ?_) ?_
  rotate_left
  · have f0 := FA.out _ _ _ w hw; unfold ev; go_simp; exact rfl
  · have f0 := FA.out _ _ _ w hw; unfold ev; simp [go_sem, f0]; exact ⟨.inl (RA.out _ _ _),rfl⟩
  simp only [put]; walk_nrm
  refine pw_vl hP (v := ?_) rfl rfl (by first | exact .inl rfl | exact .inr (fun c h => by cases h)) (fun w hw => ?_) (fun w hw => ?_) ?_
  rotate_left
  · rw [exec_bi (op := _) rfl]; simp only [List.map_toArray, List.map_cons, List.map_nil]; exact bi_len.1
  · rw [exec_bi (op := _) rfl]; simp only [List.map_toArray, List.map_cons, List.map_nil]; exact no_ev bi_len.2
  simp only [put]; walk_nrm
  refine pw_vl hP (v := ?_) rfl rfl (by first | exact .inl rfl | exact .inr (fun c h => by cases h)) (fun w hw => ?_) (fun w hw => ?_) ?_
  rotate_left
  · unfold ev; go_simp; try exact rfl
  · unfold ev; simp [go_sem]
  simp only [put]; walk_nrm
  refine pw_q hP (fun w => s_region_end) rfl ?_
  by_cases hlt : i < l.length
  · have hd1 : decide (i < l.length) = true := by simp; omega
    rw [hd1]
    obtain ⟨d, rfl⟩ : ∃ d, D = some d := by cases D with | none => rw [HDn.out rfl] at hlt; simp at hlt | some d => exact ⟨d, rfl⟩
    have b2 : i < c := by omega
    have hs1 : ∀ w', (Instr.sliceAt 22 (.slice (some d) l.length c) (some (.int .i64 (i : Int))) none none).run Try.prog w' = .ok (.slice (some (d.add i)) (l.length - i) (c - i)) w' := fun w' => run_sl1 (Nat.le_of_lt hlt) b2 hc
    have hs1e : ∀ w', (Instr.sliceAt 22 (.slice (some d) l.length c) (some (.int .i64 (i : Int))) none none).events Try.prog w' #[] = #[] := fun w' => ev_sl1 (Nat.le_of_lt hlt) b2 hc
    refine pw_q hP (fun w => s_cond (b := true) rfl) rfl ?_
    simp only [if_true, if_false, Bool.false_eq_true, ↓reduceIte]
    refine pw_q hP (fun w => s_skip) rfl ?_
    refine pw_q hP (fun w => s_seq) rfl ?_
    refine pw_q hP (fun w => s_block) rfl ?_
    refine pw_q hP (fun w => s_seq) rfl ?_
    refine gen_tail fun k1 hk1 => ?_
    apply share0
    · intro fin
      refine pw_draw [[0, 1, 2, 3, 4, 5, 6], [0, 2, 1, 3, 4, 5, 6], [1, 0, 2, 3, 4, 5, 6], [1, 2, 0, 3, 4, 5, 6], [1, 2, 3, 0, 4, 5, 6], [1, 2, 3, 4, 0, 5, 6], [2, 0, 1, 3, 4, 5, 6], [2, 1, 0, 3, 4, 5, 6], [2, 1, 3, 0, 4, 5, 6], [2, 1, 3, 4, 0, 5, 6]] (by kernel_rfl) (by kernel_rfl) fun l hl => ?_
      simp only [List.mem_cons, List.not_mem_nil, or_false] at hl
      rcases hl with rfl | rfl | rfl | rfl | rfl | rfl | rfl | rfl | rfl | rfl
      · skip
        refine pw_vl hP (v := ?_) rfl rfl (by first | exact .inl rfl | exact .inr (fun c h => by cases h)) (fun w hw => ?_) (fun w hw => ?_) ?_
        rotate_left
        · have f0 := FA.out _ _ _ w hw; have f1 := FB.out _ _ _ w hw; unfold ev; go_simp; exact rfl
        · have f0 := FA.out _ _ _ w hw; have f1 := FB.out _ _ _ w hw; unfold ev; simp [go_sem, f0, f1]; exact ⟨.inl (RB.out _ _ _),rfl⟩
        simp only [put]; walk_nrm
        refine pw_vl hP (v := ?_) rfl rfl (by first | exact .inl rfl | exact .inr (fun c h => by cases h)) (fun w hw => ?_) (fun w hw => ?_) ?_
        rotate_left
        · have f0 := FA.out _ _ _ w hw; have f1 := FB.out _ _ _ w hw; unfold ev; go_simp; exact rfl
        · have f0 := FA.out _ _ _ w hw; have f1 := FB.out _ _ _ w hw; unfold ev; simp [go_sem, f0, f1]; exact ⟨.inl (RA.out _ _ _),rfl⟩
        simp only [put]; walk_nrm
        refine pw_vl hP (v := ?_) rfl rfl (by first | exact .inl rfl | exact .inr (fun c h => by cases h)) (fun w hw => ?_) (fun w hw => ?_) ?_
        rotate_left
        · unfold ev; go_simp; try exact rfl
        · unfold ev; simp [go_sem]
        simp only [put]; walk_nrm
        refine pw_vl hP (v := ?_) rfl rfl (by first | exact .inl rfl | exact .inr (fun c h => by cases h)) (fun w hw => ?_) (fun w hw => ?_) ?_
        rotate_left
        · unfold ev; go_simp; try exact rfl
        · unfold ev; simp [go_sem, hs1e]
        simp only [put]; walk_nrm
        refine pw_vl hP (v := ?_) rfl rfl (by first | exact .inl rfl | exact .inr (fun c h => by cases h)) (fun w hw => ?_) (fun w hw => ?_) ?_
        rotate_left
        · rw [exec_bi (op := _) rfl]; simp only [List.map_toArray, List.map_cons, List.map_nil]; exact bi_len.1
        · rw [exec_bi (op := _) rfl]; simp only [List.map_toArray, List.map_cons, List.map_nil]; exact no_ev bi_len.2
        simp only [put]; walk_nrm
        refine pw_vl hP (v := ?_) rfl rfl (by first | exact .inl rfl | exact .inr (fun c h => by cases h)) (fun w hw => ?_) (fun w hw => ?_) ?_
        rotate_left
        · rw [exec_bi (op := _) rfl]; simp only [List.map_toArray, List.map_cons, List.map_nil]; exact bi_min.1
        · rw [exec_bi (op := _) rfl]; simp only [List.map_toArray, List.map_cons, List.map_nil]; exact no_ev bi_min.2
        simp only [put]; walk_nrm
        refine pw_vl hP (v := ?_) rfl rfl (by first | exact .inl rfl | exact .inr (fun c h => by cases h)) (fun w hw => ?_) (fun w hw => ?_) ?_
        rotate_left
        · unfold ev; go_simp; try exact rfl
        · unfold ev; simp [go_sem]
        simp only [put]; walk_nrm
        refine pw_q hP (fun w => s_region_end) rfl ?_
        exact fin
      · skip
        refine pw_vl hP (v := ?_) rfl rfl (by first | exact .inl rfl | exact .inr (fun c h => by cases h)) (fun w hw => ?_) (fun w hw => ?_) ?_
        rotate_left
        · have f0 := FA.out _ _ _ w hw; have f1 := FB.out _ _ _ w hw; unfold ev; go_simp; exact rfl
        · have f0 := FA.out _ _ _ w hw; have f1 := FB.out _ _ _ w hw; unfold ev; simp [go_sem, f0, f1]; exact ⟨.inl (RB.out _ _ _),rfl⟩
        simp only [put]; walk_nrm
        refine pw_vl hP (v := ?_) rfl rfl (by first | exact .inl rfl | exact .inr (fun c h => by cases h)) (fun w hw => ?_) (fun w hw => ?_) ?_
        rotate_left
        · unfold ev; go_simp; try exact rfl
        · unfold ev; simp [go_sem]
        simp only [put]; walk_nrm
        refine pw_vl hP (v := ?_) rfl rfl (by first | exact .inl rfl | exact .inr (fun c h => by cases h)) (fun w hw => ?_) (fun w hw => ?_) ?_
        rotate_left
        · have f0 := FA.out _ _ _ w hw; have f1 := FB.out _ _ _ w hw; unfold ev; go_simp; exact rfl
        · have f0 := FA.out _ _ _ w hw; have f1 := FB.out _ _ _ w hw; unfold ev; simp [go_sem, f0, f1]; exact ⟨.inl (RA.out _ _ _),rfl⟩
        simp only [put]; walk_nrm
        refine pw_vl hP (v := ?_) rfl rfl (by first | exact .inl rfl | exact .inr (fun c h => by cases h)) (fun w hw => ?_) (fun w hw => ?_) ?_
        rotate_left
        · unfold ev; go_simp; try exact rfl
        · unfold ev; simp [go_sem, hs1e]
        simp only [put]; walk_nrm
        refine pw_vl hP (v := ?_) rfl rfl (by first | exact .inl rfl | exact .inr (fun c h => by cases h)) (fun w hw => ?_) (fun w hw => ?_) ?_
        rotate_left
        · rw [exec_bi (op := _) rfl]; simp only [List.map_toArray, List.map_cons, List.map_nil]; exact bi_len.1
        · rw [exec_bi (op := _) rfl]; simp only [List.map_toArray, List.map_cons, List.map_nil]; exact no_ev bi_len.2
        simp only [put]; walk_nrm
        refine pw_vl hP (v := ?_) rfl rfl (by first | exact .inl rfl | exact .inr (fun c h => by cases h)) (fun w hw => ?_) (fun w hw => ?_) ?_
        rotate_left
        · rw [exec_bi (op := _) rfl]; simp only [List.map_toArray, List.map_cons, List.map_nil]; exact bi_min.1
        · rw [exec_bi (op := _) rfl]; simp only [List.map_toArray, List.map_cons, List.map_nil]; exact no_ev bi_min.2
        simp only [put]; walk_nrm
        refine pw_vl hP (v := ?_) rfl rfl (by first | exact .inl rfl | exact .inr (fun c h => by cases h)) (fun w hw => ?_) (fun w hw => ?_) ?_
        rotate_left
        · unfold ev; go_simp; try exact rfl
        · unfold ev; simp [go_sem]
        simp only [put]; walk_nrm
        refine pw_q hP (fun w => s_region_end) rfl ?_
        exact fin
      · skip
        refine pw_vl hP (v := ?_) rfl rfl (by first | exact .inl rfl | exact .inr (fun c h => by cases h)) (fun w hw => ?_) (fun w hw => ?_) ?_
        rotate_left
        · have f0 := FA.out _ _ _ w hw; have f1 := FB.out _ _ _ w hw; unfold ev; go_simp; exact rfl
        · have f0 := FA.out _ _ _ w hw; have f1 := FB.out _ _ _ w hw; unfold ev; simp [go_sem, f0, f1]; exact ⟨.inl (RA.out _ _ _),rfl⟩
        simp only [put]; walk_nrm
        refine pw_vl hP (v := ?_) rfl rfl (by first | exact .inl rfl | exact .inr (fun c h => by cases h)) (fun w hw => ?_) (fun w hw => ?_) ?_
        rotate_left
        · have f0 := FA.out _ _ _ w hw; have f1 := FB.out _ _ _ w hw; unfold ev; go_simp; exact rfl
        · have f0 := FA.out _ _ _ w hw; have f1 := FB.out _ _ _ w hw; unfold ev; simp [go_sem, f0, f1]; exact ⟨.inl (RB.out _ _ _),rfl⟩
        simp only [put]; walk_nrm
        refine pw_vl hP (v := ?_) rfl rfl (by first | exact .inl rfl | exact .inr (fun c h => by cases h)) (fun w hw => ?_) (fun w hw => ?_) ?_
        rotate_left
        · unfold ev; go_simp; try exact rfl
        · unfold ev; simp [go_sem]
        simp only [put]; walk_nrm
        refine pw_vl hP (v := ?_) rfl rfl (by first | exact .inl rfl | exact .inr (fun c h => by cases h)) (fun w hw => ?_) (fun w hw => ?_) ?_
        rotate_left
        · unfold ev; go_simp; try exact rfl
        · unfold ev; simp [go_sem, hs1e]
        simp only [put]; walk_nrm
        refine pw_vl hP (v := ?_) rfl rfl (by first | exact .inl rfl | exact .inr (fun c h => by cases h)) (fun w hw => ?_) (fun w hw => ?_) ?_
        rotate_left
        · rw [exec_bi (op := _) rfl]; simp only [List.map_toArray, List.map_cons, List.map_nil]; exact bi_len.1
        · rw [exec_bi (op := _) rfl]; simp only [List.map_toArray, List.map_cons, List.map_nil]; exact no_ev bi_len.2
        simp only [put]; walk_nrm
        refine pw_vl hP (v := ?_) rfl rfl (by first | exact .inl rfl | exact .inr (fun c h => by cases h)) (fun w hw => ?_) (fun w hw => ?_) ?_
        rotate_left
        · rw [exec_bi (op := _) rfl]; simp only [List.map_toArray, List.map_cons, List.map_nil]; exact bi_min.1
        · rw [exec_bi (op := _) rfl]; simp only [List.map_toArray, List.map_cons, List.map_nil]; exact no_ev bi_min.2
        simp only [put]; walk_nrm
        refine pw_vl hP (v := ?_) rfl rfl (by first | exact .inl rfl | exact .inr (fun c h => by cases h)) (fun w hw => ?_) (fun w hw => ?_) ?_
        rotate_left
        · unfold ev; go_simp; try exact rfl
        · unfold ev; simp [go_sem]
        simp only [put]; walk_nrm
        refine pw_q hP (fun w => s_region_end) rfl ?_
        exact fin
      · skip
        refine pw_vl hP (v := ?_) rfl rfl (by first | exact .inl rfl | exact .inr (fun c h => by cases h)) (fun w hw => ?_) (fun w hw => ?_) ?_
        rotate_left
        · have f0 := FA.out _ _ _ w hw; have f1 := FB.out _ _ _ w hw; unfold ev; go_simp; exact rfl
        · have f0 := FA.out _ _ _ w hw; have f1 := FB.out _ _ _ w hw; unfold ev; simp [go_sem, f0, f1]; exact ⟨.inl (RA.out _ _ _),rfl⟩
        simp only [put]; walk_nrm
        refine pw_vl hP (v := ?_) rfl rfl (by first | exact .inl rfl | exact .inr (fun c h => by cases h)) (fun w hw => ?_) (fun w hw => ?_) ?_
        rotate_left
        · unfold ev; go_simp; try exact rfl
        · unfold ev; simp [go_sem]
        simp only [put]; walk_nrm
        refine pw_vl hP (v := ?_) rfl rfl (by first | exact .inl rfl | exact .inr (fun c h => by cases h)) (fun w hw => ?_) (fun w hw => ?_) ?_
        rotate_left
        · have f0 := FA.out _ _ _ w hw; have f1 := FB.out _ _ _ w hw; unfold ev; go_simp; exact rfl
        · have f0 := FA.out _ _ _ w hw; have f1 := FB.out _ _ _ w hw; unfold ev; simp [go_sem, f0, f1]; exact ⟨.inl (RB.out _ _ _),rfl⟩
        simp only [put]; walk_nrm
        refine pw_vl hP (v := ?_) rfl rfl (by first | exact .inl rfl | exact .inr (fun c h => by cases h)) (fun w hw => ?_) (fun w hw => ?_) ?_
        rotate_left
        · unfold ev; go_simp; try exact rfl
        · unfold ev; simp [go_sem, hs1e]
        simp only [put]; walk_nrm
        refine pw_vl hP (v := ?_) rfl rfl (by first | exact .inl rfl | exact .inr (fun c h => by cases h)) (fun w hw => ?_) (fun w hw => ?_) ?_
        rotate_left
        · rw [exec_bi (op := _) rfl]; simp only [List.map_toArray, List.map_cons, List.map_nil]; exact bi_len.1
        · rw [exec_bi (op := _) rfl]; simp only [List.map_toArray, List.map_cons, List.map_nil]; exact no_ev bi_len.2
        simp only [put]; walk_nrm
        refine pw_vl hP (v := ?_) rfl rfl (by first | exact .inl rfl | exact .inr (fun c h => by cases h)) (fun w hw => ?_) (fun w hw => ?_) ?_
        rotate_left
        · rw [exec_bi (op := _) rfl]; simp only [List.map_toArray, List.map_cons, List.map_nil]; exact bi_min.1
        · rw [exec_bi (op := _) rfl]; simp only [List.map_toArray, List.map_cons, List.map_nil]; exact no_ev bi_min.2
        simp only [put]; walk_nrm
        refine pw_vl hP (v := ?_) rfl rfl (by first | exact .inl rfl | exact .inr (fun c h => by cases h)) (fun w hw => ?_) (fun w hw => ?_) ?_
        rotate_left
        · unfold ev; go_simp; try exact rfl
        · unfold ev; simp [go_sem]
        simp only [put]; walk_nrm
        refine pw_q hP (fun w => s_region_end) rfl ?_
        exact fin
      · skip
        refine pw_vl hP (v := ?_) rfl rfl (by first | exact .inl rfl | exact .inr (fun c h => by cases h)) (fun w hw => ?_) (fun w hw => ?_) ?_
        rotate_left
        · have f0 := FA.out _ _ _ w hw; have f1 := FB.out _ _ _ w hw; unfold ev; go_simp; exact rfl
        · have f0 := FA.out _ _ _ w hw; have f1 := FB.out _ _ _ w hw; unfold ev; simp [go_sem, f0, f1]; exact ⟨.inl (RA.out _ _ _),rfl⟩
        simp only [put]; walk_nrm
        refine pw_vl hP (v := ?_) rfl rfl (by first | exact .inl rfl | exact .inr (fun c h => by cases h)) (fun w hw => ?_) (fun w hw => ?_) ?_
        rotate_left
        · unfold ev; go_simp; try exact rfl
        · unfold ev; simp [go_sem]
        simp only [put]; walk_nrm
        refine pw_vl hP (v := ?_) rfl rfl (by first | exact .inl rfl | exact .inr (fun c h => by cases h)) (fun w hw => ?_) (fun w hw => ?_) ?_
        rotate_left
        · unfold ev; go_simp; try exact rfl
        · unfold ev; simp [go_sem, hs1e]
        simp only [put]; walk_nrm
        refine pw_vl hP (v := ?_) rfl rfl (by first | exact .inl rfl | exact .inr (fun c h => by cases h)) (fun w hw => ?_) (fun w hw => ?_) ?_
        rotate_left
        · have f0 := FA.out _ _ _ w hw; have f1 := FB.out _ _ _ w hw; unfold ev; go_simp; exact rfl
        · have f0 := FA.out _ _ _ w hw; have f1 := FB.out _ _ _ w hw; unfold ev; simp [go_sem, f0, f1]; exact ⟨.inl (RB.out _ _ _),rfl⟩
        simp only [put]; walk_nrm
        refine pw_vl hP (v := ?_) rfl rfl (by first | exact .inl rfl | exact .inr (fun c h => by cases h)) (fun w hw => ?_) (fun w hw => ?_) ?_
        rotate_left
        · rw [exec_bi (op := _) rfl]; simp only [List.map_toArray, List.map_cons, List.map_nil]; exact bi_len.1
        · rw [exec_bi (op := _) rfl]; simp only [List.map_toArray, List.map_cons, List.map_nil]; exact no_ev bi_len.2
        simp only [put]; walk_nrm
        refine pw_vl hP (v := ?_) rfl rfl (by first | exact .inl rfl | exact .inr (fun c h => by cases h)) (fun w hw => ?_) (fun w hw => ?_) ?_
        rotate_left
        · rw [exec_bi (op := _) rfl]; simp only [List.map_toArray, List.map_cons, List.map_nil]; exact bi_min.1
        · rw [exec_bi (op := _) rfl]; simp only [List.map_toArray, List.map_cons, List.map_nil]; exact no_ev bi_min.2
        simp only [put]; walk_nrm
        refine pw_vl hP (v := ?_) rfl rfl (by first | exact .inl rfl | exact .inr (fun c h => by cases h)) (fun w hw => ?_) (fun w hw => ?_) ?_
        rotate_left
        · unfold ev; go_simp; try exact rfl
        · unfold ev; simp [go_sem]
        simp only [put]; walk_nrm
        refine pw_q hP (fun w => s_region_end) rfl ?_
        exact fin
      · skip
        refine pw_vl hP (v := ?_) rfl rfl (by first | exact .inl rfl | exact .inr (fun c h => by cases h)) (fun w hw => ?_) (fun w hw => ?_) ?_
        rotate_left
        · have f0 := FA.out _ _ _ w hw; have f1 := FB.out _ _ _ w hw; unfold ev; go_simp; exact rfl
        · have f0 := FA.out _ _ _ w hw; have f1 := FB.out _ _ _ w hw; unfold ev; simp [go_sem, f0, f1]; exact ⟨.inl (RA.out _ _ _),rfl⟩
        simp only [put]; walk_nrm
        refine pw_vl hP (v := ?_) rfl rfl (by first | exact .inl rfl | exact .inr (fun c h => by cases h)) (fun w hw => ?_) (fun w hw => ?_) ?_
        rotate_left
        · unfold ev; go_simp; try exact rfl
        · unfold ev; simp [go_sem]
        simp only [put]; walk_nrm
        refine pw_vl hP (v := ?_) rfl rfl (by first | exact .inl rfl | exact .inr (fun c h => by cases h)) (fun w hw => ?_) (fun w hw => ?_) ?_
        rotate_left
        · unfold ev; go_simp; try exact rfl
        · unfold ev; simp [go_sem, hs1e]
        simp only [put]; walk_nrm
        refine pw_vl hP (v := ?_) rfl rfl (by first | exact .inl rfl | exact .inr (fun c h => by cases h)) (fun w hw => ?_) (fun w hw => ?_) ?_
        rotate_left
        · rw [exec_bi (op := _) rfl]; simp only [List.map_toArray, List.map_cons, List.map_nil]; exact bi_len.1
        · rw [exec_bi (op := _) rfl]; simp only [List.map_toArray, List.map_cons, List.map_nil]; exact no_ev bi_len.2
        simp only [put]; walk_nrm
        refine pw_vl hP (v := ?_) rfl rfl (by first | exact .inl rfl | exact .inr (fun c h => by cases h)) (fun w hw => ?_) (fun w hw => ?_) ?_
        rotate_left
        · have f0 := FA.out _ _ _ w hw; have f1 := FB.out _ _ _ w hw; unfold ev; go_simp; exact rfl
        · have f0 := FA.out _ _ _ w hw; have f1 := FB.out _ _ _ w hw; unfold ev; simp [go_sem, f0, f1]; exact ⟨.inl (RB.out _ _ _),rfl⟩
        simp only [put]; walk_nrm
        refine pw_vl hP (v := ?_) rfl rfl (by first | exact .inl rfl | exact .inr (fun c h => by cases h)) (fun w hw => ?_) (fun w hw => ?_) ?_
        rotate_left
        · rw [exec_bi (op := _) rfl]; simp only [List.map_toArray, List.map_cons, List.map_nil]; exact bi_min.1
        · rw [exec_bi (op := _) rfl]; simp only [List.map_toArray, List.map_cons, List.map_nil]; exact no_ev bi_min.2
        simp only [put]; walk_nrm
        refine pw_vl hP (v := ?_) rfl rfl (by first | exact .inl rfl | exact .inr (fun c h => by cases h)) (fun w hw => ?_) (fun w hw => ?_) ?_
        rotate_left
        · unfold ev; go_simp; try exact rfl
        · unfold ev; simp [go_sem]
        simp only [put]; walk_nrm
        refine pw_q hP (fun w => s_region_end) rfl ?_
        exact fin
      · skip
        refine pw_vl hP (v := ?_) rfl rfl (by first | exact .inl rfl | exact .inr (fun c h => by cases h)) (fun w hw => ?_) (fun w hw => ?_) ?_
        rotate_left
        · unfold ev; go_simp; try exact rfl
        · unfold ev; simp [go_sem]
        simp only [put]; walk_nrm
        refine pw_vl hP (v := ?_) rfl rfl (by first | exact .inl rfl | exact .inr (fun c h => by cases h)) (fun w hw => ?_) (fun w hw => ?_) ?_
        rotate_left
        · have f0 := FA.out _ _ _ w hw; have f1 := FB.out _ _ _ w hw; unfold ev; go_simp; exact rfl
        · have f0 := FA.out _ _ _ w hw; have f1 := FB.out _ _ _ w hw; unfold ev; simp [go_sem, f0, f1]; exact ⟨.inl (RB.out _ _ _),rfl⟩
        simp only [put]; walk_nrm
        refine pw_vl hP (v := ?_) rfl rfl (by first | exact .inl rfl | exact .inr (fun c h => by cases h)) (fun w hw => ?_) (fun w hw => ?_) ?_
        rotate_left
        · have f0 := FA.out _ _ _ w hw; have f1 := FB.out _ _ _ w hw; unfold ev; go_simp; exact rfl
        · have f0 := FA.out _ _ _ w hw; have f1 := FB.out _ _ _ w hw; unfold ev; simp [go_sem, f0, f1]; exact ⟨.inl (RA.out _ _ _),rfl⟩
        simp only [put]; walk_nrm
        refine pw_vl hP (v := ?_) rfl rfl (by first | exact .inl rfl | exact .inr (fun c h => by cases h)) (fun w hw => ?_) (fun w hw => ?_) ?_
        rotate_left
        · unfold ev; go_simp; try exact rfl
        · unfold ev; simp [go_sem, hs1e]
        simp only [put]; walk_nrm
        refine pw_vl hP (v := ?_) rfl rfl (by first | exact .inl rfl | exact .inr (fun c h => by cases h)) (fun w hw => ?_) (fun w hw => ?_) ?_
        rotate_left
        · rw [exec_bi (op := _) rfl]; simp only [List.map_toArray, List.map_cons, List.map_nil]; exact bi_len.1
        · rw [exec_bi (op := _) rfl]; simp only [List.map_toArray, List.map_cons, List.map_nil]; exact no_ev bi_len.2
        simp only [put]; walk_nrm
        refine pw_vl hP (v := ?_) rfl rfl (by first | exact .inl rfl | exact .inr (fun c h => by cases h)) (fun w hw => ?_) (fun w hw => ?_) ?_
        rotate_left
        · rw [exec_bi (op := _) rfl]; simp only [List.map_toArray, List.map_cons, List.map_nil]; exact bi_min.1
        · rw [exec_bi (op := _) rfl]; simp only [List.map_toArray, List.map_cons, List.map_nil]; exact no_ev bi_min.2
        simp only [put]; walk_nrm
        refine pw_vl hP (v := ?_) rfl rfl (by first | exact .inl rfl | exact .inr (fun c h => by cases h)) (fun w hw => ?_) (fun w hw => ?_) ?_
        rotate_left
        · unfold ev; go_simp; try exact rfl
        · unfold ev; simp [go_sem]
        simp only [put]; walk_nrm
        refine pw_q hP (fun w => s_region_end) rfl ?_
        exact fin
      · skip
        refine pw_vl hP (v := ?_) rfl rfl (by first | exact .inl rfl | exact .inr (fun c h => by cases h)) (fun w hw => ?_) (fun w hw => ?_) ?_
        rotate_left
        · unfold ev; go_simp; try exact rfl
        · unfold ev; simp [go_sem]
        simp only [put]; walk_nrm
        refine pw_vl hP (v := ?_) rfl rfl (by first | exact .inl rfl | exact .inr (fun c h => by cases h)) (fun w hw => ?_) (fun w hw => ?_) ?_
        rotate_left
        · have f0 := FA.out _ _ _ w hw; have f1 := FB.out _ _ _ w hw; unfold ev; go_simp; exact rfl
        · have f0 := FA.out _ _ _ w hw; have f1 := FB.out _ _ _ w hw; unfold ev; simp [go_sem, f0, f1]; exact ⟨.inl (RA.out _ _ _),rfl⟩
        simp only [put]; walk_nrm
        refine pw_vl hP (v := ?_) rfl rfl (by first | exact .inl rfl | exact .inr (fun c h => by cases h)) (fun w hw => ?_) (fun w hw => ?_) ?_
        rotate_left
        · have f0 := FA.out _ _ _ w hw; have f1 := FB.out _ _ _ w hw; unfold ev; go_simp; exact rfl
        · have f0 := FA.out _ _ _ w hw; have f1 := FB.out _ _ _ w hw; unfold ev; simp [go_sem, f0, f1]; exact ⟨.inl (RB.out _ _ _),rfl⟩
        simp only [put]; walk_nrm
        refine pw_vl hP (v := ?_) rfl rfl (by first | exact .inl rfl | exact .inr (fun c h => by cases h)) (fun w hw => ?_) (fun w hw => ?_) ?_
        rotate_left
        · unfold ev; go_simp; try exact rfl
        · unfold ev; simp [go_sem, hs1e]
        simp only [put]; walk_nrm
        refine pw_vl hP (v := ?_) rfl rfl (by first | exact .inl rfl | exact .inr (fun c h => by cases h)) (fun w hw => ?_) (fun w hw => ?_) ?_
        rotate_left
        · rw [exec_bi (op := _) rfl]; simp only [List.map_toArray, List.map_cons, List.map_nil]; exact bi_len.1
        · rw [exec_bi (op := _) rfl]; simp only [List.map_toArray, List.map_cons, List.map_nil]; exact no_ev bi_len.2
        simp only [put]; walk_nrm
        refine pw_vl hP (v := ?_) rfl rfl (by first | exact .inl rfl | exact .inr (fun c h => by cases h)) (fun w hw => ?_) (fun w hw => ?_) ?_
        rotate_left
        · rw [exec_bi (op := _) rfl]; simp only [List.map_toArray, List.map_cons, List.map_nil]; exact bi_min.1
        · rw [exec_bi (op := _) rfl]; simp only [List.map_toArray, List.map_cons, List.map_nil]; exact no_ev bi_min.2
        simp only [put]; walk_nrm
        refine pw_vl hP (v := ?_) rfl rfl (by first | exact .inl rfl | exact .inr (fun c h => by cases h)) (fun w hw => ?_) (fun w hw => ?_) ?_
        rotate_left
        · unfold ev; go_simp; try exact rfl
        · unfold ev; simp [go_sem]
        simp only [put]; walk_nrm
        refine pw_q hP (fun w => s_region_end) rfl ?_
        exact fin
      · skip
        refine pw_vl hP (v := ?_) rfl rfl (by first | exact .inl rfl | exact .inr (fun c h => by cases h)) (fun w hw => ?_) (fun w hw => ?_) ?_
        rotate_left
        · unfold ev; go_simp; try exact rfl
        · unfold ev; simp [go_sem]
        simp only [put]; walk_nrm
        refine pw_vl hP (v := ?_) rfl rfl (by first | exact .inl rfl | exact .inr (fun c h => by cases h)) (fun w hw => ?_) (fun w hw => ?_) ?_
        rotate_left
        · have f0 := FA.out _ _ _ w hw; have f1 := FB.out _ _ _ w hw; unfold ev; go_simp; exact rfl
        · have f0 := FA.out _ _ _ w hw; have f1 := FB.out _ _ _ w hw; unfold ev; simp [go_sem, f0, f1]; exact ⟨.inl (RA.out _ _ _),rfl⟩
        simp only [put]; walk_nrm
        refine pw_vl hP (v := ?_) rfl rfl (by first | exact .inl rfl | exact .inr (fun c h => by cases h)) (fun w hw => ?_) (fun w hw => ?_) ?_
        rotate_left
        · unfold ev; go_simp; try exact rfl
        · unfold ev; simp [go_sem, hs1e]
        simp only [put]; walk_nrm
        refine pw_vl hP (v := ?_) rfl rfl (by first | exact .inl rfl | exact .inr (fun c h => by cases h)) (fun w hw => ?_) (fun w hw => ?_) ?_
        rotate_left
        · have f0 := FA.out _ _ _ w hw; have f1 := FB.out _ _ _ w hw; unfold ev; go_simp; exact rfl
        · have f0 := FA.out _ _ _ w hw; have f1 := FB.out _ _ _ w hw; unfold ev; simp [go_sem, f0, f1]; exact ⟨.inl (RB.out _ _ _),rfl⟩
        simp only [put]; walk_nrm
        refine pw_vl hP (v := ?_) rfl rfl (by first | exact .inl rfl | exact .inr (fun c h => by cases h)) (fun w hw => ?_) (fun w hw => ?_) ?_
        rotate_left
        · rw [exec_bi (op := _) rfl]; simp only [List.map_toArray, List.map_cons, List.map_nil]; exact bi_len.1
        · rw [exec_bi (op := _) rfl]; simp only [List.map_toArray, List.map_cons, List.map_nil]; exact no_ev bi_len.2
        simp only [put]; walk_nrm
        refine pw_vl hP (v := ?_) rfl rfl (by first | exact .inl rfl | exact .inr (fun c h => by cases h)) (fun w hw => ?_) (fun w hw => ?_) ?_
        rotate_left
        · rw [exec_bi (op := _) rfl]; simp only [List.map_toArray, List.map_cons, List.map_nil]; exact bi_min.1
        · rw [exec_bi (op := _) rfl]; simp only [List.map_toArray, List.map_cons, List.map_nil]; exact no_ev bi_min.2
        simp only [put]; walk_nrm
        refine pw_vl hP (v := ?_) rfl rfl (by first | exact .inl rfl | exact .inr (fun c h => by cases h)) (fun w hw => ?_) (fun w hw => ?_) ?_
        rotate_left
        · unfold ev; go_simp; try exact rfl
        · unfold ev; simp [go_sem]
        simp only [put]; walk_nrm
        refine pw_q hP (fun w => s_region_end) rfl ?_
        exact fin
      · skip
        refine pw_vl hP (v := ?_) rfl rfl (by first | exact .inl rfl | exact .inr (fun c h => by cases h)) (fun w hw => ?_) (fun w hw => ?_) ?_
        rotate_left
        · unfold ev; go_simp; try exact rfl
        · unfold ev; simp [go_sem]
        simp only [put]; walk_nrm
        refine pw_vl hP (v := ?_) rfl rfl (by first | exact .inl rfl | exact .inr (fun c h => by cases h)) (fun w hw => ?_) (fun w hw => ?_) ?_
        rotate_left
        · have f0 := FA.out _ _ _ w hw; have f1 := FB.out _ _ _ w hw; unfold ev; go_simp; exact rfl
        · have f0 := FA.out _ _ _ w hw; have f1 := FB.out _ _ _ w hw; unfold ev; simp [go_sem, f0, f1]; exact ⟨.inl (RA.out _ _ _),rfl⟩
        simp only [put]; walk_nrm
        refine pw_vl hP (v := ?_) rfl rfl (by first | exact .inl rfl | exact .inr (fun c h => by cases h)) (fun w hw => ?_) (fun w hw => ?_) ?_
        rotate_left
        · unfold ev; go_simp; try exact rfl
        · unfold ev; simp [go_sem, hs1e]
        simp only [put]; walk_nrm
        refine pw_vl hP (v := ?_) rfl rfl (by first | exact .inl rfl | exact .inr (fun c h => by cases h)) (fun w hw => ?_) (fun w hw => ?_) ?_
        rotate_left
        · rw [exec_bi (op := _) rfl]; simp only [List.map_toArray, List.map_cons, List.map_nil]; exact bi_len.1
        · rw [exec_bi (op := _) rfl]; simp only [List.map_toArray, List.map_cons, List.map_nil]; exact no_ev bi_len.2
        simp only [put]; walk_nrm
        refine pw_vl hP (v := ?_) rfl rfl (by first | exact .inl rfl | exact .inr (fun c h => by cases h)) (fun w hw => ?_) (fun w hw => ?_) ?_
        rotate_left
        · have f0 := FA.out _ _ _ w hw; have f1 := FB.out _ _ _ w hw; unfold ev; go_simp; exact rfl
        · have f0 := FA.out _ _ _ w hw; have f1 := FB.out _ _ _ w hw; unfold ev; simp [go_sem, f0, f1]; exact ⟨.inl (RB.out _ _ _),rfl⟩
        simp only [put]; walk_nrm
        refine pw_vl hP (v := ?_) rfl rfl (by first | exact .inl rfl | exact .inr (fun c h => by cases h)) (fun w hw => ?_) (fun w hw => ?_) ?_
        rotate_left
        · rw [exec_bi (op := _) rfl]; simp only [List.map_toArray, List.map_cons, List.map_nil]; exact bi_min.1
        · rw [exec_bi (op := _) rfl]; simp only [List.map_toArray, List.map_cons, List.map_nil]; exact no_ev bi_min.2
        simp only [put]; walk_nrm
        refine pw_vl hP (v := ?_) rfl rfl (by first | exact .inl rfl | exact .inr (fun c h => by cases h)) (fun w hw => ?_) (fun w hw => ?_) ?_
        rotate_left
        · unfold ev; go_simp; try exact rfl
        · unfold ev; simp [go_sem]
        simp only [put]; walk_nrm
        refine pw_q hP (fun w => s_region_end) rfl ?_
        exact fin
    · have hk1 := hk1.out
      subst hk1
      obtain ⟨e, he⟩ : ∃ e, min sz (l.length - i) = e := ⟨_, rfl⟩
      rw [he]
      have e1 : 1 ≤ e := by have := Hsz.out; omega
      have e2 : i + e ≤ l.length := by omega
      have hb1 : IntKind.i64.wrap ((i : Int) + (e : Int)) = ((i + e : Nat) : Int) := by rw [IntKind.wrap_i64]; have := Hle.out; omega
      have hct : ((i + e : Nat) : Int) = (i : Int) + (e : Int) := by omega
      have hs2 : ∀ w', (Instr.sliceAt 22 (.slice (some d) l.length c) (some (.int .i64 (i : Int))) (some (.int .i64 ((i : Int) + (e : Int)))) (some (.int .i64 ((i : Int) + (e : Int))))).run Try.prog w' = .ok (.slice (some (d.add i)) e e) w' := fun w' => by
        have := run_sl3 (d := d) (n := l.length) (c := c) (i := i) (g := i + e) (w' := w') (by omega) (by omega) hc
        rwa [show i + e - i = e by omega, hct] at this
      have hs2e : ∀ w', (Instr.sliceAt 22 (.slice (some d) l.length c) (some (.int .i64 (i : Int))) (some (.int .i64 ((i : Int) + (e : Int)))) (some (.int .i64 ((i : Int) + (e : Int))))).events Try.prog w' #[] = #[] := fun w' => by
        have := ev_sl3 (d := d) (n := l.length) (c := c) (i := i) (g := i + e) (w' := w') (by omega) (by omega) hc
        rwa [hct] at this
      clear hct
      refine pw_q hP (fun w => s_seq) rfl ?_
      refine pw_q hP (fun w => s_region) rfl ?_
      simp only [List.size_toArray, List.length_cons, List.length_nil, Nat.reduceAdd, Nat.zero_add, List.range, List.range.loop]
      refine pw_vl hP (v := ?_) rfl rfl (by first | exact .inl rfl | exact .inr (fun c h => by cases h)) (fun w hw => ?_) (fun w hw => ?_) ?_
      rotate_left
      · unfold ev; go_simp; try exact rfl
      · unfold ev; simp [go_sem]
      simp only [put]; walk_nrm
      refine pw_vl hP (v := ?_) rfl rfl (by first | exact .inl rfl | exact .inr (fun c h => by cases h)) (fun w hw => ?_) (fun w hw => ?_) ?_
      rotate_left
      · have f0 := FA.out _ _ _ w hw; unfold ev; go_simp; exact rfl
      · have f0 := FA.out _ _ _ w hw; unfold ev; simp [go_sem, f0]; exact ⟨.inl (RA.out _ _ _),rfl⟩
      simp only [put]; walk_nrm
      refine pw_vl hP (v := ?_) rfl rfl (by first | exact .inl rfl | exact .inr (fun c h => by cases h)) (fun w hw => ?_) (fun w hw => ?_) ?_
      rotate_left
      · unfold ev; go_simp; try exact rfl
      · unfold ev; simp [go_sem]
      simp only [put]; walk_nrm
      refine pw_vl hP (v := ?_) rfl rfl (by first | exact .inl rfl | exact .inr (fun c h => by cases h)) (fun w hw => ?_) (fun w hw => ?_) ?_
      rotate_left
      · unfold ev; go_simp; try exact rfl
      · unfold ev; simp [go_sem]
      simp only [put]; walk_nrm
      refine pw_vl hP (v := ?_) rfl rfl (by first | exact .inl rfl | exact .inr (fun c h => by cases h)) (fun w hw => ?_) (fun w hw => ?_) ?_
      rotate_left
      · unfold ev; go_simp; try exact rfl
      · unfold ev; simp [go_sem]
      simp only [put]; walk_nrm
      refine pw_vl hP (v := ?_) rfl rfl (by first | exact .inl rfl | exact .inr (fun c h => by cases h)) (fun w hw => ?_) (fun w hw => ?_) ?_
      rotate_left
      · unfold ev; go_simp; try exact rfl
      · unfold ev; simp [go_sem]
      simp only [put]; walk_nrm
      refine pw_vl hP (v := ?_) rfl rfl (by first | exact .inl rfl | exact .inr (fun c h => by cases h)) (fun w hw => ?_) (fun w hw => ?_) ?_
      rotate_left
      · unfold ev; go_simp; try exact rfl
      · unfold ev; simp [go_sem]
      simp only [put]; walk_nrm
      refine pw_vl hP (v := ?_) rfl rfl (by first | exact .inl rfl | exact .inr (fun c h => by cases h)) (fun w hw => ?_) (fun w hw => ?_) ?_
      rotate_left
      · unfold ev; go_simp; try exact rfl
      · unfold ev; simp [go_sem]
      simp only [put]; walk_nrm
      refine pw_vl hP (v := ?_) rfl rfl (by first | exact .inl rfl | exact .inr (fun c h => by cases h)) (fun w hw => ?_) (fun w hw => ?_) ?_
      rotate_left
      · unfold ev; go_simp; try exact rfl
      · unfold ev; simp [go_sem]
      simp only [put]; walk_nrm
      refine pw_vl hP (v := ?_) rfl rfl (by first | exact .inl rfl | exact .inr (fun c h => by cases h)) (fun w hw => ?_) (fun w hw => ?_) ?_
      rotate_left
      · unfold ev; go_simp; try exact rfl
      · unfold ev; simp [go_sem, hs2e]
      simp only [put]; walk_nrm
      have Hs1 := Lib.hid hs1
      have Hs2 := Lib.hid hs2
      clear hs1 hs2 hs1e hs2e
      -- the call of yield
      refine pw_round hP (l := W.l2) (f := 22) (tm := tm22 (.func (.yield W.l1) #[] #[]) v1 v2 yb u5 u6 u7 (.slice (some (d.add i)) e e)) (a := Go.Proofs.Ytcdhmnefmbcmaaa.rA Try.f22) (b := Go.Proofs.Ytcdhmnefmbcmaaa.rB Try.f22) rfl rfl (.inl rfl) (fun w hw => ?_) (fun w hw => ?_) ?_
      · have hl : w.heap[W.l2]? = some (lp 22 Try.f22 W.T2 W.d2 LS.ready) := hw.1 (W.l2, lp 22 Try.f22 W.T2 W.d2 LS.ready) Lw_l2
        obtain ⟨h1, _⟩ := t_yield (P := Try.prog) (l := W.l2) (v := .slice (some (d.add i)) e e) hl rP_chunks1
        rw [exec_yield (op := _) (v := .slice (some (d.add i)) e e) (f := .tmp 19) (x := .tmp 28) rfl rfl rfl, h1]
        simp only [HT2.out]
        rfl
      · have hl : w.heap[W.l2]? = some (lp 22 Try.f22 W.T2 W.d2 LS.ready) := hw.1 (W.l2, lp 22 Try.f22 W.T2 W.d2 LS.ready) Lw_l2
        obtain ⟨h1, h2⟩ := t_yield (P := Try.prog) (l := W.l2) (v := .slice (some (d.add i)) e e) hl rP_chunks1
        rw [exec_yield (op := _) (v := .slice (some (d.add i)) e e) (f := .tmp 19) (x := .tmp 28) rfl rfl rfl, h2]
        intro e he
        simp only [List.mem_toArray, List.mem_singleton] at he
        subst he
        exact ⟨.inr (List.mem_map_of_mem Lw_l2), rfl⟩
      have hpl : ((l.drop i).take sz).length = e := by simp; omega
      refine w22 hP HR.out HW.out Hx.out HS.out HT1.out Hyb.out (l := (l.drop i).take sz) hpl e1 (by have := Hle.out; omega) (fun w hw j v hj => ?_) ?_ ?_ ?_ ?_
      · -- the piece lies in the data
        have hj' : (byt l)[i + j]? = some v := by
          have hj2 : j < sz := by
            have := (List.getElem?_eq_some_iff.1 hj).1
            simp [byt] at this
            omega
          simp only [byt, List.getElem?_map, List.getElem?_take, List.getElem?_drop, hj2, if_true] at hj ⊢
          exact hj
        have := (HD.out (by omega) d rfl).2 w hw (i + j) v hj'
        have ea : (d.add i).add j = d.add (i + j) := by
          obtain ⟨b0, o0, s0⟩ := d
          by_cases hi0 : i = 0
          · subst hi0; simp [Addr.add]
          · by_cases hj0 : j = 0
            · subst hj0; simp [Addr.add]
            · have h0 : ¬ (i + j = 0) := by omega
              simp [Addr.add, hi0, hj0, Nat.add_assoc]
        rw [ea]
        exact this
      · have := (HD.out (by omega) d rfl).1
        unfold Addr.add
        split <;> exact this
      · have := Hcs.out k (by rw [hi]; exact hlt)
        rw [hi, hpl] at this
        exact this
      · intro x' hx'
        rw [fr_finish (o := _) rfl]
        simp only [put]; walk_nrm
        have hb2 : IntKind.i64.wrap ((i : Int) + (sz : Int)) = (i : Int) + (sz : Int) := by
          rw [IntKind.wrap_i64]
          have h1 := Hle.out
          have h2 := Hszl.out
          have h3 : i = 0 ∨ sz ≤ i := by
            rcases Nat.eq_zero_or_pos k with h | h
            · exact .inl (by rw [← hi, h, Nat.zero_mul])
            · exact .inr (by rw [← hi]; exact Nat.le_mul_of_pos_left sz h)
          omega
        refine pw_vl hP (v := ?_) rfl rfl (by first | exact .inl rfl | exact .inr (fun c h => by cases h)) (fun w hw => ?_) (fun w hw => ?_) ?_
        rotate_left
        · unfold ev; go_simp; try exact rfl
        · unfold ev; simp [go_sem]
        simp only [put]; walk_nrm
        refine pw_q hP (fun w => s_region_end) rfl ?_
        refine pw_q hP (fun w => s_cond (b := false) rfl) rfl ?_
        simp only [if_true, if_false, Bool.false_eq_true, ↓reduceIte]
        refine pw_q hP (fun w => s_skip) rfl ?_
        refine pw_q hP (fun w => s_inBlock) rfl ?_
        refine pw_q hP (fun w => s_region) rfl ?_
        simp only [List.size_toArray, List.length_cons, List.length_nil, Nat.reduceAdd, Nat.zero_add, List.range, List.range.loop]
        refine pw_vl hP (v := ?_) rfl rfl (by first | exact .inl rfl | exact .inr (fun c h => by cases h)) (fun w hw => ?_) (fun w hw => ?_) ?_
        rotate_left
        · unfold ev; go_simp; try exact rfl
        · unfold ev; simp [go_sem]
        simp only [put]; walk_nrm
        refine pw_vl hP (v := ?_) rfl rfl (by first | exact .inl rfl | exact .inr (fun c h => by cases h)) (fun w hw => ?_) (fun w hw => ?_) ?_
        rotate_left
        · have f0 := FB.out _ _ _ w hw; unfold ev; go_simp; exact rfl
        · have f0 := FB.out _ _ _ w hw; unfold ev; simp [go_sem, f0]; exact ⟨.inl (RB.out _ _ _),rfl⟩
        simp only [put]; walk_nrm
        refine pw_vl hP (v := ?_) rfl rfl (by first | exact .inl rfl | exact .inr (fun c h => by cases h)) (fun w hw => ?_) (fun w hw => ?_) ?_
        rotate_left
        · unfold ev; go_simp; try exact rfl
        · unfold ev; simp [go_sem]
        simp only [put]; walk_nrm
        refine pw_vl hP (v := ?_) rfl rfl (by first | exact .inl rfl | exact .inr (fun c h => by cases h)) (fun w hw => ?_) (fun w hw => ?_) ?_
        rotate_left
        · unfold ev; go_simp; try exact rfl
        · unfold ev; simp [go_sem]
        simp only [put]; walk_nrm
        refine pw_q hP (fun w => s_region_end) rfl ?_
        refine pw_q hP (fun w => s_inLoop) rfl ?_
        have hL := hL0.out
        subst hL
        have hi' : (k + 1) * sz = i + sz := by rw [Nat.add_mul, hi]; omega
        have h5 := Ih.out (k + 1) (i + sz) hi' (by have h1 := HM.out; have h2 := Hsz.out; omega) (fun j hj => by
          rcases Nat.lt_succ_iff_lt_or_eq.1 hj with h | h
          · exact Hk.out j h
          · rw [h, hi]; exact hlt) x' hx'
        rw [show ((i + sz : Nat) : Int) = (i : Int) + (sz : Int) by omega] at h5
        exact h5 ..
      · intro x' hx'
        rw [fr_finish (o := _) rfl]
        simp only [put]; walk_nrm
        refine pw_vl hP (v := ?_) rfl rfl (by first | exact .inl rfl | exact .inr (fun c h => by cases h)) (fun w hw => ?_) (fun w hw => ?_) ?_
        rotate_left
        · unfold ev; go_simp; try exact rfl
        · unfold ev; simp [go_sem]
        simp only [put]; walk_nrm
        refine pw_q hP (fun w => s_region_end) rfl ?_
        refine pw_q hP (fun w => s_cond (b := true) rfl) rfl ?_
        simp only [if_true, if_false, Bool.false_eq_true, ↓reduceIte]
        refine pw_q hP (fun w => s_ret) rfl ?_
        exact pw_leave hP Try.func29 (fun w => res_none rfl w) (Hstop.out k x' hx')
  · have hd1 : decide (i < l.length) = false := by simp; omega
    rw [hd1]
    refine pw_q hP (fun w => s_cond (b := false) rfl) rfl ?_
    simp only [if_true, if_false, Bool.false_eq_true, ↓reduceIte]
    refine pw_q hP (fun w => s_exit rfl) rfl ?_
    refine pw_q hP (fun w => s_end) rfl ?_
    refine pw_leave hP Try.func29 (fun w => res_none rfl w) ?_
    have hkN := HN.out k (by rw [hi]; omega) Hk.out
    rw [hkN]
    exact Hend.out x Hx.out
end
end Go.Proofs.Ytcdhmnefmbcmaaa
