/-
  The worker: a round of Chunks' loop: a piece is copied and offered; no condition but what each law names.
-/
import Derived.Test.YtcdhmnefmbcmaaaJas
namespace Go.Proofs.Ytcdhmnefmbcmaaa
open Go Go.Conc Go.RowKit

/-- Chunks' temporaries at its loop -/
noncomputable def tm22 (y v1 v2 : Value) (yb : Nat) (v5 v6 v7 c : Value) : Array Value :=
  #[y, v1, v2, .pointer (some ⟨yb, 0, none⟩), undef, v5, v6, v7, c, undef, undef, undef, undef, undef]

section
variable {C : Cx} (hP : C.P = Try.prog) {k : Nat} {R : RF C.SR} (hR : R.Ok) {W : WB} (hW : W.Ok) {x : List (Nat × Obj)} (hx : ∀ p ∈ x, isCells p.2) {wg cb xb sb yb : Nat} (hS : Seen27 C R cb sb) {src v1 v2 v5 v6 v7 : Value}
  (hT1 : W.T1 = tm25 wg cb xb sb C.bc src undef) (hyb : (yb, .cells #[.func (.yield W.l1) #[] #[]] 53) ∈ W.bx) {c29 : Frame} {cs : List Frame}
 include hP hR hW hx hS hT1 hyb

set_option maxRecDepth 10000 in
theorem w22 {a : Addr} {n c : Nat} {l : List UInt8} (hl : l.length = n) (hn : 0 < n) (hle : n ≤ 1073741824) (hnews : ∀ w, R.R w → ∀ j v, (byt l)[j]? = some v → w.cell? (a.add j) = some v) (haS : C.SR a.block)
    (hcs : ∀ m cap, ¬ C.SR m → n ≤ cap → CapOk n 5 cap → C.Cs k (.slice (some ⟨m, 0, none⟩) n cap) m (.cells ((byt l).toArray ++ Array.replicate (cap - n) (.int .u8 0)) 5))
    (hgo : ∀ x', (∀ p ∈ x', isCells p.2) → PW C (.work false) (k + 1) (G (c29.finish (.bool true)) cs) (ow R (fun _ => False) (Lw W x' LS.ready LS.ready)))
    (hstop : ∀ x', (∀ p ∈ x', isCells p.2) → PW C (.work true) k (G (c29.finish (.bool false)) cs) (ow R (fun _ => False) (Lw W x' LS.left LS.left))) :
    PW C (.work false) k (G (fr 22 (tm22 (.func (.yield W.l1) #[] #[]) v1 v2 yb v5 v6 v7 (.slice (some a) n c)) [.code (rA Try.f22), .beginRound, .code (rB Try.f22)] [] (some W.l2)) (c29 :: cs)) (ow R (fun _ => False) (Lw W x LS.ready LS.ready)) := by
  have fy : ∀ {s1 s2 : LS} {y : List (Nat × Obj)} (w : World), (ow R (fun _ => False) (Lw W y s1 s2)).I w → w.cell? ⟨yb, 0, none⟩ = some (.func (.yield W.l1) #[] #[]) := fun w hw => by
    have h := hw.1 (yb, .cells #[.func (.yield W.l1) #[] #[]] 53) (Lw_bx hyb)
    unfold World.cell?
    rw [h]; rfl
  have ry : ∀ {s1 s2 : LS} {y : List (Nat × Obj)}, (ow R (fun _ => False) (Lw W y s1 s2)).O yb := fun {s1 s2 y} => .inr (List.mem_map_of_mem (Lw_bx hyb))
  simp only [tm22]
  have ea : rA Try.f22 = rA Try.f22 := rfl
  conv at ea => lhs; simp only [rA, bodyOf, rangeOf, Try.f22, Option.getD_some, Option.or, Option.map_some]
  have eb : rB Try.f22 = rB Try.f22 := rfl
  conv at eb => lhs; simp only [rB, bodyOf, rangeOf, Try.f22, Option.getD_some, Option.or, Option.map_some]
  rw [← ea, ← eb]
  clear ea eb
  refine pw_q hP (fun w => s_region) rfl ?_
  simp only [List.size_toArray, List.length_cons, List.length_nil, Nat.reduceAdd, Nat.zero_add, List.range, List.range.loop]
  refine pw_vl hP (v := ?_) rfl rfl (by first | exact .inl rfl | exact .inr (fun c h => by cases h)) (fun w hw => ?_) (fun w hw => ?_) ?_
  rotate_left
  · unfold ev; go_simp; try exact rfl
  · unfold ev; simp [go_sem]
  simp only [put]; walk_nrm
  refine pw_q hP (fun w => s_region_end) rfl ?_
  refine pw_l2 (fn := 22) (s2 := LS.ready) (s2' := LS.busy) hP hR hW hx (fun w h => s_begin h rfl) rfl ?_
  refine pw_q hP (fun w => s_block) rfl ?_
  refine pw_q hP (fun w => s_seq) rfl ?_
  have hz : ∀ w, (ow R (fun _ => False) (Lw W x LS.ready LS.busy)).I w → ∀ y ∈ (Lw W x LS.ready LS.busy).map Prod.fst, y < w.heap.size := fun w hw y hy => by
    obtain ⟨p, hp, rfl⟩ := List.mem_map.1 hy
    exact (Array.getElem?_eq_some_iff.1 (hw.1 p hp)).1
  apply share3 (fun m0 m cap => n ≤ cap ∧ (CapOk n 5 cap ∧ ¬ C.SR m) ∧ m0 < m ∧ ∀ y ∈ (Lw W x LS.ready LS.busy).map Prod.fst, y < m0)
  · intro fin
    refine pw_draw [[0, 1, 2, 3, 4], [1, 0, 2, 3, 4], [1, 2, 0, 3, 4]] (by kernel_rfl) (by kernel_rfl) fun l hl => ?_
    simp only [List.mem_cons, List.not_mem_nil, or_false] at hl
    rcases hl with rfl | rfl | rfl
    · skip
      refine pw_vl hP (v := ?_) rfl rfl (by first | exact .inl rfl | exact .inr (fun c h => by cases h)) (fun w hw => ?_) (fun w hw => ?_) ?_
      rotate_left
      · have f0 := fy w hw; unfold ev; go_simp; exact rfl
      · have f0 := fy w hw; unfold ev; simp [go_sem, f0]; exact ⟨.inl ry,rfl⟩
      simp only [put]; walk_nrm
      refine pw_vl hP (v := ?_) rfl rfl (by first | exact .inl rfl | exact .inr (fun c h => by cases h)) (fun w hw => ?_) (fun w hw => ?_) ?_
      rotate_left
      · unfold ev; go_simp; try exact rfl
      · unfold ev; simp [go_sem]
      simp only [put]; walk_nrm
      refine pw_enter hP (f := 21) (args := #[.slice (some a) n c]) rfl rfl (.inr (fun c h => by cases h)) (fun w hw => ?_) (fun w hw => ?_) ?_
      · rw [exec_call (op := _) (f := 21) (vs := #[.slice (some a) n c]) rfl (by simp only [List.map_toArray, List.map_cons, List.map_nil]; rfl)]; rfl
      · rw [exec_call (op := _) (f := 21) (vs := #[.slice (some a) n c]) rfl (by simp only [List.map_toArray, List.map_cons, List.map_nil]; rfl), ev_clone]; intro e he; simp at he
      refine w21 hP hl hn hle hnews haS fun m0 m cap h1 h2 ⟨w0, hw0, e0⟩ h4 => ?_
      rw [fr_finish (o := _) rfl, ow_perm Lw_more]
      simp only [put]; walk_nrm
      exact fin m0 m cap ⟨h1, ⟨h2, fun hs => by have := R.lt w0 hw0.2 m hs; omega⟩, h4, fun y hy => by rw [← e0]; exact hz w0 hw0 y hy⟩
    · skip
      refine pw_vl hP (v := ?_) rfl rfl (by first | exact .inl rfl | exact .inr (fun c h => by cases h)) (fun w hw => ?_) (fun w hw => ?_) ?_
      rotate_left
      · unfold ev; go_simp; try exact rfl
      · unfold ev; simp [go_sem]
      simp only [put]; walk_nrm
      refine pw_vl hP (v := ?_) rfl rfl (by first | exact .inl rfl | exact .inr (fun c h => by cases h)) (fun w hw => ?_) (fun w hw => ?_) ?_
      rotate_left
      · have f0 := fy w hw; unfold ev; go_simp; exact rfl
      · have f0 := fy w hw; unfold ev; simp [go_sem, f0]; exact ⟨.inl ry,rfl⟩
      simp only [put]; walk_nrm
      refine pw_enter hP (f := 21) (args := #[.slice (some a) n c]) rfl rfl (.inr (fun c h => by cases h)) (fun w hw => ?_) (fun w hw => ?_) ?_
      · rw [exec_call (op := _) (f := 21) (vs := #[.slice (some a) n c]) rfl (by simp only [List.map_toArray, List.map_cons, List.map_nil]; rfl)]; rfl
      · rw [exec_call (op := _) (f := 21) (vs := #[.slice (some a) n c]) rfl (by simp only [List.map_toArray, List.map_cons, List.map_nil]; rfl), ev_clone]; intro e he; simp at he
      refine w21 hP hl hn hle hnews haS fun m0 m cap h1 h2 ⟨w0, hw0, e0⟩ h4 => ?_
      rw [fr_finish (o := _) rfl, ow_perm Lw_more]
      simp only [put]; walk_nrm
      exact fin m0 m cap ⟨h1, ⟨h2, fun hs => by have := R.lt w0 hw0.2 m hs; omega⟩, h4, fun y hy => by rw [← e0]; exact hz w0 hw0 y hy⟩
    · skip
      refine pw_vl hP (v := ?_) rfl rfl (by first | exact .inl rfl | exact .inr (fun c h => by cases h)) (fun w hw => ?_) (fun w hw => ?_) ?_
      rotate_left
      · unfold ev; go_simp; try exact rfl
      · unfold ev; simp [go_sem]
      simp only [put]; walk_nrm
      refine pw_enter hP (f := 21) (args := #[.slice (some a) n c]) rfl rfl (.inr (fun c h => by cases h)) (fun w hw => ?_) (fun w hw => ?_) ?_
      · rw [exec_call (op := _) (f := 21) (vs := #[.slice (some a) n c]) rfl (by simp only [List.map_toArray, List.map_cons, List.map_nil]; rfl)]; rfl
      · rw [exec_call (op := _) (f := 21) (vs := #[.slice (some a) n c]) rfl (by simp only [List.map_toArray, List.map_cons, List.map_nil]; rfl), ev_clone]; intro e he; simp at he
      refine w21 hP hl hn hle hnews haS fun m0 m cap h1 h2 ⟨w0, hw0, e0⟩ h4 => ?_
      rw [fr_finish (o := _) rfl, ow_perm Lw_more]
      simp only [put]; walk_nrm
      refine pw_vl hP (v := ?_) rfl rfl (by first | exact .inl rfl | exact .inr (fun c h => by cases h)) (fun w hw => ?_) (fun w hw => ?_) ?_
      rotate_left
      · have f0 := fy w hw; unfold ev; go_simp; exact rfl
      · have f0 := fy w hw; unfold ev; simp [go_sem, f0]; exact ⟨.inl ry,rfl⟩
      simp only [put]; walk_nrm
      exact fin m0 m cap ⟨h1, ⟨h2, fun hs => by have := R.lt w0 hw0.2 m hs; omega⟩, h4, fun y hy => by rw [← e0]; exact hz w0 hw0 y hy⟩
  · rintro m0 m cap ⟨h1, h2, h3, h4⟩
    have hx1 : ∀ p ∈ (m0, Obj.cells #[] 5) :: x, isCells p.2 := fun p hp => by rcases List.mem_cons.1 hp with rfl | hp <;> first | exact ⟨_, _, _, rfl⟩ | exact hx p hp
    have hx2 : ∀ p ∈ (m, Obj.cells ((byt l).toArray ++ Array.replicate (cap - n) (.int .u8 0)) 5) :: (m0, Obj.cells #[] 5) :: x, isCells p.2 := fun p hp => by rcases List.mem_cons.1 hp with rfl | hp <;> first | exact ⟨_, _, _, rfl⟩ | exact hx1 p hp
    refine pw_round hP (l := W.l1) (f := 25) (tm := tm25 wg cb xb sb C.bc src (.slice (some ⟨m, 0, none⟩) n cap)) (a := rA Try.f25) (b := rB Try.f25) rfl rfl (.inr (fun c h => by cases h)) (fun w hw => ?_) (fun w hw => ?_) ?_
    · have hl : w.heap[W.l1]? = some (lp 25 Try.f25 W.T1 W.d1 LS.ready) := hw.1 (W.l1, lp 25 Try.f25 W.T1 W.d1 LS.ready) Lw_l1
      obtain ⟨h1, _⟩ := t_yield (P := Try.prog) (l := W.l1) (v := .slice (some ⟨m, 0, none⟩) n cap) hl rP_copy1
      rw [exec_yield (op := _) (v := .slice (some ⟨m, 0, none⟩) n cap) (f := .tmp 9) (x := .tmp 11) rfl rfl rfl, h1]
      simp only [hT1]
      rfl
    · have hl : w.heap[W.l1]? = some (lp 25 Try.f25 W.T1 W.d1 LS.ready) := hw.1 (W.l1, lp 25 Try.f25 W.T1 W.d1 LS.ready) Lw_l1
      obtain ⟨h1, h2⟩ := t_yield (P := Try.prog) (l := W.l1) (v := .slice (some ⟨m, 0, none⟩) n cap) hl rP_copy1
      rw [exec_yield (op := _) (v := .slice (some ⟨m, 0, none⟩) n cap) (f := .tmp 9) (x := .tmp 11) rfl rfl rfl, h2]
      intro e he
      simp only [List.mem_toArray, List.mem_singleton] at he
      subst he
      exact ⟨.inr (List.mem_map_of_mem Lw_l1), rfl⟩
    refine w25 hP hR hW hx1 hS ⟨_, _, _, rfl⟩ (hcs m cap h2.2 h1 h2.1) ?_ ?_ ?_
    · refine ⟨fun hm => ?_, fun h => h⟩
      have : m ∈ (Lw W x LS.ready LS.busy).map Prod.fst ∨ m = m0 := by
        simp only [Lw, List.map_cons, List.map_append, List.mem_cons, List.mem_append] at hm ⊢
        rcases hm with h | h | h | h | h | h | h <;> simp [h]
      rcases this with h | h
      · have := h4 m h; omega
      · omega
    · rw [fr_finish (o := _) rfl]
      simp only [put]; walk_nrm
      refine pw_vl hP (v := ?_) rfl rfl (by first | exact .inl rfl | exact .inr (fun c h => by cases h)) (fun w hw => ?_) (fun w hw => ?_) ?_
      rotate_left
      · unfold ev; go_simp; try exact rfl
      · unfold ev; simp [go_sem]
      simp only [put]; walk_nrm
      refine pw_q hP (fun w => s_region_end) rfl ?_
      refine pw_q hP (fun w => s_cond (b := false) rfl) rfl ?_
      simp only [if_true, if_false, Bool.false_eq_true, ↓reduceIte]
      refine pw_q hP (fun w => s_skip) rfl ?_
      refine pw_q hP (fun w => s_inBlock) rfl ?_
      exact pw_l2 (fn := 22) (s2 := LS.busy) (s2' := LS.ready) hP hR hW hx1 (fun w h => s_endR (.inl ⟨rfl, rfl⟩) h) rfl (hgo _ hx1)
    · rw [fr_finish (o := _) rfl]
      simp only [put]; walk_nrm
      refine pw_vl hP (v := ?_) rfl rfl (by first | exact .inl rfl | exact .inr (fun c h => by cases h)) (fun w hw => ?_) (fun w hw => ?_) ?_
      rotate_left
      · unfold ev; go_simp; try exact rfl
      · unfold ev; simp [go_sem]
      simp only [put]; walk_nrm
      refine pw_q hP (fun w => s_region_end) rfl ?_
      refine pw_q hP (fun w => s_cond (b := true) rfl) rfl ?_
      simp only [if_true, if_false, Bool.false_eq_true, ↓reduceIte]
      exact pw_l2 (fn := 22) (s2 := LS.busy) (s2' := LS.left) hP hR hW hx2 (fun w h => s_endR (.inr ⟨_, rfl, rfl⟩) h) rfl (hstop _ hx2)
end
end Go.Proofs.Ytcdhmnefmbcmaaa
