/-
  Layer 17: the example of the document.
-/
import Derived.Test.YtelmnmepdmfihaaGrQ
import Derived.Test.YtelmnmepdmfihaaGrT
import Derived.Test.YtelmnmepdmfihaaGrW
import Derived.Test.YtelmnmepdmfihaaLkU
namespace Go.Proofs.Ytelmnmepdmfihaa
open Go.RowKit

theorem share5 {C : Prop} {G : Nat → Nat → Nat → Nat → World → Prop} {F : Nat → Nat → Nat → Nat → World → Prop} (h : (∀ a b c d W, F a b c d W → G a b c d W) → C) (g : ∀ a b c d W, F a b c d W → G a b c d W) : C := h g
def Four (w : World) (a b c d : Nat) (W : World) : Prop := a ≠ b ∧ a ≠ c ∧ a ≠ d ∧ b ≠ c ∧ b ≠ d ∧ c ≠ d ∧ Blk W a 55 #[.bool true, .int .i64 0, .int .i64 0, .int .i64 (-1), .int .i64 (-1), .int .i64 (-1), .int .i64 (-1)] ∧ Blk W b 55 #[.bool true, .int .i64 0, .int .i64 0, .int .i64 (-1), .int .i64 (-1), .int .i64 (-1), .int .i64 (-1)] ∧ Blk W c 55 #[.bool true, .int .i64 0, .int .i64 0, .int .i64 (-1), .int .i64 (-1), .int .i64 (-1), .int .i64 (-1)] ∧ Blk W d 55 #[.bool true, .int .i64 0, .int .i64 0, .int .i64 (-1), .int .i64 (-1), .int .i64 (-1), .int .i64 (-1)] ∧ Chg [] w W ∧ w.heap.size ≤ a ∧ w.heap.size ≤ b ∧ w.heap.size ≤ c ∧ w.heap.size ≤ d

set_option maxRecDepth 100000 in
set_option maxHeartbeats 6400000 in
theorem gspeaks_any (w : World) : Calls Try.prog 10 #[] w fun e w' => e = .returned (.bool true) ∧ Chg [] w w' := by
  go_enter Try.func10, Try.ntmps10
  go_wp2_with fail
  have hb := Blk.new w 55 #[.bool true, .int .i64 0, .int .i64 0, .int .i64 (-1), .int .i64 (-1), .int .i64 (-1), .int .i64 (-1)]
  have hc := (Chg.refl [] w).alloc (.cells #[.bool true, .int .i64 0, .int .i64 0, .int .i64 (-1), .int .i64 (-1), .int .i64 (-1), .int .i64 (-1)] 55)
  obtain ⟨W, hW⟩ : ∃ W, W = w.alloc (.cells #[.bool true, .int .i64 0, .int .i64 0, .int .i64 (-1), .int .i64 (-1), .int .i64 (-1), .int .i64 (-1)] 55) := ⟨_, rfl⟩
  rw [← hW] at hb hc ⊢
  have hws : w.heap.size < W.heap.size := hb.lt
  clear hW
  have z0 := hb.cell 0
  have z1 := hb.cell 1
  have z2 := hb.cell 2
  have z3 := hb.cell 3
  have z4 := hb.cell 4
  have z5 := hb.cell 5
  have z6 := hb.cell 6
  simp at z0 z1 z2 z3 z4 z5 z6
  have HC := Lib.hid hc
  clear hb hc
  have FR : ∀ a b c d : Nat, (a ≠ b ∧ a ≠ c ∧ a ≠ d ∧ b ≠ c ∧ b ≠ d ∧ c ≠ d) → (W.heap.size ≤ a ∧ a < W.heap.size + 4) → (W.heap.size ≤ b ∧ b < W.heap.size + 4) → (W.heap.size ≤ c ∧ c < W.heap.size + 4) → (W.heap.size ≤ d ∧ d < W.heap.size + 4) → Four w a b c d (((((W.alloc (.cells #[.bool true, .int .i64 0, .int .i64 0, .int .i64 (-1), .int .i64 (-1), .int .i64 (-1), .int .i64 (-1)] 55)).alloc (.cells #[.bool true, .int .i64 0, .int .i64 0, .int .i64 (-1), .int .i64 (-1), .int .i64 (-1), .int .i64 (-1)] 55)).alloc (.cells #[.bool true, .int .i64 0, .int .i64 0, .int .i64 (-1), .int .i64 (-1), .int .i64 (-1), .int .i64 (-1)] 55)).alloc (.cells #[.bool true, .int .i64 0, .int .i64 0, .int .i64 (-1), .int .i64 (-1), .int .i64 (-1), .int .i64 (-1)] 55)).drew) := by
    intro a b c d hne ha hb hc hd
    have key : ∀ x, W.heap.size ≤ x ∧ x < W.heap.size + 4 → Blk (((((W.alloc (.cells #[.bool true, .int .i64 0, .int .i64 0, .int .i64 (-1), .int .i64 (-1), .int .i64 (-1), .int .i64 (-1)] 55)).alloc (.cells #[.bool true, .int .i64 0, .int .i64 0, .int .i64 (-1), .int .i64 (-1), .int .i64 (-1), .int .i64 (-1)] 55)).alloc (.cells #[.bool true, .int .i64 0, .int .i64 0, .int .i64 (-1), .int .i64 (-1), .int .i64 (-1), .int .i64 (-1)] 55)).alloc (.cells #[.bool true, .int .i64 0, .int .i64 0, .int .i64 (-1), .int .i64 (-1), .int .i64 (-1), .int .i64 (-1)] 55)).drew) x 55 #[.bool true, .int .i64 0, .int .i64 0, .int .i64 (-1), .int .i64 (-1), .int .i64 (-1), .int .i64 (-1)] := by
      intro x hx
      rcases (by omega : x = W.heap.size ∨ x = W.heap.size + 1 ∨ x = W.heap.size + 2 ∨ x = W.heap.size + 3) with rfl | rfl | rfl | rfl
      · exact (((Blk.new W 55 #[.bool true, .int .i64 0, .int .i64 0, .int .i64 (-1), .int .i64 (-1), .int .i64 (-1), .int .i64 (-1)]).alloc _).alloc _).alloc _
      · have q := (((Blk.new (W.alloc (.cells #[.bool true, .int .i64 0, .int .i64 0, .int .i64 (-1), .int .i64 (-1), .int .i64 (-1), .int .i64 (-1)] 55)) 55 #[.bool true, .int .i64 0, .int .i64 0, .int .i64 (-1), .int .i64 (-1), .int .i64 (-1), .int .i64 (-1)]).alloc (.cells #[.bool true, .int .i64 0, .int .i64 0, .int .i64 (-1), .int .i64 (-1), .int .i64 (-1), .int .i64 (-1)] 55)).alloc (.cells #[.bool true, .int .i64 0, .int .i64 0, .int .i64 (-1), .int .i64 (-1), .int .i64 (-1), .int .i64 (-1)] 55)); rw [show (W.alloc (.cells #[.bool true, .int .i64 0, .int .i64 0, .int .i64 (-1), .int .i64 (-1), .int .i64 (-1), .int .i64 (-1)] 55)).heap.size = W.heap.size + 1 by simp] at q; exact q
      · have q := ((Blk.new ((W.alloc (.cells #[.bool true, .int .i64 0, .int .i64 0, .int .i64 (-1), .int .i64 (-1), .int .i64 (-1), .int .i64 (-1)] 55)).alloc (.cells #[.bool true, .int .i64 0, .int .i64 0, .int .i64 (-1), .int .i64 (-1), .int .i64 (-1), .int .i64 (-1)] 55)) 55 #[.bool true, .int .i64 0, .int .i64 0, .int .i64 (-1), .int .i64 (-1), .int .i64 (-1), .int .i64 (-1)]).alloc (.cells #[.bool true, .int .i64 0, .int .i64 0, .int .i64 (-1), .int .i64 (-1), .int .i64 (-1), .int .i64 (-1)] 55)); rw [show ((W.alloc (.cells #[.bool true, .int .i64 0, .int .i64 0, .int .i64 (-1), .int .i64 (-1), .int .i64 (-1), .int .i64 (-1)] 55)).alloc (.cells #[.bool true, .int .i64 0, .int .i64 0, .int .i64 (-1), .int .i64 (-1), .int .i64 (-1), .int .i64 (-1)] 55)).heap.size = W.heap.size + 2 by simp] at q; exact q
      · have q := (Blk.new (((W.alloc (.cells #[.bool true, .int .i64 0, .int .i64 0, .int .i64 (-1), .int .i64 (-1), .int .i64 (-1), .int .i64 (-1)] 55)).alloc (.cells #[.bool true, .int .i64 0, .int .i64 0, .int .i64 (-1), .int .i64 (-1), .int .i64 (-1), .int .i64 (-1)] 55)).alloc (.cells #[.bool true, .int .i64 0, .int .i64 0, .int .i64 (-1), .int .i64 (-1), .int .i64 (-1), .int .i64 (-1)] 55)) 55 #[.bool true, .int .i64 0, .int .i64 0, .int .i64 (-1), .int .i64 (-1), .int .i64 (-1), .int .i64 (-1)]); rw [show (((W.alloc (.cells #[.bool true, .int .i64 0, .int .i64 0, .int .i64 (-1), .int .i64 (-1), .int .i64 (-1), .int .i64 (-1)] 55)).alloc (.cells #[.bool true, .int .i64 0, .int .i64 0, .int .i64 (-1), .int .i64 (-1), .int .i64 (-1), .int .i64 (-1)] 55)).alloc (.cells #[.bool true, .int .i64 0, .int .i64 0, .int .i64 (-1), .int .i64 (-1), .int .i64 (-1), .int .i64 (-1)] 55)).heap.size = W.heap.size + 3 by simp] at q; exact q
    obtain ⟨h1, h2, h3, h4, h5, h6⟩ := hne
    exact ⟨h1, h2, h3, h4, h5, h6, key a ha, key b hb, key c hc, key d hd, ((((HC.out.alloc _).alloc _).alloc _).alloc _).drew, by omega, by omega, by omega, by omega⟩
  refine wp_region_held_drew (S := fun w' => Chg [] W w') (by kernel_rfl) ((Chg.refl _ _).drew) (fun hHeld => ?_)
  refine wpAnyH_take (i := 0) (v := ?_) rfl (by kernel_rfl) (by kernel_rfl) (by kernel_rfl) (fun _ _ _ h => h) (Or.inl ⟨by rfl, ?_⟩) (by assumption) ?_
  rotate_left
  · (intro w' hSw; have q0 := hSw.cell z0 (fun h => List.not_mem_nil h); have q1 := hSw.cell z1 (fun h => List.not_mem_nil h); have q2 := hSw.cell z2 (fun h => List.not_mem_nil h); have q3 := hSw.cell z3 (fun h => List.not_mem_nil h); have q4 := hSw.cell z4 (fun h => List.not_mem_nil h); have q5 := hSw.cell z5 (fun h => List.not_mem_nil h); have q6 := hSw.cell z6 (fun h => List.not_mem_nil h); go_simp; try with_reducible rfl)
  try simp only [Act.put, List.getElem_toArray, List.getElem_cons_zero, List.setIfInBounds_toArray, List.set_cons_zero, List.set_cons_succ]
  refine wpAnyH_take (i := 1) (v := ?_) rfl (by kernel_rfl) (by kernel_rfl) (by kernel_rfl) (fun _ _ _ h => h) (Or.inl ⟨by rfl, ?_⟩) (by assumption) ?_
  rotate_left
  · (intro w' hSw; have q0 := hSw.cell z0 (fun h => List.not_mem_nil h); have q1 := hSw.cell z1 (fun h => List.not_mem_nil h); have q2 := hSw.cell z2 (fun h => List.not_mem_nil h); have q3 := hSw.cell z3 (fun h => List.not_mem_nil h); have q4 := hSw.cell z4 (fun h => List.not_mem_nil h); have q5 := hSw.cell z5 (fun h => List.not_mem_nil h); have q6 := hSw.cell z6 (fun h => List.not_mem_nil h); go_simp; try with_reducible rfl)
  try simp only [Act.put, List.getElem_toArray, List.getElem_cons_zero, List.getElem_cons_succ, List.setIfInBounds_toArray, List.set_cons_zero, List.set_cons_succ]
  refine wpAnyH_take (i := 2) (v := ?_) rfl (by kernel_rfl) (by kernel_rfl) (by kernel_rfl) (fun _ _ _ h => h) (Or.inl ⟨by rfl, ?_⟩) (by assumption) ?_
  rotate_left
  · (intro w' hSw; have q0 := hSw.cell z0 (fun h => List.not_mem_nil h); have q1 := hSw.cell z1 (fun h => List.not_mem_nil h); have q2 := hSw.cell z2 (fun h => List.not_mem_nil h); have q3 := hSw.cell z3 (fun h => List.not_mem_nil h); have q4 := hSw.cell z4 (fun h => List.not_mem_nil h); have q5 := hSw.cell z5 (fun h => List.not_mem_nil h); have q6 := hSw.cell z6 (fun h => List.not_mem_nil h); go_simp; try with_reducible rfl)
  try simp only [Act.put, List.getElem_toArray, List.getElem_cons_zero, List.getElem_cons_succ, List.setIfInBounds_toArray, List.set_cons_zero, List.set_cons_succ]
  refine wpAnyH_take (i := 3) (v := ?_) rfl (by kernel_rfl) (by kernel_rfl) (by kernel_rfl) (fun _ _ _ h => h) (Or.inl ⟨by rfl, ?_⟩) (by assumption) ?_
  rotate_left
  · (intro w' hSw; have q0 := hSw.cell z0 (fun h => List.not_mem_nil h); have q1 := hSw.cell z1 (fun h => List.not_mem_nil h); have q2 := hSw.cell z2 (fun h => List.not_mem_nil h); have q3 := hSw.cell z3 (fun h => List.not_mem_nil h); have q4 := hSw.cell z4 (fun h => List.not_mem_nil h); have q5 := hSw.cell z5 (fun h => List.not_mem_nil h); have q6 := hSw.cell z6 (fun h => List.not_mem_nil h); go_simp; try with_reducible rfl)
  try simp only [Act.put, List.getElem_toArray, List.getElem_cons_zero, List.getElem_cons_succ, List.setIfInBounds_toArray, List.set_cons_zero, List.set_cons_succ]
  apply share5 (F := Four w)
  · intro fin
    refine wpAnyH_ready (rs := [4, 5, 6, 7]) (by kernel_rfl) (by simp) ?_
    refine AllReadyH.cons rfl (fun K hK => ?_) (AllReadyH.cons rfl (fun K hK => ?_) (AllReadyH.cons rfl (fun K hK => ?_) (AllReadyH.cons rfl (fun K hK => ?_) (AllReadyH.nil))))
    · go_simp
      refine hK.out _ _ (hHeld.alloc _) (fun hHeld => ?_)
      try simp only [Act.put, List.getElem_toArray, List.getElem_cons_zero, List.getElem_cons_succ, List.setIfInBounds_toArray, List.set_cons_zero, List.set_cons_succ]
      clear hK K
      refine wpAnyH_ready (rs := [5, 6, 7]) (by kernel_rfl) (by simp) ?_
      refine AllReadyH.cons rfl (fun K hK => ?_) (AllReadyH.cons rfl (fun K hK => ?_) (AllReadyH.cons rfl (fun K hK => ?_) (AllReadyH.nil)))
      · go_simp
        refine hK.out _ _ (hHeld.alloc _) (fun hHeld => ?_)
        try simp only [Act.put, List.getElem_toArray, List.getElem_cons_zero, List.getElem_cons_succ, List.setIfInBounds_toArray, List.set_cons_zero, List.set_cons_succ]
        clear hK K
        refine wpAnyH_ready (rs := [6, 7]) (by kernel_rfl) (by simp) ?_
        refine AllReadyH.cons rfl (fun K hK => ?_) (AllReadyH.cons rfl (fun K hK => ?_) (AllReadyH.nil))
        · go_simp
          refine hK.out _ _ (hHeld.alloc _) (fun hHeld => ?_)
          try simp only [Act.put, List.getElem_toArray, List.getElem_cons_zero, List.getElem_cons_succ, List.setIfInBounds_toArray, List.set_cons_zero, List.set_cons_succ]
          clear hK K
          refine wpAnyH_ready (rs := [7]) (by kernel_rfl) (by simp) ?_
          refine AllReadyH.cons rfl (fun K hK => ?_) (AllReadyH.nil)
          go_simp
          refine hK.out _ _ (hHeld.alloc _) (fun hHeld => ?_)
          try simp only [Act.put, List.getElem_toArray, List.getElem_cons_zero, List.getElem_cons_succ, List.setIfInBounds_toArray, List.set_cons_zero, List.set_cons_succ]
          clear hK K
          refine wpAnyH_ready (rs := [8]) (by kernel_rfl) (by simp) ?_
          refine AllReadyH.cons rfl (fun K hK => ?_) (AllReadyH.nil)
          go_simp
          refine hK.out _ _ (Chg.drew ((((Chg.refl [] W).alloc _).alloc _).alloc _ |>.alloc _)) (fun hHeld => ?_)
          try simp only [Act.put, List.getElem_toArray, List.getElem_cons_zero, List.getElem_cons_succ, List.setIfInBounds_toArray, List.set_cons_zero, List.set_cons_succ]
          clear hK K
          refine wpAnyH_ready (rs := [9]) (by kernel_rfl) (by simp) ?_
          refine AllReadyH.cons rfl (fun K hK => ?_) (AllReadyH.nil)
          go_simp
          refine hK.out _ _ (Chg.drew ((((Chg.refl [] W).alloc _).alloc _).alloc _ |>.alloc _)) (fun hHeld => ?_)
          try simp only [Act.put, List.getElem_toArray, List.getElem_cons_zero, List.getElem_cons_succ, List.setIfInBounds_toArray, List.set_cons_zero, List.set_cons_succ]
          clear hK K
          refine wpAnyH_ready (rs := [10]) (by kernel_rfl) (by simp) ?_
          refine AllReadyH.cons rfl (fun K hK => ?_) (AllReadyH.nil)
          go_simp
          refine hK.out _ _ (Chg.drew ((((Chg.refl [] W).alloc _).alloc _).alloc _ |>.alloc _)) (fun hHeld => ?_)
          try simp only [Act.put, List.getElem_toArray, List.getElem_cons_zero, List.getElem_cons_succ, List.setIfInBounds_toArray, List.set_cons_zero, List.set_cons_succ]
          clear hK K
          refine wpAnyH_ready (rs := [11]) (by kernel_rfl) (by simp) ?_
          refine AllReadyH.cons rfl (fun K hK => ?_) (AllReadyH.nil)
          go_simp
          refine hK.out _ _ (Chg.drew ((((Chg.refl [] W).alloc _).alloc _).alloc _ |>.alloc _)) (fun hHeld => ?_)
          try simp only [Act.put, List.getElem_toArray, List.getElem_cons_zero, List.getElem_cons_succ, List.setIfInBounds_toArray, List.set_cons_zero, List.set_cons_succ]
          clear hK K
          refine wpAnyH_done (by kernel_rfl) ?_ _
          try simp only [Act.put, List.getElem_toArray, List.getElem_cons_zero, List.getElem_cons_succ, List.setIfInBounds_toArray, List.set_cons_zero, List.set_cons_succ]
          have fr := FR W.heap.size (W.heap.size + 1) (W.heap.size + 1 + 1) (W.heap.size + 1 + 1 + 1) (by omega) (by omega) (by omega) (by omega) (by omega)
          generalize (((((W.alloc (.cells #[.bool true, .int .i64 0, .int .i64 0, .int .i64 (-1), .int .i64 (-1), .int .i64 (-1), .int .i64 (-1)] 55)).alloc (.cells #[.bool true, .int .i64 0, .int .i64 0, .int .i64 (-1), .int .i64 (-1), .int .i64 (-1), .int .i64 (-1)] 55)).alloc (.cells #[.bool true, .int .i64 0, .int .i64 0, .int .i64 (-1), .int .i64 (-1), .int .i64 (-1), .int .i64 (-1)] 55)).alloc (.cells #[.bool true, .int .i64 0, .int .i64 0, .int .i64 (-1), .int .i64 (-1), .int .i64 (-1), .int .i64 (-1)] 55)).drew) = W5 at fr ⊢
          generalize W.heap.size + 1 + 1 + 1 = d at fr ⊢
          generalize W.heap.size + 1 + 1 = c at fr ⊢
          generalize W.heap.size + 1 = b at fr ⊢
          generalize W.heap.size = a at fr ⊢
          exact fin a b c d W5 fr
        · go_simp
          refine hK.out _ _ (hHeld.alloc _) (fun hHeld => ?_)
          try simp only [Act.put, List.getElem_toArray, List.getElem_cons_zero, List.getElem_cons_succ, List.setIfInBounds_toArray, List.set_cons_zero, List.set_cons_succ]
          clear hK K
          refine wpAnyH_ready (rs := [6]) (by kernel_rfl) (by simp) ?_
          refine AllReadyH.cons rfl (fun K hK => ?_) (AllReadyH.nil)
          go_simp
          refine hK.out _ _ (hHeld.alloc _) (fun hHeld => ?_)
          try simp only [Act.put, List.getElem_toArray, List.getElem_cons_zero, List.getElem_cons_succ, List.setIfInBounds_toArray, List.set_cons_zero, List.set_cons_succ]
          clear hK K
          refine wpAnyH_ready (rs := [8]) (by kernel_rfl) (by simp) ?_
          refine AllReadyH.cons rfl (fun K hK => ?_) (AllReadyH.nil)
          go_simp
          refine hK.out _ _ (Chg.drew ((((Chg.refl [] W).alloc _).alloc _).alloc _ |>.alloc _)) (fun hHeld => ?_)
          try simp only [Act.put, List.getElem_toArray, List.getElem_cons_zero, List.getElem_cons_succ, List.setIfInBounds_toArray, List.set_cons_zero, List.set_cons_succ]
          clear hK K
          refine wpAnyH_ready (rs := [9]) (by kernel_rfl) (by simp) ?_
          refine AllReadyH.cons rfl (fun K hK => ?_) (AllReadyH.nil)
          go_simp
          refine hK.out _ _ (Chg.drew ((((Chg.refl [] W).alloc _).alloc _).alloc _ |>.alloc _)) (fun hHeld => ?_)
          try simp only [Act.put, List.getElem_toArray, List.getElem_cons_zero, List.getElem_cons_succ, List.setIfInBounds_toArray, List.set_cons_zero, List.set_cons_succ]
          clear hK K
          refine wpAnyH_ready (rs := [10]) (by kernel_rfl) (by simp) ?_
          refine AllReadyH.cons rfl (fun K hK => ?_) (AllReadyH.nil)
          go_simp
          refine hK.out _ _ (Chg.drew ((((Chg.refl [] W).alloc _).alloc _).alloc _ |>.alloc _)) (fun hHeld => ?_)
          try simp only [Act.put, List.getElem_toArray, List.getElem_cons_zero, List.getElem_cons_succ, List.setIfInBounds_toArray, List.set_cons_zero, List.set_cons_succ]
          clear hK K
          refine wpAnyH_ready (rs := [11]) (by kernel_rfl) (by simp) ?_
          refine AllReadyH.cons rfl (fun K hK => ?_) (AllReadyH.nil)
          go_simp
          refine hK.out _ _ (Chg.drew ((((Chg.refl [] W).alloc _).alloc _).alloc _ |>.alloc _)) (fun hHeld => ?_)
          try simp only [Act.put, List.getElem_toArray, List.getElem_cons_zero, List.getElem_cons_succ, List.setIfInBounds_toArray, List.set_cons_zero, List.set_cons_succ]
          clear hK K
          refine wpAnyH_done (by kernel_rfl) ?_ _
          try simp only [Act.put, List.getElem_toArray, List.getElem_cons_zero, List.getElem_cons_succ, List.setIfInBounds_toArray, List.set_cons_zero, List.set_cons_succ]
          refine fin _ _ _ _ _ (FR _ _ _ _ ?_ ?_ ?_ ?_ ?_) <;> omega
      · go_simp
        refine hK.out _ _ (hHeld.alloc _) (fun hHeld => ?_)
        try simp only [Act.put, List.getElem_toArray, List.getElem_cons_zero, List.getElem_cons_succ, List.setIfInBounds_toArray, List.set_cons_zero, List.set_cons_succ]
        clear hK K
        refine wpAnyH_ready (rs := [5, 7]) (by kernel_rfl) (by simp) ?_
        refine AllReadyH.cons rfl (fun K hK => ?_) (AllReadyH.cons rfl (fun K hK => ?_) (AllReadyH.nil))
        · go_simp
          refine hK.out _ _ (hHeld.alloc _) (fun hHeld => ?_)
          try simp only [Act.put, List.getElem_toArray, List.getElem_cons_zero, List.getElem_cons_succ, List.setIfInBounds_toArray, List.set_cons_zero, List.set_cons_succ]
          clear hK K
          refine wpAnyH_ready (rs := [7]) (by kernel_rfl) (by simp) ?_
          refine AllReadyH.cons rfl (fun K hK => ?_) (AllReadyH.nil)
          go_simp
          refine hK.out _ _ (hHeld.alloc _) (fun hHeld => ?_)
          try simp only [Act.put, List.getElem_toArray, List.getElem_cons_zero, List.getElem_cons_succ, List.setIfInBounds_toArray, List.set_cons_zero, List.set_cons_succ]
          clear hK K
          refine wpAnyH_ready (rs := [8]) (by kernel_rfl) (by simp) ?_
          refine AllReadyH.cons rfl (fun K hK => ?_) (AllReadyH.nil)
          go_simp
          refine hK.out _ _ (Chg.drew ((((Chg.refl [] W).alloc _).alloc _).alloc _ |>.alloc _)) (fun hHeld => ?_)
          try simp only [Act.put, List.getElem_toArray, List.getElem_cons_zero, List.getElem_cons_succ, List.setIfInBounds_toArray, List.set_cons_zero, List.set_cons_succ]
          clear hK K
          refine wpAnyH_ready (rs := [9]) (by kernel_rfl) (by simp) ?_
          refine AllReadyH.cons rfl (fun K hK => ?_) (AllReadyH.nil)
          go_simp
          refine hK.out _ _ (Chg.drew ((((Chg.refl [] W).alloc _).alloc _).alloc _ |>.alloc _)) (fun hHeld => ?_)
          try simp only [Act.put, List.getElem_toArray, List.getElem_cons_zero, List.getElem_cons_succ, List.setIfInBounds_toArray, List.set_cons_zero, List.set_cons_succ]
          clear hK K
          refine wpAnyH_ready (rs := [10]) (by kernel_rfl) (by simp) ?_
          refine AllReadyH.cons rfl (fun K hK => ?_) (AllReadyH.nil)
          go_simp
          refine hK.out _ _ (Chg.drew ((((Chg.refl [] W).alloc _).alloc _).alloc _ |>.alloc _)) (fun hHeld => ?_)
          try simp only [Act.put, List.getElem_toArray, List.getElem_cons_zero, List.getElem_cons_succ, List.setIfInBounds_toArray, List.set_cons_zero, List.set_cons_succ]
          clear hK K
          refine wpAnyH_ready (rs := [11]) (by kernel_rfl) (by simp) ?_
          refine AllReadyH.cons rfl (fun K hK => ?_) (AllReadyH.nil)
          go_simp
          refine hK.out _ _ (Chg.drew ((((Chg.refl [] W).alloc _).alloc _).alloc _ |>.alloc _)) (fun hHeld => ?_)
          try simp only [Act.put, List.getElem_toArray, List.getElem_cons_zero, List.getElem_cons_succ, List.setIfInBounds_toArray, List.set_cons_zero, List.set_cons_succ]
          clear hK K
          refine wpAnyH_done (by kernel_rfl) ?_ _
          try simp only [Act.put, List.getElem_toArray, List.getElem_cons_zero, List.getElem_cons_succ, List.setIfInBounds_toArray, List.set_cons_zero, List.set_cons_succ]
          refine fin _ _ _ _ _ (FR _ _ _ _ ?_ ?_ ?_ ?_ ?_) <;> omega
        · go_simp
          refine hK.out _ _ (hHeld.alloc _) (fun hHeld => ?_)
          try simp only [Act.put, List.getElem_toArray, List.getElem_cons_zero, List.getElem_cons_succ, List.setIfInBounds_toArray, List.set_cons_zero, List.set_cons_succ]
          clear hK K
          refine wpAnyH_ready (rs := [5]) (by kernel_rfl) (by simp) ?_
          refine AllReadyH.cons rfl (fun K hK => ?_) (AllReadyH.nil)
          go_simp
          refine hK.out _ _ (hHeld.alloc _) (fun hHeld => ?_)
          try simp only [Act.put, List.getElem_toArray, List.getElem_cons_zero, List.getElem_cons_succ, List.setIfInBounds_toArray, List.set_cons_zero, List.set_cons_succ]
          clear hK K
          refine wpAnyH_ready (rs := [8]) (by kernel_rfl) (by simp) ?_
          refine AllReadyH.cons rfl (fun K hK => ?_) (AllReadyH.nil)
          go_simp
          refine hK.out _ _ (Chg.drew ((((Chg.refl [] W).alloc _).alloc _).alloc _ |>.alloc _)) (fun hHeld => ?_)
          try simp only [Act.put, List.getElem_toArray, List.getElem_cons_zero, List.getElem_cons_succ, List.setIfInBounds_toArray, List.set_cons_zero, List.set_cons_succ]
          clear hK K
          refine wpAnyH_ready (rs := [9]) (by kernel_rfl) (by simp) ?_
          refine AllReadyH.cons rfl (fun K hK => ?_) (AllReadyH.nil)
          go_simp
          refine hK.out _ _ (Chg.drew ((((Chg.refl [] W).alloc _).alloc _).alloc _ |>.alloc _)) (fun hHeld => ?_)
          try simp only [Act.put, List.getElem_toArray, List.getElem_cons_zero, List.getElem_cons_succ, List.setIfInBounds_toArray, List.set_cons_zero, List.set_cons_succ]
          clear hK K
          refine wpAnyH_ready (rs := [10]) (by kernel_rfl) (by simp) ?_
          refine AllReadyH.cons rfl (fun K hK => ?_) (AllReadyH.nil)
          go_simp
          refine hK.out _ _ (Chg.drew ((((Chg.refl [] W).alloc _).alloc _).alloc _ |>.alloc _)) (fun hHeld => ?_)
          try simp only [Act.put, List.getElem_toArray, List.getElem_cons_zero, List.getElem_cons_succ, List.setIfInBounds_toArray, List.set_cons_zero, List.set_cons_succ]
          clear hK K
          refine wpAnyH_ready (rs := [11]) (by kernel_rfl) (by simp) ?_
          refine AllReadyH.cons rfl (fun K hK => ?_) (AllReadyH.nil)
          go_simp
          refine hK.out _ _ (Chg.drew ((((Chg.refl [] W).alloc _).alloc _).alloc _ |>.alloc _)) (fun hHeld => ?_)
          try simp only [Act.put, List.getElem_toArray, List.getElem_cons_zero, List.getElem_cons_succ, List.setIfInBounds_toArray, List.set_cons_zero, List.set_cons_succ]
          clear hK K
          refine wpAnyH_done (by kernel_rfl) ?_ _
          try simp only [Act.put, List.getElem_toArray, List.getElem_cons_zero, List.getElem_cons_succ, List.setIfInBounds_toArray, List.set_cons_zero, List.set_cons_succ]
          refine fin _ _ _ _ _ (FR _ _ _ _ ?_ ?_ ?_ ?_ ?_) <;> omega
      · go_simp
        refine hK.out _ _ (hHeld.alloc _) (fun hHeld => ?_)
        try simp only [Act.put, List.getElem_toArray, List.getElem_cons_zero, List.getElem_cons_succ, List.setIfInBounds_toArray, List.set_cons_zero, List.set_cons_succ]
        clear hK K
        refine wpAnyH_ready (rs := [5, 6]) (by kernel_rfl) (by simp) ?_
        refine AllReadyH.cons rfl (fun K hK => ?_) (AllReadyH.cons rfl (fun K hK => ?_) (AllReadyH.nil))
        · go_simp
          refine hK.out _ _ (hHeld.alloc _) (fun hHeld => ?_)
          try simp only [Act.put, List.getElem_toArray, List.getElem_cons_zero, List.getElem_cons_succ, List.setIfInBounds_toArray, List.set_cons_zero, List.set_cons_succ]
          clear hK K
          refine wpAnyH_ready (rs := [6]) (by kernel_rfl) (by simp) ?_
          refine AllReadyH.cons rfl (fun K hK => ?_) (AllReadyH.nil)
          go_simp
          refine hK.out _ _ (hHeld.alloc _) (fun hHeld => ?_)
          try simp only [Act.put, List.getElem_toArray, List.getElem_cons_zero, List.getElem_cons_succ, List.setIfInBounds_toArray, List.set_cons_zero, List.set_cons_succ]
          clear hK K
          refine wpAnyH_ready (rs := [8]) (by kernel_rfl) (by simp) ?_
          refine AllReadyH.cons rfl (fun K hK => ?_) (AllReadyH.nil)
          go_simp
          refine hK.out _ _ (Chg.drew ((((Chg.refl [] W).alloc _).alloc _).alloc _ |>.alloc _)) (fun hHeld => ?_)
          try simp only [Act.put, List.getElem_toArray, List.getElem_cons_zero, List.getElem_cons_succ, List.setIfInBounds_toArray, List.set_cons_zero, List.set_cons_succ]
          clear hK K
          refine wpAnyH_ready (rs := [9]) (by kernel_rfl) (by simp) ?_
          refine AllReadyH.cons rfl (fun K hK => ?_) (AllReadyH.nil)
          go_simp
          refine hK.out _ _ (Chg.drew ((((Chg.refl [] W).alloc _).alloc _).alloc _ |>.alloc _)) (fun hHeld => ?_)
          try simp only [Act.put, List.getElem_toArray, List.getElem_cons_zero, List.getElem_cons_succ, List.setIfInBounds_toArray, List.set_cons_zero, List.set_cons_succ]
          clear hK K
          refine wpAnyH_ready (rs := [10]) (by kernel_rfl) (by simp) ?_
          refine AllReadyH.cons rfl (fun K hK => ?_) (AllReadyH.nil)
          go_simp
          refine hK.out _ _ (Chg.drew ((((Chg.refl [] W).alloc _).alloc _).alloc _ |>.alloc _)) (fun hHeld => ?_)
          try simp only [Act.put, List.getElem_toArray, List.getElem_cons_zero, List.getElem_cons_succ, List.setIfInBounds_toArray, List.set_cons_zero, List.set_cons_succ]
          clear hK K
          refine wpAnyH_ready (rs := [11]) (by kernel_rfl) (by simp) ?_
          refine AllReadyH.cons rfl (fun K hK => ?_) (AllReadyH.nil)
          go_simp
          refine hK.out _ _ (Chg.drew ((((Chg.refl [] W).alloc _).alloc _).alloc _ |>.alloc _)) (fun hHeld => ?_)
          try simp only [Act.put, List.getElem_toArray, List.getElem_cons_zero, List.getElem_cons_succ, List.setIfInBounds_toArray, List.set_cons_zero, List.set_cons_succ]
          clear hK K
          refine wpAnyH_done (by kernel_rfl) ?_ _
          try simp only [Act.put, List.getElem_toArray, List.getElem_cons_zero, List.getElem_cons_succ, List.setIfInBounds_toArray, List.set_cons_zero, List.set_cons_succ]
          refine fin _ _ _ _ _ (FR _ _ _ _ ?_ ?_ ?_ ?_ ?_) <;> omega
        · go_simp
          refine hK.out _ _ (hHeld.alloc _) (fun hHeld => ?_)
          try simp only [Act.put, List.getElem_toArray, List.getElem_cons_zero, List.getElem_cons_succ, List.setIfInBounds_toArray, List.set_cons_zero, List.set_cons_succ]
          clear hK K
          refine wpAnyH_ready (rs := [5]) (by kernel_rfl) (by simp) ?_
          refine AllReadyH.cons rfl (fun K hK => ?_) (AllReadyH.nil)
          go_simp
          refine hK.out _ _ (hHeld.alloc _) (fun hHeld => ?_)
          try simp only [Act.put, List.getElem_toArray, List.getElem_cons_zero, List.getElem_cons_succ, List.setIfInBounds_toArray, List.set_cons_zero, List.set_cons_succ]
          clear hK K
          refine wpAnyH_ready (rs := [8]) (by kernel_rfl) (by simp) ?_
          refine AllReadyH.cons rfl (fun K hK => ?_) (AllReadyH.nil)
          go_simp
          refine hK.out _ _ (Chg.drew ((((Chg.refl [] W).alloc _).alloc _).alloc _ |>.alloc _)) (fun hHeld => ?_)
          try simp only [Act.put, List.getElem_toArray, List.getElem_cons_zero, List.getElem_cons_succ, List.setIfInBounds_toArray, List.set_cons_zero, List.set_cons_succ]
          clear hK K
          refine wpAnyH_ready (rs := [9]) (by kernel_rfl) (by simp) ?_
          refine AllReadyH.cons rfl (fun K hK => ?_) (AllReadyH.nil)
          go_simp
          refine hK.out _ _ (Chg.drew ((((Chg.refl [] W).alloc _).alloc _).alloc _ |>.alloc _)) (fun hHeld => ?_)
          try simp only [Act.put, List.getElem_toArray, List.getElem_cons_zero, List.getElem_cons_succ, List.setIfInBounds_toArray, List.set_cons_zero, List.set_cons_succ]
          clear hK K
          refine wpAnyH_ready (rs := [10]) (by kernel_rfl) (by simp) ?_
          refine AllReadyH.cons rfl (fun K hK => ?_) (AllReadyH.nil)
          go_simp
          refine hK.out _ _ (Chg.drew ((((Chg.refl [] W).alloc _).alloc _).alloc _ |>.alloc _)) (fun hHeld => ?_)
          try simp only [Act.put, List.getElem_toArray, List.getElem_cons_zero, List.getElem_cons_succ, List.setIfInBounds_toArray, List.set_cons_zero, List.set_cons_succ]
          clear hK K
          refine wpAnyH_ready (rs := [11]) (by kernel_rfl) (by simp) ?_
          refine AllReadyH.cons rfl (fun K hK => ?_) (AllReadyH.nil)
          go_simp
          refine hK.out _ _ (Chg.drew ((((Chg.refl [] W).alloc _).alloc _).alloc _ |>.alloc _)) (fun hHeld => ?_)
          try simp only [Act.put, List.getElem_toArray, List.getElem_cons_zero, List.getElem_cons_succ, List.setIfInBounds_toArray, List.set_cons_zero, List.set_cons_succ]
          clear hK K
          refine wpAnyH_done (by kernel_rfl) ?_ _
          try simp only [Act.put, List.getElem_toArray, List.getElem_cons_zero, List.getElem_cons_succ, List.setIfInBounds_toArray, List.set_cons_zero, List.set_cons_succ]
          refine fin _ _ _ _ _ (FR _ _ _ _ ?_ ?_ ?_ ?_ ?_) <;> omega
    · go_simp
      refine hK.out _ _ (hHeld.alloc _) (fun hHeld => ?_)
      try simp only [Act.put, List.getElem_toArray, List.getElem_cons_zero, List.getElem_cons_succ, List.setIfInBounds_toArray, List.set_cons_zero, List.set_cons_succ]
      clear hK K
      refine wpAnyH_ready (rs := [4, 6, 7]) (by kernel_rfl) (by simp) ?_
      refine AllReadyH.cons rfl (fun K hK => ?_) (AllReadyH.cons rfl (fun K hK => ?_) (AllReadyH.cons rfl (fun K hK => ?_) (AllReadyH.nil)))
      · go_simp
        refine hK.out _ _ (hHeld.alloc _) (fun hHeld => ?_)
        try simp only [Act.put, List.getElem_toArray, List.getElem_cons_zero, List.getElem_cons_succ, List.setIfInBounds_toArray, List.set_cons_zero, List.set_cons_succ]
        clear hK K
        refine wpAnyH_ready (rs := [6, 7]) (by kernel_rfl) (by simp) ?_
        refine AllReadyH.cons rfl (fun K hK => ?_) (AllReadyH.cons rfl (fun K hK => ?_) (AllReadyH.nil))
        · go_simp
          refine hK.out _ _ (hHeld.alloc _) (fun hHeld => ?_)
          try simp only [Act.put, List.getElem_toArray, List.getElem_cons_zero, List.getElem_cons_succ, List.setIfInBounds_toArray, List.set_cons_zero, List.set_cons_succ]
          clear hK K
          refine wpAnyH_ready (rs := [7]) (by kernel_rfl) (by simp) ?_
          refine AllReadyH.cons rfl (fun K hK => ?_) (AllReadyH.nil)
          go_simp
          refine hK.out _ _ (hHeld.alloc _) (fun hHeld => ?_)
          try simp only [Act.put, List.getElem_toArray, List.getElem_cons_zero, List.getElem_cons_succ, List.setIfInBounds_toArray, List.set_cons_zero, List.set_cons_succ]
          clear hK K
          refine wpAnyH_ready (rs := [8]) (by kernel_rfl) (by simp) ?_
          refine AllReadyH.cons rfl (fun K hK => ?_) (AllReadyH.nil)
          go_simp
          refine hK.out _ _ (Chg.drew ((((Chg.refl [] W).alloc _).alloc _).alloc _ |>.alloc _)) (fun hHeld => ?_)
          try simp only [Act.put, List.getElem_toArray, List.getElem_cons_zero, List.getElem_cons_succ, List.setIfInBounds_toArray, List.set_cons_zero, List.set_cons_succ]
          clear hK K
          refine wpAnyH_ready (rs := [9]) (by kernel_rfl) (by simp) ?_
          refine AllReadyH.cons rfl (fun K hK => ?_) (AllReadyH.nil)
          go_simp
          refine hK.out _ _ (Chg.drew ((((Chg.refl [] W).alloc _).alloc _).alloc _ |>.alloc _)) (fun hHeld => ?_)
          try simp only [Act.put, List.getElem_toArray, List.getElem_cons_zero, List.getElem_cons_succ, List.setIfInBounds_toArray, List.set_cons_zero, List.set_cons_succ]
          clear hK K
          refine wpAnyH_ready (rs := [10]) (by kernel_rfl) (by simp) ?_
          refine AllReadyH.cons rfl (fun K hK => ?_) (AllReadyH.nil)
          go_simp
          refine hK.out _ _ (Chg.drew ((((Chg.refl [] W).alloc _).alloc _).alloc _ |>.alloc _)) (fun hHeld => ?_)
          try simp only [Act.put, List.getElem_toArray, List.getElem_cons_zero, List.getElem_cons_succ, List.setIfInBounds_toArray, List.set_cons_zero, List.set_cons_succ]
          clear hK K
          refine wpAnyH_ready (rs := [11]) (by kernel_rfl) (by simp) ?_
          refine AllReadyH.cons rfl (fun K hK => ?_) (AllReadyH.nil)
          go_simp
          refine hK.out _ _ (Chg.drew ((((Chg.refl [] W).alloc _).alloc _).alloc _ |>.alloc _)) (fun hHeld => ?_)
          try simp only [Act.put, List.getElem_toArray, List.getElem_cons_zero, List.getElem_cons_succ, List.setIfInBounds_toArray, List.set_cons_zero, List.set_cons_succ]
          clear hK K
          refine wpAnyH_done (by kernel_rfl) ?_ _
          try simp only [Act.put, List.getElem_toArray, List.getElem_cons_zero, List.getElem_cons_succ, List.setIfInBounds_toArray, List.set_cons_zero, List.set_cons_succ]
          refine fin _ _ _ _ _ (FR _ _ _ _ ?_ ?_ ?_ ?_ ?_) <;> omega
        · go_simp
          refine hK.out _ _ (hHeld.alloc _) (fun hHeld => ?_)
          try simp only [Act.put, List.getElem_toArray, List.getElem_cons_zero, List.getElem_cons_succ, List.setIfInBounds_toArray, List.set_cons_zero, List.set_cons_succ]
          clear hK K
          refine wpAnyH_ready (rs := [6]) (by kernel_rfl) (by simp) ?_
          refine AllReadyH.cons rfl (fun K hK => ?_) (AllReadyH.nil)
          go_simp
          refine hK.out _ _ (hHeld.alloc _) (fun hHeld => ?_)
          try simp only [Act.put, List.getElem_toArray, List.getElem_cons_zero, List.getElem_cons_succ, List.setIfInBounds_toArray, List.set_cons_zero, List.set_cons_succ]
          clear hK K
          refine wpAnyH_ready (rs := [8]) (by kernel_rfl) (by simp) ?_
          refine AllReadyH.cons rfl (fun K hK => ?_) (AllReadyH.nil)
          go_simp
          refine hK.out _ _ (Chg.drew ((((Chg.refl [] W).alloc _).alloc _).alloc _ |>.alloc _)) (fun hHeld => ?_)
          try simp only [Act.put, List.getElem_toArray, List.getElem_cons_zero, List.getElem_cons_succ, List.setIfInBounds_toArray, List.set_cons_zero, List.set_cons_succ]
          clear hK K
          refine wpAnyH_ready (rs := [9]) (by kernel_rfl) (by simp) ?_
          refine AllReadyH.cons rfl (fun K hK => ?_) (AllReadyH.nil)
          go_simp
          refine hK.out _ _ (Chg.drew ((((Chg.refl [] W).alloc _).alloc _).alloc _ |>.alloc _)) (fun hHeld => ?_)
          try simp only [Act.put, List.getElem_toArray, List.getElem_cons_zero, List.getElem_cons_succ, List.setIfInBounds_toArray, List.set_cons_zero, List.set_cons_succ]
          clear hK K
          refine wpAnyH_ready (rs := [10]) (by kernel_rfl) (by simp) ?_
          refine AllReadyH.cons rfl (fun K hK => ?_) (AllReadyH.nil)
          go_simp
          refine hK.out _ _ (Chg.drew ((((Chg.refl [] W).alloc _).alloc _).alloc _ |>.alloc _)) (fun hHeld => ?_)
          try simp only [Act.put, List.getElem_toArray, List.getElem_cons_zero, List.getElem_cons_succ, List.setIfInBounds_toArray, List.set_cons_zero, List.set_cons_succ]
          clear hK K
          refine wpAnyH_ready (rs := [11]) (by kernel_rfl) (by simp) ?_
          refine AllReadyH.cons rfl (fun K hK => ?_) (AllReadyH.nil)
          go_simp
          refine hK.out _ _ (Chg.drew ((((Chg.refl [] W).alloc _).alloc _).alloc _ |>.alloc _)) (fun hHeld => ?_)
          try simp only [Act.put, List.getElem_toArray, List.getElem_cons_zero, List.getElem_cons_succ, List.setIfInBounds_toArray, List.set_cons_zero, List.set_cons_succ]
          clear hK K
          refine wpAnyH_done (by kernel_rfl) ?_ _
          try simp only [Act.put, List.getElem_toArray, List.getElem_cons_zero, List.getElem_cons_succ, List.setIfInBounds_toArray, List.set_cons_zero, List.set_cons_succ]
          refine fin _ _ _ _ _ (FR _ _ _ _ ?_ ?_ ?_ ?_ ?_) <;> omega
      · go_simp
        refine hK.out _ _ (hHeld.alloc _) (fun hHeld => ?_)
        try simp only [Act.put, List.getElem_toArray, List.getElem_cons_zero, List.getElem_cons_succ, List.setIfInBounds_toArray, List.set_cons_zero, List.set_cons_succ]
        clear hK K
        refine wpAnyH_ready (rs := [4, 7]) (by kernel_rfl) (by simp) ?_
        refine AllReadyH.cons rfl (fun K hK => ?_) (AllReadyH.cons rfl (fun K hK => ?_) (AllReadyH.nil))
        · go_simp
          refine hK.out _ _ (hHeld.alloc _) (fun hHeld => ?_)
          try simp only [Act.put, List.getElem_toArray, List.getElem_cons_zero, List.getElem_cons_succ, List.setIfInBounds_toArray, List.set_cons_zero, List.set_cons_succ]
          clear hK K
          refine wpAnyH_ready (rs := [7]) (by kernel_rfl) (by simp) ?_
          refine AllReadyH.cons rfl (fun K hK => ?_) (AllReadyH.nil)
          go_simp
          refine hK.out _ _ (hHeld.alloc _) (fun hHeld => ?_)
          try simp only [Act.put, List.getElem_toArray, List.getElem_cons_zero, List.getElem_cons_succ, List.setIfInBounds_toArray, List.set_cons_zero, List.set_cons_succ]
          clear hK K
          refine wpAnyH_ready (rs := [8]) (by kernel_rfl) (by simp) ?_
          refine AllReadyH.cons rfl (fun K hK => ?_) (AllReadyH.nil)
          go_simp
          refine hK.out _ _ (Chg.drew ((((Chg.refl [] W).alloc _).alloc _).alloc _ |>.alloc _)) (fun hHeld => ?_)
          try simp only [Act.put, List.getElem_toArray, List.getElem_cons_zero, List.getElem_cons_succ, List.setIfInBounds_toArray, List.set_cons_zero, List.set_cons_succ]
          clear hK K
          refine wpAnyH_ready (rs := [9]) (by kernel_rfl) (by simp) ?_
          refine AllReadyH.cons rfl (fun K hK => ?_) (AllReadyH.nil)
          go_simp
          refine hK.out _ _ (Chg.drew ((((Chg.refl [] W).alloc _).alloc _).alloc _ |>.alloc _)) (fun hHeld => ?_)
          try simp only [Act.put, List.getElem_toArray, List.getElem_cons_zero, List.getElem_cons_succ, List.setIfInBounds_toArray, List.set_cons_zero, List.set_cons_succ]
          clear hK K
          refine wpAnyH_ready (rs := [10]) (by kernel_rfl) (by simp) ?_
          refine AllReadyH.cons rfl (fun K hK => ?_) (AllReadyH.nil)
          go_simp
          refine hK.out _ _ (Chg.drew ((((Chg.refl [] W).alloc _).alloc _).alloc _ |>.alloc _)) (fun hHeld => ?_)
          try simp only [Act.put, List.getElem_toArray, List.getElem_cons_zero, List.getElem_cons_succ, List.setIfInBounds_toArray, List.set_cons_zero, List.set_cons_succ]
          clear hK K
          refine wpAnyH_ready (rs := [11]) (by kernel_rfl) (by simp) ?_
          refine AllReadyH.cons rfl (fun K hK => ?_) (AllReadyH.nil)
          go_simp
          refine hK.out _ _ (Chg.drew ((((Chg.refl [] W).alloc _).alloc _).alloc _ |>.alloc _)) (fun hHeld => ?_)
          try simp only [Act.put, List.getElem_toArray, List.getElem_cons_zero, List.getElem_cons_succ, List.setIfInBounds_toArray, List.set_cons_zero, List.set_cons_succ]
          clear hK K
          refine wpAnyH_done (by kernel_rfl) ?_ _
          try simp only [Act.put, List.getElem_toArray, List.getElem_cons_zero, List.getElem_cons_succ, List.setIfInBounds_toArray, List.set_cons_zero, List.set_cons_succ]
          refine fin _ _ _ _ _ (FR _ _ _ _ ?_ ?_ ?_ ?_ ?_) <;> omega
        · go_simp
          refine hK.out _ _ (hHeld.alloc _) (fun hHeld => ?_)
          try simp only [Act.put, List.getElem_toArray, List.getElem_cons_zero, List.getElem_cons_succ, List.setIfInBounds_toArray, List.set_cons_zero, List.set_cons_succ]
          clear hK K
          refine wpAnyH_ready (rs := [4]) (by kernel_rfl) (by simp) ?_
          refine AllReadyH.cons rfl (fun K hK => ?_) (AllReadyH.nil)
          go_simp
          refine hK.out _ _ (hHeld.alloc _) (fun hHeld => ?_)
          try simp only [Act.put, List.getElem_toArray, List.getElem_cons_zero, List.getElem_cons_succ, List.setIfInBounds_toArray, List.set_cons_zero, List.set_cons_succ]
          clear hK K
          refine wpAnyH_ready (rs := [8]) (by kernel_rfl) (by simp) ?_
          refine AllReadyH.cons rfl (fun K hK => ?_) (AllReadyH.nil)
          go_simp
          refine hK.out _ _ (Chg.drew ((((Chg.refl [] W).alloc _).alloc _).alloc _ |>.alloc _)) (fun hHeld => ?_)
          try simp only [Act.put, List.getElem_toArray, List.getElem_cons_zero, List.getElem_cons_succ, List.setIfInBounds_toArray, List.set_cons_zero, List.set_cons_succ]
          clear hK K
          refine wpAnyH_ready (rs := [9]) (by kernel_rfl) (by simp) ?_
          refine AllReadyH.cons rfl (fun K hK => ?_) (AllReadyH.nil)
          go_simp
          refine hK.out _ _ (Chg.drew ((((Chg.refl [] W).alloc _).alloc _).alloc _ |>.alloc _)) (fun hHeld => ?_)
          try simp only [Act.put, List.getElem_toArray, List.getElem_cons_zero, List.getElem_cons_succ, List.setIfInBounds_toArray, List.set_cons_zero, List.set_cons_succ]
          clear hK K
          refine wpAnyH_ready (rs := [10]) (by kernel_rfl) (by simp) ?_
          refine AllReadyH.cons rfl (fun K hK => ?_) (AllReadyH.nil)
          go_simp
          refine hK.out _ _ (Chg.drew ((((Chg.refl [] W).alloc _).alloc _).alloc _ |>.alloc _)) (fun hHeld => ?_)
          try simp only [Act.put, List.getElem_toArray, List.getElem_cons_zero, List.getElem_cons_succ, List.setIfInBounds_toArray, List.set_cons_zero, List.set_cons_succ]
          clear hK K
          refine wpAnyH_ready (rs := [11]) (by kernel_rfl) (by simp) ?_
          refine AllReadyH.cons rfl (fun K hK => ?_) (AllReadyH.nil)
          go_simp
          refine hK.out _ _ (Chg.drew ((((Chg.refl [] W).alloc _).alloc _).alloc _ |>.alloc _)) (fun hHeld => ?_)
          try simp only [Act.put, List.getElem_toArray, List.getElem_cons_zero, List.getElem_cons_succ, List.setIfInBounds_toArray, List.set_cons_zero, List.set_cons_succ]
          clear hK K
          refine wpAnyH_done (by kernel_rfl) ?_ _
          try simp only [Act.put, List.getElem_toArray, List.getElem_cons_zero, List.getElem_cons_succ, List.setIfInBounds_toArray, List.set_cons_zero, List.set_cons_succ]
          refine fin _ _ _ _ _ (FR _ _ _ _ ?_ ?_ ?_ ?_ ?_) <;> omega
      · go_simp
        refine hK.out _ _ (hHeld.alloc _) (fun hHeld => ?_)
        try simp only [Act.put, List.getElem_toArray, List.getElem_cons_zero, List.getElem_cons_succ, List.setIfInBounds_toArray, List.set_cons_zero, List.set_cons_succ]
        clear hK K
        refine wpAnyH_ready (rs := [4, 6]) (by kernel_rfl) (by simp) ?_
        refine AllReadyH.cons rfl (fun K hK => ?_) (AllReadyH.cons rfl (fun K hK => ?_) (AllReadyH.nil))
        · go_simp
          refine hK.out _ _ (hHeld.alloc _) (fun hHeld => ?_)
          try simp only [Act.put, List.getElem_toArray, List.getElem_cons_zero, List.getElem_cons_succ, List.setIfInBounds_toArray, List.set_cons_zero, List.set_cons_succ]
          clear hK K
          refine wpAnyH_ready (rs := [6]) (by kernel_rfl) (by simp) ?_
          refine AllReadyH.cons rfl (fun K hK => ?_) (AllReadyH.nil)
          go_simp
          refine hK.out _ _ (hHeld.alloc _) (fun hHeld => ?_)
          try simp only [Act.put, List.getElem_toArray, List.getElem_cons_zero, List.getElem_cons_succ, List.setIfInBounds_toArray, List.set_cons_zero, List.set_cons_succ]
          clear hK K
          refine wpAnyH_ready (rs := [8]) (by kernel_rfl) (by simp) ?_
          refine AllReadyH.cons rfl (fun K hK => ?_) (AllReadyH.nil)
          go_simp
          refine hK.out _ _ (Chg.drew ((((Chg.refl [] W).alloc _).alloc _).alloc _ |>.alloc _)) (fun hHeld => ?_)
          try simp only [Act.put, List.getElem_toArray, List.getElem_cons_zero, List.getElem_cons_succ, List.setIfInBounds_toArray, List.set_cons_zero, List.set_cons_succ]
          clear hK K
          refine wpAnyH_ready (rs := [9]) (by kernel_rfl) (by simp) ?_
          refine AllReadyH.cons rfl (fun K hK => ?_) (AllReadyH.nil)
          go_simp
          refine hK.out _ _ (Chg.drew ((((Chg.refl [] W).alloc _).alloc _).alloc _ |>.alloc _)) (fun hHeld => ?_)
          try simp only [Act.put, List.getElem_toArray, List.getElem_cons_zero, List.getElem_cons_succ, List.setIfInBounds_toArray, List.set_cons_zero, List.set_cons_succ]
          clear hK K
          refine wpAnyH_ready (rs := [10]) (by kernel_rfl) (by simp) ?_
          refine AllReadyH.cons rfl (fun K hK => ?_) (AllReadyH.nil)
          go_simp
          refine hK.out _ _ (Chg.drew ((((Chg.refl [] W).alloc _).alloc _).alloc _ |>.alloc _)) (fun hHeld => ?_)
          try simp only [Act.put, List.getElem_toArray, List.getElem_cons_zero, List.getElem_cons_succ, List.setIfInBounds_toArray, List.set_cons_zero, List.set_cons_succ]
          clear hK K
          refine wpAnyH_ready (rs := [11]) (by kernel_rfl) (by simp) ?_
          refine AllReadyH.cons rfl (fun K hK => ?_) (AllReadyH.nil)
          go_simp
          refine hK.out _ _ (Chg.drew ((((Chg.refl [] W).alloc _).alloc _).alloc _ |>.alloc _)) (fun hHeld => ?_)
          try simp only [Act.put, List.getElem_toArray, List.getElem_cons_zero, List.getElem_cons_succ, List.setIfInBounds_toArray, List.set_cons_zero, List.set_cons_succ]
          clear hK K
          refine wpAnyH_done (by kernel_rfl) ?_ _
          try simp only [Act.put, List.getElem_toArray, List.getElem_cons_zero, List.getElem_cons_succ, List.setIfInBounds_toArray, List.set_cons_zero, List.set_cons_succ]
          refine fin _ _ _ _ _ (FR _ _ _ _ ?_ ?_ ?_ ?_ ?_) <;> omega
        · go_simp
          refine hK.out _ _ (hHeld.alloc _) (fun hHeld => ?_)
          try simp only [Act.put, List.getElem_toArray, List.getElem_cons_zero, List.getElem_cons_succ, List.setIfInBounds_toArray, List.set_cons_zero, List.set_cons_succ]
          clear hK K
          refine wpAnyH_ready (rs := [4]) (by kernel_rfl) (by simp) ?_
          refine AllReadyH.cons rfl (fun K hK => ?_) (AllReadyH.nil)
          go_simp
          refine hK.out _ _ (hHeld.alloc _) (fun hHeld => ?_)
          try simp only [Act.put, List.getElem_toArray, List.getElem_cons_zero, List.getElem_cons_succ, List.setIfInBounds_toArray, List.set_cons_zero, List.set_cons_succ]
          clear hK K
          refine wpAnyH_ready (rs := [8]) (by kernel_rfl) (by simp) ?_
          refine AllReadyH.cons rfl (fun K hK => ?_) (AllReadyH.nil)
          go_simp
          refine hK.out _ _ (Chg.drew ((((Chg.refl [] W).alloc _).alloc _).alloc _ |>.alloc _)) (fun hHeld => ?_)
          try simp only [Act.put, List.getElem_toArray, List.getElem_cons_zero, List.getElem_cons_succ, List.setIfInBounds_toArray, List.set_cons_zero, List.set_cons_succ]
          clear hK K
          refine wpAnyH_ready (rs := [9]) (by kernel_rfl) (by simp) ?_
          refine AllReadyH.cons rfl (fun K hK => ?_) (AllReadyH.nil)
          go_simp
          refine hK.out _ _ (Chg.drew ((((Chg.refl [] W).alloc _).alloc _).alloc _ |>.alloc _)) (fun hHeld => ?_)
          try simp only [Act.put, List.getElem_toArray, List.getElem_cons_zero, List.getElem_cons_succ, List.setIfInBounds_toArray, List.set_cons_zero, List.set_cons_succ]
          clear hK K
          refine wpAnyH_ready (rs := [10]) (by kernel_rfl) (by simp) ?_
          refine AllReadyH.cons rfl (fun K hK => ?_) (AllReadyH.nil)
          go_simp
          refine hK.out _ _ (Chg.drew ((((Chg.refl [] W).alloc _).alloc _).alloc _ |>.alloc _)) (fun hHeld => ?_)
          try simp only [Act.put, List.getElem_toArray, List.getElem_cons_zero, List.getElem_cons_succ, List.setIfInBounds_toArray, List.set_cons_zero, List.set_cons_succ]
          clear hK K
          refine wpAnyH_ready (rs := [11]) (by kernel_rfl) (by simp) ?_
          refine AllReadyH.cons rfl (fun K hK => ?_) (AllReadyH.nil)
          go_simp
          refine hK.out _ _ (Chg.drew ((((Chg.refl [] W).alloc _).alloc _).alloc _ |>.alloc _)) (fun hHeld => ?_)
          try simp only [Act.put, List.getElem_toArray, List.getElem_cons_zero, List.getElem_cons_succ, List.setIfInBounds_toArray, List.set_cons_zero, List.set_cons_succ]
          clear hK K
          refine wpAnyH_done (by kernel_rfl) ?_ _
          try simp only [Act.put, List.getElem_toArray, List.getElem_cons_zero, List.getElem_cons_succ, List.setIfInBounds_toArray, List.set_cons_zero, List.set_cons_succ]
          refine fin _ _ _ _ _ (FR _ _ _ _ ?_ ?_ ?_ ?_ ?_) <;> omega
    · go_simp
      refine hK.out _ _ (hHeld.alloc _) (fun hHeld => ?_)
      try simp only [Act.put, List.getElem_toArray, List.getElem_cons_zero, List.getElem_cons_succ, List.setIfInBounds_toArray, List.set_cons_zero, List.set_cons_succ]
      clear hK K
      refine wpAnyH_ready (rs := [4, 5, 7]) (by kernel_rfl) (by simp) ?_
      refine AllReadyH.cons rfl (fun K hK => ?_) (AllReadyH.cons rfl (fun K hK => ?_) (AllReadyH.cons rfl (fun K hK => ?_) (AllReadyH.nil)))
      · go_simp
        refine hK.out _ _ (hHeld.alloc _) (fun hHeld => ?_)
        try simp only [Act.put, List.getElem_toArray, List.getElem_cons_zero, List.getElem_cons_succ, List.setIfInBounds_toArray, List.set_cons_zero, List.set_cons_succ]
        clear hK K
        refine wpAnyH_ready (rs := [5, 7]) (by kernel_rfl) (by simp) ?_
        refine AllReadyH.cons rfl (fun K hK => ?_) (AllReadyH.cons rfl (fun K hK => ?_) (AllReadyH.nil))
        · go_simp
          refine hK.out _ _ (hHeld.alloc _) (fun hHeld => ?_)
          try simp only [Act.put, List.getElem_toArray, List.getElem_cons_zero, List.getElem_cons_succ, List.setIfInBounds_toArray, List.set_cons_zero, List.set_cons_succ]
          clear hK K
          refine wpAnyH_ready (rs := [7]) (by kernel_rfl) (by simp) ?_
          refine AllReadyH.cons rfl (fun K hK => ?_) (AllReadyH.nil)
          go_simp
          refine hK.out _ _ (hHeld.alloc _) (fun hHeld => ?_)
          try simp only [Act.put, List.getElem_toArray, List.getElem_cons_zero, List.getElem_cons_succ, List.setIfInBounds_toArray, List.set_cons_zero, List.set_cons_succ]
          clear hK K
          refine wpAnyH_ready (rs := [8]) (by kernel_rfl) (by simp) ?_
          refine AllReadyH.cons rfl (fun K hK => ?_) (AllReadyH.nil)
          go_simp
          refine hK.out _ _ (Chg.drew ((((Chg.refl [] W).alloc _).alloc _).alloc _ |>.alloc _)) (fun hHeld => ?_)
          try simp only [Act.put, List.getElem_toArray, List.getElem_cons_zero, List.getElem_cons_succ, List.setIfInBounds_toArray, List.set_cons_zero, List.set_cons_succ]
          clear hK K
          refine wpAnyH_ready (rs := [9]) (by kernel_rfl) (by simp) ?_
          refine AllReadyH.cons rfl (fun K hK => ?_) (AllReadyH.nil)
          go_simp
          refine hK.out _ _ (Chg.drew ((((Chg.refl [] W).alloc _).alloc _).alloc _ |>.alloc _)) (fun hHeld => ?_)
          try simp only [Act.put, List.getElem_toArray, List.getElem_cons_zero, List.getElem_cons_succ, List.setIfInBounds_toArray, List.set_cons_zero, List.set_cons_succ]
          clear hK K
          refine wpAnyH_ready (rs := [10]) (by kernel_rfl) (by simp) ?_
          refine AllReadyH.cons rfl (fun K hK => ?_) (AllReadyH.nil)
          go_simp
          refine hK.out _ _ (Chg.drew ((((Chg.refl [] W).alloc _).alloc _).alloc _ |>.alloc _)) (fun hHeld => ?_)
          try simp only [Act.put, List.getElem_toArray, List.getElem_cons_zero, List.getElem_cons_succ, List.setIfInBounds_toArray, List.set_cons_zero, List.set_cons_succ]
          clear hK K
          refine wpAnyH_ready (rs := [11]) (by kernel_rfl) (by simp) ?_
          refine AllReadyH.cons rfl (fun K hK => ?_) (AllReadyH.nil)
          go_simp
          refine hK.out _ _ (Chg.drew ((((Chg.refl [] W).alloc _).alloc _).alloc _ |>.alloc _)) (fun hHeld => ?_)
          try simp only [Act.put, List.getElem_toArray, List.getElem_cons_zero, List.getElem_cons_succ, List.setIfInBounds_toArray, List.set_cons_zero, List.set_cons_succ]
          clear hK K
          refine wpAnyH_done (by kernel_rfl) ?_ _
          try simp only [Act.put, List.getElem_toArray, List.getElem_cons_zero, List.getElem_cons_succ, List.setIfInBounds_toArray, List.set_cons_zero, List.set_cons_succ]
          refine fin _ _ _ _ _ (FR _ _ _ _ ?_ ?_ ?_ ?_ ?_) <;> omega
        · go_simp
          refine hK.out _ _ (hHeld.alloc _) (fun hHeld => ?_)
          try simp only [Act.put, List.getElem_toArray, List.getElem_cons_zero, List.getElem_cons_succ, List.setIfInBounds_toArray, List.set_cons_zero, List.set_cons_succ]
          clear hK K
          refine wpAnyH_ready (rs := [5]) (by kernel_rfl) (by simp) ?_
          refine AllReadyH.cons rfl (fun K hK => ?_) (AllReadyH.nil)
          go_simp
          refine hK.out _ _ (hHeld.alloc _) (fun hHeld => ?_)
          try simp only [Act.put, List.getElem_toArray, List.getElem_cons_zero, List.getElem_cons_succ, List.setIfInBounds_toArray, List.set_cons_zero, List.set_cons_succ]
          clear hK K
          refine wpAnyH_ready (rs := [8]) (by kernel_rfl) (by simp) ?_
          refine AllReadyH.cons rfl (fun K hK => ?_) (AllReadyH.nil)
          go_simp
          refine hK.out _ _ (Chg.drew ((((Chg.refl [] W).alloc _).alloc _).alloc _ |>.alloc _)) (fun hHeld => ?_)
          try simp only [Act.put, List.getElem_toArray, List.getElem_cons_zero, List.getElem_cons_succ, List.setIfInBounds_toArray, List.set_cons_zero, List.set_cons_succ]
          clear hK K
          refine wpAnyH_ready (rs := [9]) (by kernel_rfl) (by simp) ?_
          refine AllReadyH.cons rfl (fun K hK => ?_) (AllReadyH.nil)
          go_simp
          refine hK.out _ _ (Chg.drew ((((Chg.refl [] W).alloc _).alloc _).alloc _ |>.alloc _)) (fun hHeld => ?_)
          try simp only [Act.put, List.getElem_toArray, List.getElem_cons_zero, List.getElem_cons_succ, List.setIfInBounds_toArray, List.set_cons_zero, List.set_cons_succ]
          clear hK K
          refine wpAnyH_ready (rs := [10]) (by kernel_rfl) (by simp) ?_
          refine AllReadyH.cons rfl (fun K hK => ?_) (AllReadyH.nil)
          go_simp
          refine hK.out _ _ (Chg.drew ((((Chg.refl [] W).alloc _).alloc _).alloc _ |>.alloc _)) (fun hHeld => ?_)
          try simp only [Act.put, List.getElem_toArray, List.getElem_cons_zero, List.getElem_cons_succ, List.setIfInBounds_toArray, List.set_cons_zero, List.set_cons_succ]
          clear hK K
          refine wpAnyH_ready (rs := [11]) (by kernel_rfl) (by simp) ?_
          refine AllReadyH.cons rfl (fun K hK => ?_) (AllReadyH.nil)
          go_simp
          refine hK.out _ _ (Chg.drew ((((Chg.refl [] W).alloc _).alloc _).alloc _ |>.alloc _)) (fun hHeld => ?_)
          try simp only [Act.put, List.getElem_toArray, List.getElem_cons_zero, List.getElem_cons_succ, List.setIfInBounds_toArray, List.set_cons_zero, List.set_cons_succ]
          clear hK K
          refine wpAnyH_done (by kernel_rfl) ?_ _
          try simp only [Act.put, List.getElem_toArray, List.getElem_cons_zero, List.getElem_cons_succ, List.setIfInBounds_toArray, List.set_cons_zero, List.set_cons_succ]
          refine fin _ _ _ _ _ (FR _ _ _ _ ?_ ?_ ?_ ?_ ?_) <;> omega
      · go_simp
        refine hK.out _ _ (hHeld.alloc _) (fun hHeld => ?_)
        try simp only [Act.put, List.getElem_toArray, List.getElem_cons_zero, List.getElem_cons_succ, List.setIfInBounds_toArray, List.set_cons_zero, List.set_cons_succ]
        clear hK K
        refine wpAnyH_ready (rs := [4, 7]) (by kernel_rfl) (by simp) ?_
        refine AllReadyH.cons rfl (fun K hK => ?_) (AllReadyH.cons rfl (fun K hK => ?_) (AllReadyH.nil))
        · go_simp
          refine hK.out _ _ (hHeld.alloc _) (fun hHeld => ?_)
          try simp only [Act.put, List.getElem_toArray, List.getElem_cons_zero, List.getElem_cons_succ, List.setIfInBounds_toArray, List.set_cons_zero, List.set_cons_succ]
          clear hK K
          refine wpAnyH_ready (rs := [7]) (by kernel_rfl) (by simp) ?_
          refine AllReadyH.cons rfl (fun K hK => ?_) (AllReadyH.nil)
          go_simp
          refine hK.out _ _ (hHeld.alloc _) (fun hHeld => ?_)
          try simp only [Act.put, List.getElem_toArray, List.getElem_cons_zero, List.getElem_cons_succ, List.setIfInBounds_toArray, List.set_cons_zero, List.set_cons_succ]
          clear hK K
          refine wpAnyH_ready (rs := [8]) (by kernel_rfl) (by simp) ?_
          refine AllReadyH.cons rfl (fun K hK => ?_) (AllReadyH.nil)
          go_simp
          refine hK.out _ _ (Chg.drew ((((Chg.refl [] W).alloc _).alloc _).alloc _ |>.alloc _)) (fun hHeld => ?_)
          try simp only [Act.put, List.getElem_toArray, List.getElem_cons_zero, List.getElem_cons_succ, List.setIfInBounds_toArray, List.set_cons_zero, List.set_cons_succ]
          clear hK K
          refine wpAnyH_ready (rs := [9]) (by kernel_rfl) (by simp) ?_
          refine AllReadyH.cons rfl (fun K hK => ?_) (AllReadyH.nil)
          go_simp
          refine hK.out _ _ (Chg.drew ((((Chg.refl [] W).alloc _).alloc _).alloc _ |>.alloc _)) (fun hHeld => ?_)
          try simp only [Act.put, List.getElem_toArray, List.getElem_cons_zero, List.getElem_cons_succ, List.setIfInBounds_toArray, List.set_cons_zero, List.set_cons_succ]
          clear hK K
          refine wpAnyH_ready (rs := [10]) (by kernel_rfl) (by simp) ?_
          refine AllReadyH.cons rfl (fun K hK => ?_) (AllReadyH.nil)
          go_simp
          refine hK.out _ _ (Chg.drew ((((Chg.refl [] W).alloc _).alloc _).alloc _ |>.alloc _)) (fun hHeld => ?_)
          try simp only [Act.put, List.getElem_toArray, List.getElem_cons_zero, List.getElem_cons_succ, List.setIfInBounds_toArray, List.set_cons_zero, List.set_cons_succ]
          clear hK K
          refine wpAnyH_ready (rs := [11]) (by kernel_rfl) (by simp) ?_
          refine AllReadyH.cons rfl (fun K hK => ?_) (AllReadyH.nil)
          go_simp
          refine hK.out _ _ (Chg.drew ((((Chg.refl [] W).alloc _).alloc _).alloc _ |>.alloc _)) (fun hHeld => ?_)
          try simp only [Act.put, List.getElem_toArray, List.getElem_cons_zero, List.getElem_cons_succ, List.setIfInBounds_toArray, List.set_cons_zero, List.set_cons_succ]
          clear hK K
          refine wpAnyH_done (by kernel_rfl) ?_ _
          try simp only [Act.put, List.getElem_toArray, List.getElem_cons_zero, List.getElem_cons_succ, List.setIfInBounds_toArray, List.set_cons_zero, List.set_cons_succ]
          refine fin _ _ _ _ _ (FR _ _ _ _ ?_ ?_ ?_ ?_ ?_) <;> omega
        · go_simp
          refine hK.out _ _ (hHeld.alloc _) (fun hHeld => ?_)
          try simp only [Act.put, List.getElem_toArray, List.getElem_cons_zero, List.getElem_cons_succ, List.setIfInBounds_toArray, List.set_cons_zero, List.set_cons_succ]
          clear hK K
          refine wpAnyH_ready (rs := [4]) (by kernel_rfl) (by simp) ?_
          refine AllReadyH.cons rfl (fun K hK => ?_) (AllReadyH.nil)
          go_simp
          refine hK.out _ _ (hHeld.alloc _) (fun hHeld => ?_)
          try simp only [Act.put, List.getElem_toArray, List.getElem_cons_zero, List.getElem_cons_succ, List.setIfInBounds_toArray, List.set_cons_zero, List.set_cons_succ]
          clear hK K
          refine wpAnyH_ready (rs := [8]) (by kernel_rfl) (by simp) ?_
          refine AllReadyH.cons rfl (fun K hK => ?_) (AllReadyH.nil)
          go_simp
          refine hK.out _ _ (Chg.drew ((((Chg.refl [] W).alloc _).alloc _).alloc _ |>.alloc _)) (fun hHeld => ?_)
          try simp only [Act.put, List.getElem_toArray, List.getElem_cons_zero, List.getElem_cons_succ, List.setIfInBounds_toArray, List.set_cons_zero, List.set_cons_succ]
          clear hK K
          refine wpAnyH_ready (rs := [9]) (by kernel_rfl) (by simp) ?_
          refine AllReadyH.cons rfl (fun K hK => ?_) (AllReadyH.nil)
          go_simp
          refine hK.out _ _ (Chg.drew ((((Chg.refl [] W).alloc _).alloc _).alloc _ |>.alloc _)) (fun hHeld => ?_)
          try simp only [Act.put, List.getElem_toArray, List.getElem_cons_zero, List.getElem_cons_succ, List.setIfInBounds_toArray, List.set_cons_zero, List.set_cons_succ]
          clear hK K
          refine wpAnyH_ready (rs := [10]) (by kernel_rfl) (by simp) ?_
          refine AllReadyH.cons rfl (fun K hK => ?_) (AllReadyH.nil)
          go_simp
          refine hK.out _ _ (Chg.drew ((((Chg.refl [] W).alloc _).alloc _).alloc _ |>.alloc _)) (fun hHeld => ?_)
          try simp only [Act.put, List.getElem_toArray, List.getElem_cons_zero, List.getElem_cons_succ, List.setIfInBounds_toArray, List.set_cons_zero, List.set_cons_succ]
          clear hK K
          refine wpAnyH_ready (rs := [11]) (by kernel_rfl) (by simp) ?_
          refine AllReadyH.cons rfl (fun K hK => ?_) (AllReadyH.nil)
          go_simp
          refine hK.out _ _ (Chg.drew ((((Chg.refl [] W).alloc _).alloc _).alloc _ |>.alloc _)) (fun hHeld => ?_)
          try simp only [Act.put, List.getElem_toArray, List.getElem_cons_zero, List.getElem_cons_succ, List.setIfInBounds_toArray, List.set_cons_zero, List.set_cons_succ]
          clear hK K
          refine wpAnyH_done (by kernel_rfl) ?_ _
          try simp only [Act.put, List.getElem_toArray, List.getElem_cons_zero, List.getElem_cons_succ, List.setIfInBounds_toArray, List.set_cons_zero, List.set_cons_succ]
          refine fin _ _ _ _ _ (FR _ _ _ _ ?_ ?_ ?_ ?_ ?_) <;> omega
      · go_simp
        refine hK.out _ _ (hHeld.alloc _) (fun hHeld => ?_)
        try simp only [Act.put, List.getElem_toArray, List.getElem_cons_zero, List.getElem_cons_succ, List.setIfInBounds_toArray, List.set_cons_zero, List.set_cons_succ]
        clear hK K
        refine wpAnyH_ready (rs := [4, 5]) (by kernel_rfl) (by simp) ?_
        refine AllReadyH.cons rfl (fun K hK => ?_) (AllReadyH.cons rfl (fun K hK => ?_) (AllReadyH.nil))
        · go_simp
          refine hK.out _ _ (hHeld.alloc _) (fun hHeld => ?_)
          try simp only [Act.put, List.getElem_toArray, List.getElem_cons_zero, List.getElem_cons_succ, List.setIfInBounds_toArray, List.set_cons_zero, List.set_cons_succ]
          clear hK K
          refine wpAnyH_ready (rs := [5]) (by kernel_rfl) (by simp) ?_
          refine AllReadyH.cons rfl (fun K hK => ?_) (AllReadyH.nil)
          go_simp
          refine hK.out _ _ (hHeld.alloc _) (fun hHeld => ?_)
          try simp only [Act.put, List.getElem_toArray, List.getElem_cons_zero, List.getElem_cons_succ, List.setIfInBounds_toArray, List.set_cons_zero, List.set_cons_succ]
          clear hK K
          refine wpAnyH_ready (rs := [8]) (by kernel_rfl) (by simp) ?_
          refine AllReadyH.cons rfl (fun K hK => ?_) (AllReadyH.nil)
          go_simp
          refine hK.out _ _ (Chg.drew ((((Chg.refl [] W).alloc _).alloc _).alloc _ |>.alloc _)) (fun hHeld => ?_)
          try simp only [Act.put, List.getElem_toArray, List.getElem_cons_zero, List.getElem_cons_succ, List.setIfInBounds_toArray, List.set_cons_zero, List.set_cons_succ]
          clear hK K
          refine wpAnyH_ready (rs := [9]) (by kernel_rfl) (by simp) ?_
          refine AllReadyH.cons rfl (fun K hK => ?_) (AllReadyH.nil)
          go_simp
          refine hK.out _ _ (Chg.drew ((((Chg.refl [] W).alloc _).alloc _).alloc _ |>.alloc _)) (fun hHeld => ?_)
          try simp only [Act.put, List.getElem_toArray, List.getElem_cons_zero, List.getElem_cons_succ, List.setIfInBounds_toArray, List.set_cons_zero, List.set_cons_succ]
          clear hK K
          refine wpAnyH_ready (rs := [10]) (by kernel_rfl) (by simp) ?_
          refine AllReadyH.cons rfl (fun K hK => ?_) (AllReadyH.nil)
          go_simp
          refine hK.out _ _ (Chg.drew ((((Chg.refl [] W).alloc _).alloc _).alloc _ |>.alloc _)) (fun hHeld => ?_)
          try simp only [Act.put, List.getElem_toArray, List.getElem_cons_zero, List.getElem_cons_succ, List.setIfInBounds_toArray, List.set_cons_zero, List.set_cons_succ]
          clear hK K
          refine wpAnyH_ready (rs := [11]) (by kernel_rfl) (by simp) ?_
          refine AllReadyH.cons rfl (fun K hK => ?_) (AllReadyH.nil)
          go_simp
          refine hK.out _ _ (Chg.drew ((((Chg.refl [] W).alloc _).alloc _).alloc _ |>.alloc _)) (fun hHeld => ?_)
          try simp only [Act.put, List.getElem_toArray, List.getElem_cons_zero, List.getElem_cons_succ, List.setIfInBounds_toArray, List.set_cons_zero, List.set_cons_succ]
          clear hK K
          refine wpAnyH_done (by kernel_rfl) ?_ _
          try simp only [Act.put, List.getElem_toArray, List.getElem_cons_zero, List.getElem_cons_succ, List.setIfInBounds_toArray, List.set_cons_zero, List.set_cons_succ]
          refine fin _ _ _ _ _ (FR _ _ _ _ ?_ ?_ ?_ ?_ ?_) <;> omega
        · go_simp
          refine hK.out _ _ (hHeld.alloc _) (fun hHeld => ?_)
          try simp only [Act.put, List.getElem_toArray, List.getElem_cons_zero, List.getElem_cons_succ, List.setIfInBounds_toArray, List.set_cons_zero, List.set_cons_succ]
          clear hK K
          refine wpAnyH_ready (rs := [4]) (by kernel_rfl) (by simp) ?_
          refine AllReadyH.cons rfl (fun K hK => ?_) (AllReadyH.nil)
          go_simp
          refine hK.out _ _ (hHeld.alloc _) (fun hHeld => ?_)
          try simp only [Act.put, List.getElem_toArray, List.getElem_cons_zero, List.getElem_cons_succ, List.setIfInBounds_toArray, List.set_cons_zero, List.set_cons_succ]
          clear hK K
          refine wpAnyH_ready (rs := [8]) (by kernel_rfl) (by simp) ?_
          refine AllReadyH.cons rfl (fun K hK => ?_) (AllReadyH.nil)
          go_simp
          refine hK.out _ _ (Chg.drew ((((Chg.refl [] W).alloc _).alloc _).alloc _ |>.alloc _)) (fun hHeld => ?_)
          try simp only [Act.put, List.getElem_toArray, List.getElem_cons_zero, List.getElem_cons_succ, List.setIfInBounds_toArray, List.set_cons_zero, List.set_cons_succ]
          clear hK K
          refine wpAnyH_ready (rs := [9]) (by kernel_rfl) (by simp) ?_
          refine AllReadyH.cons rfl (fun K hK => ?_) (AllReadyH.nil)
          go_simp
          refine hK.out _ _ (Chg.drew ((((Chg.refl [] W).alloc _).alloc _).alloc _ |>.alloc _)) (fun hHeld => ?_)
          try simp only [Act.put, List.getElem_toArray, List.getElem_cons_zero, List.getElem_cons_succ, List.setIfInBounds_toArray, List.set_cons_zero, List.set_cons_succ]
          clear hK K
          refine wpAnyH_ready (rs := [10]) (by kernel_rfl) (by simp) ?_
          refine AllReadyH.cons rfl (fun K hK => ?_) (AllReadyH.nil)
          go_simp
          refine hK.out _ _ (Chg.drew ((((Chg.refl [] W).alloc _).alloc _).alloc _ |>.alloc _)) (fun hHeld => ?_)
          try simp only [Act.put, List.getElem_toArray, List.getElem_cons_zero, List.getElem_cons_succ, List.setIfInBounds_toArray, List.set_cons_zero, List.set_cons_succ]
          clear hK K
          refine wpAnyH_ready (rs := [11]) (by kernel_rfl) (by simp) ?_
          refine AllReadyH.cons rfl (fun K hK => ?_) (AllReadyH.nil)
          go_simp
          refine hK.out _ _ (Chg.drew ((((Chg.refl [] W).alloc _).alloc _).alloc _ |>.alloc _)) (fun hHeld => ?_)
          try simp only [Act.put, List.getElem_toArray, List.getElem_cons_zero, List.getElem_cons_succ, List.setIfInBounds_toArray, List.set_cons_zero, List.set_cons_succ]
          clear hK K
          refine wpAnyH_done (by kernel_rfl) ?_ _
          try simp only [Act.put, List.getElem_toArray, List.getElem_cons_zero, List.getElem_cons_succ, List.setIfInBounds_toArray, List.set_cons_zero, List.set_cons_succ]
          refine fin _ _ _ _ _ (FR _ _ _ _ ?_ ?_ ?_ ?_ ?_) <;> omega
    · go_simp
      refine hK.out _ _ (hHeld.alloc _) (fun hHeld => ?_)
      try simp only [Act.put, List.getElem_toArray, List.getElem_cons_zero, List.getElem_cons_succ, List.setIfInBounds_toArray, List.set_cons_zero, List.set_cons_succ]
      clear hK K
      refine wpAnyH_ready (rs := [4, 5, 6]) (by kernel_rfl) (by simp) ?_
      refine AllReadyH.cons rfl (fun K hK => ?_) (AllReadyH.cons rfl (fun K hK => ?_) (AllReadyH.cons rfl (fun K hK => ?_) (AllReadyH.nil)))
      · go_simp
        refine hK.out _ _ (hHeld.alloc _) (fun hHeld => ?_)
        try simp only [Act.put, List.getElem_toArray, List.getElem_cons_zero, List.getElem_cons_succ, List.setIfInBounds_toArray, List.set_cons_zero, List.set_cons_succ]
        clear hK K
        refine wpAnyH_ready (rs := [5, 6]) (by kernel_rfl) (by simp) ?_
        refine AllReadyH.cons rfl (fun K hK => ?_) (AllReadyH.cons rfl (fun K hK => ?_) (AllReadyH.nil))
        · go_simp
          refine hK.out _ _ (hHeld.alloc _) (fun hHeld => ?_)
          try simp only [Act.put, List.getElem_toArray, List.getElem_cons_zero, List.getElem_cons_succ, List.setIfInBounds_toArray, List.set_cons_zero, List.set_cons_succ]
          clear hK K
          refine wpAnyH_ready (rs := [6]) (by kernel_rfl) (by simp) ?_
          refine AllReadyH.cons rfl (fun K hK => ?_) (AllReadyH.nil)
          go_simp
          refine hK.out _ _ (hHeld.alloc _) (fun hHeld => ?_)
          try simp only [Act.put, List.getElem_toArray, List.getElem_cons_zero, List.getElem_cons_succ, List.setIfInBounds_toArray, List.set_cons_zero, List.set_cons_succ]
          clear hK K
          refine wpAnyH_ready (rs := [8]) (by kernel_rfl) (by simp) ?_
          refine AllReadyH.cons rfl (fun K hK => ?_) (AllReadyH.nil)
          go_simp
          refine hK.out _ _ (Chg.drew ((((Chg.refl [] W).alloc _).alloc _).alloc _ |>.alloc _)) (fun hHeld => ?_)
          try simp only [Act.put, List.getElem_toArray, List.getElem_cons_zero, List.getElem_cons_succ, List.setIfInBounds_toArray, List.set_cons_zero, List.set_cons_succ]
          clear hK K
          refine wpAnyH_ready (rs := [9]) (by kernel_rfl) (by simp) ?_
          refine AllReadyH.cons rfl (fun K hK => ?_) (AllReadyH.nil)
          go_simp
          refine hK.out _ _ (Chg.drew ((((Chg.refl [] W).alloc _).alloc _).alloc _ |>.alloc _)) (fun hHeld => ?_)
          try simp only [Act.put, List.getElem_toArray, List.getElem_cons_zero, List.getElem_cons_succ, List.setIfInBounds_toArray, List.set_cons_zero, List.set_cons_succ]
          clear hK K
          refine wpAnyH_ready (rs := [10]) (by kernel_rfl) (by simp) ?_
          refine AllReadyH.cons rfl (fun K hK => ?_) (AllReadyH.nil)
          go_simp
          refine hK.out _ _ (Chg.drew ((((Chg.refl [] W).alloc _).alloc _).alloc _ |>.alloc _)) (fun hHeld => ?_)
          try simp only [Act.put, List.getElem_toArray, List.getElem_cons_zero, List.getElem_cons_succ, List.setIfInBounds_toArray, List.set_cons_zero, List.set_cons_succ]
          clear hK K
          refine wpAnyH_ready (rs := [11]) (by kernel_rfl) (by simp) ?_
          refine AllReadyH.cons rfl (fun K hK => ?_) (AllReadyH.nil)
          go_simp
          refine hK.out _ _ (Chg.drew ((((Chg.refl [] W).alloc _).alloc _).alloc _ |>.alloc _)) (fun hHeld => ?_)
          try simp only [Act.put, List.getElem_toArray, List.getElem_cons_zero, List.getElem_cons_succ, List.setIfInBounds_toArray, List.set_cons_zero, List.set_cons_succ]
          clear hK K
          refine wpAnyH_done (by kernel_rfl) ?_ _
          try simp only [Act.put, List.getElem_toArray, List.getElem_cons_zero, List.getElem_cons_succ, List.setIfInBounds_toArray, List.set_cons_zero, List.set_cons_succ]
          refine fin _ _ _ _ _ (FR _ _ _ _ ?_ ?_ ?_ ?_ ?_) <;> omega
        · go_simp
          refine hK.out _ _ (hHeld.alloc _) (fun hHeld => ?_)
          try simp only [Act.put, List.getElem_toArray, List.getElem_cons_zero, List.getElem_cons_succ, List.setIfInBounds_toArray, List.set_cons_zero, List.set_cons_succ]
          clear hK K
          refine wpAnyH_ready (rs := [5]) (by kernel_rfl) (by simp) ?_
          refine AllReadyH.cons rfl (fun K hK => ?_) (AllReadyH.nil)
          go_simp
          refine hK.out _ _ (hHeld.alloc _) (fun hHeld => ?_)
          try simp only [Act.put, List.getElem_toArray, List.getElem_cons_zero, List.getElem_cons_succ, List.setIfInBounds_toArray, List.set_cons_zero, List.set_cons_succ]
          clear hK K
          refine wpAnyH_ready (rs := [8]) (by kernel_rfl) (by simp) ?_
          refine AllReadyH.cons rfl (fun K hK => ?_) (AllReadyH.nil)
          go_simp
          refine hK.out _ _ (Chg.drew ((((Chg.refl [] W).alloc _).alloc _).alloc _ |>.alloc _)) (fun hHeld => ?_)
          try simp only [Act.put, List.getElem_toArray, List.getElem_cons_zero, List.getElem_cons_succ, List.setIfInBounds_toArray, List.set_cons_zero, List.set_cons_succ]
          clear hK K
          refine wpAnyH_ready (rs := [9]) (by kernel_rfl) (by simp) ?_
          refine AllReadyH.cons rfl (fun K hK => ?_) (AllReadyH.nil)
          go_simp
          refine hK.out _ _ (Chg.drew ((((Chg.refl [] W).alloc _).alloc _).alloc _ |>.alloc _)) (fun hHeld => ?_)
          try simp only [Act.put, List.getElem_toArray, List.getElem_cons_zero, List.getElem_cons_succ, List.setIfInBounds_toArray, List.set_cons_zero, List.set_cons_succ]
          clear hK K
          refine wpAnyH_ready (rs := [10]) (by kernel_rfl) (by simp) ?_
          refine AllReadyH.cons rfl (fun K hK => ?_) (AllReadyH.nil)
          go_simp
          refine hK.out _ _ (Chg.drew ((((Chg.refl [] W).alloc _).alloc _).alloc _ |>.alloc _)) (fun hHeld => ?_)
          try simp only [Act.put, List.getElem_toArray, List.getElem_cons_zero, List.getElem_cons_succ, List.setIfInBounds_toArray, List.set_cons_zero, List.set_cons_succ]
          clear hK K
          refine wpAnyH_ready (rs := [11]) (by kernel_rfl) (by simp) ?_
          refine AllReadyH.cons rfl (fun K hK => ?_) (AllReadyH.nil)
          go_simp
          refine hK.out _ _ (Chg.drew ((((Chg.refl [] W).alloc _).alloc _).alloc _ |>.alloc _)) (fun hHeld => ?_)
          try simp only [Act.put, List.getElem_toArray, List.getElem_cons_zero, List.getElem_cons_succ, List.setIfInBounds_toArray, List.set_cons_zero, List.set_cons_succ]
          clear hK K
          refine wpAnyH_done (by kernel_rfl) ?_ _
          try simp only [Act.put, List.getElem_toArray, List.getElem_cons_zero, List.getElem_cons_succ, List.setIfInBounds_toArray, List.set_cons_zero, List.set_cons_succ]
          refine fin _ _ _ _ _ (FR _ _ _ _ ?_ ?_ ?_ ?_ ?_) <;> omega
      · go_simp
        refine hK.out _ _ (hHeld.alloc _) (fun hHeld => ?_)
        try simp only [Act.put, List.getElem_toArray, List.getElem_cons_zero, List.getElem_cons_succ, List.setIfInBounds_toArray, List.set_cons_zero, List.set_cons_succ]
        clear hK K
        refine wpAnyH_ready (rs := [4, 6]) (by kernel_rfl) (by simp) ?_
        refine AllReadyH.cons rfl (fun K hK => ?_) (AllReadyH.cons rfl (fun K hK => ?_) (AllReadyH.nil))
        · go_simp
          refine hK.out _ _ (hHeld.alloc _) (fun hHeld => ?_)
          try simp only [Act.put, List.getElem_toArray, List.getElem_cons_zero, List.getElem_cons_succ, List.setIfInBounds_toArray, List.set_cons_zero, List.set_cons_succ]
          clear hK K
          refine wpAnyH_ready (rs := [6]) (by kernel_rfl) (by simp) ?_
          refine AllReadyH.cons rfl (fun K hK => ?_) (AllReadyH.nil)
          go_simp
          refine hK.out _ _ (hHeld.alloc _) (fun hHeld => ?_)
          try simp only [Act.put, List.getElem_toArray, List.getElem_cons_zero, List.getElem_cons_succ, List.setIfInBounds_toArray, List.set_cons_zero, List.set_cons_succ]
          clear hK K
          refine wpAnyH_ready (rs := [8]) (by kernel_rfl) (by simp) ?_
          refine AllReadyH.cons rfl (fun K hK => ?_) (AllReadyH.nil)
          go_simp
          refine hK.out _ _ (Chg.drew ((((Chg.refl [] W).alloc _).alloc _).alloc _ |>.alloc _)) (fun hHeld => ?_)
          try simp only [Act.put, List.getElem_toArray, List.getElem_cons_zero, List.getElem_cons_succ, List.setIfInBounds_toArray, List.set_cons_zero, List.set_cons_succ]
          clear hK K
          refine wpAnyH_ready (rs := [9]) (by kernel_rfl) (by simp) ?_
          refine AllReadyH.cons rfl (fun K hK => ?_) (AllReadyH.nil)
          go_simp
          refine hK.out _ _ (Chg.drew ((((Chg.refl [] W).alloc _).alloc _).alloc _ |>.alloc _)) (fun hHeld => ?_)
          try simp only [Act.put, List.getElem_toArray, List.getElem_cons_zero, List.getElem_cons_succ, List.setIfInBounds_toArray, List.set_cons_zero, List.set_cons_succ]
          clear hK K
          refine wpAnyH_ready (rs := [10]) (by kernel_rfl) (by simp) ?_
          refine AllReadyH.cons rfl (fun K hK => ?_) (AllReadyH.nil)
          go_simp
          refine hK.out _ _ (Chg.drew ((((Chg.refl [] W).alloc _).alloc _).alloc _ |>.alloc _)) (fun hHeld => ?_)
          try simp only [Act.put, List.getElem_toArray, List.getElem_cons_zero, List.getElem_cons_succ, List.setIfInBounds_toArray, List.set_cons_zero, List.set_cons_succ]
          clear hK K
          refine wpAnyH_ready (rs := [11]) (by kernel_rfl) (by simp) ?_
          refine AllReadyH.cons rfl (fun K hK => ?_) (AllReadyH.nil)
          go_simp
          refine hK.out _ _ (Chg.drew ((((Chg.refl [] W).alloc _).alloc _).alloc _ |>.alloc _)) (fun hHeld => ?_)
          try simp only [Act.put, List.getElem_toArray, List.getElem_cons_zero, List.getElem_cons_succ, List.setIfInBounds_toArray, List.set_cons_zero, List.set_cons_succ]
          clear hK K
          refine wpAnyH_done (by kernel_rfl) ?_ _
          try simp only [Act.put, List.getElem_toArray, List.getElem_cons_zero, List.getElem_cons_succ, List.setIfInBounds_toArray, List.set_cons_zero, List.set_cons_succ]
          refine fin _ _ _ _ _ (FR _ _ _ _ ?_ ?_ ?_ ?_ ?_) <;> omega
        · go_simp
          refine hK.out _ _ (hHeld.alloc _) (fun hHeld => ?_)
          try simp only [Act.put, List.getElem_toArray, List.getElem_cons_zero, List.getElem_cons_succ, List.setIfInBounds_toArray, List.set_cons_zero, List.set_cons_succ]
          clear hK K
          refine wpAnyH_ready (rs := [4]) (by kernel_rfl) (by simp) ?_
          refine AllReadyH.cons rfl (fun K hK => ?_) (AllReadyH.nil)
          go_simp
          refine hK.out _ _ (hHeld.alloc _) (fun hHeld => ?_)
          try simp only [Act.put, List.getElem_toArray, List.getElem_cons_zero, List.getElem_cons_succ, List.setIfInBounds_toArray, List.set_cons_zero, List.set_cons_succ]
          clear hK K
          refine wpAnyH_ready (rs := [8]) (by kernel_rfl) (by simp) ?_
          refine AllReadyH.cons rfl (fun K hK => ?_) (AllReadyH.nil)
          go_simp
          refine hK.out _ _ (Chg.drew ((((Chg.refl [] W).alloc _).alloc _).alloc _ |>.alloc _)) (fun hHeld => ?_)
          try simp only [Act.put, List.getElem_toArray, List.getElem_cons_zero, List.getElem_cons_succ, List.setIfInBounds_toArray, List.set_cons_zero, List.set_cons_succ]
          clear hK K
          refine wpAnyH_ready (rs := [9]) (by kernel_rfl) (by simp) ?_
          refine AllReadyH.cons rfl (fun K hK => ?_) (AllReadyH.nil)
          go_simp
          refine hK.out _ _ (Chg.drew ((((Chg.refl [] W).alloc _).alloc _).alloc _ |>.alloc _)) (fun hHeld => ?_)
          try simp only [Act.put, List.getElem_toArray, List.getElem_cons_zero, List.getElem_cons_succ, List.setIfInBounds_toArray, List.set_cons_zero, List.set_cons_succ]
          clear hK K
          refine wpAnyH_ready (rs := [10]) (by kernel_rfl) (by simp) ?_
          refine AllReadyH.cons rfl (fun K hK => ?_) (AllReadyH.nil)
          go_simp
          refine hK.out _ _ (Chg.drew ((((Chg.refl [] W).alloc _).alloc _).alloc _ |>.alloc _)) (fun hHeld => ?_)
          try simp only [Act.put, List.getElem_toArray, List.getElem_cons_zero, List.getElem_cons_succ, List.setIfInBounds_toArray, List.set_cons_zero, List.set_cons_succ]
          clear hK K
          refine wpAnyH_ready (rs := [11]) (by kernel_rfl) (by simp) ?_
          refine AllReadyH.cons rfl (fun K hK => ?_) (AllReadyH.nil)
          go_simp
          refine hK.out _ _ (Chg.drew ((((Chg.refl [] W).alloc _).alloc _).alloc _ |>.alloc _)) (fun hHeld => ?_)
          try simp only [Act.put, List.getElem_toArray, List.getElem_cons_zero, List.getElem_cons_succ, List.setIfInBounds_toArray, List.set_cons_zero, List.set_cons_succ]
          clear hK K
          refine wpAnyH_done (by kernel_rfl) ?_ _
          try simp only [Act.put, List.getElem_toArray, List.getElem_cons_zero, List.getElem_cons_succ, List.setIfInBounds_toArray, List.set_cons_zero, List.set_cons_succ]
          refine fin _ _ _ _ _ (FR _ _ _ _ ?_ ?_ ?_ ?_ ?_) <;> omega
      · go_simp
        refine hK.out _ _ (hHeld.alloc _) (fun hHeld => ?_)
        try simp only [Act.put, List.getElem_toArray, List.getElem_cons_zero, List.getElem_cons_succ, List.setIfInBounds_toArray, List.set_cons_zero, List.set_cons_succ]
        clear hK K
        refine wpAnyH_ready (rs := [4, 5]) (by kernel_rfl) (by simp) ?_
        refine AllReadyH.cons rfl (fun K hK => ?_) (AllReadyH.cons rfl (fun K hK => ?_) (AllReadyH.nil))
        · go_simp
          refine hK.out _ _ (hHeld.alloc _) (fun hHeld => ?_)
          try simp only [Act.put, List.getElem_toArray, List.getElem_cons_zero, List.getElem_cons_succ, List.setIfInBounds_toArray, List.set_cons_zero, List.set_cons_succ]
          clear hK K
          refine wpAnyH_ready (rs := [5]) (by kernel_rfl) (by simp) ?_
          refine AllReadyH.cons rfl (fun K hK => ?_) (AllReadyH.nil)
          go_simp
          refine hK.out _ _ (hHeld.alloc _) (fun hHeld => ?_)
          try simp only [Act.put, List.getElem_toArray, List.getElem_cons_zero, List.getElem_cons_succ, List.setIfInBounds_toArray, List.set_cons_zero, List.set_cons_succ]
          clear hK K
          refine wpAnyH_ready (rs := [8]) (by kernel_rfl) (by simp) ?_
          refine AllReadyH.cons rfl (fun K hK => ?_) (AllReadyH.nil)
          go_simp
          refine hK.out _ _ (Chg.drew ((((Chg.refl [] W).alloc _).alloc _).alloc _ |>.alloc _)) (fun hHeld => ?_)
          try simp only [Act.put, List.getElem_toArray, List.getElem_cons_zero, List.getElem_cons_succ, List.setIfInBounds_toArray, List.set_cons_zero, List.set_cons_succ]
          clear hK K
          refine wpAnyH_ready (rs := [9]) (by kernel_rfl) (by simp) ?_
          refine AllReadyH.cons rfl (fun K hK => ?_) (AllReadyH.nil)
          go_simp
          refine hK.out _ _ (Chg.drew ((((Chg.refl [] W).alloc _).alloc _).alloc _ |>.alloc _)) (fun hHeld => ?_)
          try simp only [Act.put, List.getElem_toArray, List.getElem_cons_zero, List.getElem_cons_succ, List.setIfInBounds_toArray, List.set_cons_zero, List.set_cons_succ]
          clear hK K
          refine wpAnyH_ready (rs := [10]) (by kernel_rfl) (by simp) ?_
          refine AllReadyH.cons rfl (fun K hK => ?_) (AllReadyH.nil)
          go_simp
          refine hK.out _ _ (Chg.drew ((((Chg.refl [] W).alloc _).alloc _).alloc _ |>.alloc _)) (fun hHeld => ?_)
          try simp only [Act.put, List.getElem_toArray, List.getElem_cons_zero, List.getElem_cons_succ, List.setIfInBounds_toArray, List.set_cons_zero, List.set_cons_succ]
          clear hK K
          refine wpAnyH_ready (rs := [11]) (by kernel_rfl) (by simp) ?_
          refine AllReadyH.cons rfl (fun K hK => ?_) (AllReadyH.nil)
          go_simp
          refine hK.out _ _ (Chg.drew ((((Chg.refl [] W).alloc _).alloc _).alloc _ |>.alloc _)) (fun hHeld => ?_)
          try simp only [Act.put, List.getElem_toArray, List.getElem_cons_zero, List.getElem_cons_succ, List.setIfInBounds_toArray, List.set_cons_zero, List.set_cons_succ]
          clear hK K
          refine wpAnyH_done (by kernel_rfl) ?_ _
          try simp only [Act.put, List.getElem_toArray, List.getElem_cons_zero, List.getElem_cons_succ, List.setIfInBounds_toArray, List.set_cons_zero, List.set_cons_succ]
          refine fin _ _ _ _ _ (FR _ _ _ _ ?_ ?_ ?_ ?_ ?_) <;> omega
        · go_simp
          refine hK.out _ _ (hHeld.alloc _) (fun hHeld => ?_)
          try simp only [Act.put, List.getElem_toArray, List.getElem_cons_zero, List.getElem_cons_succ, List.setIfInBounds_toArray, List.set_cons_zero, List.set_cons_succ]
          clear hK K
          refine wpAnyH_ready (rs := [4]) (by kernel_rfl) (by simp) ?_
          refine AllReadyH.cons rfl (fun K hK => ?_) (AllReadyH.nil)
          go_simp
          refine hK.out _ _ (hHeld.alloc _) (fun hHeld => ?_)
          try simp only [Act.put, List.getElem_toArray, List.getElem_cons_zero, List.getElem_cons_succ, List.setIfInBounds_toArray, List.set_cons_zero, List.set_cons_succ]
          clear hK K
          refine wpAnyH_ready (rs := [8]) (by kernel_rfl) (by simp) ?_
          refine AllReadyH.cons rfl (fun K hK => ?_) (AllReadyH.nil)
          go_simp
          refine hK.out _ _ (Chg.drew ((((Chg.refl [] W).alloc _).alloc _).alloc _ |>.alloc _)) (fun hHeld => ?_)
          try simp only [Act.put, List.getElem_toArray, List.getElem_cons_zero, List.getElem_cons_succ, List.setIfInBounds_toArray, List.set_cons_zero, List.set_cons_succ]
          clear hK K
          refine wpAnyH_ready (rs := [9]) (by kernel_rfl) (by simp) ?_
          refine AllReadyH.cons rfl (fun K hK => ?_) (AllReadyH.nil)
          go_simp
          refine hK.out _ _ (Chg.drew ((((Chg.refl [] W).alloc _).alloc _).alloc _ |>.alloc _)) (fun hHeld => ?_)
          try simp only [Act.put, List.getElem_toArray, List.getElem_cons_zero, List.getElem_cons_succ, List.setIfInBounds_toArray, List.set_cons_zero, List.set_cons_succ]
          clear hK K
          refine wpAnyH_ready (rs := [10]) (by kernel_rfl) (by simp) ?_
          refine AllReadyH.cons rfl (fun K hK => ?_) (AllReadyH.nil)
          go_simp
          refine hK.out _ _ (Chg.drew ((((Chg.refl [] W).alloc _).alloc _).alloc _ |>.alloc _)) (fun hHeld => ?_)
          try simp only [Act.put, List.getElem_toArray, List.getElem_cons_zero, List.getElem_cons_succ, List.setIfInBounds_toArray, List.set_cons_zero, List.set_cons_succ]
          clear hK K
          refine wpAnyH_ready (rs := [11]) (by kernel_rfl) (by simp) ?_
          refine AllReadyH.cons rfl (fun K hK => ?_) (AllReadyH.nil)
          go_simp
          refine hK.out _ _ (Chg.drew ((((Chg.refl [] W).alloc _).alloc _).alloc _ |>.alloc _)) (fun hHeld => ?_)
          try simp only [Act.put, List.getElem_toArray, List.getElem_cons_zero, List.getElem_cons_succ, List.setIfInBounds_toArray, List.set_cons_zero, List.set_cons_succ]
          clear hK K
          refine wpAnyH_done (by kernel_rfl) ?_ _
          try simp only [Act.put, List.getElem_toArray, List.getElem_cons_zero, List.getElem_cons_succ, List.setIfInBounds_toArray, List.set_cons_zero, List.set_cons_succ]
          refine fin _ _ _ _ _ (FR _ _ _ _ ?_ ?_ ?_ ?_ ?_) <;> omega
  · rintro a b c d W5 ⟨n1, n2, n3, n4, n5, n6, ha, hb, hc, hd, hch, la, lb, lc, ld⟩
    have ac1 := ha.cell 1
    have af1 := ha.frozen 1
    have ac2 := ha.cell 2
    have af2 := ha.frozen 2
    have bc1 := hb.cell 1
    have bf1 := hb.frozen 1
    have bc2 := hb.cell 2
    have bf2 := hb.frozen 2
    have cc1 := hc.cell 1
    have cf1 := hc.frozen 1
    have cc2 := hc.cell 2
    have cf2 := hc.frozen 2
    have dc1 := hd.cell 1
    have df1 := hd.frozen 1
    have dc2 := hd.cell 2
    have df2 := hd.frozen 2
    simp at ac1 ac2 bc1 bc2 cc1 cc2 dc1 dc2
    have m1 := Ne.symm n1; have m2 := Ne.symm n2; have m3 := Ne.symm n3; have m4 := Ne.symm n4; have m5 := Ne.symm n5; have m6 := Ne.symm n6
    have Ha : Hid (Blk ((((((((W5.setCell ⟨a, 1, none⟩ (.int .i64 5)).setCell ⟨a, 2, none⟩ (.int .i64 6)).setCell ⟨b, 1, none⟩ (.int .i64 5)).setCell ⟨b, 2, none⟩ (.int .i64 5)).setCell ⟨c, 1, none⟩ (.int .i64 6)).setCell ⟨c, 2, none⟩ (.int .i64 5)).setCell ⟨d, 1, none⟩ (.int .i64 5)).setCell ⟨d, 2, none⟩ (.int .i64 7)) a 55 #[.bool true, .int .i64 5, .int .i64 6, .int .i64 (-1), .int .i64 (-1), .int .i64 (-1), .int .i64 (-1)]) := Lib.hid ((((((((ha.set_ 1 _).set_ 2 _).far (p := ⟨b, 1, none⟩) n1 _).far (p := ⟨b, 2, none⟩) n1 _).far (p := ⟨c, 1, none⟩) n2 _).far (p := ⟨c, 2, none⟩) n2 _).far (p := ⟨d, 1, none⟩) n3 _).far (p := ⟨d, 2, none⟩) n3 _)
    have Hb : Hid (Blk ((((((((W5.setCell ⟨a, 1, none⟩ (.int .i64 5)).setCell ⟨a, 2, none⟩ (.int .i64 6)).setCell ⟨b, 1, none⟩ (.int .i64 5)).setCell ⟨b, 2, none⟩ (.int .i64 5)).setCell ⟨c, 1, none⟩ (.int .i64 6)).setCell ⟨c, 2, none⟩ (.int .i64 5)).setCell ⟨d, 1, none⟩ (.int .i64 5)).setCell ⟨d, 2, none⟩ (.int .i64 7)) b 55 #[.bool true, .int .i64 5, .int .i64 5, .int .i64 (-1), .int .i64 (-1), .int .i64 (-1), .int .i64 (-1)]) := Lib.hid ((((((((hb.far (p := ⟨a, 1, none⟩) (Ne.symm n1) _).far (p := ⟨a, 2, none⟩) (Ne.symm n1) _).set_ 1 _).set_ 2 _).far (p := ⟨c, 1, none⟩) n4 _).far (p := ⟨c, 2, none⟩) n4 _).far (p := ⟨d, 1, none⟩) n5 _).far (p := ⟨d, 2, none⟩) n5 _)
    have Hc : Hid (Blk ((((((((W5.setCell ⟨a, 1, none⟩ (.int .i64 5)).setCell ⟨a, 2, none⟩ (.int .i64 6)).setCell ⟨b, 1, none⟩ (.int .i64 5)).setCell ⟨b, 2, none⟩ (.int .i64 5)).setCell ⟨c, 1, none⟩ (.int .i64 6)).setCell ⟨c, 2, none⟩ (.int .i64 5)).setCell ⟨d, 1, none⟩ (.int .i64 5)).setCell ⟨d, 2, none⟩ (.int .i64 7)) c 55 #[.bool true, .int .i64 6, .int .i64 5, .int .i64 (-1), .int .i64 (-1), .int .i64 (-1), .int .i64 (-1)]) := Lib.hid ((((((((hc.far (p := ⟨a, 1, none⟩) (Ne.symm n2) _).far (p := ⟨a, 2, none⟩) (Ne.symm n2) _).far (p := ⟨b, 1, none⟩) (Ne.symm n4) _).far (p := ⟨b, 2, none⟩) (Ne.symm n4) _).set_ 1 _).set_ 2 _).far (p := ⟨d, 1, none⟩) n6 _).far (p := ⟨d, 2, none⟩) n6 _)
    have Hd : Hid (Blk ((((((((W5.setCell ⟨a, 1, none⟩ (.int .i64 5)).setCell ⟨a, 2, none⟩ (.int .i64 6)).setCell ⟨b, 1, none⟩ (.int .i64 5)).setCell ⟨b, 2, none⟩ (.int .i64 5)).setCell ⟨c, 1, none⟩ (.int .i64 6)).setCell ⟨c, 2, none⟩ (.int .i64 5)).setCell ⟨d, 1, none⟩ (.int .i64 5)).setCell ⟨d, 2, none⟩ (.int .i64 7)) d 55 #[.bool true, .int .i64 5, .int .i64 7, .int .i64 (-1), .int .i64 (-1), .int .i64 (-1), .int .i64 (-1)]) := Lib.hid ((((((((hd.far (p := ⟨a, 1, none⟩) (Ne.symm n3) _).far (p := ⟨a, 2, none⟩) (Ne.symm n3) _).far (p := ⟨b, 1, none⟩) (Ne.symm n5) _).far (p := ⟨b, 2, none⟩) (Ne.symm n5) _).far (p := ⟨c, 1, none⟩) (Ne.symm n6) _).far (p := ⟨c, 2, none⟩) (Ne.symm n6) _).set_ 1 _).set_ 2 _)
    have HC8 : Hid (Chg [] w ((((((((W5.setCell ⟨a, 1, none⟩ (.int .i64 5)).setCell ⟨a, 2, none⟩ (.int .i64 6)).setCell ⟨b, 1, none⟩ (.int .i64 5)).setCell ⟨b, 2, none⟩ (.int .i64 5)).setCell ⟨c, 1, none⟩ (.int .i64 6)).setCell ⟨c, 2, none⟩ (.int .i64 5)).setCell ⟨d, 1, none⟩ (.int .i64 5)).setCell ⟨d, 2, none⟩ (.int .i64 7))) := Lib.hid ((((((((hch.setCell (.inr la) _).setCell (.inr la) _).setCell (.inr lb) _).setCell (.inr lb) _).setCell (.inr lc) _).setCell (.inr lc) _).setCell (.inr ld) _).setCell (.inr ld) _)
    clear ha hb hc hd hch la lb lc ld
    go_upto_region 4 with fail
    generalize ((((((((W5.setCell ⟨a, 1, none⟩ (.int .i64 5)).setCell ⟨a, 2, none⟩ (.int .i64 6)).setCell ⟨b, 1, none⟩ (.int .i64 5)).setCell ⟨b, 2, none⟩ (.int .i64 5)).setCell ⟨c, 1, none⟩ (.int .i64 6)).setCell ⟨c, 2, none⟩ (.int .i64 5)).setCell ⟨d, 1, none⟩ (.int .i64 5)).setCell ⟨d, 2, none⟩ (.int .i64 7)) = W8 at Ha Hb Hc Hd HC8 ⊢
    clear FR z0 z1 z2 z3 z4 z5 z6 n1 n2 n3 n4 n5 n6 m1 m2 m3 m4 m5 m6 ac1 af1 ac2 af2 bc1 bf1 bc2 bf2 cc1 cf1 cc2 cf2 dc1 df1 dc2 df2
    have pa0 := Ha.out.cell 0
    have pa1 := Ha.out.cell 1
    have pa2 := Ha.out.cell 2
    have pa3 := Ha.out.cell 3
    have pa4 := Ha.out.cell 4
    have pa5 := Ha.out.cell 5
    have pa6 := Ha.out.cell 6
    simp at pa0 pa1 pa2 pa3 pa4 pa5 pa6
    have pb0 := Hb.out.cell 0
    have pb1 := Hb.out.cell 1
    have pb2 := Hb.out.cell 2
    have pb3 := Hb.out.cell 3
    have pb4 := Hb.out.cell 4
    have pb5 := Hb.out.cell 5
    have pb6 := Hb.out.cell 6
    simp at pb0 pb1 pb2 pb3 pb4 pb5 pb6
    have pc0 := Hc.out.cell 0
    have pc1 := Hc.out.cell 1
    have pc2 := Hc.out.cell 2
    have pc3 := Hc.out.cell 3
    have pc4 := Hc.out.cell 4
    have pc5 := Hc.out.cell 5
    have pc6 := Hc.out.cell 6
    simp at pc0 pc1 pc2 pc3 pc4 pc5 pc6
    have pd0 := Hd.out.cell 0
    have pd1 := Hd.out.cell 1
    have pd2 := Hd.out.cell 2
    have pd3 := Hd.out.cell 3
    have pd4 := Hd.out.cell 4
    have pd5 := Hd.out.cell 5
    have pd6 := Hd.out.cell 6
    simp at pd0 pd1 pd2 pd3 pd4 pd5 pd6
    go_wp2_with fail
    refine (make_any _ 4 4 fourL _ 4 4 fourT 5 4 _ ((Own.litg W8 55 7 #[.bool true, .int .i64 5, .int .i64 6, .int .i64 (-1), .int .i64 (-1), .int .i64 (-1), .int .i64 (-1), .bool true, .int .i64 5, .int .i64 5, .int .i64 (-1), .int .i64 (-1), .int .i64 (-1), .int .i64 (-1), .bool true, .int .i64 6, .int .i64 5, .int .i64 (-1), .int .i64 (-1), .int .i64 (-1), .int .i64 (-1), .bool true, .int .i64 5, .int .i64 7, .int .i64 (-1), .int .i64 (-1), .int .i64 (-1), .int .i64 (-1)] 4 W8.heap.size (lvs fourL) rfl rfl (by decide) rfl).chg ((Chg.refl [] _).alloc (.cells #[.int .i64 2, .int .i64 1, .int .i64 2, .int .i64 2] 3)) (fun _ _ => List.not_mem_nil)).rd (by decide) (Own.litg (W8.alloc (.cells #[.bool true, .int .i64 5, .int .i64 6, .int .i64 (-1), .int .i64 (-1), .int .i64 (-1), .int .i64 (-1), .bool true, .int .i64 5, .int .i64 5, .int .i64 (-1), .int .i64 (-1), .int .i64 (-1), .int .i64 (-1), .bool true, .int .i64 6, .int .i64 5, .int .i64 (-1), .int .i64 (-1), .int .i64 (-1), .int .i64 (-1), .bool true, .int .i64 5, .int .i64 7, .int .i64 (-1), .int .i64 (-1), .int .i64 (-1), .int .i64 (-1)] 55)) 3 1 #[.int .i64 2, .int .i64 1, .int .i64 2, .int .i64 2] 4 (W8.heap.size + 1) (iv fourT) (by simp) rfl (by decide) rfl).rd (by decide) (by decide)).mono ?_
    rintro e w2 ⟨A2, N, c2, A3, N3, c3, E, rfl, hE, ho, hN, hog, hN3, hc2, hn2, hn3⟩
    rw [four_e] at hE
    rw [four_l] at ho hN
    rw [four_g] at hog hN3
    obtain rfl : N = 4 := hN
    obtain rfl : N3 = 2 := hN3
    subst hE
    obtain ⟨g, rfl, _⟩ := ho.lk (j := 0) rfl
    obtain ⟨gg, rfl, _⟩ := hog.lk (j := 0) rfl
    have HC2 : Hid (Chg [] w w2) := Lib.hid (((HC8.out.alloc _).alloc _).trans0 hc2)
    have y1 := ho.cl (j := 0) (k := 5) (u := .int .i64 3) rfl (by decide) rfl
    have y2 := ho.cl (j := 3) (k := 3) (u := .int .i64 0) rfl (by decide) rfl
    simp at y1 y2
    have v0 := hog.cl (j := 0) (k := 0) (u := .bool true) rfl (by decide) rfl
    have v1 := hog.cl (j := 0) (k := 1) (u := .int .i64 1) rfl (by decide) rfl
    have v2 := hog.cl (j := 0) (k := 2) (u := .int .i64 5) rfl (by decide) rfl
    have v3 := hog.cl (j := 0) (k := 3) (u := .int .i64 (-1)) rfl (by decide) rfl
    have v4 := hog.cl (j := 0) (k := 4) (u := .int .i64 (-1)) rfl (by decide) rfl
    have v5 := hog.cl (j := 0) (k := 5) (u := .int .i64 1) rfl (by decide) rfl
    have v6 := hog.cl (j := 0) (k := 6) (u := .int .i64 5) rfl (by decide) rfl
    have v7 := hog.cl (j := 1) (k := 0) (u := .bool true) rfl (by decide) rfl
    have v8 := hog.cl (j := 1) (k := 1) (u := .int .i64 2) rfl (by decide) rfl
    have v9 := hog.cl (j := 1) (k := 2) (u := .int .i64 5) rfl (by decide) rfl
    have v10 := hog.cl (j := 1) (k := 3) (u := .int .i64 0) rfl (by decide) rfl
    have v11 := hog.cl (j := 1) (k := 4) (u := .int .i64 2) rfl (by decide) rfl
    have v12 := hog.cl (j := 1) (k := 5) (u := .int .i64 (-1)) rfl (by decide) rfl
    have v13 := hog.cl (j := 1) (k := 6) (u := .int .i64 (-1)) rfl (by decide) rfl
    simp at v0 v1 v2 v3 v4 v5 v6 v7 v8 v9 v10 v11 v12 v13
    have HO := Lib.hid ho
    have HOG := Lib.hid hog
    have qg0 : ∀ w, (binOp .neq 58 (.agg #[.bool true, .int .i64 1, .int .i64 5, .int .i64 (-1), .int .i64 (-1), .int .i64 1, .int .i64 5]) (.agg #[.bool true, .int .i64 1, .int .i64 5, .int .i64 (-1), .int .i64 (-1), .int .i64 1, .int .i64 5])).run Try.prog w = .ok (.bool false) w := fun w => gr_neq ⟨true, 1, 5, -1, -1, 1, 5⟩ ⟨true, 1, 5, -1, -1, 1, 5⟩ w
    have qg1 : ∀ w, (binOp .neq 58 (.agg #[.bool true, .int .i64 2, .int .i64 5, .int .i64 0, .int .i64 2, .int .i64 (-1), .int .i64 (-1)]) (.agg #[.bool true, .int .i64 2, .int .i64 5, .int .i64 0, .int .i64 2, .int .i64 (-1), .int .i64 (-1)])).run Try.prog w = .ok (.bool false) w := fun w => gr_neq ⟨true, 2, 5, 0, 2, -1, -1⟩ ⟨true, 2, 5, 0, 2, -1, -1⟩ w
    clear ho hog hc2 hn2 hn3 pa0 pa1 pa2 pa3 pa4 pa5 pa6 pb0 pb1 pb2 pb3 pb4 pb5 pb6 pc0 pc1 pc2 pc3 pc4 pc5 pc6 pd0 pd1 pd2 pd3 pd4 pd5 pd6 Ha Hb Hc Hd
    go_wp2_with fail
    refine wp_region_held_drew (S := fun w' => Chg [] w2 w') (by kernel_rfl) ((Chg.refl _ _).drew) (fun hHeld => ?_)
    refine wpAnyH_take (i := 0) (v := ?_) rfl (by kernel_rfl) (by kernel_rfl) (by kernel_rfl) (fun _ _ _ h => h) (Or.inl ⟨by rfl, ?_⟩) (by assumption) ?_
    rotate_left
    · (intro w' hSw; go_simp; try with_reducible rfl)
    try simp only [Act.put, List.getElem_toArray, List.getElem_cons_zero, List.setIfInBounds_toArray, List.set_cons_zero, List.set_cons_succ]
    refine wpAnyH_take (i := 1) (v := ?_) rfl (by kernel_rfl) (by kernel_rfl) (by kernel_rfl) (fun _ _ _ h => h) (Or.inl ⟨by rfl, ?_⟩) (by assumption) ?_
    rotate_left
    · (intro w' hSw; go_simp; try with_reducible rfl)
    try simp only [Act.put, List.getElem_toArray, List.getElem_cons_zero, List.getElem_cons_succ, List.setIfInBounds_toArray, List.set_cons_zero, List.set_cons_succ]
    refine wpAnyH_take (i := 2) (v := ?_) rfl (by kernel_rfl) (by kernel_rfl) (by kernel_rfl) (fun _ _ _ h => h) (Or.inl ⟨by rfl, ?_⟩) (by assumption) ?_
    rotate_left
    · (intro w' hSw; go_simp; try with_reducible rfl)
    try simp only [Act.put, List.getElem_toArray, List.getElem_cons_zero, List.getElem_cons_succ, List.setIfInBounds_toArray, List.set_cons_zero, List.set_cons_succ]
    refine wpAnyH_take (i := 3) (v := ?_) rfl (by kernel_rfl) (by kernel_rfl) (by kernel_rfl) (fun _ _ _ h => h) (Or.inl ⟨by rfl, ?_⟩) (by assumption) ?_
    rotate_left
    · (intro w' hSw; go_simp; try with_reducible rfl)
    try simp only [Act.put, List.getElem_toArray, List.getElem_cons_zero, List.getElem_cons_succ, List.setIfInBounds_toArray, List.set_cons_zero, List.set_cons_succ]
    refine wpAnyH_take (i := 4) (v := ?_) rfl (by kernel_rfl) (by kernel_rfl) (by kernel_rfl) (fun _ _ _ h => h) (Or.inl ⟨by rfl, ?_⟩) (by assumption) ?_
    rotate_left
    · (intro w' hSw; go_simp; try with_reducible rfl)
    try simp only [Act.put, List.getElem_toArray, List.getElem_cons_zero, List.getElem_cons_succ, List.setIfInBounds_toArray, List.set_cons_zero, List.set_cons_succ]
    refine wpAnyH_take (i := 5) (v := ?_) rfl (by kernel_rfl) (by kernel_rfl) (by kernel_rfl) (fun _ _ _ h => h) (Or.inl ⟨by rfl, ?_⟩) (by assumption) ?_
    rotate_left
    · (intro w' hSw; go_simp; try with_reducible rfl)
    try simp only [Act.put, List.getElem_toArray, List.getElem_cons_zero, List.getElem_cons_succ, List.setIfInBounds_toArray, List.set_cons_zero, List.set_cons_succ]
    refine wpAnyH_take (i := 6) (v := ?_) rfl (by kernel_rfl) (by kernel_rfl) (by kernel_rfl) (fun _ _ _ h => h) (Or.inl ⟨by rfl, ?_⟩) (by assumption) ?_
    rotate_left
    · (intro w' hSw; have q0 := hSw.cell v0 (fun h => List.not_mem_nil h); have q1 := hSw.cell v1 (fun h => List.not_mem_nil h); have q2 := hSw.cell v2 (fun h => List.not_mem_nil h); have q3 := hSw.cell v3 (fun h => List.not_mem_nil h); have q4 := hSw.cell v4 (fun h => List.not_mem_nil h); have q5 := hSw.cell v5 (fun h => List.not_mem_nil h); have q6 := hSw.cell v6 (fun h => List.not_mem_nil h); go_simp; try with_reducible rfl)
    try simp only [Act.put, List.getElem_toArray, List.getElem_cons_zero, List.getElem_cons_succ, List.setIfInBounds_toArray, List.set_cons_zero, List.set_cons_succ]
    refine wpAnyH_take (i := 7) (v := ?_) rfl (by kernel_rfl) (by kernel_rfl) (by kernel_rfl) (fun _ _ _ h => h) (Or.inl ⟨by rfl, ?_⟩) (by assumption) ?_
    rotate_left
    · (intro w' hSw; go_simp; try with_reducible rfl)
    try simp only [Act.put, List.getElem_toArray, List.getElem_cons_zero, List.getElem_cons_succ, List.setIfInBounds_toArray, List.set_cons_zero, List.set_cons_succ]
    refine wpAnyH_take (i := 8) (v := ?_) rfl (by kernel_rfl) (by kernel_rfl) (by kernel_rfl) (fun _ _ _ h => h) (Or.inl ⟨by rfl, ?_⟩) (by assumption) ?_
    rotate_left
    · (intro w' hSw; go_simp; try with_reducible rfl)
    try simp only [Act.put, List.getElem_toArray, List.getElem_cons_zero, List.getElem_cons_succ, List.setIfInBounds_toArray, List.set_cons_zero, List.set_cons_succ]
    refine wpAnyH_take (i := 9) (v := ?_) rfl (by kernel_rfl) (by kernel_rfl) (by kernel_rfl) (fun _ _ _ h => h) (Or.inl ⟨by rfl, ?_⟩) (by assumption) ?_
    rotate_left
    · (intro w' hSw; have q7 := hSw.cell v7 (fun h => List.not_mem_nil h); have q8 := hSw.cell v8 (fun h => List.not_mem_nil h); have q9 := hSw.cell v9 (fun h => List.not_mem_nil h); have q10 := hSw.cell v10 (fun h => List.not_mem_nil h); have q11 := hSw.cell v11 (fun h => List.not_mem_nil h); have q12 := hSw.cell v12 (fun h => List.not_mem_nil h); have q13 := hSw.cell v13 (fun h => List.not_mem_nil h); go_simp; try with_reducible rfl)
    try simp only [Act.put, List.getElem_toArray, List.getElem_cons_zero, List.getElem_cons_succ, List.setIfInBounds_toArray, List.set_cons_zero, List.set_cons_succ]
    refine wpAnyH_ready (rs := [10]) (by kernel_rfl) (by simp) ?_
    refine AllReadyH.cons rfl (fun K hK => ?_) (AllReadyH.nil)
    go_simp
    refine hK.out _ _ (hHeld.alloc _) (fun hHeld => ?_)
    try simp only [Act.put, List.getElem_toArray, List.getElem_cons_zero, List.getElem_cons_succ, List.setIfInBounds_toArray, List.set_cons_zero, List.set_cons_succ]
    clear hK K
    refine wpAnyH_take (i := 11) (v := ?_) rfl (by kernel_rfl) (by kernel_rfl) (by kernel_rfl) (fun _ _ _ h => h) (Or.inl ⟨by rfl, ?_⟩) (by assumption) ?_
    rotate_left
    · (intro w' hSw; go_simp; try with_reducible rfl)
    try simp only [Act.put, List.getElem_toArray, List.getElem_cons_zero, List.getElem_cons_succ, List.setIfInBounds_toArray, List.set_cons_zero, List.set_cons_succ]
    refine wpAnyH_done (by kernel_rfl) ?_ _
    try simp only [Act.put, List.getElem_toArray, List.getElem_cons_zero, List.getElem_cons_succ, List.setIfInBounds_toArray, List.set_cons_zero, List.set_cons_succ]
    go_wp2_with fail
    have hR := read_any (some ⟨g, 0, none⟩) 4 c2 fourO (some ⟨w2.heap.size + 1, 0, none⟩) 4 4 fourT (some ⟨w2.heap.size, 0, none⟩) 6 6 fourA 5 4 ((w2.alloc (.cells #[.bool false, .int .i64 0, .int .i64 0, .int .i64 0, .int .i64 0, .int .i64 0, .int .i64 0, .bool false, .int .i64 0, .int .i64 0, .int .i64 0, .int .i64 0, .int .i64 0, .int .i64 0, .bool false, .int .i64 0, .int .i64 0, .int .i64 0, .int .i64 0, .int .i64 0, .int .i64 0, .bool false, .int .i64 0, .int .i64 0, .int .i64 0, .int .i64 0, .int .i64 0, .int .i64 0, .bool true, .int .i64 1, .int .i64 5, .int .i64 (-1), .int .i64 (-1), .int .i64 1, .int .i64 5, .bool true, .int .i64 2, .int .i64 5, .int .i64 0, .int .i64 2, .int .i64 (-1), .int .i64 (-1)] 58)).alloc (.cells #[.int .i64 2, .int .i64 1, .int .i64 2, .int .i64 2] 3)).drew (HO.out.chg ((((Chg.refl [] w2).alloc _).alloc _).drew) (fun _ _ => List.not_mem_nil)).rd (by decide) ((Own.litg (w2.alloc (.cells #[.bool false, .int .i64 0, .int .i64 0, .int .i64 0, .int .i64 0, .int .i64 0, .int .i64 0, .bool false, .int .i64 0, .int .i64 0, .int .i64 0, .int .i64 0, .int .i64 0, .int .i64 0, .bool false, .int .i64 0, .int .i64 0, .int .i64 0, .int .i64 0, .int .i64 0, .int .i64 0, .bool false, .int .i64 0, .int .i64 0, .int .i64 0, .int .i64 0, .int .i64 0, .int .i64 0, .bool true, .int .i64 1, .int .i64 5, .int .i64 (-1), .int .i64 (-1), .int .i64 1, .int .i64 5, .bool true, .int .i64 2, .int .i64 5, .int .i64 0, .int .i64 2, .int .i64 (-1), .int .i64 (-1)] 58)) 3 1 #[.int .i64 2, .int .i64 1, .int .i64 2, .int .i64 2] 4 (w2.heap.size + 1) (iv fourT) (by simp) rfl (by decide) rfl).chg ((Chg.refl [] _).drew) (fun _ _ => List.not_mem_nil)).rd (by decide) (((Own.litg w2 58 7 #[.bool false, .int .i64 0, .int .i64 0, .int .i64 0, .int .i64 0, .int .i64 0, .int .i64 0, .bool false, .int .i64 0, .int .i64 0, .int .i64 0, .int .i64 0, .int .i64 0, .int .i64 0, .bool false, .int .i64 0, .int .i64 0, .int .i64 0, .int .i64 0, .int .i64 0, .int .i64 0, .bool false, .int .i64 0, .int .i64 0, .int .i64 0, .int .i64 0, .int .i64 0, .int .i64 0, .bool true, .int .i64 1, .int .i64 5, .int .i64 (-1), .int .i64 (-1), .int .i64 1, .int .i64 5, .bool true, .int .i64 2, .int .i64 5, .int .i64 0, .int .i64 2, .int .i64 (-1), .int .i64 (-1)] 6 w2.heap.size (lvs fourA) rfl rfl (by decide) rfl).chg ((Chg.refl [] _).alloc (.cells #[.int .i64 2, .int .i64 1, .int .i64 2, .int .i64 2] 3)) (fun _ _ => List.not_mem_nil)).chg ((Chg.refl [] _).drew) (fun _ _ => List.not_mem_nil)).rd (by decide)
    refine hR.mono ?_
    clear hR
    rintro e w3 ⟨A4, c4, rfl, hbr, hc4⟩
    rw [four_r] at hbr ⊢
    obtain ⟨rs, hor, hlr, hrr⟩ := hbr
    have HC3 : Hid (Chg [] w2 w3) := Lib.hid (((((Chg.refl [] w2).alloc _).alloc _).drew).trans0 hc4)
    obtain ⟨p, hp⟩ : ∃ p, rs[1]? = some p := ⟨_, List.getElem?_eq_getElem (by rw [hlr]; decide)⟩
    obtain ⟨hp1, hp3⟩ := hrr 1 p _ hp rfl
    obtain ⟨ad, hA4, c0, ck⟩ := hor.rd.bn hp
    have hr0 := hp3 0 (by decide)
    rw [four_f] at hr0
    have hn0 : p.2.n 0 = 2 := (rd_len hr0).symm
    obtain ⟨a0, x0, hA0, hx0, hcx⟩ := rd_int hr0 (show 1 < p.2.n 0 by omega)
    obtain rfl : x0 = 3 := by simpa using hx0.symm
    have k0 := ck 0 (by decide)
    rw [hA0, hn0] at k0
    have g4 : ∃ g4, ad = ⟨g4, 0, none⟩ := by
      rcases hor.form with ⟨h, _⟩ | ⟨g4, cur, h, _⟩
      · rw [h] at hA4; cases hA4
      · rw [h] at hA4; injection hA4 with hA4; exact ⟨g4, hA4.symm⟩
    obtain ⟨g4, rfl⟩ := g4
    subst hA4
    simp [Addr.add] at k0
    have hcx2 : w3.cell? ⟨a0.block, a0.off + 1, none⟩ = some (.int .i64 3) := by
      have q := hcx
      rwa [show a0.add 1 = ⟨a0.block, a0.off + 1, none⟩ from rfl] at q
    simp only [List.length_cons, List.length_nil]
    clear hp hp1 hp3 c0 ck hr0 hn0 hA0 hx0 hrr hlr hor hc4 v0 v1 v2 v3 v4 v5 v6 v7 v8 v9 v10 v11 v12 v13 y1 y2 qg0 qg1
    go_wp2_with fail
    refine (gather_any (some ⟨g, 0, none⟩) 4 c2 fourO (some ⟨w3.heap.size, 0, none⟩) 4 4 fourT 5 _ (HO.out.chg (HC3.out.alloc _) (fun _ _ => List.not_mem_nil)).rd (by decide) (Own.litg w3 3 1 #[.int .i64 2, .int .i64 1, .int .i64 2, .int .i64 2] 4 w3.heap.size (iv fourT) rfl rfl (by decide) rfl).rd (by decide) (by decide)).mono ?_
    rintro e w4 ⟨A5, c5, rs5, rfl, hbo5, hc5⟩
    rw [four_gl]
    have HC4 : Hid (Chg [] w w4) := Lib.hid ((HC2.out.trans0 (HC3.out.alloc _)).trans0 hc5)
    clear hbo5 hc5
    go_wp2
    go_ret
    exact ⟨rfl, HC4.out⟩
end Go.Proofs.Ytelmnmepdmfihaa
