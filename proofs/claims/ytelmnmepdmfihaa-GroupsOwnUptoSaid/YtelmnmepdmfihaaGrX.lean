/-
  Layer 17: the walk of GroupsGathers.
-/
import Derived.Test.YtelmnmepdmfihaaGrS
import Derived.Test.YtelmnmepdmfihaaGrF
import Derived.Test.YtelmnmepdmfihaaGrV
namespace Go.Proofs.Ytelmnmepdmfihaa
open Go.RowKit

theorem gather_flen' {ls : List Lk} {ts : List Int} {node : Int} {n : Nat} (hl : ls.length = n) (hn : n ≤ 1073741824) : ∀ (i : Nat) (b : Bn), (gather ls ts node)[i]? = some b → ∀ k, k < 3 → (b.f k).length ≤ 1073741824 := fun i b hb k _ => by
  have := gather_flen hb k; omega

set_option maxRecDepth 100000 in
set_option maxHeartbeats 6400000 in
theorem lggathers_any (A : Option Addr) (n c : Nat) (ls : List Lk) (B : Option Addr) (m d : Nat) (ts : List Int) (node : Int) (w : World) (hrd : Rd w 7 A n c (lvs ls)) (hn : n ≤ 1073741824) (hts : Rd w 1 B m d (iv ts)) (hm : m ≤ 1073741824) (hwf : ∀ z ∈ ts, (Lit.int .i64 z).wf = true) :
    Calls Try.prog 3 #[.agg #[.slice A n c, .slice B m d], .int .i64 node] w fun e w' => e = .returned (.bool true) ∧ Chg [] w w' := by
  have hl : ls.length = n := by have := hrd.1; rw [lvs_length] at this; omega
  have HR := Lib.hid hrd
  have HO := Lib.hid hts
  have HL := Lib.hid hl
  have HWF := Lib.hid hwf
  clear hrd hts hl hwf
  go_enter Try.func3, Try.ntmps3
  go_wp2_with fail
  refine (gspeaks_any _).mono ?_
  rintro e w1 ⟨rfl, hc1⟩
  have hb := (Blk.new w 25 #[.slice A n c, .slice B m d]).chg hc1 (fun h => List.not_mem_nil h)
  have C1 : Chg [] w w1 := ((Chg.refl [] w).alloc _).trans0 hc1
  have z0 := hb.cell 0
  have z1 := hb.cell 1
  simp at z0 z1
  go_wp2_with fail
  refine (copied_any A n c ls B m d ts _ (HR.out.chg C1 (fun _ _ => List.not_mem_nil)) hn (HO.out.chg C1 (fun _ _ => List.not_mem_nil)) hm).mono ?_
  rintro e w2 ⟨A2, c2, B2, d2, rfl, hoa, hob, hc2, hna, hnb⟩
  clear z0 z1
  go_wp2_with fail
  have hb2 := (hb.chg hc2 (fun h => List.not_mem_nil h)).alloc (.cells #[.slice A2 n c2, .slice B2 m d2] 25)
  have hb3 := Blk.new w2 25 #[.slice A2 n c2, .slice B2 m d2]
  have hcw := (Chg.refl [] w2).alloc (.cells #[.slice A2 n c2, .slice B2 m d2] 25)
  obtain ⟨W, hW⟩ : ∃ W, W = w2.alloc (.cells #[.slice A2 n c2, .slice B2 m d2] 25) := ⟨_, rfl⟩
  rw [← hW] at hb2 hb3 hcw ⊢
  clear hW
  obtain ⟨Bi, hBi⟩ : ∃ Bi, Bi = w2.heap.size := ⟨_, rfl⟩
  rw [← hBi] at hb3 ⊢
  clear hBi
  have z0 := hb2.cell 0
  have z1 := hb2.cell 1
  have y0 := hb3.cell 0
  have y1 := hb3.cell 1
  simp at z0 z1 y0 y1
  have HC : Hid (Chg [] w W) := Lib.hid ((C1.trans0 hc2).trans0 hcw)
  have HOA : Hid (Own W 55 7 A2 n c2 (lvs ls)) := Lib.hid (hoa.chg hcw (fun _ _ => List.not_mem_nil))
  have HOB : Hid (Own W 3 1 B2 m d2 (iv ts)) := Lib.hid (hob.chg hcw (fun _ _ => List.not_mem_nil))
  clear hb hb2 hb3 hcw hoa hob hna hnb hc2 C1 hc1
  refine wp_region_held_drew (S := fun w' => Chg [] W w') (by kernel_rfl) ((Chg.refl _ _).drew) (fun hHeld => ?_)
  refine wpAnyH_take (i := 0) (v := ?_) rfl (by kernel_rfl) (by kernel_rfl) (by kernel_rfl) (fun _ _ _ h => h) (Or.inl ⟨by rfl, ?_⟩) (by assumption) ?_
  rotate_left
  · (intro w' hSw; go_simp; try with_reducible rfl)
  try simp only [Act.put, List.getElem_toArray, List.getElem_cons_zero, List.setIfInBounds_toArray, List.set_cons_zero, List.set_cons_succ]
  refine wpAnyH_take (i := 1) (v := ?_) rfl (by kernel_rfl) (by kernel_rfl) (by kernel_rfl) (fun _ _ _ h => h) (Or.inl ⟨by rfl, ?_⟩) (by assumption) ?_
  rotate_left
  · (intro w' hSw; have q := hSw.cell y0 (fun h => List.not_mem_nil h); go_simp; try with_reducible rfl)
  try simp only [Act.put, List.getElem_toArray, List.getElem_cons_zero, List.getElem_cons_succ, List.setIfInBounds_toArray, List.set_cons_zero, List.set_cons_succ]
  refine wpAnyH_take (i := 2) (v := ?_) rfl (by kernel_rfl) (by kernel_rfl) (by kernel_rfl) (fun _ _ _ h => h) (Or.inl ⟨by rfl, ?_⟩) (by assumption) ?_
  rotate_left
  · (intro w' hSw; go_simp; try with_reducible rfl)
  try simp only [Act.put, List.getElem_toArray, List.getElem_cons_zero, List.getElem_cons_succ, List.setIfInBounds_toArray, List.set_cons_zero, List.set_cons_succ]
  refine wpAnyH_take (i := 3) (v := ?_) rfl (by kernel_rfl) (by kernel_rfl) (by kernel_rfl) (fun _ _ _ h => h) (Or.inl ⟨by rfl, ?_⟩) (by assumption) ?_
  rotate_left
  · (intro w' hSw; have q := hSw.cell y1 (fun h => List.not_mem_nil h); go_simp; try with_reducible rfl)
  try simp only [Act.put, List.getElem_toArray, List.getElem_cons_zero, List.getElem_cons_succ, List.setIfInBounds_toArray, List.set_cons_zero, List.set_cons_succ]
  refine wpAnyH_take (i := 4) (v := ?_) rfl (by kernel_rfl) (by kernel_rfl) (by kernel_rfl) (fun _ _ _ h => h) (Or.inl ⟨by rfl, ?_⟩) (by assumption) ?_
  rotate_left
  · (intro w' hSw; go_simp; try with_reducible rfl)
  try simp only [Act.put, List.getElem_toArray, List.getElem_cons_zero, List.getElem_cons_succ, List.setIfInBounds_toArray, List.set_cons_zero, List.set_cons_succ]
  refine wpAnyH_take (i := 6) (v := ?_) rfl (by kernel_rfl) (by kernel_rfl) (by kernel_rfl) (fun _ _ _ h => h) (Or.inl ⟨by rfl, ?_⟩) (by assumption) ?_
  rotate_left
  · (intro w' hSw; go_simp; try with_reducible rfl)
  try simp only [Act.put, List.getElem_toArray, List.getElem_cons_zero, List.getElem_cons_succ, List.setIfInBounds_toArray, List.set_cons_zero, List.set_cons_succ]
  refine wpAnyH_take (i := 7) (v := ?_) rfl (by kernel_rfl) (by kernel_rfl) (by kernel_rfl) (fun _ _ _ h => h) (Or.inl ⟨by rfl, ?_⟩) (by assumption) ?_
  rotate_left
  · (intro w' hSw; have q := hSw.cell z0 (fun h => List.not_mem_nil h); go_simp; try with_reducible rfl)
  try simp only [Act.put, List.getElem_toArray, List.getElem_cons_zero, List.getElem_cons_succ, List.setIfInBounds_toArray, List.set_cons_zero, List.set_cons_succ]
  refine wpAnyH_take (i := 8) (v := ?_) rfl (by kernel_rfl) (by kernel_rfl) (by kernel_rfl) (fun _ _ _ h => h) (Or.inl ⟨by rfl, ?_⟩) (by assumption) ?_
  rotate_left
  · (intro w' hSw; go_simp; try with_reducible rfl)
  try simp only [Act.put, List.getElem_toArray, List.getElem_cons_zero, List.getElem_cons_succ, List.setIfInBounds_toArray, List.set_cons_zero, List.set_cons_succ]
  refine wpAnyH_take (i := 9) (v := ?_) rfl (by kernel_rfl) (by kernel_rfl) (by kernel_rfl) (fun _ _ _ h => h) (Or.inl ⟨by rfl, ?_⟩) (by assumption) ?_
  rotate_left
  · (intro w' hSw; have q := hSw.cell z1 (fun h => List.not_mem_nil h); go_simp; try with_reducible rfl)
  try simp only [Act.put, List.getElem_toArray, List.getElem_cons_zero, List.getElem_cons_succ, List.setIfInBounds_toArray, List.set_cons_zero, List.set_cons_succ]
  refine wpAnyH_take (i := 10) (v := ?_) rfl (by kernel_rfl) (by kernel_rfl) (by kernel_rfl) (fun _ _ _ h => h) (Or.inl ⟨by rfl, ?_⟩) (by assumption) ?_
  rotate_left
  · (intro w' hSw; go_simp; try with_reducible rfl)
  try simp only [Act.put, List.getElem_toArray, List.getElem_cons_zero, List.getElem_cons_succ, List.setIfInBounds_toArray, List.set_cons_zero, List.set_cons_succ]
  refine wpAnyH_ready (rs := [5]) (by kernel_rfl) (by simp) ?_
  refine AllReadyH.cons rfl (fun K hK => ?_) (AllReadyH.nil)
  go_simp
  refine (gather_any A2 n c2 ls B2 m d2 ts node _ (HOA.out.rd.chg hHeld (fun _ _ => List.not_mem_nil)) hn (HOB.out.rd.chg hHeld (fun _ _ => List.not_mem_nil)) hm HWF.out).mono ?_
  rintro e w3 ⟨A3, c3, rs3, rfl, hbo, hc3⟩
  have HB3 := Lib.hid hbo.brd
  have H3 := Lib.hid (hHeld.trans0 hc3)
  clear hbo hc3
  refine hK.out _ _ (H3.out) (fun hHeld => ?_)
  try simp only [Act.put, List.getElem_toArray, List.getElem_cons_zero, List.getElem_cons_succ, List.setIfInBounds_toArray, List.set_cons_zero, List.set_cons_succ]
  clear hK K
  refine wpAnyH_ready (rs := [11]) (by kernel_rfl) (by simp) ?_
  refine AllReadyH.cons rfl (fun K hK => ?_) (AllReadyH.nil)
  go_simp
  refine (rgather_any A n c ls B m d ts node _ (HR.out.chg (HC.out.trans0 hHeld) (fun _ _ => List.not_mem_nil)) hn (HO.out.chg (HC.out.trans0 hHeld) (fun _ _ => List.not_mem_nil)) hm).mono ?_
  rintro e w4 ⟨A4, c4, rfl, hbr, hc4⟩
  have HB4 := Lib.hid hbr
  have HB34 := Lib.hid (HB3.out.chg0 hc4)
  have H4 := Lib.hid (hHeld.trans0 hc4)
  clear hbr hc4
  refine hK.out _ _ (H4.out) (fun hHeld => ?_)
  try simp only [Act.put, List.getElem_toArray, List.getElem_cons_zero, List.getElem_cons_succ, List.setIfInBounds_toArray, List.set_cons_zero, List.set_cons_succ]
  clear hK K
  refine wpAnyH_ready (rs := [12]) (by kernel_rfl) (by simp) ?_
  refine AllReadyH.cons rfl (fun K hK => ?_) (AllReadyH.nil)
  go_simp
  refine (same_any A3 _ c3 A4 _ c4 (gather ls ts node) _ (by have := gather_len ls ts node; have := HL.out; omega) rfl rfl (gather_flen' HL.out hn) HB34.out HB4.out).mono ?_
  rintro e w5 ⟨rfl, hc5⟩
  have H5 := Lib.hid (hHeld.trans0 hc5)
  clear hc5
  refine hK.out _ _ (H5.out) (fun hHeld => ?_)
  try simp only [Act.put, List.getElem_toArray, List.getElem_cons_zero, List.getElem_cons_succ, List.setIfInBounds_toArray, List.set_cons_zero, List.set_cons_succ]
  clear hK K
  refine wpAnyH_take (i := 13) (v := ?_) rfl (by kernel_rfl) (by kernel_rfl) (by kernel_rfl) (fun _ _ _ h => h) (Or.inl ⟨by rfl, ?_⟩) (by assumption) ?_
  rotate_left
  · (intro w' hSw; go_simp; try with_reducible rfl)
  try simp only [Act.put, List.getElem_toArray, List.getElem_cons_zero, List.getElem_cons_succ, List.setIfInBounds_toArray, List.set_cons_zero, List.set_cons_succ]
  refine wpAnyH_take (i := 14) (v := ?_) rfl (by kernel_rfl) (by kernel_rfl) (by kernel_rfl) (fun _ _ _ h => h) (Or.inl ⟨by rfl, ?_⟩) (by assumption) ?_
  rotate_left
  · (intro w' hSw; have q := hSw.cell y0 (fun h => List.not_mem_nil h); have q2 := hSw.cell y1 (fun h => List.not_mem_nil h); go_simp; try with_reducible rfl)
  try simp only [Act.put, List.getElem_toArray, List.getElem_cons_zero, List.getElem_cons_succ, List.setIfInBounds_toArray, List.set_cons_zero, List.set_cons_succ]
  refine wpAnyH_take (i := 15) (v := ?_) rfl (by kernel_rfl) (by kernel_rfl) (by kernel_rfl) (fun _ _ _ h => h) (Or.inl ⟨by rfl, ?_⟩) (by assumption) ?_
  rotate_left
  · (intro w' hSw; have q := hSw.cell z0 (fun h => List.not_mem_nil h); have q2 := hSw.cell z1 (fun h => List.not_mem_nil h); go_simp; try with_reducible rfl)
  try simp only [Act.put, List.getElem_toArray, List.getElem_cons_zero, List.getElem_cons_succ, List.setIfInBounds_toArray, List.set_cons_zero, List.set_cons_succ]
  refine wpAnyH_ready (rs := [16]) (by kernel_rfl) (by simp) ?_
  refine AllReadyH.cons rfl (fun K hK => ?_) (AllReadyH.nil)
  go_simp
  refine (relsSame_any A2 n c2 ls B2 m d2 ts A c B d _ hn hm (HOA.out.rd.chg hHeld (fun _ _ => List.not_mem_nil)) (HOB.out.rd.chg hHeld (fun _ _ => List.not_mem_nil)) (HR.out.chg (HC.out.trans0 hHeld) (fun _ _ => List.not_mem_nil)) (HO.out.chg (HC.out.trans0 hHeld) (fun _ _ => List.not_mem_nil))).mono ?_
  rintro e w6 ⟨rfl, hc6⟩
  have H6 := Lib.hid (hHeld.trans0 hc6)
  clear hc6
  refine hK.out _ _ (H6.out) (fun hHeld => ?_)
  try simp only [Act.put, List.getElem_toArray, List.getElem_cons_zero, List.getElem_cons_succ, List.setIfInBounds_toArray, List.set_cons_zero, List.set_cons_succ]
  clear hK K
  refine wpAnyH_take (i := 17) (v := ?_) rfl (by kernel_rfl) (by kernel_rfl) (by kernel_rfl) (fun _ _ _ h => h) (Or.inl ⟨by rfl, ?_⟩) (by assumption) ?_
  rotate_left
  · (intro w' hSw; go_simp; try with_reducible rfl)
  try simp only [Act.put, List.getElem_toArray, List.getElem_cons_zero, List.getElem_cons_succ, List.setIfInBounds_toArray, List.set_cons_zero, List.set_cons_succ]
  refine wpAnyH_take (i := 18) (v := ?_) rfl (by kernel_rfl) (by kernel_rfl) (by kernel_rfl) (fun _ _ _ h => h) (Or.inl ⟨by rfl, ?_⟩) (by assumption) ?_
  rotate_left
  · (intro w' hSw; go_simp; try with_reducible rfl)
  try simp only [Act.put, List.getElem_toArray, List.getElem_cons_zero, List.getElem_cons_succ, List.setIfInBounds_toArray, List.set_cons_zero, List.set_cons_succ]
  refine wpAnyH_done (by kernel_rfl) ?_ _
  try simp only [Act.put, List.getElem_toArray, List.getElem_cons_zero, List.getElem_cons_succ, List.setIfInBounds_toArray, List.set_cons_zero, List.set_cons_succ]
  go_wp2
  go_ret
  exact ⟨rfl, HC.out.trans0 H6.out⟩
end Go.Proofs.Ytelmnmepdmfihaa
