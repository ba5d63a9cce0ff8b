/-
  Layer 08: the document's make, found, folder, Mkdir, Rename, Remove, Rmdir, SyncNames.
-/
import Derived.Test.YtgomofeidghmiaaGreatVfZc
namespace Go.Proofs.YtgomofeidghmiaaGreat
open Go.RowKit

theorem etyRChgs : Ety Tryz.prog 42 118 5 64 (.agg #[.int .i64 0, .string ByteArray.empty, .string ByteArray.empty, .string ByteArray.empty, .int .i64 0]) := .mk' Tryz.underlying42 (by kernel_rfl) rfl (by decide)
theorem chv_length (cs : List Chn) : (chv cs).length = cs.length * 5 := by
  induction cs with
  | nil => rfl
  | cons x r ih => simp only [chv, List.flatMap_cons, List.length_append, List.length_cons, chc_length] at ih ⊢; rw [ih]; omega
theorem RfM.seenK {w : World} {R : RfG} {S : St} (h : RfM w R S) {B1 B2 : Nat} {k : Nat} (hk : k ∈ rblk R.rs ∨ (B1 ≤ k ∧ k < B2)) : k ∈ R.K ∨ (B1 ≤ k ∧ k < B2) := hk.imp (fun h1 => h.seenk k (List.mem_append_right _ h1)) id

set_option maxRecDepth 100000 in
set_option maxHeartbeats 6400000 in
theorem rmake_any {w : World} {R : RfG} {S : St} (h : RfM w R S) (hl : S.chs.length + 1 ≤ 1073741824) (hst : S.steps + 1 ≤ 1073741824) (cn : Chn) (k : Int) (d n t : ByteArray) (f : Int) (hch : chc cn = [.int .i64 k, .string d, .string n, .string t, .int .i64 f])
    (hdone : ∀ w', Chg [] w w' → Calls Tryz.prog 61 #[.slice R.sA S.seen.length R.sc, .agg #[.int .i64 k, .string d, .string n, .string t, .int .i64 f]] w' (TrIn (rblk R.rs) w' (cn.on S.seen))) :
    Calls Tryz.prog 84 #[.pointer (some ⟨R.b, 0, none⟩), .agg #[.int .i64 k, .string d, .string n, .string t, .int .i64 f]] w fun e w' => e = .returned (.int .i64 0) ∧ RfTo w R (S.make cn) w' := by
  have HR := Lib.hid h
  have HCH := Lib.hid hch
  have HDONE := Lib.hid hdone
  clear h hch hdone
  go_enter Tryz.func84, Tryz.ntmps84
  obtain ⟨sb, hsb⟩ : ∃ sb, w.heap.size = sb := ⟨_, rfl⟩
  obtain ⟨W, hW⟩ : ∃ W, w.alloc (.cells #[.int .i64 k, .string d, .string n, .string t, .int .i64 f] 118) = W := ⟨_, rfl⟩
  have hbk : Blk W sb 118 #[.int .i64 k, .string d, .string n, .string t, .int .i64 f] := by rw [← hW, ← hsb]; exact Blk.new w _ _
  have hcW : Chg [] w W := by rw [← hW]; exact (Chg.refl [] w).alloc _
  have HBK := Lib.hid hbk
  have HCW := Lib.hid hcW
  have HRW := Lib.hid (HR.out.keep0 hcW)
  have HSB : Hid (sb ∉ [R.b]) := Lib.hid (fun hm => by simp only [List.mem_singleton] at hm; have := HR.out.blk.lt; omega)
  have HSBN : Hid (∀ x ∈ R.all, x ≠ sb) := Lib.hid (fun x hx => by have := HR.out.lt x hx; omega)
  have b0 := hbk.cell 0
  have b1 := hbk.cell 1
  have b2 := hbk.cell 2
  have b3 := hbk.cell 3
  have b4 := hbk.cell 4
  have r0 := HRW.out.blk.cell 0
  simp only [List.getElem?_toArray, List.getElem?_cons_succ, List.getElem?_cons_zero] at b0 b1 b2 b3 b4 r0
  clear hbk hcW
  go_wp2_with fail
  refine wp_region_held_drew (S := fun w' => Chg [R.b] W w') (by kernel_rfl) ((Chg.refl _ _).drew) (fun hHeld => ?_)
  refine wpAnyH_take (i := 0) (v := ?_) rfl (by kernel_rfl) (by kernel_rfl) (by kernel_rfl) (fun _ _ _ h => h) (Or.inl ⟨by rfl, ?_⟩) (by assumption) ?_
  rotate_left
  · (intro w' hSw; go_simp; try with_reducible rfl)
  try simp only [Act.put, put8]
  refine wpAnyH_take (i := 1) (v := ?_) rfl (by kernel_rfl) (by kernel_rfl) (by kernel_rfl) (fun _ _ _ h => h) (Or.inl ⟨by rfl, ?_⟩) (by assumption) ?_
  rotate_left
  · (intro w' hSw; go_simp; try with_reducible rfl)
  try simp only [Act.put, put8]
  refine wpAnyH_take (i := 2) (v := ?_) rfl (by kernel_rfl) (by kernel_rfl) (by kernel_rfl) (fun _ _ _ h => h) (Or.inl ⟨by rfl, ?_⟩) (by assumption) ?_
  rotate_left
  · (intro w' hSw; go_simp; try with_reducible rfl)
  try simp only [Act.put, put8]
  refine wpAnyH_take (i := 3) (v := ?_) rfl (by kernel_rfl) (by kernel_rfl) (by kernel_rfl) (fun _ _ _ h => h) (Or.inl ⟨by rfl, ?_⟩) (by assumption) ?_
  rotate_left
  · (intro w' hSw; go_simp; try with_reducible rfl)
  try simp only [Act.put, put8]
  refine wpAnyH_take (i := 5) (v := ?_) rfl (by kernel_rfl) (by kernel_rfl) (by kernel_rfl) (fun _ _ _ h => h) (Or.inl ⟨by rfl, ?_⟩) (by assumption) ?_
  rotate_left
  · (intro w' hSw; have a0 := hSw.cell b0 HSB.out; have a1 := hSw.cell b1 HSB.out; have a2 := hSw.cell b2 HSB.out; have a3 := hSw.cell b3 HSB.out; have a4 := hSw.cell b4 HSB.out; go_simp; try with_reducible rfl)
  try simp only [Act.put, put8]
  refine wpAnyH_ready (rs := [4]) (by kernel_rfl) (by simp) ?_
  refine AllReadyH.cons rfl (fun K hK => ?_) (AllReadyH.nil)
  go_simp
  refine hK.out _ _ (hHeld) (fun hHeld => ?_)
  try simp only [Act.put, put8]
  clear hK K
  refine wpAnyH_ready (rs := [6]) (by kernel_rfl) (by simp) ?_
  refine AllReadyH.cons rfl (fun K hK => ?_) (AllReadyH.nil)
  go_simp
  refine (HDONE.out _ (HCW.out.drew)).mono ?_
  rintro ee w2 ⟨A2, c2, rs2, rfl, t1, t2, hc, t4⟩
  have hH2 := hHeld.trans0 hc
  have HQ2 : Hid (Chg [] W w2) := Lib.hid (((Chg.refl [] W).drew).trans0 hc)
  have HRT := Lib.hid (HRW.out.newSeen t1 t2 HQ2.out (fun k hk => HRW.out.seenK (t4 k hk)))
  have y0 := (HRW.out.keep0 HQ2.out).blk.cell 0
  have f0 := (HRW.out.keep0 HQ2.out).blk.frozen 0
  simp only [List.getElem?_toArray, List.getElem?_cons_zero] at y0
  obtain ⟨l2, hl2⟩ : ∃ l2, (cn.on S.seen).length = l2 := ⟨_, rfl⟩
  rw [hl2] at HRT ⊢
  clear t1 t2 t4 hc hl2
  refine hK.out _ _ (hH2) (fun hHeld => ?_)
  try simp only [Act.put, put8]
  clear hK K
  refine wpAnyH_take (i := 7) (v := ?_) rfl (by kernel_rfl) (by kernel_rfl) (by kernel_rfl) (fun _ _ _ h => h) (Or.inl ⟨by rfl, ?_⟩) (by assumption) ?_
  rotate_left
  · (intro w' hSw; go_simp; try with_reducible rfl)
  try simp only [Act.put, put8]
  refine wpAnyH_take (i := 8) (v := ?_) rfl (by kernel_rfl) (by kernel_rfl) (by kernel_rfl) (fun _ _ _ h => h) (Or.inl ⟨by rfl, ?_⟩) (by assumption) ?_
  rotate_left
  · (intro w' hSw; go_simp; try with_reducible rfl)
  try simp only [Act.put, put8]
  refine wpAnyH_ready (rs := [9]) (by kernel_rfl) (by simp) ?_
  refine AllReadyH.cons rfl (fun K hK => ?_) (AllReadyH.nil)
  go_simp
  refine hK.out _ _ (hH2.setCell (.inl (by simp)) _) (fun hHeld => ?_)
  try simp only [Act.put, put8]
  clear hK K
  refine wpAnyH_done (by kernel_rfl) ?_ _
  try simp only [Act.put, put8]
  have HSBW : Hid (sb < W.heap.size) := Lib.hid HBK.out.lt
  have z0 := hHeld.cell b0 HSB.out
  have z1 := hHeld.cell b1 HSB.out
  have z2 := hHeld.cell b2 HSB.out
  have z3 := hHeld.cell b3 HSB.out
  have z4 := hHeld.cell b4 HSB.out
  clear b0 b1 b2 b3 b4 r0 y0 f0 hH2 hHeld
  generalize w2.setCell ⟨R.b, 0, none⟩ (.slice A2 l2 c2) = w3 at HRT z0 z1 z2 z3 z4 ⊢
  obtain ⟨R1, hR1, hb1, hs1, hc1⟩ := HRT.out
  have HTO : Hid (∀ S' w', RfTo w3 R1 S' w' → RfTo w R S' w') := Lib.hid (fun S' w' h => RfTo.before HCW.out (RfTo.next hc1 hb1 hs1 h))
  have HB1 := Lib.hid hb1
  have HSB3 : Hid (sb ∉ R.b :: bo R1.cA) := Lib.hid (fun hm => by
    rcases List.mem_cons.1 hm with h | h
    · exact HSB.out (by simp [h])
    · have hm1 : sb ∈ R1.all := RfG.mem_all (i := 1) (P := bo R1.cA) rfl h
      rcases hs1 sb hm1 with h1 | h1
      · exact HSBN.out sb h1 rfl
      · have := HSBW.out; omega)
  have HR1 := Lib.hid hR1
  clear hR1 hb1 hs1 hc1
  go_wp2_with fail
  refine wp_region_held_drew (S := fun w' => Chg (R.b :: bo R1.cA) w3 w') (by kernel_rfl) ((Chg.refl _ _).drew) (fun hHeld => ?_)
  have HR1d : Hid (RfM w3.drew R1 { S with seen := cn.on S.seen }) := Lib.hid (HR1.out.keep0 (Chg.refl _ _).drew)
  have HD34 : Hid (Chg [] w3 w3.drew) := Lib.hid (Chg.refl _ _).drew
  generalize w3.drew = w4 at HR1d HD34 hHeld ⊢
  have r2d := HR1d.out.blk.cell 2
  rw [HB1.out] at r2d
  simp only [List.getElem?_toArray, List.getElem?_cons_succ, List.getElem?_cons_zero] at r2d
  have HOW4 : Hid (Own (w4.alloc (.cells #[.int .i64 k, .string d, .string n, .string t, .int .i64 f] 118)) 118 5 R1.cA S.chs.length R1.cc (chv S.chs)) := Lib.hid (HR1d.out.chg.chg ((Chg.refl [] w4).alloc _) (fun _ _ => List.not_mem_nil))
  have r2a : (w4.alloc (.cells #[.int .i64 k, .string d, .string n, .string t, .int .i64 f] 118)).cell? ⟨R.b, 2, none⟩ = some (.slice R1.cA S.chs.length R1.cc) := ((Chg.refl [] w4).alloc _).cell r2d List.not_mem_nil
  refine wpAnyH_take (i := 0) (v := ?_) rfl (by kernel_rfl) (by kernel_rfl) (by kernel_rfl) (fun _ _ _ h => h) (Or.inl ⟨by rfl, ?_⟩) (by assumption) ?_
  rotate_left
  · (intro w' hSw; go_simp; try with_reducible rfl)
  try simp only [Act.put, put8]
  refine wpAnyH_take (i := 1) (v := ?_) rfl (by kernel_rfl) (by kernel_rfl) (by kernel_rfl) (fun _ _ _ h => h) (Or.inl ⟨by rfl, ?_⟩) (by assumption) ?_
  rotate_left
  · (intro w' hSw; go_simp; try with_reducible rfl)
  try simp only [Act.put, put8]
  refine wpAnyH_take (i := 2) (v := ?_) rfl (by kernel_rfl) (by kernel_rfl) (by kernel_rfl) (fun _ _ _ h => h) (Or.inl ⟨by rfl, ?_⟩) (by assumption) ?_
  rotate_left
  · (intro w' hSw; go_simp; try with_reducible rfl)
  try simp only [Act.put, put8]
  refine wpAnyH_take (i := 3) (v := ?_) rfl (by kernel_rfl) (by kernel_rfl) (by kernel_rfl) (fun _ _ _ h => h) (Or.inl ⟨by rfl, ?_⟩) (by assumption) ?_
  rotate_left
  · (intro w' hSw; go_simp; try with_reducible rfl)
  try simp only [Act.put, put8]
  refine wpAnyH_take (i := 5) (v := ?_) rfl (by kernel_rfl) (by kernel_rfl) (by kernel_rfl) (fun _ _ _ h => h) (Or.inl ⟨by rfl, ?_⟩) (by assumption) ?_
  rotate_left
  · (intro w' hSw; have a0 := hSw.cell z0 HSB3.out; have a1 := hSw.cell z1 HSB3.out; have a2 := hSw.cell z2 HSB3.out; have a3 := hSw.cell z3 HSB3.out; have a4 := hSw.cell z4 HSB3.out; go_simp; try with_reducible rfl)
  try simp only [Act.put, put8]
  refine wpAnyH_ready (rs := [4, 6]) (by kernel_rfl) (by simp) ?_
  refine AllReadyH.cons rfl (fun K hK => ?_) (AllReadyH.cons rfl (fun K hK => ?_) (AllReadyH.nil))
  · go_simp
    refine hK.out _ _ (hHeld) (fun hHeld => ?_)
    try simp only [Act.put, put8]
    clear hK K
    refine wpAnyH_ready (rs := [6]) (by kernel_rfl) (by simp) ?_
    refine AllReadyH.cons rfl (fun K hK => ?_) (AllReadyH.nil)
    go_simp
    have hHa := hHeld.alloc (.cells #[.int .i64 k, .string d, .string n, .string t, .int .i64 f] 118)
    refine hK.out _ _ (hHa) (fun hHeld => ?_)
    try simp only [Act.put, put8]
    clear hK K
    refine wpAnyH_ready (rs := [7]) (by kernel_rfl) (by simp) ?_
    refine AllReadyH.cons rfl (fun K hK => ?_) (AllReadyH.nil)
    refine step_app rfl _ _ rfl etyRChgs rfl HOW4.out rfl (Own.lit w4 118 5 #[.int .i64 k, .string d, .string n, .string t, .int .i64 f] 1 (by decide) rfl).rd (by intro u hu; simp at hu; rcases hu with rfl | rfl | rfl | rfl | rfl <;> rfl) (by unfold maxLen; show S.chs.length + 1 ≤ _; omega) (by show (S.chs.length + 1) * _ ≤ _; omega) ?_
    intro A5 c5 w5 hown5 hchg5 hnew5 _
    have HC45 : Hid (Chg (bo R1.cA) w4 w5) := Lib.hid ((((Chg.refl [] w4).alloc (.cells #[.int .i64 k, .string d, .string n, .string t, .int .i64 f] 118)).nil _).trans hchg5 (fun x hx => .inl hx))
    have hbk5 := HR1d.out.blk.chg HC45.out (fun hm => HR1d.out.ne0 (i := 0) rfl _ hm (by simp))
    have y2 := hbk5.cell 2
    have f2 := hbk5.frozen 2
    rw [HB1.out] at y2 f2
    simp only [List.getElem?_toArray, List.getElem?_cons_succ, List.getElem?_cons_zero] at y2
    have HO5 := Lib.hid hown5
    have HN45 : Hid (∀ k ∈ bo A5, k ∈ bo R1.cA ∨ w4.heap.size ≤ k) := Lib.hid (fun k hk => (hnew5 k hk).imp id (fun h => by have := h.1; simp at this; omega))
    have hH5 := hHeld.trans hchg5 (fun x hx => .inl (List.mem_cons_of_mem _ hx))
    clear hown5 hchg5 hnew5 hbk5
    refine hK.out _ _ (hH5) (fun hHeld => ?_)
    try simp only [Act.put, put8]
    clear hK K
    refine wpAnyH_take (i := 8) (v := ?_) rfl (by kernel_rfl) (by kernel_rfl) (by kernel_rfl) (fun _ _ _ h => h) (Or.inl ⟨by rfl, ?_⟩) (by assumption) ?_
    rotate_left
    · (intro w' hSw; go_simp; try with_reducible rfl)
    try simp only [Act.put, put8]
    refine wpAnyH_take (i := 9) (v := ?_) rfl (by kernel_rfl) (by kernel_rfl) (by kernel_rfl) (fun _ _ _ h => h) (Or.inl ⟨by rfl, ?_⟩) (by assumption) ?_
    rotate_left
    · (intro w' hSw; go_simp; try with_reducible rfl)
    try simp only [Act.put, put8]
    refine wpAnyH_ready (rs := [10]) (by kernel_rfl) (by simp) ?_
    refine AllReadyH.cons rfl (fun K hK => ?_) (AllReadyH.nil)
    go_simp
    refine hK.out _ _ (hH5.setCell (.inl (by simp)) _) (fun hHeld => ?_)
    try simp only [Act.put, put8]
    clear hK K
    refine wpAnyH_done (by kernel_rfl) ?_ _
    try simp only [Act.put, put8]
    have HRT2 := Lib.hid (HR1d.out.newChs (cs := S.chs ++ [cn]) (by have := HO5.out; simp only [List.length_append, List.length_cons, List.length_nil]; rw [chv, List.flatMap_append]; simp only [List.flatMap_cons, List.flatMap_nil, List.append_nil, HCH.out]; exact this) HC45.out HN45.out)
    simp only [List.length_append, List.length_cons, List.length_nil, Nat.zero_add] at HRT2
    rw [HB1.out] at HRT2
    clear hHeld y2 f2 r2d hH5 z0 z1 z2 z3 z4
    generalize w5.setCell ⟨R.b, 2, none⟩ (.slice A5 (S.chs.length + 1) c5) = w6 at HRT2 ⊢
    obtain ⟨R2, hR2, hb2, hs2, hc2⟩ := HRT2.out
    have HTO2 : Hid (∀ S' w', RfTo w6 R2 S' w' → RfTo w R S' w') := Lib.hid (fun S' w' h => HTO.out S' w' (RfTo.before HD34.out (RfTo.next hc2 hb2 hs2 h)))
    have HR2 := Lib.hid hR2
    have r7 := hR2.blk.cell 7
    have g7 := hR2.blk.frozen 7
    rw [hb2, HB1.out] at r7 g7
    simp only [List.getElem?_toArray, List.getElem?_cons_succ, List.getElem?_cons_zero] at r7
    have hwt : IntKind.i64.wrap ((S.steps : Int) + 1) = ((S.steps + 1 : Nat) : Int) := by rw [IntKind.wrap_i64]; omega
    have HB2 : Hid (R2.b = R.b) := Lib.hid (hb2.trans HB1.out)
    clear hR2 hb2 hs2 hc2
    go_wp2
    go_ret
    refine ⟨rfl, HTO2.out _ _ ?_⟩
    have := HR2.out.setSteps (S.steps + 1)
    rw [HB2.out] at this
    exact this
  · go_simp
    have hHa := hHeld.alloc (.cells #[.int .i64 k, .string d, .string n, .string t, .int .i64 f] 118)
    refine hK.out _ _ (hHa) (fun hHeld => ?_)
    try simp only [Act.put, put8]
    clear hK K
    refine wpAnyH_ready (rs := [4]) (by kernel_rfl) (by simp) ?_
    refine AllReadyH.cons rfl (fun K hK => ?_) (AllReadyH.nil)
    go_simp
    refine hK.out _ _ (hHeld) (fun hHeld => ?_)
    try simp only [Act.put, put8]
    clear hK K
    refine wpAnyH_ready (rs := [7]) (by kernel_rfl) (by simp) ?_
    refine AllReadyH.cons rfl (fun K hK => ?_) (AllReadyH.nil)
    refine step_app rfl _ _ rfl etyRChgs rfl HOW4.out rfl (Own.lit w4 118 5 #[.int .i64 k, .string d, .string n, .string t, .int .i64 f] 1 (by decide) rfl).rd (by intro u hu; simp at hu; rcases hu with rfl | rfl | rfl | rfl | rfl <;> rfl) (by unfold maxLen; show S.chs.length + 1 ≤ _; omega) (by show (S.chs.length + 1) * _ ≤ _; omega) ?_
    intro A5 c5 w5 hown5 hchg5 hnew5 _
    have HC45 : Hid (Chg (bo R1.cA) w4 w5) := Lib.hid ((((Chg.refl [] w4).alloc (.cells #[.int .i64 k, .string d, .string n, .string t, .int .i64 f] 118)).nil _).trans hchg5 (fun x hx => .inl hx))
    have hbk5 := HR1d.out.blk.chg HC45.out (fun hm => HR1d.out.ne0 (i := 0) rfl _ hm (by simp))
    have y2 := hbk5.cell 2
    have f2 := hbk5.frozen 2
    rw [HB1.out] at y2 f2
    simp only [List.getElem?_toArray, List.getElem?_cons_succ, List.getElem?_cons_zero] at y2
    have HO5 := Lib.hid hown5
    have HN45 : Hid (∀ k ∈ bo A5, k ∈ bo R1.cA ∨ w4.heap.size ≤ k) := Lib.hid (fun k hk => (hnew5 k hk).imp id (fun h => by have := h.1; simp at this; omega))
    have hH5 := hHeld.trans hchg5 (fun x hx => .inl (List.mem_cons_of_mem _ hx))
    clear hown5 hchg5 hnew5 hbk5
    refine hK.out _ _ (hH5) (fun hHeld => ?_)
    try simp only [Act.put, put8]
    clear hK K
    refine wpAnyH_take (i := 8) (v := ?_) rfl (by kernel_rfl) (by kernel_rfl) (by kernel_rfl) (fun _ _ _ h => h) (Or.inl ⟨by rfl, ?_⟩) (by assumption) ?_
    rotate_left
    · (intro w' hSw; go_simp; try with_reducible rfl)
    try simp only [Act.put, put8]
    refine wpAnyH_take (i := 9) (v := ?_) rfl (by kernel_rfl) (by kernel_rfl) (by kernel_rfl) (fun _ _ _ h => h) (Or.inl ⟨by rfl, ?_⟩) (by assumption) ?_
    rotate_left
    · (intro w' hSw; go_simp; try with_reducible rfl)
    try simp only [Act.put, put8]
    refine wpAnyH_ready (rs := [10]) (by kernel_rfl) (by simp) ?_
    refine AllReadyH.cons rfl (fun K hK => ?_) (AllReadyH.nil)
    go_simp
    refine hK.out _ _ (hH5.setCell (.inl (by simp)) _) (fun hHeld => ?_)
    try simp only [Act.put, put8]
    clear hK K
    refine wpAnyH_done (by kernel_rfl) ?_ _
    try simp only [Act.put, put8]
    have HRT2 := Lib.hid (HR1d.out.newChs (cs := S.chs ++ [cn]) (by have := HO5.out; simp only [List.length_append, List.length_cons, List.length_nil]; rw [chv, List.flatMap_append]; simp only [List.flatMap_cons, List.flatMap_nil, List.append_nil, HCH.out]; exact this) HC45.out HN45.out)
    simp only [List.length_append, List.length_cons, List.length_nil, Nat.zero_add] at HRT2
    rw [HB1.out] at HRT2
    clear hHeld y2 f2 r2d hH5 z0 z1 z2 z3 z4
    generalize w5.setCell ⟨R.b, 2, none⟩ (.slice A5 (S.chs.length + 1) c5) = w6 at HRT2 ⊢
    obtain ⟨R2, hR2, hb2, hs2, hc2⟩ := HRT2.out
    have HTO2 : Hid (∀ S' w', RfTo w6 R2 S' w' → RfTo w R S' w') := Lib.hid (fun S' w' h => HTO.out S' w' (RfTo.before HD34.out (RfTo.next hc2 hb2 hs2 h)))
    have HR2 := Lib.hid hR2
    have r7 := hR2.blk.cell 7
    have g7 := hR2.blk.frozen 7
    rw [hb2, HB1.out] at r7 g7
    simp only [List.getElem?_toArray, List.getElem?_cons_succ, List.getElem?_cons_zero] at r7
    have hwt : IntKind.i64.wrap ((S.steps : Int) + 1) = ((S.steps + 1 : Nat) : Int) := by rw [IntKind.wrap_i64]; omega
    have HB2 : Hid (R2.b = R.b) := Lib.hid (hb2.trans HB1.out)
    clear hR2 hb2 hs2 hc2
    go_wp2
    go_ret
    refine ⟨rfl, HTO2.out _ _ ?_⟩
    have := HR2.out.setSteps (S.steps + 1)
    rw [HB2.out] at this
    exact this

def fndI (r : Option Nat × Int) : Int := match r.1 with
  | some x => (x : Int)
  | none => -1
def foldI (S : St) (d : ByteArray) : Int := if S.ask true [d] = 0 then atI d 0 S.seen else -1
/-- what is asked first, told as the document asks it -/
theorem ask_cases (S : St) (d : ByteArray) (ns : List ByteArray) : (S.down = true ∧ S.ask true (d :: ns) = 80) ∨ (S.down = false ∧ (d :: ns).all goodP = false ∧ S.ask true (d :: ns) = 81) ∨ (S.down = false ∧ (d :: ns).all goodP = true ∧ aget S.seen d = none ∧ S.ask true (d :: ns) = 82) ∨
    (S.down = false ∧ (d :: ns).all goodP = true ∧ (∃ F, aget S.seen d = some F) ∧ S.ask true (d :: ns) = 0) := by
  unfold St.ask
  cases hd : S.down with
  | true => exact .inl ⟨rfl, by simp⟩
  | false =>
    cases hg : (d :: ns).all goodP with
    | false => exact .inr (.inl ⟨rfl, rfl, by simp⟩)
    | true =>
      cases ha : aget S.seen d with
      | none => exact .inr (.inr (.inl ⟨rfl, rfl, rfl, by simp [ha]⟩))
      | some F => exact .inr (.inr (.inr ⟨rfl, rfl, ⟨F, rfl⟩, by simp [ha]⟩))
theorem Inv.seenl {B : Nat} {S : St} (h : Inv B S) : S.seen.length ≤ B := by have := wd_len S.seen; have := h.wd; omega
theorem RfM.rlen {w : World} {R : RfG} {S : St} (h : RfM w R S) : rval R.rs = S.seen := h.seenv

set_option maxRecDepth 100000 in
set_option maxHeartbeats 6400000 in
theorem rfolder_any {w : World} {R : RfG} {S : St} {B : Nat} (h : RfM w R S) (hi : Inv B S) (hB : B + 1 ≤ 536870912) (d : ByteArray) :
    Calls Tryz.prog 83 #[.pointer (some ⟨R.b, 0, none⟩), .string d] w fun e w' => e = .returned (.tuple #[.int .i64 (foldI S d), .int .i64 (S.ask true [d])]) ∧ Chg [] w w' := by
  have HR := Lib.hid h
  have HI := Lib.hid hi
  have HB := Lib.hid hB
  have HSL : Hid (S.seen.length ≤ 1073741824) := Lib.hid (by have := hi.seenl; omega)
  clear h hi hB
  go_enter Tryz.func83, Tryz.ntmps83
  rcases ask_cases S d [] with ⟨hd, ha⟩ | ⟨hd, hg, ha⟩ | ⟨hd, hg, hn, ha⟩ | ⟨hd, hg, ⟨F, hF⟩, ha⟩
  · have HDN := Lib.hid hd
    have HFI : Hid (foldI S d = -1) := Lib.hid (by unfold foldI; rw [ha]; rfl)
    have HA := Lib.hid ha
    clear hd ha
    go_wp2_with fail
    refine (HR.out.down).mono ?_
    rintro e w1 ⟨rfl, hc⟩
    rw [HDN.out]
    have HC1 := Lib.hid hc
    have HR1 := Lib.hid (HR.out.keep0 hc)
    clear hc
    go_wp2
    go_ret2
    exact ⟨by rw [HFI.out, HA.out]; rfl, HC1.out⟩
  · have HDN := Lib.hid hd
    have HFI : Hid (foldI S d = -1) := Lib.hid (by unfold foldI; rw [ha]; rfl)
    have HG : Hid (goodP d = false) := Lib.hid (by simpa using hg)
    have HA := Lib.hid ha
    clear hd ha hg
    go_wp2_with fail
    refine (HR.out.down).mono ?_
    rintro e w1 ⟨rfl, hc⟩
    rw [HDN.out]
    have HC1 := Lib.hid hc
    have HR1 := Lib.hid (HR.out.keep0 hc)
    clear hc
    go_wp2_with fail
    refine (rgood_any d _).mono ?_
    rintro e w2 ⟨rfl, hc⟩
    rw [HG.out]
    have HC2 := Lib.hid hc
    have HR2 := Lib.hid (HR1.out.keep0 hc)
    clear hc
    go_wp2
    go_ret2
    exact ⟨by rw [HFI.out, HA.out]; rfl, HC1.out.trans0 HC2.out⟩
  · have HDN := Lib.hid hd
    have HFI : Hid (foldI S d = -1) := Lib.hid (by unfold foldI; rw [ha]; rfl)
    have HG : Hid (goodP d = true) := Lib.hid (by simpa using hg)
    have HAT : Hid (atI d 0 S.seen = -1) := Lib.hid (atI_none hn 0)
    have HA := Lib.hid ha
    clear hd ha hg hn
    go_wp2_with fail
    refine (HR.out.down).mono ?_
    rintro e w1 ⟨rfl, hc⟩
    rw [HDN.out]
    have HC1 := Lib.hid hc
    have HR1 := Lib.hid (HR.out.keep0 hc)
    clear hc
    go_wp2_with fail
    refine (rgood_any d _).mono ?_
    rintro e w2 ⟨rfl, hc⟩
    rw [HG.out]
    have HC2 := Lib.hid hc
    have HR2 := Lib.hid (HR1.out.keep0 hc)
    clear hc
    have r0 := HR2.out.blk.cell 0
    simp only [List.getElem?_toArray, List.getElem?_cons_zero] at r0
    go_wp2_with fail
    refine (rat_any _ _ _ _ d _ HR2.out.seen HSL.out).mono ?_
    rintro e w3 ⟨rfl, rfl⟩
    rw [HR2.out.seenv, HAT.out]
    clear r0
    go_wp2
    go_ret2
    exact ⟨by rw [HFI.out, HA.out]; rfl, HC1.out.trans0 HC2.out⟩
  · have HDN := Lib.hid hd
    obtain ⟨i, hi1, _⟩ := atI_some hF 0
    rw [Nat.zero_add] at hi1
    have HFI : Hid (foldI S d = (i : Int)) := Lib.hid (by unfold foldI; rw [ha, if_pos rfl, hi1])
    have HG : Hid (goodP d = true) := Lib.hid (by simpa using hg)
    have HAT := Lib.hid hi1
    have HA := Lib.hid ha
    clear hd ha hg hF hi1
    go_wp2_with fail
    refine (HR.out.down).mono ?_
    rintro e w1 ⟨rfl, hc⟩
    rw [HDN.out]
    have HC1 := Lib.hid hc
    have HR1 := Lib.hid (HR.out.keep0 hc)
    clear hc
    go_wp2_with fail
    refine (rgood_any d _).mono ?_
    rintro e w2 ⟨rfl, hc⟩
    rw [HG.out]
    have HC2 := Lib.hid hc
    have HR2 := Lib.hid (HR1.out.keep0 hc)
    clear hc
    have r0 := HR2.out.blk.cell 0
    simp only [List.getElem?_toArray, List.getElem?_cons_zero] at r0
    go_wp2_with fail
    refine (rat_any _ _ _ _ d _ HR2.out.seen HSL.out).mono ?_
    rintro e w3 ⟨rfl, rfl⟩
    rw [HR2.out.seenv, HAT.out]
    clear r0
    go_wp2
    go_ret2
    exact ⟨by rw [HFI.out, HA.out]; rfl, HC1.out.trans0 HC2.out⟩
theorem fnd_of_ask {S : St} {d n : ByteArray} {E : Int} (h : S.ask true [d, n] = E) (h0 : E ≠ 0) : S.fnd d n = (none, E) := by unfold St.fnd; rw [h, if_pos h0]
theorem fnd_of {S : St} {d n : ByteArray} {F : Fol} (h : S.ask true [d, n] = 0) (hF : aget S.seen d = some F) : S.fnd d n = match aget F n with
  | none => (none, 82)
  | some i => (some i, 0) := by
  have : folOf S.seen d = F := by unfold folOf; rw [hF]; rfl
  unfold St.fnd
  rw [h, if_neg (by simp), this]
  cases aget F n <;> rfl
theorem RfM.fold_at {w : World} {R : RfG} {S : St} (h : RfM w R S) {d : ByteArray} {i : Nat} {F : Fol} (hp : S.seen[i]? = some (d, F)) : ∃ ad A n c, R.sA = some ad ∧ NsAt w (ad.add (i * 2)) ⟨d, A, n, c⟩ ∧ Rd w 2 A n c (nmv F) := by
  obtain ⟨ad, A, n, c, h1, h2, h3, _⟩ := h.fold hp
  exact ⟨ad, A, n, c, h1, h2, h3⟩

set_option maxRecDepth 100000 in
set_option maxHeartbeats 6400000 in
theorem rfound_any {w : World} {R : RfG} {S : St} {B : Nat} (h : RfM w R S) (hi : Inv B S) (hB : B + 1 ≤ 536870912) (d n : ByteArray) :
    Calls Tryz.prog 87 #[.pointer (some ⟨R.b, 0, none⟩), .string d, .string n] w fun e w' => e = .returned (.tuple #[.int .i64 (fndI (S.fnd d n)), .int .i64 (S.fnd d n).2]) ∧ Chg [] w w' := by
  have HR := Lib.hid h
  have HI := Lib.hid hi
  have HB := Lib.hid hB
  have HSL : Hid (S.seen.length ≤ 1073741824) := Lib.hid (by have := hi.seenl; omega)
  clear h hi hB
  go_enter Tryz.func87, Tryz.ntmps87
  rcases ask_cases S d [n] with ⟨hd, ha⟩ | ⟨hd, hg, ha⟩ | ⟨hd, hg, hn, ha⟩ | ⟨hd, hg, ⟨F, hF⟩, ha⟩
  · have HDN := Lib.hid hd
    have HRES := Lib.hid (fnd_of_ask ha (by decide))
    clear hd ha
    go_wp2_with fail
    refine (HR.out.down).mono ?_
    rintro e w1 ⟨rfl, hc⟩
    rw [HDN.out]
    have HC1 := Lib.hid hc
    have HR1 := Lib.hid (HR.out.keep0 hc)
    clear hc
    go_wp2
    go_ret2
    exact ⟨by rw [HRES.out]; rfl, HC1.out⟩
  · have HDN := Lib.hid hd
    have HRES : Hid (S.fnd d n = (none, 81)) := Lib.hid (by exact fnd_of_ask ha (by decide))
    clear hd ha
    cases hg1 : goodP d with
    | false =>
      have HG1 := Lib.hid hg1
      clear hg hg1
      go_wp2_with fail
      refine (HR.out.down).mono ?_
      rintro e w1 ⟨rfl, hc⟩
      rw [HDN.out]
      have HC1 := Lib.hid hc
      have HR1 := Lib.hid (HR.out.keep0 hc)
      clear hc
      go_wp2_with fail
      refine (rgood_any d _).mono ?_
      rintro e w2 ⟨rfl, hc⟩
      rw [HG1.out]
      have HC2 := Lib.hid hc
      have HR2 := Lib.hid (HR1.out.keep0 hc)
      clear hc
      go_wp2
      go_ret2
      exact ⟨by rw [HRES.out]; rfl, (HC1.out.trans0 HC2.out)⟩
    | true =>
      have HG1 := Lib.hid hg1
      have HG2 : Hid (goodP n = false) := Lib.hid (by simpa [hg1] using hg)
      clear hg hg1
      go_wp2_with fail
      refine (HR.out.down).mono ?_
      rintro e w1 ⟨rfl, hc⟩
      rw [HDN.out]
      have HC1 := Lib.hid hc
      have HR1 := Lib.hid (HR.out.keep0 hc)
      clear hc
      go_wp2_with fail
      refine (rgood_any d _).mono ?_
      rintro e w2 ⟨rfl, hc⟩
      rw [HG1.out]
      have HC2 := Lib.hid hc
      have HR2 := Lib.hid (HR1.out.keep0 hc)
      clear hc
      go_wp2_with fail
      refine (rgood_any n _).mono ?_
      rintro e w3 ⟨rfl, hc⟩
      rw [HG2.out]
      have HC3 := Lib.hid hc
      have HR3 := Lib.hid (HR2.out.keep0 hc)
      clear hc
      go_wp2
      go_ret2
      exact ⟨by rw [HRES.out]; rfl, ((HC1.out.trans0 HC2.out).trans0 HC3.out)⟩
  · have HDN := Lib.hid hd
    have HRES := Lib.hid (fnd_of_ask ha (by decide))
    have HAT : Hid (atI d 0 S.seen = -1) := Lib.hid (atI_none hn 0)
    have HG1 : Hid (goodP d = true) := Lib.hid (by simp at hg; exact hg.1)
    have HG2 : Hid (goodP n = true) := Lib.hid (by simp at hg; exact hg.2)
    clear hd ha hg hn
    go_wp2_with fail
    refine (HR.out.down).mono ?_
    rintro e w1 ⟨rfl, hc⟩
    rw [HDN.out]
    have HC1 := Lib.hid hc
    have HR1 := Lib.hid (HR.out.keep0 hc)
    clear hc
    go_wp2_with fail
    refine (rgood_any d _).mono ?_
    rintro e w2 ⟨rfl, hc⟩
    rw [HG1.out]
    have HC2 := Lib.hid hc
    have HR2 := Lib.hid (HR1.out.keep0 hc)
    clear hc
    go_wp2_with fail
    refine (rgood_any n _).mono ?_
    rintro e w3 ⟨rfl, hc⟩
    rw [HG2.out]
    have HC3 := Lib.hid hc
    have HR3 := Lib.hid (HR2.out.keep0 hc)
    clear hc
    have r0 := HR3.out.blk.cell 0
    simp only [List.getElem?_toArray, List.getElem?_cons_zero] at r0
    go_wp2_with fail
    refine (rat_any _ _ _ _ d _ HR3.out.seen HSL.out).mono ?_
    rintro e w4 ⟨rfl, rfl⟩
    rw [HR3.out.seenv, HAT.out]
    clear r0
    go_wp2
    go_ret2
    exact ⟨by rw [HRES.out]; rfl, (HC1.out.trans0 HC2.out).trans0 HC3.out⟩
  · have HDN := Lib.hid hd
    have hfd := fnd_of ha hF
    have HG1 : Hid (goodP d = true) := Lib.hid (by simp at hg; exact hg.1)
    have HG2 : Hid (goodP n = true) := Lib.hid (by simp at hg; exact hg.2)
    obtain ⟨i, hi1, hi2⟩ := atI_some hF 0
    rw [Nat.zero_add] at hi1
    have HAT := Lib.hid hi1
    have HI2 := Lib.hid hi2
    have hil : i < S.seen.length := (List.getElem?_eq_some_iff.1 hi2).1
    have HFL : Hid (F.length ≤ 1073741824) := Lib.hid (by have := wd_sub (List.mem_of_getElem? hi2); have := HI.out.wd; have := HB.out; simp only at *; omega)
    obtain ⟨TN, hTN⟩ : ∃ TN, S.seen.length = TN := ⟨_, rfl⟩
    have HTN := Lib.hid hTN
    rw [hTN] at hil
    clear hi1 hi2 hF hTN
    clear hd ha hg
    cases hx : aget F n with
    | none =>
      have HRES : Hid (S.fnd d n = (none, 82)) := Lib.hid (by rw [hfd, hx])
      have HFI : Hid (fileI F n = -1) := Lib.hid (by unfold fileI; rw [hx])
      clear hfd hx
      go_wp2_with fail
      refine (HR.out.down).mono ?_
      rintro e w1 ⟨rfl, hc⟩
      rw [HDN.out]
      have HC1 := Lib.hid hc
      have HR1 := Lib.hid (HR.out.keep0 hc)
      clear hc
      go_wp2_with fail
      refine (rgood_any d _).mono ?_
      rintro e w2 ⟨rfl, hc⟩
      rw [HG1.out]
      have HC2 := Lib.hid hc
      have HR2 := Lib.hid (HR1.out.keep0 hc)
      clear hc
      go_wp2_with fail
      refine (rgood_any n _).mono ?_
      rintro e w3 ⟨rfl, hc⟩
      rw [HG2.out]
      have HC3 := Lib.hid hc
      have HR3 := Lib.hid (HR2.out.keep0 hc)
      clear hc
      obtain ⟨ad, fA, fn, fc, hsA, hat, hfr⟩ := HR3.out.fold_at HI2.out
      have r0 := HR3.out.blk.cell 0
      simp only [List.getElem?_toArray, List.getElem?_cons_zero, hsA, HTN.out] at r0
      have HSA := Lib.hid hsA
      have x0 := hat.c0
      have x1 := hat.c1
      have HFR := Lib.hid hfr
      have hil' : (i : Int) < TN := by omega
      have hi0 : (0 : Int) ≤ (i : Int) := by omega
      have hfn : fn ≤ 1073741824 := by have h1 := hfr.nml; have h2 := HFL.out; omega
      clear hsA hat hfr
      go_wp2_with fail
      refine (rat_any _ _ _ _ d _ (by have := HR3.out.seen; rw [HSA.out, HTN.out] at this; exact this) (by have := HSL.out; have := HTN.out; omega)).mono ?_
      rintro e w4 ⟨rfl, rfl⟩
      rw [HR3.out.seenv, HAT.out]
      go_wp2_with fail
      refine (rfile_any d fA fn fc F n _ HFR.out hfn).mono ?_
      rintro e w5 ⟨rfl, hc⟩
      have HC5 := Lib.hid hc
      have HR5 := Lib.hid (HR3.out.keep0 hc)
      clear hc x0 x1 r0
      rw [HFI.out]
      go_wp2
      go_ret2
      exact ⟨by rw [HRES.out]; rfl, ((HC1.out.trans0 HC2.out).trans0 HC3.out).trans0 HC5.out⟩
    | some x =>
      have HRES : Hid (S.fnd d n = (some x, 0)) := Lib.hid (by rw [hfd, hx])
      have HFI : Hid (fileI F n = (x : Int)) := Lib.hid (by unfold fileI; rw [hx])
      clear hfd hx
      go_wp2_with fail
      refine (HR.out.down).mono ?_
      rintro e w1 ⟨rfl, hc⟩
      rw [HDN.out]
      have HC1 := Lib.hid hc
      have HR1 := Lib.hid (HR.out.keep0 hc)
      clear hc
      go_wp2_with fail
      refine (rgood_any d _).mono ?_
      rintro e w2 ⟨rfl, hc⟩
      rw [HG1.out]
      have HC2 := Lib.hid hc
      have HR2 := Lib.hid (HR1.out.keep0 hc)
      clear hc
      go_wp2_with fail
      refine (rgood_any n _).mono ?_
      rintro e w3 ⟨rfl, hc⟩
      rw [HG2.out]
      have HC3 := Lib.hid hc
      have HR3 := Lib.hid (HR2.out.keep0 hc)
      clear hc
      obtain ⟨ad, fA, fn, fc, hsA, hat, hfr⟩ := HR3.out.fold_at HI2.out
      have r0 := HR3.out.blk.cell 0
      simp only [List.getElem?_toArray, List.getElem?_cons_zero, hsA, HTN.out] at r0
      have HSA := Lib.hid hsA
      have x0 := hat.c0
      have x1 := hat.c1
      have HFR := Lib.hid hfr
      have hil' : (i : Int) < TN := by omega
      have hi0 : (0 : Int) ≤ (i : Int) := by omega
      have hfn : fn ≤ 1073741824 := by have h1 := hfr.nml; have h2 := HFL.out; omega
      clear hsA hat hfr
      go_wp2_with fail
      refine (rat_any _ _ _ _ d _ (by have := HR3.out.seen; rw [HSA.out, HTN.out] at this; exact this) (by have := HSL.out; have := HTN.out; omega)).mono ?_
      rintro e w4 ⟨rfl, rfl⟩
      rw [HR3.out.seenv, HAT.out]
      go_wp2_with fail
      refine (rfile_any d fA fn fc F n _ HFR.out hfn).mono ?_
      rintro e w5 ⟨rfl, hc⟩
      have HC5 := Lib.hid hc
      have HR5 := Lib.hid (HR3.out.keep0 hc)
      clear hc x0 x1 r0
      rw [HFI.out]
      go_wp2
      go_ret2
      exact ⟨by rw [HRES.out]; rfl, ((HC1.out.trans0 HC2.out).trans0 HC3.out).trans0 HC5.out⟩
end Go.Proofs.YtgomofeidghmiaaGreat
