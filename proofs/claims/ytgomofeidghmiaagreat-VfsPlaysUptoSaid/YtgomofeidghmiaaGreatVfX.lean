/-
  Layer 08: Durable: what a loss of power leaves.
-/
import Derived.Test.YtgomofeidghmiaaGreatVfJe
namespace Go.Proofs.YtgomofeidghmiaaGreat
open Go.RowKit

/-- how many changes of names are kept -/
def keptN (names : Int) (n : Nat) : Nat := min names.toNat n
theorem etyBools : Ety Tryz.prog 50 4 1 1 (.bool false) := .mk' Tryz.underlying50 (by kernel_rfl) rfl (by decide)
theorem kblk_perm {kg : KG} (hn : (kg.map Prod.fst).Nodup) (x : Nat) : (kblk kg).Perm (bo ((aget kg x).getD KRow.nil).A ++ kblk (without kg x)) := by
  cases hx : aget kg x with
  | none => rw [without_none (aget_none.1 hx)]; exact List.Perm.refl _
  | some r =>
    have h := aput_perm hn x r
    rw [aput_same hx] at h
    exact h.flatMap_right _
theorem kblk_aput {kg : KG} (hn : (kg.map Prod.fst).Nodup) (x : Nat) (r : KRow) : (kblk (aput kg x r)).Perm (bo r.A ++ kblk (without kg x)) := (aput_perm hn x r).flatMap_right _
theorem kgv_aput (kg : KG) (x : Nat) (r : KRow) : aput (kgv kg) x r.v = kgv (aput kg x r) := aput_map (fun r : KRow => r.v) kg x r
theorem KMap.lt {w : World} {km : Nat} {kg : KG} (h : KMap w km kg) : ∀ k ∈ kblk kg, k < w.heap.size := by
  intro k hk
  obtain ⟨p, hp, hk⟩ := List.mem_flatMap.1 hk
  exact (h.row p hp).lt k hk
theorem KMap.put {w w' : World} {km x : Nat} {kg : KG} {r2 : KRow} (h : KMap w km kg) (hc : Chg (km :: bo ((aget kg x).getD KRow.nil).A) w w') (ht : Mp w' km pv (aput (kgv kg) x r2.v)) (ho : Own w' 4 1 r2.A r2.n r2.c (kv r2.bs))
    (hA : ∀ k ∈ bo r2.A, k ∈ bo ((aget kg x).getD KRow.nil).A ∨ w.heap.size ≤ k) (hx : IsB w' x) (hi : ∀ p ∈ kg, IsB w' p.1) (hkm : km ∉ kblk kg) : KMap w' km (aput kg x r2) := by
  have hn : (kg.map Prod.fst).Nodup := by rw [← kgv_fst]; exact h.top.nodup
  have hp := kblk_perm hn x
  have hnd := List.nodup_append.1 (hp.nodup_iff.1 h.sep)
  refine ⟨by rw [← kgv_aput]; exact ht, fun p hpm => ?_, fun p hpm => ?_, ?_⟩
  · rcases (mem_aput hn).1 hpm with rfl | ⟨hpm, hpx⟩
    · exact ho
    · refine (h.row p hpm).chg hc (fun k hk hm => ?_)
      have hkw : k ∈ kblk (without kg x) := List.mem_flatMap.2 ⟨p, by unfold without; simp [hpm, hpx], hk⟩
      rcases List.mem_cons.1 hm with rfl | hm
      · exact hkm (hp.mem_iff.2 (List.mem_append_right _ hkw))
      · exact hnd.2.2 k hm k hkw rfl
  · rcases (mem_aput hn).1 hpm with rfl | ⟨hpm, _⟩
    · exact hx
    · exact hi p hpm
  · refine (kblk_aput hn x r2).nodup_iff.2 (List.nodup_append.2 ⟨bo_nodup _, hnd.2.1, fun a ha b hb => ?_⟩)
    rintro rfl
    rcases hA a ha with h1 | h1
    · exact hnd.2.2 a h1 a hb rfl
    · have := h.lt a (hp.mem_iff.2 (List.mem_append_right _ hb)); omega
theorem kbs_aput {kg : KG} (hn : (kg.map Prod.fst).Nodup) (x y : Nat) (r : KRow) : kbs (aput kg x r) y = if x = y then r.bs else kbs kg y := by
  unfold kbs
  rw [aget_aput hn]
  by_cases h : x = y <;> simp [h]

/-- which of x's writes are kept, of the first j writes -/
def kI (ws : List Nat) (ks : List Bool) (j x : Nat) : List Bool := (((ws.take j).zipIdx).filter fun p => p.1 == x).map fun p => (ks[p.2]?).getD false
theorem kI_len (ws : List Nat) (ks : List Bool) (j x : Nat) : (kI ws ks j x).length ≤ j := by
  unfold kI
  rw [List.length_map]
  refine Nat.le_trans (List.length_filter_le _ _) ?_
  rw [List.length_zipIdx, List.length_take]
  omega
theorem kI_step {ws : List Nat} {ks : List Bool} {j y : Nat} (h : ws[j]? = some y) (x : Nat) : kI ws ks (j + 1) x = kI ws ks j x ++ (if y = x then [(ks[j]?).getD false] else []) := by
  unfold kI
  have hl := (List.getElem?_eq_some_iff.1 h).1
  rw [take_snoc _ _ _ h, List.zipIdx_append, List.filter_append, List.map_append]
  congr 1
  rw [List.length_take, Nat.min_eq_left (by omega)]
  by_cases hy : y = x <;> simp [hy]
theorem kI_all {ib ws : List Nat} {m x : Nat} (hn : ib.Nodup) (hl : ib.length = m) (hw : ∀ y ∈ ws, y < m) (ks : List Bool) (hx : x < m) : kI (ws.map (ibf ib)) ks ws.length (ibf ib x) = (ws.zipIdx.filter fun p => p.1 == x).map fun p => (ks[p.2]?).getD false := by
  unfold kI
  rw [List.take_of_length_le (by simp), List.zipIdx_map, List.filter_map, List.map_map]
  have : (ws.zipIdx.filter ((fun p : Nat × Nat => p.1 == ibf ib x) ∘ Prod.map (ibf ib) id)) = ws.zipIdx.filter fun p => p.1 == x := by
    refine List.filter_congr fun p hp => ?_
    have hpw := hw p.1 (List.fst_mem_of_mem_zipIdx hp)
    simp only [Function.comp, Prod.map]
    have : (ibf ib p.1 = ibf ib x) ↔ p.1 = x := ⟨fun e => by
      unfold ibf at e
      rw [List.getD_eq_getElem?_getD, List.getD_eq_getElem?_getD, List.getElem?_eq_getElem (by omega), List.getElem?_eq_getElem (by omega)] at e
      exact (List.getElem_inj hn).1 e, fun e => by rw [e]⟩
    by_cases h : p.1 = x
    · rw [h]; simp
    · have h2 : ¬ ibf ib p.1 = ibf ib x := fun e => h (this.1 e)
      exact (beq_eq_false_iff_ne.2 h2).trans (beq_eq_false_iff_ne.2 h).symm
  rw [this]
  rfl

set_option maxRecDepth 100000 in
set_option maxHeartbeats 6400000 in
theorem durable_st {w : World} {G : FsG} {S : St} {B : Nat} (h : FsM w G S) (hi : Inv B S) (hB : B ≤ 1073741824) (Ka : Option Addr) (kn kc : Nat) (ks : List Bool) (names : Int) (hKr : Rd w 1 Ka kn kc (kv ks)) (hkn : kn ≤ 1073741824) :
    Calls Tryz.prog 19 #[.pointer (some ⟨G.b, 0, none⟩), .agg #[.slice Ka kn kc, .int .i64 names]] w (NewDsk w (S.left ks names)) := by
  have HF := Lib.hid h
  have HI := Lib.hid hi
  have HB := Lib.hid hB
  have HK := Lib.hid hKr
  have n1 : S.chs.length ≤ 1073741824 := by have := hi.wds; omega
  clear h hi hB hKr
  go_enter Tryz.func19, Tryz.ntmps19
  have hbf := Blk.new w 52 #[.slice Ka kn kc, .int .i64 names]
  have hcf : Chg [] w (w.alloc (.cells #[.slice Ka kn kc, .int .i64 names] 52)) := (Chg.refl [] w).alloc _
  have h1 := (HF.out.keep0 hcf).blk.cell 1
  simp only [List.getElem?_toArray, List.getElem?_cons_succ, List.getElem?_cons_zero] at h1
  go_wp2_with fail
  obtain ⟨fb, hfb⟩ : ∃ fb, w.heap.size = fb := ⟨_, rfl⟩
  obtain ⟨W, hW⟩ : ∃ W, w.alloc (.cells #[.slice Ka kn kc, .int .i64 names] 52) = W := ⟨_, rfl⟩
  rw [hfb, hW] at hbf
  rw [hW] at hcf
  rw [hfb]
  have hFl : G.g2 = G.g2 := rfl
  refine (tclone_any _ G.t2 G.g2 (HF.out.keep0 ((Chg.refl [] w).alloc _)).tr2).mono ?_
  rintro e w1 ⟨ob, g0, rfl, htr, hnew, hc1, hcp⟩
  rw [hW] at hc1 hnew
  have HC1 : Hid (Chg [] w w1) := Lib.hid (hcf.trans0 hc1)
  have HFB := Lib.hid (hbf.chg hc1 List.not_mem_nil)
  have HF1 := Lib.hid (HF.out.keep0 HC1.out)
  have HTR := Lib.hid htr
  have HNEW : Hid (∀ x ∈ tbl ob g0, w.heap.size ≤ x) := Lib.hid (fun x hx => Nat.le_trans hcf.size (hnew x hx))
  have HCP := Lib.hid hcp
  have HFBL : Hid (w.heap.size ≤ fb ∧ fb < W.heap.size ∧ ∀ x ∈ tbl ob g0, fb < x) := Lib.hid ⟨by omega, hbf.lt, fun x hx => by have := hnew x hx; have := hbf.lt; omega⟩
  have c2 := HF1.out.blk.cell 2
  have c3 := HF1.out.blk.cell 3
  have d0 := HFB.out.cell 0
  have d1 := HFB.out.cell 1
  simp only [List.getElem?_toArray, List.getElem?_cons_succ, List.getElem?_cons_zero] at c2 c3 d0 d1
  clear hbf hcf h1 hW hfb htr hnew hc1 hcp hFl
  obtain ⟨kN, hkN⟩ : ∃ kN, keptN names S.chs.length = kN := ⟨_, rfl⟩
  have hmin : min (max names 0) (S.chs.length : Int) = (kN : Int) := by rw [← hkN]; unfold keptN; omega
  have hkl : kN ≤ S.chs.length := by rw [← hkN]; unfold keptN; omega
  have hkc : kN ≤ G.c := Nat.le_trans hkl HF.out.own.rd.2.1
  have HKN := Lib.hid hkN
  clear hkN
  go_wp2_with fail
  refine wp_region_held_drew (S := fun w' => Chg [] w1 w') (by kernel_rfl) ((Chg.refl _ _).drew) (fun hHeld => ?_)
  refine wpAnyH_take (i := 0) (v := ?_) rfl (by kernel_rfl) (by kernel_rfl) (by kernel_rfl) (fun _ _ _ h => h) (Or.inl ⟨by rfl, ?_⟩) (by assumption) ?_
  rotate_left
  · (intro w' hSw; go_simp; try with_reducible rfl)
  try simp only [Act.put, put8]
  refine wpAnyH_take (i := 1) (v := ?_) rfl (by kernel_rfl) (by kernel_rfl) (by kernel_rfl) (fun _ _ _ h => h) (Or.inl ⟨by rfl, ?_⟩) (by assumption) ?_
  rotate_left
  · (intro w' hSw; go_simp; try with_reducible rfl)
  try simp only [Act.put, put8]
  refine wpAnyH_take (i := 2) (v := ?_) rfl (by kernel_rfl) (by kernel_rfl) (by kernel_rfl) (fun _ _ _ h => h) (Or.inl ⟨by rfl, ?_⟩) (by assumption) ?_
  rotate_left
  · (intro w' hSw; go_simp; try with_reducible rfl)
  try simp only [Act.put, put8]
  refine wpAnyH_take (i := 3) (v := ?_) rfl (by kernel_rfl) (by kernel_rfl) (by kernel_rfl) (fun _ _ _ h => h) (Or.inl ⟨by rfl, ?_⟩) (by assumption) ?_
  rotate_left
  · (intro w' hSw; have y := hSw.cell c2 List.not_mem_nil; go_simp; try with_reducible rfl)
  try simp only [Act.put, put8]
  refine wpAnyH_take (i := 4) (v := ?_) rfl (by kernel_rfl) (by kernel_rfl) (by kernel_rfl) (fun _ _ _ h => h) (Or.inl ⟨by rfl, ?_⟩) (by assumption) ?_
  rotate_left
  · (intro w' hSw; go_simp; try with_reducible rfl)
  try simp only [Act.put, put8]
  refine wpAnyH_take (i := 5) (v := ?_) rfl (by kernel_rfl) (by kernel_rfl) (by kernel_rfl) (fun _ _ _ h => h) (Or.inl ⟨by rfl, ?_⟩) (by assumption) ?_
  rotate_left
  · (intro w' hSw; have y := hSw.cell d1 List.not_mem_nil; go_simp; try with_reducible rfl)
  try simp only [Act.put, put8]
  refine wpAnyH_take (i := 7) (v := ?_) rfl (by kernel_rfl) (by kernel_rfl) (by kernel_rfl) (fun _ _ _ h => h) (Or.inl ⟨by rfl, ?_⟩) (by assumption) ?_
  rotate_left
  · (intro w' hSw; go_simp; try with_reducible rfl)
  try simp only [Act.put, put8]
  refine wpAnyH_take (i := 8) (v := ?_) rfl (by kernel_rfl) (by kernel_rfl) (by kernel_rfl) (fun _ _ _ h => h) (Or.inl ⟨by rfl, ?_⟩) (by assumption) ?_
  rotate_left
  · (intro w' hSw; go_simp; try with_reducible rfl)
  try simp only [Act.put, put8]
  refine wpAnyH_take (i := 9) (v := ?_) rfl (by kernel_rfl) (by kernel_rfl) (by kernel_rfl) (fun _ _ _ h => h) (Or.inl ⟨by rfl, ?_⟩) (by assumption) ?_
  rotate_left
  · (intro w' hSw; go_simp; try with_reducible rfl)
  try simp only [Act.put, put8]
  refine wpAnyH_take (i := 10) (v := ?_) rfl (by kernel_rfl) (by kernel_rfl) (by kernel_rfl) (fun _ _ _ h => h) (Or.inl ⟨by rfl, ?_⟩) (by assumption) ?_
  rotate_left
  · (intro w' hSw; have y := hSw.cell c2 List.not_mem_nil; go_simp; try with_reducible rfl)
  try simp only [Act.put, put8]
  refine wpAnyH_take (i := 11) (v := ?_) rfl (by kernel_rfl) (by kernel_rfl) (by kernel_rfl) (fun _ _ _ h => h) (Or.inl ⟨by rfl, ?_⟩) (by assumption) ?_
  rotate_left
  · (intro w' hSw; go_simp; try with_reducible rfl)
  try simp only [Act.put, put8]
  refine wpAnyH_take (i := 15) (v := ?_) rfl (by kernel_rfl) (by kernel_rfl) (by kernel_rfl) (fun _ _ _ h => h) (Or.inl ⟨by rfl, ?_⟩) (by assumption) ?_
  rotate_left
  · (intro w' hSw; go_simp; try with_reducible rfl)
  try simp only [Act.put, put8]
  refine wpAnyH_ready (rs := [6]) (by kernel_rfl) (by simp) ?_
  refine AllReadyH.cons rfl (fun K hK => ?_) (AllReadyH.nil)
  go_simp
  refine hK.out _ _ (hHeld) (fun hHeld => ?_)
  try simp only [Act.put, put8]
  clear hK K
  refine wpAnyH_ready (rs := [12]) (by kernel_rfl) (by simp) ?_
  refine AllReadyH.cons rfl (fun K hK => ?_) (AllReadyH.nil)
  go_simp
  refine hK.out _ _ (hHeld) (fun hHeld => ?_)
  try simp only [Act.put, put8]
  clear hK K
  refine wpAnyH_take (i := 13) (v := ?_) rfl (by kernel_rfl) (by kernel_rfl) (by kernel_rfl) (fun _ _ _ h => h) (Or.inl ⟨by rfl, ?_⟩) (by assumption) ?_
  rotate_left
  · (intro w' hSw; go_simp; try with_reducible rfl)
  try simp only [Act.put, put8]
  refine wpAnyH_take (i := 14) (v := ?_) rfl (by kernel_rfl) (by kernel_rfl) (by kernel_rfl) (fun _ _ _ h => h) (Or.inl ⟨by rfl, ?_⟩) (by assumption) ?_
  rotate_left
  · (intro w' hSw; go_simp; try with_reducible rfl)
  try simp only [Act.put, put8]
  refine wpAnyH_done (by kernel_rfl) ?_ _
  try simp only [Act.put, put8]
  have HD0 : Hid (Chg [] w w1.drew) := Lib.hid (HC1.out.drew)
  clear hHeld hmin hkc d1
  go_wp2
  go_loopw [7, 31] (fun _ q wr => ∃ (i : Nat) (g' : GTr), i ≤ kN ∧ q = .int .i64 i ∧ Tree wr ob g' ∧ TreeIs G.ib g' (runC S.safe (S.chs.take i)) ∧ (∀ x ∈ tbl ob g', fb < x) ∧ Chg [] w wr ∧ Blk wr fb 52 #[.slice Ka kn kc, .int .i64 names]) (fun _ q _ => kN - (intOf q).toNat)
  case atStart => exact ⟨0, g0, Nat.zero_le _, rfl, HTR.out.keep (Chg.refl [] w1).drew (fun _ _ => List.not_mem_nil), HF.out.is2.copied HCP.out, HFBL.out.2.2, HD0.out, HFB.out.drew⟩
  case round =>
    obtain ⟨i, g', hiN, rfl, ht, hti, htn, hch, hfb2⟩ := hrel
    have HT := Lib.hid ht
    have HTI := Lib.hid hti
    have HTN := Lib.hid htn
    have HCH := Lib.hid hch
    have HFB2 := Lib.hid hfb2
    clear ht hti htn hch hfb2
    by_cases hlt : i < kN
    · have hlt' : (i : Int) < kN := by omega
      obtain ⟨c, hci⟩ : ∃ c, S.chs[i]? = some c := ⟨_, List.getElem?_eq_getElem (by omega)⟩
      obtain ⟨ad, v, hA, hvi, hcell⟩ := HF.out.own.rd.at1 (k := i) (by omega)
      have hcell0 := HCH.out.cell hcell List.not_mem_nil
      have hv := (HF.out.chn i c v hci hvi).keep HCH.out (fun _ _ => List.not_mem_nil) (fun _ h => h) (fun _ _ => rfl) (Nat.le_refl _)
      have hok := okC_at HI.out.chs hci
      have HOK := Lib.hid hok
      have HCI := Lib.hid hci
      have HVL : Hid (Val S.files.length (runC S.safe (S.chs.take i))) := Lib.hid (HI.out.safe.run (okC_take HI.out.chs i))
      rw [hA] at *
      clear hcell hvi hok hci
      cases c with
        | mkdir d =>
          obtain ⟨k, rfl, hkK, hk⟩ := hv
          go_wp2_with fail
          refine (cl_mkdir HT.out HTI.out HOK.out.2 hk).mono ?_
          rintro ee w4 ⟨rfl, ⟨g2, ht2, hi2, hsub2⟩, hch2⟩
          have HT2 := Lib.hid ht2
          have HI2 := Lib.hid hi2
          have HS2 := Lib.hid hsub2
          have HC2 := Lib.hid hch2
          clear ht2 hi2 hsub2 hch2
          go_wp2
          go_roundw
          case rel =>
            have hfl := HFB2.out.lt
            refine ⟨i + 1, g2, by omega, by go_num, HT2.out, by rw [take_snoc _ _ _ HCI.out, runC_snoc]; exact HI2.out, fun x hx => ?_, HCH.out.trans HC2.out (fun x hx => .inr (by have := HTN.out x hx; have := HFBL.out.1; omega)), HFB2.out.chg HC2.out (fun hm => by have := HTN.out fb hm; omega)⟩
            rcases HS2.out x hx with h | h
            · exact HTN.out x h
            · omega
          case measure => simp [intOf]; omega
        | create d n j =>
          obtain ⟨x, k, j2, rfl, hxK, hkK, hjK, hx, hk, hj, hjl⟩ := hv
          go_wp2_with fail
          refine (cl_create HT.out HTI.out HVL.out HOK.out hx hk hj).mono ?_
          rintro ee w4 ⟨rfl, ⟨g2, ht2, hi2, hsub2⟩, hch2⟩
          have HT2 := Lib.hid ht2
          have HI2 := Lib.hid hi2
          have HS2 := Lib.hid hsub2
          have HC2 := Lib.hid hch2
          clear ht2 hi2 hsub2 hch2
          go_wp2
          go_roundw
          case rel =>
            have hfl := HFB2.out.lt
            refine ⟨i + 1, g2, by omega, by go_num, HT2.out, by rw [take_snoc _ _ _ HCI.out, runC_snoc]; exact HI2.out, fun x hx => ?_, HCH.out.trans HC2.out (fun x hx => .inr (by have := HTN.out x hx; have := HFBL.out.1; omega)), HFB2.out.chg HC2.out (fun hm => by have := HTN.out fb hm; omega)⟩
            rcases HS2.out x hx with h | h
            · exact HTN.out x h
            · omega
          case measure => simp [intOf]; omega
        | rename d n =>
          obtain ⟨k, j, rfl, hkK, hjK, hk, hj⟩ := hv
          go_wp2_with fail
          refine (cl_rename HT.out HTI.out HOK.out hk hj (fun e => by have h1 := HF.out.lay.lt G.K (List.mem_of_getElem? (i := 5) rfl) k hkK; have h2 := HTN.out ob (by simp [tbl]); have h3 := HFBL.out.1; omega) (fun e => by have h1 := HF.out.lay.lt G.K (List.mem_of_getElem? (i := 5) rfl) j hjK; have h2 := HTN.out ob (by simp [tbl]); have h3 := HFBL.out.1; omega)).mono ?_
          rintro ee w4 ⟨rfl, ⟨g2, ht2, hi2, hsub2⟩, hch2⟩
          have HT2 := Lib.hid ht2
          have HI2 := Lib.hid hi2
          have HS2 := Lib.hid hsub2
          have HC2 := Lib.hid hch2
          clear ht2 hi2 hsub2 hch2
          go_wp2
          go_roundw
          case rel =>
            have hfl := HFB2.out.lt
            refine ⟨i + 1, g2, by omega, by go_num, HT2.out, by rw [take_snoc _ _ _ HCI.out, runC_snoc]; exact HI2.out, fun x hx => ?_, HCH.out.trans HC2.out (fun x hx => .inr (by have := HTN.out x hx; have := HFBL.out.1; omega)), HFB2.out.chg HC2.out (fun hm => by have := HTN.out fb hm; omega)⟩
            rcases HS2.out x hx with h | h
            · exact HTN.out x h
            · omega
          case measure => simp [intOf]; omega
        | remove d n =>
          obtain ⟨k, j, rfl, hkK, hjK, hk, hj⟩ := hv
          go_wp2_with fail
          refine (cl_remove HT.out HTI.out HVL.out HOK.out hk hj).mono ?_
          rintro ee w4 ⟨rfl, ⟨g2, ht2, hi2, hsub2⟩, hch2⟩
          have HT2 := Lib.hid ht2
          have HI2 := Lib.hid hi2
          have HS2 := Lib.hid hsub2
          have HC2 := Lib.hid hch2
          clear ht2 hi2 hsub2 hch2
          go_wp2
          go_roundw
          case rel =>
            have hfl := HFB2.out.lt
            refine ⟨i + 1, g2, by omega, by go_num, HT2.out, by rw [take_snoc _ _ _ HCI.out, runC_snoc]; exact HI2.out, fun x hx => ?_, HCH.out.trans HC2.out (fun x hx => .inr (by have := HTN.out x hx; have := HFBL.out.1; omega)), HFB2.out.chg HC2.out (fun hm => by have := HTN.out fb hm; omega)⟩
            rcases HS2.out x hx with h | h
            · exact HTN.out x h
            · omega
          case measure => simp [intOf]; omega
        | rmdir d =>
          obtain ⟨k, rfl, hkK, hk⟩ := hv
          go_wp2_with fail
          refine (cl_rmdir HT.out HTI.out hk).mono ?_
          rintro ee w4 ⟨rfl, ⟨g2, ht2, hi2, hsub2⟩, hch2⟩
          have HT2 := Lib.hid ht2
          have HI2 := Lib.hid hi2
          have HS2 := Lib.hid hsub2
          have HC2 := Lib.hid hch2
          clear ht2 hi2 hsub2 hch2
          go_wp2
          go_roundw
          case rel =>
            have hfl := HFB2.out.lt
            refine ⟨i + 1, g2, by omega, by go_num, HT2.out, by rw [take_snoc _ _ _ HCI.out, runC_snoc]; exact HI2.out, fun x hx => ?_, HCH.out.trans HC2.out (fun x hx => .inr (by have := HTN.out x hx; have := HFBL.out.1; omega)), HFB2.out.chg HC2.out (fun hm => by have := HTN.out fb hm; omega)⟩
            rcases HS2.out x hx with h | h
            · exact HTN.out x h
            · omega
          case measure => simp [intOf]; omega
    · obtain rfl : i = kN := by omega
      have hmm := @run_makeMap Tryz.prog
      have hw3 := HF.out.wrs
      obtain ⟨km, hkm⟩ : ∃ km, wr.heap.size = km := ⟨_, rfl⟩
      obtain ⟨W2, hW2⟩ : ∃ W2, (wr.alloc (.map #[] 0)).alloc (.cells #[.map (some km)] 113) = W2 := ⟨_, rfl⟩
      have hc2 : Chg [] wr W2 := by rw [← hW2]; exact ((Chg.refl [] wr).alloc _).alloc _
      have c3' := (HF.out.keep0 (HCH.out.trans0 hc2)).blk.cell 3
      simp only [List.getElem?_toArray, List.getElem?_cons_succ, List.getElem?_cons_zero] at c3'
      have HC2 := Lib.hid hc2
      have HKM : Hid (KMap W2 km []) := Lib.hid ⟨by rw [← hW2, ← hkm]; exact (Mp.made wr pv).chg ((Chg.refl [] _).alloc _) List.not_mem_nil, by simp, by simp, by simp [kblk]⟩
      have HKB : Hid (Blk W2 (km + 1) 113 #[.map (some km)]) := Lib.hid (by
        rw [← hW2]
        have := Blk.new (wr.alloc (.map #[] 0)) 113 #[.map (some km)]
        simpa [hkm] using this)
      have HSZ : Hid (W2.heap.size = km + 2 ∧ wr.heap.size = km) := Lib.hid ⟨by rw [← hW2]; simp [hkm], hkm⟩
      have hnw : S.wr.length ≤ 1073741824 := by have := HI.out.nw; have := HB.out; omega
      clear hc2 hw3
      go_wp2
      have HF2 := Lib.hid (HF.out.keep0 (HCH.out.trans0 HC2.out))
      have HT3 := Lib.hid (HT.out.keep HC2.out (fun _ _ => List.not_mem_nil))
      have HFB3 := Lib.hid (HFB2.out.chg HC2.out List.not_mem_nil)
      have HCW : Hid (Chg [] w W2) := Lib.hid (HCH.out.trans0 HC2.out)
      have HLT : Hid (∀ x ∈ tbl ob g', x ≠ km) := Lib.hid (fun x hx => by have := HT.out.lt x hx; have := HSZ.out; omega)
      have HIS : Hid (∀ i, i < S.files.length → IsB W2 (ibf G.ib i) ∧ ibf G.ib i ≠ km) := Lib.hid (fun i hi => by
        obtain ⟨gg, LL, _, hbb, _, _, hii⟩ := HF2.out.spo hi
        refine ⟨⟨_, _, hbb⟩, ?_⟩
        have h1 := HF.out.lay.lt G.K (List.mem_of_getElem? (i := 5) rfl) _ (HF.out.ibk _ (List.mem_of_getElem? hii))
        have h2 := HCH.out.size; have h3 := HSZ.out
        omega)
      clear hmm c3' hW2 hkm
      go_loopw [9, 10, 45] (fun _ _ q wr => ∃ (j : Nat) (kg : KG), j ≤ S.wr.length ∧ q = .int .i64 j ∧ KMap wr km kg ∧ (∀ x, kbs kg x = kI (S.wr.map (ibf G.ib)) ks j x) ∧ Chg [km] W2 wr ∧ (∀ k ∈ kblk kg, W2.heap.size ≤ k) ∧ ∀ p ∈ kg, p.1 ∈ S.wr.map (ibf G.ib)) (fun _ _ q _ => S.wr.length - (intOf q).toNat)
      case atStart => exact ⟨0, [], Nat.zero_le _, rfl, HKM.out, fun x => by simp [kbs, kI, aget, KRow.nil], Chg.refl _ _, by simp [kblk], by simp⟩
      case round =>
        obtain ⟨j, kg, hjn, rfl, hkg, hkI, hchk, hknew, hkmem⟩ := hrel
        have HKG := Lib.hid hkg
        have HKI := Lib.hid hkI
        have HCK := Lib.hid hchk
        have HKN2 := Lib.hid hknew
        have HKMEM := Lib.hid hkmem
        clear hkg hkI hchk hknew hkmem
        by_cases hjl : j < S.wr.length
        · have hjl' : (j : Int) < S.wr.length := by omega
          obtain ⟨x0, hx0⟩ : ∃ x0, S.wr[j]? = some x0 := ⟨_, List.getElem?_eq_getElem hjl⟩
          have hx0l := HI.out.wr x0 (List.mem_of_getElem? hx0)
          have HCWJ : Hid (∀ p v, w.cell? p = some v → wr.cell? p = some v) := Lib.hid (fun p v hp => HCK.out.cell (HCW.out.cell hp List.not_mem_nil) (fun hm => by
            simp only [List.mem_singleton] at hm
            have h1 := World.block_lt_of_cell? w p hp
            have h2 := HCH.out.size; have h3 := HSZ.out
            omega))
          obtain ⟨bd, xx, hA2, hxx, hxc⟩ := rd_ptr (xs := S.wr.map (ibf G.ib)) (by have := HF.out.wrs.rd; rw [List.map_map]; exact this) hjl
          have hxc2 := HCWJ.out _ _ hxc
          have hxe : xx = ibf G.ib x0 := by
            rw [List.getElem?_map, hx0] at hxx
            exact (Option.some.inj hxx).symm
          subst hxe
          rw [hA2] at *
          have HXX := Lib.hid hxx
          obtain ⟨x, hxd⟩ : ∃ x, ibf G.ib x0 = x := ⟨_, rfl⟩
          have HISX := Lib.hid (HIS.out x0 hx0l)
          rw [hxd] at hxc2 HXX HISX
          have HB3 : Hid (IsB wr x) := Lib.hid (HISX.out.1.chg HCK.out (by simpa using HISX.out.2))
          obtain ⟨r, hr⟩ : ∃ r, (aget kg x).getD KRow.nil = r := ⟨_, rfl⟩
          obtain ⟨rA, rn, rc, rb⟩ := r
          have HR := Lib.hid hr
          have HOR : Hid (Own wr 4 1 rA rn rc (kv rb)) := Lib.hid (by have := HKG.out.get x; unfold kbs at this; rw [hr] at this; exact this)
          have HRB : Hid (rb = kI (S.wr.map (ibf G.ib)) ks j x) := Lib.hid (by rw [← HKI.out x]; unfold kbs; rw [hr])
          have HRN : Hid (∀ k ∈ bo rA, W2.heap.size ≤ k) := Lib.hid (fun k hk => by
            cases ha : aget kg x with
            | none => rw [ha] at hr; cases hr; simp at hk
            | some r0 =>
              rw [ha] at hr
              simp only [Option.getD_some] at hr
              subst hr
              exact HKN2.out k (List.mem_flatMap.2 ⟨_, aget_mem ha, hk⟩))
          have hrn : rn ≤ 1073741824 := by
            have h1 := HOR.out.1
            simp only [List.length_map, Nat.mul_one] at h1
            have h2 := congrArg List.length HRB.out
            have h3 := kI_len (S.wr.map (ibf G.ib)) ks j x
            omega
          have e0 := HFB3.out.chg HCK.out (by have := HSZ.out; have := HFBL.out; have := HFB2.out.lt; simp; omega)
          have f0 := e0.cell 0
          have k0 := (HKB.out.chg HCK.out (by simp)).cell 0
          have HFBR := Lib.hid (show fb ∉ km :: bo rA by
            intro hm
            have h2 := HFB2.out.lt; have h3 := HSZ.out
            rcases List.mem_cons.1 hm with h | h
            · omega
            · have := HRN.out _ h; omega)
          have HKBR := Lib.hid (show km + 1 ∉ km :: bo rA by
            intro hm
            have h3 := HSZ.out
            rcases List.mem_cons.1 hm with h | h
            · omega
            · have := HRN.out _ h; omega)
          simp only [List.getElem?_toArray, List.getElem?_cons_zero] at f0 k0
          have hlk := (HKG.out.chg0 (Chg.refl [] wr).drew).look (HB3.out.chg (Chg.refl [] wr).drew List.not_mem_nil)
          rw [hr] at hlk
          unfold KRow.v pv at hlk
          simp only at hlk
          have HLKA : Hid (∀ bb, (Instr.lookup 113 (.map (some km)) (.pointer (some ⟨x, 0, none⟩)) false).run Tryz.prog (wr.drew.alloc (.cells #[.bool bb] 4)) = .ok (.slice rA rn rc) (wr.drew.alloc (.cells #[.bool bb] 4))) := Lib.hid (fun bb => by
            have hc : Chg [] wr (wr.drew.alloc (.cells #[.bool bb] 4)) := ((Chg.refl [] wr).drew).alloc _
            have := (HKG.out.chg0 hc).look (HB3.out.chg hc List.not_mem_nil)
            rw [HR.out] at this
            exact this)
          clear hx0 hx0l hxc hxx hr e0 hxd
          have HLOW : Hid (∀ y ∈ S.wr.map (ibf G.ib), y < km) := Lib.hid (fun y hy => by
            obtain ⟨i2, hi2, rfl⟩ := List.mem_map.1 hy
            obtain ⟨gg, LL, _, hbb, _, _, hii⟩ := HF.out.spo (HI.out.wr i2 hi2)
            have h1 := HF.out.lay.lt G.K (List.mem_of_getElem? (i := 5) rfl) _ (HF.out.ibk _ (List.mem_of_getElem? hii))
            have h2 := HCH.out.size; have h3 := HSZ.out
            omega)
          by_cases hik : j < kn
          · have hjk : (j : Int) < kn := by omega
            obtain ⟨ka, b, rfl, hkb, hkc0⟩ := rd_bool HK.out hik
            have hkcell := HCWJ.out _ _ hkc0
            have HKB2 : Hid ((ks[j]?).getD false = b) := Lib.hid (by rw [hkb]; rfl)
            have HKAR : Hid ((ka.add j).block ∉ km :: bo rA) := Lib.hid (fun hm => by
              have h1 := World.block_lt_of_cell? w _ hkc0
              have h2 := HCH.out.size; have h3 := HSZ.out
              rcases List.mem_cons.1 hm with h | h
              · omega
              · have := HRN.out _ h; omega)
            clear hkb hkc0
            have HOA : Hid (Own (wr.drew.alloc (.cells #[.bool b] 4)) 4 1 rA rn rc (kv rb)) := Lib.hid (HOR.out.chg (((Chg.refl [] wr).drew).alloc _) (fun _ _ => List.not_mem_nil))
            have hlk2 : (Instr.lookup 113 (.map (some km)) (.pointer (some ⟨x, 0, none⟩)) false).run Tryz.prog ((wr.alloc (.cells #[.bool b] 4)).drew) = .ok (.slice rA rn rc) ((wr.alloc (.cells #[.bool b] 4)).drew) := HLKA.out b
            go_wp2
            refine wp_region_held_drew (S := fun w' => Chg (km :: bo rA) wr w') (by kernel_rfl) ((Chg.refl _ _).drew) (fun hHeld => ?_)
            refine wpAnyH_take (i := 0) (v := ?_) rfl (by kernel_rfl) (by kernel_rfl) (by kernel_rfl) (fun _ _ _ h => h) (Or.inl ⟨by rfl, ?_⟩) (by assumption) ?_
            rotate_left
            · (intro w' hSw; have y := hSw.cell k0 HKBR.out; go_simp; try with_reducible rfl)
            try simp only [Act.put, put8]
            refine wpAnyH_take (i := 1) (v := ?_) rfl (by kernel_rfl) (by kernel_rfl) (by kernel_rfl) (fun _ _ _ h => h) (Or.inl ⟨by rfl, ?_⟩) (by assumption) ?_
            rotate_left
            · (intro w' hSw; go_simp; try with_reducible rfl)
            try simp only [Act.put, put8]
            refine wpAnyH_take (i := 2) (v := ?_) rfl (by kernel_rfl) (by kernel_rfl) (by kernel_rfl) (fun _ _ _ h => h) (Or.inl ⟨by rfl, ?_⟩) (by assumption) ?_
            rotate_left
            · (intro w' hSw; have y := hSw.cell k0 HKBR.out; go_simp; try with_reducible rfl)
            try simp only [Act.put, put8]
            refine wpAnyH_take (i := 3) (v := ?_) rfl (by kernel_rfl) (by kernel_rfl) (by kernel_rfl) (fun _ _ _ h => h) (Or.inl ⟨by rfl, ?_⟩) (by assumption) ?_
            rotate_left
            · (intro w' hSw; go_simp; try with_reducible rfl)
            try simp only [Act.put, put8]
            refine wpAnyH_take (i := 5) (v := ?_) rfl (by kernel_rfl) (by kernel_rfl) (by kernel_rfl) (fun _ _ _ h => h) (Or.inl ⟨by rfl, ?_⟩) (by assumption) ?_
            rotate_left
            · (intro w' hSw; go_simp; try with_reducible rfl)
            try simp only [Act.put, put8]
            refine wpAnyH_take (i := 6) (v := ?_) rfl (by kernel_rfl) (by kernel_rfl) (by kernel_rfl) (fun _ _ _ h => h) (Or.inl ⟨by rfl, ?_⟩) (by assumption) ?_
            rotate_left
            · (intro w' hSw; go_simp; try with_reducible rfl)
            try simp only [Act.put, put8]
            refine wpAnyH_take (i := 7) (v := ?_) rfl (by kernel_rfl) (by kernel_rfl) (by kernel_rfl) (fun _ _ _ h => h) (Or.inl ⟨by rfl, ?_⟩) (by assumption) ?_
            rotate_left
            · (intro w' hSw; have y := hSw.cell f0 HFBR.out; go_simp; try with_reducible rfl)
            try simp only [Act.put, put8]
            refine wpAnyH_take (i := 8) (v := ?_) rfl (by kernel_rfl) (by kernel_rfl) (by kernel_rfl) (fun _ _ _ h => h) (Or.inl ⟨by rfl, ?_⟩) (by assumption) ?_
            rotate_left
            · (intro w' hSw; go_simp; try with_reducible rfl)
            try simp only [Act.put, put8]
            refine wpAnyH_take (i := 9) (v := ?_) rfl (by kernel_rfl) (by kernel_rfl) (by kernel_rfl) (fun _ _ _ h => h) (Or.inl ⟨by rfl, ?_⟩) (by assumption) ?_
            rotate_left
            · (intro w' hSw; go_simp; try with_reducible rfl)
            try simp only [Act.put, put8]
            refine wpAnyH_take (i := 10) (v := ?_) rfl (by kernel_rfl) (by kernel_rfl) (by kernel_rfl) (fun _ _ _ h => h) (Or.inl ⟨by rfl, ?_⟩) (by assumption) ?_
            rotate_left
            · (intro w' hSw; go_simp; try with_reducible rfl)
            try simp only [Act.put, put8]
            refine wpAnyH_take (i := 11) (v := ?_) rfl (by kernel_rfl) (by kernel_rfl) (by kernel_rfl) (fun _ _ _ h => h) (Or.inl ⟨by rfl, ?_⟩) (by assumption) ?_
            rotate_left
            · (intro w' hSw; go_simp; try with_reducible rfl)
            try simp only [Act.put, put8]
            refine wpAnyH_take (i := 12) (v := ?_) rfl (by kernel_rfl) (by kernel_rfl) (by kernel_rfl) (fun _ _ _ h => h) (Or.inl ⟨by rfl, ?_⟩) (by assumption) ?_
            rotate_left
            · (intro w' hSw; have y := hSw.cell f0 HFBR.out; go_simp; try with_reducible rfl)
            try simp only [Act.put, put8]
            refine wpAnyH_take (i := 13) (v := ?_) rfl (by kernel_rfl) (by kernel_rfl) (by kernel_rfl) (fun _ _ _ h => h) (Or.inl ⟨by rfl, ?_⟩) (by assumption) ?_
            rotate_left
            · (intro w' hSw; go_simp; try with_reducible rfl)
            try simp only [Act.put, put8]
            refine wpAnyH_take (i := 14) (v := ?_) rfl (by kernel_rfl) (by kernel_rfl) (by kernel_rfl) (fun _ _ _ h => h) (Or.inl ⟨by rfl, ?_⟩) (by assumption) ?_
            rotate_left
            · (intro w' hSw; go_simp; try with_reducible rfl)
            try simp only [Act.put, put8]
            refine wpAnyH_take (i := 15) (v := ?_) rfl (by kernel_rfl) (by kernel_rfl) (by kernel_rfl) (fun _ _ _ h => h) (Or.inl ⟨by rfl, ?_⟩) (by assumption) ?_
            rotate_left
            · (intro w' hSw; have y := hSw.cell hkcell HKAR.out; go_simp; try with_reducible rfl)
            try simp only [Act.put, put8]
            refine wpAnyH_take (i := 16) (v := ?_) rfl (by kernel_rfl) (by kernel_rfl) (by kernel_rfl) (fun _ _ _ h => h) (Or.inl ⟨by rfl, ?_⟩) (by assumption) ?_
            rotate_left
            · (intro w' hSw; go_simp; try with_reducible rfl)
            try simp only [Act.put, put8]
            refine wpAnyH_ready (rs := [4, 17]) (by kernel_rfl) (by simp) ?_
            refine AllReadyH.cons rfl (fun K hK => ?_) (AllReadyH.cons rfl (fun K hK => ?_) (AllReadyH.nil))
            · go_simp
              refine hK.out _ _ (hHeld) (fun hHeld => ?_)
              try simp only [Act.put, put8]
              clear hK K
              refine wpAnyH_ready (rs := [17]) (by kernel_rfl) (by simp) ?_
              refine AllReadyH.cons rfl (fun K hK => ?_) (AllReadyH.nil)
              go_simp
              refine hK.out _ _ (hHeld.alloc _) (fun hHeld => ?_)
              try simp only [Act.put, put8]
              clear hK K
              refine wpAnyH_ready (rs := [18]) (by kernel_rfl) (by simp) ?_
              refine AllReadyH.cons rfl (fun K hK => ?_) (AllReadyH.nil)
              refine step_app rfl _ _ rfl etyBools rfl HOA.out rfl (Own.lit wr.drew 4 1 #[.bool b] 1 (by decide) rfl).rd (by simp [Value.oneCell']) (by unfold maxLen; omega) (by omega) ?_
              intro A2 c2 w6 hown6 hchg6 hnew6 _
              have HC6 : Hid (Chg (bo rA) wr w6) := Lib.hid ((((Chg.refl [] wr).drew.alloc (.cells #[.bool b] 4)).nil (bo rA)).trans hchg6 (fun x hx => .inl hx))
              have HLR : Hid (∀ y ∈ S.wr.map (ibf G.ib), y ∉ bo rA) := Lib.hid (fun y hy hm => by have h1 := HLOW.out y hy; have h2 := HRN.out y hm; have h3 := HSZ.out; omega)
              have HI6 : Hid (IsB w6 x ∧ ∀ p ∈ kg, IsB w6 p.1) := Lib.hid ⟨HB3.out.chg HC6.out (HLR.out x (List.mem_of_getElem? HXX.out)), fun p hp => (HKG.out.isb p hp).chg HC6.out (HLR.out p.1 (HKMEM.out p hp))⟩
              obtain ⟨w7, hu, hmp7, hc7⟩ := Mp.updateAt (HKG.out.top.chg HC6.out (fun hm => by have h1 := HRN.out _ hm; have h2 := HSZ.out; omega)) (t := 113) x (inode_key HI6.out.1 (fun k hk => by rw [kgv_fst] at hk; obtain ⟨p, hp, rfl⟩ := List.mem_map.1 hk; exact HI6.out.2 p hp)) Tryz.underlying113 (.slice A2 (rn + 1) c2)
              unfold pv at hu
              have HO6 := Lib.hid hown6
              have HN6 := Lib.hid hnew6
              have HM7 := Lib.hid hmp7
              have HC7 := Lib.hid hc7
              have hH6 := hHeld.trans hchg6 (fun x hx => .inl (List.mem_cons_of_mem _ hx))
              have hH7 := hH6.trans hc7 (fun x hx => .inl (by simp only [List.mem_singleton] at hx; subst hx; simp))
              clear hown6 hchg6 hnew6 hmp7 hc7
              refine hK.out _ _ (hH6) (fun hHeld => ?_)
              try simp only [Act.put, put8]
              clear hK K
              refine wpAnyH_ready (rs := [19]) (by kernel_rfl) (by simp) ?_
              refine AllReadyH.cons rfl (fun K hK => ?_) (AllReadyH.nil)
              go_simp
              refine hK.out _ _ (hH7) (fun hHeld => ?_)
              try simp only [Act.put, put8]
              clear hK K
              refine wpAnyH_done (by kernel_rfl) ?_ _
              try simp only [Act.put, put8]
              have HC67 : Hid (Chg (km :: bo rA) wr w7) := Lib.hid ((HC6.out.mono (fun x hx => .inl (List.mem_cons_of_mem _ hx))).trans HC7.out (fun x hx => .inl (by simp only [List.mem_singleton] at hx; subst hx; simp)))
              clear hHeld hH6 hH7 hu hlk hlk2 f0 k0
              go_wp2
              go_roundw
              case rel =>
                have hkmR : km ∉ kblk kg := fun hm => by have h1 := HKN2.out km hm; have h2 := HSZ.out; omega
                have hsz6 : wr.heap.size ≤ w6.heap.size := HC6.out.size
                have hput := HKG.out.put (x := x) (r2 := ⟨A2, rn + 1, c2, rb ++ [b]⟩) (w' := w7) (by rw [HR.out]; exact HC67.out) HM7.out (by
                  have h1 := HO6.out.chg HC7.out (fun k hk hm => by
                    simp only [List.mem_singleton] at hm
                    subst hm
                    rcases HN6.out _ hk with h | h
                    · have h1 := HRN.out _ h; have h2 := HSZ.out; omega
                    · have h1 := HKG.out.top.lt; simp at h; omega)
                  simp only [List.map_append, List.map_cons, List.map_nil]
                  exact h1) (fun k hk => by rw [HR.out]; rcases HN6.out k hk with h | h; exact .inl h; right; simp at h; omega) (HI6.out.1.chg HC7.out (by have h1 := HLOW.out x (List.mem_of_getElem? HXX.out); simp; omega)) (fun p hp => (HI6.out.2 p hp).chg HC7.out (by have h1 := HLOW.out p.1 (HKMEM.out p hp); simp; omega)) hkmR
                have hn : (kg.map Prod.fst).Nodup := by rw [← kgv_fst]; exact HKG.out.top.nodup
                refine ⟨j + 1, aput kg x ⟨A2, rn + 1, c2, rb ++ [b]⟩, by omega, by go_num, hput, fun y => ?_, ?_, fun k hk => ?_, fun p hp => ?_⟩
                · rw [kbs_aput hn, kI_step HXX.out, HKB2.out]
                  by_cases hxy : x = y
                  · subst hxy
                    simp [HRB.out]
                  · simp [hxy, HKI.out y]
                · refine HCK.out.trans HC67.out (fun k hk => ?_)
                  rcases List.mem_cons.1 hk with rfl | hk
                  · left; simp
                  · exact .inr (HRN.out k hk)
                · rcases List.mem_append.1 ((kblk_aput hn x _).mem_iff.1 hk) with h | h
                  · rcases HN6.out k h with h | h
                    · exact HRN.out k h
                    · have h1 := HCK.out.size; simp at h; omega
                  · have : k ∈ kblk kg := (kblk_perm hn x).mem_iff.2 (List.mem_append_right _ h)
                    exact HKN2.out k this
                · rcases (mem_aput hn).1 hp with rfl | ⟨hp, _⟩
                  · exact List.mem_of_getElem? HXX.out
                  · exact HKMEM.out p hp
              case measure => simp [intOf]; omega
            · go_simp
              refine hK.out _ _ (hHeld.alloc _) (fun hHeld => ?_)
              try simp only [Act.put, put8]
              clear hK K
              refine wpAnyH_ready (rs := [4]) (by kernel_rfl) (by simp) ?_
              refine AllReadyH.cons rfl (fun K hK => ?_) (AllReadyH.nil)
              go_simp
              refine hK.out _ _ (hHeld) (fun hHeld => ?_)
              try simp only [Act.put, put8]
              clear hK K
              refine wpAnyH_ready (rs := [18]) (by kernel_rfl) (by simp) ?_
              refine AllReadyH.cons rfl (fun K hK => ?_) (AllReadyH.nil)
              refine step_app rfl _ _ rfl etyBools rfl HOA.out rfl (Own.lit wr.drew 4 1 #[.bool b] 1 (by decide) rfl).rd (by simp [Value.oneCell']) (by unfold maxLen; omega) (by omega) ?_
              intro A2 c2 w6 hown6 hchg6 hnew6 _
              have HC6 : Hid (Chg (bo rA) wr w6) := Lib.hid ((((Chg.refl [] wr).drew.alloc (.cells #[.bool b] 4)).nil (bo rA)).trans hchg6 (fun x hx => .inl hx))
              have HLR : Hid (∀ y ∈ S.wr.map (ibf G.ib), y ∉ bo rA) := Lib.hid (fun y hy hm => by have h1 := HLOW.out y hy; have h2 := HRN.out y hm; have h3 := HSZ.out; omega)
              have HI6 : Hid (IsB w6 x ∧ ∀ p ∈ kg, IsB w6 p.1) := Lib.hid ⟨HB3.out.chg HC6.out (HLR.out x (List.mem_of_getElem? HXX.out)), fun p hp => (HKG.out.isb p hp).chg HC6.out (HLR.out p.1 (HKMEM.out p hp))⟩
              obtain ⟨w7, hu, hmp7, hc7⟩ := Mp.updateAt (HKG.out.top.chg HC6.out (fun hm => by have h1 := HRN.out _ hm; have h2 := HSZ.out; omega)) (t := 113) x (inode_key HI6.out.1 (fun k hk => by rw [kgv_fst] at hk; obtain ⟨p, hp, rfl⟩ := List.mem_map.1 hk; exact HI6.out.2 p hp)) Tryz.underlying113 (.slice A2 (rn + 1) c2)
              unfold pv at hu
              have HO6 := Lib.hid hown6
              have HN6 := Lib.hid hnew6
              have HM7 := Lib.hid hmp7
              have HC7 := Lib.hid hc7
              have hH6 := hHeld.trans hchg6 (fun x hx => .inl (List.mem_cons_of_mem _ hx))
              have hH7 := hH6.trans hc7 (fun x hx => .inl (by simp only [List.mem_singleton] at hx; subst hx; simp))
              clear hown6 hchg6 hnew6 hmp7 hc7
              refine hK.out _ _ (hH6) (fun hHeld => ?_)
              try simp only [Act.put, put8]
              clear hK K
              refine wpAnyH_ready (rs := [19]) (by kernel_rfl) (by simp) ?_
              refine AllReadyH.cons rfl (fun K hK => ?_) (AllReadyH.nil)
              go_simp
              refine hK.out _ _ (hH7) (fun hHeld => ?_)
              try simp only [Act.put, put8]
              clear hK K
              refine wpAnyH_done (by kernel_rfl) ?_ _
              try simp only [Act.put, put8]
              have HC67 : Hid (Chg (km :: bo rA) wr w7) := Lib.hid ((HC6.out.mono (fun x hx => .inl (List.mem_cons_of_mem _ hx))).trans HC7.out (fun x hx => .inl (by simp only [List.mem_singleton] at hx; subst hx; simp)))
              clear hHeld hH6 hH7 hu hlk hlk2 f0 k0
              go_wp2
              go_roundw
              case rel =>
                have hkmR : km ∉ kblk kg := fun hm => by have h1 := HKN2.out km hm; have h2 := HSZ.out; omega
                have hsz6 : wr.heap.size ≤ w6.heap.size := HC6.out.size
                have hput := HKG.out.put (x := x) (r2 := ⟨A2, rn + 1, c2, rb ++ [b]⟩) (w' := w7) (by rw [HR.out]; exact HC67.out) HM7.out (by
                  have h1 := HO6.out.chg HC7.out (fun k hk hm => by
                    simp only [List.mem_singleton] at hm
                    subst hm
                    rcases HN6.out _ hk with h | h
                    · have h1 := HRN.out _ h; have h2 := HSZ.out; omega
                    · have h1 := HKG.out.top.lt; simp at h; omega)
                  simp only [List.map_append, List.map_cons, List.map_nil]
                  exact h1) (fun k hk => by rw [HR.out]; rcases HN6.out k hk with h | h; exact .inl h; right; simp at h; omega) (HI6.out.1.chg HC7.out (by have h1 := HLOW.out x (List.mem_of_getElem? HXX.out); simp; omega)) (fun p hp => (HI6.out.2 p hp).chg HC7.out (by have h1 := HLOW.out p.1 (HKMEM.out p hp); simp; omega)) hkmR
                have hn : (kg.map Prod.fst).Nodup := by rw [← kgv_fst]; exact HKG.out.top.nodup
                refine ⟨j + 1, aput kg x ⟨A2, rn + 1, c2, rb ++ [b]⟩, by omega, by go_num, hput, fun y => ?_, ?_, fun k hk => ?_, fun p hp => ?_⟩
                · rw [kbs_aput hn, kI_step HXX.out, HKB2.out]
                  by_cases hxy : x = y
                  · subst hxy
                    simp [HRB.out]
                  · simp [hxy, HKI.out y]
                · refine HCK.out.trans HC67.out (fun k hk => ?_)
                  rcases List.mem_cons.1 hk with rfl | hk
                  · left; simp
                  · exact .inr (HRN.out k hk)
                · rcases List.mem_append.1 ((kblk_aput hn x _).mem_iff.1 hk) with h | h
                  · rcases HN6.out k h with h | h
                    · exact HRN.out k h
                    · have h1 := HCK.out.size; simp at h; omega
                  · have : k ∈ kblk kg := (kblk_perm hn x).mem_iff.2 (List.mem_append_right _ h)
                    exact HKN2.out k this
                · rcases (mem_aput hn).1 hp with rfl | ⟨hp, _⟩
                  · exact List.mem_of_getElem? HXX.out
                  · exact HKMEM.out p hp
              case measure => simp [intOf]; omega
          · have hjk : ¬ (j : Int) < kn := by omega
            have HKB2 : Hid ((ks[j]?).getD false = false) := Lib.hid (by
              have h1 := HK.out.1
              simp only [List.length_map, Nat.mul_one] at h1
              rw [List.getElem?_eq_none (by omega)]; rfl)
            have HOA : Hid (Own (wr.drew.alloc (.cells #[.bool false] 4)) 4 1 rA rn rc (kv rb)) := Lib.hid (HOR.out.chg (((Chg.refl [] wr).drew).alloc _) (fun _ _ => List.not_mem_nil))
            have hlk2 : (Instr.lookup 113 (.map (some km)) (.pointer (some ⟨x, 0, none⟩)) false).run Tryz.prog ((wr.alloc (.cells #[.bool false] 4)).drew) = .ok (.slice rA rn rc) ((wr.alloc (.cells #[.bool false] 4)).drew) := HLKA.out false
            go_wp2
            refine wp_region_held_drew (S := fun w' => Chg (km :: bo rA) wr w') (by kernel_rfl) ((Chg.refl _ _).drew) (fun hHeld => ?_)
            refine wpAnyH_take (i := 0) (v := ?_) rfl (by kernel_rfl) (by kernel_rfl) (by kernel_rfl) (fun _ _ _ h => h) (Or.inl ⟨by rfl, ?_⟩) (by assumption) ?_
            rotate_left
            · (intro w' hSw; have y := hSw.cell k0 HKBR.out; go_simp; try with_reducible rfl)
            try simp only [Act.put, put8]
            refine wpAnyH_take (i := 1) (v := ?_) rfl (by kernel_rfl) (by kernel_rfl) (by kernel_rfl) (fun _ _ _ h => h) (Or.inl ⟨by rfl, ?_⟩) (by assumption) ?_
            rotate_left
            · (intro w' hSw; go_simp; try with_reducible rfl)
            try simp only [Act.put, put8]
            refine wpAnyH_take (i := 2) (v := ?_) rfl (by kernel_rfl) (by kernel_rfl) (by kernel_rfl) (fun _ _ _ h => h) (Or.inl ⟨by rfl, ?_⟩) (by assumption) ?_
            rotate_left
            · (intro w' hSw; have y := hSw.cell k0 HKBR.out; go_simp; try with_reducible rfl)
            try simp only [Act.put, put8]
            refine wpAnyH_take (i := 3) (v := ?_) rfl (by kernel_rfl) (by kernel_rfl) (by kernel_rfl) (fun _ _ _ h => h) (Or.inl ⟨by rfl, ?_⟩) (by assumption) ?_
            rotate_left
            · (intro w' hSw; go_simp; try with_reducible rfl)
            try simp only [Act.put, put8]
            refine wpAnyH_take (i := 5) (v := ?_) rfl (by kernel_rfl) (by kernel_rfl) (by kernel_rfl) (fun _ _ _ h => h) (Or.inl ⟨by rfl, ?_⟩) (by assumption) ?_
            rotate_left
            · (intro w' hSw; go_simp; try with_reducible rfl)
            try simp only [Act.put, put8]
            refine wpAnyH_take (i := 6) (v := ?_) rfl (by kernel_rfl) (by kernel_rfl) (by kernel_rfl) (fun _ _ _ h => h) (Or.inl ⟨by rfl, ?_⟩) (by assumption) ?_
            rotate_left
            · (intro w' hSw; go_simp; try with_reducible rfl)
            try simp only [Act.put, put8]
            refine wpAnyH_take (i := 7) (v := ?_) rfl (by kernel_rfl) (by kernel_rfl) (by kernel_rfl) (fun _ _ _ h => h) (Or.inl ⟨by rfl, ?_⟩) (by assumption) ?_
            rotate_left
            · (intro w' hSw; have y := hSw.cell f0 HFBR.out; go_simp; try with_reducible rfl)
            try simp only [Act.put, put8]
            refine wpAnyH_take (i := 8) (v := ?_) rfl (by kernel_rfl) (by kernel_rfl) (by kernel_rfl) (fun _ _ _ h => h) (Or.inl ⟨by rfl, ?_⟩) (by assumption) ?_
            rotate_left
            · (intro w' hSw; go_simp; try with_reducible rfl)
            try simp only [Act.put, put8]
            refine wpAnyH_take (i := 9) (v := ?_) rfl (by kernel_rfl) (by kernel_rfl) (by kernel_rfl) (fun _ _ _ h => h) (Or.inl ⟨by rfl, ?_⟩) (by assumption) ?_
            rotate_left
            · (intro w' hSw; go_simp; try with_reducible rfl)
            try simp only [Act.put, put8]
            refine wpAnyH_take (i := 10) (v := ?_) rfl (by kernel_rfl) (by kernel_rfl) (by kernel_rfl) (fun _ _ _ h => h) (Or.inl ⟨by rfl, ?_⟩) (by assumption) ?_
            rotate_left
            · (intro w' hSw; go_simp; try with_reducible rfl)
            try simp only [Act.put, put8]
            refine wpAnyH_take (i := 11) (v := undef) rfl (by kernel_rfl) (by kernel_rfl) (by kernel_rfl) (fun _ _ _ h => h) (Or.inr ⟨by rfl, rfl⟩) (by assumption) ?_
            try simp only [Act.put, put8]
            refine wpAnyH_take (i := 12) (v := undef) rfl (by kernel_rfl) (by kernel_rfl) (by kernel_rfl) (fun _ _ _ h => h) (Or.inr ⟨by rfl, rfl⟩) (by assumption) ?_
            try simp only [Act.put, put8]
            refine wpAnyH_take (i := 13) (v := undef) rfl (by kernel_rfl) (by kernel_rfl) (by kernel_rfl) (fun _ _ _ h => h) (Or.inr ⟨by rfl, rfl⟩) (by assumption) ?_
            try simp only [Act.put, put8]
            refine wpAnyH_take (i := 14) (v := undef) rfl (by kernel_rfl) (by kernel_rfl) (by kernel_rfl) (fun _ _ _ h => h) (Or.inr ⟨by rfl, rfl⟩) (by assumption) ?_
            try simp only [Act.put, put8]
            refine wpAnyH_take (i := 15) (v := undef) rfl (by kernel_rfl) (by kernel_rfl) (by kernel_rfl) (fun _ _ _ h => h) (Or.inr ⟨by rfl, rfl⟩) (by assumption) ?_
            try simp only [Act.put, put8]
            refine wpAnyH_take (i := 16) (v := ?_) rfl (by kernel_rfl) (by kernel_rfl) (by kernel_rfl) (fun _ _ _ h => h) (Or.inl ⟨by rfl, ?_⟩) (by assumption) ?_
            rotate_left
            · (intro w' hSw; go_simp; try with_reducible rfl)
            try simp only [Act.put, put8]
            refine wpAnyH_ready (rs := [4, 17]) (by kernel_rfl) (by simp) ?_
            refine AllReadyH.cons rfl (fun K hK => ?_) (AllReadyH.cons rfl (fun K hK => ?_) (AllReadyH.nil))
            · go_simp
              refine hK.out _ _ (hHeld) (fun hHeld => ?_)
              try simp only [Act.put, put8]
              clear hK K
              refine wpAnyH_ready (rs := [17]) (by kernel_rfl) (by simp) ?_
              refine AllReadyH.cons rfl (fun K hK => ?_) (AllReadyH.nil)
              go_simp
              refine hK.out _ _ (hHeld.alloc _) (fun hHeld => ?_)
              try simp only [Act.put, put8]
              clear hK K
              refine wpAnyH_ready (rs := [18]) (by kernel_rfl) (by simp) ?_
              refine AllReadyH.cons rfl (fun K hK => ?_) (AllReadyH.nil)
              refine step_app rfl _ _ rfl etyBools rfl HOA.out rfl (Own.lit wr.drew 4 1 #[.bool false] 1 (by decide) rfl).rd (by simp [Value.oneCell']) (by unfold maxLen; omega) (by omega) ?_
              intro A2 c2 w6 hown6 hchg6 hnew6 _
              have HC6 : Hid (Chg (bo rA) wr w6) := Lib.hid ((((Chg.refl [] wr).drew.alloc (.cells #[.bool false] 4)).nil (bo rA)).trans hchg6 (fun x hx => .inl hx))
              have HLR : Hid (∀ y ∈ S.wr.map (ibf G.ib), y ∉ bo rA) := Lib.hid (fun y hy hm => by have h1 := HLOW.out y hy; have h2 := HRN.out y hm; have h3 := HSZ.out; omega)
              have HI6 : Hid (IsB w6 x ∧ ∀ p ∈ kg, IsB w6 p.1) := Lib.hid ⟨HB3.out.chg HC6.out (HLR.out x (List.mem_of_getElem? HXX.out)), fun p hp => (HKG.out.isb p hp).chg HC6.out (HLR.out p.1 (HKMEM.out p hp))⟩
              obtain ⟨w7, hu, hmp7, hc7⟩ := Mp.updateAt (HKG.out.top.chg HC6.out (fun hm => by have h1 := HRN.out _ hm; have h2 := HSZ.out; omega)) (t := 113) x (inode_key HI6.out.1 (fun k hk => by rw [kgv_fst] at hk; obtain ⟨p, hp, rfl⟩ := List.mem_map.1 hk; exact HI6.out.2 p hp)) Tryz.underlying113 (.slice A2 (rn + 1) c2)
              unfold pv at hu
              have HO6 := Lib.hid hown6
              have HN6 := Lib.hid hnew6
              have HM7 := Lib.hid hmp7
              have HC7 := Lib.hid hc7
              have hH6 := hHeld.trans hchg6 (fun x hx => .inl (List.mem_cons_of_mem _ hx))
              have hH7 := hH6.trans hc7 (fun x hx => .inl (by simp only [List.mem_singleton] at hx; subst hx; simp))
              clear hown6 hchg6 hnew6 hmp7 hc7
              refine hK.out _ _ (hH6) (fun hHeld => ?_)
              try simp only [Act.put, put8]
              clear hK K
              refine wpAnyH_ready (rs := [19]) (by kernel_rfl) (by simp) ?_
              refine AllReadyH.cons rfl (fun K hK => ?_) (AllReadyH.nil)
              go_simp
              refine hK.out _ _ (hH7) (fun hHeld => ?_)
              try simp only [Act.put, put8]
              clear hK K
              refine wpAnyH_done (by kernel_rfl) ?_ _
              try simp only [Act.put, put8]
              have HC67 : Hid (Chg (km :: bo rA) wr w7) := Lib.hid ((HC6.out.mono (fun x hx => .inl (List.mem_cons_of_mem _ hx))).trans HC7.out (fun x hx => .inl (by simp only [List.mem_singleton] at hx; subst hx; simp)))
              clear hHeld hH6 hH7 hu hlk hlk2 f0 k0
              go_wp2
              go_roundw
              case rel =>
                have hkmR : km ∉ kblk kg := fun hm => by have h1 := HKN2.out km hm; have h2 := HSZ.out; omega
                have hsz6 : wr.heap.size ≤ w6.heap.size := HC6.out.size
                have hput := HKG.out.put (x := x) (r2 := ⟨A2, rn + 1, c2, rb ++ [false]⟩) (w' := w7) (by rw [HR.out]; exact HC67.out) HM7.out (by
                  have h1 := HO6.out.chg HC7.out (fun k hk hm => by
                    simp only [List.mem_singleton] at hm
                    subst hm
                    rcases HN6.out _ hk with h | h
                    · have h1 := HRN.out _ h; have h2 := HSZ.out; omega
                    · have h1 := HKG.out.top.lt; simp at h; omega)
                  simp only [List.map_append, List.map_cons, List.map_nil]
                  exact h1) (fun k hk => by rw [HR.out]; rcases HN6.out k hk with h | h; exact .inl h; right; simp at h; omega) (HI6.out.1.chg HC7.out (by have h1 := HLOW.out x (List.mem_of_getElem? HXX.out); simp; omega)) (fun p hp => (HI6.out.2 p hp).chg HC7.out (by have h1 := HLOW.out p.1 (HKMEM.out p hp); simp; omega)) hkmR
                have hn : (kg.map Prod.fst).Nodup := by rw [← kgv_fst]; exact HKG.out.top.nodup
                refine ⟨j + 1, aput kg x ⟨A2, rn + 1, c2, rb ++ [false]⟩, by omega, by go_num, hput, fun y => ?_, ?_, fun k hk => ?_, fun p hp => ?_⟩
                · rw [kbs_aput hn, kI_step HXX.out, HKB2.out]
                  by_cases hxy : x = y
                  · subst hxy
                    simp [HRB.out]
                  · simp [hxy, HKI.out y]
                · refine HCK.out.trans HC67.out (fun k hk => ?_)
                  rcases List.mem_cons.1 hk with rfl | hk
                  · left; simp
                  · exact .inr (HRN.out k hk)
                · rcases List.mem_append.1 ((kblk_aput hn x _).mem_iff.1 hk) with h | h
                  · rcases HN6.out k h with h | h
                    · exact HRN.out k h
                    · have h1 := HCK.out.size; simp at h; omega
                  · have : k ∈ kblk kg := (kblk_perm hn x).mem_iff.2 (List.mem_append_right _ h)
                    exact HKN2.out k this
                · rcases (mem_aput hn).1 hp with rfl | ⟨hp, _⟩
                  · exact List.mem_of_getElem? HXX.out
                  · exact HKMEM.out p hp
              case measure => simp [intOf]; omega
            · go_simp
              refine hK.out _ _ (hHeld.alloc _) (fun hHeld => ?_)
              try simp only [Act.put, put8]
              clear hK K
              refine wpAnyH_ready (rs := [4]) (by kernel_rfl) (by simp) ?_
              refine AllReadyH.cons rfl (fun K hK => ?_) (AllReadyH.nil)
              go_simp
              refine hK.out _ _ (hHeld) (fun hHeld => ?_)
              try simp only [Act.put, put8]
              clear hK K
              refine wpAnyH_ready (rs := [18]) (by kernel_rfl) (by simp) ?_
              refine AllReadyH.cons rfl (fun K hK => ?_) (AllReadyH.nil)
              refine step_app rfl _ _ rfl etyBools rfl HOA.out rfl (Own.lit wr.drew 4 1 #[.bool false] 1 (by decide) rfl).rd (by simp [Value.oneCell']) (by unfold maxLen; omega) (by omega) ?_
              intro A2 c2 w6 hown6 hchg6 hnew6 _
              have HC6 : Hid (Chg (bo rA) wr w6) := Lib.hid ((((Chg.refl [] wr).drew.alloc (.cells #[.bool false] 4)).nil (bo rA)).trans hchg6 (fun x hx => .inl hx))
              have HLR : Hid (∀ y ∈ S.wr.map (ibf G.ib), y ∉ bo rA) := Lib.hid (fun y hy hm => by have h1 := HLOW.out y hy; have h2 := HRN.out y hm; have h3 := HSZ.out; omega)
              have HI6 : Hid (IsB w6 x ∧ ∀ p ∈ kg, IsB w6 p.1) := Lib.hid ⟨HB3.out.chg HC6.out (HLR.out x (List.mem_of_getElem? HXX.out)), fun p hp => (HKG.out.isb p hp).chg HC6.out (HLR.out p.1 (HKMEM.out p hp))⟩
              obtain ⟨w7, hu, hmp7, hc7⟩ := Mp.updateAt (HKG.out.top.chg HC6.out (fun hm => by have h1 := HRN.out _ hm; have h2 := HSZ.out; omega)) (t := 113) x (inode_key HI6.out.1 (fun k hk => by rw [kgv_fst] at hk; obtain ⟨p, hp, rfl⟩ := List.mem_map.1 hk; exact HI6.out.2 p hp)) Tryz.underlying113 (.slice A2 (rn + 1) c2)
              unfold pv at hu
              have HO6 := Lib.hid hown6
              have HN6 := Lib.hid hnew6
              have HM7 := Lib.hid hmp7
              have HC7 := Lib.hid hc7
              have hH6 := hHeld.trans hchg6 (fun x hx => .inl (List.mem_cons_of_mem _ hx))
              have hH7 := hH6.trans hc7 (fun x hx => .inl (by simp only [List.mem_singleton] at hx; subst hx; simp))
              clear hown6 hchg6 hnew6 hmp7 hc7
              refine hK.out _ _ (hH6) (fun hHeld => ?_)
              try simp only [Act.put, put8]
              clear hK K
              refine wpAnyH_ready (rs := [19]) (by kernel_rfl) (by simp) ?_
              refine AllReadyH.cons rfl (fun K hK => ?_) (AllReadyH.nil)
              go_simp
              refine hK.out _ _ (hH7) (fun hHeld => ?_)
              try simp only [Act.put, put8]
              clear hK K
              refine wpAnyH_done (by kernel_rfl) ?_ _
              try simp only [Act.put, put8]
              have HC67 : Hid (Chg (km :: bo rA) wr w7) := Lib.hid ((HC6.out.mono (fun x hx => .inl (List.mem_cons_of_mem _ hx))).trans HC7.out (fun x hx => .inl (by simp only [List.mem_singleton] at hx; subst hx; simp)))
              clear hHeld hH6 hH7 hu hlk hlk2 f0 k0
              go_wp2
              go_roundw
              case rel =>
                have hkmR : km ∉ kblk kg := fun hm => by have h1 := HKN2.out km hm; have h2 := HSZ.out; omega
                have hsz6 : wr.heap.size ≤ w6.heap.size := HC6.out.size
                have hput := HKG.out.put (x := x) (r2 := ⟨A2, rn + 1, c2, rb ++ [false]⟩) (w' := w7) (by rw [HR.out]; exact HC67.out) HM7.out (by
                  have h1 := HO6.out.chg HC7.out (fun k hk hm => by
                    simp only [List.mem_singleton] at hm
                    subst hm
                    rcases HN6.out _ hk with h | h
                    · have h1 := HRN.out _ h; have h2 := HSZ.out; omega
                    · have h1 := HKG.out.top.lt; simp at h; omega)
                  simp only [List.map_append, List.map_cons, List.map_nil]
                  exact h1) (fun k hk => by rw [HR.out]; rcases HN6.out k hk with h | h; exact .inl h; right; simp at h; omega) (HI6.out.1.chg HC7.out (by have h1 := HLOW.out x (List.mem_of_getElem? HXX.out); simp; omega)) (fun p hp => (HI6.out.2 p hp).chg HC7.out (by have h1 := HLOW.out p.1 (HKMEM.out p hp); simp; omega)) hkmR
                have hn : (kg.map Prod.fst).Nodup := by rw [← kgv_fst]; exact HKG.out.top.nodup
                refine ⟨j + 1, aput kg x ⟨A2, rn + 1, c2, rb ++ [false]⟩, by omega, by go_num, hput, fun y => ?_, ?_, fun k hk => ?_, fun p hp => ?_⟩
                · rw [kbs_aput hn, kI_step HXX.out, HKB2.out]
                  by_cases hxy : x = y
                  · subst hxy
                    simp [HRB.out]
                  · simp [hxy, HKI.out y]
                · refine HCK.out.trans HC67.out (fun k hk => ?_)
                  rcases List.mem_cons.1 hk with rfl | hk
                  · left; simp
                  · exact .inr (HRN.out k hk)
                · rcases List.mem_append.1 ((kblk_aput hn x _).mem_iff.1 hk) with h | h
                  · rcases HN6.out k h with h | h
                    · exact HRN.out k h
                    · have h1 := HCK.out.size; simp at h; omega
                  · have : k ∈ kblk kg := (kblk_perm hn x).mem_iff.2 (List.mem_append_right _ h)
                    exact HKN2.out k this
                · rcases (mem_aput hn).1 hp with rfl | ⟨hp, _⟩
                  · exact List.mem_of_getElem? HXX.out
                  · exact HKMEM.out p hp
              case measure => simp [intOf]; omega
        · obtain rfl : j = S.wr.length := by omega
          have HKW : Hid (w.heap.size ≤ km) := Lib.hid (by have h1 := HCH.out.size; have h2 := HSZ.out; omega)
          have HCE : Hid (Chg [] w wr) := Lib.hid (HCW.out.trans HCK.out (fun x hx => by simp only [List.mem_singleton] at hx; subst hx; exact .inr HKW.out))
          have HFE := Lib.hid (HF2.out.keep HCK.out (fun x hx hm => by
            simp only [List.mem_singleton] at hm
            have h1 := HF.out.lt x hx
            have h2 := HKW.out
            omega))
          have HKE := Lib.hid (HKB.out.chg HCK.out (by simp))
          have HTE := Lib.hid (HT3.out.keep HCK.out (fun x hx hm => HLT.out x hx (by simpa using hm)))
          have HVE : Hid (Val S.files.length (runC S.safe (S.chs.take i))) := Lib.hid (HI.out.safe.run (okC_take HI.out.chs i))
          have HWE : Hid (wd (runC S.safe (S.chs.take i)) ≤ 1073741824) := Lib.hid (by
            have h1 := wd_run (okC_take HI.out.chs i)
            have h2 := HI.out.wds; have h3 := HB.out
            rw [List.length_take] at h1
            omega)
          have HKE2 : Hid (∀ x, x < S.files.length → kbs kg (ibf G.ib x) = S.keep ks x) := Lib.hid (fun x hx => by rw [HKI.out]; exact kI_all HF.out.ibn HF.out.ibl HI.out.wr ks hx)
          have HKL : Hid (∀ x, x < S.files.length → (kbs kg (ibf G.ib x)).length ≤ 1073741824) := Lib.hid (fun x hx => by
            rw [HKI.out]
            exact Nat.le_trans (kI_len _ _ _ _) hnw)
          clear hjn
          go_wp2_with fail
          refine (disk_dur _ wr ob g' G.ib (runC S.safe (S.chs.take i)) S.files.length (S.after ks) HTE.out HTI.out HVE.out HWE.out (fun x hx wr2 hc2 => ?_)).mono ?_
          · have hce := (HKE.out.chg hc2 List.not_mem_nil).cell 0
            exact dur1_any (HFE.out.keep0 hc2) HI.out HB.out hx (km + 1) km kg (by simpa using hce) (HKG.out.chg0 hc2) (HKL.out x hx) _ (HKE2.out x hx)
          rintro e w9 ⟨A, n, c, ds, rfl, hds, hv, hc9, hn⟩
          have HDS := Lib.hid hds
          have HV := Lib.hid hv
          have HC9 := Lib.hid hc9
          have HN := Lib.hid hn
          clear hds hv hc9 hn
          go_wp2
          go_ret
          refine ⟨A, n, c, ds, rfl, HDS.out, ?_, HCE.out.trans0 HC9.out, fun k hk => Nat.le_trans HCE.out.size (HN.out k hk)⟩
          rw [HV.out]
          unfold shows St.left
          have ht : S.chs.take i = S.chs.take names.toNat := by
            rw [← HKN.out]
            unfold keptN
            rcases Nat.le_total names.toNat S.chs.length with h | h
            · rw [Nat.min_eq_left h]
            · rw [Nat.min_eq_right h, List.take_length, List.take_of_length_le h]
          rw [ht]
end Go.Proofs.YtgomofeidghmiaaGreat
