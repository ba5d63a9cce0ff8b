/-
  The walk of PumpTees over the virtual program; no condition but what each law names.
-/
import Derived.Test.YtcdhmnefmbcmaaaKVxH
import Derived.Deep.CutBlock
import Derived.Deep.Cut
namespace Go.Proofs.Ytcdhmnefmbcmaaa.Vw
open Go Go.RowKit
/-- the document's two Buckets, behind the world wz -/
def Rc2 (wz : World) (gx gy : Nat) (Ra Rb : Int) (C : List (List Int)) (kx ky : Nat) (wr : World) : Prop :=
  ∃ Ax Ay, RBkt wr gx Ax Ra (C.take kx).flatten kx ∧ RBkt wr gy Ay Rb (C.take ky).flatten ky ∧ Chg [gx, gy] wz wr ∧ (∀ x ∈ bo Ax, wz.heap.size ≤ x) ∧ (∀ x ∈ bo Ay, wz.heap.size ≤ x) ∧ (∀ x ∈ bo Ax, x ∉ bo Ay) ∧ gx < wz.heap.size ∧ gy < wz.heap.size ∧ gx ≠ gy
theorem Rc2.start {w8 w9 wz : World} {gx gy : Nat} {Ra Rb : Int} {C : List (List Int)} (hx : RBkt w8 gx none Ra [] 0) (hy : RBkt w9 gy none Rb [] 0) (h9 : Chg [] w8 w9) (hz : Chg [] w9 wz) (hn : gx ≠ gy) : Rc2 wz gx gy Ra Rb C 0 0 wz := by
  have hx9 := hx.chg h9 (by simp)
  refine ⟨none, none, by simpa using hx9.chg hz (by simp), by simpa using hy.chg hz (by simp), Chg.refl _ _, by simp, by simp, by simp, ?_, ?_, hn⟩
  · have := hx9.lt gx (by simp); have := hz.size; omega
  · have := hy.lt gy (by simp); have := hz.size; omega
section
variable {wz wr : World} {gx gy : Nat} {Ra Rb : Int} {C : List (List Int)} {kx ky k : Nat} {p : List Int} {A : Option Addr} {c : Nat}
theorem Rc2.ch (h : Rc2 wz gx gy Ra Rb C kx ky wr) : Chg [gx, gy] wz wr := by
  obtain ⟨_, _, _, _, h, _⟩ := h
  exact h
theorem Rc2.takeX (h : Rc2 wz gx gy Ra Rb C k ky wr) (hp : C[k]? = some p) (ho : Own wz 5 1 A p.length c (bv p)) (hg : gx ∉ bo A ∧ gy ∉ bo A)
    (hr0 : 0 ≤ Ra) (hr1 : Ra ≤ 9223372036854775807) (hfl : ∀ k, (C.take k).flatten.length ≤ 1073741824) (hcl : C.length ≤ 1073741824) :
    Calls Tryv.prog 16 #[.pointer (some ⟨gx, 0, none⟩), .slice A p.length c] wr fun e w' => (Ra - (C.take k).flatten.length < p.length ∧ e = .returned (.int .i64 85) ∧ Rc2 wz gx gy Ra Rb C k ky w') ∨
      (¬ Ra - (C.take k).flatten.length < p.length ∧ e = .returned (.int .i64 0) ∧ Rc2 wz gx gy Ra Rb C (k + 1) ky w') := by
  obtain ⟨Ax, Ay, h1, h2, h3, h4, h5, h6, h7, h8, h9⟩ := h
  have hk : k < C.length := (List.getElem?_eq_some_iff.1 hp).1
  have hpl : p.length ≤ 1073741824 := by
    have h4 := hfl (k + 1)
    rw [flat_snoc C k p hp, List.length_append] at h4
    omega
  have ho2 : Own wr 5 1 A p.length c (bv p) := ho.chg h3 (fun j hj hm => by simp at hm; rcases hm with rfl | rfl; exact hg.1 hj; exact hg.2 hj)
  have hs := h3.size
  refine (rtake_any h1 ho2.rd (fun _ j hj hm => ?_) hr0 hr1 (hfl k) hpl (by omega) (by omega)).mono ?_
  · rcases List.mem_cons.1 hm with rfl | hm
    · exact hg.1 hj
    · have := h4 j hm; have := ho.lt j hj; omega
  · rintro e w' (⟨q, rfl, hc⟩ | ⟨q, rfl, A2, hb2, hc, hn⟩)
    · exact .inl ⟨q, rfl, Ax, Ay, h1.chg hc (by simp), h2.chg hc (by simp), h3.trans0 hc, h4, h5, h6, h7, h8, h9⟩
    · have hly := h2.lt
      refine .inr ⟨q, rfl, A2, Ay, ?_, h2.chg hc (fun j hj hm => ?_), h3.trans hc (fun x hx => ?_), fun x hx => ?_, h5, fun x hx hm => ?_, h7, h8, h9⟩
      · rw [flat_snoc C k p hp]; simpa using hb2
      · rcases List.mem_cons.1 hm with rfl | hm
        · rcases List.mem_cons.1 hj with rfl | hj
          · exact h9 rfl
          · have := h5 j hj; omega
        · rcases List.mem_cons.1 hj with rfl | hj
          · have := h4 j hm; omega
          · exact h6 j hm hj
      · rcases List.mem_cons.1 hx with rfl | hx
        · exact .inl (by simp)
        · exact .inr (h4 x hx)
      · rcases hn x hx with h | h
        · exact h4 x h
        · omega
      · rcases hn x hx with h | h
        · exact h6 x h hm
        · have := hly x (List.mem_cons_of_mem _ hm); omega
theorem Rc2.swap (h : Rc2 wz gx gy Ra Rb C kx ky wr) : Rc2 wz gy gx Rb Ra C ky kx wr := by
  obtain ⟨Ax, Ay, h1, h2, h3, h4, h5, h6, h7, h8, h9⟩ := h
  exact ⟨Ay, Ax, h2, h1, ⟨h3.os, h3.tape, h3.output, h3.size, fun k hk hn => h3.block k hk (fun hm => hn (by simp at hm ⊢; exact hm.symm))⟩, h5, h4, fun x hx hy => h6 x hy hx, h8, h7, fun e => h9 e.symm⟩
theorem Rc2.takeY (h : Rc2 wz gx gy Ra Rb C kx k wr) (hp : C[k]? = some p) (ho : Own wz 5 1 A p.length c (bv p)) (hg : gx ∉ bo A ∧ gy ∉ bo A)
    (hr0 : 0 ≤ Rb) (hr1 : Rb ≤ 9223372036854775807) (hfl : ∀ k, (C.take k).flatten.length ≤ 1073741824) (hcl : C.length ≤ 1073741824) :
    Calls Tryv.prog 16 #[.pointer (some ⟨gy, 0, none⟩), .slice A p.length c] wr fun e w' => (Rb - (C.take k).flatten.length < p.length ∧ e = .returned (.int .i64 85) ∧ Rc2 wz gx gy Ra Rb C kx k w') ∨
      (¬ Rb - (C.take k).flatten.length < p.length ∧ e = .returned (.int .i64 0) ∧ Rc2 wz gx gy Ra Rb C kx (k + 1) w') := by
  refine (h.swap.takeX hp ho hg.symm hr0 hr1 hfl hcl).mono ?_
  rintro e w' (⟨a, b, c⟩ | ⟨a, b, c⟩)
  · exact .inl ⟨a, b, c.swap⟩
  · exact .inr ⟨a, b, c.swap⟩
end
set_option maxRecDepth 100000 in
set_option maxHeartbeats 6400000 in
theorem tees_any {A : Option Addr} {n c : Nat} {zs : List Int} {size fi se : Int} {w : World} (hn : n ≤ 1073741824) (hrd : Rd w 1 A n c (bv zs)) (hb : ∀ x ∈ zs, 0 ≤ x ∧ x ≤ 255)
    (hs : size ≤ 9223372036854775807) (hfi : fi ≤ 9223372036854775807) (hse : se ≤ 9223372036854775807) :
    Calls Tryv.prog 7 #[.slice A n c, .agg #[.int .i64 size, .int .i64 fi, .int .i64 se]] w fun e w' => e = .returned (.bool true) ∧ Chg [] w w' := by
  have HR := Lib.hid hrd
  have HB0 := Lib.hid hb
  have hl : zs.length = n := by have := hrd.1; simp at this; omega
  have HL := Lib.hid hl
  obtain ⟨Ra, hRa, ra0, ra1⟩ : ∃ R, (if fi > 0 then fi else 0) = R ∧ 0 ≤ R ∧ R ≤ 9223372036854775807 := ⟨_, rfl, by split <;> omega, by split <;> omega⟩
  obtain ⟨Rb, hRb, rb0, rb1⟩ : ∃ R, (if se > 0 then se else 0) = R ∧ 0 ≤ R ∧ R ≤ 9223372036854775807 := ⟨_, rfl, by split <;> omega, by split <;> omega⟩
  have HRA := Lib.hid hRa
  have HRB := Lib.hid hRb
  have hflat := cutr_flat (szOf size zs.length) _ zs rfl
  have hfl : ∀ k, ((cutr (szOf size zs.length) zs).take k).flatten.length ≤ 1073741824 := fun k => Nat.le_trans (flat_le _ k) (by rw [hflat, hl]; exact hn)
  have hcl : (cutr (szOf size zs.length) zs).length ≤ 1073741824 := by
    have := cutr_len (szOf size zs.length) zs
    omega
  have HFL := Lib.hid hfl
  clear hrd hb hl hRa hRb hflat hfl
  have k1 := Tryv.call11
  have k2 := Tryv.call13
  have k3 := Tryv.call8
  have k4 := Tryv.call9
  have k5 := Tryv.call19
  have k6 := Tryv.call14
  have k7 := Tryv.call12
  have k8 := Tryv.call16
  have k9 := Tryv.call17
  have k10 := Tryv.call10
  have k11 := Tryv.call18
  have k12 := Tryv.call20
  go_enter Tryv.func7, Try.ntmps7
  go_wp2_with (go_at_call 11; refine speaks_any.mono ?_; rintro e w1 ⟨rfl, hc1⟩; have HC1 := Lib.hid hc1; clear hc1)
  have hbt := (Blk.new w 48 #[.int .i64 size, .int .i64 fi, .int .i64 se]).chg HC1.out (by simp)
  have HCW : Hid (Chg [] w w1) := Lib.hid (((Chg.refl [] w).alloc _).trans0 HC1.out)
  obtain ⟨tb, htb⟩ : ∃ tb, tb = w.heap.size := ⟨_, rfl⟩
  rw [← htb] at hbt ⊢
  have y0 := hbt.cell 0
  have y1 := hbt.cell 1
  have y2 := hbt.cell 2
  simp at y0 y1 y2
  clear hbt htb
  have HR1 := Lib.hid (HR.out.chg HCW.out (by simp))
  refine wp_region_held_drew (S := fun w' => Chg [] w1 w') (by kernel_rfl) ((Chg.refl _ _).drew) (fun hHeld => ?_)
  refine wpAnyH_take (i := 0) (v := ?_) rfl (by kernel_rfl) (by kernel_rfl) (by kernel_rfl) (fun _ _ _ h => h) (Or.inl ⟨by rfl, ?_⟩) (by assumption) ?_
  rotate_left
  · (intro w' hSw; go_simp; try with_reducible rfl)
  try simp only [Act.put, List.getElem_toArray, List.getElem_cons_zero, List.setIfInBounds_toArray, List.set_cons_zero, List.set_cons_succ]
  refine wpAnyH_take (i := 1) (v := ?_) rfl (by kernel_rfl) (by kernel_rfl) (by kernel_rfl) (fun _ _ _ h => h) (Or.inl ⟨by rfl, ?_⟩) (by assumption) ?_
  rotate_left
  · (intro w' hSw; have q := hSw.cell y1 (fun h => List.not_mem_nil h); go_simp; try with_reducible rfl)
  try simp only [Act.put, List.getElem_toArray, List.getElem_cons_zero, List.getElem_cons_succ, List.setIfInBounds_toArray, List.set_cons_zero, List.set_cons_succ]
  refine wpAnyH_take (i := 3) (v := ?_) rfl (by kernel_rfl) (by kernel_rfl) (by kernel_rfl) (fun _ _ _ h => h) (Or.inl ⟨by rfl, ?_⟩) (by assumption) ?_
  rotate_left
  · (intro w' hSw; go_simp; try with_reducible rfl)
  try simp only [Act.put, List.getElem_toArray, List.getElem_cons_zero, List.getElem_cons_succ, List.setIfInBounds_toArray, List.set_cons_zero, List.set_cons_succ]
  refine wpAnyH_take (i := 4) (v := ?_) rfl (by kernel_rfl) (by kernel_rfl) (by kernel_rfl) (fun _ _ _ h => h) (Or.inl ⟨by rfl, ?_⟩) (by assumption) ?_
  rotate_left
  · (intro w' hSw; have q := hSw.cell y2 (fun h => List.not_mem_nil h); go_simp; try with_reducible rfl)
  try simp only [Act.put, List.getElem_toArray, List.getElem_cons_zero, List.getElem_cons_succ, List.setIfInBounds_toArray, List.set_cons_zero, List.set_cons_succ]
  refine wpAnyH_ready (rs := [2]) (by kernel_rfl) (by simp) ?_
  refine AllReadyH.cons rfl (fun K hK => ?_) (AllReadyH.nil)
  go_simp
  refine (newb_N _ _).mono ?_
  rw [HRA.out]
  rintro e w2 ⟨ga, rfl, hba⟩
  have H2 := Lib.hid (hHeld.trans0 hba.ch)
  have HBA := Lib.hid (hba.base hHeld)
  clear hba
  refine hK.out _ _ (H2.out) (fun hHeld => ?_)
  try simp only [Act.put, List.getElem_toArray, List.getElem_cons_zero, List.getElem_cons_succ, List.setIfInBounds_toArray, List.set_cons_zero, List.set_cons_succ]
  clear hK K
  refine wpAnyH_ready (rs := [5]) (by kernel_rfl) (by simp) ?_
  refine AllReadyH.cons rfl (fun K hK => ?_) (AllReadyH.nil)
  go_simp
  refine (newb_N _ _).mono ?_
  rw [HRB.out]
  rintro e w3 ⟨gb, rfl, hbb⟩
  have H3 := Lib.hid (hHeld.trans0 hbb.ch)
  have HBB := Lib.hid hbb
  clear hbb
  refine hK.out _ _ (H3.out) (fun hHeld => ?_)
  try simp only [Act.put, List.getElem_toArray, List.getElem_cons_zero, List.getElem_cons_succ, List.setIfInBounds_toArray, List.set_cons_zero, List.set_cons_succ]
  clear hK K
  refine wpAnyH_take (i := 6) (v := ?_) rfl (by kernel_rfl) (by kernel_rfl) (by kernel_rfl) (fun _ _ _ h => h) (Or.inl ⟨by rfl, ?_⟩) (by assumption) ?_
  rotate_left
  · (intro w' hSw; go_simp; try with_reducible rfl)
  try simp only [Act.put, List.getElem_toArray, List.getElem_cons_zero, List.getElem_cons_succ, List.setIfInBounds_toArray, List.set_cons_zero, List.set_cons_succ]
  refine wpAnyH_take (i := 7) (v := ?_) rfl (by kernel_rfl) (by kernel_rfl) (by kernel_rfl) (fun _ _ _ h => h) (Or.inl ⟨by rfl, ?_⟩) (by assumption) ?_
  rotate_left
  · (intro w' hSw; go_simp; try with_reducible rfl)
  try simp only [Act.put, List.getElem_toArray, List.getElem_cons_zero, List.getElem_cons_succ, List.setIfInBounds_toArray, List.set_cons_zero, List.set_cons_succ]
  refine wpAnyH_done (by kernel_rfl) ?_ _
  try simp only [Act.put, List.getElem_toArray, List.getElem_cons_zero, List.getElem_cons_succ, List.setIfInBounds_toArray, List.set_cons_zero, List.set_cons_succ]
  go_wp2_with (go_at_call 20; refine (tee_any (ga := ga) (gb := gb) (Own.lit w3 50 1 #[snk ga, snk gb] 2 (by decide) rfl).rd).mono ?_; rintro e w4 ⟨r, c4, rfl, hown4, hc4, hr4⟩; have HC4 : Hid (Chg [] w3 w4) := Lib.hid (((Chg.refl [] w3).alloc _).trans0 hc4); have HTS := Lib.hid (TS.new HBA.out HBB.out HC4.out hown4 (by simp at hr4; omega)); clear hown4 hc4 hr4)
  refine wp_region_held_drew (S := fun w' => Chg [] w1 w') (by kernel_rfl) (HTS.out.ch.drew) (fun hHeld => ?_)
  refine wpAnyH_take (i := 0) (v := ?_) rfl (by kernel_rfl) (by kernel_rfl) (by kernel_rfl) (fun _ _ _ h => h) (Or.inl ⟨by rfl, ?_⟩) (by assumption) ?_
  rotate_left
  · (intro w' hSw; go_simp; try with_reducible rfl)
  try simp only [Act.put, List.getElem_toArray, List.getElem_cons_zero, List.setIfInBounds_toArray, List.set_cons_zero, List.set_cons_succ]
  refine wpAnyH_take (i := 2) (v := ?_) rfl (by kernel_rfl) (by kernel_rfl) (by kernel_rfl) (fun _ _ _ h => h) (Or.inl ⟨by rfl, ?_⟩) (by assumption) ?_
  rotate_left
  · (intro w' hSw; go_simp; try with_reducible rfl)
  try simp only [Act.put, List.getElem_toArray, List.getElem_cons_zero, List.getElem_cons_succ, List.setIfInBounds_toArray, List.set_cons_zero, List.set_cons_succ]
  refine wpAnyH_take (i := 3) (v := ?_) rfl (by kernel_rfl) (by kernel_rfl) (by kernel_rfl) (fun _ _ _ h => h) (Or.inl ⟨by rfl, ?_⟩) (by assumption) ?_
  rotate_left
  · (intro w' hSw; have q := hSw.cell y0 (fun h => List.not_mem_nil h); go_simp; try with_reducible rfl)
  try simp only [Act.put, List.getElem_toArray, List.getElem_cons_zero, List.getElem_cons_succ, List.setIfInBounds_toArray, List.set_cons_zero, List.set_cons_succ]
  refine wpAnyH_take (i := 5) (v := ?_) rfl (by kernel_rfl) (by kernel_rfl) (by kernel_rfl) (fun _ _ _ h => h) (Or.inl ⟨by rfl, ?_⟩) (by assumption) ?_
  rotate_left
  · (intro w' hSw; go_simp; try with_reducible rfl)
  try simp only [Act.put, List.getElem_toArray, List.getElem_cons_zero, List.getElem_cons_succ, List.setIfInBounds_toArray, List.set_cons_zero, List.set_cons_succ]
  refine wpAnyH_ready (rs := [1]) (by kernel_rfl) (by simp) ?_
  refine AllReadyH.cons rfl (fun K hK => ?_) (AllReadyH.nil)
  go_simp
  refine (copy_any A n c zs _ hn (HR1.out.chg hHeld (by simp))).mono ?_
  rintro e w5 ⟨A5, c5, rfl, hown5, hchg5, hnew5⟩
  have H5 := Lib.hid (hHeld.trans0 hchg5)
  have HO5 := Lib.hid hown5
  have HT5 := Lib.hid (HTS.out.chg (((Chg.refl [] w4).drew).trans0 hchg5))
  clear hown5 hchg5 hnew5
  refine hK.out _ _ (H5.out) (fun hHeld => ?_)
  try simp only [Act.put, List.getElem_toArray, List.getElem_cons_zero, List.getElem_cons_succ, List.setIfInBounds_toArray, List.set_cons_zero, List.set_cons_succ]
  clear hK K
  refine wpAnyH_ready (rs := [4]) (by kernel_rfl) (by simp) ?_
  refine AllReadyH.cons rfl (fun K hK => ?_) (AllReadyH.nil)
  go_simp
  refine (chunks_any hn HO5.out.rd HB0.out hs).mono ?_
  rintro e w6 ⟨rfl, rfl⟩
  refine hK.out _ _ (hHeld) (fun hHeld => ?_)
  try simp only [Act.put, List.getElem_toArray, List.getElem_cons_zero, List.getElem_cons_succ, List.setIfInBounds_toArray, List.set_cons_zero, List.set_cons_succ]
  clear hK K
  refine wpAnyH_ready (rs := [6]) (by kernel_rfl) (by simp) ?_
  refine AllReadyH.cons rfl (fun K hK => ?_) (AllReadyH.nil)
  go_simp
  refine (copyTee (w0 := w1) HB0.out (by rw [HL.out]; exact hn) hs ra0 ra1 rb0 rb1 HT5.out).mono ?_
  rintro e w7 ⟨nb, na, xb, hte, rfl, hts⟩
  have HTE := Lib.hid hte
  have HT7 := Lib.hid hts
  clear hte hts
  refine hK.out _ _ (HT7.out.ch) (fun hHeld => ?_)
  try simp only [Act.put, List.getElem_toArray, List.getElem_cons_zero, List.getElem_cons_succ, List.setIfInBounds_toArray, List.set_cons_zero, List.set_cons_succ]
  clear hK K
  refine wpAnyH_take (i := 7) (v := ?_) rfl (by kernel_rfl) (by kernel_rfl) (by kernel_rfl) (fun _ _ _ h => h) (Or.inl ⟨by rfl, ?_⟩) (by assumption) ?_
  rotate_left
  · (intro w' hSw; go_simp; try with_reducible rfl)
  try simp only [Act.put, List.getElem_toArray, List.getElem_cons_zero, List.getElem_cons_succ, List.setIfInBounds_toArray, List.set_cons_zero, List.set_cons_succ]
  refine wpAnyH_take (i := 8) (v := ?_) rfl (by kernel_rfl) (by kernel_rfl) (by kernel_rfl) (fun _ _ _ h => h) (Or.inl ⟨by rfl, ?_⟩) (by assumption) ?_
  rotate_left
  · (intro w' hSw; go_simp; try with_reducible rfl)
  try simp only [Act.put, List.getElem_toArray, List.getElem_cons_zero, List.getElem_cons_succ, List.setIfInBounds_toArray, List.set_cons_zero, List.set_cons_succ]
  refine wpAnyH_take (i := 9) (v := ?_) rfl (by kernel_rfl) (by kernel_rfl) (by kernel_rfl) (fun _ _ _ h => h) (Or.inl ⟨by rfl, ?_⟩) (by assumption) ?_
  rotate_left
  · (intro w' hSw; go_simp; try with_reducible rfl)
  try simp only [Act.put, List.getElem_toArray, List.getElem_cons_zero, List.getElem_cons_succ, List.setIfInBounds_toArray, List.set_cons_zero, List.set_cons_succ]
  refine wpAnyH_take (i := 10) (v := ?_) rfl (by kernel_rfl) (by kernel_rfl) (by kernel_rfl) (fun _ _ _ h => h) (Or.inl ⟨by rfl, ?_⟩) (by assumption) ?_
  rotate_left
  · (intro w' hSw; go_simp; try with_reducible rfl)
  try simp only [Act.put, List.getElem_toArray, List.getElem_cons_zero, List.getElem_cons_succ, List.setIfInBounds_toArray, List.set_cons_zero, List.set_cons_succ]
  refine wpAnyH_take (i := 11) (v := ?_) rfl (by kernel_rfl) (by kernel_rfl) (by kernel_rfl) (fun _ _ _ h => h) (Or.inl ⟨by rfl, ?_⟩) (by assumption) ?_
  rotate_left
  · (intro w' hSw; go_simp; try with_reducible rfl)
  try simp only [Act.put, List.getElem_toArray, List.getElem_cons_zero, List.getElem_cons_succ, List.setIfInBounds_toArray, List.set_cons_zero, List.set_cons_succ]
  refine wpAnyH_done (by kernel_rfl) ?_ _
  try simp only [Act.put, List.getElem_toArray, List.getElem_cons_zero, List.getElem_cons_succ, List.setIfInBounds_toArray, List.set_cons_zero, List.set_cons_succ]
  go_wp2_with fail
  refine wp_region_held_drew (S := fun w' => Chg [] w1 w') (by kernel_rfl) (HT7.out.ch.drew) (fun hHeld => ?_)
  refine wpAnyH_take (i := 0) (v := ?_) rfl (by kernel_rfl) (by kernel_rfl) (by kernel_rfl) (fun _ _ _ h => h) (Or.inl ⟨by rfl, ?_⟩) (by assumption) ?_
  rotate_left
  · (intro w' hSw; go_simp; try with_reducible rfl)
  try simp only [Act.put, List.getElem_toArray, List.getElem_cons_zero, List.setIfInBounds_toArray, List.set_cons_zero, List.set_cons_succ]
  refine wpAnyH_take (i := 1) (v := ?_) rfl (by kernel_rfl) (by kernel_rfl) (by kernel_rfl) (fun _ _ _ h => h) (Or.inl ⟨by rfl, ?_⟩) (by assumption) ?_
  rotate_left
  · (intro w' hSw; have q := hSw.cell y1 (fun h => List.not_mem_nil h); go_simp; try with_reducible rfl)
  try simp only [Act.put, List.getElem_toArray, List.getElem_cons_zero, List.getElem_cons_succ, List.setIfInBounds_toArray, List.set_cons_zero, List.set_cons_succ]
  refine wpAnyH_take (i := 3) (v := ?_) rfl (by kernel_rfl) (by kernel_rfl) (by kernel_rfl) (fun _ _ _ h => h) (Or.inl ⟨by rfl, ?_⟩) (by assumption) ?_
  rotate_left
  · (intro w' hSw; go_simp; try with_reducible rfl)
  try simp only [Act.put, List.getElem_toArray, List.getElem_cons_zero, List.getElem_cons_succ, List.setIfInBounds_toArray, List.set_cons_zero, List.set_cons_succ]
  refine wpAnyH_take (i := 4) (v := ?_) rfl (by kernel_rfl) (by kernel_rfl) (by kernel_rfl) (fun _ _ _ h => h) (Or.inl ⟨by rfl, ?_⟩) (by assumption) ?_
  rotate_left
  · (intro w' hSw; have q := hSw.cell y2 (fun h => List.not_mem_nil h); go_simp; try with_reducible rfl)
  try simp only [Act.put, List.getElem_toArray, List.getElem_cons_zero, List.getElem_cons_succ, List.setIfInBounds_toArray, List.set_cons_zero, List.set_cons_succ]
  refine wpAnyH_ready (rs := [2]) (by kernel_rfl) (by simp) ?_
  refine AllReadyH.cons rfl (fun K hK => ?_) (AllReadyH.nil)
  go_simp
  refine (rnewb_N _ _).mono ?_
  rw [HRA.out]
  rintro e w8 ⟨gx, rfl, hbx, hc8, hgx⟩
  have H8 := Lib.hid (hHeld.trans0 hc8)
  have HX8 := Lib.hid hbx
  have HC8 : Hid (Chg [] w7 w8) := Lib.hid (((Chg.refl [] w7).drew).trans0 hc8)
  have HGX : Hid (w7.heap.size ≤ gx) := Lib.hid hgx
  clear hbx hc8 hgx
  refine hK.out _ _ (H8.out) (fun hHeld => ?_)
  try simp only [Act.put, List.getElem_toArray, List.getElem_cons_zero, List.getElem_cons_succ, List.setIfInBounds_toArray, List.set_cons_zero, List.set_cons_succ]
  clear hK K
  refine wpAnyH_ready (rs := [5]) (by kernel_rfl) (by simp) ?_
  refine AllReadyH.cons rfl (fun K hK => ?_) (AllReadyH.nil)
  go_simp
  refine (rnewb_N _ _).mono ?_
  rw [HRB.out]
  rintro e w9 ⟨gy, rfl, hby, hc9, hgy⟩
  have H9 := Lib.hid (hHeld.trans0 hc9)
  have HY9 := Lib.hid hby
  have HC9 := Lib.hid hc9
  have HGY := Lib.hid hgy
  clear hby hc9 hgy
  refine hK.out _ _ (H9.out) (fun hHeld => ?_)
  try simp only [Act.put, List.getElem_toArray, List.getElem_cons_zero, List.getElem_cons_succ, List.setIfInBounds_toArray, List.set_cons_zero, List.set_cons_succ]
  clear hK K
  refine wpAnyH_take (i := 6) (v := ?_) rfl (by kernel_rfl) (by kernel_rfl) (by kernel_rfl) (fun _ _ _ h => h) (Or.inl ⟨by rfl, ?_⟩) (by assumption) ?_
  rotate_left
  · (intro w' hSw; go_simp; try with_reducible rfl)
  try simp only [Act.put, List.getElem_toArray, List.getElem_cons_zero, List.getElem_cons_succ, List.setIfInBounds_toArray, List.set_cons_zero, List.set_cons_succ]
  refine wpAnyH_take (i := 7) (v := ?_) rfl (by kernel_rfl) (by kernel_rfl) (by kernel_rfl) (fun _ _ _ h => h) (Or.inl ⟨by rfl, ?_⟩) (by assumption) ?_
  rotate_left
  · (intro w' hSw; go_simp; try with_reducible rfl)
  try simp only [Act.put, List.getElem_toArray, List.getElem_cons_zero, List.getElem_cons_succ, List.setIfInBounds_toArray, List.set_cons_zero, List.set_cons_succ]
  refine wpAnyH_done (by kernel_rfl) ?_ _
  try simp only [Act.put, List.getElem_toArray, List.getElem_cons_zero, List.getElem_cons_succ, List.setIfInBounds_toArray, List.set_cons_zero, List.set_cons_succ]
  have HR9 := Lib.hid (HR1.out.chg H9.out (by simp))
  have v0 := H9.out.cell y0 List.not_mem_nil
  go_upto_block 0 with (go_at_call 12; refine (rchunks_any hn HR9.out).mono ?_; rintro e wz ⟨O, oc, vs, LL, rfl, hO, hI, hcz, hnO, hnL⟩; have HOz := Lib.hid hO; have HIz := Lib.hid hI; have HCz := Lib.hid hcz; have HNO := Lib.hid hnO; have HNL := Lib.hid hnL; clear hO hI hcz hnO hnL)
  generalize hC : cutr (szOf size zs.length) zs = C at *
  have HOx : Hid (∀ x ∈ bo O, x ≠ gx ∧ x ≠ gy) := Lib.hid (fun x hx => by have h1 := HNO.out x hx; have h2 := HX8.out.lt gx (by simp); have h3 := HY9.out.lt gy (by simp); have h4 := HC9.out.size; omega)
  have HLx : Hid (∀ x ∈ LL, x ≠ gx ∧ x ≠ gy) := Lib.hid (fun x hx => by have h1 := HNL.out x hx; have h2 := HX8.out.lt gx (by simp); have h3 := HY9.out.lt gy (by simp); have h4 := HC9.out.size; omega)
  have hxy : gx ≠ gy := by have h1 := HGY.out; have h2 := HX8.out.lt gx (by simp); omega
  go_cut [12, 13, 15, 59] from 60 to 75 (fun want cnt _ _ wc => want = .int .i64 xb ∧ cnt = .int .i64 nb ∧ Rc2 wz gx gy Ra Rb C na nb wc)
  case first =>
    go_wp2_with fail
    go_loopw [12, 13, 15, 59] (fun want cnt ch i wr => ∃ k : Nat, k ≤ C.length ∧ want = .int .i64 0 ∧ cnt = .int .i64 k ∧ i = .int .i64 k ∧ TUp Ra Rb C k ∧ Rc2 wz gx gy Ra Rb C k k wr) (fun _ _ _ i _ => C.length - (intOf i).toNat)
    case atStart => exact ⟨0, Nat.zero_le _, rfl, rfl, rfl, TUp.zero _ _ _, Rc2.start HX8.out HY9.out HC9.out HCz.out hxy⟩
    case round =>
      obtain ⟨k, hk, rfl, rfl, rfl, hup, hrc⟩ := hrel
      have HUP := Lib.hid hup
      have HRC := Lib.hid hrc
      have hch : Chg [gx, gy] wz wr := hrc.ch
      by_cases hlt : k < C.length
      · obtain ⟨p, ad, Ap, cp, hp, rfl, hcell, hop, hLp⟩ := HIz.out.row HOz.out hlt
        have hcell2 := hch.cell hcell (fun hm => by have := HOx.out (ad.add k).block (by rw [add_block]; simp); simp at hm; omega)
        have HP := Lib.hid hp
        have HOP := Lib.hid hop
        have HGP : Hid (gx ∉ bo Ap ∧ gy ∉ bo Ap) := Lib.hid ⟨fun hm => (HLx.out gx (hLp gx hm)).1 rfl, fun hm => (HLx.out gy (hLp gy hm)).2 rfl⟩
        clear hcell hp hop hLp hup hrc hch
        go_upto_region 16 with (go_at_call 16; refine (HRC.out.takeX HP.out HOP.out HGP.out ra0 ra1 HFL.out hcl).mono ?_; rintro e w10 (⟨hq, rfl, hrc2⟩ | ⟨hq, rfl, hrc2⟩))
        · have HF := Lib.hid (HTE.out.symm.trans (HUP.out.fullA HP.out hq))
          have HRC2 := Lib.hid hrc2
          clear hq hrc2
          go_wp2_with fail
          go_meet
          case rel =>
            have hf := HF.out
            simp only [Prod.mk.injEq] at hf
            obtain ⟨rfl, rfl, rfl⟩ := hf
            exact ⟨rfl, rfl, HRC2.out⟩
        · have HRC2 := Lib.hid hrc2
          have HQ := Lib.hid hq
          clear hq hrc2
          go_upto_region 18 with (go_at_call 16; refine (HRC2.out.takeY HP.out HOP.out HGP.out rb0 rb1 HFL.out hcl).mono ?_; rintro e w11 (⟨hq, rfl, hrc3⟩ | ⟨hq, rfl, hrc3⟩))
          · have HF := Lib.hid (HTE.out.symm.trans (HUP.out.fullB HP.out (by have := HQ.out; omega) hq))
            have HRC3 := Lib.hid hrc3
            clear hq hrc3
            go_wp2_with fail
            go_meet
            case rel =>
              have hf := HF.out
              simp only [Prod.mk.injEq] at hf
              obtain ⟨rfl, rfl, rfl⟩ := hf
              exact ⟨rfl, rfl, HRC3.out⟩
          · have hup2 := Lib.hid (HUP.out.step HP.out (by have := HQ.out; omega) (by omega))
            have HRC3 := Lib.hid hrc3
            clear hq hrc3
            go_wp2_with fail
            go_roundw
            case rel => exact ⟨k + 1, hlt, rfl, by go_num, by go_num, hup2.out, HRC3.out⟩
            case measure => simp [intOf]; omega
      · have hke : k = C.length := by omega
        have h0 := (show TUp Ra Rb C C.length by rw [← hke]; exact HUP.out).done
        rw [← hke] at h0
        have HF := Lib.hid (HTE.out.symm.trans h0)
        clear h0 hup
        go_wp2_with fail
        go_meet
        case rel =>
          have hf := HF.out
          simp only [Prod.mk.injEq] at hf
          obtain ⟨rfl, rfl, rfl⟩ := hf
          exact ⟨rfl, rfl, hrc⟩
  case rest =>
    obtain ⟨rfl, rfl, hrc⟩ := hcut
    clear HIz HOz HNO HNL HOx HLx HTE
    go_upto_region 21 with fail
    obtain ⟨Ax, Ay, hbx, hby, hch2, hn1, hn2, hn3, hn4, hn5, hn6⟩ := hrc
    have hts := HT7.out
    have hzx := HFL.out na
    have hzy := HFL.out nb
    generalize hZX : (C.take na).flatten = ZX at hzx hbx hts
    have HZX := Lib.hid hzx
    clear hZX hzx
    generalize hZY : (C.take nb).flatten = ZY at hzy hby hts
    have HZY := Lib.hid hzy
    clear hZY hzy
    obtain ⟨tx, nx, cx, hbkx, hownx, hgx', rfl⟩ := hbx
    obtain ⟨ty, ny, cy, hbky, howny, hgy', rfl⟩ := hby
    clear y0 y1 y2
    have x1 := hbkx.cell 1
    have x2 := hbkx.cell 2
    have y1 := hbky.cell 1
    have y2 := hbky.cell 2
    simp at x1 x2 y1 y2
    have hT := hts.far ((HC8.out.trans0 HC9.out).trans0 HCz.out) hch2 (fun j hj => by simp at hj; have h1 := HGX.out; have h2 := HGY.out; have h3 := HC8.out.size; rcases hj with rfl | rfl <;> omega)
    have HA := Lib.hid hT.bktA
    have HB := Lib.hid hT.bktB
    have HOX := Lib.hid hownx
    have HOY := Lib.hid howny
    have HTC := Lib.hid hT.ch
    clear hbkx hownx hgx' hbky howny hgy' hch2 hn1 hn2 hn3 hn4 hn5 hn6 hts hT
    refine wp_region_held_drew (S := fun w' => Chg [] wc w') (by kernel_rfl) ((Chg.refl _ _).drew) (fun hHeld => ?_)
    refine wpAnyH_take (i := 0) (v := ?_) rfl (by kernel_rfl) (by kernel_rfl) (by kernel_rfl) (fun _ _ _ h => h) (Or.inl ⟨by rfl, ?_⟩) (by assumption) ?_
    rotate_left
    · (intro w' hSw; go_simp; try with_reducible rfl)
    try simp only [Act.put, List.getElem_toArray, List.getElem_cons_zero, List.setIfInBounds_toArray, List.set_cons_zero, List.set_cons_succ]
    refine wpAnyH_take (i := 1) (v := ?_) rfl (by kernel_rfl) (by kernel_rfl) (by kernel_rfl) (fun _ _ _ h => h) (Or.inl ⟨by rfl, ?_⟩) (by assumption) ?_
    rotate_left
    · (intro w' hSw; go_simp; try with_reducible rfl)
    try simp only [Act.put, List.getElem_toArray, List.getElem_cons_zero, List.getElem_cons_succ, List.setIfInBounds_toArray, List.set_cons_zero, List.set_cons_succ]
    refine wpAnyH_take (i := 2) (v := ?_) rfl (by kernel_rfl) (by kernel_rfl) (by kernel_rfl) (fun _ _ _ h => h) (Or.inl ⟨by rfl, ?_⟩) (by assumption) ?_
    rotate_left
    · (intro w' hSw; go_simp; try with_reducible rfl)
    try simp only [Act.put, List.getElem_toArray, List.getElem_cons_zero, List.getElem_cons_succ, List.setIfInBounds_toArray, List.set_cons_zero, List.set_cons_succ]
    refine wpAnyH_take (i := 3) (v := ?_) rfl (by kernel_rfl) (by kernel_rfl) (by kernel_rfl) (fun _ _ _ h => h) (Or.inl ⟨by rfl, ?_⟩) (by assumption) ?_
    rotate_left
    · (intro w' hSw; go_simp; try with_reducible rfl)
    try simp only [Act.put, List.getElem_toArray, List.getElem_cons_zero, List.getElem_cons_succ, List.setIfInBounds_toArray, List.set_cons_zero, List.set_cons_succ]
    refine wpAnyH_take (i := 4) (v := ?_) rfl (by kernel_rfl) (by kernel_rfl) (by kernel_rfl) (fun _ _ _ h => h) (Or.inl ⟨by rfl, ?_⟩) (by assumption) ?_
    rotate_left
    · (intro w' hSw; go_simp; try with_reducible rfl)
    try simp only [Act.put, List.getElem_toArray, List.getElem_cons_zero, List.getElem_cons_succ, List.setIfInBounds_toArray, List.set_cons_zero, List.set_cons_succ]
    refine wpAnyH_take (i := 5) (v := ?_) rfl (by kernel_rfl) (by kernel_rfl) (by kernel_rfl) (fun _ _ _ h => h) (Or.inl ⟨by rfl, ?_⟩) (by assumption) ?_
    rotate_left
    · (intro w' hSw; go_simp; try with_reducible rfl)
    try simp only [Act.put, List.getElem_toArray, List.getElem_cons_zero, List.getElem_cons_succ, List.setIfInBounds_toArray, List.set_cons_zero, List.set_cons_succ]
    refine wpAnyH_take (i := 6) (v := ?_) rfl (by kernel_rfl) (by kernel_rfl) (by kernel_rfl) (fun _ _ _ h => h) (Or.inl ⟨by rfl, ?_⟩) (by assumption) ?_
    rotate_left
    · (intro w' hSw; go_simp; try with_reducible rfl)
    try simp only [Act.put, List.getElem_toArray, List.getElem_cons_zero, List.getElem_cons_succ, List.setIfInBounds_toArray, List.set_cons_zero, List.set_cons_succ]
    refine wpAnyH_take (i := 7) (v := ?_) rfl (by kernel_rfl) (by kernel_rfl) (by kernel_rfl) (fun _ _ _ h => h) (Or.inl ⟨by rfl, ?_⟩) (by assumption) ?_
    rotate_left
    · (intro w' hSw; go_simp; try with_reducible rfl)
    try simp only [Act.put, List.getElem_toArray, List.getElem_cons_zero, List.getElem_cons_succ, List.setIfInBounds_toArray, List.set_cons_zero, List.set_cons_succ]
    refine wpAnyH_take (i := 8) (v := ?_) rfl (by kernel_rfl) (by kernel_rfl) (by kernel_rfl) (fun _ _ _ h => h) (Or.inl ⟨by rfl, ?_⟩) (by assumption) ?_
    rotate_left
    · (intro w' hSw; go_simp; try with_reducible rfl)
    try simp only [Act.put, List.getElem_toArray, List.getElem_cons_zero, List.getElem_cons_succ, List.setIfInBounds_toArray, List.set_cons_zero, List.set_cons_succ]
    refine wpAnyH_take (i := 9) (v := ?_) rfl (by kernel_rfl) (by kernel_rfl) (by kernel_rfl) (fun _ _ _ h => h) (Or.inl ⟨by rfl, ?_⟩) (by assumption) ?_
    rotate_left
    · (intro w' hSw; go_simp; try with_reducible rfl)
    try simp only [Act.put, List.getElem_toArray, List.getElem_cons_zero, List.getElem_cons_succ, List.setIfInBounds_toArray, List.set_cons_zero, List.set_cons_succ]
    refine wpAnyH_take (i := 11) (v := ?_) rfl (by kernel_rfl) (by kernel_rfl) (by kernel_rfl) (fun _ _ _ h => h) (Or.inl ⟨by rfl, ?_⟩) (by assumption) ?_
    rotate_left
    · (intro w' hSw; go_simp; try with_reducible rfl)
    try simp only [Act.put, List.getElem_toArray, List.getElem_cons_zero, List.getElem_cons_succ, List.setIfInBounds_toArray, List.set_cons_zero, List.set_cons_succ]
    refine wpAnyH_take (i := 12) (v := ?_) rfl (by kernel_rfl) (by kernel_rfl) (by kernel_rfl) (fun _ _ _ h => h) (Or.inl ⟨by rfl, ?_⟩) (by assumption) ?_
    rotate_left
    · (intro w' hSw; go_simp; try with_reducible rfl)
    try simp only [Act.put, List.getElem_toArray, List.getElem_cons_zero, List.getElem_cons_succ, List.setIfInBounds_toArray, List.set_cons_zero, List.set_cons_succ]
    refine wpAnyH_take (i := 13) (v := ?_) rfl (by kernel_rfl) (by kernel_rfl) (by kernel_rfl) (fun _ _ _ h => h) (Or.inl ⟨by rfl, ?_⟩) (by assumption) ?_
    rotate_left
    · (intro w' hSw; go_simp; try with_reducible rfl)
    try simp only [Act.put, List.getElem_toArray, List.getElem_cons_zero, List.getElem_cons_succ, List.setIfInBounds_toArray, List.set_cons_zero, List.set_cons_succ]
    refine wpAnyH_take (i := 14) (v := ?_) rfl (by kernel_rfl) (by kernel_rfl) (by kernel_rfl) (fun _ _ _ h => h) (Or.inl ⟨by rfl, ?_⟩) (by assumption) ?_
    rotate_left
    · (intro w' hSw; have q := hSw.cell x2 (fun h => List.not_mem_nil h); go_simp; try with_reducible rfl)
    try simp only [Act.put, List.getElem_toArray, List.getElem_cons_zero, List.getElem_cons_succ, List.setIfInBounds_toArray, List.set_cons_zero, List.set_cons_succ]
    refine wpAnyH_ready (rs := [10]) (by kernel_rfl) (by simp) ?_
    refine AllReadyH.cons rfl (fun K hK => ?_) (AllReadyH.nil)
    go_simp
    refine (bytes_bktN (HA.out.chg hHeld) HZX.out).mono ?_
    rintro e w12 ⟨A12, c12, rfl, hown12, hchg12, hnew12⟩
    have HO12 := Lib.hid hown12
    have H12 := Lib.hid (hHeld.trans0 hchg12)
    clear hown12 hchg12 hnew12
    refine hK.out _ _ (H12.out) (fun hHeld => ?_)
    try simp only [Act.put, List.getElem_toArray, List.getElem_cons_zero, List.getElem_cons_succ, List.setIfInBounds_toArray, List.set_cons_zero, List.set_cons_succ]
    clear hK K
    refine wpAnyH_ready (rs := [15]) (by kernel_rfl) (by simp) ?_
    refine AllReadyH.cons rfl (fun K hK => ?_) (AllReadyH.nil)
    go_simp
    refine (same_any (xs := ZX) (ys := ZX) HO12.out.rd (HOX.out.rd.chg hHeld (by simp))).mono ?_
    rintro e w13 ⟨rfl, rfl⟩
    rw [beq_self_eq_true]
    refine hK.out _ _ (hHeld) (fun hHeld => ?_)
    try simp only [Act.put, List.getElem_toArray, List.getElem_cons_zero, List.getElem_cons_succ, List.setIfInBounds_toArray, List.set_cons_zero, List.set_cons_succ]
    clear hK K
    refine wpAnyH_take (i := 16) (v := ?_) rfl (by kernel_rfl) (by kernel_rfl) (by kernel_rfl) (fun _ _ _ h => h) (Or.inl ⟨by rfl, ?_⟩) (by assumption) ?_
    rotate_left
    · (intro w' hSw; go_simp; try with_reducible rfl)
    try simp only [Act.put, List.getElem_toArray, List.getElem_cons_zero, List.getElem_cons_succ, List.setIfInBounds_toArray, List.set_cons_zero, List.set_cons_succ]
    refine wpAnyH_take (i := 17) (v := ?_) rfl (by kernel_rfl) (by kernel_rfl) (by kernel_rfl) (fun _ _ _ h => h) (Or.inl ⟨by rfl, ?_⟩) (by assumption) ?_
    rotate_left
    · (intro w' hSw; go_simp; try with_reducible rfl)
    try simp only [Act.put, List.getElem_toArray, List.getElem_cons_zero, List.getElem_cons_succ, List.setIfInBounds_toArray, List.set_cons_zero, List.set_cons_succ]
    refine wpAnyH_take (i := 18) (v := ?_) rfl (by kernel_rfl) (by kernel_rfl) (by kernel_rfl) (fun _ _ _ h => h) (Or.inl ⟨by rfl, ?_⟩) (by assumption) ?_
    rotate_left
    · (intro w' hSw; go_simp; try with_reducible rfl)
    try simp only [Act.put, List.getElem_toArray, List.getElem_cons_zero, List.getElem_cons_succ, List.setIfInBounds_toArray, List.set_cons_zero, List.set_cons_succ]
    refine wpAnyH_take (i := 20) (v := ?_) rfl (by kernel_rfl) (by kernel_rfl) (by kernel_rfl) (fun _ _ _ h => h) (Or.inl ⟨by rfl, ?_⟩) (by assumption) ?_
    rotate_left
    · (intro w' hSw; go_simp; try with_reducible rfl)
    try simp only [Act.put, List.getElem_toArray, List.getElem_cons_zero, List.getElem_cons_succ, List.setIfInBounds_toArray, List.set_cons_zero, List.set_cons_succ]
    refine wpAnyH_take (i := 21) (v := ?_) rfl (by kernel_rfl) (by kernel_rfl) (by kernel_rfl) (fun _ _ _ h => h) (Or.inl ⟨by rfl, ?_⟩) (by assumption) ?_
    rotate_left
    · (intro w' hSw; go_simp; try with_reducible rfl)
    try simp only [Act.put, List.getElem_toArray, List.getElem_cons_zero, List.getElem_cons_succ, List.setIfInBounds_toArray, List.set_cons_zero, List.set_cons_succ]
    refine wpAnyH_take (i := 22) (v := ?_) rfl (by kernel_rfl) (by kernel_rfl) (by kernel_rfl) (fun _ _ _ h => h) (Or.inl ⟨by rfl, ?_⟩) (by assumption) ?_
    rotate_left
    · (intro w' hSw; go_simp; try with_reducible rfl)
    try simp only [Act.put, List.getElem_toArray, List.getElem_cons_zero, List.getElem_cons_succ, List.setIfInBounds_toArray, List.set_cons_zero, List.set_cons_succ]
    refine wpAnyH_take (i := 23) (v := ?_) rfl (by kernel_rfl) (by kernel_rfl) (by kernel_rfl) (fun _ _ _ h => h) (Or.inl ⟨by rfl, ?_⟩) (by assumption) ?_
    rotate_left
    · (intro w' hSw; have q := hSw.cell y2 (fun h => List.not_mem_nil h); go_simp; try with_reducible rfl)
    try simp only [Act.put, List.getElem_toArray, List.getElem_cons_zero, List.getElem_cons_succ, List.setIfInBounds_toArray, List.set_cons_zero, List.set_cons_succ]
    refine wpAnyH_ready (rs := [19]) (by kernel_rfl) (by simp) ?_
    refine AllReadyH.cons rfl (fun K hK => ?_) (AllReadyH.nil)
    go_simp
    refine (bytes_bktN (HB.out.chg hHeld) HZY.out).mono ?_
    rintro e w14 ⟨A14, c14, rfl, hown14, hchg14, hnew14⟩
    have HO14 := Lib.hid hown14
    have H14 := Lib.hid (hHeld.trans0 hchg14)
    clear hown14 hchg14 hnew14
    refine hK.out _ _ (H14.out) (fun hHeld => ?_)
    try simp only [Act.put, List.getElem_toArray, List.getElem_cons_zero, List.getElem_cons_succ, List.setIfInBounds_toArray, List.set_cons_zero, List.set_cons_succ]
    clear hK K
    refine wpAnyH_ready (rs := [24]) (by kernel_rfl) (by simp) ?_
    refine AllReadyH.cons rfl (fun K hK => ?_) (AllReadyH.nil)
    go_simp
    refine (same_any (xs := ZY) (ys := ZY) HO14.out.rd (HOY.out.rd.chg hHeld (by simp))).mono ?_
    rintro e w15 ⟨rfl, rfl⟩
    rw [beq_self_eq_true]
    refine hK.out _ _ (hHeld) (fun hHeld => ?_)
    try simp only [Act.put, List.getElem_toArray, List.getElem_cons_zero, List.getElem_cons_succ, List.setIfInBounds_toArray, List.set_cons_zero, List.set_cons_succ]
    clear hK K
    refine wpAnyH_take (i := 25) (v := ?_) rfl (by kernel_rfl) (by kernel_rfl) (by kernel_rfl) (fun _ _ _ h => h) (Or.inl ⟨by rfl, ?_⟩) (by assumption) ?_
    rotate_left
    · (intro w' hSw; go_simp; try with_reducible rfl)
    try simp only [Act.put, List.getElem_toArray, List.getElem_cons_zero, List.getElem_cons_succ, List.setIfInBounds_toArray, List.set_cons_zero, List.set_cons_succ]
    refine wpAnyH_take (i := 26) (v := ?_) rfl (by kernel_rfl) (by kernel_rfl) (by kernel_rfl) (fun _ _ _ h => h) (Or.inl ⟨by rfl, ?_⟩) (by assumption) ?_
    rotate_left
    · (intro w' hSw; go_simp; try with_reducible rfl)
    try simp only [Act.put, List.getElem_toArray, List.getElem_cons_zero, List.getElem_cons_succ, List.setIfInBounds_toArray, List.set_cons_zero, List.set_cons_succ]
    refine wpAnyH_take (i := 27) (v := ?_) rfl (by kernel_rfl) (by kernel_rfl) (by kernel_rfl) (fun _ _ _ h => h) (Or.inl ⟨by rfl, ?_⟩) (by assumption) ?_
    rotate_left
    · (intro w' hSw; go_simp; try with_reducible rfl)
    try simp only [Act.put, List.getElem_toArray, List.getElem_cons_zero, List.getElem_cons_succ, List.setIfInBounds_toArray, List.set_cons_zero, List.set_cons_succ]
    refine wpAnyH_take (i := 29) (v := ?_) rfl (by kernel_rfl) (by kernel_rfl) (by kernel_rfl) (fun _ _ _ h => h) (Or.inl ⟨by rfl, ?_⟩) (by assumption) ?_
    rotate_left
    · (intro w' hSw; go_simp; try with_reducible rfl)
    try simp only [Act.put, List.getElem_toArray, List.getElem_cons_zero, List.getElem_cons_succ, List.setIfInBounds_toArray, List.set_cons_zero, List.set_cons_succ]
    refine wpAnyH_take (i := 30) (v := ?_) rfl (by kernel_rfl) (by kernel_rfl) (by kernel_rfl) (fun _ _ _ h => h) (Or.inl ⟨by rfl, ?_⟩) (by assumption) ?_
    rotate_left
    · (intro w' hSw; go_simp; try with_reducible rfl)
    try simp only [Act.put, List.getElem_toArray, List.getElem_cons_zero, List.getElem_cons_succ, List.setIfInBounds_toArray, List.set_cons_zero, List.set_cons_succ]
    refine wpAnyH_take (i := 31) (v := ?_) rfl (by kernel_rfl) (by kernel_rfl) (by kernel_rfl) (fun _ _ _ h => h) (Or.inl ⟨by rfl, ?_⟩) (by assumption) ?_
    rotate_left
    · (intro w' hSw; go_simp; try with_reducible rfl)
    try simp only [Act.put, List.getElem_toArray, List.getElem_cons_zero, List.getElem_cons_succ, List.setIfInBounds_toArray, List.set_cons_zero, List.set_cons_succ]
    refine wpAnyH_take (i := 32) (v := ?_) rfl (by kernel_rfl) (by kernel_rfl) (by kernel_rfl) (fun _ _ _ h => h) (Or.inl ⟨by rfl, ?_⟩) (by assumption) ?_
    rotate_left
    · (intro w' hSw; have q := hSw.cell x1 (fun h => List.not_mem_nil h); go_simp; try with_reducible rfl)
    try simp only [Act.put, List.getElem_toArray, List.getElem_cons_zero, List.getElem_cons_succ, List.setIfInBounds_toArray, List.set_cons_zero, List.set_cons_succ]
    refine wpAnyH_ready (rs := [28]) (by kernel_rfl) (by simp) ?_
    refine AllReadyH.cons rfl (fun K hK => ?_) (AllReadyH.nil)
    go_simp
    refine (count_bktN (HA.out.chg hHeld)).mono ?_
    rintro e w16 ⟨rfl, rfl⟩
    refine hK.out _ _ (hHeld) (fun hHeld => ?_)
    try simp only [Act.put, List.getElem_toArray, List.getElem_cons_zero, List.getElem_cons_succ, List.setIfInBounds_toArray, List.set_cons_zero, List.set_cons_succ]
    clear hK K
    refine wpAnyH_take (i := 33) (v := ?_) rfl (by kernel_rfl) (by kernel_rfl) (by kernel_rfl) (fun _ _ _ h => h) (Or.inl ⟨by rfl, ?_⟩) (by assumption) ?_
    rotate_left
    · (intro w' hSw; go_simp; try with_reducible rfl)
    try simp only [Act.put, List.getElem_toArray, List.getElem_cons_zero, List.getElem_cons_succ, List.setIfInBounds_toArray, List.set_cons_zero, List.set_cons_succ]
    refine wpAnyH_take (i := 34) (v := ?_) rfl (by kernel_rfl) (by kernel_rfl) (by kernel_rfl) (fun _ _ _ h => h) (Or.inl ⟨by rfl, ?_⟩) (by assumption) ?_
    rotate_left
    · (intro w' hSw; go_simp; try with_reducible rfl)
    try simp only [Act.put, List.getElem_toArray, List.getElem_cons_zero, List.getElem_cons_succ, List.setIfInBounds_toArray, List.set_cons_zero, List.set_cons_succ]
    refine wpAnyH_take (i := 35) (v := ?_) rfl (by kernel_rfl) (by kernel_rfl) (by kernel_rfl) (fun _ _ _ h => h) (Or.inl ⟨by rfl, ?_⟩) (by assumption) ?_
    rotate_left
    · (intro w' hSw; go_simp; try with_reducible rfl)
    try simp only [Act.put, List.getElem_toArray, List.getElem_cons_zero, List.getElem_cons_succ, List.setIfInBounds_toArray, List.set_cons_zero, List.set_cons_succ]
    refine wpAnyH_take (i := 36) (v := ?_) rfl (by kernel_rfl) (by kernel_rfl) (by kernel_rfl) (fun _ _ _ h => h) (Or.inl ⟨by rfl, ?_⟩) (by assumption) ?_
    rotate_left
    · (intro w' hSw; go_simp; try with_reducible rfl)
    try simp only [Act.put, List.getElem_toArray, List.getElem_cons_zero, List.getElem_cons_succ, List.setIfInBounds_toArray, List.set_cons_zero, List.set_cons_succ]
    refine wpAnyH_take (i := 38) (v := ?_) rfl (by kernel_rfl) (by kernel_rfl) (by kernel_rfl) (fun _ _ _ h => h) (Or.inl ⟨by rfl, ?_⟩) (by assumption) ?_
    rotate_left
    · (intro w' hSw; go_simp; try with_reducible rfl)
    try simp only [Act.put, List.getElem_toArray, List.getElem_cons_zero, List.getElem_cons_succ, List.setIfInBounds_toArray, List.set_cons_zero, List.set_cons_succ]
    refine wpAnyH_take (i := 39) (v := ?_) rfl (by kernel_rfl) (by kernel_rfl) (by kernel_rfl) (fun _ _ _ h => h) (Or.inl ⟨by rfl, ?_⟩) (by assumption) ?_
    rotate_left
    · (intro w' hSw; go_simp; try with_reducible rfl)
    try simp only [Act.put, List.getElem_toArray, List.getElem_cons_zero, List.getElem_cons_succ, List.setIfInBounds_toArray, List.set_cons_zero, List.set_cons_succ]
    refine wpAnyH_take (i := 40) (v := ?_) rfl (by kernel_rfl) (by kernel_rfl) (by kernel_rfl) (fun _ _ _ h => h) (Or.inl ⟨by rfl, ?_⟩) (by assumption) ?_
    rotate_left
    · (intro w' hSw; go_simp; try with_reducible rfl)
    try simp only [Act.put, List.getElem_toArray, List.getElem_cons_zero, List.getElem_cons_succ, List.setIfInBounds_toArray, List.set_cons_zero, List.set_cons_succ]
    refine wpAnyH_take (i := 41) (v := ?_) rfl (by kernel_rfl) (by kernel_rfl) (by kernel_rfl) (fun _ _ _ h => h) (Or.inl ⟨by rfl, ?_⟩) (by assumption) ?_
    rotate_left
    · (intro w' hSw; have q := hSw.cell y1 (fun h => List.not_mem_nil h); go_simp; try with_reducible rfl)
    try simp only [Act.put, List.getElem_toArray, List.getElem_cons_zero, List.getElem_cons_succ, List.setIfInBounds_toArray, List.set_cons_zero, List.set_cons_succ]
    refine wpAnyH_ready (rs := [37]) (by kernel_rfl) (by simp) ?_
    refine AllReadyH.cons rfl (fun K hK => ?_) (AllReadyH.nil)
    go_simp
    refine (count_bktN (HB.out.chg hHeld)).mono ?_
    rintro e w17 ⟨rfl, rfl⟩
    refine hK.out _ _ (hHeld) (fun hHeld => ?_)
    try simp only [Act.put, List.getElem_toArray, List.getElem_cons_zero, List.getElem_cons_succ, List.setIfInBounds_toArray, List.set_cons_zero, List.set_cons_succ]
    clear hK K
    refine wpAnyH_take (i := 42) (v := ?_) rfl (by kernel_rfl) (by kernel_rfl) (by kernel_rfl) (fun _ _ _ h => h) (Or.inl ⟨by rfl, ?_⟩) (by assumption) ?_
    rotate_left
    · (intro w' hSw; go_simp; try with_reducible rfl)
    try simp only [Act.put, List.getElem_toArray, List.getElem_cons_zero, List.getElem_cons_succ, List.setIfInBounds_toArray, List.set_cons_zero, List.set_cons_succ]
    refine wpAnyH_take (i := 43) (v := ?_) rfl (by kernel_rfl) (by kernel_rfl) (by kernel_rfl) (fun _ _ _ h => h) (Or.inl ⟨by rfl, ?_⟩) (by assumption) ?_
    rotate_left
    · (intro w' hSw; go_simp; try with_reducible rfl)
    try simp only [Act.put, List.getElem_toArray, List.getElem_cons_zero, List.getElem_cons_succ, List.setIfInBounds_toArray, List.set_cons_zero, List.set_cons_succ]
    refine wpAnyH_take (i := 44) (v := ?_) rfl (by kernel_rfl) (by kernel_rfl) (by kernel_rfl) (fun _ _ _ h => h) (Or.inl ⟨by rfl, ?_⟩) (by assumption) ?_
    rotate_left
    · (intro w' hSw; go_simp; try with_reducible rfl)
    try simp only [Act.put, List.getElem_toArray, List.getElem_cons_zero, List.getElem_cons_succ, List.setIfInBounds_toArray, List.set_cons_zero, List.set_cons_succ]
    refine wpAnyH_done (by kernel_rfl) ?_ _
    try simp only [Act.put, List.getElem_toArray, List.getElem_cons_zero, List.getElem_cons_succ, List.setIfInBounds_toArray, List.set_cons_zero, List.set_cons_succ]
    go_wp2
    go_ret
    exact ⟨rfl, HCW.out.trans0 (HTC.out.trans0 H14.out)⟩

end Go.Proofs.Ytcdhmnefmbcmaaa.Vw
