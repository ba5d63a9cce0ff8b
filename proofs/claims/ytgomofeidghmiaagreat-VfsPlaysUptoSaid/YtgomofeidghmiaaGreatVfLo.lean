/-
  Layer 08: the law's open.
-/
import Derived.Test.YtgomofeidghmiaaGreatVfRw
import Derived.Test.YtgomofeidghmiaaGreatVfJg
import Derived.Test.YtgomofeidghmiaaGreatVfSc
namespace Go.Proofs.YtgomofeidghmiaaGreat
open Go.RowKit

theorem NewFs.one {w w' : World} {D : Dsk} {q s : Int} {e : Ending} (h : NewFs w D q s e w') : ∃ vp, e = .returned (.tuple #[vp, .int .i64 (openE D q)]) ∧ Chg [] w w' ∧
    ((openE D q ≠ 0 ∧ vp = .pointer none) ∨ (openE D q = 0 ∧ ∃ G, vp = .pointer (some ⟨G.b, 0, none⟩) ∧ FsM w' G (openS D q s) ∧ ∀ x ∈ G.all, w.heap.size ≤ x)) := by
  rcases h with ⟨h1, rfl, h2⟩ | ⟨h1, G, rfl, h2, h3, h4⟩
  · exact ⟨_, rfl, h2, .inl ⟨h1, rfl⟩⟩
  · exact ⟨_, by rw [h1], h4, .inr ⟨h1, G, rfl, h2, h3⟩⟩
theorem NewRf.one {w w' : World} {D : Dsk} {q s : Int} {e : Ending} (h : NewRf w D q s e w') : ∃ vp, e = .returned (.tuple #[vp, .int .i64 (openE D q)]) ∧ Chg [] w w' ∧
    ((openE D q ≠ 0 ∧ vp = .pointer none) ∨ (openE D q = 0 ∧ ∃ R, vp = .pointer (some ⟨R.b, 0, none⟩) ∧ RfM w' R (openS D q s) ∧ ∀ x ∈ R.all, w.heap.size ≤ x)) := by
  rcases h with ⟨h1, rfl, h2⟩ | ⟨h1, R, rfl, h2, h3, h4⟩
  · exact ⟨_, rfl, h2, .inl ⟨h1, rfl⟩⟩
  · exact ⟨_, by rw [h1], h4, .inr ⟨h1, R, rfl, h2, h3⟩⟩

/-- the program's and the document's file system are told, in new memory; or none -/
def BothOpen (w : World) (D : Dsk) (quota stop : Int) (e : Ending) (w' : World) : Prop :=
  (openE D quota ≠ 0 ∧ e = .returned (.tuple #[.pointer none, .pointer none, .bool true]) ∧ Chg [] w w') ∨
  (openE D quota = 0 ∧ ∃ G R, e = .returned (.tuple #[.pointer (some ⟨G.b, 0, none⟩), .pointer (some ⟨R.b, 0, none⟩), .bool true]) ∧ FsM w' G (openS D quota stop) ∧ RfM w' R (openS D quota stop) ∧
    (∀ x ∈ G.all, w.heap.size ≤ x) ∧ (∀ x ∈ R.all, w.heap.size ≤ x) ∧ (∀ x ∈ G.all, x ∉ R.all) ∧ Chg [] w w')

set_option maxRecDepth 100000 in
set_option maxHeartbeats 3200000 in
theorem lawopen_any (w : World) (A : Option Addr) (n c : Nat) (ds : List DM) (quota stop : Int) (h : DirsR w A n c ds) (hn : n ≤ 1073741824) (hb : bulk8 (dval8 ds) ≤ 1073741824)
    (hfn : ∀ x ∈ ds, x.1.n ≤ 1073741824 ∧ ∀ f ∈ x.2, f.1.n ≤ 1073741824) :
    Calls Tryz.prog 7 #[.agg #[.slice A n c, .int .i64 quota, .int .i64 stop]] w (BothOpen w (dval8 ds) quota stop) := by
  have HD := Lib.hid h
  have HB := Lib.hid hb
  have HFN := Lib.hid hfn
  clear h hb hfn
  obtain ⟨E, hE⟩ : ∃ E, openE (dval8 ds) quota = E := ⟨_, rfl⟩
  have HE := Lib.hid hE
  clear hE
  go_enter Tryz.func7, Tryz.ntmps7
  obtain ⟨sb, hsb⟩ : ∃ sb, w.heap.size = sb := ⟨_, rfl⟩
  obtain ⟨W, hW⟩ : ∃ W, w.alloc (.cells #[.slice A n c, .int .i64 quota, .int .i64 stop] 24) = W := ⟨_, rfl⟩
  have hbk : Blk W sb 24 #[.slice A n c, .int .i64 quota, .int .i64 stop] := by rw [← hW, ← hsb]; exact Blk.new w _ _
  have hcW : Chg [] w W := by rw [← hW]; exact (Chg.refl [] w).alloc _
  have b0 := hbk.cell 0
  have b1 := hbk.cell 1
  have b2 := hbk.cell 2
  simp only [List.getElem?_toArray, List.getElem?_cons_succ, List.getElem?_cons_zero] at b0 b1 b2
  have HBK := Lib.hid hbk
  have HCW := Lib.hid hcW
  clear hbk hcW
  go_wp2_with fail
  refine wp_region_held_drew (S := fun w' => Chg [] W w') (by kernel_rfl) ((Chg.refl _ _).drew) (fun hHeld => ?_)
  refine wpAnyH_take (i := 0) (v := ?_) rfl (by kernel_rfl) (by kernel_rfl) (by kernel_rfl) (fun _ _ _ h => h) (Or.inl ⟨by rfl, ?_⟩) (by assumption) ?_
  rotate_left
  · (intro w' hSw; go_simp; try with_reducible rfl)
  try simp only [Act.put, put8]
  refine wpAnyH_take (i := 1) (v := ?_) rfl (by kernel_rfl) (by kernel_rfl) (by kernel_rfl) (fun _ _ _ h => h) (Or.inl ⟨by rfl, ?_⟩) (by assumption) ?_
  rotate_left
  · (intro w' hSw; have y := hSw.cell b0 List.not_mem_nil; go_simp; try with_reducible rfl)
  try simp only [Act.put, put8]
  refine wpAnyH_take (i := 3) (v := ?_) rfl (by kernel_rfl) (by kernel_rfl) (by kernel_rfl) (fun _ _ _ h => h) (Or.inl ⟨by rfl, ?_⟩) (by assumption) ?_
  rotate_left
  · (intro w' hSw; go_simp; try with_reducible rfl)
  try simp only [Act.put, put8]
  refine wpAnyH_take (i := 4) (v := ?_) rfl (by kernel_rfl) (by kernel_rfl) (by kernel_rfl) (fun _ _ _ h => h) (Or.inl ⟨by rfl, ?_⟩) (by assumption) ?_
  rotate_left
  · (intro w' hSw; have y := hSw.cell b1 List.not_mem_nil; go_simp; try with_reducible rfl)
  try simp only [Act.put, put8]
  refine wpAnyH_take (i := 5) (v := ?_) rfl (by kernel_rfl) (by kernel_rfl) (by kernel_rfl) (fun _ _ _ h => h) (Or.inl ⟨by rfl, ?_⟩) (by assumption) ?_
  rotate_left
  · (intro w' hSw; go_simp; try with_reducible rfl)
  try simp only [Act.put, put8]
  refine wpAnyH_take (i := 6) (v := ?_) rfl (by kernel_rfl) (by kernel_rfl) (by kernel_rfl) (fun _ _ _ h => h) (Or.inl ⟨by rfl, ?_⟩) (by assumption) ?_
  rotate_left
  · (intro w' hSw; have y := hSw.cell b2 List.not_mem_nil; go_simp; try with_reducible rfl)
  try simp only [Act.put, put8]
  refine wpAnyH_ready (rs := [2]) (by kernel_rfl) (by simp) ?_
  refine AllReadyH.cons rfl (fun K hK => ?_) (AllReadyH.nil)
  go_simp
  refine (rcopy8_any A n c ds _ (HD.out.chg0 (HCW.out.drew)) hn HFN.out).mono ?_
  rintro ee w3 ⟨A2, n2, c2, ds2, rfl, hdo, hdv, hc3, hn3⟩
  have HDO := Lib.hid hdo
  have HDV := Lib.hid hdv
  have HC3 : Hid (Chg [] W w3) := Lib.hid (((Chg.refl [] W).drew).trans0 hc3)
  have hn2 : n2 ≤ 1073741824 := by have h1 := hdo.rd.row.nsl; have h2 := HD.out.row.nsl; have h3 := congrArg List.length hdv; simp [dnsl, dval8] at h1 h2 h3; omega
  have hHc := hHeld.trans0 hc3
  clear hdo hdv hc3 hn3
  refine hK.out _ _ (hHc) (fun hHeld => ?_)
  try simp only [Act.put, put8]
  clear hK K
  refine wpAnyH_ready (rs := [7]) (by kernel_rfl) (by simp) ?_
  refine AllReadyH.cons rfl (fun K hK => ?_) (AllReadyH.nil)
  go_simp
  refine (open_st w3 A2 n2 c2 ds2 quota stop HDO.out.rd hn2 (by rw [HDV.out]; exact HB.out)).mono ?_
  rintro ee w4 hopen
  rw [HDV.out] at hopen
  obtain ⟨vp, rfl, hc4, hvp⟩ := hopen.one
  have HC4 : Hid (Chg [] W w4) := Lib.hid (HC3.out.trans0 hc4)
  have hHd := hHc.trans0 hc4
  rw [HE.out] at hvp ⊢
  have HVP := Lib.hid hvp
  have HN4 : Hid (W.heap.size ≤ w3.heap.size) := Lib.hid HC3.out.size
  clear hopen hvp hc4
  refine hK.out _ _ (hHd) (fun hHeld => ?_)
  try simp only [Act.put, put8]
  clear hK K
  refine wpAnyH_take (i := 8) (v := ?_) rfl (by kernel_rfl) (by kernel_rfl) (by kernel_rfl) (fun _ _ _ h => h) (Or.inl ⟨by rfl, ?_⟩) (by assumption) ?_
  rotate_left
  · (intro w' hSw; go_simp; try with_reducible rfl)
  try simp only [Act.put, put8]
  refine wpAnyH_take (i := 9) (v := ?_) rfl (by kernel_rfl) (by kernel_rfl) (by kernel_rfl) (fun _ _ _ h => h) (Or.inl ⟨by rfl, ?_⟩) (by assumption) ?_
  rotate_left
  · (intro w' hSw; go_simp; try with_reducible rfl)
  try simp only [Act.put, put8]
  refine wpAnyH_take (i := 10) (v := ?_) rfl (by kernel_rfl) (by kernel_rfl) (by kernel_rfl) (fun _ _ _ h => h) (Or.inl ⟨by rfl, ?_⟩) (by assumption) ?_
  rotate_left
  · (intro w' hSw; go_simp; try with_reducible rfl)
  try simp only [Act.put, put8]
  refine wpAnyH_take (i := 11) (v := ?_) rfl (by kernel_rfl) (by kernel_rfl) (by kernel_rfl) (fun _ _ _ h => h) (Or.inl ⟨by rfl, ?_⟩) (by assumption) ?_
  rotate_left
  · (intro w' hSw; go_simp; try with_reducible rfl)
  try simp only [Act.put, put8]
  refine wpAnyH_take (i := 12) (v := ?_) rfl (by kernel_rfl) (by kernel_rfl) (by kernel_rfl) (fun _ _ _ h => h) (Or.inl ⟨by rfl, ?_⟩) (by assumption) ?_
  rotate_left
  · (intro w' hSw; go_simp; try with_reducible rfl)
  try simp only [Act.put, put8]
  refine wpAnyH_done (by kernel_rfl) ?_ _
  try simp only [Act.put, put8]
  have b40 := (HBK.out.chg HC4.out List.not_mem_nil).cell 0
  have b41 := (HBK.out.chg HC4.out List.not_mem_nil).cell 1
  have b42 := (HBK.out.chg HC4.out List.not_mem_nil).cell 2
  simp only [List.getElem?_toArray, List.getElem?_cons_succ, List.getElem?_cons_zero] at b40 b41 b42
  clear hHeld hHd hHc b0 b1 b2
  go_wp2_with fail
  refine (ropen_any w4 A n c ds quota stop (HD.out.chg0 (HCW.out.trans0 HC4.out)) hn HB.out).mono ?_
  rintro e w5 hro
  obtain ⟨rp, rfl, hc5, hrp⟩ := hro.one
  rw [HE.out] at hrp ⊢
  have HRP := Lib.hid hrp
  have HC5 := Lib.hid hc5
  clear hro hrp hc5 b40 b41 b42
  rcases HVP.out with ⟨hne, rfl⟩ | ⟨he, G, rfl, hfs, hnew⟩
  · rcases HRP.out with ⟨_, rfl⟩ | ⟨h, _⟩
    · have HNE := Lib.hid hne
      clear hne
      go_wp2
      go_ret3
      exact .inl ⟨by rw [HE.out]; exact HNE.out, rfl, (HCW.out.trans0 HC4.out).trans0 HC5.out⟩
    · exact absurd h hne
  · rcases HRP.out with ⟨h, _⟩ | ⟨_, R, rfl, hrf, hnew2⟩
    · exact absurd he h
    · have HEE := Lib.hid he
      have HFS := Lib.hid hfs
      have HRF := Lib.hid hrf
      have HN1 := Lib.hid hnew
      have HN2 := Lib.hid hnew2
      clear he hfs hrf hnew hnew2
      go_wp2
      go_ret3
      refine .inr ⟨by rw [HE.out]; exact HEE.out, G, R, rfl, HFS.out.keep0 HC5.out, HRF.out, fun x hx => ?_, fun x hx => ?_, fun x hx hm => ?_, (HCW.out.trans0 HC4.out).trans0 HC5.out⟩
      · have h1 := HN1.out x hx; have h2 := HN4.out; have h3 := HCW.out.size; omega
      · have h1 := HN2.out x hx; have h2 := HC4.out.size; have h3 := HCW.out.size; omega
      · have h1 := HN2.out x hm; have h2 := HFS.out.lt x hx; omega
end Go.Proofs.YtgomofeidghmiaaGreat
