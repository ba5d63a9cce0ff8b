/-
  Layer 08: View.
-/
import Derived.Test.YtgomofeidghmiaaVfT
namespace Go.Proofs.Ytgomofeidghmiaa
open Go.RowKit

set_option maxRecDepth 100000 in
set_option maxHeartbeats 3200000 in
theorem view1_any {w : World} {G : FsG} {S : St} {B : Nat} (h : FsM w G S) (hi : Inv B S) (hB : B ≤ 1073741824) {i : Nat} (hil : i < S.files.length) :
    Calls Try.prog 44 #[.pointer (some ⟨ibf G.ib i, 0, none⟩)] w (NewRow 5 1 w (bv (S.bytes i)) (S.bytes i).length) := by
  obtain ⟨g, L, _, hbx, hs, _⟩ := h.spo hil
  have c0 := hbx.cell 0
  simp at c0
  have HS := Lib.hid hs
  have HL := Lib.hid (show _ ≤ 1073741824 from Nat.le_trans (hi.fil i).1 hB)
  clear h hi hbx hs
  go_enter Try.func44, Try.ntmps44
  go_wp2_with fail
  refine (seen_any g L _ _ w HS.out HL.out (S.bytes i).length rfl).mono ?_
  rintro e w2 ⟨A, c, rfl, ho, hc2, hn⟩
  have HO := Lib.hid ho
  have HC2 := Lib.hid hc2
  have HN := Lib.hid hn
  clear ho hc2 hn
  go_wp2
  go_ret
  exact ⟨A, c, rfl, HO.out, HC2.out, HN.out⟩

theorem view_shows {S : St} (h : S.down = false) : S.view = shows S.bytes S.seen := by
  unfold St.view shows
  rw [if_neg (by simp [h])]

set_option maxRecDepth 100000 in
set_option maxHeartbeats 3200000 in
theorem view_st {w : World} {G : FsG} {S : St} {B : Nat} (h : FsM w G S) (hi : Inv B S) (hB : B ≤ 1073741824) :
    Calls Try.prog 17 #[.pointer (some ⟨G.b, 0, none⟩)] w (NewDsk w S.view) := by
  have HF := Lib.hid h
  have HI := Lib.hid hi
  have HB := Lib.hid hB
  clear h hi hB
  go_enter Try.func17, Try.ntmps17
  go_wp2_with fail
  refine (down_st HF.out).mono ?_
  rintro e w1 ⟨rfl, hc1⟩
  have HC1 := Lib.hid hc1
  cases hd : S.down with
  | true =>
    have HR : Hid (S.view = []) := Lib.hid (by unfold St.view; rw [if_pos hd])
    clear hc1 hd
    go_wp2
    go_ret
    rw [HR.out]
    exact ⟨none, 0, 0, [], rfl, ⟨Own.nil _ _ _, by simp, by simp [dblk]⟩, rfl, HC1.out, by simp [dblk]⟩
  | false =>
    have HR := Lib.hid (view_shows hd)
    have HF1 := Lib.hid (HF.out.keep0 hc1)
    have h0 := HF1.out.blk.cell 0
    simp at h0
    clear hc1 hd
    go_wp2_with fail
    refine (disk_view w1 G.t1 G.g1 G.ib S.seen S.files.length S.bytes HF1.out.tr1 HF1.out.is1 HI.out.val (Nat.le_trans HI.out.wd HB.out) (fun i hil wr hc => view1_any (HF1.out.keep0 hc) HI.out HB.out hil)).mono ?_
    rintro e w2 ⟨A, n, c, ds, rfl, hds, hv, hc2, hn⟩
    have HDS := Lib.hid hds
    have HV := Lib.hid hv
    have HC2 := Lib.hid hc2
    have HN := Lib.hid hn
    clear hds hv hc2 hn
    go_wp2
    go_ret
    exact ⟨A, n, c, ds, rfl, HDS.out, by rw [HV.out, HR.out], HC1.out.trans0 HC2.out, fun k hk => Nat.le_trans HC1.out.size (HN.out k hk)⟩
end Go.Proofs.Ytgomofeidghmiaa
