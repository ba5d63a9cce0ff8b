/-
  Layer 08: the document's Mkdir, Rename, Remove, Rmdir, SyncNames.
-/
import Derived.Test.YtgomofeidghmiaaGreatVfZd
namespace Go.Proofs.YtgomofeidghmiaaGreat
open Go.RowKit

theorem RfM.done_ok {w : World} {R : RfG} {S : St} {B : Nat} (h : RfM w R S) (hi : Inv B S) (hB : B + 1 ≤ 536870912) {cn : Chn} {v : Value}
    (hd : ∀ (A : Option Addr) (n c : Nat) (rs : List RF) (w' : World), RTree w' A n c rs → n ≤ 536870912 → rval rs = S.seen → Calls Tryz.prog 61 #[.slice A n c, v] w' (TrIn (rblk rs) w' (Chn.on (rval rs) cn))) :
    ∀ w', Chg [] w w' → Calls Tryz.prog 61 #[.slice R.sA S.seen.length R.sc, v] w' (TrIn (rblk R.rs) w' (cn.on S.seen)) := fun w' hc => by
  have := hd R.sA S.seen.length R.sc R.rs w' (h.seen.chg0 hc) (by have := hi.seenl; omega) h.seenv
  rw [h.seenv] at this
  exact this
theorem Inv.room {B : Nat} {S : St} (h : Inv B S) (hB : B + 1 ≤ 536870912) : S.chs.length + 1 ≤ 1073741824 ∧ S.steps + 1 ≤ 1073741824 := by have h1 := h.wds; have h2 := h.st; exact ⟨by omega, by omega⟩
theorem ask_false_80 {S : St} {ns : List ByteArray} (h : S.down = true) : S.ask false ns = 80 := ask_down h _ _
theorem ask_false_81 {S : St} {ns : List ByteArray} (h : S.down = false) (hg : ns.all goodP = false) : S.ask false ns = 81 := by unfold St.ask; rw [if_neg (by simp [h]), if_pos hg]
theorem ask_false_0 {S : St} {ns : List ByteArray} (h : S.down = false) (hg : ns.all goodP = true) : S.ask false ns = 0 := by unfold St.ask; rw [if_neg (by simp [h]), if_neg (by simp [hg]), if_neg (by simp)]
theorem fol_len {B : Nat} {S : St} (h : Inv B S) (d : ByteArray) {F : Fol} (hF : aget S.seen d = some F) : F.length ≤ B := by have h1 := wd_sub (aget_mem hF); have h2 := h.wd; simp only at h1; omega

set_option maxRecDepth 100000 in
set_option maxHeartbeats 6400000 in
theorem rmkdir_any {w : World} {R : RfG} {S : St} {B : Nat} (h : RfM w R S) (hi : Inv B S) (hB : B + 1 ≤ 536870912) (d : ByteArray) :
    Calls Tryz.prog 39 #[.pointer (some ⟨R.b, 0, none⟩), .string d] w fun e w' => e = .returned (.int .i64 (S.mkdir d).2) ∧ RfTo w R (S.mkdir d).1 w' := by
  have HR := Lib.hid h
  have HI := Lib.hid hi
  have HB := Lib.hid hB
  have HSL : Hid (S.seen.length ≤ 1073741824) := Lib.hid (by have := hi.seenl; omega)
  clear h hi hB
  go_enter Tryz.func39, Tryz.ntmps39
  rcases ask_cases S d [] with ⟨hd, ha⟩ | ⟨hd, hg, ha⟩ | ⟨hd, hg, hn, ha⟩ | ⟨hd, hg, ⟨F, hF⟩, ha⟩
  · have HRES : Hid (S.mkdir d = (S, 80)) := Lib.hid (by unfold St.mkdir; rw [ask_false_80 hd]; rfl)
    have HA := Lib.hid ha
    clear hd ha
    go_wp2_with fail
    refine (rfolder_any HR.out HI.out HB.out d).mono ?_
    rintro e w1 ⟨rfl, hc⟩
    rw [HA.out]
    have HC1 := Lib.hid hc
    have HR1 := Lib.hid (HR.out.keep0 hc)
    obtain ⟨fi, hfi⟩ : ∃ fi, foldI S d = fi := ⟨_, rfl⟩
    rw [hfi]
    clear hc hfi
    go_wp2
    go_ret
    exact ⟨by rw [HRES.out]; rfl, by rw [HRES.out]; exact RfTo.same HR.out HC1.out⟩
  · have HRES : Hid (S.mkdir d = (S, 81)) := Lib.hid (by unfold St.mkdir; rw [ask_false_81 hd hg]; rfl)
    have HA := Lib.hid ha
    clear hd ha hg
    go_wp2_with fail
    refine (rfolder_any HR.out HI.out HB.out d).mono ?_
    rintro e w1 ⟨rfl, hc⟩
    rw [HA.out]
    have HC1 := Lib.hid hc
    have HR1 := Lib.hid (HR.out.keep0 hc)
    obtain ⟨fi, hfi⟩ : ∃ fi, foldI S d = fi := ⟨_, rfl⟩
    rw [hfi]
    clear hc hfi
    go_wp2
    go_ret
    exact ⟨by rw [HRES.out]; rfl, by rw [HRES.out]; exact RfTo.same HR.out HC1.out⟩
  · have HRES : Hid (S.mkdir d = (S.make (.mkdir d), 0)) := Lib.hid (by unfold St.mkdir; rw [ask_false_0 hd hg, if_neg (by simp), if_neg (by simp [hn])])
    have HA := Lib.hid ha
    clear hd ha hg hn
    go_wp2_with fail
    refine (rfolder_any HR.out HI.out HB.out d).mono ?_
    rintro e w1 ⟨rfl, hc⟩
    rw [HA.out]
    have HC1 := Lib.hid hc
    have HR1 := Lib.hid (HR.out.keep0 hc)
    obtain ⟨fi, hfi⟩ : ∃ fi, foldI S d = fi := ⟨_, rfl⟩
    rw [hfi]
    clear hc hfi
    go_wp2_with fail
    refine (rmake_any HR1.out (HI.out.room HB.out).1 (HI.out.room HB.out).2 (.mkdir d) 1 d noS noS 0 rfl (HR1.out.done_ok HI.out HB.out (fun A n c rs w' hT hn hv => rdone_mkdir A n c rs d w' hT hn))).mono ?_
    rintro e w2 ⟨rfl, hto⟩
    have HTO := Lib.hid hto
    clear hto
    go_wp2
    go_ret
    exact ⟨by rw [HRES.out]; rfl, by rw [HRES.out]; exact HTO.out.before HC1.out⟩
  · have HRES : Hid (S.mkdir d = (S, 83)) := Lib.hid (by unfold St.mkdir; rw [ask_false_0 hd hg, if_neg (by simp), if_pos (by simp [hF])])
    have HA := Lib.hid ha
    clear hd ha hg hF
    go_wp2_with fail
    refine (rfolder_any HR.out HI.out HB.out d).mono ?_
    rintro e w1 ⟨rfl, hc⟩
    rw [HA.out]
    have HC1 := Lib.hid hc
    have HR1 := Lib.hid (HR.out.keep0 hc)
    obtain ⟨fi, hfi⟩ : ∃ fi, foldI S d = fi := ⟨_, rfl⟩
    rw [hfi]
    clear hc hfi
    go_wp2
    go_ret
    exact ⟨by rw [HRES.out]; rfl, by rw [HRES.out]; exact RfTo.same HR.out HC1.out⟩

set_option maxRecDepth 100000 in
set_option maxHeartbeats 6400000 in
theorem rrmdir_any {w : World} {R : RfG} {S : St} {B : Nat} (h : RfM w R S) (hi : Inv B S) (hB : B + 1 ≤ 536870912) (d : ByteArray) :
    Calls Tryz.prog 46 #[.pointer (some ⟨R.b, 0, none⟩), .string d] w fun e w' => e = .returned (.int .i64 (S.rmdir d).2) ∧ RfTo w R (S.rmdir d).1 w' := by
  have HR := Lib.hid h
  have HI := Lib.hid hi
  have HB := Lib.hid hB
  have HSL : Hid (S.seen.length ≤ 1073741824) := Lib.hid (by have := hi.seenl; omega)
  clear h hi hB
  go_enter Tryz.func46, Tryz.ntmps46
  rcases ask_cases S d [] with ⟨hd, ha⟩ | ⟨hd, hg, ha⟩ | ⟨hd, hg, hn, ha⟩ | ⟨hd, hg, ⟨F, hF⟩, ha⟩
  · have HRES : Hid (S.rmdir d = (S, 80)) := Lib.hid (by unfold St.rmdir; rw [ha]; rfl)
    have HA := Lib.hid ha
    clear hd ha
    go_wp2_with fail
    refine (rfolder_any HR.out HI.out HB.out d).mono ?_
    rintro e w1 ⟨rfl, hc⟩
    rw [HA.out]
    have HC1 := Lib.hid hc
    have HR1 := Lib.hid (HR.out.keep0 hc)
    obtain ⟨fi, hfi⟩ : ∃ fi, foldI S d = fi := ⟨_, rfl⟩
    rw [hfi]
    clear hc hfi
    go_wp2
    go_ret
    exact ⟨by rw [HRES.out]; rfl, by rw [HRES.out]; exact RfTo.same HR.out HC1.out⟩
  · have HRES : Hid (S.rmdir d = (S, 81)) := Lib.hid (by unfold St.rmdir; rw [ha]; rfl)
    have HA := Lib.hid ha
    clear hd ha hg
    go_wp2_with fail
    refine (rfolder_any HR.out HI.out HB.out d).mono ?_
    rintro e w1 ⟨rfl, hc⟩
    rw [HA.out]
    have HC1 := Lib.hid hc
    have HR1 := Lib.hid (HR.out.keep0 hc)
    obtain ⟨fi, hfi⟩ : ∃ fi, foldI S d = fi := ⟨_, rfl⟩
    rw [hfi]
    clear hc hfi
    go_wp2
    go_ret
    exact ⟨by rw [HRES.out]; rfl, by rw [HRES.out]; exact RfTo.same HR.out HC1.out⟩
  · have HRES : Hid (S.rmdir d = (S, 82)) := Lib.hid (by unfold St.rmdir; rw [ha]; rfl)
    have HA := Lib.hid ha
    clear hd ha hg hn
    go_wp2_with fail
    refine (rfolder_any HR.out HI.out HB.out d).mono ?_
    rintro e w1 ⟨rfl, hc⟩
    rw [HA.out]
    have HC1 := Lib.hid hc
    have HR1 := Lib.hid (HR.out.keep0 hc)
    obtain ⟨fi, hfi⟩ : ∃ fi, foldI S d = fi := ⟨_, rfl⟩
    rw [hfi]
    clear hc hfi
    go_wp2
    go_ret
    exact ⟨by rw [HRES.out]; rfl, by rw [HRES.out]; exact RfTo.same HR.out HC1.out⟩
  · have hrm : S.rmdir d = if F.length > 0 then (S, 85 - 1) else (S.make (.rmdir d), 0) := by
      have : folOf S.seen d = F := by unfold folOf; rw [hF]; rfl
      unfold St.rmdir; rw [ha, if_neg (by simp), this]
    have HFI : Hid (foldI S d = atI d 0 S.seen) := Lib.hid (by unfold foldI; rw [if_pos ha])
    obtain ⟨i, hi1, hi2⟩ := atI_some hF 0
    rw [Nat.zero_add] at hi1
    have HAT := Lib.hid hi1
    have HI2 := Lib.hid hi2
    have hil : i < S.seen.length := (List.getElem?_eq_some_iff.1 hi2).1
    have HFL : Hid (F.length ≤ 1073741824) := Lib.hid (by have := wd_sub (List.mem_of_getElem? hi2); have := HI.out.wd; have := HB.out; simp only at *; omega)
    obtain ⟨TN, hTN⟩ : ∃ TN, S.seen.length = TN := ⟨_, rfl⟩
    have HTN := Lib.hid hTN
    rw [hTN] at hil
    clear hi1 hi2 hF hTN
    have HA := Lib.hid ha
    clear hd ha hg
    go_wp2_with fail
    refine (rfolder_any HR.out HI.out HB.out d).mono ?_
    rintro e w1 ⟨rfl, hc⟩
    rw [HA.out]
    have HC1 := Lib.hid hc
    have HR1 := Lib.hid (HR.out.keep0 hc)
    rw [HFI.out, HAT.out]
    clear hc
    obtain ⟨ad, fA, fn, fc, hsA, hat, hfr⟩ := HR1.out.fold_at HI2.out
    have r0 := HR1.out.blk.cell 0
    simp only [List.getElem?_toArray, List.getElem?_cons_zero, hsA, HTN.out] at r0
    have x1 := hat.c1
    have hil' : (i : Int) < TN := by omega
    have hi0 : (0 : Int) ≤ (i : Int) := by omega
    have hfl : F.length = fn := hfr.nml
    rw [hfl] at hrm
    have HRM := Lib.hid hrm
    clear hsA hat hfr hfl hrm
    by_cases h0 : 0 < fn
    · have HRES : Hid (S.rmdir d = (S, 84)) := Lib.hid (by rw [HRM.out, if_pos h0]; rfl)
      have h0' : (0 : Int) < fn := by omega
      go_wp2
      go_ret
      exact ⟨by rw [HRES.out]; rfl, by rw [HRES.out]; exact RfTo.same HR.out HC1.out⟩
    · have HRES : Hid (S.rmdir d = (S.make (.rmdir d), 0)) := Lib.hid (by rw [HRM.out, if_neg h0])
      obtain rfl : fn = 0 := by omega
      go_wp2_with fail
      refine (rmake_any HR1.out (HI.out.room HB.out).1 (HI.out.room HB.out).2 (.rmdir d) 5 d noS noS 0 rfl (HR1.out.done_ok HI.out HB.out (fun A n c rs w' hT hn hv => rdone_rmdir A n c rs d w' hT hn))).mono ?_
      rintro e w2 ⟨rfl, hto⟩
      have HTO := Lib.hid hto
      clear hto
      go_wp2
      go_ret
      exact ⟨by rw [HRES.out]; rfl, by rw [HRES.out]; exact HTO.out.before HC1.out⟩

set_option maxRecDepth 100000 in
set_option maxHeartbeats 6400000 in
theorem rrename_any {w : World} {R : RfG} {S : St} {B : Nat} (h : RfM w R S) (hi : Inv B S) (hB : B + 1 ≤ 536870912) (d n : ByteArray) :
    Calls Tryz.prog 44 #[.pointer (some ⟨R.b, 0, none⟩), .string d, .string n] w fun e w' => e = .returned (.int .i64 (S.rename d n).2) ∧ RfTo w R (S.rename d n).1 w' := by
  have HR := Lib.hid h
  have HI := Lib.hid hi
  have HB := Lib.hid hB
  have HSL : Hid (S.seen.length ≤ 1073741824) := Lib.hid (by have := hi.seenl; omega)
  clear h hi hB
  go_enter Tryz.func44, Tryz.ntmps44
  rcases ask_cases S d [n] with ⟨hd, ha⟩ | ⟨hd, hg, ha⟩ | ⟨hd, hg, hn, ha⟩ | ⟨hd, hg, ⟨F, hF⟩, ha⟩
  · have HDN := Lib.hid hd
    have HRES : Hid (S.rename d n = (S, 80)) := Lib.hid (by unfold St.rename; rw [ha]; rfl)
    clear hd ha
    go_wp2_with fail
    refine (HR.out.down).mono ?_
    rintro e w1 ⟨rfl, hc⟩
    rw [HDN.out]
    have HC1 := Lib.hid hc
    have HR1 := Lib.hid (HR.out.keep0 hc)
    clear hc
    go_wp2
    go_ret
    exact ⟨by rw [HRES.out]; rfl, by rw [HRES.out]; exact RfTo.same HR.out HC1.out⟩
  · have HDN := Lib.hid hd
    have HRES : Hid (S.rename d n = (S, 81)) := Lib.hid (by unfold St.rename; rw [ha]; rfl)
    clear hd ha
    cases hg1 : goodP d with
    | false =>
      have HG1 := Lib.hid hg1
      clear hg hg1
      go_wp2_with fail
      refine (HR.out.down).mono ?_
      rintro e w1 ⟨rfl, hc⟩
      rw [HDN.out]
      have HC1 := Lib.hid hc
      have HR1 := Lib.hid (HR.out.keep0 hc)
      clear hc
      go_wp2_with fail
      refine (rgood_any d _).mono ?_
      rintro e w2 ⟨rfl, hc⟩
      rw [HG1.out]
      have HC2 := Lib.hid hc
      have HR2 := Lib.hid (HR1.out.keep0 hc)
      clear hc
      go_wp2
      go_ret
      exact ⟨by rw [HRES.out]; rfl, by rw [HRES.out]; exact RfTo.same HR.out (HC1.out.trans0 HC2.out)⟩
    | true =>
      have HG1 := Lib.hid hg1
      have HG2 : Hid (goodP n = false) := Lib.hid (by simpa [hg1] using hg)
      clear hg hg1
      go_wp2_with fail
      refine (HR.out.down).mono ?_
      rintro e w1 ⟨rfl, hc⟩
      rw [HDN.out]
      have HC1 := Lib.hid hc
      have HR1 := Lib.hid (HR.out.keep0 hc)
      clear hc
      go_wp2_with fail
      refine (rgood_any d _).mono ?_
      rintro e w2 ⟨rfl, hc⟩
      rw [HG1.out]
      have HC2 := Lib.hid hc
      have HR2 := Lib.hid (HR1.out.keep0 hc)
      clear hc
      go_wp2_with fail
      refine (rgood_any n _).mono ?_
      rintro e w3 ⟨rfl, hc⟩
      rw [HG2.out]
      have HC3 := Lib.hid hc
      have HR3 := Lib.hid (HR2.out.keep0 hc)
      clear hc
      go_wp2
      go_ret
      exact ⟨by rw [HRES.out]; rfl, by rw [HRES.out]; exact RfTo.same HR.out ((HC1.out.trans0 HC2.out).trans0 HC3.out)⟩
  · have HDN := Lib.hid hd
    have HRES : Hid (S.rename d n = (S, 82)) := Lib.hid (by unfold St.rename; rw [ha]; rfl)
    have HAT : Hid (atI d 0 S.seen = -1) := Lib.hid (atI_none hn 0)
    have HG1 : Hid (goodP d = true) := Lib.hid (by simp at hg; exact hg.1)
    have HG2 : Hid (goodP n = true) := Lib.hid (by simp at hg; exact hg.2)
    clear hd ha hg hn
    go_wp2_with fail
    refine (HR.out.down).mono ?_
    rintro e w1 ⟨rfl, hc⟩
    rw [HDN.out]
    have HC1 := Lib.hid hc
    have HR1 := Lib.hid (HR.out.keep0 hc)
    clear hc
    go_wp2_with fail
    refine (rgood_any d _).mono ?_
    rintro e w2 ⟨rfl, hc⟩
    rw [HG1.out]
    have HC2 := Lib.hid hc
    have HR2 := Lib.hid (HR1.out.keep0 hc)
    clear hc
    go_wp2_with fail
    refine (rgood_any n _).mono ?_
    rintro e w3 ⟨rfl, hc⟩
    rw [HG2.out]
    have HC3 := Lib.hid hc
    have HR3 := Lib.hid (HR2.out.keep0 hc)
    clear hc
    have r0 := HR3.out.blk.cell 0
    simp only [List.getElem?_toArray, List.getElem?_cons_zero] at r0
    go_wp2_with fail
    refine (rat_any _ _ _ _ d _ HR3.out.seen HSL.out).mono ?_
    rintro e w4 ⟨rfl, rfl⟩
    rw [HR3.out.seenv, HAT.out]
    clear r0
    go_wp2
    go_ret
    exact ⟨by rw [HRES.out]; rfl, by rw [HRES.out]; exact RfTo.same HR.out ((HC1.out.trans0 HC2.out).trans0 HC3.out)⟩
  · have HDN := Lib.hid hd
    have HRES : Hid (S.rename d n = (S.make (.rename d n), 0)) := Lib.hid (by unfold St.rename; rw [ha]; rfl)
    have HFF := Lib.hid hF
    have HG1 : Hid (goodP d = true) := Lib.hid (by simp at hg; exact hg.1)
    have HG2 : Hid (goodP n = true) := Lib.hid (by simp at hg; exact hg.2)
    obtain ⟨i, hi1, hi2⟩ := atI_some hF 0
    rw [Nat.zero_add] at hi1
    have HAT := Lib.hid hi1
    have HI2 := Lib.hid hi2
    have hil : i < S.seen.length := (List.getElem?_eq_some_iff.1 hi2).1
    have HFL : Hid (F.length ≤ 1073741824) := Lib.hid (by have := wd_sub (List.mem_of_getElem? hi2); have := HI.out.wd; have := HB.out; simp only at *; omega)
    obtain ⟨TN, hTN⟩ : ∃ TN, S.seen.length = TN := ⟨_, rfl⟩
    have HTN := Lib.hid hTN
    rw [hTN] at hil
    clear hi1 hi2 hF hTN
    clear hd ha hg
    go_wp2_with fail
    refine (HR.out.down).mono ?_
    rintro e w1 ⟨rfl, hc⟩
    rw [HDN.out]
    have HC1 := Lib.hid hc
    have HR1 := Lib.hid (HR.out.keep0 hc)
    clear hc
    go_wp2_with fail
    refine (rgood_any d _).mono ?_
    rintro e w2 ⟨rfl, hc⟩
    rw [HG1.out]
    have HC2 := Lib.hid hc
    have HR2 := Lib.hid (HR1.out.keep0 hc)
    clear hc
    go_wp2_with fail
    refine (rgood_any n _).mono ?_
    rintro e w3 ⟨rfl, hc⟩
    rw [HG2.out]
    have HC3 := Lib.hid hc
    have HR3 := Lib.hid (HR2.out.keep0 hc)
    clear hc
    have r0 := HR3.out.blk.cell 0
    simp only [List.getElem?_toArray, List.getElem?_cons_zero] at r0
    go_wp2_with fail
    refine (rat_any _ _ _ _ d _ HR3.out.seen HSL.out).mono ?_
    rintro e w4 ⟨rfl, rfl⟩
    rw [HR3.out.seenv, HAT.out]
    clear r0
    go_wp2_with fail
    refine (rmake_any HR3.out (HI.out.room HB.out).1 (HI.out.room HB.out).2 (.rename d n) 3 d noS n 0 rfl (HR3.out.done_ok HI.out HB.out (fun A n0 c rs w' hT hn hv => rdone_rename A n0 c rs d n F w' hT hn (by rw [hv]; exact HFF.out)))).mono ?_
    rintro e w5 ⟨rfl, hto⟩
    have HTO := Lib.hid hto
    clear hto
    go_wp2
    go_ret
    exact ⟨by rw [HRES.out]; rfl, by rw [HRES.out]; exact HTO.out.before ((HC1.out.trans0 HC2.out).trans0 HC3.out)⟩

set_option maxRecDepth 100000 in
set_option maxHeartbeats 6400000 in
theorem rremove_any {w : World} {R : RfG} {S : St} {B : Nat} (h : RfM w R S) (hi : Inv B S) (hB : B + 1 ≤ 536870912) (d n : ByteArray) :
    Calls Tryz.prog 45 #[.pointer (some ⟨R.b, 0, none⟩), .string d, .string n] w fun e w' => e = .returned (.int .i64 (S.remove d n).2) ∧ RfTo w R (S.remove d n).1 w' := by
  have HR := Lib.hid h
  have HI := Lib.hid hi
  have HB := Lib.hid hB
  have HSL : Hid (S.seen.length ≤ 1073741824) := Lib.hid (by have := hi.seenl; omega)
  clear h hi hB
  go_enter Tryz.func45, Tryz.ntmps45
  obtain ⟨o, E, hE⟩ : ∃ o E, S.fnd d n = (o, E) := ⟨_, _, rfl⟩
  have HF := Lib.hid hE
  cases o with
  | none =>
    have hE0 : (E != 0) = true := by simpa using fnd_no hE
    have HRES : Hid (S.remove d n = (S, E)) := Lib.hid (by unfold St.remove; rw [hE])
    clear hE
    go_wp2_with fail
    refine (rfound_any HR.out HI.out HB.out d n).mono ?_
    rintro e w1 ⟨rfl, hc⟩
    rw [HF.out]
    have HC1 := Lib.hid hc
    have HR1 := Lib.hid (HR.out.keep0 hc)
    clear hc
    simp only [fndI]
    go_wp2
    go_ret
    exact ⟨by rw [HRES.out]; rfl, by rw [HRES.out]; exact RfTo.same HR.out HC1.out⟩
  | some x =>
    obtain ⟨hE0, _, F, hFF, _⟩ := fnd_good hE
    subst hE0
    have HFF := Lib.hid hFF
    have HRES : Hid (S.remove d n = (S.make (.remove d n), 0)) := Lib.hid (by unfold St.remove; rw [hE])
    have HFL := Lib.hid (fol_len HI.out d hFF)
    clear hE hFF
    go_wp2_with fail
    refine (rfound_any HR.out HI.out HB.out d n).mono ?_
    rintro e w1 ⟨rfl, hc⟩
    rw [HF.out]
    have HC1 := Lib.hid hc
    have HR1 := Lib.hid (HR.out.keep0 hc)
    clear hc
    simp only [fndI]
    go_wp2_with fail
    refine (rmake_any HR1.out (HI.out.room HB.out).1 (HI.out.room HB.out).2 (.remove d n) 4 d n noS 0 rfl (HR1.out.done_ok HI.out HB.out (fun A n0 c rs w' hT hn hv => rdone_remove A n0 c rs d n F w' hT hn (by rw [hv]; exact HFF.out) (by have := HFL.out; have := HB.out; omega)))).mono ?_
    rintro e w2 ⟨rfl, hto⟩
    have HTO := Lib.hid hto
    clear hto
    go_wp2
    go_ret
    exact ⟨by rw [HRES.out]; rfl, by rw [HRES.out]; exact HTO.out.before HC1.out⟩

set_option maxRecDepth 100000 in
set_option maxHeartbeats 6400000 in
theorem rsnames_any {w : World} {R : RfG} {S : St} {B : Nat} (h : RfM w R S) (hi : Inv B S) (hB : B + 1 ≤ 536870912) :
    Calls Tryz.prog 43 #[.pointer (some ⟨R.b, 0, none⟩)] w fun e w' => e = .returned (.int .i64 (S.names).2) ∧ RfTo w R (S.names).1 w' := by
  have HR := Lib.hid h
  have HI := Lib.hid hi
  have HB := Lib.hid hB
  have HSL : Hid (S.seen.length ≤ 1073741824) := Lib.hid (by have := hi.seenl; omega)
  clear h hi hB
  go_enter Tryz.func43, Tryz.ntmps43
  cases hd : S.down with
  | true =>
    have HDN := Lib.hid hd
    have HRES : Hid (S.names = (S, 80)) := Lib.hid (by unfold St.names; rw [if_pos hd])
    clear hd
    go_wp2_with fail
    refine (HR.out.down).mono ?_
    rintro e w1 ⟨rfl, hc⟩
    rw [HDN.out]
    have HC1 := Lib.hid hc
    have HR1 := Lib.hid (HR.out.keep0 hc)
    clear hc
    go_wp2
    go_ret
    exact ⟨by rw [HRES.out]; rfl, by rw [HRES.out]; exact RfTo.same HR.out HC1.out⟩
  | false =>
    have HDN := Lib.hid hd
    have HRES : Hid (S.names = ({ S with safe := S.seen, chs := [], steps := S.steps + 1 }, 0)) := Lib.hid (by unfold St.names; rw [if_neg (by simp [hd])])
    clear hd
    go_wp2_with fail
    refine (HR.out.down).mono ?_
    rintro e w1 ⟨rfl, hc⟩
    rw [HDN.out]
    have HC1 := Lib.hid hc
    have HR1 := Lib.hid (HR.out.keep0 hc)
    clear hc
    have r0 := HR1.out.blk.cell 0
    simp only [List.getElem?_toArray, List.getElem?_cons_zero] at r0
    go_wp2_with fail
    refine (rcopied_any _ _ _ R.rs w1 HR1.out.seen HSL.out (fun r hr => by
      have h1 : (r.1.nm, r.2) ∈ S.seen := by rw [← HR1.out.seenv]; exact List.mem_map.2 ⟨r, hr, rfl⟩
      have h2 := (HR1.out.seen.fil r hr).nml
      have h3 := wd_sub h1
      have h4 := HI.out.wd
      have h5 := HB.out
      simp only at h3
      omega)).mono ?_
    rintro e w2 ⟨A, c, rs, rfl, hT, hv, hc, hn⟩
    have HT := Lib.hid (HR1.out.newSafe (T := S.seen) hT (by rw [hv]; exact HR1.out.seenv) hc (fun k hk => .inr (hn k hk)))
    have y1 := (HR1.out.keep0 hc).blk.cell 1
    have f1 := (HR1.out.keep0 hc).blk.frozen 1
    simp only [List.getElem?_toArray, List.getElem?_cons_succ, List.getElem?_cons_zero] at y1
    obtain ⟨TN, hTN⟩ : ∃ TN, S.seen.length = TN := ⟨_, rfl⟩
    rw [hTN] at HT ⊢
    clear hT hv hc hn hTN r0
    go_upto_region 4 with fail
    clear y1 f1
    generalize w2.setCell ⟨R.b, 1, none⟩ (.slice A TN c) = w3 at HT ⊢
    obtain ⟨R1, hR1, hb1, hs1, hc1⟩ := HT.out
    have HTO1 : Hid (∀ S' w', RfTo w3 R1 S' w' → RfTo w R S' w') := Lib.hid (fun S' w' h => RfTo.before HC1.out (RfTo.next hc1 hb1 hs1 h))
    have HB1 := Lib.hid hb1
    have HRA := Lib.hid (hR1.newChs (w1 := w3.alloc (.cells #[] 118)) (cs := []) (Own.lit w3 118 5 #[] 0 (by decide) rfl) (((Chg.refl [] w3).alloc _).nil _) (fun k hk => .inr (by simp only [bo_some, List.mem_singleton] at hk; omega)))
    have y2 := (hR1.keep0 ((Chg.refl [] w3).alloc (.cells #[] 118))).blk.cell 2
    have f2 := (hR1.keep0 ((Chg.refl [] w3).alloc (.cells #[] 118))).blk.frozen 2
    rw [hb1] at y2 f2 HRA
    simp only [List.getElem?_toArray, List.getElem?_cons_succ, List.getElem?_cons_zero] at y2
    clear hR1 hb1 hs1 hc1
    go_upto_region 5 with fail
    simp only [List.length_nil] at HRA
    obtain ⟨w4, hw4⟩ : ∃ w4, w4 = (w3.alloc (.cells #[] 118)).setCell ⟨R.b, 2, none⟩ (.slice (some ⟨w3.heap.size, 0, none⟩) 0 0) := ⟨_, rfl⟩
    rw [← hw4] at HRA ⊢
    clear y2 f2 hw4
    obtain ⟨R2, hR2, hb2, hs2, hc2⟩ := HRA.out
    have HTO2 : Hid (∀ S' w', RfTo w4 R2 S' w' → RfTo w R S' w') := Lib.hid (fun S' w' h => HTO1.out S' w' (RfTo.next hc2 hb2 hs2 h))
    have HR2 := Lib.hid hR2
    have HB2 : Hid (R2.b = R.b) := Lib.hid (hb2.trans HB1.out)
    have r7 := hR2.blk.cell 7
    have g7 := hR2.blk.frozen 7
    rw [HB2.out] at r7 g7
    simp only [List.getElem?_toArray, List.getElem?_cons_succ, List.getElem?_cons_zero] at r7
    have hwt : IntKind.i64.wrap ((S.steps : Int) + 1) = ((S.steps + 1 : Nat) : Int) := by have := (HI.out.room HB.out).2; rw [IntKind.wrap_i64]; omega
    clear hR2 hb2 hs2 hc2
    go_wp2
    go_ret
    refine ⟨by rw [HRES.out]; rfl, ?_⟩
    rw [HRES.out]
    refine HTO2.out _ _ ?_
    have := HR2.out.setSteps (S.steps + 1)
    rw [HB2.out] at this
    exact this
end Go.Proofs.YtgomofeidghmiaaGreat
