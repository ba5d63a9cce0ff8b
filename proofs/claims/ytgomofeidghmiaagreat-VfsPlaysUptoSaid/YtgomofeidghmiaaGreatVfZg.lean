/-
  Layer 08: the document's Write, Sync, Create.
-/
import Derived.Test.YtgomofeidghmiaaGreatVfZf
namespace Go.Proofs.YtgomofeidghmiaaGreat
open Go.RowKit


set_option maxRecDepth 100000 in
set_option maxHeartbeats 6400000 in
theorem rwrite_any {w : World} {R : RfG} {S : St} {B : Nat} (h : RfM w R S) (hi : Inv B S) (d n : ByteArray) (A : Option Addr) (k c : Nat) (xs : List Int) (hr : Rd w 1 A k c (bv xs)) (hB : B + k + 1 ≤ 536870912) :
    Calls Tryz.prog 41 #[.pointer (some ⟨R.b, 0, none⟩), .string d, .string n, .slice A k c] w fun e w' => e = .returned (.int .i64 (S.write d n xs).2) ∧ RfTo w R (S.write d n xs).1 w' := by
  have HR := Lib.hid h
  have HI := Lib.hid hi
  have HB : Hid (B + 1 ≤ 536870912) := Lib.hid (by omega)
  have HX := Lib.hid hr
  have HXL : Hid (xs.length = k) := Lib.hid hr.blen
  have k63 : k ≤ 536870912 := by omega
  clear h hi hB hr
  go_enter Tryz.func41, Tryz.ntmps41
  obtain ⟨o, E, hE⟩ : ∃ o E, S.fnd d n = (o, E) := ⟨_, _, rfl⟩
  have HF := Lib.hid hE
  cases o with
  | none =>
    have hE0 : (E != 0) = true := by simpa using fnd_no hE
    have HRES : Hid (S.write d n xs = (S, E)) := Lib.hid (by unfold St.write; rw [hE])
    clear hE
    go_wp2_with fail
    refine (rfound_any HR.out HI.out HB.out d n).mono ?_
    rintro e w1 ⟨rfl, hc⟩
    rw [HF.out]
    have HC1 := Lib.hid hc
    have HR1 := Lib.hid (HR.out.keep0 hc)
    clear hc
    simp only [fndI]
    go_wp2
    go_ret
    exact ⟨by rw [HRES.out]; rfl, by rw [HRES.out]; exact RfTo.same HR.out HC1.out⟩
  | some x =>
    obtain ⟨hE0, _⟩ := fnd_good hE
    subst hE0
    have hxl := fnd_lt HI.out hE
    obtain ⟨f, hf⟩ : ∃ f, S.files[x]? = some f := ⟨_, List.getElem?_eq_getElem hxl⟩
    have HFX := Lib.hid hf
    have HFB := Lib.hid (HI.out.filB (by have := HB.out; omega) hf)
    have HFG : Hid (S.files.getD x ([], []) = f) := Lib.hid (by rw [List.getD_eq_getElem?_getD, hf]; rfl)
    obtain ⟨FL, hFL⟩ : ∃ FL, S.files.length = FL := ⟨_, rfl⟩
    have HFLN := Lib.hid hFL
    rw [hFL] at hxl
    have hx0 : (0 : Int) ≤ (x : Int) := by omega
    have hxf : (x : Int) < (FL : Int) := by omega
    clear hf hFL
    by_cases hk0 : k = 0
    · subst hk0
      have hnil : xs = [] := List.eq_nil_of_length_eq_zero HXL.out
      have HRES : Hid (S.write d n xs = ({ S with steps := S.steps + 1 }, 0)) := Lib.hid (by unfold St.write; rw [hE]; simp only [hnil, if_true])
      clear hE hnil
      go_wp2_with fail
      refine (rfound_any HR.out HI.out HB.out d n).mono ?_
      rintro e w1 ⟨rfl, hc⟩
      rw [HF.out]
      have HC1 := Lib.hid hc
      have HR1 := Lib.hid (HR.out.keep0 hc)
      clear hc
      simp only [fndI]
      have HTO0 : Hid (∀ S' w', RfTo w1 R S' w' → RfTo w R S' w') := Lib.hid (fun S' w' h => RfTo.before HC1.out h)
      have r7 := HR1.out.blk.cell 7
      have g7 := HR1.out.blk.frozen 7
      simp only [List.getElem?_toArray, List.getElem?_cons_succ, List.getElem?_cons_zero] at r7
      have hwt : IntKind.i64.wrap ((S.steps : Int) + 1) = ((S.steps + 1 : Nat) : Int) := by have := (HI.out.room HB.out).2; rw [IntKind.wrap_i64]; omega
      go_wp2
      go_ret
      refine ⟨by rw [HRES.out]; rfl, ?_⟩
      rw [HRES.out]
      refine HTO0.out _ _ ?_
      have := HR1.out.setSteps (S.steps + 1)
      exact this
    · have hkp : 0 < k := by omega
      have hkp' : (0 : Int) < (k : Int) := by omega
      have hxn : xs ≠ [] := by intro e; have := HXL.out; rw [e] at this; simp at this; omega
      obtain ⟨us, hus⟩ : ∃ us : Nat, S.used = us := ⟨_, rfl⟩
      have hub : us ≤ 1152921504606846976 := by rw [← hus]; exact Nat.le_trans (used_le HI.out) (Nat.mul_le_mul (show B ≤ 1073741824 by have := HB.out; omega) (show B ≤ 1073741824 by have := HB.out; omega))
      obtain ⟨qt, hqt⟩ : ∃ qt, S.quota = qt := ⟨_, rfl⟩
      have hwr := show S.write d n xs = if qt < (us : Int) + k then (S, 85) else ({ S with files := S.files.modify x (fun f => (f.1, f.2 ++ [xs])), wr := S.wr ++ [x], steps := S.steps + 1 }, 0) from by
        unfold St.write; rw [hE]; simp only [hxn, if_false, HXL.out, hus, hqt]
      have HWR := Lib.hid hwr
      have HU := Lib.hid hus
      have hws : IntKind.i64.wrap ((us : Int) + (k : Int)) = (us : Int) + (k : Int) := by rw [IntKind.wrap_i64]; omega
      have HQ := Lib.hid HI.out.quota
      clear hE hxn hwr hus
      have HQT := Lib.hid hqt
      clear hqt
      go_wp2_with fail
      refine (rfound_any HR.out HI.out HB.out d n).mono ?_
      rintro e w1 ⟨rfl, hc⟩
      rw [HF.out]
      have HC1 := Lib.hid hc
      have HR1 := Lib.hid (HR.out.keep0 hc)
      clear hc
      simp only [fndI]
      have r5 := HR1.out.blk.cell 5
      simp only [List.getElem?_toArray, List.getElem?_cons_succ, List.getElem?_cons_zero] at r5
      rw [HQT.out] at r5
      obtain ⟨ovr, hovr⟩ : ∃ ovr, decide (qt < (us : Int) + (k : Int)) = ovr := ⟨_, rfl⟩
      go_wp2_with fail
      refine wp_region_held_drew (S := fun w' => Chg [] w1 w') (by kernel_rfl) ((Chg.refl _ _).drew) (fun hHeld => ?_)
      refine wpAnyH_take (i := 0) (v := ?_) rfl (by kernel_rfl) (by kernel_rfl) (by kernel_rfl) (fun _ _ _ h => h) (Or.inl ⟨by rfl, ?_⟩) (by assumption) ?_
      rotate_left
      · (intro w' hSw; go_simp; try with_reducible rfl)
      try simp only [Act.put, put8]
      refine wpAnyH_take (i := 2) (v := ?_) rfl (by kernel_rfl) (by kernel_rfl) (by kernel_rfl) (fun _ _ _ h => h) (Or.inl ⟨by rfl, ?_⟩) (by assumption) ?_
      rotate_left
      · (intro w' hSw; go_simp; try with_reducible rfl)
      try simp only [Act.put, put8]
      refine wpAnyH_take (i := 3) (v := ?_) rfl (by kernel_rfl) (by kernel_rfl) (by kernel_rfl) (fun _ _ _ h => h) (Or.inl ⟨by rfl, ?_⟩) (by assumption) ?_
      rotate_left
      · (intro w' hSw; go_simp; try with_reducible rfl)
      try simp only [Act.put, put8]
      refine wpAnyH_take (i := 5) (v := ?_) rfl (by kernel_rfl) (by kernel_rfl) (by kernel_rfl) (fun _ _ _ h => h) (Or.inl ⟨by rfl, ?_⟩) (by assumption) ?_
      rotate_left
      · (intro w' hSw; go_simp; try with_reducible rfl)
      try simp only [Act.put, put8]
      refine wpAnyH_take (i := 6) (v := ?_) rfl (by kernel_rfl) (by kernel_rfl) (by kernel_rfl) (fun _ _ _ h => h) (Or.inl ⟨by rfl, ?_⟩) (by assumption) ?_
      rotate_left
      · (intro w' hSw; go_simp; try with_reducible rfl)
      try simp only [Act.put, put8]
      refine wpAnyH_take (i := 7) (v := ?_) rfl (by kernel_rfl) (by kernel_rfl) (by kernel_rfl) (fun _ _ _ h => h) (Or.inl ⟨by rfl, ?_⟩) (by assumption) ?_
      rotate_left
      · (intro w' hSw; go_simp; try with_reducible rfl)
      try simp only [Act.put, put8]
      refine wpAnyH_take (i := 8) (v := ?_) rfl (by kernel_rfl) (by kernel_rfl) (by kernel_rfl) (fun _ _ _ h => h) (Or.inl ⟨by rfl, ?_⟩) (by assumption) ?_
      rotate_left
      · (intro w' hSw; have y := hSw.cell r5 List.not_mem_nil; go_simp; try with_reducible rfl)
      try simp only [Act.put, put8]
      refine wpAnyH_ready (rs := [1]) (by kernel_rfl) (by simp) ?_
      refine AllReadyH.cons rfl (fun K hK => ?_) (AllReadyH.nil)
      go_simp
      refine (rused_any (HR1.out.keep0 hHeld) HI.out (by have := HB.out; omega)).mono ?_
      rintro ee w3 ⟨rfl, hc⟩
      rw [HU.out]
      have hHc := hHeld.trans0 hc
      have HQ3 : Hid (Chg [] w1 w3) := Lib.hid hHc
      clear hc
      refine hK.out _ _ (hHc) (fun hHeld => ?_)
      try simp only [Act.put, put8]
      clear hK K
      refine wpAnyH_take (i := 4) (v := ?_) rfl (by kernel_rfl) (by kernel_rfl) (by kernel_rfl) (fun _ _ _ h => h) (Or.inl ⟨by rfl, ?_⟩) (by assumption) ?_
      rotate_left
      · (intro w' hSw; go_simp; try with_reducible rfl)
      try simp only [Act.put, put8]
      refine wpAnyH_take (i := 9) (v := ?_) rfl (by kernel_rfl) (by kernel_rfl) (by kernel_rfl) (fun _ _ _ h => h) (Or.inl ⟨by rfl, ?_⟩) (by assumption) ?_
      rotate_left
      · (intro w' hSw; go_simp; try with_reducible rfl)
      try simp only [Act.put, put8]
      refine wpAnyH_done (by kernel_rfl) ?_ _
      try simp only [Act.put, put8]
      clear hHeld hHc r5 hws
      cases ovr with
      | true =>
        have HRES : Hid (S.write d n xs = (S, 85)) := Lib.hid (by rw [HWR.out, if_pos (of_decide_eq_true hovr)])
        go_wp2
        go_ret
        exact ⟨by rw [HRES.out]; rfl, by rw [HRES.out]; exact RfTo.same HR.out (HC1.out.trans0 HQ3.out)⟩
      | false =>
        have HRES : Hid (S.write d n xs = ({ S with files := S.files.modify x (fun f => (f.1, f.2 ++ [xs])), wr := S.wr ++ [x], steps := S.steps + 1 }, 0)) := Lib.hid (by rw [HWR.out, if_neg (of_decide_eq_false hovr)])
        clear hovr
        have HR3 := Lib.hid (HR1.out.keep0 HQ3.out)
        have HTO0 : Hid (∀ S' w', RfTo w3 R S' w' → RfTo w R S' w') := Lib.hid (fun S' w' h => RfTo.before (HC1.out.trans0 HQ3.out) h)
        obtain ⟨g, L, a, hg, hL, hfa, hp, hsp⟩ := HR3.out.at2 HFX.out
        have r3 := HR3.out.blk.cell 3
        simp only [List.getElem?_toArray, List.getElem?_cons_succ, List.getElem?_cons_zero] at r3
        simp only [HFLN.out, hfa] at r3
        have HG := Lib.hid hg
        have HL := Lib.hid hL
        have HSP := Lib.hid hsp
        have p0 := hp
        clear hg hL hfa hp hsp
        go_wp2_with fail
        refine (rappend_some g L f.1 f.2 A k c xs w3 HSP.out hkp (by omega) HFB.out.2 ((HX.out.chg HC1.out (fun _ _ => List.not_mem_nil)).chg HQ3.out (fun _ _ => List.not_mem_nil))).mono ?_
        rintro e w4 ⟨L', rfl, hs4, hc4, hn4⟩
        have HT := Lib.hid (HR3.out.spool (φ := fun f => (f.1, f.2 ++ [xs])) HG.out HL.out hc4 (by rw [HFG.out]; exact hs4) hn4)
        clear hs4 hc4 hn4 r3 p0
        obtain ⟨R2, hR2, hb2, hs2, hc2⟩ := HT.out
        have HTO2 : Hid (∀ S' w', RfTo w4 R2 S' w' → RfTo w R S' w') := Lib.hid (fun S' w' h => HTO0.out S' w' (RfTo.next hc2 hb2 hs2 h))
        have HB2 : Hid (R2.b = R.b) := Lib.hid (hb2)
        have HM2 := Lib.hid hR2
        clear hR2 hb2 hs2 hc2
        have hwl : S.wr.length ≤ 536870912 := by have := HI.out.nw; have := HB.out; omega
        have r4 := HM2.out.blk.cell 4
        have r4a := (HM2.out.keep0 ((Chg.refl [] w4).alloc (.cells #[.int .i64 (x : Nat)] 3))).blk.cell 4
        rw [HB2.out] at r4 r4a
        simp only [List.getElem?_toArray, List.getElem?_cons_succ, List.getElem?_cons_zero] at r4 r4a
        go_upto_region 9 with (at_builtin; refine wpList_app rfl _ _ rfl etyIntsZ rfl (HM2.out.wrs.chg ((Chg.refl [] w4).alloc (.cells #[.int .i64 (x : Nat)] 3)) (fun _ _ => List.not_mem_nil)) rfl (Own.lit w4 3 1 #[.int .i64 (x : Nat)] 1 (by decide) rfl).rd (by intro u hu; simp at hu; subst hu; rfl) (by unfold maxLen; show S.wr.length + 1 ≤ _; omega) (by show (S.wr.length + 1) * _ ≤ _; omega) ?_; intro A5 c5 w5 hown5 hchg5 hnew5 _; have HO5 := Lib.hid hown5; have HC5 : Hid (Chg (bo R2.wA) w4 w5) := Lib.hid ((((Chg.refl [] w4).alloc (.cells #[.int .i64 (x : Nat)] 3)).nil _).trans hchg5 (fun x hx => .inl hx)); have HN5 : Hid (∀ k ∈ bo A5, k ∈ bo R2.wA ∨ w4.heap.size ≤ k) := Lib.hid (fun k hk => (hnew5 k hk).imp id (fun h => by have := h.1; simp at this; omega)); have hbk5 := HM2.out.blk.chg HC5.out (fun hm => HM2.out.ne0 (i := 2) rfl _ hm (by simp)); rw [HB2.out] at hbk5; have y4 := hbk5.cell 4; have f4 := hbk5.frozen 4; simp only [List.getElem?_toArray, List.getElem?_cons_succ, List.getElem?_cons_zero] at y4; clear hown5 hchg5 hnew5 hbk5)
        have HT2 := Lib.hid (HM2.out.newWr (ws := S.wr ++ [x]) (by have := HO5.out; simp only [List.length_append, List.length_cons, List.length_nil]; simpa using this) HC5.out HN5.out)
        simp only [List.length_append, List.length_cons, List.length_nil, Nat.zero_add] at HT2
        rw [HB2.out] at HT2
        clear r4 r4a y4 f4
        generalize w5.setCell ⟨R.b, 4, none⟩ (.slice A5 (S.wr.length + 1) c5) = w6 at HT2 ⊢
        obtain ⟨R3, hR3, hb3, hs3, hc3⟩ := HT2.out
        have HTO3 : Hid (∀ S' w', RfTo w6 R3 S' w' → RfTo w R S' w') := Lib.hid (fun S' w' h => HTO2.out S' w' (RfTo.next hc3 hb3 hs3 h))
        have HB3 : Hid (R3.b = R.b) := Lib.hid (hb3.trans HB2.out)
        have HM3 := Lib.hid hR3
        clear hR3 hb3 hs3 hc3
        have r7 := HM3.out.blk.cell 7
        have g7 := HM3.out.blk.frozen 7
        rw [HB3.out] at r7 g7
        simp only [List.getElem?_toArray, List.getElem?_cons_succ, List.getElem?_cons_zero] at r7
        have hwt : IntKind.i64.wrap ((S.steps : Int) + 1) = ((S.steps + 1 : Nat) : Int) := by have := (HI.out.room HB.out).2; rw [IntKind.wrap_i64]; omega
        go_wp2
        go_ret
        refine ⟨by rw [HRES.out]; rfl, ?_⟩
        rw [HRES.out]
        refine HTO3.out _ _ ?_
        have := HM3.out.setSteps (S.steps + 1)
        rw [HB3.out] at this
        exact this

set_option maxRecDepth 100000 in
set_option maxHeartbeats 6400000 in
theorem rsync8_any {w : World} {R : RfG} {S : St} {B : Nat} (h : RfM w R S) (hi : Inv B S) (hB : B + 1 ≤ 536870912) (d n : ByteArray) :
    Calls Tryz.prog 42 #[.pointer (some ⟨R.b, 0, none⟩), .string d, .string n] w fun e w' => e = .returned (.int .i64 (S.sync d n).2) ∧ RfTo w R (S.sync d n).1 w' := by
  have HR := Lib.hid h
  have HI := Lib.hid hi
  have HB := Lib.hid hB
  have HSL : Hid (S.seen.length ≤ 1073741824) := Lib.hid (by have := hi.seenl; omega)
  clear h hi hB
  go_enter Tryz.func42, Tryz.ntmps42
  obtain ⟨o, E, hE⟩ : ∃ o E, S.fnd d n = (o, E) := ⟨_, _, rfl⟩
  have HF := Lib.hid hE
  cases o with
  | none =>
    have hE0 : (E != 0) = true := by simpa using fnd_no hE
    have HRES : Hid (S.sync d n = (S, E)) := Lib.hid (by unfold St.sync; rw [hE])
    clear hE
    go_wp2_with fail
    refine (rfound_any HR.out HI.out HB.out d n).mono ?_
    rintro e w1 ⟨rfl, hc⟩
    rw [HF.out]
    have HC1 := Lib.hid hc
    have HR1 := Lib.hid (HR.out.keep0 hc)
    clear hc
    simp only [fndI]
    go_wp2
    go_ret
    exact ⟨by rw [HRES.out]; rfl, by rw [HRES.out]; exact RfTo.same HR.out HC1.out⟩
  | some x =>
    obtain ⟨hE0, _⟩ := fnd_good hE
    subst hE0
    have hxl := fnd_lt HI.out hE
    obtain ⟨f, hf⟩ : ∃ f, S.files[x]? = some f := ⟨_, List.getElem?_eq_getElem hxl⟩
    have HFX := Lib.hid hf
    have HFB := Lib.hid (HI.out.filB (by have := HB.out; omega) hf)
    have HFG : Hid (S.files.getD x ([], []) = f) := Lib.hid (by rw [List.getD_eq_getElem?_getD, hf]; rfl)
    obtain ⟨FL, hFL⟩ : ∃ FL, S.files.length = FL := ⟨_, rfl⟩
    have HFLN := Lib.hid hFL
    rw [hFL] at hxl
    have hx0 : (0 : Int) ≤ (x : Int) := by omega
    have hxf : (x : Int) < (FL : Int) := by omega
    clear hf hFL
    have HRES : Hid (S.sync d n = ({ S with files := S.files.modify x (fun f => (Fil.all f, [])), wr := S.wr.filter (fun y => y != x), steps := S.steps + 1 }, 0)) := Lib.hid (by unfold St.sync; rw [hE])
    clear hE
    go_wp2_with fail
    refine (rfound_any HR.out HI.out HB.out d n).mono ?_
    rintro e w1 ⟨rfl, hc⟩
    rw [HF.out]
    have HC1 := Lib.hid hc
    have HR1 := Lib.hid (HR.out.keep0 hc)
    clear hc
    simp only [fndI]
    have HTO0 : Hid (∀ S' w', RfTo w1 R S' w' → RfTo w R S' w') := Lib.hid (fun S' w' h => RfTo.before HC1.out h)
    obtain ⟨g, L, a, hg, hL, hfa, hp, hsp⟩ := HR1.out.at2 HFX.out
    have r3 := HR1.out.blk.cell 3
    simp only [List.getElem?_toArray, List.getElem?_cons_succ, List.getElem?_cons_zero] at r3
    simp only [HFLN.out, hfa] at r3
    have HG := Lib.hid hg
    have HL := Lib.hid hL
    have HSP := Lib.hid hsp
    have p0 := hp
    clear hg hL hfa hp hsp
    go_wp2_with fail
    refine (rsync_any g L f.1 f.2 w1 HSP.out HFB.out.1 HFB.out.2).mono ?_
    rintro e w2 ⟨L', rfl, hs4, hc4, hn4⟩
    have HT := Lib.hid (HR1.out.spool (φ := fun f => (Fil.all f, [])) HG.out HL.out hc4 (by rw [HFG.out]; exact hs4) hn4)
    clear hs4 hc4 hn4 r3 p0
    obtain ⟨R2, hR2, hb2, hs2, hc2⟩ := HT.out
    have HTO2 : Hid (∀ S' w', RfTo w2 R2 S' w' → RfTo w R S' w') := Lib.hid (fun S' w' h => HTO0.out S' w' (RfTo.next hc2 hb2 hs2 h))
    have HB2 : Hid (R2.b = R.b) := Lib.hid (hb2)
    have HM2 := Lib.hid hR2
    clear hR2 hb2 hs2 hc2
    obtain ⟨WN, hWN⟩ : ∃ WN, S.wr.length = WN := ⟨_, rfl⟩
    have hwl : WN ≤ 536870912 := by have := HI.out.nw; have := HB.out; omega
    have HWN := Lib.hid hWN
    clear hWN
    go_wp2
    go_loopw [9, 10] (fun o q wr => ∃ (i m : Nat) (A : Option Addr) (c : Nat), i ≤ WN ∧ m ≤ i ∧ q = .int .i64 i ∧ o = .slice A m c ∧ Own wr 3 1 A m c (((S.wr.take i).filter (fun y => y != x)).map fun i => .int .i64 (i : Nat)) ∧ Chg [] w2 wr ∧ ∀ k ∈ bo A, w2.heap.size ≤ k) (fun _ q _ => WN - (intOf q).toNat)
    case atStart => exact ⟨0, 0, _, 0, Nat.zero_le _, Nat.le_refl _, rfl, rfl, Own.lit w2 3 1 #[] 0 (by decide) rfl, (Chg.refl _ _).alloc _, by simp⟩
    case round =>
      obtain ⟨i, m, A, c, hi, hmi, rfl, rfl, ho, hch, hnw⟩ := hrel
      have HO := Lib.hid ho
      have HCH := Lib.hid hch
      have HNW := Lib.hid hnw
      have HRR := Lib.hid (HM2.out.keep0 hch)
      have r4 := HRR.out.blk.cell 4
      rw [HB2.out] at r4
      simp only [List.getElem?_toArray, List.getElem?_cons_succ, List.getElem?_cons_zero, HWN.out] at r4
      clear ho hch hnw
      by_cases hlt : i < WN
      · have hlt' : (i : Int) < WN := by omega
        obtain ⟨y, hy⟩ : ∃ y, S.wr[i]? = some y := ⟨_, List.getElem?_eq_getElem (by have := HWN.out; omega)⟩
        obtain ⟨ad, u, hA, hu, hc⟩ := HRR.out.wrs.rd.at1 (k := i) (by show i < S.wr.length; have := HWN.out; omega)
        rw [List.getElem?_map, hy] at hu
        simp only [Option.map_some, Option.some.injEq] at hu
        subst hu
        rw [hA] at r4
        have x0 := hc
        obtain ⟨cb, hcb⟩ : ∃ cb, (y != x) = cb := ⟨_, rfl⟩
        have hcbi : ((y : Int) != (x : Int)) = cb := by rw [← hcb, Bool.eq_iff_iff]; simp; omega
        have HTK : Hid ((S.wr.take (i + 1)).filter (fun y => y != x) = (S.wr.take i).filter (fun y => y != x) ++ (if cb = true then [y] else [])) := Lib.hid (by
          rw [take_snoc _ _ _ hy, List.filter_append, List.filter_cons, hcb]
          simp)
        clear hy hA hc hcb
        cases cb with
        | false =>
          go_wp2
          go_roundw
          case rel => exact ⟨i + 1, m, A, c, by omega, by omega, by go_num, rfl, by rw [HTK.out, if_neg (by simp), List.append_nil]; exact HO.out, HCH.out, HNW.out⟩
          case measure => simp [intOf]; omega
        | true =>
          go_wp2_with (at_builtin; refine wpList_app rfl _ _ rfl etyIntsZ rfl (HO.out.chg ((Chg.refl [] wr).alloc (.cells #[.int .i64 (y : Nat)] 3)) (fun _ _ => List.not_mem_nil)) rfl (Own.lit wr 3 1 #[.int .i64 (y : Nat)] 1 (by decide) rfl).rd (by intro u hu; simp at hu; subst hu; rfl) (by unfold maxLen; omega) (by omega) ?_; intro A4 c4 w4 hown4 hchg4 hnew4 _; have HO4 := Lib.hid hown4; have HC4 := Lib.hid hchg4; have HN4 := Lib.hid hnew4; clear hown4 hchg4 hnew4)
          go_roundw
          case rel =>
            have hcAl : Chg [] wr (wr.alloc (.cells #[.int .i64 (y : Nat)] 3)) := (Chg.refl [] wr).alloc _
            refine ⟨i + 1, m + 1, A4, c4, by omega, by omega, by go_num, rfl, ?_, (HCH.out.trans0 hcAl).trans HC4.out (fun x hx => .inr (HNW.out x hx)), fun k hk => ?_⟩
            · have := HO4.out
              rw [HTK.out, if_pos rfl, List.map_append]
              exact this
            · rcases HN4.out k hk with h | h
              · exact HNW.out k h
              · have h3 := HCH.out.size; have h2 := h.1; simp at h2; omega
          case measure => simp [intOf]; omega
      · obtain rfl : i = WN := by omega
        have ho2 := HO.out
        rw [List.take_of_length_le (by have := HWN.out; omega)] at ho2
        have hml : m = (S.wr.filter (fun y => y != x)).length := by have := ho2.1; simpa using this.symm
        subst hml
        have HT2 := Lib.hid (HM2.out.newWr (ws := S.wr.filter (fun y => y != x)) ho2 (HCH.out.nil _) (fun k hk => .inr (HNW.out k hk)))
        rw [HB2.out] at HT2
        have f4 := HRR.out.blk.frozen 4
        rw [HB2.out] at f4
        obtain ⟨ml, hml⟩ : ∃ ml, (S.wr.filter (fun y => y != x)).length = ml := ⟨_, rfl⟩
        rw [hml] at HT2 ⊢
        clear ho2 hml
        go_upto_region 12 with fail
        clear r4 f4
        generalize wr.setCell ⟨R.b, 4, none⟩ (.slice A ml c) = w6 at HT2 ⊢
        obtain ⟨R3, hR3, hb3, hs3, hc3⟩ := HT2.out
        have HTO3 : Hid (∀ S' w', RfTo w6 R3 S' w' → RfTo w R S' w') := Lib.hid (fun S' w' h => HTO2.out S' w' (RfTo.next hc3 hb3 hs3 h))
        have HB3 : Hid (R3.b = R.b) := Lib.hid (hb3.trans HB2.out)
        have HM3 := Lib.hid hR3
        clear hR3 hb3 hs3 hc3
        have r7 := HM3.out.blk.cell 7
        have g7 := HM3.out.blk.frozen 7
        rw [HB3.out] at r7 g7
        simp only [List.getElem?_toArray, List.getElem?_cons_succ, List.getElem?_cons_zero] at r7
        have hwt : IntKind.i64.wrap ((S.steps : Int) + 1) = ((S.steps + 1 : Nat) : Int) := by have := (HI.out.room HB.out).2; rw [IntKind.wrap_i64]; omega
        go_wp2
        go_ret
        refine ⟨by rw [HRES.out]; rfl, ?_⟩
        rw [HRES.out]
        refine HTO3.out _ _ ?_
        have := HM3.out.setSteps (S.steps + 1)
        rw [HB3.out] at this
        exact this

set_option maxRecDepth 100000 in
set_option maxHeartbeats 6400000 in
theorem rcreate_any {w : World} {R : RfG} {S : St} {B : Nat} (h : RfM w R S) (hi : Inv B S) (hB : B + 2 ≤ 536870912) (d n : ByteArray) :
    Calls Tryz.prog 40 #[.pointer (some ⟨R.b, 0, none⟩), .string d, .string n] w fun e w' => e = .returned (.int .i64 (S.create d n).2) ∧ RfTo w R (S.create d n).1 w' := by
  have HR := Lib.hid h
  have HI := Lib.hid hi
  have HBB := Lib.hid hB
  have HB : Hid (B + 1 ≤ 536870912) := Lib.hid (by omega)
  have HSL : Hid (S.seen.length ≤ 1073741824) := Lib.hid (by have := hi.seenl; omega)
  clear h hi hB
  go_enter Tryz.func40, Tryz.ntmps40
  rcases ask_cases S d [n] with ⟨hd, ha⟩ | ⟨hd, hg, ha⟩ | ⟨hd, hg, hn, ha⟩ | ⟨hd, hg, ⟨F, hF⟩, ha⟩
  · have HDN := Lib.hid hd
    have HRES : Hid (S.create d n = (S, 80)) := Lib.hid (by unfold St.create; rw [ha]; rfl)
    clear hd ha
    go_wp2_with fail
    refine (HR.out.down).mono ?_
    rintro e w1 ⟨rfl, hc⟩
    rw [HDN.out]
    have HC1 := Lib.hid hc
    have HR1 := Lib.hid (HR.out.keep0 hc)
    clear hc
    go_wp2
    go_ret
    exact ⟨by rw [HRES.out]; rfl, by rw [HRES.out]; exact RfTo.same HR.out HC1.out⟩
  · have HDN := Lib.hid hd
    have HRES : Hid (S.create d n = (S, 81)) := Lib.hid (by unfold St.create; rw [ha]; rfl)
    clear hd ha
    cases hg1 : goodP d with
    | false =>
      have HG1 := Lib.hid hg1
      clear hg hg1
      go_wp2_with fail
      refine (HR.out.down).mono ?_
      rintro e w1 ⟨rfl, hc⟩
      rw [HDN.out]
      have HC1 := Lib.hid hc
      have HR1 := Lib.hid (HR.out.keep0 hc)
      clear hc
      go_wp2_with fail
      refine (rgood_any d _).mono ?_
      rintro e w2 ⟨rfl, hc⟩
      rw [HG1.out]
      have HC2 := Lib.hid hc
      have HR2 := Lib.hid (HR1.out.keep0 hc)
      clear hc
      go_wp2
      go_ret
      exact ⟨by rw [HRES.out]; rfl, by rw [HRES.out]; exact RfTo.same HR.out (HC1.out.trans0 HC2.out)⟩
    | true =>
      have HG1 := Lib.hid hg1
      have HG2 : Hid (goodP n = false) := Lib.hid (by simpa [hg1] using hg)
      clear hg hg1
      go_wp2_with fail
      refine (HR.out.down).mono ?_
      rintro e w1 ⟨rfl, hc⟩
      rw [HDN.out]
      have HC1 := Lib.hid hc
      have HR1 := Lib.hid (HR.out.keep0 hc)
      clear hc
      go_wp2_with fail
      refine (rgood_any d _).mono ?_
      rintro e w2 ⟨rfl, hc⟩
      rw [HG1.out]
      have HC2 := Lib.hid hc
      have HR2 := Lib.hid (HR1.out.keep0 hc)
      clear hc
      go_wp2_with fail
      refine (rgood_any n _).mono ?_
      rintro e w3 ⟨rfl, hc⟩
      rw [HG2.out]
      have HC3 := Lib.hid hc
      have HR3 := Lib.hid (HR2.out.keep0 hc)
      clear hc
      go_wp2
      go_ret
      exact ⟨by rw [HRES.out]; rfl, by rw [HRES.out]; exact RfTo.same HR.out ((HC1.out.trans0 HC2.out).trans0 HC3.out)⟩
  · have HDN := Lib.hid hd
    have HRES : Hid (S.create d n = (S, 82)) := Lib.hid (by unfold St.create; rw [ha]; rfl)
    have HAT : Hid (atI d 0 S.seen = -1) := Lib.hid (atI_none hn 0)
    have HG1 : Hid (goodP d = true) := Lib.hid (by simp at hg; exact hg.1)
    have HG2 : Hid (goodP n = true) := Lib.hid (by simp at hg; exact hg.2)
    clear hd ha hg hn
    go_wp2_with fail
    refine (HR.out.down).mono ?_
    rintro e w1 ⟨rfl, hc⟩
    rw [HDN.out]
    have HC1 := Lib.hid hc
    have HR1 := Lib.hid (HR.out.keep0 hc)
    clear hc
    go_wp2_with fail
    refine (rgood_any d _).mono ?_
    rintro e w2 ⟨rfl, hc⟩
    rw [HG1.out]
    have HC2 := Lib.hid hc
    have HR2 := Lib.hid (HR1.out.keep0 hc)
    clear hc
    go_wp2_with fail
    refine (rgood_any n _).mono ?_
    rintro e w3 ⟨rfl, hc⟩
    rw [HG2.out]
    have HC3 := Lib.hid hc
    have HR3 := Lib.hid (HR2.out.keep0 hc)
    clear hc
    have r0 := HR3.out.blk.cell 0
    simp only [List.getElem?_toArray, List.getElem?_cons_zero] at r0
    go_wp2_with fail
    refine (rat_any _ _ _ _ d _ HR3.out.seen HSL.out).mono ?_
    rintro e w4 ⟨rfl, rfl⟩
    rw [HR3.out.seenv, HAT.out]
    clear r0
    go_wp2
    go_ret
    exact ⟨by rw [HRES.out]; rfl, by rw [HRES.out]; exact RfTo.same HR.out ((HC1.out.trans0 HC2.out).trans0 HC3.out)⟩
  · have HDN := Lib.hid hd
    have hcr : S.create d n = if (aget F n).isSome = true then (S, 83) else (({ S with files := S.files ++ [([], [])] } : St).make (.create d n S.files.length), 0) := by
      have : folOf S.seen d = F := by unfold folOf; rw [hF]; rfl
      unfold St.create; rw [ha, if_neg (by simp), this]
    have HFF := Lib.hid hF
    have HFL2 := Lib.hid (fol_len HI.out d hF)
    have HG1 : Hid (goodP d = true) := Lib.hid (by simp at hg; exact hg.1)
    have HG2 : Hid (goodP n = true) := Lib.hid (by simp at hg; exact hg.2)
    obtain ⟨i, hi1, hi2⟩ := atI_some hF 0
    rw [Nat.zero_add] at hi1
    have HAT := Lib.hid hi1
    have HI2 := Lib.hid hi2
    have hil : i < S.seen.length := (List.getElem?_eq_some_iff.1 hi2).1
    have HFL : Hid (F.length ≤ 1073741824) := Lib.hid (by have := wd_sub (List.mem_of_getElem? hi2); have := HI.out.wd; have := HB.out; simp only at *; omega)
    obtain ⟨TN, hTN⟩ : ∃ TN, S.seen.length = TN := ⟨_, rfl⟩
    have HTN := Lib.hid hTN
    rw [hTN] at hil
    clear hi1 hi2 hF hTN
    clear hd ha hg
    obtain ⟨FL, hFL⟩ : ∃ FL, S.files.length = FL := ⟨_, rfl⟩
    have HFLN := Lib.hid hFL
    have hfl : FL ≤ 536870912 := by have := HI.out.nf; have := HB.out; omega
    rw [hFL] at hcr
    clear hFL
    cases hx : aget F n with
    | some x =>
      have HRES : Hid (S.create d n = (S, 83)) := Lib.hid (by rw [hcr, hx]; rfl)
      have HFI : Hid (fileI F n = (x : Int)) := Lib.hid (by unfold fileI; rw [hx])
      clear hcr hx
      go_wp2_with fail
      refine (HR.out.down).mono ?_
      rintro e w1 ⟨rfl, hc⟩
      rw [HDN.out]
      have HC1 := Lib.hid hc
      have HR1 := Lib.hid (HR.out.keep0 hc)
      clear hc
      go_wp2_with fail
      refine (rgood_any d _).mono ?_
      rintro e w2 ⟨rfl, hc⟩
      rw [HG1.out]
      have HC2 := Lib.hid hc
      have HR2 := Lib.hid (HR1.out.keep0 hc)
      clear hc
      go_wp2_with fail
      refine (rgood_any n _).mono ?_
      rintro e w3 ⟨rfl, hc⟩
      rw [HG2.out]
      have HC3 := Lib.hid hc
      have HR3 := Lib.hid (HR2.out.keep0 hc)
      clear hc
      obtain ⟨ad, fA, fn, fc, hsA, hat, hfr⟩ := HR3.out.fold_at HI2.out
      have r0 := HR3.out.blk.cell 0
      simp only [List.getElem?_toArray, List.getElem?_cons_zero, hsA, HTN.out] at r0
      have HSA := Lib.hid hsA
      have x0 := hat.c0
      have x1 := hat.c1
      have HFR := Lib.hid hfr
      have hil' : (i : Int) < TN := by omega
      have hi0 : (0 : Int) ≤ (i : Int) := by omega
      have hfn : fn ≤ 1073741824 := by have h1 := hfr.nml; have h2 := HFL.out; omega
      clear hsA hat hfr
      go_wp2_with fail
      refine (rat_any _ _ _ _ d _ (by have := HR3.out.seen; rw [HSA.out, HTN.out] at this; exact this) (by have := HSL.out; have := HTN.out; omega)).mono ?_
      rintro e w4 ⟨rfl, rfl⟩
      rw [HR3.out.seenv, HAT.out]
      go_wp2_with fail
      refine (rfile_any d fA fn fc F n _ HFR.out hfn).mono ?_
      rintro e w5 ⟨rfl, hc⟩
      have HC5 := Lib.hid hc
      have HR5 := Lib.hid (HR3.out.keep0 hc)
      clear hc x0 x1 r0
      rw [HFI.out]
      go_wp2
      go_ret
      exact ⟨by rw [HRES.out]; rfl, by rw [HRES.out]; exact RfTo.same HR.out (((HC1.out.trans0 HC2.out).trans0 HC3.out).trans0 HC5.out)⟩
    | none =>
      have HRES : Hid (S.create d n = (({ S with files := S.files ++ [([], [])] } : St).make (.create d n FL), 0)) := Lib.hid (by rw [hcr, hx]; rfl)
      have HFI : Hid (fileI F n = -1) := Lib.hid (by unfold fileI; rw [hx])
      clear hcr hx
      go_wp2_with fail
      refine (HR.out.down).mono ?_
      rintro e w1 ⟨rfl, hc⟩
      rw [HDN.out]
      have HC1 := Lib.hid hc
      have HR1 := Lib.hid (HR.out.keep0 hc)
      clear hc
      go_wp2_with fail
      refine (rgood_any d _).mono ?_
      rintro e w2 ⟨rfl, hc⟩
      rw [HG1.out]
      have HC2 := Lib.hid hc
      have HR2 := Lib.hid (HR1.out.keep0 hc)
      clear hc
      go_wp2_with fail
      refine (rgood_any n _).mono ?_
      rintro e w3 ⟨rfl, hc⟩
      rw [HG2.out]
      have HC3 := Lib.hid hc
      have HR3 := Lib.hid (HR2.out.keep0 hc)
      clear hc
      obtain ⟨ad, fA, fn, fc, hsA, hat, hfr⟩ := HR3.out.fold_at HI2.out
      have r0 := HR3.out.blk.cell 0
      simp only [List.getElem?_toArray, List.getElem?_cons_zero, hsA, HTN.out] at r0
      have HSA := Lib.hid hsA
      have x0 := hat.c0
      have x1 := hat.c1
      have HFR := Lib.hid hfr
      have hil' : (i : Int) < TN := by omega
      have hi0 : (0 : Int) ≤ (i : Int) := by omega
      have hfn : fn ≤ 1073741824 := by have h1 := hfr.nml; have h2 := HFL.out; omega
      clear hsA hat hfr
      go_wp2_with fail
      refine (rat_any _ _ _ _ d _ (by have := HR3.out.seen; rw [HSA.out, HTN.out] at this; exact this) (by have := HSL.out; have := HTN.out; omega)).mono ?_
      rintro e w3b ⟨rfl, rfl⟩
      rw [HR3.out.seenv, HAT.out]
      go_wp2_with fail
      refine (rfile_any d fA fn fc F n _ HFR.out hfn).mono ?_
      rintro e w4 ⟨rfl, hc⟩
      have HC5 := Lib.hid hc
      have HR5 := Lib.hid (HR3.out.keep0 hc)
      clear hc x0 x1 r0
      rw [HFI.out]
      have HC14 : Hid (Chg [] w w4) := Lib.hid (((HC1.out.trans0 HC2.out).trans0 HC3.out).trans0 HC5.out)
      go_wp2_with fail
      refine wp_region_held_drew (S := fun w' => Chg (R.b :: bo R.fA) w4 w') (by kernel_rfl) ((Chg.refl _ _).drew) (fun hHeld => ?_)
      have HM5 : Hid (RfM w4.drew R S) := Lib.hid (HR5.out.keep0 (Chg.refl _ _).drew)
      have HD45 : Hid (Chg [] w4 w4.drew) := Lib.hid (Chg.refl _ _).drew
      generalize w4.drew = w5 at HM5 HD45 hHeld ⊢
      have HTO5 : Hid (∀ S' w', RfTo w5 R S' w' → RfTo w R S' w') := Lib.hid (fun S' w' h => RfTo.before (HC14.out.trans0 HD45.out) h)
      have r3 := HM5.out.blk.cell 3
      have r3a := (HM5.out.keep0 ((Chg.refl [] w5).alloc (.cells #[] 5))).blk.cell 3
      simp only [List.getElem?_toArray, List.getElem?_cons_succ, List.getElem?_cons_zero] at r3 r3a
      simp only [HFLN.out] at r3 r3a
      refine wpAnyH_take (i := 0) (v := ?_) rfl (by kernel_rfl) (by kernel_rfl) (by kernel_rfl) (fun _ _ _ h => h) (Or.inl ⟨by rfl, ?_⟩) (by assumption) ?_
      rotate_left
      · (intro w' hSw; go_simp; try with_reducible rfl)
      try simp only [Act.put, put8]
      refine wpAnyH_take (i := 1) (v := ?_) rfl (by kernel_rfl) (by kernel_rfl) (by kernel_rfl) (fun _ _ _ h => h) (Or.inl ⟨by rfl, ?_⟩) (by assumption) ?_
      rotate_left
      · (intro w' hSw; go_simp; try with_reducible rfl)
      try simp only [Act.put, put8]
      refine wpAnyH_take (i := 2) (v := ?_) rfl (by kernel_rfl) (by kernel_rfl) (by kernel_rfl) (fun _ _ _ h => h) (Or.inl ⟨by rfl, ?_⟩) (by assumption) ?_
      rotate_left
      · (intro w' hSw; go_simp; try with_reducible rfl)
      try simp only [Act.put, put8]
      refine wpAnyH_take (i := 3) (v := ?_) rfl (by kernel_rfl) (by kernel_rfl) (by kernel_rfl) (fun _ _ _ h => h) (Or.inl ⟨by rfl, ?_⟩) (by assumption) ?_
      rotate_left
      · (intro w' hSw; go_simp; try with_reducible rfl)
      try simp only [Act.put, put8]
      refine wpAnyH_ready (rs := [4, 5]) (by kernel_rfl) (by simp) ?_
      refine AllReadyH.cons rfl (fun K hK => ?_) (AllReadyH.cons rfl (fun K hK => ?_) (AllReadyH.nil))
      · go_simp
        refine hK.out _ _ (hHeld) (fun hHeld => ?_)
        try simp only [Act.put, put8]
        clear hK K
        refine wpAnyH_ready (rs := [5]) (by kernel_rfl) (by simp) ?_
        refine AllReadyH.cons rfl (fun K hK => ?_) (AllReadyH.nil)
        go_simp
        refine hK.out _ _ (hHeld.alloc _) (fun hHeld => ?_)
        try simp only [Act.put, put8]
        clear hK K
        refine wpAnyH_ready (rs := [6]) (by kernel_rfl) (by simp) ?_
        refine AllReadyH.cons rfl (fun K hK => ?_) (AllReadyH.nil)
        go_simp
        refine (rnew_any (some ⟨w5.heap.size, 0, none⟩) 0 0 [] (w5.alloc (.cells #[] 5)) (by decide) (Own.lit w5 5 1 #[] 0 (by decide) rfl).rd).mono ?_
        rintro ee w6 ⟨g, L, rfl, hsp, hc, hL⟩
        have HSP := Lib.hid hsp
        have HQ6 : Hid (Chg [] w5 w6) := Lib.hid (((Chg.refl [] w5).alloc (.cells #[] 5)).trans0 hc)
        have HL : Hid (∀ k ∈ L, w5.heap.size ≤ k) := Lib.hid (fun k hk => Nat.le_trans ((Chg.refl [] w5).alloc (.cells #[] 5)).size (hL k hk))
        have HM6 := Lib.hid (HM5.out.keep0 HQ6.out)
        have q3 := HM6.out.blk.cell 3
        have q3a := (HM6.out.keep0 ((Chg.refl [] w6).alloc (.cells #[.pointer (some ⟨g, 0, none⟩)] 109))).blk.cell 3
        simp only [List.getElem?_toArray, List.getElem?_cons_succ, List.getElem?_cons_zero] at q3 q3a
        simp only [HFLN.out] at q3 q3a
        have hHc := hHeld.trans0 hc
        clear hsp hc hL
        refine hK.out _ _ (hHc) (fun hHeld => ?_)
        try simp only [Act.put, put8]
        clear hK K
        refine wpAnyH_ready (rs := [7]) (by kernel_rfl) (by simp) ?_
        refine AllReadyH.cons rfl (fun K hK => ?_) (AllReadyH.nil)
        go_simp
        have HOW : Hid (Own (w6.alloc (.cells #[.pointer (some ⟨g, 0, none⟩)] 109)) 109 1 R.fA FL R.fc (R.sg.map pv8)) := Lib.hid (by have := HM6.out.fil.chg ((Chg.refl [] w6).alloc (.cells #[.pointer (some ⟨g, 0, none⟩)] 109)) (fun _ _ => List.not_mem_nil); rw [HFLN.out] at this; exact this)
        have hHa := hHeld.alloc (.cells #[.pointer (some ⟨g, 0, none⟩)] 109)
        refine hK.out _ _ (hHa) (fun hHeld => ?_)
        try simp only [Act.put, put8]
        clear hK K
        refine wpAnyH_ready (rs := [8]) (by kernel_rfl) (by simp) ?_
        refine AllReadyH.cons rfl (fun K hK => ?_) (AllReadyH.nil)
        refine step_app rfl _ _ rfl etyRSpools rfl HOW.out rfl (Own.lit w6 109 1 #[.pointer (some ⟨g, 0, none⟩)] 1 (by decide) rfl).rd (by intro u hu; simp at hu; subst hu; rfl) (by unfold maxLen; omega) (by omega) ?_
        intro A7 c7 w7 hown7 hchg7 hnew7 _
        have HO7 := Lib.hid hown7
        have HC7 : Hid (Chg (bo R.fA) w6 w7) := Lib.hid ((((Chg.refl [] w6).alloc (.cells #[.pointer (some ⟨g, 0, none⟩)] 109)).nil _).trans hchg7 (fun x hx => .inl hx))
        have HN7 : Hid (∀ k ∈ bo A7, k ∈ bo R.fA ∨ w6.heap.size ≤ k) := Lib.hid (fun k hk => (hnew7 k hk).imp id (fun h => by have := h.1; simp at this; omega))
        have hbk7 := HM6.out.blk.chg HC7.out (fun hm => HM6.out.ne0 (i := 1) rfl _ hm (by simp))
        have y3 := hbk7.cell 3
        have f3 := hbk7.frozen 3
        simp only [List.getElem?_toArray, List.getElem?_cons_succ, List.getElem?_cons_zero] at y3
        simp only [HFLN.out] at y3
        have hH7 := hHa.trans hchg7 (fun x hx => .inl (List.mem_cons_of_mem _ hx))
        clear hown7 hchg7 hnew7 hbk7
        refine hK.out _ _ (hH7) (fun hHeld => ?_)
        try simp only [Act.put, put8]
        clear hK K
        refine wpAnyH_take (i := 9) (v := ?_) rfl (by kernel_rfl) (by kernel_rfl) (by kernel_rfl) (fun _ _ _ h => h) (Or.inl ⟨by rfl, ?_⟩) (by assumption) ?_
        rotate_left
        · (intro w' hSw; go_simp; try with_reducible rfl)
        try simp only [Act.put, put8]
        refine wpAnyH_take (i := 10) (v := ?_) rfl (by kernel_rfl) (by kernel_rfl) (by kernel_rfl) (fun _ _ _ h => h) (Or.inl ⟨by rfl, ?_⟩) (by assumption) ?_
        rotate_left
        · (intro w' hSw; go_simp; try with_reducible rfl)
        try simp only [Act.put, put8]
        refine wpAnyH_ready (rs := [11]) (by kernel_rfl) (by simp) ?_
        refine AllReadyH.cons rfl (fun K hK => ?_) (AllReadyH.nil)
        go_simp
        refine hK.out _ _ (hH7.setCell (.inl (by simp)) _) (fun hHeld => ?_)
        try simp only [Act.put, put8]
        clear hK K
        refine wpAnyH_done (by kernel_rfl) ?_ _
        try simp only [Act.put, put8]
        have HT := Lib.hid (HM5.out.newFil (f := ([], [])) HQ6.out HL.out HSP.out (by have := HO7.out; rw [List.map_append, HFLN.out]; exact this) HC7.out HN7.out)
        rw [HFLN.out] at HT
        clear hHeld hHc hHa hH7 y3 f3 q3 q3a r3 r3a
        generalize w7.setCell ⟨R.b, 3, none⟩ (.slice A7 (FL + 1) c7) = w8 at HT ⊢
        obtain ⟨R2, hR2, hb2, hs2, hc2⟩ := HT.out
        have HTO2 : Hid (∀ S' w', RfTo w8 R2 S' w' → RfTo w R S' w') := Lib.hid (fun S' w' h => HTO5.out S' w' (RfTo.next hc2 hb2 hs2 h))
        have HB2 := Lib.hid hb2
        have HM2 := Lib.hid hR2
        have r3b := hR2.blk.cell 3
        rw [hb2] at r3b
        simp only [List.getElem?_toArray, List.getElem?_cons_succ, List.getElem?_cons_zero, List.length_append, List.length_cons, List.length_nil, HFLN.out] at r3b
        clear hR2 hb2 hs2 hc2
        have hsub : IntKind.i64.wrap (((FL + 1 : Nat) : Int) - 1) = (FL : Int) := by rw [IntKind.wrap_i64]; omega
        have hsub2 : ((FL + 1 : Nat) : Int) - 1 = (FL : Int) := by omega
        have hsub3 : (FL : Int) + 1 - 1 = (FL : Int) := by omega
        go_wp2_with fail
        have hmk := rmake_any HM2.out (by show S.chs.length + 1 ≤ _; exact (HI.out.room HB.out).1) (by show S.steps + 1 ≤ _; exact (HI.out.room HB.out).2) (.create d n FL) 2 d n noS (FL : Int) rfl (HM2.out.done_ok (HI.out.addFile []) (by have := HBB.out; simp only [List.length_nil]; omega) (fun A n0 c rs w' hT hn hv => rdone_create A n0 c rs d n FL F w' hT hn (by rw [hv]; exact HFF.out) (by have := HFL2.out; have := HB.out; omega)))
        rw [HB2.out] at hmk
        refine hmk.mono ?_
        clear hmk
        rintro e w9 ⟨rfl, hto⟩
        have HTO := Lib.hid hto
        clear hto r3b hsub hsub2 hsub3
        go_wp2
        go_ret
        refine ⟨by rw [HRES.out]; rfl, ?_⟩
        rw [HRES.out]
        exact HTO2.out _ _ HTO.out
      · go_simp
        refine hK.out _ _ (hHeld.alloc _) (fun hHeld => ?_)
        try simp only [Act.put, put8]
        clear hK K
        refine wpAnyH_ready (rs := [4, 6]) (by kernel_rfl) (by simp) ?_
        refine AllReadyH.cons rfl (fun K hK => ?_) (AllReadyH.cons rfl (fun K hK => ?_) (AllReadyH.nil))
        · go_simp
          refine hK.out _ _ (hHeld) (fun hHeld => ?_)
          try simp only [Act.put, put8]
          clear hK K
          refine wpAnyH_ready (rs := [6]) (by kernel_rfl) (by simp) ?_
          refine AllReadyH.cons rfl (fun K hK => ?_) (AllReadyH.nil)
          go_simp
          refine (rnew_any (some ⟨w5.heap.size, 0, none⟩) 0 0 [] (w5.alloc (.cells #[] 5)) (by decide) (Own.lit w5 5 1 #[] 0 (by decide) rfl).rd).mono ?_
          rintro ee w6 ⟨g, L, rfl, hsp, hc, hL⟩
          have HSP := Lib.hid hsp
          have HQ6 : Hid (Chg [] w5 w6) := Lib.hid (((Chg.refl [] w5).alloc (.cells #[] 5)).trans0 hc)
          have HL : Hid (∀ k ∈ L, w5.heap.size ≤ k) := Lib.hid (fun k hk => Nat.le_trans ((Chg.refl [] w5).alloc (.cells #[] 5)).size (hL k hk))
          have HM6 := Lib.hid (HM5.out.keep0 HQ6.out)
          have q3 := HM6.out.blk.cell 3
          have q3a := (HM6.out.keep0 ((Chg.refl [] w6).alloc (.cells #[.pointer (some ⟨g, 0, none⟩)] 109))).blk.cell 3
          simp only [List.getElem?_toArray, List.getElem?_cons_succ, List.getElem?_cons_zero] at q3 q3a
          simp only [HFLN.out] at q3 q3a
          have hHc := hHeld.trans0 hc
          clear hsp hc hL
          refine hK.out _ _ (hHc) (fun hHeld => ?_)
          try simp only [Act.put, put8]
          clear hK K
          refine wpAnyH_ready (rs := [7]) (by kernel_rfl) (by simp) ?_
          refine AllReadyH.cons rfl (fun K hK => ?_) (AllReadyH.nil)
          go_simp
          have HOW : Hid (Own (w6.alloc (.cells #[.pointer (some ⟨g, 0, none⟩)] 109)) 109 1 R.fA FL R.fc (R.sg.map pv8)) := Lib.hid (by have := HM6.out.fil.chg ((Chg.refl [] w6).alloc (.cells #[.pointer (some ⟨g, 0, none⟩)] 109)) (fun _ _ => List.not_mem_nil); rw [HFLN.out] at this; exact this)
          have hHa := hHeld.alloc (.cells #[.pointer (some ⟨g, 0, none⟩)] 109)
          refine hK.out _ _ (hHa) (fun hHeld => ?_)
          try simp only [Act.put, put8]
          clear hK K
          refine wpAnyH_ready (rs := [8]) (by kernel_rfl) (by simp) ?_
          refine AllReadyH.cons rfl (fun K hK => ?_) (AllReadyH.nil)
          refine step_app rfl _ _ rfl etyRSpools rfl HOW.out rfl (Own.lit w6 109 1 #[.pointer (some ⟨g, 0, none⟩)] 1 (by decide) rfl).rd (by intro u hu; simp at hu; subst hu; rfl) (by unfold maxLen; omega) (by omega) ?_
          intro A7 c7 w7 hown7 hchg7 hnew7 _
          have HO7 := Lib.hid hown7
          have HC7 : Hid (Chg (bo R.fA) w6 w7) := Lib.hid ((((Chg.refl [] w6).alloc (.cells #[.pointer (some ⟨g, 0, none⟩)] 109)).nil _).trans hchg7 (fun x hx => .inl hx))
          have HN7 : Hid (∀ k ∈ bo A7, k ∈ bo R.fA ∨ w6.heap.size ≤ k) := Lib.hid (fun k hk => (hnew7 k hk).imp id (fun h => by have := h.1; simp at this; omega))
          have hbk7 := HM6.out.blk.chg HC7.out (fun hm => HM6.out.ne0 (i := 1) rfl _ hm (by simp))
          have y3 := hbk7.cell 3
          have f3 := hbk7.frozen 3
          simp only [List.getElem?_toArray, List.getElem?_cons_succ, List.getElem?_cons_zero] at y3
          simp only [HFLN.out] at y3
          have hH7 := hHa.trans hchg7 (fun x hx => .inl (List.mem_cons_of_mem _ hx))
          clear hown7 hchg7 hnew7 hbk7
          refine hK.out _ _ (hH7) (fun hHeld => ?_)
          try simp only [Act.put, put8]
          clear hK K
          refine wpAnyH_take (i := 9) (v := ?_) rfl (by kernel_rfl) (by kernel_rfl) (by kernel_rfl) (fun _ _ _ h => h) (Or.inl ⟨by rfl, ?_⟩) (by assumption) ?_
          rotate_left
          · (intro w' hSw; go_simp; try with_reducible rfl)
          try simp only [Act.put, put8]
          refine wpAnyH_take (i := 10) (v := ?_) rfl (by kernel_rfl) (by kernel_rfl) (by kernel_rfl) (fun _ _ _ h => h) (Or.inl ⟨by rfl, ?_⟩) (by assumption) ?_
          rotate_left
          · (intro w' hSw; go_simp; try with_reducible rfl)
          try simp only [Act.put, put8]
          refine wpAnyH_ready (rs := [11]) (by kernel_rfl) (by simp) ?_
          refine AllReadyH.cons rfl (fun K hK => ?_) (AllReadyH.nil)
          go_simp
          refine hK.out _ _ (hH7.setCell (.inl (by simp)) _) (fun hHeld => ?_)
          try simp only [Act.put, put8]
          clear hK K
          refine wpAnyH_done (by kernel_rfl) ?_ _
          try simp only [Act.put, put8]
          have HT := Lib.hid (HM5.out.newFil (f := ([], [])) HQ6.out HL.out HSP.out (by have := HO7.out; rw [List.map_append, HFLN.out]; exact this) HC7.out HN7.out)
          rw [HFLN.out] at HT
          clear hHeld hHc hHa hH7 y3 f3 q3 q3a r3 r3a
          generalize w7.setCell ⟨R.b, 3, none⟩ (.slice A7 (FL + 1) c7) = w8 at HT ⊢
          obtain ⟨R2, hR2, hb2, hs2, hc2⟩ := HT.out
          have HTO2 : Hid (∀ S' w', RfTo w8 R2 S' w' → RfTo w R S' w') := Lib.hid (fun S' w' h => HTO5.out S' w' (RfTo.next hc2 hb2 hs2 h))
          have HB2 := Lib.hid hb2
          have HM2 := Lib.hid hR2
          have r3b := hR2.blk.cell 3
          rw [hb2] at r3b
          simp only [List.getElem?_toArray, List.getElem?_cons_succ, List.getElem?_cons_zero, List.length_append, List.length_cons, List.length_nil, HFLN.out] at r3b
          clear hR2 hb2 hs2 hc2
          have hsub : IntKind.i64.wrap (((FL + 1 : Nat) : Int) - 1) = (FL : Int) := by rw [IntKind.wrap_i64]; omega
          have hsub2 : ((FL + 1 : Nat) : Int) - 1 = (FL : Int) := by omega
          have hsub3 : (FL : Int) + 1 - 1 = (FL : Int) := by omega
          go_wp2_with fail
          have hmk := rmake_any HM2.out (by show S.chs.length + 1 ≤ _; exact (HI.out.room HB.out).1) (by show S.steps + 1 ≤ _; exact (HI.out.room HB.out).2) (.create d n FL) 2 d n noS (FL : Int) rfl (HM2.out.done_ok (HI.out.addFile []) (by have := HBB.out; simp only [List.length_nil]; omega) (fun A n0 c rs w' hT hn hv => rdone_create A n0 c rs d n FL F w' hT hn (by rw [hv]; exact HFF.out) (by have := HFL2.out; have := HB.out; omega)))
          rw [HB2.out] at hmk
          refine hmk.mono ?_
          clear hmk
          rintro e w9 ⟨rfl, hto⟩
          have HTO := Lib.hid hto
          clear hto r3b hsub hsub2 hsub3
          go_wp2
          go_ret
          refine ⟨by rw [HRES.out]; rfl, ?_⟩
          rw [HRES.out]
          exact HTO2.out _ _ HTO.out
        · go_simp
          refine (rnew_any (some ⟨w5.heap.size, 0, none⟩) 0 0 [] (w5.alloc (.cells #[] 5)) (by decide) (Own.lit w5 5 1 #[] 0 (by decide) rfl).rd).mono ?_
          rintro ee w6 ⟨g, L, rfl, hsp, hc, hL⟩
          have HSP := Lib.hid hsp
          have HQ6 : Hid (Chg [] w5 w6) := Lib.hid (((Chg.refl [] w5).alloc (.cells #[] 5)).trans0 hc)
          have HL : Hid (∀ k ∈ L, w5.heap.size ≤ k) := Lib.hid (fun k hk => Nat.le_trans ((Chg.refl [] w5).alloc (.cells #[] 5)).size (hL k hk))
          have HM6 := Lib.hid (HM5.out.keep0 HQ6.out)
          have q3 := HM6.out.blk.cell 3
          have q3a := (HM6.out.keep0 ((Chg.refl [] w6).alloc (.cells #[.pointer (some ⟨g, 0, none⟩)] 109))).blk.cell 3
          simp only [List.getElem?_toArray, List.getElem?_cons_succ, List.getElem?_cons_zero] at q3 q3a
          simp only [HFLN.out] at q3 q3a
          have hHc := hHeld.trans0 hc
          clear hsp hc hL
          refine hK.out _ _ (hHc) (fun hHeld => ?_)
          try simp only [Act.put, put8]
          clear hK K
          refine wpAnyH_ready (rs := [4, 7]) (by kernel_rfl) (by simp) ?_
          refine AllReadyH.cons rfl (fun K hK => ?_) (AllReadyH.cons rfl (fun K hK => ?_) (AllReadyH.nil))
          · go_simp
            refine hK.out _ _ (hHeld) (fun hHeld => ?_)
            try simp only [Act.put, put8]
            clear hK K
            refine wpAnyH_ready (rs := [7]) (by kernel_rfl) (by simp) ?_
            refine AllReadyH.cons rfl (fun K hK => ?_) (AllReadyH.nil)
            go_simp
            have HOW : Hid (Own (w6.alloc (.cells #[.pointer (some ⟨g, 0, none⟩)] 109)) 109 1 R.fA FL R.fc (R.sg.map pv8)) := Lib.hid (by have := HM6.out.fil.chg ((Chg.refl [] w6).alloc (.cells #[.pointer (some ⟨g, 0, none⟩)] 109)) (fun _ _ => List.not_mem_nil); rw [HFLN.out] at this; exact this)
            have hHa := hHeld.alloc (.cells #[.pointer (some ⟨g, 0, none⟩)] 109)
            refine hK.out _ _ (hHa) (fun hHeld => ?_)
            try simp only [Act.put, put8]
            clear hK K
            refine wpAnyH_ready (rs := [8]) (by kernel_rfl) (by simp) ?_
            refine AllReadyH.cons rfl (fun K hK => ?_) (AllReadyH.nil)
            refine step_app rfl _ _ rfl etyRSpools rfl HOW.out rfl (Own.lit w6 109 1 #[.pointer (some ⟨g, 0, none⟩)] 1 (by decide) rfl).rd (by intro u hu; simp at hu; subst hu; rfl) (by unfold maxLen; omega) (by omega) ?_
            intro A7 c7 w7 hown7 hchg7 hnew7 _
            have HO7 := Lib.hid hown7
            have HC7 : Hid (Chg (bo R.fA) w6 w7) := Lib.hid ((((Chg.refl [] w6).alloc (.cells #[.pointer (some ⟨g, 0, none⟩)] 109)).nil _).trans hchg7 (fun x hx => .inl hx))
            have HN7 : Hid (∀ k ∈ bo A7, k ∈ bo R.fA ∨ w6.heap.size ≤ k) := Lib.hid (fun k hk => (hnew7 k hk).imp id (fun h => by have := h.1; simp at this; omega))
            have hbk7 := HM6.out.blk.chg HC7.out (fun hm => HM6.out.ne0 (i := 1) rfl _ hm (by simp))
            have y3 := hbk7.cell 3
            have f3 := hbk7.frozen 3
            simp only [List.getElem?_toArray, List.getElem?_cons_succ, List.getElem?_cons_zero] at y3
            simp only [HFLN.out] at y3
            have hH7 := hHa.trans hchg7 (fun x hx => .inl (List.mem_cons_of_mem _ hx))
            clear hown7 hchg7 hnew7 hbk7
            refine hK.out _ _ (hH7) (fun hHeld => ?_)
            try simp only [Act.put, put8]
            clear hK K
            refine wpAnyH_take (i := 9) (v := ?_) rfl (by kernel_rfl) (by kernel_rfl) (by kernel_rfl) (fun _ _ _ h => h) (Or.inl ⟨by rfl, ?_⟩) (by assumption) ?_
            rotate_left
            · (intro w' hSw; go_simp; try with_reducible rfl)
            try simp only [Act.put, put8]
            refine wpAnyH_take (i := 10) (v := ?_) rfl (by kernel_rfl) (by kernel_rfl) (by kernel_rfl) (fun _ _ _ h => h) (Or.inl ⟨by rfl, ?_⟩) (by assumption) ?_
            rotate_left
            · (intro w' hSw; go_simp; try with_reducible rfl)
            try simp only [Act.put, put8]
            refine wpAnyH_ready (rs := [11]) (by kernel_rfl) (by simp) ?_
            refine AllReadyH.cons rfl (fun K hK => ?_) (AllReadyH.nil)
            go_simp
            refine hK.out _ _ (hH7.setCell (.inl (by simp)) _) (fun hHeld => ?_)
            try simp only [Act.put, put8]
            clear hK K
            refine wpAnyH_done (by kernel_rfl) ?_ _
            try simp only [Act.put, put8]
            have HT := Lib.hid (HM5.out.newFil (f := ([], [])) HQ6.out HL.out HSP.out (by have := HO7.out; rw [List.map_append, HFLN.out]; exact this) HC7.out HN7.out)
            rw [HFLN.out] at HT
            clear hHeld hHc hHa hH7 y3 f3 q3 q3a r3 r3a
            generalize w7.setCell ⟨R.b, 3, none⟩ (.slice A7 (FL + 1) c7) = w8 at HT ⊢
            obtain ⟨R2, hR2, hb2, hs2, hc2⟩ := HT.out
            have HTO2 : Hid (∀ S' w', RfTo w8 R2 S' w' → RfTo w R S' w') := Lib.hid (fun S' w' h => HTO5.out S' w' (RfTo.next hc2 hb2 hs2 h))
            have HB2 := Lib.hid hb2
            have HM2 := Lib.hid hR2
            have r3b := hR2.blk.cell 3
            rw [hb2] at r3b
            simp only [List.getElem?_toArray, List.getElem?_cons_succ, List.getElem?_cons_zero, List.length_append, List.length_cons, List.length_nil, HFLN.out] at r3b
            clear hR2 hb2 hs2 hc2
            have hsub : IntKind.i64.wrap (((FL + 1 : Nat) : Int) - 1) = (FL : Int) := by rw [IntKind.wrap_i64]; omega
            have hsub2 : ((FL + 1 : Nat) : Int) - 1 = (FL : Int) := by omega
            have hsub3 : (FL : Int) + 1 - 1 = (FL : Int) := by omega
            go_wp2_with fail
            have hmk := rmake_any HM2.out (by show S.chs.length + 1 ≤ _; exact (HI.out.room HB.out).1) (by show S.steps + 1 ≤ _; exact (HI.out.room HB.out).2) (.create d n FL) 2 d n noS (FL : Int) rfl (HM2.out.done_ok (HI.out.addFile []) (by have := HBB.out; simp only [List.length_nil]; omega) (fun A n0 c rs w' hT hn hv => rdone_create A n0 c rs d n FL F w' hT hn (by rw [hv]; exact HFF.out) (by have := HFL2.out; have := HB.out; omega)))
            rw [HB2.out] at hmk
            refine hmk.mono ?_
            clear hmk
            rintro e w9 ⟨rfl, hto⟩
            have HTO := Lib.hid hto
            clear hto r3b hsub hsub2 hsub3
            go_wp2
            go_ret
            refine ⟨by rw [HRES.out]; rfl, ?_⟩
            rw [HRES.out]
            exact HTO2.out _ _ HTO.out
          · go_simp
            have HOW : Hid (Own (w6.alloc (.cells #[.pointer (some ⟨g, 0, none⟩)] 109)) 109 1 R.fA FL R.fc (R.sg.map pv8)) := Lib.hid (by have := HM6.out.fil.chg ((Chg.refl [] w6).alloc (.cells #[.pointer (some ⟨g, 0, none⟩)] 109)) (fun _ _ => List.not_mem_nil); rw [HFLN.out] at this; exact this)
            have hHa := hHeld.alloc (.cells #[.pointer (some ⟨g, 0, none⟩)] 109)
            refine hK.out _ _ (hHa) (fun hHeld => ?_)
            try simp only [Act.put, put8]
            clear hK K
            refine wpAnyH_ready (rs := [4]) (by kernel_rfl) (by simp) ?_
            refine AllReadyH.cons rfl (fun K hK => ?_) (AllReadyH.nil)
            go_simp
            refine hK.out _ _ (hHeld) (fun hHeld => ?_)
            try simp only [Act.put, put8]
            clear hK K
            refine wpAnyH_ready (rs := [8]) (by kernel_rfl) (by simp) ?_
            refine AllReadyH.cons rfl (fun K hK => ?_) (AllReadyH.nil)
            refine step_app rfl _ _ rfl etyRSpools rfl HOW.out rfl (Own.lit w6 109 1 #[.pointer (some ⟨g, 0, none⟩)] 1 (by decide) rfl).rd (by intro u hu; simp at hu; subst hu; rfl) (by unfold maxLen; omega) (by omega) ?_
            intro A7 c7 w7 hown7 hchg7 hnew7 _
            have HO7 := Lib.hid hown7
            have HC7 : Hid (Chg (bo R.fA) w6 w7) := Lib.hid ((((Chg.refl [] w6).alloc (.cells #[.pointer (some ⟨g, 0, none⟩)] 109)).nil _).trans hchg7 (fun x hx => .inl hx))
            have HN7 : Hid (∀ k ∈ bo A7, k ∈ bo R.fA ∨ w6.heap.size ≤ k) := Lib.hid (fun k hk => (hnew7 k hk).imp id (fun h => by have := h.1; simp at this; omega))
            have hbk7 := HM6.out.blk.chg HC7.out (fun hm => HM6.out.ne0 (i := 1) rfl _ hm (by simp))
            have y3 := hbk7.cell 3
            have f3 := hbk7.frozen 3
            simp only [List.getElem?_toArray, List.getElem?_cons_succ, List.getElem?_cons_zero] at y3
            simp only [HFLN.out] at y3
            have hH7 := hHa.trans hchg7 (fun x hx => .inl (List.mem_cons_of_mem _ hx))
            clear hown7 hchg7 hnew7 hbk7
            refine hK.out _ _ (hH7) (fun hHeld => ?_)
            try simp only [Act.put, put8]
            clear hK K
            refine wpAnyH_take (i := 9) (v := ?_) rfl (by kernel_rfl) (by kernel_rfl) (by kernel_rfl) (fun _ _ _ h => h) (Or.inl ⟨by rfl, ?_⟩) (by assumption) ?_
            rotate_left
            · (intro w' hSw; go_simp; try with_reducible rfl)
            try simp only [Act.put, put8]
            refine wpAnyH_take (i := 10) (v := ?_) rfl (by kernel_rfl) (by kernel_rfl) (by kernel_rfl) (fun _ _ _ h => h) (Or.inl ⟨by rfl, ?_⟩) (by assumption) ?_
            rotate_left
            · (intro w' hSw; go_simp; try with_reducible rfl)
            try simp only [Act.put, put8]
            refine wpAnyH_ready (rs := [11]) (by kernel_rfl) (by simp) ?_
            refine AllReadyH.cons rfl (fun K hK => ?_) (AllReadyH.nil)
            go_simp
            refine hK.out _ _ (hH7.setCell (.inl (by simp)) _) (fun hHeld => ?_)
            try simp only [Act.put, put8]
            clear hK K
            refine wpAnyH_done (by kernel_rfl) ?_ _
            try simp only [Act.put, put8]
            have HT := Lib.hid (HM5.out.newFil (f := ([], [])) HQ6.out HL.out HSP.out (by have := HO7.out; rw [List.map_append, HFLN.out]; exact this) HC7.out HN7.out)
            rw [HFLN.out] at HT
            clear hHeld hHc hHa hH7 y3 f3 q3 q3a r3 r3a
            generalize w7.setCell ⟨R.b, 3, none⟩ (.slice A7 (FL + 1) c7) = w8 at HT ⊢
            obtain ⟨R2, hR2, hb2, hs2, hc2⟩ := HT.out
            have HTO2 : Hid (∀ S' w', RfTo w8 R2 S' w' → RfTo w R S' w') := Lib.hid (fun S' w' h => HTO5.out S' w' (RfTo.next hc2 hb2 hs2 h))
            have HB2 := Lib.hid hb2
            have HM2 := Lib.hid hR2
            have r3b := hR2.blk.cell 3
            rw [hb2] at r3b
            simp only [List.getElem?_toArray, List.getElem?_cons_succ, List.getElem?_cons_zero, List.length_append, List.length_cons, List.length_nil, HFLN.out] at r3b
            clear hR2 hb2 hs2 hc2
            have hsub : IntKind.i64.wrap (((FL + 1 : Nat) : Int) - 1) = (FL : Int) := by rw [IntKind.wrap_i64]; omega
            have hsub2 : ((FL + 1 : Nat) : Int) - 1 = (FL : Int) := by omega
            have hsub3 : (FL : Int) + 1 - 1 = (FL : Int) := by omega
            go_wp2_with fail
            have hmk := rmake_any HM2.out (by show S.chs.length + 1 ≤ _; exact (HI.out.room HB.out).1) (by show S.steps + 1 ≤ _; exact (HI.out.room HB.out).2) (.create d n FL) 2 d n noS (FL : Int) rfl (HM2.out.done_ok (HI.out.addFile []) (by have := HBB.out; simp only [List.length_nil]; omega) (fun A n0 c rs w' hT hn hv => rdone_create A n0 c rs d n FL F w' hT hn (by rw [hv]; exact HFF.out) (by have := HFL2.out; have := HB.out; omega)))
            rw [HB2.out] at hmk
            refine hmk.mono ?_
            clear hmk
            rintro e w9 ⟨rfl, hto⟩
            have HTO := Lib.hid hto
            clear hto r3b hsub hsub2 hsub3
            go_wp2
            go_ret
            refine ⟨by rw [HRES.out]; rfl, ?_⟩
            rw [HRES.out]
            exact HTO2.out _ _ HTO.out
end Go.Proofs.YtgomofeidghmiaaGreat
