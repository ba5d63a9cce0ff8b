/-
  Layer 08: the document's Durable.
-/
import Derived.Test.YtgomofeidghmiaaGreatVfZg
namespace Go.Proofs.YtgomofeidghmiaaGreat
open Go.RowKit

theorem etyBoolsZ : Ety Tryz.prog 50 4 1 1 (.bool false) := .mk' Tryz.underlying50 (by kernel_rfl) rfl (by decide)
theorem RTree.fold {w : World} {A : Option Addr} {n c : Nat} {rs : List RF} (h : RTree w A n c rs) {i : Nat} {p : ByteArray × Fol} (hp : (rval rs)[i]? = some p) :
    ∃ ad fA fn fc, A = some ad ∧ NsAt w (ad.add (i * 2)) ⟨p.1, fA, fn, fc⟩ ∧ Rd w 2 fA fn fc (nmv p.2) ∧ (∀ k ∈ bo fA, k ∈ rblk rs) ∧ ad.block ∈ bo A := by
  obtain ⟨x, hx, h1, h2⟩ := rs_at hp
  obtain ⟨⟨xn, fA, fn, fc⟩, xF⟩ := x
  simp only at h1 h2
  subst h1; subst h2
  obtain ⟨ad, hA, hat⟩ := h.row.ns (rnsl_at hx)
  have hm := List.mem_of_getElem? hx
  exact ⟨ad, fA, fn, fc, hA, hat, h.fil _ hm, rblk_mem hm, by rw [hA]; simp⟩
theorem chv_get (cs : List Chn) (i k : Nat) (hk : k < 5) : (chv cs)[i * 5 + k]? = (cs[i]?).bind fun c => (chc c)[k]? := by
  induction cs generalizing i with
  | nil => simp [chv]
  | cons x r ih =>
    simp only [chv, List.flatMap_cons]
    cases i with
    | zero => rw [List.getElem?_append_left (by rw [chc_length]; omega)]; simp
    | succ i =>
      rw [List.getElem?_append_right (by rw [chc_length]; omega)]
      have : (i + 1) * 5 + k - (chc x).length = i * 5 + k := by rw [chc_length]; omega
      rw [this]
      simpa [chv] using ih i
/-- a change as it lies in the row -/
theorem RfM.chn_at {w : World} {R : RfG} {S : St} (h : RfM w R S) {i : Nat} {c : Chn} (hc : S.chs[i]? = some c) : ∃ a, R.cA = some a ∧ w.cell? (a.add (i * 5)) = (chc c)[0]? ∧ w.cell? ⟨(a.add (i * 5)).block, (a.add (i * 5)).off + 1, none⟩ = (chc c)[1]? ∧ w.cell? ⟨(a.add (i * 5)).block, (a.add (i * 5)).off + 2, none⟩ = (chc c)[2]? ∧
    w.cell? ⟨(a.add (i * 5)).block, (a.add (i * 5)).off + 3, none⟩ = (chc c)[3]? ∧ w.cell? ⟨(a.add (i * 5)).block, (a.add (i * 5)).off + 4, none⟩ = (chc c)[4]? := by
  have hil := (List.getElem?_eq_some_iff.1 hc).1
  have hr := h.chg.rd
  obtain ⟨a, hA, _⟩ := hr.some_ (by omega)
  have hk : ∀ k, k < 5 → w.cell? (a.add (i * 5 + k)) = (chc c)[k]? := fun k hk => by
    have h1 := chv_get S.chs i k hk
    rw [hc] at h1
    simp only [Option.bind_some] at h1
    have h2 : (chc c)[k]? = some ((chc c)[k]'(by rw [chc_length]; omega)) := List.getElem?_eq_getElem _
    rw [h2] at h1 ⊢
    exact (hr.2.2.2.2 a hA).2 _ _ h1
  refine ⟨a, hA, hk 0 (by decide), ?_, ?_, ?_, ?_⟩
  · have := hk 1 (by decide); rwa [add_field a (i * 5) 0] at this
  · have := hk 2 (by decide); rwa [add_field a (i * 5) 1] at this
  · have := hk 3 (by decide); rwa [add_field a (i * 5) 2] at this
  · have := hk 4 (by decide); rwa [add_field a (i * 5) 3] at this
/-- which pending writes are kept, as far as the j-th -/
def kpJ (wr : List Nat) (ks : List Bool) (x j : Nat) : List Bool := ((wr.zipIdx.take j).filter fun p => p.1 == x).map fun p => (ks[p.2]?).getD false
theorem kpJ_all {S : St} {ks : List Bool} {x j : Nat} (h : S.wr.length ≤ j) : kpJ S.wr ks x j = S.keep ks x := by
  unfold kpJ St.keep
  rw [List.take_of_length_le (by simpa using h)]
theorem kpJ_succ {wr : List Nat} {ks : List Bool} {x j y : Nat} (h : wr[j]? = some y) : kpJ wr ks x (j + 1) = kpJ wr ks x j ++ (if (y == x) = true then [(ks[j]?).getD false] else []) := by
  unfold kpJ
  have hz : wr.zipIdx[j]? = some (y, j) := by rw [List.getElem?_zipIdx, h]; simp
  rw [take_snoc _ _ _ hz, List.filter_append, List.map_append, List.filter_cons]
  simp only [List.filter_nil]
  split <;> simp_all
theorem kpJ_len (wr : List Nat) (ks : List Bool) (x j : Nat) : (kpJ wr ks x j).length ≤ j := by
  unfold kpJ
  rw [List.length_map]
  refine Nat.le_trans (List.length_filter_le _ _) ?_
  rw [List.length_take]; omega

set_option maxRecDepth 100000 in
set_option maxHeartbeats 12800000 in
theorem rdurable_any {w : World} {R : RfG} {S : St} {B : Nat} (h : RfM w R S) (hi : Inv B S) (hB : B + 1 ≤ 536870912) (K : Option Addr) (kn kc : Nat) (ks : List Bool) (names : Int) (hk : Rd w 1 K kn kc (kv ks)) (hkn : kn ≤ 1073741824) :
    Calls Tryz.prog 20 #[.pointer (some ⟨R.b, 0, none⟩), .agg #[.slice K kn kc, .int .i64 names]] w (NewDsk w (S.left ks names)) := by
  have HR := Lib.hid h
  have HI := Lib.hid hi
  have HB := Lib.hid hB
  have HK := Lib.hid hk
  have HLT := Lib.hid h.lt
  have HRb : Hid (R.b ∈ R.all) := Lib.hid (RfG.mem_all (i := 0) (P := [R.b]) rfl (by simp))
  have hkl : ks.length = kn := by have := hk.1; simp at this; omega
  have HKL := Lib.hid hkl
  clear h hi hB hk hkl
  go_enter Tryz.func20, Tryz.ntmps20
  obtain ⟨fb, hfb⟩ : ∃ fb, w.heap.size = fb := ⟨_, rfl⟩
  obtain ⟨W, hW⟩ : ∃ W, w.alloc (.cells #[.slice K kn kc, .int .i64 names] 52) = W := ⟨_, rfl⟩
  have hbk : Blk W fb 52 #[.slice K kn kc, .int .i64 names] := by rw [← hW, ← hfb]; exact Blk.new w _ _
  have hcW : Chg [] w W := by rw [← hW]; exact (Chg.refl [] w).alloc _
  have HBK := Lib.hid hbk
  have HFBL : Hid (fb < W.heap.size) := Lib.hid hbk.lt
  have HCW := Lib.hid hcW
  have HRW := Lib.hid (HR.out.keep0 hcW)
  have r1 := HRW.out.blk.cell 1
  simp only [List.getElem?_toArray, List.getElem?_cons_succ, List.getElem?_cons_zero] at r1
  clear hbk hcW
  go_wp2_with fail
  refine (rcopied_any _ _ _ R.ps W HRW.out.safe (by have := wd_len S.safe; have := HI.out.wds; have := HB.out; omega) (fun r hr => by
    have h1 : (r.1.nm, r.2) ∈ S.safe := by rw [← HRW.out.safev]; exact List.mem_map.2 ⟨r, hr, rfl⟩
    have h2 := (HRW.out.safe.fil r hr).nml
    have h3 := wd_sub h1
    have h4 := HI.out.wds
    have h5 := HB.out
    simp only at h3
    omega)).mono ?_
  rintro e w1 ⟨tA, tc, rs0, rfl, hT, hv, hc, hn⟩
  have HT1 := Lib.hid hT
  have HV1 : Hid (rval rs0 = S.safe) := Lib.hid (by rw [hv]; exact HRW.out.safev)
  have HC1 := Lib.hid hc
  have HN1 := Lib.hid hn
  have HRX := Lib.hid (HRW.out.keep0 hc)
  obtain ⟨CN, hCN⟩ : ∃ CN, S.chs.length = CN := ⟨_, rfl⟩
  have hcn : CN ≤ 536870912 := by have := HI.out.wds; have := HB.out; omega
  have HCN := Lib.hid hCN
  clear hT hv hc hn r1 hCN
  go_wp2
  go_loopw [5, 6] (fun o q wr => ∃ (i : Nat) (A : Option Addr) (c : Nat) (rs : List RF), i ≤ CN ∧ i ≤ names.toNat ∧ q = .int .i64 i ∧ o = .slice A (runC S.safe (S.chs.take i)).length c ∧ RTree wr A (runC S.safe (S.chs.take i)).length c rs ∧ rval rs = runC S.safe (S.chs.take i) ∧ Chg [] w1 wr ∧ ∀ k ∈ bo A ++ rblk rs, W.heap.size ≤ k ∧ k < wr.heap.size) (fun _ q _ => CN - (intOf q).toNat)
  case atStart => exact ⟨0, tA, tc, rs0, Nat.zero_le _, Nat.zero_le _, rfl, rfl, HT1.out, HV1.out, Chg.refl _ _, HN1.out⟩
  case round =>
    obtain ⟨i, A, c, rs, hi, hin, rfl, rfl, hT, hv, hch, hnw⟩ := hrel
    have HTR := Lib.hid hT
    have HRV := Lib.hid hv
    have HCH := Lib.hid hch
    have HNW := Lib.hid hnw
    have HRR := Lib.hid (HRX.out.keep0 hch)
    have HWD : Hid (wd (runC S.safe (S.chs.take i)) ≤ B) := Lib.hid (by
      have h1 := wd_run (okC_take HI.out.chs i)
      have h2 := HI.out.wds
      have h3 : (S.chs.take i).length ≤ S.chs.length := by rw [List.length_take]; omega
      omega)
    have hTl : (runC S.safe (S.chs.take i)).length ≤ 536870912 := by have := wd_len (runC S.safe (S.chs.take i)); have := HWD.out; have := HB.out; omega
    have r2 := HRR.out.blk.cell 2
    have f1 := (HBK.out.chg (HC1.out.trans0 hch) List.not_mem_nil).cell 1
    simp only [List.getElem?_toArray, List.getElem?_cons_succ, List.getElem?_cons_zero] at r2 f1
    simp only [HCN.out] at r2
    clear hT hv hch hnw
    obtain ⟨TN, hTN⟩ : ∃ TN, (runC S.safe (S.chs.take i)).length = TN := ⟨_, rfl⟩
    have HTN := Lib.hid hTN
    rw [hTN] at HTR hTl ⊢
    clear hTN
    by_cases hlt : i < CN ∧ (i : Int) < names
    · obtain ⟨hl1, hl2⟩ := hlt
      have hl1' : (i : Int) < CN := by omega
      obtain ⟨cn, hcn'⟩ : ∃ cn, S.chs[i]? = some cn := ⟨_, List.getElem?_eq_getElem (by have := HCN.out; omega)⟩
      have hok := okC_at HI.out.chs hcn'
      obtain ⟨a, hA, x0, x1, x2, x3, x4⟩ := HRR.out.chn_at hcn'
      rw [hA] at r2
      have HSTEP : Hid (runC S.safe (S.chs.take (i + 1)) = cn.on (runC S.safe (S.chs.take i))) := Lib.hid (by rw [take_snoc _ _ _ hcn', runC_snoc])
      clear hcn' hA
      cases cn with
      | mkdir d0 =>
        clear hok
        simp only [chc, List.getElem?_cons_zero, List.getElem?_cons_succ] at x0 x1 x2 x3 x4
        go_wp2_with fail
        refine (rdone_mkdir _ _ _ rs d0 wr HTR.out hTl).mono ?_
        rintro e w4 ⟨A4, c4, rs4, rfl, q1, q2, q3, q4⟩
        have hT2 : Chn.on (rval rs) (.mkdir d0) = runC S.safe (S.chs.take (i + 1)) := by rw [HSTEP.out, HRV.out]
        rw [hT2] at q1 q2 ⊢
        clear hT2 x0 x1 x2 x3 x4 r2 f1
        go_wp2
        go_roundw
        case rel => exact ⟨i + 1, A4, c4, rs4, by omega, by omega, by go_num, rfl, q1, q2, HCH.out.trans0 q3, fun k hk => by
          have z := q3.size
          have z2 := HCH.out.size
          have z0 := HC1.out.size
          rcases q4 k hk with h | h
          · have := HNW.out k (List.mem_append_right _ h); exact ⟨this.1, by omega⟩
          · exact ⟨by omega, h.2⟩⟩
        case measure => simp [intOf]; omega
      | create d0 n0 i0 =>
        obtain ⟨_, _, F0, hF0, _⟩ := hok
        have HF0 := Lib.hid hF0
        have HFB0 : Hid (F0.length ≤ B) := Lib.hid (by have h1 := wd_sub (aget_mem hF0); have h2 := HWD.out; simp only at h1; omega)
        clear hF0
        simp only [chc, List.getElem?_cons_zero, List.getElem?_cons_succ] at x0 x1 x2 x3 x4
        go_wp2_with fail
        refine (rdone_create _ _ _ rs d0 n0 i0 F0 wr HTR.out hTl (by rw [HRV.out]; exact HF0.out) (by have := HFB0.out; have := HB.out; omega)).mono ?_
        rintro e w4 ⟨A4, c4, rs4, rfl, q1, q2, q3, q4⟩
        have hT2 : Chn.on (rval rs) (.create d0 n0 i0) = runC S.safe (S.chs.take (i + 1)) := by rw [HSTEP.out, HRV.out]
        rw [hT2] at q1 q2 ⊢
        clear hT2 x0 x1 x2 x3 x4 r2 f1
        go_wp2
        go_roundw
        case rel => exact ⟨i + 1, A4, c4, rs4, by omega, by omega, by go_num, rfl, q1, q2, HCH.out.trans0 q3, fun k hk => by
          have z := q3.size
          have z2 := HCH.out.size
          have z0 := HC1.out.size
          rcases q4 k hk with h | h
          · have := HNW.out k (List.mem_append_right _ h); exact ⟨this.1, by omega⟩
          · exact ⟨by omega, h.2⟩⟩
        case measure => simp [intOf]; omega
      | rename d0 b0 =>
        obtain ⟨_, F0, hF0⟩ := hok
        have HF0 := Lib.hid hF0
        have HFB0 : Hid (F0.length ≤ B) := Lib.hid (by have h1 := wd_sub (aget_mem hF0); have h2 := HWD.out; simp only at h1; omega)
        clear hF0
        simp only [chc, List.getElem?_cons_zero, List.getElem?_cons_succ] at x0 x1 x2 x3 x4
        go_wp2_with fail
        refine (rdone_rename _ _ _ rs d0 b0 F0 wr HTR.out hTl (by rw [HRV.out]; exact HF0.out)).mono ?_
        rintro e w4 ⟨A4, c4, rs4, rfl, q1, q2, q3, q4⟩
        have hT2 : Chn.on (rval rs) (.rename d0 b0) = runC S.safe (S.chs.take (i + 1)) := by rw [HSTEP.out, HRV.out]
        rw [hT2] at q1 q2 ⊢
        clear hT2 x0 x1 x2 x3 x4 r2 f1
        go_wp2
        go_roundw
        case rel => exact ⟨i + 1, A4, c4, rs4, by omega, by omega, by go_num, rfl, q1, q2, HCH.out.trans0 q3, fun k hk => by
          have z := q3.size
          have z2 := HCH.out.size
          have z0 := HC1.out.size
          rcases q4 k hk with h | h
          · have := HNW.out k (List.mem_append_right _ h); exact ⟨this.1, by omega⟩
          · exact ⟨by omega, h.2⟩⟩
        case measure => simp [intOf]; omega
      | remove d0 n0 =>
        obtain ⟨F0, hF0⟩ := hok
        have HF0 := Lib.hid hF0
        have HFB0 : Hid (F0.length ≤ B) := Lib.hid (by have h1 := wd_sub (aget_mem hF0); have h2 := HWD.out; simp only at h1; omega)
        clear hF0
        simp only [chc, List.getElem?_cons_zero, List.getElem?_cons_succ] at x0 x1 x2 x3 x4
        go_wp2_with fail
        refine (rdone_remove _ _ _ rs d0 n0 F0 wr HTR.out hTl (by rw [HRV.out]; exact HF0.out) (by have := HFB0.out; have := HB.out; omega)).mono ?_
        rintro e w4 ⟨A4, c4, rs4, rfl, q1, q2, q3, q4⟩
        have hT2 : Chn.on (rval rs) (.remove d0 n0) = runC S.safe (S.chs.take (i + 1)) := by rw [HSTEP.out, HRV.out]
        rw [hT2] at q1 q2 ⊢
        clear hT2 x0 x1 x2 x3 x4 r2 f1
        go_wp2
        go_roundw
        case rel => exact ⟨i + 1, A4, c4, rs4, by omega, by omega, by go_num, rfl, q1, q2, HCH.out.trans0 q3, fun k hk => by
          have z := q3.size
          have z2 := HCH.out.size
          have z0 := HC1.out.size
          rcases q4 k hk with h | h
          · have := HNW.out k (List.mem_append_right _ h); exact ⟨this.1, by omega⟩
          · exact ⟨by omega, h.2⟩⟩
        case measure => simp [intOf]; omega
      | rmdir d0 =>
        clear hok
        simp only [chc, List.getElem?_cons_zero, List.getElem?_cons_succ] at x0 x1 x2 x3 x4
        go_wp2_with fail
        refine (rdone_rmdir _ _ _ rs d0 wr HTR.out hTl).mono ?_
        rintro e w4 ⟨A4, c4, rs4, rfl, q1, q2, q3, q4⟩
        have hT2 : Chn.on (rval rs) (.rmdir d0) = runC S.safe (S.chs.take (i + 1)) := by rw [HSTEP.out, HRV.out]
        rw [hT2] at q1 q2 ⊢
        clear hT2 x0 x1 x2 x3 x4 r2 f1
        go_wp2
        go_roundw
        case rel => exact ⟨i + 1, A4, c4, rs4, by omega, by omega, by go_num, rfl, q1, q2, HCH.out.trans0 q3, fun k hk => by
          have z := q3.size
          have z2 := HCH.out.size
          have z0 := HC1.out.size
          rcases q4 k hk with h | h
          · have := HNW.out k (List.mem_append_right _ h); exact ⟨this.1, by omega⟩
          · exact ⟨by omega, h.2⟩⟩
        case measure => simp [intOf]; omega
    · have HTAKE : Hid (S.chs.take names.toNat = S.chs.take i) := Lib.hid (by
        by_cases h1 : i < CN
        · rw [show names.toNat = i by omega]
        · rw [List.take_of_length_le (by have := HCN.out; omega), List.take_of_length_le (by have := HCN.out; omega)])
      have hlt1 : ¬ (i < CN ∧ (i : Int) < names) := hlt
      obtain ⟨T, hTT⟩ : ∃ T, runC S.safe (S.chs.take i) = T := ⟨_, rfl⟩
      have HVT : Hid (Val S.files.length T) := Lib.hid (by rw [← hTT]; exact HI.out.safe.run (okC_take HI.out.chs i))
      have HLEFT : Hid (S.left ks names = shows (S.after ks) T) := Lib.hid (by unfold St.left shows; rw [HTAKE.out, hTT])
      rw [hTT] at HRV HWD HTN
      clear hTT hlt
      obtain ⟨w2, hw2⟩ : ∃ w2 : World, w2 = wr := ⟨_, rfl⟩
      subst hw2
      have HTLT : Hid (∀ k ∈ bo A ++ rblk rs, k < w2.heap.size) := Lib.hid (fun k hk => (HNW.out k hk).2)
      have HC2 : Hid (Chg [] w w2) := Lib.hid ((HCW.out.trans0 HC1.out).trans0 HCH.out)
      have HBKW := Lib.hid (HBK.out.chg (HC1.out.trans0 HCH.out) List.not_mem_nil)
      have HR2 := Lib.hid (HR.out.keep0 HC2.out)
      have HFB2 : Hid (fb < w2.heap.size) := Lib.hid (by have := HFBL.out; have := HC1.out.size; have := HCH.out.size; omega)
      have HKR := Lib.hid (HK.out.chg HC2.out (fun _ _ => List.not_mem_nil))
      have HRLT : Hid (∀ x ∈ R.all, x < w2.heap.size) := Lib.hid HR2.out.lt
      have HTN2 : Hid ((rval rs).length = TN) := Lib.hid (by rw [HRV.out]; exact HTN.out)
      by_cases hq : i < CN
      · have hq' : (i : Int) < CN := by omega
        have hq2 : names ≤ (i : Int) := by omega
        clear hlt1
        go_wp2
        clear r2 f1
        go_loopw [7, 8] (fun o q wr => ∃ (i : Nat) (A : Option Addr) (c : Nat) (ds : List DM), i ≤ TN ∧ q = .int .i64 i ∧ o = .slice A i c ∧ DirsO wr A i c ds ∧ dval8 ds = shows (S.after ks) (T.take i) ∧ Chg [] w2 wr ∧ ∀ k ∈ bo A ++ dblk ds, w2.heap.size ≤ k) (fun _ q _ => TN - (intOf q).toNat)
        case atStart => exact ⟨0, _, 0, [], Nat.zero_le _, rfl, rfl, ⟨Own.lit w2 67 2 #[] 0 (by decide) rfl, by simp, by simp [dblk]⟩, rfl, (Chg.refl _ _).alloc _, by simp [dblk]⟩
        case round =>
          obtain ⟨i, oA, oc, ds, hiT, rfl, rfl, hds, hval, hch, hnew⟩ := hrel
          have HDS := Lib.hid hds
          have HVAL := Lib.hid hval
          have HCH2 := Lib.hid hch
          have HNEW := Lib.hid hnew
          clear hds hval hch hnew
          by_cases hlt : i < TN
          · have hlt' : (i : Int) < TN := by omega
            obtain ⟨p, hp⟩ : ∃ p, T[i]? = some p := ⟨_, List.getElem?_eq_getElem (by have := HTN.out; omega)⟩
            obtain ⟨nm, F⟩ := p
            have hpm := List.mem_of_getElem? hp
            have HP := Lib.hid hp
            have HPM := Lib.hid hpm
            obtain ⟨ad, fA, FN, fc, hsA, hat, hfr, hfk, hab⟩ := (HTR.out.chg0 HCH2.out).fold (i := i) (p := (nm, F)) (by rw [HRV.out]; exact hp)
            have HFL : Hid (F.length ≤ 536870912) := Lib.hid (by have := wd_sub hpm; have := HWD.out; have := HB.out; simp only at *; omega)
            have HSA := Lib.hid hsA
            have HAT := Lib.hid hat
            have HFR := Lib.hid hfr
            have HFK : Hid (∀ k ∈ bo fA, k < w2.heap.size) := Lib.hid (fun k hk => HTLT.out k (List.mem_append_right _ (hfk k hk)))
            have HAB : Hid (ad.block < w2.heap.size) := Lib.hid (HTLT.out _ (List.mem_append_left _ hab))
            have x0 := hat.c0
            have hFl : FN ≤ 536870912 := by have h1 := hfr.nml; have h2 := HFL.out; simp only at h1; omega
            clear hp hpm hsA hat hfr hfk hab
            obtain ⟨w1b, hw1b⟩ : ∃ w1b : World, w1b = wr := ⟨_, rfl⟩
            subst hw1b
            have hsa := HSA.out
            subst hsa
            obtain ⟨db, hdb⟩ : ∃ db, w1b.heap.size = db := ⟨_, rfl⟩
            obtain ⟨w5, hWn⟩ : ∃ w5, w5 = w1b.alloc (.cells #[.string nm, .slice none 0 0] 67) := ⟨_, rfl⟩
            have hbW : Blk w5 db 67 #[.string nm, .slice none 0 0] := by rw [hWn, ← hdb]; exact Blk.new w1b _ _
            have hcW : Chg [] w1b w5 := by rw [hWn]; exact (Chg.refl _ _).alloc _
            have HB5 := Lib.hid hbW
            have HCW5 := Lib.hid hcW
            have HDB : Hid (w1b.heap.size ≤ db ∧ w2.heap.size ≤ w1b.heap.size) := Lib.hid ⟨by omega, HCH2.out.size⟩
            have HLW : Hid (db < w5.heap.size) := Lib.hid hbW.lt
            have HC25 : Hid (Chg [] w2 w5) := Lib.hid (HCH2.out.trans0 hcW)
            have HDS5 := Lib.hid (HDS.out.chg hcW (fun _ _ => List.not_mem_nil))
            have HAB2 : Hid (∀ k ∈ bo oA ++ dblk ds, k < db) := Lib.hid (fun k hk => by have := HDS.out.lt k hk; omega)
            have HA5 := Lib.hid (HAT.out.chg hcW List.not_mem_nil)
            have HF5 := Lib.hid (HFR.out.chg hcW (fun _ _ => List.not_mem_nil))
            have HWN := Lib.hid hWn
            clear hbW hcW hWn
            go_wp2
            rw [← HWN.out]
            go_loopw [10] (fun q wj => ∃ (j : Nat) (Bf : Option Addr) (d : Nat) (fs : List FM), j ≤ FN ∧ q = .int .i64 j ∧ Blk wj db 67 #[.string nm, .slice Bf j d] ∧ FilesO wj Bf j d fs ∧ fval8 fs = (F.take j).map (fun q => (q.1, S.after ks q.2)) ∧ Chg [db] w5 wj ∧ ∀ k ∈ bo Bf ++ fblk fs, w5.heap.size ≤ k) (fun q _ => FN - (intOf q).toNat)
            case atStart => exact ⟨0, none, 0, [], Nat.zero_le _, rfl, HB5.out, ⟨Own.nil _ _ _, by simp, by simp [fblk]⟩, rfl, Chg.refl _ _, by simp [fblk]⟩
            case round =>
              obtain ⟨j, Bf, d, fs, hjF, rfl, hbj, hfs, hfv, hcj, hnj⟩ := hrel
              obtain ⟨wj, hwj⟩ : ∃ wj : World, wj = wr := ⟨_, rfl⟩
              subst hwj
              have HBJ := Lib.hid hbj
              have HFS := Lib.hid hfs
              have HFV := Lib.hid hfv
              have HCJ := Lib.hid hcj
              have HNJ := Lib.hid hnj
              have HCJ2 : Hid (Chg [] w2 wj) := Lib.hid (HC25.out.trans hcj (fun x hx => .inr (by simp only [List.mem_singleton] at hx; have := HDB.out; omega)))
              have hatj := HA5.out.chg hcj (fun hm => by simp only [add_block, List.mem_singleton] at hm; have h1 := HAB.out; have h2 := HDB.out; omega)
              have x1' := hatj.c1
              have HRJ := Lib.hid (HR2.out.keep0 HCJ2.out)
              clear hbj hfs hfv hcj hnj hatj
              by_cases hjl : j < FN
              · have hjl' : (j : Int) < FN := by omega
                have hfj := HF5.out.chg HCJ.out (fun k hk hm => by simp only [List.mem_singleton] at hm; have h1 := HFK.out k hk; have h2 := HDB.out; omega)
                obtain ⟨q, hq⟩ : ∃ q, F[j]? = some q := ⟨_, List.getElem?_eq_getElem (by have := HF5.out.nml; omega)⟩
                obtain ⟨qn, qi⟩ := q
                obtain ⟨bd, hbd, hnm⟩ := hfj.nm hq
                have HBD := Lib.hid hbd
                have m0 := hnm.c0
                have m1 := hnm.c1
                have hqid : qi < S.files.length := HVT.out.ids _ HPM.out _ (List.mem_of_getElem? hq)
                obtain ⟨f, hf⟩ : ∃ f, S.files[qi]? = some f := ⟨_, List.getElem?_eq_getElem hqid⟩
                have HQ := Lib.hid hq
                have HBYT : Hid (S.after ks qi = aft f.1 f.1.length f.2 (S.keep ks qi)) := Lib.hid (by unfold St.after; simp only; rw [List.getD_eq_getElem?_getD, hf]; rfl)
                have HFB := Lib.hid (HI.out.filB (by have := HB.out; omega) hf)
                obtain ⟨sl, hsl⟩ : ∃ sl, (aft f.1 f.1.length f.2 (S.keep ks qi)).length = sl := ⟨_, rfl⟩
                have HSL := Lib.hid hsl
                have HF := Lib.hid hf
                obtain ⟨FL, hFL⟩ : ∃ FL, S.files.length = FL := ⟨_, rfl⟩
                have HFLN := Lib.hid hFL
                rw [hFL] at hqid
                have hq0 : (0 : Int) ≤ (qi : Int) := by omega
                have hqf : (qi : Int) < (FL : Int) := by omega
                obtain ⟨WN, hWNl⟩ : ∃ WN, S.wr.length = WN := ⟨_, rfl⟩
                have hwnl : WN ≤ 536870912 := by have := HI.out.nw; have := HB.out; omega
                have HWNL := Lib.hid hWNl
                clear hq hf hfj hnm hsl hFL hWNl
                subst hbd
                obtain ⟨nb, hnb⟩ : ∃ nb, wj.heap.size = nb := ⟨_, rfl⟩
                obtain ⟨W6, hW6⟩ : ∃ W6, wj.alloc (.cells #[.string qn, .int .i64 (qi : Int)] 108) = W6 := ⟨_, rfl⟩
                have hv6 : Blk W6 nb 108 #[.string qn, .int .i64 (qi : Int)] := by rw [← hW6, ← hnb]; exact Blk.new wj _ _
                have hc6 : Chg [] wj W6 := by rw [← hW6]; exact (Chg.refl [] wj).alloc _
                have HV6 := Lib.hid hv6
                have HC6W := Lib.hid hc6
                have HNB : Hid (nb < W6.heap.size) := Lib.hid hv6.lt
                clear hv6 hc6
                go_wp2
                go_loopw [12, 13] (fun o q wr => ∃ (v m : Nat) (A : Option Addr) (c : Nat), v ≤ WN ∧ m ≤ v ∧ q = .int .i64 v ∧ o = .slice A m c ∧ Own wr 4 1 A m c (kv (kpJ S.wr ks qi v)) ∧ Chg [] W6 wr ∧ ∀ k ∈ bo A, W6.heap.size ≤ k) (fun _ q _ => WN - (intOf q).toNat)
                case atStart => exact ⟨0, 0, _, 0, Nat.zero_le _, Nat.le_refl _, rfl, rfl, Own.lit W6 4 1 #[] 0 (by decide) rfl, (Chg.refl _ _).alloc _, by simp⟩
                case round =>
                  obtain ⟨v, m, kA, kc2, hvW, hmv, rfl, rfl, hko, hcv, hnv⟩ := hrel
                  have HKO := Lib.hid hko
                  have HCV := Lib.hid hcv
                  have HNV := Lib.hid hnv
                  have HC2v : Hid (Chg [] w2 wr) := Lib.hid ((HCJ2.out.trans0 HC6W.out).trans0 hcv)
                  have HRV2 := Lib.hid (HR2.out.keep0 HC2v.out)
                  have r4 := HRV2.out.blk.cell 4
                  simp only [List.getElem?_toArray, List.getElem?_cons_succ, List.getElem?_cons_zero, HWNL.out] at r4
                  have n1r := (HV6.out.chg hcv List.not_mem_nil).cell 1
                  simp only [List.getElem?_toArray, List.getElem?_cons_succ, List.getElem?_cons_zero] at n1r
                  clear hko hcv hnv
                  by_cases hvl : v < WN
                  · have hvl' : (v : Int) < WN := by omega
                    have hv0 : (0 : Int) ≤ (v : Int) := by omega
                    obtain ⟨y, hy⟩ : ∃ y, S.wr[v]? = some y := ⟨_, List.getElem?_eq_getElem (by have := HWNL.out; omega)⟩
                    obtain ⟨wad, u, hA, hu, hce⟩ := HRV2.out.wrs.rd.at1 (k := v) (by show v < S.wr.length; have := HWNL.out; omega)
                    rw [List.getElem?_map, hy] at hu
                    simp only [Option.map_some, Option.some.injEq] at hu
                    subst hu
                    rw [hA] at r4
                    have e0 := hce
                    obtain ⟨cb, hcb⟩ : ∃ cb, (y == qi) = cb := ⟨_, rfl⟩
                    have hcbi : ((y : Int) == (qi : Int)) = cb := by rw [← hcb, Bool.eq_iff_iff]; simp; omega
                    have hkp := kpJ_succ (ks := ks) (x := qi) hy
                    rw [hcb] at hkp
                    have HKPS := Lib.hid hkp
                    have g0 := (HBKW.out.chg HC2v.out List.not_mem_nil).cell 0
                    simp only [List.getElem?_toArray, List.getElem?_cons_zero] at g0
                    clear hy hA hce hcb hkp
                    go_wp2_with fail
                    refine wp_region_held_drew (S := fun w' => Chg [] wr w') (by kernel_rfl) ((Chg.refl _ _).drew) (fun hHeld => ?_)
                    refine wpAnyH_take (i := 0) (v := ?_) rfl (by kernel_rfl) (by kernel_rfl) (by kernel_rfl) (fun _ _ _ h => h) (Or.inl ⟨by rfl, ?_⟩) (by assumption) ?_
                    rotate_left
                    · (intro w' hSw; go_simp; try with_reducible rfl)
                    try simp only [Act.put, put8]
                    refine wpAnyH_take (i := 1) (v := ?_) rfl (by kernel_rfl) (by kernel_rfl) (by kernel_rfl) (fun _ _ _ h => h) (Or.inl ⟨by rfl, ?_⟩) (by assumption) ?_
                    rotate_left
                    · (intro w' hSw; go_simp; try with_reducible rfl)
                    try simp only [Act.put, put8]
                    refine wpAnyH_take (i := 2) (v := ?_) rfl (by kernel_rfl) (by kernel_rfl) (by kernel_rfl) (fun _ _ _ h => h) (Or.inl ⟨by rfl, ?_⟩) (by assumption) ?_
                    rotate_left
                    · (intro w' hSw; go_simp; try with_reducible rfl)
                    try simp only [Act.put, put8]
                    refine wpAnyH_take (i := 3) (v := ?_) rfl (by kernel_rfl) (by kernel_rfl) (by kernel_rfl) (fun _ _ _ h => h) (Or.inl ⟨by rfl, ?_⟩) (by assumption) ?_
                    rotate_left
                    · (intro w' hSw; have y := hSw.cell r4 List.not_mem_nil; go_simp; try with_reducible rfl)
                    try simp only [Act.put, put8]
                    refine wpAnyH_take (i := 4) (v := ?_) rfl (by kernel_rfl) (by kernel_rfl) (by kernel_rfl) (fun _ _ _ h => h) (Or.inl ⟨by rfl, ?_⟩) (by assumption) ?_
                    rotate_left
                    · (intro w' hSw; go_simp; try with_reducible rfl)
                    try simp only [Act.put, put8]
                    refine wpAnyH_take (i := 5) (v := ?_) rfl (by kernel_rfl) (by kernel_rfl) (by kernel_rfl) (fun _ _ _ h => h) (Or.inl ⟨by rfl, ?_⟩) (by assumption) ?_
                    rotate_left
                    · (intro w' hSw; go_simp; try with_reducible rfl)
                    try simp only [Act.put, put8]
                    refine wpAnyH_take (i := 6) (v := ?_) rfl (by kernel_rfl) (by kernel_rfl) (by kernel_rfl) (fun _ _ _ h => h) (Or.inl ⟨by rfl, ?_⟩) (by assumption) ?_
                    rotate_left
                    · (intro w' hSw; have y := hSw.cell e0 List.not_mem_nil; go_simp; try with_reducible rfl)
                    try simp only [Act.put, put8]
                    refine wpAnyH_take (i := 7) (v := ?_) rfl (by kernel_rfl) (by kernel_rfl) (by kernel_rfl) (fun _ _ _ h => h) (Or.inl ⟨by rfl, ?_⟩) (by assumption) ?_
                    rotate_left
                    · (intro w' hSw; go_simp; try with_reducible rfl)
                    try simp only [Act.put, put8]
                    refine wpAnyH_take (i := 8) (v := ?_) rfl (by kernel_rfl) (by kernel_rfl) (by kernel_rfl) (fun _ _ _ h => h) (Or.inl ⟨by rfl, ?_⟩) (by assumption) ?_
                    rotate_left
                    · (intro w' hSw; have y := hSw.cell n1r List.not_mem_nil; go_simp; try with_reducible rfl)
                    try simp only [Act.put, put8]
                    refine wpAnyH_take (i := 9) (v := ?_) rfl (by kernel_rfl) (by kernel_rfl) (by kernel_rfl) (fun _ _ _ h => h) (Or.inl ⟨by rfl, ?_⟩) (by assumption) ?_
                    rotate_left
                    · (intro w' hSw; go_simp; try with_reducible rfl)
                    try simp only [Act.put, put8]
                    refine wpAnyH_done (by kernel_rfl) ?_ _
                    try simp only [Act.put, put8]
                    have HCV8 : Hid (Chg [] W6 wr.drew) := Lib.hid HCV.out.drew
                    have HKO8 : Hid (Own wr.drew 4 1 kA m kc2 (kv (kpJ S.wr ks qi v))) := Lib.hid (HKO.out.chg (Chg.refl [] wr).drew (fun _ _ => List.not_mem_nil))
                    have HKR8 := Lib.hid (HKR.out.chg (HC2v.out.drew) (fun _ _ => List.not_mem_nil))
                    have g0' : wr.drew.cell? ⟨fb, 0, none⟩ = some (.slice K kn kc) := g0
                    clear hHeld r4 e0 n1r g0
                    generalize wr.drew = w8 at HCV8 HKO8 HKR8 g0' ⊢
                    cases cb with
                    | false =>
                      go_wp2
                      go_roundw
                      case rel => exact ⟨v + 1, m, kA, kc2, by omega, by omega, by go_num, rfl, by rw [HKPS.out, if_neg (by simp), List.append_nil]; exact HKO8.out, HCV8.out, HNV.out⟩
                      case measure => simp [intOf]; omega
                    | true =>
                      by_cases hvk : v < kn
                      · have hvk' : (v : Int) < kn := by omega
                        obtain ⟨kad, u, hKA, hu, hce⟩ := HKR8.out.at1 hvk
                        obtain ⟨kb, hkb⟩ : ∃ kb, ks[v]? = some kb := ⟨_, List.getElem?_eq_getElem (by have := HKL.out; omega)⟩
                        unfold kv at hu
                        rw [List.getElem?_map, hkb] at hu
                        simp only [Option.map_some, Option.some.injEq] at hu
                        subst hu
                        rw [hKA] at g0'
                        have e1 := hce
                        have HKP : Hid (kpJ S.wr ks qi (v + 1) = kpJ S.wr ks qi v ++ [kb]) := Lib.hid (by rw [HKPS.out, if_pos rfl, hkb]; rfl)
                        clear hKA hkb hce
                        go_wp2_with (at_builtin; refine wpList_app rfl _ _ rfl etyBoolsZ rfl (HKO8.out.chg ((Chg.refl [] w8).alloc (.cells #[.bool kb] 4)) (fun _ _ => List.not_mem_nil)) rfl (Own.lit w8 4 1 #[.bool kb] 1 (by decide) rfl).rd (by intro u hu; simp at hu; subst hu; rfl) (by unfold maxLen; omega) (by omega) ?_; intro A7 c7 w7 hown7 hchg7 hnew7 _; have HO7 := Lib.hid hown7; have HC7 := Lib.hid hchg7; have HN7 := Lib.hid hnew7; clear hown7 hchg7 hnew7)
                        go_roundw
                        case rel =>
                          have hcAl : Chg [] w8 (w8.alloc (.cells #[.bool kb] 4)) := (Chg.refl [] w8).alloc _
                          refine ⟨v + 1, m + 1, A7, c7, by omega, by omega, by go_num, rfl, ?_, (HCV8.out.trans0 hcAl).trans HC7.out (fun x hx => .inr (HNV.out x hx)), fun k hk => ?_⟩
                          · have := HO7.out
                            rw [HKP.out]
                            unfold kv at this ⊢
                            rw [List.map_append]
                            exact this
                          · rcases HN7.out k hk with h | h
                            · exact HNV.out k h
                            · have h3 := HCV8.out.size; have h2 := h.1; simp at h2; omega
                        case measure => simp [intOf]; omega
                      · have HKP : Hid (kpJ S.wr ks qi (v + 1) = kpJ S.wr ks qi v ++ [false]) := Lib.hid (by rw [HKPS.out, if_pos rfl, List.getElem?_eq_none (by have := HKL.out; omega)]; rfl)
                        go_wp2_with (at_builtin; refine wpList_app rfl _ _ rfl etyBoolsZ rfl (HKO8.out.chg ((Chg.refl [] w8).alloc (.cells #[.bool false] 4)) (fun _ _ => List.not_mem_nil)) rfl (Own.lit w8 4 1 #[.bool false] 1 (by decide) rfl).rd (by intro u hu; simp at hu; subst hu; rfl) (by unfold maxLen; omega) (by omega) ?_; intro A7 c7 w7 hown7 hchg7 hnew7 _; have HO7 := Lib.hid hown7; have HC7 := Lib.hid hchg7; have HN7 := Lib.hid hnew7; clear hown7 hchg7 hnew7)
                        go_roundw
                        case rel =>
                          have hcAl : Chg [] w8 (w8.alloc (.cells #[.bool false] 4)) := (Chg.refl [] w8).alloc _
                          refine ⟨v + 1, m + 1, A7, c7, by omega, by omega, by go_num, rfl, ?_, (HCV8.out.trans0 hcAl).trans HC7.out (fun x hx => .inr (HNV.out x hx)), fun k hk => ?_⟩
                          · have := HO7.out
                            rw [HKP.out]
                            unfold kv at this ⊢
                            rw [List.map_append]
                            exact this
                          · rcases HN7.out k hk with h | h
                            · exact HNV.out k h
                            · have h3 := HCV8.out.size; have h2 := h.1; simp at h2; omega
                        case measure => simp [intOf]; omega
                  · obtain rfl : v = WN := by omega
                    obtain ⟨w9, hw9⟩ : ∃ w9 : World, w9 = wr := ⟨_, rfl⟩
                    subst hw9
                    have hko := HKO.out
                    rw [kpJ_all (by have := HWNL.out; omega)] at hko
                    have HKO := Lib.hid hko
                    obtain ⟨kn2, hkn2⟩ : ∃ kn2, m = kn2 := ⟨_, rfl⟩
                    subst hkn2
                    have HC6A : Hid (Chg [] wj w9) := Lib.hid (HC6W.out.trans0 HCV.out)
                    obtain ⟨g, L, fa, hfa, hp0, hspo, hLr, hfab⟩ := HRV2.out.at_ HF.out
                    have n0 := (HV6.out.chg HCV.out List.not_mem_nil).cell 0
                    have n1 := (HV6.out.chg HCV.out List.not_mem_nil).cell 1
                    have r3 := HRV2.out.blk.cell 3
                    simp only [List.getElem?_toArray, List.getElem?_cons_succ, List.getElem?_cons_zero, HFLN.out, hfa] at n0 n1 r3
                    have p0 := hp0
                    have HSPO := Lib.hid hspo
                    have HBJ6 := Lib.hid (HBJ.out.chg HC6A.out List.not_mem_nil)
                    have HFS6 := Lib.hid (HFS.out.chg HC6A.out (fun _ _ => List.not_mem_nil))
                    have hw5 := HCW5.out.size
                    have HNEWB : Hid (∀ k ∈ db :: bo Bf, w2.heap.size ≤ k ∧ k < wj.heap.size) := Lib.hid (fun k hk => by
                      have h2 := HDB.out
                      rcases List.mem_cons.1 hk with rfl | hk
                      · exact ⟨by omega, HBJ.out.lt⟩
                      · have h3 := HNJ.out k (List.mem_append_left _ hk)
                        exact ⟨by omega, HFS.out.lt k (List.mem_append_left _ hk)⟩)
                    have HLQ : Hid (∀ k ∈ L, k ∉ db :: bo Bf) := Lib.hid (fun k hk hm => by have h1 := HRLT.out k (hLr k hk); have h2 := (HNEWB.out k hm).1; omega)
                    have hkl9 : m ≤ 1073741824 := by omega
                    have HNBL : Hid (nb ∉ db :: bo Bf ∧ R.b ∉ db :: bo Bf ∧ (fa.add qi).block ∉ db :: bo Bf ∧ ∀ k ∈ bo kA, k ∉ db :: bo Bf) := Lib.hid ⟨fun hm => by have h2 := (HNEWB.out nb hm).2; omega, fun hm => by have h1 := HRLT.out _ HRb.out; have h2 := (HNEWB.out _ hm).1; omega, fun hm => by rw [add_block] at hm; have h1 := HRLT.out _ hfab; have h2 := (HNEWB.out _ hm).1; omega, fun k hk hm => by have h1 := HNV.out k hk; have h2 := (HNEWB.out k hm).2; have h3 := HC6W.out.size; omega⟩
                    have x1 := HBJ6.out.cell 1
                    have f1 := HBJ6.out.frozen 1
                    simp only [List.getElem?_toArray, List.getElem?_cons_succ, List.getElem?_cons_zero] at x1
                    have HDBB : Hid (db ∉ bo Bf) := Lib.hid (fun hm => by have := HNJ.out db (List.mem_append_left _ hm); have := HLW.out; omega)
                    have hj63 : j ≤ 536870912 := by omega
                    have HFA := Lib.hid hfa
                    clear hfa hp0 hspo hLr hfab hw5 n1r hko
                    go_wp2
                    clear r4
                    refine wp_region_held_drew (S := fun w' => Chg (db :: bo Bf) w9 w') (by kernel_rfl) ((Chg.refl _ _).drew) (fun hHeld => ?_)
                    refine wpAnyH_take (i := 0) (v := ?_) rfl (by kernel_rfl) (by kernel_rfl) (by kernel_rfl) (fun _ _ _ h => h) (Or.inl ⟨by rfl, ?_⟩) (by assumption) ?_
                    rotate_left
                    · (intro w' hSw; go_simp; try with_reducible rfl)
                    try simp only [Act.put, put8]
                    refine wpAnyH_take (i := 2) (v := ?_) rfl (by kernel_rfl) (by kernel_rfl) (by kernel_rfl) (fun _ _ _ h => h) (Or.inl ⟨by rfl, ?_⟩) (by assumption) ?_
                    rotate_left
                    · (intro w' hSw; go_simp; try with_reducible rfl)
                    try simp only [Act.put, put8]
                    refine wpAnyH_take (i := 3) (v := ?_) rfl (by kernel_rfl) (by kernel_rfl) (by kernel_rfl) (fun _ _ _ h => h) (Or.inl ⟨by rfl, ?_⟩) (by assumption) ?_
                    rotate_left
                    · (intro w' hSw; have y := hSw.cell n0 HNBL.out.1; go_simp; try with_reducible rfl)
                    try simp only [Act.put, put8]
                    refine wpAnyH_take (i := 4) (v := ?_) rfl (by kernel_rfl) (by kernel_rfl) (by kernel_rfl) (fun _ _ _ h => h) (Or.inl ⟨by rfl, ?_⟩) (by assumption) ?_
                    rotate_left
                    · (intro w' hSw; go_simp; try with_reducible rfl)
                    try simp only [Act.put, put8]
                    refine wpAnyH_take (i := 5) (v := ?_) rfl (by kernel_rfl) (by kernel_rfl) (by kernel_rfl) (fun _ _ _ h => h) (Or.inl ⟨by rfl, ?_⟩) (by assumption) ?_
                    rotate_left
                    · (intro w' hSw; go_simp; try with_reducible rfl)
                    try simp only [Act.put, put8]
                    refine wpAnyH_take (i := 6) (v := ?_) rfl (by kernel_rfl) (by kernel_rfl) (by kernel_rfl) (fun _ _ _ h => h) (Or.inl ⟨by rfl, ?_⟩) (by assumption) ?_
                    rotate_left
                    · (intro w' hSw; go_simp; try with_reducible rfl)
                    try simp only [Act.put, put8]
                    refine wpAnyH_take (i := 7) (v := ?_) rfl (by kernel_rfl) (by kernel_rfl) (by kernel_rfl) (fun _ _ _ h => h) (Or.inl ⟨by rfl, ?_⟩) (by assumption) ?_
                    rotate_left
                    · (intro w' hSw; have y := hSw.cell r3 HNBL.out.2.1; go_simp; try with_reducible rfl)
                    try simp only [Act.put, put8]
                    refine wpAnyH_take (i := 8) (v := ?_) rfl (by kernel_rfl) (by kernel_rfl) (by kernel_rfl) (fun _ _ _ h => h) (Or.inl ⟨by rfl, ?_⟩) (by assumption) ?_
                    rotate_left
                    · (intro w' hSw; go_simp; try with_reducible rfl)
                    try simp only [Act.put, put8]
                    refine wpAnyH_take (i := 9) (v := ?_) rfl (by kernel_rfl) (by kernel_rfl) (by kernel_rfl) (fun _ _ _ h => h) (Or.inl ⟨by rfl, ?_⟩) (by assumption) ?_
                    rotate_left
                    · (intro w' hSw; have y := hSw.cell n1 HNBL.out.1; go_simp; try with_reducible rfl)
                    try simp only [Act.put, put8]
                    refine wpAnyH_take (i := 10) (v := ?_) rfl (by kernel_rfl) (by kernel_rfl) (by kernel_rfl) (fun _ _ _ h => h) (Or.inl ⟨by rfl, ?_⟩) (by assumption) ?_
                    rotate_left
                    · (intro w' hSw; go_simp; try with_reducible rfl)
                    try simp only [Act.put, put8]
                    refine wpAnyH_take (i := 11) (v := ?_) rfl (by kernel_rfl) (by kernel_rfl) (by kernel_rfl) (fun _ _ _ h => h) (Or.inl ⟨by rfl, ?_⟩) (by assumption) ?_
                    rotate_left
                    · (intro w' hSw; have y := hSw.cell p0 HNBL.out.2.2.1; go_simp; try with_reducible rfl)
                    try simp only [Act.put, put8]
                    refine wpAnyH_take (i := 12) (v := ?_) rfl (by kernel_rfl) (by kernel_rfl) (by kernel_rfl) (fun _ _ _ h => h) (Or.inl ⟨by rfl, ?_⟩) (by assumption) ?_
                    rotate_left
                    · (intro w' hSw; go_simp; try with_reducible rfl)
                    try simp only [Act.put, put8]
                    refine wpAnyH_ready (rs := [1, 13]) (by kernel_rfl) (by simp) ?_
                    refine AllReadyH.cons rfl (fun K hK => ?_) (AllReadyH.cons rfl (fun K hK => ?_) (AllReadyH.nil))
                    · go_simp
                      refine hK.out _ _ (hHeld) (fun hHeld => ?_)
                      try simp only [Act.put, put8]
                      clear hK K
                      refine wpAnyH_ready (rs := [13]) (by kernel_rfl) (by simp) ?_
                      refine AllReadyH.cons rfl (fun K hK => ?_) (AllReadyH.nil)
                      go_simp
                      refine (rafter_any g L f.1 f.2 kA m kc2 (S.keep ks qi) _ (HSPO.out.chg hHeld HLQ.out) HFB.out.1 HFB.out.2 hkl9 (HKO.out.rd.chg hHeld HNBL.out.2.2.2) sl HSL.out).mono ?_
                      rintro ee w4 ⟨BA, bc, rfl, hbo, hc4, hn4⟩
                      have y1 : w4.cell? ⟨db, 1, none⟩ = some (.slice Bf j d) := hc4.cell (by simpa using x1) List.not_mem_nil
                      have HBO := Lib.hid hbo
                      have HC4 := Lib.hid hc4
                      have HN4 := Lib.hid hn4
                      have hHc := hHeld.trans0 hc4
                      have HOW4 : Hid (Own (w4.alloc (.cells #[.string qn, .slice BA sl bc] 70)) 70 2 Bf j d (nsv (fnsl fs))) := Lib.hid (HFS6.out.row.chg ((((Chg.refl [] w9).drew).trans0 hc4).alloc _) (fun _ _ => List.not_mem_nil))
                      have HBJ4 : Hid (Blk (w4.alloc (.cells #[.string qn, .slice BA sl bc] 70)) db 67 #[.string nm, .slice Bf j d]) := Lib.hid (HBJ6.out.chg ((((Chg.refl [] w9).drew).trans0 hc4).alloc _) List.not_mem_nil)
                      have HCL : Hid (Chg [] w9 (w4.alloc (.cells #[.string qn, .slice BA sl bc] 70))) := Lib.hid ((((Chg.refl [] w9).drew).trans0 hc4).alloc _)
                      have y1a : (w4.alloc (.cells #[.string qn, .slice BA sl bc] 70)).cell? ⟨db, 1, none⟩ = some (.slice Bf j d) := HBJ4.out.cell 1
                      clear hbo hn4
                      refine hK.out _ _ (hHc) (fun hHeld => ?_)
                      try simp only [Act.put, put8]
                      clear hK K
                      refine wpAnyH_take (i := 14) (v := ?_) rfl (by kernel_rfl) (by kernel_rfl) (by kernel_rfl) (fun _ _ _ h => h) (Or.inl ⟨by rfl, ?_⟩) (by assumption) ?_
                      rotate_left
                      · (intro w' hSw; go_simp; try with_reducible rfl)
                      try simp only [Act.put, put8]
                      refine wpAnyH_ready (rs := [15]) (by kernel_rfl) (by simp) ?_
                      refine AllReadyH.cons rfl (fun K hK => ?_) (AllReadyH.nil)
                      go_simp
                      refine hK.out _ _ (hHeld.alloc _) (fun hHeld => ?_)
                      try simp only [Act.put, put8]
                      clear hK K
                      refine wpAnyH_ready (rs := [16]) (by kernel_rfl) (by simp) ?_
                      refine AllReadyH.cons rfl (fun K hK => ?_) (AllReadyH.nil)
                      refine step_app rfl _ _ rfl etyFiles rfl HOW4.out rfl (Own.lit w4 70 2 #[.string qn, .slice BA sl bc] 1 (by decide) rfl).rd (nsv_one [⟨qn, BA, sl, bc⟩]) (by unfold maxLen; omega) (by omega) ?_
                      intro A2 c2 w6 hown6 hchg6 hnew6 _
                      have HB6 := Lib.hid (HBJ4.out.chg hchg6 HDBB.out)
                      have y6 := HB6.out.cell 1
                      have f6 := HB6.out.frozen 1
                      simp at y6
                      have HO6 := Lib.hid hown6
                      have HC6 := Lib.hid hchg6
                      have HN6 := Lib.hid hnew6
                      have hH6 := hHeld.trans hchg6 (fun x hx => .inl (List.mem_cons_of_mem _ hx))
                      clear hown6 hchg6 hnew6
                      refine hK.out _ _ (hH6) (fun hHeld => ?_)
                      try simp only [Act.put, put8]
                      clear hK K
                      refine wpAnyH_take (i := 17) (v := ?_) rfl (by kernel_rfl) (by kernel_rfl) (by kernel_rfl) (fun _ _ _ h => h) (Or.inl ⟨by rfl, ?_⟩) (by assumption) ?_
                      rotate_left
                      · (intro w' hSw; go_simp; try with_reducible rfl)
                      try simp only [Act.put, put8]
                      refine wpAnyH_ready (rs := [18]) (by kernel_rfl) (by simp) ?_
                      refine AllReadyH.cons rfl (fun K hK => ?_) (AllReadyH.nil)
                      go_simp
                      refine hK.out _ _ (hHeld.setCell (.inl (by simp)) _) (fun hHeld => ?_)
                      try simp only [Act.put, put8]
                      clear hK K
                      refine wpAnyH_done (by kernel_rfl) ?_ _
                      try simp only [Act.put, put8]
                      have HCS : Hid (Chg [db] w6 (w6.setCell ⟨db, 1, none⟩ (.slice A2 (j + 1) c2))) := Lib.hid ((Chg.refl _ _).setCell (.inl (by simp)) _)
                      have HBS : Hid (Blk (w6.setCell ⟨db, 1, none⟩ (.slice A2 (j + 1) c2)) db 67 #[.string nm, .slice A2 (j + 1) c2]) := Lib.hid (by simpa using HB6.out.set_ 1 (.slice A2 (j + 1) c2))
                      clear y6 f6 y1 y1a hHeld hHc hH6 hc4 x1 f1 n0 n1
                      go_wp2
                      go_roundw
                      case rel =>
                        have hn6 : ∀ k ∈ bo A2, w5.heap.size ≤ k := fun k hk => by
                          rcases HN6.out k hk with h | h
                          · exact HNJ.out k (List.mem_append_left _ h)
                          · have h1 := HCJ.out.size; have h2 := HC6A.out.size; have h3 := HCL.out.size; omega
                        have hndb : ∀ k ∈ bo A2, k ∉ [db] := fun k hk hm => by
                          simp only [List.mem_singleton] at hm
                          have h1 := hn6 k hk; have h2 := HLW.out; omega
                        have hwl : w9.drew.heap.size ≤ w4.heap.size := HC4.out.size
                        have hba : ∀ k ∈ bo BA, w9.heap.size ≤ k := fun k hk => HN4.out k hk
                        have hbaO : Own (w4.alloc (.cells #[.string qn, .slice BA sl bc] 70)) 5 1 BA sl bc (bv (S.after ks qi)) := by
                          have := HBO.out.chg ((Chg.refl [] w4).alloc (.cells #[.string qn, .slice BA sl bc] 70)) (fun _ _ => List.not_mem_nil)
                          rw [HBYT.out]; exact this
                        have hfl := HFS6.out.lt
                        have hO6 : Own w6 70 2 A2 (j + 1) c2 (nsv (fnsl (fs ++ [(⟨qn, BA, sl, bc⟩, S.after ks qi)]))) := by
                          have := HO6.out
                          unfold fnsl at this ⊢
                          rw [List.map_append, nsv_append]
                          exact this
                        have hfs6 : FilesO w6 A2 (j + 1) c2 (fs ++ [(⟨qn, BA, sl, bc⟩, S.after ks qi)]) :=
                          (HFS6.out.chg HCL.out (fun _ _ => List.not_mem_nil)).snoc HC6.out hO6 (hbaO.chg HC6.out (fun k hk hm => by have h1 := hba k hk; have h2 := hfl k (List.mem_append_left _ hm); omega)) (fun k hk hm => by have h1 := hba k hk; have h2 := hfl k (List.mem_append_right _ hm); omega)
                        refine ⟨j + 1, A2, c2, fs ++ [(⟨qn, BA, sl, bc⟩, S.after ks qi)], by omega, by go_num, HBS.out, hfs6.chg HCS.out (fun k hk hm => ?_), ?_, ?_, ?_⟩
                        · rcases List.mem_append.1 hk with hk | hk
                          · exact hndb k hk hm
                          · obtain ⟨f, hf, hk⟩ := List.mem_flatMap.1 hk
                            simp only [List.mem_singleton] at hm
                            subst hm
                            exact (hfs6.dat f hf).blk_ne HB6.out (by decide) _ hk rfl
                        · rw [fval8_snoc, take_snoc _ _ _ HQ.out, List.map_append, HFV.out]; rfl
                        · exact (((HCJ.out.trans0 HC6A.out).trans0 HCL.out).trans HC6.out (fun x hx => .inr (HNJ.out x (List.mem_append_left _ hx)))).trans HCS.out (fun x hx => .inl hx)
                        · intro k hk
                          rw [fblk_snoc] at hk
                          rcases List.mem_append.1 hk with hk | hk
                          · exact hn6 k hk
                          · rcases List.mem_append.1 hk with hk | hk
                            · exact HNJ.out k (List.mem_append_right _ hk)
                            · have h1 := hba k hk; have h2 := HCJ.out.size; have h3 := HC6A.out.size; omega
                      case measure => simp [intOf]; omega
                    · go_simp
                      refine (rafter_any g L f.1 f.2 kA m kc2 (S.keep ks qi) _ (HSPO.out.chg hHeld HLQ.out) HFB.out.1 HFB.out.2 hkl9 (HKO.out.rd.chg hHeld HNBL.out.2.2.2) sl HSL.out).mono ?_
                      rintro ee w4 ⟨BA, bc, rfl, hbo, hc4, hn4⟩
                      have y1 : w4.cell? ⟨db, 1, none⟩ = some (.slice Bf j d) := hc4.cell (by simpa using x1) List.not_mem_nil
                      have HBO := Lib.hid hbo
                      have HC4 := Lib.hid hc4
                      have HN4 := Lib.hid hn4
                      have hHc := hHeld.trans0 hc4
                      have HOW4 : Hid (Own (w4.alloc (.cells #[.string qn, .slice BA sl bc] 70)) 70 2 Bf j d (nsv (fnsl fs))) := Lib.hid (HFS6.out.row.chg ((((Chg.refl [] w9).drew).trans0 hc4).alloc _) (fun _ _ => List.not_mem_nil))
                      have HBJ4 : Hid (Blk (w4.alloc (.cells #[.string qn, .slice BA sl bc] 70)) db 67 #[.string nm, .slice Bf j d]) := Lib.hid (HBJ6.out.chg ((((Chg.refl [] w9).drew).trans0 hc4).alloc _) List.not_mem_nil)
                      have HCL : Hid (Chg [] w9 (w4.alloc (.cells #[.string qn, .slice BA sl bc] 70))) := Lib.hid ((((Chg.refl [] w9).drew).trans0 hc4).alloc _)
                      have y1a : (w4.alloc (.cells #[.string qn, .slice BA sl bc] 70)).cell? ⟨db, 1, none⟩ = some (.slice Bf j d) := HBJ4.out.cell 1
                      clear hbo hn4
                      refine hK.out _ _ (hHc) (fun hHeld => ?_)
                      try simp only [Act.put, put8]
                      clear hK K
                      refine wpAnyH_take (i := 14) (v := ?_) rfl (by kernel_rfl) (by kernel_rfl) (by kernel_rfl) (fun _ _ _ h => h) (Or.inl ⟨by rfl, ?_⟩) (by assumption) ?_
                      rotate_left
                      · (intro w' hSw; go_simp; try with_reducible rfl)
                      try simp only [Act.put, put8]
                      refine wpAnyH_ready (rs := [1, 15]) (by kernel_rfl) (by simp) ?_
                      refine AllReadyH.cons rfl (fun K hK => ?_) (AllReadyH.cons rfl (fun K hK => ?_) (AllReadyH.nil))
                      · go_simp
                        refine hK.out _ _ (hHeld) (fun hHeld => ?_)
                        try simp only [Act.put, put8]
                        clear hK K
                        refine wpAnyH_ready (rs := [15]) (by kernel_rfl) (by simp) ?_
                        refine AllReadyH.cons rfl (fun K hK => ?_) (AllReadyH.nil)
                        go_simp
                        refine hK.out _ _ (hHeld.alloc _) (fun hHeld => ?_)
                        try simp only [Act.put, put8]
                        clear hK K
                        refine wpAnyH_ready (rs := [16]) (by kernel_rfl) (by simp) ?_
                        refine AllReadyH.cons rfl (fun K hK => ?_) (AllReadyH.nil)
                        refine step_app rfl _ _ rfl etyFiles rfl HOW4.out rfl (Own.lit w4 70 2 #[.string qn, .slice BA sl bc] 1 (by decide) rfl).rd (nsv_one [⟨qn, BA, sl, bc⟩]) (by unfold maxLen; omega) (by omega) ?_
                        intro A2 c2 w6 hown6 hchg6 hnew6 _
                        have HB6 := Lib.hid (HBJ4.out.chg hchg6 HDBB.out)
                        have y6 := HB6.out.cell 1
                        have f6 := HB6.out.frozen 1
                        simp at y6
                        have HO6 := Lib.hid hown6
                        have HC6 := Lib.hid hchg6
                        have HN6 := Lib.hid hnew6
                        have hH6 := hHeld.trans hchg6 (fun x hx => .inl (List.mem_cons_of_mem _ hx))
                        clear hown6 hchg6 hnew6
                        refine hK.out _ _ (hH6) (fun hHeld => ?_)
                        try simp only [Act.put, put8]
                        clear hK K
                        refine wpAnyH_take (i := 17) (v := ?_) rfl (by kernel_rfl) (by kernel_rfl) (by kernel_rfl) (fun _ _ _ h => h) (Or.inl ⟨by rfl, ?_⟩) (by assumption) ?_
                        rotate_left
                        · (intro w' hSw; go_simp; try with_reducible rfl)
                        try simp only [Act.put, put8]
                        refine wpAnyH_ready (rs := [18]) (by kernel_rfl) (by simp) ?_
                        refine AllReadyH.cons rfl (fun K hK => ?_) (AllReadyH.nil)
                        go_simp
                        refine hK.out _ _ (hHeld.setCell (.inl (by simp)) _) (fun hHeld => ?_)
                        try simp only [Act.put, put8]
                        clear hK K
                        refine wpAnyH_done (by kernel_rfl) ?_ _
                        try simp only [Act.put, put8]
                        have HCS : Hid (Chg [db] w6 (w6.setCell ⟨db, 1, none⟩ (.slice A2 (j + 1) c2))) := Lib.hid ((Chg.refl _ _).setCell (.inl (by simp)) _)
                        have HBS : Hid (Blk (w6.setCell ⟨db, 1, none⟩ (.slice A2 (j + 1) c2)) db 67 #[.string nm, .slice A2 (j + 1) c2]) := Lib.hid (by simpa using HB6.out.set_ 1 (.slice A2 (j + 1) c2))
                        clear y6 f6 y1 y1a hHeld hHc hH6 hc4 x1 f1 n0 n1
                        go_wp2
                        go_roundw
                        case rel =>
                          have hn6 : ∀ k ∈ bo A2, w5.heap.size ≤ k := fun k hk => by
                            rcases HN6.out k hk with h | h
                            · exact HNJ.out k (List.mem_append_left _ h)
                            · have h1 := HCJ.out.size; have h2 := HC6A.out.size; have h3 := HCL.out.size; omega
                          have hndb : ∀ k ∈ bo A2, k ∉ [db] := fun k hk hm => by
                            simp only [List.mem_singleton] at hm
                            have h1 := hn6 k hk; have h2 := HLW.out; omega
                          have hwl : w9.drew.heap.size ≤ w4.heap.size := HC4.out.size
                          have hba : ∀ k ∈ bo BA, w9.heap.size ≤ k := fun k hk => HN4.out k hk
                          have hbaO : Own (w4.alloc (.cells #[.string qn, .slice BA sl bc] 70)) 5 1 BA sl bc (bv (S.after ks qi)) := by
                            have := HBO.out.chg ((Chg.refl [] w4).alloc (.cells #[.string qn, .slice BA sl bc] 70)) (fun _ _ => List.not_mem_nil)
                            rw [HBYT.out]; exact this
                          have hfl := HFS6.out.lt
                          have hO6 : Own w6 70 2 A2 (j + 1) c2 (nsv (fnsl (fs ++ [(⟨qn, BA, sl, bc⟩, S.after ks qi)]))) := by
                            have := HO6.out
                            unfold fnsl at this ⊢
                            rw [List.map_append, nsv_append]
                            exact this
                          have hfs6 : FilesO w6 A2 (j + 1) c2 (fs ++ [(⟨qn, BA, sl, bc⟩, S.after ks qi)]) :=
                            (HFS6.out.chg HCL.out (fun _ _ => List.not_mem_nil)).snoc HC6.out hO6 (hbaO.chg HC6.out (fun k hk hm => by have h1 := hba k hk; have h2 := hfl k (List.mem_append_left _ hm); omega)) (fun k hk hm => by have h1 := hba k hk; have h2 := hfl k (List.mem_append_right _ hm); omega)
                          refine ⟨j + 1, A2, c2, fs ++ [(⟨qn, BA, sl, bc⟩, S.after ks qi)], by omega, by go_num, HBS.out, hfs6.chg HCS.out (fun k hk hm => ?_), ?_, ?_, ?_⟩
                          · rcases List.mem_append.1 hk with hk | hk
                            · exact hndb k hk hm
                            · obtain ⟨f, hf, hk⟩ := List.mem_flatMap.1 hk
                              simp only [List.mem_singleton] at hm
                              subst hm
                              exact (hfs6.dat f hf).blk_ne HB6.out (by decide) _ hk rfl
                          · rw [fval8_snoc, take_snoc _ _ _ HQ.out, List.map_append, HFV.out]; rfl
                          · exact (((HCJ.out.trans0 HC6A.out).trans0 HCL.out).trans HC6.out (fun x hx => .inr (HNJ.out x (List.mem_append_left _ hx)))).trans HCS.out (fun x hx => .inl hx)
                          · intro k hk
                            rw [fblk_snoc] at hk
                            rcases List.mem_append.1 hk with hk | hk
                            · exact hn6 k hk
                            · rcases List.mem_append.1 hk with hk | hk
                              · exact HNJ.out k (List.mem_append_right _ hk)
                              · have h1 := hba k hk; have h2 := HCJ.out.size; have h3 := HC6A.out.size; omega
                        case measure => simp [intOf]; omega
                      · go_simp
                        refine hK.out _ _ (hHeld.alloc _) (fun hHeld => ?_)
                        try simp only [Act.put, put8]
                        clear hK K
                        refine wpAnyH_ready (rs := [1]) (by kernel_rfl) (by simp) ?_
                        refine AllReadyH.cons rfl (fun K hK => ?_) (AllReadyH.nil)
                        go_simp
                        refine hK.out _ _ (hHeld) (fun hHeld => ?_)
                        try simp only [Act.put, put8]
                        clear hK K
                        refine wpAnyH_ready (rs := [16]) (by kernel_rfl) (by simp) ?_
                        refine AllReadyH.cons rfl (fun K hK => ?_) (AllReadyH.nil)
                        refine step_app rfl _ _ rfl etyFiles rfl HOW4.out rfl (Own.lit w4 70 2 #[.string qn, .slice BA sl bc] 1 (by decide) rfl).rd (nsv_one [⟨qn, BA, sl, bc⟩]) (by unfold maxLen; omega) (by omega) ?_
                        intro A2 c2 w6 hown6 hchg6 hnew6 _
                        have HB6 := Lib.hid (HBJ4.out.chg hchg6 HDBB.out)
                        have y6 := HB6.out.cell 1
                        have f6 := HB6.out.frozen 1
                        simp at y6
                        have HO6 := Lib.hid hown6
                        have HC6 := Lib.hid hchg6
                        have HN6 := Lib.hid hnew6
                        have hH6 := hHeld.trans hchg6 (fun x hx => .inl (List.mem_cons_of_mem _ hx))
                        clear hown6 hchg6 hnew6
                        refine hK.out _ _ (hH6) (fun hHeld => ?_)
                        try simp only [Act.put, put8]
                        clear hK K
                        refine wpAnyH_take (i := 17) (v := ?_) rfl (by kernel_rfl) (by kernel_rfl) (by kernel_rfl) (fun _ _ _ h => h) (Or.inl ⟨by rfl, ?_⟩) (by assumption) ?_
                        rotate_left
                        · (intro w' hSw; go_simp; try with_reducible rfl)
                        try simp only [Act.put, put8]
                        refine wpAnyH_ready (rs := [18]) (by kernel_rfl) (by simp) ?_
                        refine AllReadyH.cons rfl (fun K hK => ?_) (AllReadyH.nil)
                        go_simp
                        refine hK.out _ _ (hHeld.setCell (.inl (by simp)) _) (fun hHeld => ?_)
                        try simp only [Act.put, put8]
                        clear hK K
                        refine wpAnyH_done (by kernel_rfl) ?_ _
                        try simp only [Act.put, put8]
                        have HCS : Hid (Chg [db] w6 (w6.setCell ⟨db, 1, none⟩ (.slice A2 (j + 1) c2))) := Lib.hid ((Chg.refl _ _).setCell (.inl (by simp)) _)
                        have HBS : Hid (Blk (w6.setCell ⟨db, 1, none⟩ (.slice A2 (j + 1) c2)) db 67 #[.string nm, .slice A2 (j + 1) c2]) := Lib.hid (by simpa using HB6.out.set_ 1 (.slice A2 (j + 1) c2))
                        clear y6 f6 y1 y1a hHeld hHc hH6 hc4 x1 f1 n0 n1
                        go_wp2
                        go_roundw
                        case rel =>
                          have hn6 : ∀ k ∈ bo A2, w5.heap.size ≤ k := fun k hk => by
                            rcases HN6.out k hk with h | h
                            · exact HNJ.out k (List.mem_append_left _ h)
                            · have h1 := HCJ.out.size; have h2 := HC6A.out.size; have h3 := HCL.out.size; omega
                          have hndb : ∀ k ∈ bo A2, k ∉ [db] := fun k hk hm => by
                            simp only [List.mem_singleton] at hm
                            have h1 := hn6 k hk; have h2 := HLW.out; omega
                          have hwl : w9.drew.heap.size ≤ w4.heap.size := HC4.out.size
                          have hba : ∀ k ∈ bo BA, w9.heap.size ≤ k := fun k hk => HN4.out k hk
                          have hbaO : Own (w4.alloc (.cells #[.string qn, .slice BA sl bc] 70)) 5 1 BA sl bc (bv (S.after ks qi)) := by
                            have := HBO.out.chg ((Chg.refl [] w4).alloc (.cells #[.string qn, .slice BA sl bc] 70)) (fun _ _ => List.not_mem_nil)
                            rw [HBYT.out]; exact this
                          have hfl := HFS6.out.lt
                          have hO6 : Own w6 70 2 A2 (j + 1) c2 (nsv (fnsl (fs ++ [(⟨qn, BA, sl, bc⟩, S.after ks qi)]))) := by
                            have := HO6.out
                            unfold fnsl at this ⊢
                            rw [List.map_append, nsv_append]
                            exact this
                          have hfs6 : FilesO w6 A2 (j + 1) c2 (fs ++ [(⟨qn, BA, sl, bc⟩, S.after ks qi)]) :=
                            (HFS6.out.chg HCL.out (fun _ _ => List.not_mem_nil)).snoc HC6.out hO6 (hbaO.chg HC6.out (fun k hk hm => by have h1 := hba k hk; have h2 := hfl k (List.mem_append_left _ hm); omega)) (fun k hk hm => by have h1 := hba k hk; have h2 := hfl k (List.mem_append_right _ hm); omega)
                          refine ⟨j + 1, A2, c2, fs ++ [(⟨qn, BA, sl, bc⟩, S.after ks qi)], by omega, by go_num, HBS.out, hfs6.chg HCS.out (fun k hk hm => ?_), ?_, ?_, ?_⟩
                          · rcases List.mem_append.1 hk with hk | hk
                            · exact hndb k hk hm
                            · obtain ⟨f, hf, hk⟩ := List.mem_flatMap.1 hk
                              simp only [List.mem_singleton] at hm
                              subst hm
                              exact (hfs6.dat f hf).blk_ne HB6.out (by decide) _ hk rfl
                          · rw [fval8_snoc, take_snoc _ _ _ HQ.out, List.map_append, HFV.out]; rfl
                          · exact (((HCJ.out.trans0 HC6A.out).trans0 HCL.out).trans HC6.out (fun x hx => .inr (HNJ.out x (List.mem_append_left _ hx)))).trans HCS.out (fun x hx => .inl hx)
                          · intro k hk
                            rw [fblk_snoc] at hk
                            rcases List.mem_append.1 hk with hk | hk
                            · exact hn6 k hk
                            · rcases List.mem_append.1 hk with hk | hk
                              · exact HNJ.out k (List.mem_append_right _ hk)
                              · have h1 := hba k hk; have h2 := HCJ.out.size; have h3 := HC6A.out.size; omega
                        case measure => simp [intOf]; omega
              · obtain rfl : j = FN := by omega
                have HODS : Hid (DirsO wj oA i oc ds) := Lib.hid (HDS5.out.chg HCJ.out (fun k hk hm => by
                  simp only [List.mem_singleton] at hm
                  have := HAB2.out k hk; omega))
                have y0 := HBJ.out.cell 0
                have y1 := HBJ.out.cell 1
                simp only [List.getElem?_toArray, List.getElem?_cons_succ, List.getElem?_cons_zero] at y0 y1
                go_wp2_with (at_builtin; refine wpList_app rfl _ _ rfl etyDirs rfl (HODS.out.row.chg ((Chg.refl [] wj).alloc (.cells #[.string nm, .slice Bf j d] 67)) (fun _ _ => List.not_mem_nil)) rfl (Own.lit wj 67 2 #[.string nm, .slice Bf j d] 1 (by decide) rfl).rd (nsv_one [⟨nm, Bf, j, d⟩]) (by unfold maxLen; omega) (by omega) ?_; intro A2 c2 w7 hown7 hchg7 hnew7 _; have HO7 := Lib.hid hown7; have HC7 := Lib.hid hchg7; have HN7 := Lib.hid hnew7; clear hown7 hchg7 hnew7)
                go_roundw
                case rel =>
                  have hcAl : Chg [] wj (wj.alloc (.cells #[.string nm, .slice Bf j d] 67)) := (Chg.refl [] wj).alloc _
                  have hsz2 := HCH2.out.size
                  have hsz3 := HCW5.out.size
                  have hsz4 := HCJ.out.size
                  have hlw := HLW.out
                  have hfl := HFS.out.lt
                  have hdb2 := HDB.out
                  have hbA : ∀ k ∈ bo Bf ++ fblk fs, k ∉ bo oA := fun k hk hm => by
                    have h1 := HNJ.out k hk; have h2 := HAB2.out k (List.mem_append_left _ hm); omega
                  have hds7 : DirsO w7 A2 (i + 1) c2 (ds ++ [(⟨nm, Bf, j, d⟩, fs)]) := by
                    refine (HODS.out.chg hcAl (fun _ _ => List.not_mem_nil)).snoc HC7.out ?_ ((HFS.out.chg hcAl (fun _ _ => List.not_mem_nil)).chg HC7.out hbA) (fun k hk hm => ?_)
                    · have := HO7.out
                      unfold dnsl at this ⊢
                      rw [List.map_append, nsv_append]
                      exact this
                    · have h1 := HNJ.out k hk; have h2 := HAB2.out k (List.mem_append_right _ hm); omega
                  refine ⟨i + 1, A2, c2, ds ++ [(⟨nm, Bf, j, d⟩, fs)], by omega, by go_num, rfl, hds7, ?_, ?_, ?_⟩
                  · rw [dval8_snoc, shows_snoc HP.out, HVAL.out, HFV.out, show F.take j = F from List.take_of_length_le (by have := HF5.out.nml; omega)]
                  · exact ((HCJ2.out).trans0 hcAl).trans HC7.out (fun x hx => .inr (HNEW.out x (List.mem_append_left _ hx)))
                  · intro k hk
                    rw [dblk_snoc] at hk
                    rcases List.mem_append.1 hk with hk | hk
                    · rcases HN7.out k hk with h | h
                      · exact HNEW.out k (List.mem_append_left _ h)
                      · have h3 := HCJ2.out.size; simp at h; omega
                    · rcases List.mem_append.1 hk with hk | hk
                      · exact HNEW.out k (List.mem_append_right _ hk)
                      · have h1 := HNJ.out k hk; omega
                case measure => simp [intOf]; omega
          · obtain rfl : i = TN := by omega
            go_wp2
            go_ret
            refine ⟨oA, i, oc, ds, rfl, HDS.out, ?_, HC2.out.trans0 HCH2.out, fun k hk => Nat.le_trans HC2.out.size (HNEW.out k hk)⟩
            rw [HVAL.out, HLEFT.out, List.take_of_length_le (by have := HTN.out; omega)]
      · obtain rfl : i = CN := by omega
        clear hlt1
        go_wp2
        clear r2 f1
        go_loopw [7, 8] (fun o q wr => ∃ (i : Nat) (A : Option Addr) (c : Nat) (ds : List DM), i ≤ TN ∧ q = .int .i64 i ∧ o = .slice A i c ∧ DirsO wr A i c ds ∧ dval8 ds = shows (S.after ks) (T.take i) ∧ Chg [] w2 wr ∧ ∀ k ∈ bo A ++ dblk ds, w2.heap.size ≤ k) (fun _ q _ => TN - (intOf q).toNat)
        case atStart => exact ⟨0, _, 0, [], Nat.zero_le _, rfl, rfl, ⟨Own.lit w2 67 2 #[] 0 (by decide) rfl, by simp, by simp [dblk]⟩, rfl, (Chg.refl _ _).alloc _, by simp [dblk]⟩
        case round =>
          obtain ⟨i, oA, oc, ds, hiT, rfl, rfl, hds, hval, hch, hnew⟩ := hrel
          have HDS := Lib.hid hds
          have HVAL := Lib.hid hval
          have HCH2 := Lib.hid hch
          have HNEW := Lib.hid hnew
          clear hds hval hch hnew
          by_cases hlt : i < TN
          · have hlt' : (i : Int) < TN := by omega
            obtain ⟨p, hp⟩ : ∃ p, T[i]? = some p := ⟨_, List.getElem?_eq_getElem (by have := HTN.out; omega)⟩
            obtain ⟨nm, F⟩ := p
            have hpm := List.mem_of_getElem? hp
            have HP := Lib.hid hp
            have HPM := Lib.hid hpm
            obtain ⟨ad, fA, FN, fc, hsA, hat, hfr, hfk, hab⟩ := (HTR.out.chg0 HCH2.out).fold (i := i) (p := (nm, F)) (by rw [HRV.out]; exact hp)
            have HFL : Hid (F.length ≤ 536870912) := Lib.hid (by have := wd_sub hpm; have := HWD.out; have := HB.out; simp only at *; omega)
            have HSA := Lib.hid hsA
            have HAT := Lib.hid hat
            have HFR := Lib.hid hfr
            have HFK : Hid (∀ k ∈ bo fA, k < w2.heap.size) := Lib.hid (fun k hk => HTLT.out k (List.mem_append_right _ (hfk k hk)))
            have HAB : Hid (ad.block < w2.heap.size) := Lib.hid (HTLT.out _ (List.mem_append_left _ hab))
            have x0 := hat.c0
            have hFl : FN ≤ 536870912 := by have h1 := hfr.nml; have h2 := HFL.out; simp only at h1; omega
            clear hp hpm hsA hat hfr hfk hab
            obtain ⟨w1b, hw1b⟩ : ∃ w1b : World, w1b = wr := ⟨_, rfl⟩
            subst hw1b
            have hsa := HSA.out
            subst hsa
            obtain ⟨db, hdb⟩ : ∃ db, w1b.heap.size = db := ⟨_, rfl⟩
            obtain ⟨w5, hWn⟩ : ∃ w5, w5 = w1b.alloc (.cells #[.string nm, .slice none 0 0] 67) := ⟨_, rfl⟩
            have hbW : Blk w5 db 67 #[.string nm, .slice none 0 0] := by rw [hWn, ← hdb]; exact Blk.new w1b _ _
            have hcW : Chg [] w1b w5 := by rw [hWn]; exact (Chg.refl _ _).alloc _
            have HB5 := Lib.hid hbW
            have HCW5 := Lib.hid hcW
            have HDB : Hid (w1b.heap.size ≤ db ∧ w2.heap.size ≤ w1b.heap.size) := Lib.hid ⟨by omega, HCH2.out.size⟩
            have HLW : Hid (db < w5.heap.size) := Lib.hid hbW.lt
            have HC25 : Hid (Chg [] w2 w5) := Lib.hid (HCH2.out.trans0 hcW)
            have HDS5 := Lib.hid (HDS.out.chg hcW (fun _ _ => List.not_mem_nil))
            have HAB2 : Hid (∀ k ∈ bo oA ++ dblk ds, k < db) := Lib.hid (fun k hk => by have := HDS.out.lt k hk; omega)
            have HA5 := Lib.hid (HAT.out.chg hcW List.not_mem_nil)
            have HF5 := Lib.hid (HFR.out.chg hcW (fun _ _ => List.not_mem_nil))
            have HWN := Lib.hid hWn
            clear hbW hcW hWn
            go_wp2
            rw [← HWN.out]
            go_loopw [10] (fun q wj => ∃ (j : Nat) (Bf : Option Addr) (d : Nat) (fs : List FM), j ≤ FN ∧ q = .int .i64 j ∧ Blk wj db 67 #[.string nm, .slice Bf j d] ∧ FilesO wj Bf j d fs ∧ fval8 fs = (F.take j).map (fun q => (q.1, S.after ks q.2)) ∧ Chg [db] w5 wj ∧ ∀ k ∈ bo Bf ++ fblk fs, w5.heap.size ≤ k) (fun q _ => FN - (intOf q).toNat)
            case atStart => exact ⟨0, none, 0, [], Nat.zero_le _, rfl, HB5.out, ⟨Own.nil _ _ _, by simp, by simp [fblk]⟩, rfl, Chg.refl _ _, by simp [fblk]⟩
            case round =>
              obtain ⟨j, Bf, d, fs, hjF, rfl, hbj, hfs, hfv, hcj, hnj⟩ := hrel
              obtain ⟨wj, hwj⟩ : ∃ wj : World, wj = wr := ⟨_, rfl⟩
              subst hwj
              have HBJ := Lib.hid hbj
              have HFS := Lib.hid hfs
              have HFV := Lib.hid hfv
              have HCJ := Lib.hid hcj
              have HNJ := Lib.hid hnj
              have HCJ2 : Hid (Chg [] w2 wj) := Lib.hid (HC25.out.trans hcj (fun x hx => .inr (by simp only [List.mem_singleton] at hx; have := HDB.out; omega)))
              have hatj := HA5.out.chg hcj (fun hm => by simp only [add_block, List.mem_singleton] at hm; have h1 := HAB.out; have h2 := HDB.out; omega)
              have x1' := hatj.c1
              have HRJ := Lib.hid (HR2.out.keep0 HCJ2.out)
              clear hbj hfs hfv hcj hnj hatj
              by_cases hjl : j < FN
              · have hjl' : (j : Int) < FN := by omega
                have hfj := HF5.out.chg HCJ.out (fun k hk hm => by simp only [List.mem_singleton] at hm; have h1 := HFK.out k hk; have h2 := HDB.out; omega)
                obtain ⟨q, hq⟩ : ∃ q, F[j]? = some q := ⟨_, List.getElem?_eq_getElem (by have := HF5.out.nml; omega)⟩
                obtain ⟨qn, qi⟩ := q
                obtain ⟨bd, hbd, hnm⟩ := hfj.nm hq
                have HBD := Lib.hid hbd
                have m0 := hnm.c0
                have m1 := hnm.c1
                have hqid : qi < S.files.length := HVT.out.ids _ HPM.out _ (List.mem_of_getElem? hq)
                obtain ⟨f, hf⟩ : ∃ f, S.files[qi]? = some f := ⟨_, List.getElem?_eq_getElem hqid⟩
                have HQ := Lib.hid hq
                have HBYT : Hid (S.after ks qi = aft f.1 f.1.length f.2 (S.keep ks qi)) := Lib.hid (by unfold St.after; simp only; rw [List.getD_eq_getElem?_getD, hf]; rfl)
                have HFB := Lib.hid (HI.out.filB (by have := HB.out; omega) hf)
                obtain ⟨sl, hsl⟩ : ∃ sl, (aft f.1 f.1.length f.2 (S.keep ks qi)).length = sl := ⟨_, rfl⟩
                have HSL := Lib.hid hsl
                have HF := Lib.hid hf
                obtain ⟨FL, hFL⟩ : ∃ FL, S.files.length = FL := ⟨_, rfl⟩
                have HFLN := Lib.hid hFL
                rw [hFL] at hqid
                have hq0 : (0 : Int) ≤ (qi : Int) := by omega
                have hqf : (qi : Int) < (FL : Int) := by omega
                obtain ⟨WN, hWNl⟩ : ∃ WN, S.wr.length = WN := ⟨_, rfl⟩
                have hwnl : WN ≤ 536870912 := by have := HI.out.nw; have := HB.out; omega
                have HWNL := Lib.hid hWNl
                clear hq hf hfj hnm hsl hFL hWNl
                subst hbd
                obtain ⟨nb, hnb⟩ : ∃ nb, wj.heap.size = nb := ⟨_, rfl⟩
                obtain ⟨W6, hW6⟩ : ∃ W6, wj.alloc (.cells #[.string qn, .int .i64 (qi : Int)] 108) = W6 := ⟨_, rfl⟩
                have hv6 : Blk W6 nb 108 #[.string qn, .int .i64 (qi : Int)] := by rw [← hW6, ← hnb]; exact Blk.new wj _ _
                have hc6 : Chg [] wj W6 := by rw [← hW6]; exact (Chg.refl [] wj).alloc _
                have HV6 := Lib.hid hv6
                have HC6W := Lib.hid hc6
                have HNB : Hid (nb < W6.heap.size) := Lib.hid hv6.lt
                clear hv6 hc6
                go_wp2
                go_loopw [12, 13] (fun o q wr => ∃ (v m : Nat) (A : Option Addr) (c : Nat), v ≤ WN ∧ m ≤ v ∧ q = .int .i64 v ∧ o = .slice A m c ∧ Own wr 4 1 A m c (kv (kpJ S.wr ks qi v)) ∧ Chg [] W6 wr ∧ ∀ k ∈ bo A, W6.heap.size ≤ k) (fun _ q _ => WN - (intOf q).toNat)
                case atStart => exact ⟨0, 0, _, 0, Nat.zero_le _, Nat.le_refl _, rfl, rfl, Own.lit W6 4 1 #[] 0 (by decide) rfl, (Chg.refl _ _).alloc _, by simp⟩
                case round =>
                  obtain ⟨v, m, kA, kc2, hvW, hmv, rfl, rfl, hko, hcv, hnv⟩ := hrel
                  have HKO := Lib.hid hko
                  have HCV := Lib.hid hcv
                  have HNV := Lib.hid hnv
                  have HC2v : Hid (Chg [] w2 wr) := Lib.hid ((HCJ2.out.trans0 HC6W.out).trans0 hcv)
                  have HRV2 := Lib.hid (HR2.out.keep0 HC2v.out)
                  have r4 := HRV2.out.blk.cell 4
                  simp only [List.getElem?_toArray, List.getElem?_cons_succ, List.getElem?_cons_zero, HWNL.out] at r4
                  have n1r := (HV6.out.chg hcv List.not_mem_nil).cell 1
                  simp only [List.getElem?_toArray, List.getElem?_cons_succ, List.getElem?_cons_zero] at n1r
                  clear hko hcv hnv
                  by_cases hvl : v < WN
                  · have hvl' : (v : Int) < WN := by omega
                    have hv0 : (0 : Int) ≤ (v : Int) := by omega
                    obtain ⟨y, hy⟩ : ∃ y, S.wr[v]? = some y := ⟨_, List.getElem?_eq_getElem (by have := HWNL.out; omega)⟩
                    obtain ⟨wad, u, hA, hu, hce⟩ := HRV2.out.wrs.rd.at1 (k := v) (by show v < S.wr.length; have := HWNL.out; omega)
                    rw [List.getElem?_map, hy] at hu
                    simp only [Option.map_some, Option.some.injEq] at hu
                    subst hu
                    rw [hA] at r4
                    have e0 := hce
                    obtain ⟨cb, hcb⟩ : ∃ cb, (y == qi) = cb := ⟨_, rfl⟩
                    have hcbi : ((y : Int) == (qi : Int)) = cb := by rw [← hcb, Bool.eq_iff_iff]; simp; omega
                    have hkp := kpJ_succ (ks := ks) (x := qi) hy
                    rw [hcb] at hkp
                    have HKPS := Lib.hid hkp
                    have g0 := (HBKW.out.chg HC2v.out List.not_mem_nil).cell 0
                    simp only [List.getElem?_toArray, List.getElem?_cons_zero] at g0
                    clear hy hA hce hcb hkp
                    go_wp2_with fail
                    refine wp_region_held_drew (S := fun w' => Chg [] wr w') (by kernel_rfl) ((Chg.refl _ _).drew) (fun hHeld => ?_)
                    refine wpAnyH_take (i := 0) (v := ?_) rfl (by kernel_rfl) (by kernel_rfl) (by kernel_rfl) (fun _ _ _ h => h) (Or.inl ⟨by rfl, ?_⟩) (by assumption) ?_
                    rotate_left
                    · (intro w' hSw; go_simp; try with_reducible rfl)
                    try simp only [Act.put, put8]
                    refine wpAnyH_take (i := 1) (v := ?_) rfl (by kernel_rfl) (by kernel_rfl) (by kernel_rfl) (fun _ _ _ h => h) (Or.inl ⟨by rfl, ?_⟩) (by assumption) ?_
                    rotate_left
                    · (intro w' hSw; go_simp; try with_reducible rfl)
                    try simp only [Act.put, put8]
                    refine wpAnyH_take (i := 2) (v := ?_) rfl (by kernel_rfl) (by kernel_rfl) (by kernel_rfl) (fun _ _ _ h => h) (Or.inl ⟨by rfl, ?_⟩) (by assumption) ?_
                    rotate_left
                    · (intro w' hSw; go_simp; try with_reducible rfl)
                    try simp only [Act.put, put8]
                    refine wpAnyH_take (i := 3) (v := ?_) rfl (by kernel_rfl) (by kernel_rfl) (by kernel_rfl) (fun _ _ _ h => h) (Or.inl ⟨by rfl, ?_⟩) (by assumption) ?_
                    rotate_left
                    · (intro w' hSw; have y := hSw.cell r4 List.not_mem_nil; go_simp; try with_reducible rfl)
                    try simp only [Act.put, put8]
                    refine wpAnyH_take (i := 4) (v := ?_) rfl (by kernel_rfl) (by kernel_rfl) (by kernel_rfl) (fun _ _ _ h => h) (Or.inl ⟨by rfl, ?_⟩) (by assumption) ?_
                    rotate_left
                    · (intro w' hSw; go_simp; try with_reducible rfl)
                    try simp only [Act.put, put8]
                    refine wpAnyH_take (i := 5) (v := ?_) rfl (by kernel_rfl) (by kernel_rfl) (by kernel_rfl) (fun _ _ _ h => h) (Or.inl ⟨by rfl, ?_⟩) (by assumption) ?_
                    rotate_left
                    · (intro w' hSw; go_simp; try with_reducible rfl)
                    try simp only [Act.put, put8]
                    refine wpAnyH_take (i := 6) (v := ?_) rfl (by kernel_rfl) (by kernel_rfl) (by kernel_rfl) (fun _ _ _ h => h) (Or.inl ⟨by rfl, ?_⟩) (by assumption) ?_
                    rotate_left
                    · (intro w' hSw; have y := hSw.cell e0 List.not_mem_nil; go_simp; try with_reducible rfl)
                    try simp only [Act.put, put8]
                    refine wpAnyH_take (i := 7) (v := ?_) rfl (by kernel_rfl) (by kernel_rfl) (by kernel_rfl) (fun _ _ _ h => h) (Or.inl ⟨by rfl, ?_⟩) (by assumption) ?_
                    rotate_left
                    · (intro w' hSw; go_simp; try with_reducible rfl)
                    try simp only [Act.put, put8]
                    refine wpAnyH_take (i := 8) (v := ?_) rfl (by kernel_rfl) (by kernel_rfl) (by kernel_rfl) (fun _ _ _ h => h) (Or.inl ⟨by rfl, ?_⟩) (by assumption) ?_
                    rotate_left
                    · (intro w' hSw; have y := hSw.cell n1r List.not_mem_nil; go_simp; try with_reducible rfl)
                    try simp only [Act.put, put8]
                    refine wpAnyH_take (i := 9) (v := ?_) rfl (by kernel_rfl) (by kernel_rfl) (by kernel_rfl) (fun _ _ _ h => h) (Or.inl ⟨by rfl, ?_⟩) (by assumption) ?_
                    rotate_left
                    · (intro w' hSw; go_simp; try with_reducible rfl)
                    try simp only [Act.put, put8]
                    refine wpAnyH_done (by kernel_rfl) ?_ _
                    try simp only [Act.put, put8]
                    have HCV8 : Hid (Chg [] W6 wr.drew) := Lib.hid HCV.out.drew
                    have HKO8 : Hid (Own wr.drew 4 1 kA m kc2 (kv (kpJ S.wr ks qi v))) := Lib.hid (HKO.out.chg (Chg.refl [] wr).drew (fun _ _ => List.not_mem_nil))
                    have HKR8 := Lib.hid (HKR.out.chg (HC2v.out.drew) (fun _ _ => List.not_mem_nil))
                    have g0' : wr.drew.cell? ⟨fb, 0, none⟩ = some (.slice K kn kc) := g0
                    clear hHeld r4 e0 n1r g0
                    generalize wr.drew = w8 at HCV8 HKO8 HKR8 g0' ⊢
                    cases cb with
                    | false =>
                      go_wp2
                      go_roundw
                      case rel => exact ⟨v + 1, m, kA, kc2, by omega, by omega, by go_num, rfl, by rw [HKPS.out, if_neg (by simp), List.append_nil]; exact HKO8.out, HCV8.out, HNV.out⟩
                      case measure => simp [intOf]; omega
                    | true =>
                      by_cases hvk : v < kn
                      · have hvk' : (v : Int) < kn := by omega
                        obtain ⟨kad, u, hKA, hu, hce⟩ := HKR8.out.at1 hvk
                        obtain ⟨kb, hkb⟩ : ∃ kb, ks[v]? = some kb := ⟨_, List.getElem?_eq_getElem (by have := HKL.out; omega)⟩
                        unfold kv at hu
                        rw [List.getElem?_map, hkb] at hu
                        simp only [Option.map_some, Option.some.injEq] at hu
                        subst hu
                        rw [hKA] at g0'
                        have e1 := hce
                        have HKP : Hid (kpJ S.wr ks qi (v + 1) = kpJ S.wr ks qi v ++ [kb]) := Lib.hid (by rw [HKPS.out, if_pos rfl, hkb]; rfl)
                        clear hKA hkb hce
                        go_wp2_with (at_builtin; refine wpList_app rfl _ _ rfl etyBoolsZ rfl (HKO8.out.chg ((Chg.refl [] w8).alloc (.cells #[.bool kb] 4)) (fun _ _ => List.not_mem_nil)) rfl (Own.lit w8 4 1 #[.bool kb] 1 (by decide) rfl).rd (by intro u hu; simp at hu; subst hu; rfl) (by unfold maxLen; omega) (by omega) ?_; intro A7 c7 w7 hown7 hchg7 hnew7 _; have HO7 := Lib.hid hown7; have HC7 := Lib.hid hchg7; have HN7 := Lib.hid hnew7; clear hown7 hchg7 hnew7)
                        go_roundw
                        case rel =>
                          have hcAl : Chg [] w8 (w8.alloc (.cells #[.bool kb] 4)) := (Chg.refl [] w8).alloc _
                          refine ⟨v + 1, m + 1, A7, c7, by omega, by omega, by go_num, rfl, ?_, (HCV8.out.trans0 hcAl).trans HC7.out (fun x hx => .inr (HNV.out x hx)), fun k hk => ?_⟩
                          · have := HO7.out
                            rw [HKP.out]
                            unfold kv at this ⊢
                            rw [List.map_append]
                            exact this
                          · rcases HN7.out k hk with h | h
                            · exact HNV.out k h
                            · have h3 := HCV8.out.size; have h2 := h.1; simp at h2; omega
                        case measure => simp [intOf]; omega
                      · have HKP : Hid (kpJ S.wr ks qi (v + 1) = kpJ S.wr ks qi v ++ [false]) := Lib.hid (by rw [HKPS.out, if_pos rfl, List.getElem?_eq_none (by have := HKL.out; omega)]; rfl)
                        go_wp2_with (at_builtin; refine wpList_app rfl _ _ rfl etyBoolsZ rfl (HKO8.out.chg ((Chg.refl [] w8).alloc (.cells #[.bool false] 4)) (fun _ _ => List.not_mem_nil)) rfl (Own.lit w8 4 1 #[.bool false] 1 (by decide) rfl).rd (by intro u hu; simp at hu; subst hu; rfl) (by unfold maxLen; omega) (by omega) ?_; intro A7 c7 w7 hown7 hchg7 hnew7 _; have HO7 := Lib.hid hown7; have HC7 := Lib.hid hchg7; have HN7 := Lib.hid hnew7; clear hown7 hchg7 hnew7)
                        go_roundw
                        case rel =>
                          have hcAl : Chg [] w8 (w8.alloc (.cells #[.bool false] 4)) := (Chg.refl [] w8).alloc _
                          refine ⟨v + 1, m + 1, A7, c7, by omega, by omega, by go_num, rfl, ?_, (HCV8.out.trans0 hcAl).trans HC7.out (fun x hx => .inr (HNV.out x hx)), fun k hk => ?_⟩
                          · have := HO7.out
                            rw [HKP.out]
                            unfold kv at this ⊢
                            rw [List.map_append]
                            exact this
                          · rcases HN7.out k hk with h | h
                            · exact HNV.out k h
                            · have h3 := HCV8.out.size; have h2 := h.1; simp at h2; omega
                        case measure => simp [intOf]; omega
                  · obtain rfl : v = WN := by omega
                    obtain ⟨w9, hw9⟩ : ∃ w9 : World, w9 = wr := ⟨_, rfl⟩
                    subst hw9
                    have hko := HKO.out
                    rw [kpJ_all (by have := HWNL.out; omega)] at hko
                    have HKO := Lib.hid hko
                    obtain ⟨kn2, hkn2⟩ : ∃ kn2, m = kn2 := ⟨_, rfl⟩
                    subst hkn2
                    have HC6A : Hid (Chg [] wj w9) := Lib.hid (HC6W.out.trans0 HCV.out)
                    obtain ⟨g, L, fa, hfa, hp0, hspo, hLr, hfab⟩ := HRV2.out.at_ HF.out
                    have n0 := (HV6.out.chg HCV.out List.not_mem_nil).cell 0
                    have n1 := (HV6.out.chg HCV.out List.not_mem_nil).cell 1
                    have r3 := HRV2.out.blk.cell 3
                    simp only [List.getElem?_toArray, List.getElem?_cons_succ, List.getElem?_cons_zero, HFLN.out, hfa] at n0 n1 r3
                    have p0 := hp0
                    have HSPO := Lib.hid hspo
                    have HBJ6 := Lib.hid (HBJ.out.chg HC6A.out List.not_mem_nil)
                    have HFS6 := Lib.hid (HFS.out.chg HC6A.out (fun _ _ => List.not_mem_nil))
                    have hw5 := HCW5.out.size
                    have HNEWB : Hid (∀ k ∈ db :: bo Bf, w2.heap.size ≤ k ∧ k < wj.heap.size) := Lib.hid (fun k hk => by
                      have h2 := HDB.out
                      rcases List.mem_cons.1 hk with rfl | hk
                      · exact ⟨by omega, HBJ.out.lt⟩
                      · have h3 := HNJ.out k (List.mem_append_left _ hk)
                        exact ⟨by omega, HFS.out.lt k (List.mem_append_left _ hk)⟩)
                    have HLQ : Hid (∀ k ∈ L, k ∉ db :: bo Bf) := Lib.hid (fun k hk hm => by have h1 := HRLT.out k (hLr k hk); have h2 := (HNEWB.out k hm).1; omega)
                    have hkl9 : m ≤ 1073741824 := by omega
                    have HNBL : Hid (nb ∉ db :: bo Bf ∧ R.b ∉ db :: bo Bf ∧ (fa.add qi).block ∉ db :: bo Bf ∧ ∀ k ∈ bo kA, k ∉ db :: bo Bf) := Lib.hid ⟨fun hm => by have h2 := (HNEWB.out nb hm).2; omega, fun hm => by have h1 := HRLT.out _ HRb.out; have h2 := (HNEWB.out _ hm).1; omega, fun hm => by rw [add_block] at hm; have h1 := HRLT.out _ hfab; have h2 := (HNEWB.out _ hm).1; omega, fun k hk hm => by have h1 := HNV.out k hk; have h2 := (HNEWB.out k hm).2; have h3 := HC6W.out.size; omega⟩
                    have x1 := HBJ6.out.cell 1
                    have f1 := HBJ6.out.frozen 1
                    simp only [List.getElem?_toArray, List.getElem?_cons_succ, List.getElem?_cons_zero] at x1
                    have HDBB : Hid (db ∉ bo Bf) := Lib.hid (fun hm => by have := HNJ.out db (List.mem_append_left _ hm); have := HLW.out; omega)
                    have hj63 : j ≤ 536870912 := by omega
                    have HFA := Lib.hid hfa
                    clear hfa hp0 hspo hLr hfab hw5 n1r hko
                    go_wp2
                    clear r4
                    refine wp_region_held_drew (S := fun w' => Chg (db :: bo Bf) w9 w') (by kernel_rfl) ((Chg.refl _ _).drew) (fun hHeld => ?_)
                    refine wpAnyH_take (i := 0) (v := ?_) rfl (by kernel_rfl) (by kernel_rfl) (by kernel_rfl) (fun _ _ _ h => h) (Or.inl ⟨by rfl, ?_⟩) (by assumption) ?_
                    rotate_left
                    · (intro w' hSw; go_simp; try with_reducible rfl)
                    try simp only [Act.put, put8]
                    refine wpAnyH_take (i := 2) (v := ?_) rfl (by kernel_rfl) (by kernel_rfl) (by kernel_rfl) (fun _ _ _ h => h) (Or.inl ⟨by rfl, ?_⟩) (by assumption) ?_
                    rotate_left
                    · (intro w' hSw; go_simp; try with_reducible rfl)
                    try simp only [Act.put, put8]
                    refine wpAnyH_take (i := 3) (v := ?_) rfl (by kernel_rfl) (by kernel_rfl) (by kernel_rfl) (fun _ _ _ h => h) (Or.inl ⟨by rfl, ?_⟩) (by assumption) ?_
                    rotate_left
                    · (intro w' hSw; have y := hSw.cell n0 HNBL.out.1; go_simp; try with_reducible rfl)
                    try simp only [Act.put, put8]
                    refine wpAnyH_take (i := 4) (v := ?_) rfl (by kernel_rfl) (by kernel_rfl) (by kernel_rfl) (fun _ _ _ h => h) (Or.inl ⟨by rfl, ?_⟩) (by assumption) ?_
                    rotate_left
                    · (intro w' hSw; go_simp; try with_reducible rfl)
                    try simp only [Act.put, put8]
                    refine wpAnyH_take (i := 5) (v := ?_) rfl (by kernel_rfl) (by kernel_rfl) (by kernel_rfl) (fun _ _ _ h => h) (Or.inl ⟨by rfl, ?_⟩) (by assumption) ?_
                    rotate_left
                    · (intro w' hSw; go_simp; try with_reducible rfl)
                    try simp only [Act.put, put8]
                    refine wpAnyH_take (i := 6) (v := ?_) rfl (by kernel_rfl) (by kernel_rfl) (by kernel_rfl) (fun _ _ _ h => h) (Or.inl ⟨by rfl, ?_⟩) (by assumption) ?_
                    rotate_left
                    · (intro w' hSw; go_simp; try with_reducible rfl)
                    try simp only [Act.put, put8]
                    refine wpAnyH_take (i := 7) (v := ?_) rfl (by kernel_rfl) (by kernel_rfl) (by kernel_rfl) (fun _ _ _ h => h) (Or.inl ⟨by rfl, ?_⟩) (by assumption) ?_
                    rotate_left
                    · (intro w' hSw; have y := hSw.cell r3 HNBL.out.2.1; go_simp; try with_reducible rfl)
                    try simp only [Act.put, put8]
                    refine wpAnyH_take (i := 8) (v := ?_) rfl (by kernel_rfl) (by kernel_rfl) (by kernel_rfl) (fun _ _ _ h => h) (Or.inl ⟨by rfl, ?_⟩) (by assumption) ?_
                    rotate_left
                    · (intro w' hSw; go_simp; try with_reducible rfl)
                    try simp only [Act.put, put8]
                    refine wpAnyH_take (i := 9) (v := ?_) rfl (by kernel_rfl) (by kernel_rfl) (by kernel_rfl) (fun _ _ _ h => h) (Or.inl ⟨by rfl, ?_⟩) (by assumption) ?_
                    rotate_left
                    · (intro w' hSw; have y := hSw.cell n1 HNBL.out.1; go_simp; try with_reducible rfl)
                    try simp only [Act.put, put8]
                    refine wpAnyH_take (i := 10) (v := ?_) rfl (by kernel_rfl) (by kernel_rfl) (by kernel_rfl) (fun _ _ _ h => h) (Or.inl ⟨by rfl, ?_⟩) (by assumption) ?_
                    rotate_left
                    · (intro w' hSw; go_simp; try with_reducible rfl)
                    try simp only [Act.put, put8]
                    refine wpAnyH_take (i := 11) (v := ?_) rfl (by kernel_rfl) (by kernel_rfl) (by kernel_rfl) (fun _ _ _ h => h) (Or.inl ⟨by rfl, ?_⟩) (by assumption) ?_
                    rotate_left
                    · (intro w' hSw; have y := hSw.cell p0 HNBL.out.2.2.1; go_simp; try with_reducible rfl)
                    try simp only [Act.put, put8]
                    refine wpAnyH_take (i := 12) (v := ?_) rfl (by kernel_rfl) (by kernel_rfl) (by kernel_rfl) (fun _ _ _ h => h) (Or.inl ⟨by rfl, ?_⟩) (by assumption) ?_
                    rotate_left
                    · (intro w' hSw; go_simp; try with_reducible rfl)
                    try simp only [Act.put, put8]
                    refine wpAnyH_ready (rs := [1, 13]) (by kernel_rfl) (by simp) ?_
                    refine AllReadyH.cons rfl (fun K hK => ?_) (AllReadyH.cons rfl (fun K hK => ?_) (AllReadyH.nil))
                    · go_simp
                      refine hK.out _ _ (hHeld) (fun hHeld => ?_)
                      try simp only [Act.put, put8]
                      clear hK K
                      refine wpAnyH_ready (rs := [13]) (by kernel_rfl) (by simp) ?_
                      refine AllReadyH.cons rfl (fun K hK => ?_) (AllReadyH.nil)
                      go_simp
                      refine (rafter_any g L f.1 f.2 kA m kc2 (S.keep ks qi) _ (HSPO.out.chg hHeld HLQ.out) HFB.out.1 HFB.out.2 hkl9 (HKO.out.rd.chg hHeld HNBL.out.2.2.2) sl HSL.out).mono ?_
                      rintro ee w4 ⟨BA, bc, rfl, hbo, hc4, hn4⟩
                      have y1 : w4.cell? ⟨db, 1, none⟩ = some (.slice Bf j d) := hc4.cell (by simpa using x1) List.not_mem_nil
                      have HBO := Lib.hid hbo
                      have HC4 := Lib.hid hc4
                      have HN4 := Lib.hid hn4
                      have hHc := hHeld.trans0 hc4
                      have HOW4 : Hid (Own (w4.alloc (.cells #[.string qn, .slice BA sl bc] 70)) 70 2 Bf j d (nsv (fnsl fs))) := Lib.hid (HFS6.out.row.chg ((((Chg.refl [] w9).drew).trans0 hc4).alloc _) (fun _ _ => List.not_mem_nil))
                      have HBJ4 : Hid (Blk (w4.alloc (.cells #[.string qn, .slice BA sl bc] 70)) db 67 #[.string nm, .slice Bf j d]) := Lib.hid (HBJ6.out.chg ((((Chg.refl [] w9).drew).trans0 hc4).alloc _) List.not_mem_nil)
                      have HCL : Hid (Chg [] w9 (w4.alloc (.cells #[.string qn, .slice BA sl bc] 70))) := Lib.hid ((((Chg.refl [] w9).drew).trans0 hc4).alloc _)
                      have y1a : (w4.alloc (.cells #[.string qn, .slice BA sl bc] 70)).cell? ⟨db, 1, none⟩ = some (.slice Bf j d) := HBJ4.out.cell 1
                      clear hbo hn4
                      refine hK.out _ _ (hHc) (fun hHeld => ?_)
                      try simp only [Act.put, put8]
                      clear hK K
                      refine wpAnyH_take (i := 14) (v := ?_) rfl (by kernel_rfl) (by kernel_rfl) (by kernel_rfl) (fun _ _ _ h => h) (Or.inl ⟨by rfl, ?_⟩) (by assumption) ?_
                      rotate_left
                      · (intro w' hSw; go_simp; try with_reducible rfl)
                      try simp only [Act.put, put8]
                      refine wpAnyH_ready (rs := [15]) (by kernel_rfl) (by simp) ?_
                      refine AllReadyH.cons rfl (fun K hK => ?_) (AllReadyH.nil)
                      go_simp
                      refine hK.out _ _ (hHeld.alloc _) (fun hHeld => ?_)
                      try simp only [Act.put, put8]
                      clear hK K
                      refine wpAnyH_ready (rs := [16]) (by kernel_rfl) (by simp) ?_
                      refine AllReadyH.cons rfl (fun K hK => ?_) (AllReadyH.nil)
                      refine step_app rfl _ _ rfl etyFiles rfl HOW4.out rfl (Own.lit w4 70 2 #[.string qn, .slice BA sl bc] 1 (by decide) rfl).rd (nsv_one [⟨qn, BA, sl, bc⟩]) (by unfold maxLen; omega) (by omega) ?_
                      intro A2 c2 w6 hown6 hchg6 hnew6 _
                      have HB6 := Lib.hid (HBJ4.out.chg hchg6 HDBB.out)
                      have y6 := HB6.out.cell 1
                      have f6 := HB6.out.frozen 1
                      simp at y6
                      have HO6 := Lib.hid hown6
                      have HC6 := Lib.hid hchg6
                      have HN6 := Lib.hid hnew6
                      have hH6 := hHeld.trans hchg6 (fun x hx => .inl (List.mem_cons_of_mem _ hx))
                      clear hown6 hchg6 hnew6
                      refine hK.out _ _ (hH6) (fun hHeld => ?_)
                      try simp only [Act.put, put8]
                      clear hK K
                      refine wpAnyH_take (i := 17) (v := ?_) rfl (by kernel_rfl) (by kernel_rfl) (by kernel_rfl) (fun _ _ _ h => h) (Or.inl ⟨by rfl, ?_⟩) (by assumption) ?_
                      rotate_left
                      · (intro w' hSw; go_simp; try with_reducible rfl)
                      try simp only [Act.put, put8]
                      refine wpAnyH_ready (rs := [18]) (by kernel_rfl) (by simp) ?_
                      refine AllReadyH.cons rfl (fun K hK => ?_) (AllReadyH.nil)
                      go_simp
                      refine hK.out _ _ (hHeld.setCell (.inl (by simp)) _) (fun hHeld => ?_)
                      try simp only [Act.put, put8]
                      clear hK K
                      refine wpAnyH_done (by kernel_rfl) ?_ _
                      try simp only [Act.put, put8]
                      have HCS : Hid (Chg [db] w6 (w6.setCell ⟨db, 1, none⟩ (.slice A2 (j + 1) c2))) := Lib.hid ((Chg.refl _ _).setCell (.inl (by simp)) _)
                      have HBS : Hid (Blk (w6.setCell ⟨db, 1, none⟩ (.slice A2 (j + 1) c2)) db 67 #[.string nm, .slice A2 (j + 1) c2]) := Lib.hid (by simpa using HB6.out.set_ 1 (.slice A2 (j + 1) c2))
                      clear y6 f6 y1 y1a hHeld hHc hH6 hc4 x1 f1 n0 n1
                      go_wp2
                      go_roundw
                      case rel =>
                        have hn6 : ∀ k ∈ bo A2, w5.heap.size ≤ k := fun k hk => by
                          rcases HN6.out k hk with h | h
                          · exact HNJ.out k (List.mem_append_left _ h)
                          · have h1 := HCJ.out.size; have h2 := HC6A.out.size; have h3 := HCL.out.size; omega
                        have hndb : ∀ k ∈ bo A2, k ∉ [db] := fun k hk hm => by
                          simp only [List.mem_singleton] at hm
                          have h1 := hn6 k hk; have h2 := HLW.out; omega
                        have hwl : w9.drew.heap.size ≤ w4.heap.size := HC4.out.size
                        have hba : ∀ k ∈ bo BA, w9.heap.size ≤ k := fun k hk => HN4.out k hk
                        have hbaO : Own (w4.alloc (.cells #[.string qn, .slice BA sl bc] 70)) 5 1 BA sl bc (bv (S.after ks qi)) := by
                          have := HBO.out.chg ((Chg.refl [] w4).alloc (.cells #[.string qn, .slice BA sl bc] 70)) (fun _ _ => List.not_mem_nil)
                          rw [HBYT.out]; exact this
                        have hfl := HFS6.out.lt
                        have hO6 : Own w6 70 2 A2 (j + 1) c2 (nsv (fnsl (fs ++ [(⟨qn, BA, sl, bc⟩, S.after ks qi)]))) := by
                          have := HO6.out
                          unfold fnsl at this ⊢
                          rw [List.map_append, nsv_append]
                          exact this
                        have hfs6 : FilesO w6 A2 (j + 1) c2 (fs ++ [(⟨qn, BA, sl, bc⟩, S.after ks qi)]) :=
                          (HFS6.out.chg HCL.out (fun _ _ => List.not_mem_nil)).snoc HC6.out hO6 (hbaO.chg HC6.out (fun k hk hm => by have h1 := hba k hk; have h2 := hfl k (List.mem_append_left _ hm); omega)) (fun k hk hm => by have h1 := hba k hk; have h2 := hfl k (List.mem_append_right _ hm); omega)
                        refine ⟨j + 1, A2, c2, fs ++ [(⟨qn, BA, sl, bc⟩, S.after ks qi)], by omega, by go_num, HBS.out, hfs6.chg HCS.out (fun k hk hm => ?_), ?_, ?_, ?_⟩
                        · rcases List.mem_append.1 hk with hk | hk
                          · exact hndb k hk hm
                          · obtain ⟨f, hf, hk⟩ := List.mem_flatMap.1 hk
                            simp only [List.mem_singleton] at hm
                            subst hm
                            exact (hfs6.dat f hf).blk_ne HB6.out (by decide) _ hk rfl
                        · rw [fval8_snoc, take_snoc _ _ _ HQ.out, List.map_append, HFV.out]; rfl
                        · exact (((HCJ.out.trans0 HC6A.out).trans0 HCL.out).trans HC6.out (fun x hx => .inr (HNJ.out x (List.mem_append_left _ hx)))).trans HCS.out (fun x hx => .inl hx)
                        · intro k hk
                          rw [fblk_snoc] at hk
                          rcases List.mem_append.1 hk with hk | hk
                          · exact hn6 k hk
                          · rcases List.mem_append.1 hk with hk | hk
                            · exact HNJ.out k (List.mem_append_right _ hk)
                            · have h1 := hba k hk; have h2 := HCJ.out.size; have h3 := HC6A.out.size; omega
                      case measure => simp [intOf]; omega
                    · go_simp
                      refine (rafter_any g L f.1 f.2 kA m kc2 (S.keep ks qi) _ (HSPO.out.chg hHeld HLQ.out) HFB.out.1 HFB.out.2 hkl9 (HKO.out.rd.chg hHeld HNBL.out.2.2.2) sl HSL.out).mono ?_
                      rintro ee w4 ⟨BA, bc, rfl, hbo, hc4, hn4⟩
                      have y1 : w4.cell? ⟨db, 1, none⟩ = some (.slice Bf j d) := hc4.cell (by simpa using x1) List.not_mem_nil
                      have HBO := Lib.hid hbo
                      have HC4 := Lib.hid hc4
                      have HN4 := Lib.hid hn4
                      have hHc := hHeld.trans0 hc4
                      have HOW4 : Hid (Own (w4.alloc (.cells #[.string qn, .slice BA sl bc] 70)) 70 2 Bf j d (nsv (fnsl fs))) := Lib.hid (HFS6.out.row.chg ((((Chg.refl [] w9).drew).trans0 hc4).alloc _) (fun _ _ => List.not_mem_nil))
                      have HBJ4 : Hid (Blk (w4.alloc (.cells #[.string qn, .slice BA sl bc] 70)) db 67 #[.string nm, .slice Bf j d]) := Lib.hid (HBJ6.out.chg ((((Chg.refl [] w9).drew).trans0 hc4).alloc _) List.not_mem_nil)
                      have HCL : Hid (Chg [] w9 (w4.alloc (.cells #[.string qn, .slice BA sl bc] 70))) := Lib.hid ((((Chg.refl [] w9).drew).trans0 hc4).alloc _)
                      have y1a : (w4.alloc (.cells #[.string qn, .slice BA sl bc] 70)).cell? ⟨db, 1, none⟩ = some (.slice Bf j d) := HBJ4.out.cell 1
                      clear hbo hn4
                      refine hK.out _ _ (hHc) (fun hHeld => ?_)
                      try simp only [Act.put, put8]
                      clear hK K
                      refine wpAnyH_take (i := 14) (v := ?_) rfl (by kernel_rfl) (by kernel_rfl) (by kernel_rfl) (fun _ _ _ h => h) (Or.inl ⟨by rfl, ?_⟩) (by assumption) ?_
                      rotate_left
                      · (intro w' hSw; go_simp; try with_reducible rfl)
                      try simp only [Act.put, put8]
                      refine wpAnyH_ready (rs := [1, 15]) (by kernel_rfl) (by simp) ?_
                      refine AllReadyH.cons rfl (fun K hK => ?_) (AllReadyH.cons rfl (fun K hK => ?_) (AllReadyH.nil))
                      · go_simp
                        refine hK.out _ _ (hHeld) (fun hHeld => ?_)
                        try simp only [Act.put, put8]
                        clear hK K
                        refine wpAnyH_ready (rs := [15]) (by kernel_rfl) (by simp) ?_
                        refine AllReadyH.cons rfl (fun K hK => ?_) (AllReadyH.nil)
                        go_simp
                        refine hK.out _ _ (hHeld.alloc _) (fun hHeld => ?_)
                        try simp only [Act.put, put8]
                        clear hK K
                        refine wpAnyH_ready (rs := [16]) (by kernel_rfl) (by simp) ?_
                        refine AllReadyH.cons rfl (fun K hK => ?_) (AllReadyH.nil)
                        refine step_app rfl _ _ rfl etyFiles rfl HOW4.out rfl (Own.lit w4 70 2 #[.string qn, .slice BA sl bc] 1 (by decide) rfl).rd (nsv_one [⟨qn, BA, sl, bc⟩]) (by unfold maxLen; omega) (by omega) ?_
                        intro A2 c2 w6 hown6 hchg6 hnew6 _
                        have HB6 := Lib.hid (HBJ4.out.chg hchg6 HDBB.out)
                        have y6 := HB6.out.cell 1
                        have f6 := HB6.out.frozen 1
                        simp at y6
                        have HO6 := Lib.hid hown6
                        have HC6 := Lib.hid hchg6
                        have HN6 := Lib.hid hnew6
                        have hH6 := hHeld.trans hchg6 (fun x hx => .inl (List.mem_cons_of_mem _ hx))
                        clear hown6 hchg6 hnew6
                        refine hK.out _ _ (hH6) (fun hHeld => ?_)
                        try simp only [Act.put, put8]
                        clear hK K
                        refine wpAnyH_take (i := 17) (v := ?_) rfl (by kernel_rfl) (by kernel_rfl) (by kernel_rfl) (fun _ _ _ h => h) (Or.inl ⟨by rfl, ?_⟩) (by assumption) ?_
                        rotate_left
                        · (intro w' hSw; go_simp; try with_reducible rfl)
                        try simp only [Act.put, put8]
                        refine wpAnyH_ready (rs := [18]) (by kernel_rfl) (by simp) ?_
                        refine AllReadyH.cons rfl (fun K hK => ?_) (AllReadyH.nil)
                        go_simp
                        refine hK.out _ _ (hHeld.setCell (.inl (by simp)) _) (fun hHeld => ?_)
                        try simp only [Act.put, put8]
                        clear hK K
                        refine wpAnyH_done (by kernel_rfl) ?_ _
                        try simp only [Act.put, put8]
                        have HCS : Hid (Chg [db] w6 (w6.setCell ⟨db, 1, none⟩ (.slice A2 (j + 1) c2))) := Lib.hid ((Chg.refl _ _).setCell (.inl (by simp)) _)
                        have HBS : Hid (Blk (w6.setCell ⟨db, 1, none⟩ (.slice A2 (j + 1) c2)) db 67 #[.string nm, .slice A2 (j + 1) c2]) := Lib.hid (by simpa using HB6.out.set_ 1 (.slice A2 (j + 1) c2))
                        clear y6 f6 y1 y1a hHeld hHc hH6 hc4 x1 f1 n0 n1
                        go_wp2
                        go_roundw
                        case rel =>
                          have hn6 : ∀ k ∈ bo A2, w5.heap.size ≤ k := fun k hk => by
                            rcases HN6.out k hk with h | h
                            · exact HNJ.out k (List.mem_append_left _ h)
                            · have h1 := HCJ.out.size; have h2 := HC6A.out.size; have h3 := HCL.out.size; omega
                          have hndb : ∀ k ∈ bo A2, k ∉ [db] := fun k hk hm => by
                            simp only [List.mem_singleton] at hm
                            have h1 := hn6 k hk; have h2 := HLW.out; omega
                          have hwl : w9.drew.heap.size ≤ w4.heap.size := HC4.out.size
                          have hba : ∀ k ∈ bo BA, w9.heap.size ≤ k := fun k hk => HN4.out k hk
                          have hbaO : Own (w4.alloc (.cells #[.string qn, .slice BA sl bc] 70)) 5 1 BA sl bc (bv (S.after ks qi)) := by
                            have := HBO.out.chg ((Chg.refl [] w4).alloc (.cells #[.string qn, .slice BA sl bc] 70)) (fun _ _ => List.not_mem_nil)
                            rw [HBYT.out]; exact this
                          have hfl := HFS6.out.lt
                          have hO6 : Own w6 70 2 A2 (j + 1) c2 (nsv (fnsl (fs ++ [(⟨qn, BA, sl, bc⟩, S.after ks qi)]))) := by
                            have := HO6.out
                            unfold fnsl at this ⊢
                            rw [List.map_append, nsv_append]
                            exact this
                          have hfs6 : FilesO w6 A2 (j + 1) c2 (fs ++ [(⟨qn, BA, sl, bc⟩, S.after ks qi)]) :=
                            (HFS6.out.chg HCL.out (fun _ _ => List.not_mem_nil)).snoc HC6.out hO6 (hbaO.chg HC6.out (fun k hk hm => by have h1 := hba k hk; have h2 := hfl k (List.mem_append_left _ hm); omega)) (fun k hk hm => by have h1 := hba k hk; have h2 := hfl k (List.mem_append_right _ hm); omega)
                          refine ⟨j + 1, A2, c2, fs ++ [(⟨qn, BA, sl, bc⟩, S.after ks qi)], by omega, by go_num, HBS.out, hfs6.chg HCS.out (fun k hk hm => ?_), ?_, ?_, ?_⟩
                          · rcases List.mem_append.1 hk with hk | hk
                            · exact hndb k hk hm
                            · obtain ⟨f, hf, hk⟩ := List.mem_flatMap.1 hk
                              simp only [List.mem_singleton] at hm
                              subst hm
                              exact (hfs6.dat f hf).blk_ne HB6.out (by decide) _ hk rfl
                          · rw [fval8_snoc, take_snoc _ _ _ HQ.out, List.map_append, HFV.out]; rfl
                          · exact (((HCJ.out.trans0 HC6A.out).trans0 HCL.out).trans HC6.out (fun x hx => .inr (HNJ.out x (List.mem_append_left _ hx)))).trans HCS.out (fun x hx => .inl hx)
                          · intro k hk
                            rw [fblk_snoc] at hk
                            rcases List.mem_append.1 hk with hk | hk
                            · exact hn6 k hk
                            · rcases List.mem_append.1 hk with hk | hk
                              · exact HNJ.out k (List.mem_append_right _ hk)
                              · have h1 := hba k hk; have h2 := HCJ.out.size; have h3 := HC6A.out.size; omega
                        case measure => simp [intOf]; omega
                      · go_simp
                        refine hK.out _ _ (hHeld.alloc _) (fun hHeld => ?_)
                        try simp only [Act.put, put8]
                        clear hK K
                        refine wpAnyH_ready (rs := [1]) (by kernel_rfl) (by simp) ?_
                        refine AllReadyH.cons rfl (fun K hK => ?_) (AllReadyH.nil)
                        go_simp
                        refine hK.out _ _ (hHeld) (fun hHeld => ?_)
                        try simp only [Act.put, put8]
                        clear hK K
                        refine wpAnyH_ready (rs := [16]) (by kernel_rfl) (by simp) ?_
                        refine AllReadyH.cons rfl (fun K hK => ?_) (AllReadyH.nil)
                        refine step_app rfl _ _ rfl etyFiles rfl HOW4.out rfl (Own.lit w4 70 2 #[.string qn, .slice BA sl bc] 1 (by decide) rfl).rd (nsv_one [⟨qn, BA, sl, bc⟩]) (by unfold maxLen; omega) (by omega) ?_
                        intro A2 c2 w6 hown6 hchg6 hnew6 _
                        have HB6 := Lib.hid (HBJ4.out.chg hchg6 HDBB.out)
                        have y6 := HB6.out.cell 1
                        have f6 := HB6.out.frozen 1
                        simp at y6
                        have HO6 := Lib.hid hown6
                        have HC6 := Lib.hid hchg6
                        have HN6 := Lib.hid hnew6
                        have hH6 := hHeld.trans hchg6 (fun x hx => .inl (List.mem_cons_of_mem _ hx))
                        clear hown6 hchg6 hnew6
                        refine hK.out _ _ (hH6) (fun hHeld => ?_)
                        try simp only [Act.put, put8]
                        clear hK K
                        refine wpAnyH_take (i := 17) (v := ?_) rfl (by kernel_rfl) (by kernel_rfl) (by kernel_rfl) (fun _ _ _ h => h) (Or.inl ⟨by rfl, ?_⟩) (by assumption) ?_
                        rotate_left
                        · (intro w' hSw; go_simp; try with_reducible rfl)
                        try simp only [Act.put, put8]
                        refine wpAnyH_ready (rs := [18]) (by kernel_rfl) (by simp) ?_
                        refine AllReadyH.cons rfl (fun K hK => ?_) (AllReadyH.nil)
                        go_simp
                        refine hK.out _ _ (hHeld.setCell (.inl (by simp)) _) (fun hHeld => ?_)
                        try simp only [Act.put, put8]
                        clear hK K
                        refine wpAnyH_done (by kernel_rfl) ?_ _
                        try simp only [Act.put, put8]
                        have HCS : Hid (Chg [db] w6 (w6.setCell ⟨db, 1, none⟩ (.slice A2 (j + 1) c2))) := Lib.hid ((Chg.refl _ _).setCell (.inl (by simp)) _)
                        have HBS : Hid (Blk (w6.setCell ⟨db, 1, none⟩ (.slice A2 (j + 1) c2)) db 67 #[.string nm, .slice A2 (j + 1) c2]) := Lib.hid (by simpa using HB6.out.set_ 1 (.slice A2 (j + 1) c2))
                        clear y6 f6 y1 y1a hHeld hHc hH6 hc4 x1 f1 n0 n1
                        go_wp2
                        go_roundw
                        case rel =>
                          have hn6 : ∀ k ∈ bo A2, w5.heap.size ≤ k := fun k hk => by
                            rcases HN6.out k hk with h | h
                            · exact HNJ.out k (List.mem_append_left _ h)
                            · have h1 := HCJ.out.size; have h2 := HC6A.out.size; have h3 := HCL.out.size; omega
                          have hndb : ∀ k ∈ bo A2, k ∉ [db] := fun k hk hm => by
                            simp only [List.mem_singleton] at hm
                            have h1 := hn6 k hk; have h2 := HLW.out; omega
                          have hwl : w9.drew.heap.size ≤ w4.heap.size := HC4.out.size
                          have hba : ∀ k ∈ bo BA, w9.heap.size ≤ k := fun k hk => HN4.out k hk
                          have hbaO : Own (w4.alloc (.cells #[.string qn, .slice BA sl bc] 70)) 5 1 BA sl bc (bv (S.after ks qi)) := by
                            have := HBO.out.chg ((Chg.refl [] w4).alloc (.cells #[.string qn, .slice BA sl bc] 70)) (fun _ _ => List.not_mem_nil)
                            rw [HBYT.out]; exact this
                          have hfl := HFS6.out.lt
                          have hO6 : Own w6 70 2 A2 (j + 1) c2 (nsv (fnsl (fs ++ [(⟨qn, BA, sl, bc⟩, S.after ks qi)]))) := by
                            have := HO6.out
                            unfold fnsl at this ⊢
                            rw [List.map_append, nsv_append]
                            exact this
                          have hfs6 : FilesO w6 A2 (j + 1) c2 (fs ++ [(⟨qn, BA, sl, bc⟩, S.after ks qi)]) :=
                            (HFS6.out.chg HCL.out (fun _ _ => List.not_mem_nil)).snoc HC6.out hO6 (hbaO.chg HC6.out (fun k hk hm => by have h1 := hba k hk; have h2 := hfl k (List.mem_append_left _ hm); omega)) (fun k hk hm => by have h1 := hba k hk; have h2 := hfl k (List.mem_append_right _ hm); omega)
                          refine ⟨j + 1, A2, c2, fs ++ [(⟨qn, BA, sl, bc⟩, S.after ks qi)], by omega, by go_num, HBS.out, hfs6.chg HCS.out (fun k hk hm => ?_), ?_, ?_, ?_⟩
                          · rcases List.mem_append.1 hk with hk | hk
                            · exact hndb k hk hm
                            · obtain ⟨f, hf, hk⟩ := List.mem_flatMap.1 hk
                              simp only [List.mem_singleton] at hm
                              subst hm
                              exact (hfs6.dat f hf).blk_ne HB6.out (by decide) _ hk rfl
                          · rw [fval8_snoc, take_snoc _ _ _ HQ.out, List.map_append, HFV.out]; rfl
                          · exact (((HCJ.out.trans0 HC6A.out).trans0 HCL.out).trans HC6.out (fun x hx => .inr (HNJ.out x (List.mem_append_left _ hx)))).trans HCS.out (fun x hx => .inl hx)
                          · intro k hk
                            rw [fblk_snoc] at hk
                            rcases List.mem_append.1 hk with hk | hk
                            · exact hn6 k hk
                            · rcases List.mem_append.1 hk with hk | hk
                              · exact HNJ.out k (List.mem_append_right _ hk)
                              · have h1 := hba k hk; have h2 := HCJ.out.size; have h3 := HC6A.out.size; omega
                        case measure => simp [intOf]; omega
              · obtain rfl : j = FN := by omega
                have HODS : Hid (DirsO wj oA i oc ds) := Lib.hid (HDS5.out.chg HCJ.out (fun k hk hm => by
                  simp only [List.mem_singleton] at hm
                  have := HAB2.out k hk; omega))
                have y0 := HBJ.out.cell 0
                have y1 := HBJ.out.cell 1
                simp only [List.getElem?_toArray, List.getElem?_cons_succ, List.getElem?_cons_zero] at y0 y1
                go_wp2_with (at_builtin; refine wpList_app rfl _ _ rfl etyDirs rfl (HODS.out.row.chg ((Chg.refl [] wj).alloc (.cells #[.string nm, .slice Bf j d] 67)) (fun _ _ => List.not_mem_nil)) rfl (Own.lit wj 67 2 #[.string nm, .slice Bf j d] 1 (by decide) rfl).rd (nsv_one [⟨nm, Bf, j, d⟩]) (by unfold maxLen; omega) (by omega) ?_; intro A2 c2 w7 hown7 hchg7 hnew7 _; have HO7 := Lib.hid hown7; have HC7 := Lib.hid hchg7; have HN7 := Lib.hid hnew7; clear hown7 hchg7 hnew7)
                go_roundw
                case rel =>
                  have hcAl : Chg [] wj (wj.alloc (.cells #[.string nm, .slice Bf j d] 67)) := (Chg.refl [] wj).alloc _
                  have hsz2 := HCH2.out.size
                  have hsz3 := HCW5.out.size
                  have hsz4 := HCJ.out.size
                  have hlw := HLW.out
                  have hfl := HFS.out.lt
                  have hdb2 := HDB.out
                  have hbA : ∀ k ∈ bo Bf ++ fblk fs, k ∉ bo oA := fun k hk hm => by
                    have h1 := HNJ.out k hk; have h2 := HAB2.out k (List.mem_append_left _ hm); omega
                  have hds7 : DirsO w7 A2 (i + 1) c2 (ds ++ [(⟨nm, Bf, j, d⟩, fs)]) := by
                    refine (HODS.out.chg hcAl (fun _ _ => List.not_mem_nil)).snoc HC7.out ?_ ((HFS.out.chg hcAl (fun _ _ => List.not_mem_nil)).chg HC7.out hbA) (fun k hk hm => ?_)
                    · have := HO7.out
                      unfold dnsl at this ⊢
                      rw [List.map_append, nsv_append]
                      exact this
                    · have h1 := HNJ.out k hk; have h2 := HAB2.out k (List.mem_append_right _ hm); omega
                  refine ⟨i + 1, A2, c2, ds ++ [(⟨nm, Bf, j, d⟩, fs)], by omega, by go_num, rfl, hds7, ?_, ?_, ?_⟩
                  · rw [dval8_snoc, shows_snoc HP.out, HVAL.out, HFV.out, show F.take j = F from List.take_of_length_le (by have := HF5.out.nml; omega)]
                  · exact ((HCJ2.out).trans0 hcAl).trans HC7.out (fun x hx => .inr (HNEW.out x (List.mem_append_left _ hx)))
                  · intro k hk
                    rw [dblk_snoc] at hk
                    rcases List.mem_append.1 hk with hk | hk
                    · rcases HN7.out k hk with h | h
                      · exact HNEW.out k (List.mem_append_left _ h)
                      · have h3 := HCJ2.out.size; simp at h; omega
                    · rcases List.mem_append.1 hk with hk | hk
                      · exact HNEW.out k (List.mem_append_right _ hk)
                      · have h1 := HNJ.out k hk; omega
                case measure => simp [intOf]; omega
          · obtain rfl : i = TN := by omega
            go_wp2
            go_ret
            refine ⟨oA, i, oc, ds, rfl, HDS.out, ?_, HC2.out.trans0 HCH2.out, fun k hk => Nat.le_trans HC2.out.size (HNEW.out k hk)⟩
            rw [HVAL.out, HLEFT.out, List.take_of_length_le (by have := HTN.out; omega)]
end Go.Proofs.YtgomofeidghmiaaGreat
