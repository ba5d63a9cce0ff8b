/-
  Layer 08: the document's Read, List, Dirs, Write, Sync.
-/
import Derived.Test.YtgomofeidghmiaaGreatVfZe
namespace Go.Proofs.YtgomofeidghmiaaGreat
open Go.RowKit

theorem etyIntsZ : Ety Tryz.prog 44 3 1 8 (.int .i64 0) := .mk' Tryz.underlying44 (by kernel_rfl) rfl (by decide)
theorem etyStrsZ : Ety Tryz.prog 34 9 1 16 (.string ByteArray.empty) := .mk' Tryz.underlying34 (by kernel_rfl) rfl (by decide)
theorem RfM.at2 {w : World} {R : RfG} {S : St} (h : RfM w R S) {i : Nat} {f : Fil} (hf : S.files[i]? = some f) : ∃ g L a, R.sg[i]? = some g ∧ R.Ls[i]? = some L ∧ R.fA = some a ∧ w.cell? (a.add i) = some (.pointer (some ⟨g, 0, none⟩)) ∧ Rsp w g L f.1 f.2 := by
  have hl := (List.getElem?_eq_some_iff.1 hf).1
  have h1 := h.sgl
  have h2 := h.lsl
  have e1 : R.sg[i]? = some (R.sg[i]'(by omega)) := List.getElem?_eq_getElem (by omega)
  have e2 : R.Ls[i]? = some (R.Ls[i]'(by omega)) := List.getElem?_eq_getElem (by omega)
  obtain ⟨ad, u, hA, hx, hc, _⟩ := h.fil.at1 (k := i) hl
  rw [List.getElem?_map, e1] at hx
  simp only [Option.map_some, Option.some.injEq] at hx
  subst hx
  exact ⟨_, _, ad, e1, e2, hA, hc, h.spo i _ _ f e1 e2 hf⟩
theorem Inv.filB {B : Nat} {S : St} (h : Inv B S) (hB : B ≤ 1073741824) {i : Nat} {f : Fil} (hf : S.files[i]? = some f) : f.1.length + f.2.flatten.length ≤ 1073741824 ∧ f.2.length ≤ 1073741824 := by
  have := h.fil i
  rw [List.getD_eq_getElem?_getD, hf] at this
  simp only [Option.getD_some] at this
  omega

set_option maxRecDepth 100000 in
set_option maxHeartbeats 6400000 in
theorem rread_any {w : World} {R : RfG} {S : St} {B : Nat} (h : RfM w R S) (hi : Inv B S) (hB : B + 1 ≤ 536870912) (d n : ByteArray) :
    Calls Tryz.prog 47 #[.pointer (some ⟨R.b, 0, none⟩), .string d, .string n] w fun e w' => NewRowE 5 w (bv (S.read d n).1) (S.read d n).1.length (S.read d n).2 e w' := by
  have HR := Lib.hid h
  have HI := Lib.hid hi
  have HB := Lib.hid hB
  have HSL : Hid (S.seen.length ≤ 1073741824) := Lib.hid (by have := hi.seenl; omega)
  clear h hi hB
  go_enter Tryz.func47, Tryz.ntmps47
  obtain ⟨o, E, hE⟩ : ∃ o E, S.fnd d n = (o, E) := ⟨_, _, rfl⟩
  have HF := Lib.hid hE
  cases o with
  | none =>
    have hE0 : (E != 0) = true := by simpa using fnd_no hE
    have HRES : Hid (S.read d n = ([], E)) := Lib.hid (by unfold St.read; rw [hE])
    clear hE
    go_wp2_with fail
    refine (rfound_any HR.out HI.out HB.out d n).mono ?_
    rintro e w1 ⟨rfl, hc⟩
    rw [HF.out]
    have HC1 := Lib.hid hc
    have HR1 := Lib.hid (HR.out.keep0 hc)
    clear hc
    simp only [fndI]
    go_wp2
    go_ret2
    rw [HRES.out]
    exact ⟨_, _, rfl, Own.lit w1 5 1 #[] 0 (by decide) rfl, HC1.out.alloc _, by simp; exact HC1.out.size⟩
  | some x =>
    obtain ⟨hE0, _⟩ := fnd_good hE
    subst hE0
    have hxl := fnd_lt HI.out hE
    obtain ⟨f, hf⟩ : ∃ f, S.files[x]? = some f := ⟨_, List.getElem?_eq_getElem hxl⟩
    have HFX := Lib.hid hf
    have HFB := Lib.hid (HI.out.filB (by have := HB.out; omega) hf)
    have HFG : Hid (S.files.getD x ([], []) = f) := Lib.hid (by rw [List.getD_eq_getElem?_getD, hf]; rfl)
    obtain ⟨FL, hFL⟩ : ∃ FL, S.files.length = FL := ⟨_, rfl⟩
    have HFLN := Lib.hid hFL
    rw [hFL] at hxl
    have hx0 : (0 : Int) ≤ (x : Int) := by omega
    have hxf : (x : Int) < (FL : Int) := by omega
    clear hf hFL
    have HRES : Hid (S.read d n = (f.1 ++ f.2.flatten, 0)) := Lib.hid (by unfold St.read; rw [hE]; simp only; unfold St.bytes; rw [HFG.out]; rfl)
    clear hE
    go_wp2_with fail
    refine (rfound_any HR.out HI.out HB.out d n).mono ?_
    rintro e w1 ⟨rfl, hc⟩
    rw [HF.out]
    have HC1 := Lib.hid hc
    have HR1 := Lib.hid (HR.out.keep0 hc)
    clear hc
    simp only [fndI]
    obtain ⟨g, L, a, hg, hL, hfa, hp, hsp⟩ := HR1.out.at2 HFX.out
    have r3 := HR1.out.blk.cell 3
    simp only [List.getElem?_toArray, List.getElem?_cons_succ, List.getElem?_cons_zero] at r3
    simp only [HFLN.out, hfa] at r3
    have HG := Lib.hid hg
    have HL := Lib.hid hL
    have HSP := Lib.hid hsp
    have p0 := hp
    clear hg hL hfa hp hsp
    obtain ⟨sl, hsl⟩ : ∃ sl, (f.1 ++ f.2.flatten).length = sl := ⟨_, rfl⟩
    have HSLN := Lib.hid hsl
    clear hsl
    go_wp2_with fail
    refine (rseen_any g L f.1 f.2 _ HSP.out HFB.out.1 HFB.out.2 sl HSLN.out).mono ?_
    rintro e w2 ⟨A, c, rfl, ho, hc, hn⟩
    have HO := Lib.hid ho
    have HC2 := Lib.hid hc
    have HN := Lib.hid hn
    clear ho hc hn r3 p0
    go_wp2
    go_ret2
    rw [HRES.out]
    exact ⟨A, c, by rw [HSLN.out]; rfl, by rw [HSLN.out]; exact HO.out, HC1.out.trans0 HC2.out, fun k hk => Nat.le_trans HC1.out.size (HN.out k hk)⟩

set_option maxRecDepth 100000 in
set_option maxHeartbeats 6400000 in
theorem rdirs_any {w : World} {R : RfG} {S : St} {B : Nat} (h : RfM w R S) (hi : Inv B S) (hB : B + 1 ≤ 536870912) :
    Calls Tryz.prog 49 #[.pointer (some ⟨R.b, 0, none⟩)] w fun e w' => NewRowE 9 w (svs S.dirs.1) S.dirs.1.length S.dirs.2 e w' := by
  have HR := Lib.hid h
  have HI := Lib.hid hi
  have HB := Lib.hid hB
  have HSL : Hid (S.seen.length ≤ 1073741824) := Lib.hid (by have := hi.seenl; omega)
  clear h hi hB
  go_enter Tryz.func49, Tryz.ntmps49
  obtain ⟨W, hW⟩ : ∃ W, W = w.alloc (.cells #[] 9) := ⟨_, rfl⟩
  have HW := Lib.hid hW
  have HCW : Hid (Chg [] w W) := Lib.hid (by rw [hW]; exact (Chg.refl _ _).alloc _)
  have HOW : Hid (Own W 9 1 (some ⟨w.heap.size, 0, none⟩) 0 0 []) := Lib.hid (by rw [hW]; exact Own.lit w 9 1 #[] 0 (by decide) rfl)
  have HRW := Lib.hid (HR.out.keep0 HCW.out)
  clear hW
  go_wp2_with fail
  rw [← HW.out]
  cases hd : S.down with
  | true =>
    have HDN := Lib.hid hd
    have HRES : Hid (S.dirs = ([], 80)) := Lib.hid (by unfold St.dirs; rw [if_pos hd])
    clear hd
    refine (HRW.out.down).mono ?_
    rintro e w1 ⟨rfl, hc⟩
    rw [HDN.out]
    have HC1 := Lib.hid hc
    clear hc
    go_wp2
    go_ret2
    rw [HRES.out]
    exact ⟨_, _, rfl, HOW.out.chg HC1.out (fun _ _ => List.not_mem_nil), HCW.out.trans0 HC1.out, by simp⟩
  | false =>
    have HDN := Lib.hid hd
    have HRES : Hid (S.dirs = (S.seen.map Prod.fst, 0)) := Lib.hid (by unfold St.dirs; rw [if_neg (by simp [hd])])
    clear hd
    refine (HRW.out.down).mono ?_
    rintro e w1 ⟨rfl, hc⟩
    rw [HDN.out]
    have HC1 := Lib.hid hc
    have HR1 := Lib.hid (HRW.out.keep0 hc)
    obtain ⟨TN, hTN⟩ : ∃ TN, S.seen.length = TN := ⟨_, rfl⟩
    have hTl : TN ≤ 1073741824 := by have := HSL.out; omega
    have HTN := Lib.hid hTN
    have HO1 := Lib.hid (HOW.out.chg hc (fun _ _ => List.not_mem_nil))
    have HCT := Lib.hid (HCW.out.trans0 hc)
    clear hc hTN
    go_wp2
    go_loopw [4, 5] (fun o q wr => ∃ (i : Nat) (A : Option Addr) (c : Nat), i ≤ TN ∧ q = .int .i64 i ∧ o = .slice A i c ∧ Own wr 9 1 A i c (svs ((S.seen.take i).map Prod.fst)) ∧ Chg [] w wr ∧ ∀ k ∈ bo A, w.heap.size ≤ k) (fun _ q _ => TN - (intOf q).toNat)
    case atStart => exact ⟨0, _, 0, Nat.zero_le _, rfl, rfl, HO1.out, HCT.out, by simp⟩
    case round =>
      obtain ⟨i, A, c, hi, rfl, rfl, ho, hch, hnw⟩ := hrel
      have HO := Lib.hid ho
      have HCH := Lib.hid hch
      have HNW := Lib.hid hnw
      have HRR := Lib.hid (HR.out.keep0 hch)
      have r0 := HRR.out.blk.cell 0
      simp only [List.getElem?_toArray, List.getElem?_cons_zero, HTN.out] at r0
      clear ho hch hnw
      by_cases hlt : i < TN
      · have hlt' : (i : Int) < TN := by omega
        obtain ⟨p, hp⟩ : ∃ p, S.seen[i]? = some p := ⟨_, List.getElem?_eq_getElem (by have := HTN.out; omega)⟩
        obtain ⟨nm, F⟩ := p
        obtain ⟨ad, fA, fn, fc, hsA, hat, _⟩ := HRR.out.fold_at hp
        rw [hsA] at r0
        have x0 := hat.c0
        have HP := Lib.hid hp
        clear hp hsA hat
        go_wp2_with (at_builtin; refine wpList_app rfl _ _ rfl etyStrsZ rfl (HO.out.chg ((Chg.refl [] wr).alloc (.cells #[.string nm] 9)) (fun _ _ => List.not_mem_nil)) rfl (Own.lit wr 9 1 #[.string nm] 1 (by decide) rfl).rd (by intro u hu; simp at hu; subst hu; rfl) (by unfold maxLen; omega) (by omega) ?_; intro A4 c4 w4 hown4 hchg4 hnew4 _; have HO4 := Lib.hid hown4; have HC4 := Lib.hid hchg4; have HN4 := Lib.hid hnew4; clear hown4 hchg4 hnew4)
        go_roundw
        case rel =>
          have hcAl : Chg [] wr (wr.alloc (.cells #[.string nm] 9)) := (Chg.refl [] wr).alloc _
          refine ⟨i + 1, A4, c4, by omega, by go_num, rfl, ?_, (HCH.out.trans0 hcAl).trans HC4.out (fun x hx => .inr (HNW.out x hx)), fun k hk => ?_⟩
          · have := HO4.out
            rw [take_snoc _ _ _ HP.out, List.map_append]
            simpa [svs] using this
          · rcases HN4.out k hk with h | h
            · exact HNW.out k h
            · have h3 := HCH.out.size; have h2 := h.1; simp at h2; omega
        case measure => simp [intOf]; omega
      · obtain rfl : i = TN := by omega
        go_wp2
        go_ret2
        rw [HRES.out]
        have hl : (S.seen.map Prod.fst).length = i := by rw [List.length_map]; exact HTN.out
        refine ⟨A, c, by rw [hl]; rfl, ?_, HCH.out, HNW.out⟩
        rw [hl]
        have := HO.out
        rw [List.take_of_length_le (by have := HTN.out; omega)] at this
        exact this

set_option maxRecDepth 100000 in
set_option maxHeartbeats 6400000 in
theorem rlist_any {w : World} {R : RfG} {S : St} {B : Nat} (h : RfM w R S) (hi : Inv B S) (hB : B + 1 ≤ 536870912) (d : ByteArray) :
    Calls Tryz.prog 48 #[.pointer (some ⟨R.b, 0, none⟩), .string d] w fun e w' => NewRowE 9 w (svs (S.list d).1) (S.list d).1.length (S.list d).2 e w' := by
  have HR := Lib.hid h
  have HI := Lib.hid hi
  have HB := Lib.hid hB
  have HSL : Hid (S.seen.length ≤ 1073741824) := Lib.hid (by have := hi.seenl; omega)
  clear h hi hB
  go_enter Tryz.func48, Tryz.ntmps48
  obtain ⟨W, hW⟩ : ∃ W, W = w.alloc (.cells #[] 9) := ⟨_, rfl⟩
  have HW := Lib.hid hW
  have HCW : Hid (Chg [] w W) := Lib.hid (by rw [hW]; exact (Chg.refl _ _).alloc _)
  have HOW : Hid (Own W 9 1 (some ⟨w.heap.size, 0, none⟩) 0 0 []) := Lib.hid (by rw [hW]; exact Own.lit w 9 1 #[] 0 (by decide) rfl)
  have HRW := Lib.hid (HR.out.keep0 HCW.out)
  clear hW
  go_wp2_with fail
  rw [← HW.out]
  refine (rfolder_any HRW.out HI.out HB.out d).mono ?_
  rintro e w1 ⟨rfl, hc⟩
  have HC1 := Lib.hid hc
  have HR1 := Lib.hid (HRW.out.keep0 hc)
  have HO1 := Lib.hid (HOW.out.chg hc (fun _ _ => List.not_mem_nil))
  have HCT := Lib.hid (HCW.out.trans0 hc)
  clear hc
  by_cases ha : S.ask true [d] = 0
  · obtain ⟨F, hF⟩ := (ask_good ha).2.2 rfl
    simp only [List.headD_cons] at hF
    have HRES : Hid (S.list d = (F.map Prod.fst, 0)) := Lib.hid (by
      have : folOf S.seen d = F := by unfold folOf; rw [hF]; rfl
      unfold St.list; rw [ha, if_neg (by simp), this])
    have HFI : Hid (foldI S d = atI d 0 S.seen) := Lib.hid (by unfold foldI; rw [if_pos ha])
    obtain ⟨i, hi1, hi2⟩ := atI_some hF 0
    rw [Nat.zero_add] at hi1
    have HAT := Lib.hid hi1
    have HI2 := Lib.hid hi2
    have hil : i < S.seen.length := (List.getElem?_eq_some_iff.1 hi2).1
    have HFL : Hid (F.length ≤ 1073741824) := Lib.hid (by have := wd_sub (List.mem_of_getElem? hi2); have := HI.out.wd; have := HB.out; simp only at *; omega)
    obtain ⟨TN, hTN⟩ : ∃ TN, S.seen.length = TN := ⟨_, rfl⟩
    have HTN := Lib.hid hTN
    rw [hTN] at hil
    clear hi1 hi2 hF hTN
    have HA := Lib.hid ha
    rw [HA.out, HFI.out, HAT.out]
    obtain ⟨ad, fA, fn, fc, hsA0, _, hfr0⟩ := HR1.out.fold_at HI2.out
    have HSA0 := Lib.hid hsA0
    have HFN : Hid (F.length = fn) := Lib.hid hfr0.nml
    have hil' : (i : Int) < TN := by omega
    have hi0 : (0 : Int) ≤ (i : Int) := by omega
    have hfn : fn ≤ 1073741824 := by have h1 := HFN.out; have h2 := HFL.out; omega
    clear ha hsA0 hfr0
    go_wp2
    go_loopw [6, 9] (fun o q wr => ∃ (j : Nat) (A : Option Addr) (c : Nat), j ≤ fn ∧ q = .int .i64 j ∧ o = .slice A j c ∧ Own wr 9 1 A j c (svs ((F.take j).map Prod.fst)) ∧ Chg [] w wr ∧ ∀ k ∈ bo A, w.heap.size ≤ k) (fun _ q _ => fn - (intOf q).toNat)
    case atStart => exact ⟨0, _, 0, Nat.zero_le _, rfl, rfl, HO1.out, HCT.out, by simp⟩
    case round =>
      obtain ⟨j, A, c, hj, rfl, rfl, ho, hch, hnw⟩ := hrel
      have HO := Lib.hid ho
      have HCH := Lib.hid hch
      have HNW := Lib.hid hnw
      have HRR := Lib.hid (HR.out.keep0 hch)
      obtain ⟨ad', fA', fn', fc', hsA, hat, hfr⟩ := HRR.out.fold_at HI2.out
      have r0 := HRR.out.blk.cell 0
      simp only [List.getElem?_toArray, List.getElem?_cons_zero, HTN.out, hsA] at r0
      obtain rfl : fn' = fn := by have h1 := hfr.nml; have h2 := HFN.out; omega
      have x1 := hat.c1
      have HFR := Lib.hid hfr
      clear ho hch hnw hsA hat hfr
      by_cases hlt : j < fn'
      · have hlt' : (j : Int) < fn' := by omega
        obtain ⟨q, hq⟩ : ∃ q, F[j]? = some q := ⟨_, List.getElem?_eq_getElem (by have := HFN.out; omega)⟩
        obtain ⟨bd, hbd, hnm⟩ := HFR.out.nm hq
        obtain ⟨qn, qi⟩ := q
        have HBD := Lib.hid hbd
        subst hbd
        have m0 := hnm.c0
        have HQ := Lib.hid hq
        clear hq hnm
        go_wp2_with (at_builtin; refine wpList_app rfl _ _ rfl etyStrsZ rfl (HO.out.chg ((Chg.refl [] wr).alloc (.cells #[.string qn] 9)) (fun _ _ => List.not_mem_nil)) rfl (Own.lit wr 9 1 #[.string qn] 1 (by decide) rfl).rd (by intro u hu; simp at hu; subst hu; rfl) (by unfold maxLen; omega) (by omega) ?_; intro A4 c4 w4 hown4 hchg4 hnew4 _; have HO4 := Lib.hid hown4; have HC4 := Lib.hid hchg4; have HN4 := Lib.hid hnew4; clear hown4 hchg4 hnew4)
        go_roundw
        case rel =>
          have hcAl : Chg [] wr (wr.alloc (.cells #[.string qn] 9)) := (Chg.refl [] wr).alloc _
          refine ⟨j + 1, A4, c4, by omega, by go_num, rfl, ?_, (HCH.out.trans0 hcAl).trans HC4.out (fun x hx => .inr (HNW.out x hx)), fun k hk => ?_⟩
          · have := HO4.out
            rw [take_snoc _ _ _ HQ.out, List.map_append]
            simpa [svs] using this
          · rcases HN4.out k hk with h | h
            · exact HNW.out k h
            · have h3 := HCH.out.size; have h2 := h.1; simp at h2; omega
        case measure => simp [intOf]; omega
      · obtain rfl : j = fn' := by omega
        go_wp2
        go_ret2
        rw [HRES.out]
        have hl : (F.map Prod.fst).length = j := by rw [List.length_map]; exact HFN.out
        refine ⟨A, c, by rw [hl]; rfl, ?_, HCH.out, HNW.out⟩
        rw [hl]
        have := HO.out
        rw [List.take_of_length_le (by have := HFN.out; omega)] at this
        exact this
  · have HRES : Hid (S.list d = ([], S.ask true [d])) := Lib.hid (by unfold St.list; rw [if_pos ha])
    obtain ⟨E, hE⟩ : ∃ E, S.ask true [d] = E := ⟨_, rfl⟩
    obtain ⟨fi, hfi⟩ : ∃ fi, foldI S d = fi := ⟨_, rfl⟩
    rw [hE] at HRES ha ⊢
    rw [hfi]
    have hE0 : (E != 0) = true := by simpa using ha
    clear ha hE hfi
    go_wp2
    go_ret2
    rw [HRES.out]
    exact ⟨_, _, rfl, HO1.out, HCT.out, by simp⟩
end Go.Proofs.YtgomofeidghmiaaGreat
