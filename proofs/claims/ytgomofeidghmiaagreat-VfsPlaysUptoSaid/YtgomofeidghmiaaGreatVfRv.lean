/-
  Layer 08: the document's View, Used, Down, at its file system in memory.
-/
import Derived.Test.YtgomofeidghmiaaGreatVfJi
import Derived.Test.YtgomofeidghmiaaGreatVfJf
namespace Go.Proofs.YtgomofeidghmiaaGreat
open Go.RowKit

theorem RfM.down {w : World} {R : RfG} {S : St} (h : RfM w R S) : Calls Tryz.prog 13 #[.pointer (some ⟨R.b, 0, none⟩)] w fun e w' => e = .returned (.bool S.down) ∧ Chg [] w w' :=
  rdown_any R.b S.stop S.steps w (by simpa using h.blk.cell 6) (by simpa using h.blk.cell 7)
theorem RfM.at_ {w : World} {R : RfG} {S : St} (h : RfM w R S) {i : Nat} {f : Fil} (hf : S.files[i]? = some f) : ∃ g L a, R.fA = some a ∧ w.cell? (a.add i) = some (.pointer (some ⟨g, 0, none⟩)) ∧ Rsp w g L f.1 f.2 ∧ (∀ k ∈ L, k ∈ R.all) ∧ a.block ∈ R.all := by
  have hl := (List.getElem?_eq_some_iff.1 hf).1
  have h1 := h.sgl
  have h2 := h.lsl
  have e1 : R.sg[i]? = some (R.sg[i]'(by omega)) := List.getElem?_eq_getElem (by omega)
  have e2 : R.Ls[i]? = some (R.Ls[i]'(by omega)) := List.getElem?_eq_getElem (by omega)
  obtain ⟨ad, u, hA, hx, hc, _⟩ := h.fil.at1 (k := i) hl
  rw [List.getElem?_map, e1] at hx
  simp only [Option.map_some, Option.some.injEq] at hx
  subst hx
  refine ⟨_, _, ad, hA, hc, h.spo i _ _ f e1 e2 hf, fun k hk => RfG.mem_all (i := i + 5) (by simp [RfG.parts]) hk, RfG.mem_all (i := 2) (P := bo R.fA) rfl (by rw [hA]; simp)⟩
theorem RfM.fold {w : World} {R : RfG} {S : St} (h : RfM w R S) {i : Nat} {p : ByteArray × Fol} (hp : S.seen[i]? = some p) :
    ∃ ad A n c, R.sA = some ad ∧ NsAt w (ad.add (i * 2)) ⟨p.1, A, n, c⟩ ∧ Rd w 2 A n c (nmv p.2) ∧ (∀ k ∈ bo A, k ∈ R.all) ∧ ad.block ∈ R.all := by
  have hv := h.seenv
  rw [← hv] at hp
  unfold rval at hp
  rw [List.getElem?_map] at hp
  cases hr : R.rs[i]? with
  | none => rw [hr] at hp; cases hp
  | some r =>
    rw [hr] at hp
    simp only [Option.map_some, Option.some.injEq] at hp
    subst hp
    obtain ⟨ad, hA, hat⟩ := h.seen.row.ns (rnsl_at hr)
    have hm := List.mem_of_getElem? hr
    have hK : ∀ k ∈ R.K, k ∈ R.all := fun k hk => RfG.mem_all (i := 4) (P := R.K) rfl hk
    exact ⟨ad, r.1.A, r.1.n, r.1.c, hA, hat, h.seen.fil r hm, fun k hk => hK k (h.seenk k (List.mem_append_right _ (List.mem_flatMap.2 ⟨r, hm, hk⟩))), hK _ (h.seenk _ (List.mem_append_left _ (by rw [hA]; simp)))⟩

set_option maxRecDepth 100000 in
set_option maxHeartbeats 6400000 in
theorem rview_any {w : World} {R : RfG} {S : St} {B : Nat} (h : RfM w R S) (hi : Inv B S) (hB : B ≤ 1073741824) : Calls Tryz.prog 18 #[.pointer (some ⟨R.b, 0, none⟩)] w (NewDsk w S.view) := by
  have HR := Lib.hid h
  have HI := Lib.hid hi
  have HB := Lib.hid hB
  have HLT := Lib.hid h.lt
  obtain ⟨TN, hTN⟩ : ∃ TN, S.seen.length = TN := ⟨_, rfl⟩
  have hTl : TN ≤ 1073741824 := by have := wd_len S.seen; have := hi.wd; omega
  have HRb : Hid (R.b ∈ R.all) := Lib.hid (RfG.mem_all (i := 0) (P := [R.b]) rfl (by simp))
  have HTN := Lib.hid hTN
  clear h hi hB hTN
  go_enter Tryz.func18, Tryz.ntmps18
  go_wp2
  cases hd : S.down with
  | true =>
    have HDN := Lib.hid hd
    clear hd
    go_loopw [3, 4] (fun o q wr => ∃ A c, q = .int .i64 0 ∧ o = .slice A 0 c ∧ Own wr 67 2 A 0 c [] ∧ Chg [] w wr ∧ ∀ k ∈ bo A, w.heap.size ≤ k) (fun _ _ _ => 0)
    case atStart => exact ⟨_, _, rfl, rfl, Own.lit w 67 2 #[] 0 (by decide) rfl, (Chg.refl _ _).alloc _, by simp⟩
    case round =>
      obtain ⟨A, c, rfl, rfl, ho, hc, hn⟩ := hrel
      have HRR := Lib.hid (HR.out.keep0 hc)
      have HO := Lib.hid ho
      have HC := Lib.hid hc
      have HN := Lib.hid hn
      have r0 := HRR.out.blk.cell 0
      simp only [List.getElem?_toArray, List.getElem?_cons_zero, HTN.out] at r0
      clear ho hc hn
      have HV : Hid (S.view = []) := Lib.hid (by unfold St.view; rw [if_pos HDN.out])
      by_cases h0 : 0 < TN
      · have h0' : (0 : Int) < TN := by omega
        go_wp2_with fail
        refine (HRR.out.down).mono ?_
        rintro e w2 ⟨rfl, hc2⟩
        rw [HDN.out]
        have HC2 := Lib.hid hc2
        clear hc2 r0
        go_wp2
        go_ret
        exact ⟨A, 0, c, [], rfl, ⟨HO.out.chg HC2.out (fun _ _ => List.not_mem_nil), by simp, by simp [dblk]⟩, by rw [HV.out]; rfl, HC.out.trans0 HC2.out, by simpa [dblk] using HN.out⟩
      · obtain rfl : TN = 0 := by omega
        go_wp2
        go_ret
        exact ⟨A, 0, c, [], rfl, ⟨HO.out, by simp, by simp [dblk]⟩, by rw [HV.out]; rfl, HC.out, by simpa [dblk] using HN.out⟩
  | false =>
    have HDN := Lib.hid hd
    clear hd
    go_loopw [3, 4] (fun o q wr => ∃ (i : Nat) (A : Option Addr) (c : Nat) (ds : List DM), i ≤ TN ∧ q = .int .i64 i ∧ o = .slice A i c ∧ DirsO wr A i c ds ∧ dval8 ds = shows S.bytes (S.seen.take i) ∧ Chg [] w wr ∧ ∀ k ∈ bo A ++ dblk ds, w.heap.size ≤ k) (fun _ q _ => TN - (intOf q).toNat)
    case atStart => exact ⟨0, _, 0, [], Nat.zero_le _, rfl, rfl, ⟨Own.lit w 67 2 #[] 0 (by decide) rfl, by simp, by simp [dblk]⟩, rfl, (Chg.refl _ _).alloc _, by simp [dblk]⟩
    case round =>
      obtain ⟨i, A, c, ds, hiT, rfl, rfl, hds, hval, hch, hnew⟩ := hrel
      have HDS := Lib.hid hds
      have HVAL := Lib.hid hval
      have HCH := Lib.hid hch
      have HNEW := Lib.hid hnew
      have HRR := Lib.hid (HR.out.keep0 hch)
      have r0 := HRR.out.blk.cell 0
      simp only [List.getElem?_toArray, List.getElem?_cons_zero, HTN.out] at r0
      clear hds hval hch hnew
      by_cases hlt : i < TN
      · have hlt' : (i : Int) < TN := by omega
        obtain ⟨p, hp⟩ : ∃ p, S.seen[i]? = some p := ⟨_, List.getElem?_eq_getElem (by have := HTN.out; omega)⟩
        obtain ⟨nm, F⟩ := p
        have hpm := List.mem_of_getElem? hp
        have HP := Lib.hid hp
        have HPM := Lib.hid hpm
        have HFL : Hid (F.length ≤ 1073741824) := Lib.hid (by have := wd_sub hpm; have := HI.out.wd; have := HB.out; simp only at *; omega)
        clear hp hpm
        go_wp2_with fail
        refine (HRR.out.down).mono ?_
        rintro e w1 ⟨rfl, hc1⟩
        rw [HDN.out]
        have HC1 := Lib.hid hc1
        have HR1 := Lib.hid (HRR.out.keep0 hc1)
        have HDS1 := Lib.hid (HDS.out.chg hc1 (fun _ _ => List.not_mem_nil))
        clear hc1 r0
        obtain ⟨ad, fA, FN, fc, hsA, hat, hfr, hfk, hab⟩ := HR1.out.fold HP.out
        have HSA := Lib.hid hsA
        have HAT := Lib.hid hat
        have HFR := Lib.hid hfr
        have HFK := Lib.hid hfk
        have HAB := Lib.hid hab
        have r0 := HR1.out.blk.cell 0
        simp only [List.getElem?_toArray, List.getElem?_cons_zero, HTN.out, HSA.out] at r0
        have x0 := hat.c0
        have hFl : FN ≤ 1073741824 := by have h1 := hfr.nml; have h2 := HFL.out; simp only at h1; omega
        clear hsA hat hfr hfk hab
        obtain ⟨db, hdb⟩ : ∃ db, w1.heap.size = db := ⟨_, rfl⟩
        obtain ⟨w5, hWn⟩ : ∃ w5, w5 = w1.alloc (.cells #[.string nm, .slice none 0 0] 67) := ⟨_, rfl⟩
        have hbW : Blk w5 db 67 #[.string nm, .slice none 0 0] := by rw [hWn, ← hdb]; exact Blk.new w1 _ _
        have hcW : Chg [] w1 w5 := by rw [hWn]; exact (Chg.refl _ _).alloc _
        have HB5 := Lib.hid hbW
        have HCW := Lib.hid hcW
        have HDB : Hid (w1.heap.size ≤ db ∧ w.heap.size ≤ w1.heap.size) := Lib.hid ⟨by omega, (HCH.out.trans0 HC1.out).size⟩
        have HDBR : Hid (db ∉ R.all) := Lib.hid (fun hm => by have h1 := HLT.out db hm; have h2 := HDB.out; omega)
        have HLW : Hid (db < w5.heap.size) := Lib.hid hbW.lt
        have HR5 := Lib.hid (HR1.out.keep0 hcW)
        have HDS5 := Lib.hid (HDS1.out.chg hcW (fun _ _ => List.not_mem_nil))
        have HAB2 : Hid (∀ k ∈ bo A ++ dblk ds, k < db) := Lib.hid (fun k hk => by have := HDS1.out.lt k hk; omega)
        have HA5 := Lib.hid (HAT.out.chg hcW List.not_mem_nil)
        have HF5 := Lib.hid (HFR.out.chg hcW (fun _ _ => List.not_mem_nil))
        have HWN := Lib.hid hWn
        clear hbW hcW hWn
        go_wp2
        rw [← HWN.out]
        go_loopw [6] (fun q wj => ∃ (j : Nat) (Bf : Option Addr) (d : Nat) (fs : List FM), j ≤ FN ∧ q = .int .i64 j ∧ Blk wj db 67 #[.string nm, .slice Bf j d] ∧ FilesO wj Bf j d fs ∧ fval8 fs = (F.take j).map (fun q => (q.1, S.bytes q.2)) ∧ Chg [db] w5 wj ∧ ∀ k ∈ bo Bf ++ fblk fs, w5.heap.size ≤ k) (fun q _ => FN - (intOf q).toNat)
        case atStart => exact ⟨0, none, 0, [], Nat.zero_le _, rfl, HB5.out, ⟨Own.nil _ _ _, by simp, by simp [fblk]⟩, rfl, Chg.refl _ _, by simp [fblk]⟩
        case round =>
          obtain ⟨j, Bf, d, fs, hjF, rfl, hbj, hfs, hfv, hcj, hnj⟩ := hrel
          have HBJ := Lib.hid hbj
          have HFS := Lib.hid hfs
          have HFV := Lib.hid hfv
          have HCJ := Lib.hid hcj
          have HNJ := Lib.hid hnj
          have HRJ := Lib.hid (HR5.out.keep hcj (fun x hx hm => by simp at hm; subst hm; exact HDBR.out hx))
          have hatj := HA5.out.chg hcj (fun hm => by simp only [add_block, List.mem_singleton] at hm; exact HDBR.out (hm ▸ HAB.out))
          have x1' := hatj.c1
          have r0 := HRJ.out.blk.cell 0
          simp only [List.getElem?_toArray, List.getElem?_cons_zero, HTN.out, HSA.out] at r0
          clear hbj hfs hfv hcj hnj hatj
          by_cases hjl : j < FN
          · have hjl' : (j : Int) < FN := by omega
            have hfj := HF5.out.chg HCJ.out (fun k hk hm => by simp only [List.mem_singleton] at hm; subst hm; exact HDBR.out (HFK.out _ hk))
            obtain ⟨q, hq⟩ : ∃ q, F[j]? = some q := ⟨_, List.getElem?_eq_getElem (by have := HF5.out.nml; omega)⟩
            obtain ⟨qn, qi⟩ := q
            obtain ⟨bd, hbd, hnm⟩ := hfj.nm hq
            have HBD := Lib.hid hbd
            have m0 := hnm.c0
            have m1 := hnm.c1
            have hqid : qi < S.files.length := HI.out.val.ids _ HPM.out _ (List.mem_of_getElem? hq)
            obtain ⟨f, hf⟩ : ∃ f, S.files[qi]? = some f := ⟨_, List.getElem?_eq_getElem hqid⟩
            have HQ := Lib.hid hq
            have HBYT : Hid (S.bytes qi = f.1 ++ f.2.flatten) := Lib.hid (by unfold St.bytes; rw [List.getD_eq_getElem?_getD, hf]; rfl)
            have HFB : Hid (f.1.length + f.2.flatten.length ≤ 1073741824 ∧ f.2.length ≤ 1073741824) := Lib.hid (by
              have := HI.out.fil qi
              rw [List.getD_eq_getElem?_getD, hf] at this
              have h2 := HB.out
              simp only [Option.getD_some] at this
              omega)
            obtain ⟨sl, hsl⟩ : ∃ sl, (f.1 ++ f.2.flatten).length = sl := ⟨_, rfl⟩
            have HSL := Lib.hid hsl
            have hsl2 : sl ≤ 1073741824 := by rw [← hsl, List.length_append]; exact HFB.out.1
            have HF := Lib.hid hf
            obtain ⟨FL, hFL⟩ : ∃ FL, S.files.length = FL := ⟨_, rfl⟩
            have HFLN := Lib.hid hFL
            rw [hFL] at hqid
            have hq0 : (0 : Int) ≤ (qi : Int) := by omega
            have hqf : (qi : Int) < (FL : Int) := by omega
            clear hq hf hfj hnm hsl hFL
            subst hbd
            obtain ⟨nb, hnb⟩ : ∃ nb, wr.heap.size = nb := ⟨_, rfl⟩
            obtain ⟨W6, hW6⟩ : ∃ W6, wr.alloc (.cells #[.string qn, .int .i64 (qi : Int)] 108) = W6 := ⟨_, rfl⟩
            have hv6 : Blk W6 nb 108 #[.string qn, .int .i64 (qi : Int)] := by rw [← hW6, ← hnb]; exact Blk.new wr _ _
            have hc6 : Chg [] wr W6 := by rw [← hW6]; exact (Chg.refl [] wr).alloc _
            have HR6 := Lib.hid (HRJ.out.keep0 hc6)
            obtain ⟨g, L, fa, hfa, hp0, hspo, hLr, hfab⟩ := HR6.out.at_ HF.out
            have n0 := hv6.cell 0
            have n1 := hv6.cell 1
            have r3 := HR6.out.blk.cell 3
            simp only [List.getElem?_toArray, List.getElem?_cons_succ, List.getElem?_cons_zero, HFLN.out, hfa] at n0 n1 r3
            have p0 := hp0
            have HSPO := Lib.hid hspo
            have HBJ6 := Lib.hid (HBJ.out.chg hc6 List.not_mem_nil)
            have HFS6 := Lib.hid (HFS.out.chg hc6 (fun _ _ => List.not_mem_nil))
            have HC6A := Lib.hid hc6
            have hw5 := HCW.out.size
            have HNEWB : Hid (∀ k ∈ db :: bo Bf, w.heap.size ≤ k ∧ k < wr.heap.size) := Lib.hid (fun k hk => by
              have h2 := HDB.out
              rcases List.mem_cons.1 hk with rfl | hk
              · exact ⟨by omega, HBJ.out.lt⟩
              · have h3 := HNJ.out k (List.mem_append_left _ hk)
                exact ⟨by omega, HFS.out.lt k (List.mem_append_left _ hk)⟩)
            have HLQ : Hid (∀ k ∈ L, k ∉ db :: bo Bf) := Lib.hid (fun k hk hm => by have h1 := HLT.out k (hLr k hk); have h2 := (HNEWB.out k hm).1; omega)
            have HNBL : Hid (nb ∉ db :: bo Bf ∧ R.b ∉ db :: bo Bf ∧ (fa.add qi).block ∉ db :: bo Bf) := Lib.hid ⟨fun hm => by have h2 := (HNEWB.out nb hm).2; omega, fun hm => by have h1 := HLT.out _ HRb.out; have h2 := (HNEWB.out _ hm).1; omega, fun hm => by rw [add_block] at hm; have h1 := HLT.out _ hfab; have h2 := (HNEWB.out _ hm).1; omega⟩
            have x1 := HBJ6.out.cell 1
            have f1 := HBJ6.out.frozen 1
            simp only [List.getElem?_toArray, List.getElem?_cons_succ, List.getElem?_cons_zero] at x1
            have HDBB : Hid (db ∉ bo Bf) := Lib.hid (fun hm => by have := HNJ.out db (List.mem_append_left _ hm); have := HLW.out; omega)
            have hj63 : j ≤ 1073741824 := by omega
            have HFA := Lib.hid hfa
            clear hv6 hc6 hfa hp0 hspo hLr hfab hw5
            go_wp2
            refine wp_region_held_drew (S := fun w' => Chg (db :: bo Bf) W6 w') (by kernel_rfl) ((Chg.refl _ _).drew) (fun hHeld => ?_)
            refine wpAnyH_take (i := 0) (v := ?_) rfl (by kernel_rfl) (by kernel_rfl) (by kernel_rfl) (fun _ _ _ h => h) (Or.inl ⟨by rfl, ?_⟩) (by assumption) ?_
            rotate_left
            · (intro w' hSw; go_simp; try with_reducible rfl)
            try simp only [Act.put, put8]
            refine wpAnyH_take (i := 2) (v := ?_) rfl (by kernel_rfl) (by kernel_rfl) (by kernel_rfl) (fun _ _ _ h => h) (Or.inl ⟨by rfl, ?_⟩) (by assumption) ?_
            rotate_left
            · (intro w' hSw; go_simp; try with_reducible rfl)
            try simp only [Act.put, put8]
            refine wpAnyH_take (i := 3) (v := ?_) rfl (by kernel_rfl) (by kernel_rfl) (by kernel_rfl) (fun _ _ _ h => h) (Or.inl ⟨by rfl, ?_⟩) (by assumption) ?_
            rotate_left
            · (intro w' hSw; have y := hSw.cell n0 HNBL.out.1; go_simp; try with_reducible rfl)
            try simp only [Act.put, put8]
            refine wpAnyH_take (i := 4) (v := ?_) rfl (by kernel_rfl) (by kernel_rfl) (by kernel_rfl) (fun _ _ _ h => h) (Or.inl ⟨by rfl, ?_⟩) (by assumption) ?_
            rotate_left
            · (intro w' hSw; go_simp; try with_reducible rfl)
            try simp only [Act.put, put8]
            refine wpAnyH_take (i := 5) (v := ?_) rfl (by kernel_rfl) (by kernel_rfl) (by kernel_rfl) (fun _ _ _ h => h) (Or.inl ⟨by rfl, ?_⟩) (by assumption) ?_
            rotate_left
            · (intro w' hSw; go_simp; try with_reducible rfl)
            try simp only [Act.put, put8]
            refine wpAnyH_take (i := 6) (v := ?_) rfl (by kernel_rfl) (by kernel_rfl) (by kernel_rfl) (fun _ _ _ h => h) (Or.inl ⟨by rfl, ?_⟩) (by assumption) ?_
            rotate_left
            · (intro w' hSw; go_simp; try with_reducible rfl)
            try simp only [Act.put, put8]
            refine wpAnyH_take (i := 7) (v := ?_) rfl (by kernel_rfl) (by kernel_rfl) (by kernel_rfl) (fun _ _ _ h => h) (Or.inl ⟨by rfl, ?_⟩) (by assumption) ?_
            rotate_left
            · (intro w' hSw; have y := hSw.cell r3 HNBL.out.2.1; go_simp; try with_reducible rfl)
            try simp only [Act.put, put8]
            refine wpAnyH_take (i := 8) (v := ?_) rfl (by kernel_rfl) (by kernel_rfl) (by kernel_rfl) (fun _ _ _ h => h) (Or.inl ⟨by rfl, ?_⟩) (by assumption) ?_
            rotate_left
            · (intro w' hSw; go_simp; try with_reducible rfl)
            try simp only [Act.put, put8]
            refine wpAnyH_take (i := 9) (v := ?_) rfl (by kernel_rfl) (by kernel_rfl) (by kernel_rfl) (fun _ _ _ h => h) (Or.inl ⟨by rfl, ?_⟩) (by assumption) ?_
            rotate_left
            · (intro w' hSw; have y := hSw.cell n1 HNBL.out.1; go_simp; try with_reducible rfl)
            try simp only [Act.put, put8]
            refine wpAnyH_take (i := 10) (v := ?_) rfl (by kernel_rfl) (by kernel_rfl) (by kernel_rfl) (fun _ _ _ h => h) (Or.inl ⟨by rfl, ?_⟩) (by assumption) ?_
            rotate_left
            · (intro w' hSw; go_simp; try with_reducible rfl)
            try simp only [Act.put, put8]
            refine wpAnyH_take (i := 11) (v := ?_) rfl (by kernel_rfl) (by kernel_rfl) (by kernel_rfl) (fun _ _ _ h => h) (Or.inl ⟨by rfl, ?_⟩) (by assumption) ?_
            rotate_left
            · (intro w' hSw; have y := hSw.cell p0 HNBL.out.2.2; go_simp; try with_reducible rfl)
            try simp only [Act.put, put8]
            refine wpAnyH_ready (rs := [1, 12]) (by kernel_rfl) (by simp) ?_
            refine AllReadyH.cons rfl (fun K hK => ?_) (AllReadyH.cons rfl (fun K hK => ?_) (AllReadyH.nil))
            · go_simp
              refine hK.out _ _ (hHeld) (fun hHeld => ?_)
              try simp only [Act.put, put8]
              clear hK K
              refine wpAnyH_ready (rs := [12]) (by kernel_rfl) (by simp) ?_
              refine AllReadyH.cons rfl (fun K hK => ?_) (AllReadyH.nil)
              go_simp
              refine (rseen_any g L f.1 f.2 _ (HSPO.out.chg hHeld HLQ.out) HFB.out.1 HFB.out.2 sl HSL.out).mono ?_
              rintro ee w4 ⟨BA, bc, rfl, hbo, hc4, hn4⟩
              have y1 : w4.cell? ⟨db, 1, none⟩ = some (.slice Bf j d) := hc4.cell (by simpa using x1) List.not_mem_nil
              have HBO := Lib.hid hbo
              have HC4 := Lib.hid hc4
              have HN4 := Lib.hid hn4
              have hHc := hHeld.trans0 hc4
              have HOW4 : Hid (Own (w4.alloc (.cells #[.string qn, .slice BA sl bc] 70)) 70 2 Bf j d (nsv (fnsl fs))) := Lib.hid (HFS6.out.row.chg ((((Chg.refl [] W6).drew).trans0 hc4).alloc _) (fun _ _ => List.not_mem_nil))
              have HBJ4 : Hid (Blk (w4.alloc (.cells #[.string qn, .slice BA sl bc] 70)) db 67 #[.string nm, .slice Bf j d]) := Lib.hid (HBJ6.out.chg ((((Chg.refl [] W6).drew).trans0 hc4).alloc _) List.not_mem_nil)
              have HCL : Hid (Chg [] W6 (w4.alloc (.cells #[.string qn, .slice BA sl bc] 70))) := Lib.hid ((((Chg.refl [] W6).drew).trans0 hc4).alloc _)
              have y1a : (w4.alloc (.cells #[.string qn, .slice BA sl bc] 70)).cell? ⟨db, 1, none⟩ = some (.slice Bf j d) := HBJ4.out.cell 1
              clear hbo hn4
              refine hK.out _ _ (hHc) (fun hHeld => ?_)
              try simp only [Act.put, put8]
              clear hK K
              refine wpAnyH_take (i := 13) (v := ?_) rfl (by kernel_rfl) (by kernel_rfl) (by kernel_rfl) (fun _ _ _ h => h) (Or.inl ⟨by rfl, ?_⟩) (by assumption) ?_
              rotate_left
              · (intro w' hSw; go_simp; try with_reducible rfl)
              try simp only [Act.put, put8]
              refine wpAnyH_ready (rs := [14]) (by kernel_rfl) (by simp) ?_
              refine AllReadyH.cons rfl (fun K hK => ?_) (AllReadyH.nil)
              go_simp
              refine hK.out _ _ (hHeld.alloc _) (fun hHeld => ?_)
              try simp only [Act.put, put8]
              clear hK K
              refine wpAnyH_ready (rs := [15]) (by kernel_rfl) (by simp) ?_
              refine AllReadyH.cons rfl (fun K hK => ?_) (AllReadyH.nil)
              refine step_app rfl _ _ rfl etyFiles rfl HOW4.out rfl (Own.lit w4 70 2 #[.string qn, .slice BA sl bc] 1 (by decide) rfl).rd (nsv_one [⟨qn, BA, sl, bc⟩]) (by unfold maxLen; omega) (by omega) ?_
              intro A2 c2 w6 hown6 hchg6 hnew6 _
              have HB6 := Lib.hid (HBJ4.out.chg hchg6 HDBB.out)
              have y6 := HB6.out.cell 1
              have f6 := HB6.out.frozen 1
              simp at y6
              have HO6 := Lib.hid hown6
              have HC6 := Lib.hid hchg6
              have HN6 := Lib.hid hnew6
              have hH6 := hHeld.trans hchg6 (fun x hx => .inl (List.mem_cons_of_mem _ hx))
              clear hown6 hchg6 hnew6
              refine hK.out _ _ (hH6) (fun hHeld => ?_)
              try simp only [Act.put, put8]
              clear hK K
              refine wpAnyH_take (i := 16) (v := ?_) rfl (by kernel_rfl) (by kernel_rfl) (by kernel_rfl) (fun _ _ _ h => h) (Or.inl ⟨by rfl, ?_⟩) (by assumption) ?_
              rotate_left
              · (intro w' hSw; go_simp; try with_reducible rfl)
              try simp only [Act.put, put8]
              refine wpAnyH_ready (rs := [17]) (by kernel_rfl) (by simp) ?_
              refine AllReadyH.cons rfl (fun K hK => ?_) (AllReadyH.nil)
              go_simp
              refine hK.out _ _ (hHeld.setCell (.inl (by simp)) _) (fun hHeld => ?_)
              try simp only [Act.put, put8]
              clear hK K
              refine wpAnyH_done (by kernel_rfl) ?_ _
              try simp only [Act.put, put8]
              have HCS : Hid (Chg [db] w6 (w6.setCell ⟨db, 1, none⟩ (.slice A2 (j + 1) c2))) := Lib.hid ((Chg.refl _ _).setCell (.inl (by simp)) _)
              have HBS : Hid (Blk (w6.setCell ⟨db, 1, none⟩ (.slice A2 (j + 1) c2)) db 67 #[.string nm, .slice A2 (j + 1) c2]) := Lib.hid (by simpa using HB6.out.set_ 1 (.slice A2 (j + 1) c2))
              clear y6 f6 y1 y1a hHeld hHc hH6 hc4 x1 f1 n0 n1
              go_wp2
              go_roundw
              case rel =>
                have hn6 : ∀ k ∈ bo A2, w5.heap.size ≤ k := fun k hk => by
                  rcases HN6.out k hk with h | h
                  · exact HNJ.out k (List.mem_append_left _ h)
                  · have h1 := HCJ.out.size; have h2 := HC6A.out.size; have h3 := HCL.out.size; omega
                have hndb : ∀ k ∈ bo A2, k ∉ [db] := fun k hk hm => by
                  simp only [List.mem_singleton] at hm
                  have h1 := hn6 k hk; have h2 := HLW.out; omega
                have hwl : W6.drew.heap.size ≤ w4.heap.size := HC4.out.size
                have hba : ∀ k ∈ bo BA, W6.heap.size ≤ k := fun k hk => HN4.out k hk
                have hbaO : Own (w4.alloc (.cells #[.string qn, .slice BA sl bc] 70)) 5 1 BA sl bc (bv (S.bytes qi)) := by
                  have := HBO.out.chg ((Chg.refl [] w4).alloc (.cells #[.string qn, .slice BA sl bc] 70)) (fun _ _ => List.not_mem_nil)
                  rw [HBYT.out]; exact this
                have hfl := HFS6.out.lt
                have hO6 : Own w6 70 2 A2 (j + 1) c2 (nsv (fnsl (fs ++ [(⟨qn, BA, sl, bc⟩, S.bytes qi)]))) := by
                  have := HO6.out
                  unfold fnsl at this ⊢
                  rw [List.map_append, nsv_append]
                  exact this
                have hfs6 : FilesO w6 A2 (j + 1) c2 (fs ++ [(⟨qn, BA, sl, bc⟩, S.bytes qi)]) :=
                  (HFS6.out.chg HCL.out (fun _ _ => List.not_mem_nil)).snoc HC6.out hO6 (hbaO.chg HC6.out (fun k hk hm => by have h1 := hba k hk; have h2 := hfl k (List.mem_append_left _ hm); omega)) (fun k hk hm => by have h1 := hba k hk; have h2 := hfl k (List.mem_append_right _ hm); omega)
                refine ⟨j + 1, A2, c2, fs ++ [(⟨qn, BA, sl, bc⟩, S.bytes qi)], by omega, by go_num, HBS.out, hfs6.chg HCS.out (fun k hk hm => ?_), ?_, ?_, ?_⟩
                · rcases List.mem_append.1 hk with hk | hk
                  · exact hndb k hk hm
                  · obtain ⟨f, hf, hk⟩ := List.mem_flatMap.1 hk
                    simp only [List.mem_singleton] at hm
                    subst hm
                    exact (hfs6.dat f hf).blk_ne HB6.out (by decide) _ hk rfl
                · rw [fval8_snoc, take_snoc _ _ _ HQ.out, List.map_append, HFV.out]; rfl
                · exact (((HCJ.out.trans0 HC6A.out).trans0 HCL.out).trans HC6.out (fun x hx => .inr (HNJ.out x (List.mem_append_left _ hx)))).trans HCS.out (fun x hx => .inl hx)
                · intro k hk
                  rw [fblk_snoc] at hk
                  rcases List.mem_append.1 hk with hk | hk
                  · exact hn6 k hk
                  · rcases List.mem_append.1 hk with hk | hk
                    · exact HNJ.out k (List.mem_append_right _ hk)
                    · have h1 := hba k hk; have h2 := HCJ.out.size; have h3 := HC6A.out.size; omega
              case measure => simp [intOf]; omega
            · go_simp
              refine (rseen_any g L f.1 f.2 _ (HSPO.out.chg hHeld HLQ.out) HFB.out.1 HFB.out.2 sl HSL.out).mono ?_
              rintro ee w4 ⟨BA, bc, rfl, hbo, hc4, hn4⟩
              have y1 : w4.cell? ⟨db, 1, none⟩ = some (.slice Bf j d) := hc4.cell (by simpa using x1) List.not_mem_nil
              have HBO := Lib.hid hbo
              have HC4 := Lib.hid hc4
              have HN4 := Lib.hid hn4
              have hHc := hHeld.trans0 hc4
              have HOW4 : Hid (Own (w4.alloc (.cells #[.string qn, .slice BA sl bc] 70)) 70 2 Bf j d (nsv (fnsl fs))) := Lib.hid (HFS6.out.row.chg ((((Chg.refl [] W6).drew).trans0 hc4).alloc _) (fun _ _ => List.not_mem_nil))
              have HBJ4 : Hid (Blk (w4.alloc (.cells #[.string qn, .slice BA sl bc] 70)) db 67 #[.string nm, .slice Bf j d]) := Lib.hid (HBJ6.out.chg ((((Chg.refl [] W6).drew).trans0 hc4).alloc _) List.not_mem_nil)
              have HCL : Hid (Chg [] W6 (w4.alloc (.cells #[.string qn, .slice BA sl bc] 70))) := Lib.hid ((((Chg.refl [] W6).drew).trans0 hc4).alloc _)
              have y1a : (w4.alloc (.cells #[.string qn, .slice BA sl bc] 70)).cell? ⟨db, 1, none⟩ = some (.slice Bf j d) := HBJ4.out.cell 1
              clear hbo hn4
              refine hK.out _ _ (hHc) (fun hHeld => ?_)
              try simp only [Act.put, put8]
              clear hK K
              refine wpAnyH_take (i := 13) (v := ?_) rfl (by kernel_rfl) (by kernel_rfl) (by kernel_rfl) (fun _ _ _ h => h) (Or.inl ⟨by rfl, ?_⟩) (by assumption) ?_
              rotate_left
              · (intro w' hSw; go_simp; try with_reducible rfl)
              try simp only [Act.put, put8]
              refine wpAnyH_ready (rs := [1, 14]) (by kernel_rfl) (by simp) ?_
              refine AllReadyH.cons rfl (fun K hK => ?_) (AllReadyH.cons rfl (fun K hK => ?_) (AllReadyH.nil))
              · go_simp
                refine hK.out _ _ (hHeld) (fun hHeld => ?_)
                try simp only [Act.put, put8]
                clear hK K
                refine wpAnyH_ready (rs := [14]) (by kernel_rfl) (by simp) ?_
                refine AllReadyH.cons rfl (fun K hK => ?_) (AllReadyH.nil)
                go_simp
                refine hK.out _ _ (hHeld.alloc _) (fun hHeld => ?_)
                try simp only [Act.put, put8]
                clear hK K
                refine wpAnyH_ready (rs := [15]) (by kernel_rfl) (by simp) ?_
                refine AllReadyH.cons rfl (fun K hK => ?_) (AllReadyH.nil)
                refine step_app rfl _ _ rfl etyFiles rfl HOW4.out rfl (Own.lit w4 70 2 #[.string qn, .slice BA sl bc] 1 (by decide) rfl).rd (nsv_one [⟨qn, BA, sl, bc⟩]) (by unfold maxLen; omega) (by omega) ?_
                intro A2 c2 w6 hown6 hchg6 hnew6 _
                have HB6 := Lib.hid (HBJ4.out.chg hchg6 HDBB.out)
                have y6 := HB6.out.cell 1
                have f6 := HB6.out.frozen 1
                simp at y6
                have HO6 := Lib.hid hown6
                have HC6 := Lib.hid hchg6
                have HN6 := Lib.hid hnew6
                have hH6 := hHeld.trans hchg6 (fun x hx => .inl (List.mem_cons_of_mem _ hx))
                clear hown6 hchg6 hnew6
                refine hK.out _ _ (hH6) (fun hHeld => ?_)
                try simp only [Act.put, put8]
                clear hK K
                refine wpAnyH_take (i := 16) (v := ?_) rfl (by kernel_rfl) (by kernel_rfl) (by kernel_rfl) (fun _ _ _ h => h) (Or.inl ⟨by rfl, ?_⟩) (by assumption) ?_
                rotate_left
                · (intro w' hSw; go_simp; try with_reducible rfl)
                try simp only [Act.put, put8]
                refine wpAnyH_ready (rs := [17]) (by kernel_rfl) (by simp) ?_
                refine AllReadyH.cons rfl (fun K hK => ?_) (AllReadyH.nil)
                go_simp
                refine hK.out _ _ (hHeld.setCell (.inl (by simp)) _) (fun hHeld => ?_)
                try simp only [Act.put, put8]
                clear hK K
                refine wpAnyH_done (by kernel_rfl) ?_ _
                try simp only [Act.put, put8]
                have HCS : Hid (Chg [db] w6 (w6.setCell ⟨db, 1, none⟩ (.slice A2 (j + 1) c2))) := Lib.hid ((Chg.refl _ _).setCell (.inl (by simp)) _)
                have HBS : Hid (Blk (w6.setCell ⟨db, 1, none⟩ (.slice A2 (j + 1) c2)) db 67 #[.string nm, .slice A2 (j + 1) c2]) := Lib.hid (by simpa using HB6.out.set_ 1 (.slice A2 (j + 1) c2))
                clear y6 f6 y1 y1a hHeld hHc hH6 hc4 x1 f1 n0 n1
                go_wp2
                go_roundw
                case rel =>
                  have hn6 : ∀ k ∈ bo A2, w5.heap.size ≤ k := fun k hk => by
                    rcases HN6.out k hk with h | h
                    · exact HNJ.out k (List.mem_append_left _ h)
                    · have h1 := HCJ.out.size; have h2 := HC6A.out.size; have h3 := HCL.out.size; omega
                  have hndb : ∀ k ∈ bo A2, k ∉ [db] := fun k hk hm => by
                    simp only [List.mem_singleton] at hm
                    have h1 := hn6 k hk; have h2 := HLW.out; omega
                  have hwl : W6.drew.heap.size ≤ w4.heap.size := HC4.out.size
                  have hba : ∀ k ∈ bo BA, W6.heap.size ≤ k := fun k hk => HN4.out k hk
                  have hbaO : Own (w4.alloc (.cells #[.string qn, .slice BA sl bc] 70)) 5 1 BA sl bc (bv (S.bytes qi)) := by
                    have := HBO.out.chg ((Chg.refl [] w4).alloc (.cells #[.string qn, .slice BA sl bc] 70)) (fun _ _ => List.not_mem_nil)
                    rw [HBYT.out]; exact this
                  have hfl := HFS6.out.lt
                  have hO6 : Own w6 70 2 A2 (j + 1) c2 (nsv (fnsl (fs ++ [(⟨qn, BA, sl, bc⟩, S.bytes qi)]))) := by
                    have := HO6.out
                    unfold fnsl at this ⊢
                    rw [List.map_append, nsv_append]
                    exact this
                  have hfs6 : FilesO w6 A2 (j + 1) c2 (fs ++ [(⟨qn, BA, sl, bc⟩, S.bytes qi)]) :=
                    (HFS6.out.chg HCL.out (fun _ _ => List.not_mem_nil)).snoc HC6.out hO6 (hbaO.chg HC6.out (fun k hk hm => by have h1 := hba k hk; have h2 := hfl k (List.mem_append_left _ hm); omega)) (fun k hk hm => by have h1 := hba k hk; have h2 := hfl k (List.mem_append_right _ hm); omega)
                  refine ⟨j + 1, A2, c2, fs ++ [(⟨qn, BA, sl, bc⟩, S.bytes qi)], by omega, by go_num, HBS.out, hfs6.chg HCS.out (fun k hk hm => ?_), ?_, ?_, ?_⟩
                  · rcases List.mem_append.1 hk with hk | hk
                    · exact hndb k hk hm
                    · obtain ⟨f, hf, hk⟩ := List.mem_flatMap.1 hk
                      simp only [List.mem_singleton] at hm
                      subst hm
                      exact (hfs6.dat f hf).blk_ne HB6.out (by decide) _ hk rfl
                  · rw [fval8_snoc, take_snoc _ _ _ HQ.out, List.map_append, HFV.out]; rfl
                  · exact (((HCJ.out.trans0 HC6A.out).trans0 HCL.out).trans HC6.out (fun x hx => .inr (HNJ.out x (List.mem_append_left _ hx)))).trans HCS.out (fun x hx => .inl hx)
                  · intro k hk
                    rw [fblk_snoc] at hk
                    rcases List.mem_append.1 hk with hk | hk
                    · exact hn6 k hk
                    · rcases List.mem_append.1 hk with hk | hk
                      · exact HNJ.out k (List.mem_append_right _ hk)
                      · have h1 := hba k hk; have h2 := HCJ.out.size; have h3 := HC6A.out.size; omega
                case measure => simp [intOf]; omega
              · go_simp
                refine hK.out _ _ (hHeld.alloc _) (fun hHeld => ?_)
                try simp only [Act.put, put8]
                clear hK K
                refine wpAnyH_ready (rs := [1]) (by kernel_rfl) (by simp) ?_
                refine AllReadyH.cons rfl (fun K hK => ?_) (AllReadyH.nil)
                go_simp
                refine hK.out _ _ (hHeld) (fun hHeld => ?_)
                try simp only [Act.put, put8]
                clear hK K
                refine wpAnyH_ready (rs := [15]) (by kernel_rfl) (by simp) ?_
                refine AllReadyH.cons rfl (fun K hK => ?_) (AllReadyH.nil)
                refine step_app rfl _ _ rfl etyFiles rfl HOW4.out rfl (Own.lit w4 70 2 #[.string qn, .slice BA sl bc] 1 (by decide) rfl).rd (nsv_one [⟨qn, BA, sl, bc⟩]) (by unfold maxLen; omega) (by omega) ?_
                intro A2 c2 w6 hown6 hchg6 hnew6 _
                have HB6 := Lib.hid (HBJ4.out.chg hchg6 HDBB.out)
                have y6 := HB6.out.cell 1
                have f6 := HB6.out.frozen 1
                simp at y6
                have HO6 := Lib.hid hown6
                have HC6 := Lib.hid hchg6
                have HN6 := Lib.hid hnew6
                have hH6 := hHeld.trans hchg6 (fun x hx => .inl (List.mem_cons_of_mem _ hx))
                clear hown6 hchg6 hnew6
                refine hK.out _ _ (hH6) (fun hHeld => ?_)
                try simp only [Act.put, put8]
                clear hK K
                refine wpAnyH_take (i := 16) (v := ?_) rfl (by kernel_rfl) (by kernel_rfl) (by kernel_rfl) (fun _ _ _ h => h) (Or.inl ⟨by rfl, ?_⟩) (by assumption) ?_
                rotate_left
                · (intro w' hSw; go_simp; try with_reducible rfl)
                try simp only [Act.put, put8]
                refine wpAnyH_ready (rs := [17]) (by kernel_rfl) (by simp) ?_
                refine AllReadyH.cons rfl (fun K hK => ?_) (AllReadyH.nil)
                go_simp
                refine hK.out _ _ (hHeld.setCell (.inl (by simp)) _) (fun hHeld => ?_)
                try simp only [Act.put, put8]
                clear hK K
                refine wpAnyH_done (by kernel_rfl) ?_ _
                try simp only [Act.put, put8]
                have HCS : Hid (Chg [db] w6 (w6.setCell ⟨db, 1, none⟩ (.slice A2 (j + 1) c2))) := Lib.hid ((Chg.refl _ _).setCell (.inl (by simp)) _)
                have HBS : Hid (Blk (w6.setCell ⟨db, 1, none⟩ (.slice A2 (j + 1) c2)) db 67 #[.string nm, .slice A2 (j + 1) c2]) := Lib.hid (by simpa using HB6.out.set_ 1 (.slice A2 (j + 1) c2))
                clear y6 f6 y1 y1a hHeld hHc hH6 hc4 x1 f1 n0 n1
                go_wp2
                go_roundw
                case rel =>
                  have hn6 : ∀ k ∈ bo A2, w5.heap.size ≤ k := fun k hk => by
                    rcases HN6.out k hk with h | h
                    · exact HNJ.out k (List.mem_append_left _ h)
                    · have h1 := HCJ.out.size; have h2 := HC6A.out.size; have h3 := HCL.out.size; omega
                  have hndb : ∀ k ∈ bo A2, k ∉ [db] := fun k hk hm => by
                    simp only [List.mem_singleton] at hm
                    have h1 := hn6 k hk; have h2 := HLW.out; omega
                  have hwl : W6.drew.heap.size ≤ w4.heap.size := HC4.out.size
                  have hba : ∀ k ∈ bo BA, W6.heap.size ≤ k := fun k hk => HN4.out k hk
                  have hbaO : Own (w4.alloc (.cells #[.string qn, .slice BA sl bc] 70)) 5 1 BA sl bc (bv (S.bytes qi)) := by
                    have := HBO.out.chg ((Chg.refl [] w4).alloc (.cells #[.string qn, .slice BA sl bc] 70)) (fun _ _ => List.not_mem_nil)
                    rw [HBYT.out]; exact this
                  have hfl := HFS6.out.lt
                  have hO6 : Own w6 70 2 A2 (j + 1) c2 (nsv (fnsl (fs ++ [(⟨qn, BA, sl, bc⟩, S.bytes qi)]))) := by
                    have := HO6.out
                    unfold fnsl at this ⊢
                    rw [List.map_append, nsv_append]
                    exact this
                  have hfs6 : FilesO w6 A2 (j + 1) c2 (fs ++ [(⟨qn, BA, sl, bc⟩, S.bytes qi)]) :=
                    (HFS6.out.chg HCL.out (fun _ _ => List.not_mem_nil)).snoc HC6.out hO6 (hbaO.chg HC6.out (fun k hk hm => by have h1 := hba k hk; have h2 := hfl k (List.mem_append_left _ hm); omega)) (fun k hk hm => by have h1 := hba k hk; have h2 := hfl k (List.mem_append_right _ hm); omega)
                  refine ⟨j + 1, A2, c2, fs ++ [(⟨qn, BA, sl, bc⟩, S.bytes qi)], by omega, by go_num, HBS.out, hfs6.chg HCS.out (fun k hk hm => ?_), ?_, ?_, ?_⟩
                  · rcases List.mem_append.1 hk with hk | hk
                    · exact hndb k hk hm
                    · obtain ⟨f, hf, hk⟩ := List.mem_flatMap.1 hk
                      simp only [List.mem_singleton] at hm
                      subst hm
                      exact (hfs6.dat f hf).blk_ne HB6.out (by decide) _ hk rfl
                  · rw [fval8_snoc, take_snoc _ _ _ HQ.out, List.map_append, HFV.out]; rfl
                  · exact (((HCJ.out.trans0 HC6A.out).trans0 HCL.out).trans HC6.out (fun x hx => .inr (HNJ.out x (List.mem_append_left _ hx)))).trans HCS.out (fun x hx => .inl hx)
                  · intro k hk
                    rw [fblk_snoc] at hk
                    rcases List.mem_append.1 hk with hk | hk
                    · exact hn6 k hk
                    · rcases List.mem_append.1 hk with hk | hk
                      · exact HNJ.out k (List.mem_append_right _ hk)
                      · have h1 := hba k hk; have h2 := HCJ.out.size; have h3 := HC6A.out.size; omega
                case measure => simp [intOf]; omega
          · obtain rfl : j = FN := by omega
            have HODS : Hid (DirsO wr A i c ds) := Lib.hid (HDS5.out.chg HCJ.out (fun k hk hm => by
              simp only [List.mem_singleton] at hm
              have := HAB2.out k hk; omega))
            have y0 := HBJ.out.cell 0
            have y1 := HBJ.out.cell 1
            simp only [List.getElem?_toArray, List.getElem?_cons_succ, List.getElem?_cons_zero] at y0 y1
            go_wp2_with (at_builtin; refine wpList_app rfl _ _ rfl etyDirs rfl (HODS.out.row.chg ((Chg.refl [] wr).alloc (.cells #[.string nm, .slice Bf j d] 67)) (fun _ _ => List.not_mem_nil)) rfl (Own.lit wr 67 2 #[.string nm, .slice Bf j d] 1 (by decide) rfl).rd (nsv_one [⟨nm, Bf, j, d⟩]) (by unfold maxLen; omega) (by omega) ?_; intro A2 c2 w7 hown7 hchg7 hnew7 _; have HO7 := Lib.hid hown7; have HC7 := Lib.hid hchg7; have HN7 := Lib.hid hnew7; clear hown7 hchg7 hnew7)
            go_roundw
            case rel =>
              have hcAl : Chg [] wr (wr.alloc (.cells #[.string nm, .slice Bf j d] 67)) := (Chg.refl [] wr).alloc _
              have hsz2 := HCH.out.size
              have hsz3 := HCW.out.size
              have hsz4 := HCJ.out.size
              have hsz5 := HC1.out.size
              have hlw := HLW.out
              have hfl := HFS.out.lt
              have hdb2 := HDB.out
              have hbA : ∀ k ∈ bo Bf ++ fblk fs, k ∉ bo A := fun k hk hm => by
                have h1 := HNJ.out k hk; have h2 := HAB2.out k (List.mem_append_left _ hm); omega
              have hds7 : DirsO w7 A2 (i + 1) c2 (ds ++ [(⟨nm, Bf, j, d⟩, fs)]) := by
                refine (HODS.out.chg hcAl (fun _ _ => List.not_mem_nil)).snoc HC7.out ?_ ((HFS.out.chg hcAl (fun _ _ => List.not_mem_nil)).chg HC7.out hbA) (fun k hk hm => ?_)
                · have := HO7.out
                  unfold dnsl at this ⊢
                  rw [List.map_append, nsv_append]
                  exact this
                · have h1 := HNJ.out k hk; have h2 := HAB2.out k (List.mem_append_right _ hm); omega
              refine ⟨i + 1, A2, c2, ds ++ [(⟨nm, Bf, j, d⟩, fs)], by omega, by go_num, rfl, hds7, ?_, ?_, ?_⟩
              · rw [dval8_snoc, shows_snoc HP.out, HVAL.out, HFV.out, show F.take j = F from List.take_of_length_le (by have := HF5.out.nml; omega)]
              · exact ((((HCH.out.trans0 HC1.out).trans0 HCW.out).trans HCJ.out (fun x hx => by simp only [List.mem_singleton] at hx; subst hx; right; omega)).trans0 hcAl).trans HC7.out (fun x hx => .inr (HNEW.out x (List.mem_append_left _ hx)))
              · intro k hk
                rw [dblk_snoc] at hk
                rcases List.mem_append.1 hk with hk | hk
                · rcases HN7.out k hk with h | h
                  · exact HNEW.out k (List.mem_append_left _ h)
                  · simp at h; omega
                · rcases List.mem_append.1 hk with hk | hk
                  · exact HNEW.out k (List.mem_append_right _ hk)
                  · have h1 := HNJ.out k hk; omega
            case measure => simp [intOf]; omega
      · obtain rfl : i = TN := by omega
        have HVW : Hid (S.view = shows S.bytes S.seen) := Lib.hid (view_shows HDN.out)
        go_wp2
        go_ret
        refine ⟨A, i, c, ds, rfl, HDS.out, ?_, HCH.out, HNEW.out⟩
        rw [HVAL.out, HVW.out, List.take_of_length_le (by have := HTN.out; omega)]

set_option maxRecDepth 100000 in
set_option maxHeartbeats 3200000 in
theorem rused_any {w : World} {R : RfG} {S : St} {B : Nat} (h : RfM w R S) (hi : Inv B S) (hB : B ≤ 1073741824) : Calls Tryz.prog 15 #[.pointer (some ⟨R.b, 0, none⟩)] w fun e w' => e = .returned (.int .i64 (S.used : Int)) ∧ Chg [] w w' := by
  have HR := Lib.hid h
  have HI := Lib.hid hi
  have HB := Lib.hid hB
  clear h hi hB
  go_enter Tryz.func15, Tryz.ntmps15
  go_wp2_with fail
  refine (rview_any HR.out HI.out HB.out).mono ?_
  rintro e w2 ⟨A, n, c, ds, rfl, hds, hdv, hc2, hn⟩
  have HDS := Lib.hid hds.rd
  have HBN := Lib.hid (hds.rd.bnd (B := 1073741824) (by rw [hdv]; exact Nat.le_trans (siz_view HI.out) HB.out))
  have HBY : Hid (bytesOf (dval8 ds) ≤ 1152921504606846976) := Lib.hid (by rw [hdv]; exact bytes_view HI.out HB.out)
  have HU : Hid (bytesOf (dval8 ds) = S.used) := Lib.hid (by rw [hdv]; rfl)
  have HC2 := Lib.hid hc2
  clear hds hdv hc2 hn
  go_wp2_with fail
  refine (rbytes_any A n c ds w2 HDS.out HBN.out.1 HBN.out.2 HBY.out).mono ?_
  rintro e w3 ⟨rfl, hc3⟩
  rw [HU.out]
  have HC3 := Lib.hid hc3
  clear hc3
  go_wp2
  go_ret
  exact ⟨rfl, HC2.out.trans0 HC3.out⟩
end Go.Proofs.YtgomofeidghmiaaGreat
