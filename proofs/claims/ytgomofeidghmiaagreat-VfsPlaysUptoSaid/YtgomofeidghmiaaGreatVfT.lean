/-
  Layer 08: disk: a tree as a disk, in new memory.
-/
import Derived.Test.YtgomofeidghmiaaGreatVfR
import Derived.Test.YtgomofeidghmiaaGreatVfJa
namespace Go.Proofs.YtgomofeidghmiaaGreat
open Go.RowKit

/-- what a tree shows -/
def shows (β : Nat → List Int) (T : Tr) : Dsk := T.map fun p => (p.1, p.2.map fun q => (q.1, β q.2))
theorem svs_at {w : World} {A : Option Addr} {n c : Nat} {ns : List ByteArray} (h : Own w 9 1 A n c (svs ns)) {j : Nat} (hj : j < n) :
    ∃ ad s, A = some ad ∧ ns[j]? = some s ∧ w.cell? (ad.add j) = some (.string s) := rd_str h.rd hj
theorem shows_snoc {β : Nat → List Int} {T : Tr} {i : Nat} {p : ByteArray × Fol} (h : T[i]? = some p) : shows β (T.take (i + 1)) = shows β (T.take i) ++ [(p.1, p.2.map fun q => (q.1, β q.2))] := by
  rw [take_snoc _ _ _ h]; simp [shows]
theorem dval8_snoc (ds : List DM) (x : DM) : dval8 (ds ++ [x]) = dval8 ds ++ [(x.1.nm, fval8 x.2)] := by simp [dval8]
theorem fval8_snoc (fs : List FM) (x : FM) : fval8 (fs ++ [x]) = fval8 fs ++ [(x.1.nm, x.2)] := by simp [fval8]

set_option maxRecDepth 100000 in
set_option maxHeartbeats 6400000 in
theorem disk_view (w : World) (tb : Nat) (g : GTr) (ib : List Nat) (T : Tr) (m : Nat) (β : Nat → List Int) (ht : Tree w tb g) (hi : TreeIs ib g T) (hv : Val m T) (hw : wd T ≤ 1073741824)
    (hcall : ∀ i, i < m → ∀ wr, Chg [] w wr → Calls Tryz.prog 54 #[.pointer (some ⟨ibf ib i, 0, none⟩)] wr (NewRow 5 1 wr (bv (β i)) (β i).length)) :
    Calls Tryz.prog 53 #[.map (some tb), .func (.func 54) #[] #[]] w (NewDsk w (shows β T)) := by
  have HT := Lib.hid ht
  have HI := Lib.hid hi
  have HV := Lib.hid hv
  have HW := Lib.hid hw
  have HCALL := Lib.hid hcall
  have hTl : T.length ≤ 1073741824 := by have := wd_len T; omega
  clear ht hi hv hw hcall
  go_enter Tryz.func53, Tryz.ntmps53
  go_wp2_with fail
  refine (tkeys_any (some tb) w).mono ?_
  rintro e w2 ⟨rfl, hw2⟩
  have HW2 := Lib.hid hw2
  clear hw2
  go_wp2_with fail
  rw [HW2.out]
  refine (tkeys_sorted HT.out HI.out HV.out hTl rfl).mono ?_
  rintro e w3 ⟨NA, nc, rfl, hno, hc3, hn3⟩
  have HNO := Lib.hid hno
  have HC3 := Lib.hid hc3
  obtain ⟨TN, hTN⟩ : ∃ TN, T.length = TN := ⟨_, rfl⟩
  rw [hTN] at HNO hTl ⊢
  clear hno hc3 hn3
  go_wp2
  go_loopw [4, 6, 7, 9, 14, 26] (fun o _ _ _ q _ wr => ∃ (i : Nat) (A : Option Addr) (c : Nat) (ds : List DM), i ≤ TN ∧ q = .int .i64 i ∧ o = .slice A i c ∧ DirsO wr A i c ds ∧ dval8 ds = shows β (T.take i) ∧ Chg [] w3 wr ∧ ∀ k ∈ bo A ++ dblk ds, w.heap.size ≤ k ∧ w3.heap.size ≤ k) (fun _ _ _ _ q _ _ => TN - (intOf q).toNat)
  case atStart => exact ⟨0, none, 0, [], Nat.zero_le _, rfl, rfl, ⟨Own.nil _ _ _, by simp, by simp [dblk]⟩, rfl, Chg.refl _ _, by simp [dblk]⟩
  case round =>
    obtain ⟨i, A, c, ds, hiT, rfl, rfl, hds, hval, hch, hnew⟩ := hrel
    have HDS := Lib.hid hds
    have HVAL := Lib.hid hval
    have HCH := Lib.hid hch
    have HNEW := Lib.hid hnew
    clear hds hval hch hnew
    by_cases hlt : i < TN
    · have hlt' : (i : Int) < TN := by omega
      obtain ⟨ad, nmx, rfl, hnm, hcell⟩ := svs_at (HNO.out.chg HCH.out (fun _ _ => List.not_mem_nil)) hlt
      obtain ⟨p, hp⟩ : ∃ p, T[i]? = some p := ⟨_, List.getElem?_eq_getElem (by omega)⟩
      have hpn : p.1 = nmx := by
        rw [List.getElem?_map, hp] at hnm
        exact Option.some.inj hnm
      subst hpn
      have hpm := List.mem_of_getElem? hp
      have hFT : aget T p.1 = some p.2 := aget_mem' HV.out.srt.nodup hpm
      obtain ⟨e, he, hsub⟩ := HI.out.get hFT
      have HC1 : Hid (Chg [] w wr) := Lib.hid (HC3.out.trans0 HCH.out)
      have hTr := HT.out.keep HC1.out (fun _ _ => List.not_mem_nil)
      have hl := fun o => (Mp.lookup ((hTr.top).chg ((Chg.refl [] wr).alloc o) List.not_mem_nil) (string_key Tryz.underlying9) Tryz.underlying88 (z := .map none) (by kernel_rfl) p.1).1
      simp only [aget_tval, he, Option.map_some, Option.getD_some] at hl
      have HP := Lib.hid hp
      have HPM := Lib.hid hpm
      have HE := Lib.hid (aget_mem he)
      have HSUB := Lib.hid hsub
      have HFL : Hid (p.2.length ≤ 1073741824) := Lib.hid (by have := wd_sub hpm; have := HW.out; omega)
      clear hnm hp hpm hFT he hsub hTr
      go_wp2_with fail
      obtain ⟨db, hdb⟩ : ∃ db, wr.heap.size = db := ⟨_, rfl⟩
      obtain ⟨W, hWn⟩ : ∃ W, W = wr.alloc (.cells #[.string p.1, .slice none 0 0] 67) := ⟨_, rfl⟩
      have hbW : Blk W db 67 #[.string p.1, .slice none 0 0] := by rw [hWn, ← hdb]; exact Blk.new wr _ _
      have hcW : Chg [] wr W := by rw [hWn]; exact (Chg.refl _ _).alloc _
      rw [← hWn]
      have HBW := Lib.hid hbW
      have HCW := Lib.hid hcW
      have HDB : Hid (wr.heap.size ≤ db) := Lib.hid (by omega)
      rw [hdb]
      clear hbW hcW hWn hl hcell
      refine (fkeys_any (some e.1) W).mono ?_
      rintro ee w4 ⟨rfl, hw4⟩
      have HW4 := Lib.hid hw4
      clear hw4
      go_wp2_with fail
      rw [HW4.out]
      have hfm := (HT.out.sub _ HE.out).chg (HC1.out.trans0 HCW.out) List.not_mem_nil
      refine (fkeys_sorted hfm HSUB.out (HV.out.sub _ HPM.out) (HV.out.nms _ HPM.out) HFL.out rfl).mono ?_
      rintro ee w5 ⟨NB, nd, rfl, hno2, hc5, hn5⟩
      have HNO2 := Lib.hid hno2
      have HC5 := Lib.hid hc5
      have HN5 := Lib.hid hn5
      have HFM := Lib.hid hfm
      obtain ⟨FN, hFN⟩ : ∃ FN, p.2.length = FN := ⟨_, rfl⟩
      have hFl := HFL.out
      rw [hFN] at HNO2 hFl ⊢
      have HB5 := Lib.hid (HBW.out.chg hc5 List.not_mem_nil)
      have HAB : Hid (∀ k ∈ bo A ++ dblk ds, k < db) := Lib.hid (fun k hk => by have := HDS.out.lt k hk; have := HDB.out; omega)
      have HDS5 := Lib.hid ((HDS.out.chg HCW.out (fun _ _ => List.not_mem_nil)).chg hc5 (fun _ _ => List.not_mem_nil))
      have HLW : Hid (db < W.heap.size ∧ W.heap.size ≤ w5.heap.size) := Lib.hid ⟨HBW.out.lt, hc5.size⟩
      have HFN := Lib.hid hFN
      clear hno2 hc5 hn5 hfm hdb hFN
      go_wp2
      go_loopw [9, 26] (fun _ q wj => ∃ (j : Nat) (B : Option Addr) (d : Nat) (fs : List FM), j ≤ FN ∧ q = .int .i64 j ∧ Blk wj db 67 #[.string p.1, .slice B j d] ∧ FilesO wj B j d fs ∧ fval8 fs = (p.2.take j).map (fun q => (q.1, β q.2)) ∧ Chg [db] w5 wj ∧ ∀ k ∈ bo B ++ fblk fs, w5.heap.size ≤ k) (fun _ q _ => FN - (intOf q).toNat)
      case atStart => exact ⟨0, none, 0, [], Nat.zero_le _, rfl, HB5.out, ⟨Own.nil _ _ _, by simp, by simp [fblk]⟩, rfl, Chg.refl _ _, by simp [fblk]⟩
      case round =>
        obtain ⟨j, B, d, fs, hjF, rfl, hbj, hfs, hfv, hcj, hnj⟩ := hrel
        have HBJ := Lib.hid hbj
        have HFS := Lib.hid hfs
        have HFV := Lib.hid hfv
        have HCJ := Lib.hid hcj
        have HNJ := Lib.hid hnj
        have x1 := hbj.cell 1
        have x0 := hbj.cell 0
        have f1 := hbj.frozen 1
        simp at x1 x0
        clear hbj hfs hfv hcj hnj
        by_cases hjl : j < FN
        · have hjl' : (j : Int) < FN := by omega
          have hnbd : ∀ k ∈ bo NB, k ∉ [db] := fun k hk hm => by
            simp only [List.mem_singleton] at hm
            have h1 := HN5.out k hk
            have h2 := HLW.out.1
            omega
          obtain ⟨bd, qn, rfl, hqn, hqc⟩ := svs_at (HNO2.out.chg HCJ.out hnbd) hjl
          obtain ⟨q, hq⟩ : ∃ q, p.2[j]? = some q := by
            rw [List.getElem?_map] at hqn
            cases hh : p.2[j]? with
            | none => rw [hh] at hqn; cases hqn
            | some q => exact ⟨q, rfl⟩
          have hqq : q.1 = qn := by
            rw [List.getElem?_map, hq] at hqn
            exact Option.some.inj hqn
          subst hqq
          have hqm := List.mem_of_getElem? hq
          have hSF : Srt p.2 := HV.out.sub _ HPM.out
          have hid := HV.out.ids _ HPM.out _ hqm
          have hge : aget e.2 q.1 = some (ibf ib q.2) := by rw [HSUB.out, aget_mem' hSF.nodup hqm]; rfl
          have HCW5 : Hid (Chg [] w w5) := Lib.hid ((HC1.out.trans0 HCW.out).trans0 HC5.out)
          have HCWJ : Hid (Chg [] w wr) := Lib.hid (HCW5.out.trans HCJ.out (fun x hx => by simp only [List.mem_singleton] at hx; subst hx; right; have h1 := HDB.out; have h2 := HC1.out.size; omega))
          have hTj := HT.out.keep HCWJ.out (fun _ _ => List.not_mem_nil)
          have hlA := (Mp.lookup (hTj.top.chg (Chg.refl [] wr).drew List.not_mem_nil) (string_key Tryz.underlying9) Tryz.underlying88 (z := .map none) (by kernel_rfl) p.1).1
          have hlB := (Mp.lookup ((hTj.sub _ HE.out).chg (Chg.refl [] wr).drew List.not_mem_nil) (string_key Tryz.underlying9) Tryz.underlying94 (z := .pointer none) (by kernel_rfl) q.1).1
          simp only [aget_tval, aget_mem' HT.out.nodup HE.out, Option.map_some, Option.getD_some] at hlA
          simp only [aget_fval, hge, Option.map_some, Option.getD_some] at hlB
          have HQ := Lib.hid hq
          have HID := Lib.hid hid
          have HGE := Lib.hid hge
          clear hqn hq hqm hSF hid hge hnbd
          have HTJ : Hid (Tree wr tb g) := Lib.hid (HT.out.keep HCWJ.out (fun _ _ => List.not_mem_nil))
          have HNW : Hid (∀ x ∈ db :: bo B, w.heap.size ≤ x) := Lib.hid (fun x hx => by
            have h1 := HDB.out; have h2 := HC1.out.size; have h3 := HCW5.out.size
            rcases List.mem_cons.1 hx with rfl | hx
            · omega
            · have := HNJ.out x (List.mem_append_left _ hx); omega)
          have HTB : Hid (tb ∉ db :: bo B ∧ e.1 ∉ db :: bo B) := Lib.hid ⟨fun hm => by have h1 := HNW.out _ hm; have h2 := HT.out.top.lt; omega, fun hm => by have h1 := HNW.out _ hm; have h2 : e.1 < w.heap.size := (HT.out.sub _ HE.out).lt; omega⟩
          have HLA : Hid (aget (tval g) p.1 = some (.map (some e.1))) := Lib.hid (by rw [aget_tval, aget_mem' HT.out.nodup HE.out]; rfl)
          have HLB : Hid (aget (fval e.2) q.1 = some (.pointer (some ⟨ibf ib q.2, 0, none⟩))) := Lib.hid (by rw [aget_fval, HGE.out]; rfl)
          have HDBB : Hid (db ∉ bo B) := Lib.hid (fun hm => by have := HNJ.out db (List.mem_append_left _ hm); have := HLW.out; omega)
          have hj63 : j ≤ 1073741824 := by omega
          clear hlA hlB hTj
          go_wp2
          refine wp_region_held_drew (S := fun w' => Chg (db :: bo B) wr w') (by kernel_rfl) ((Chg.refl _ _).drew) (fun hHeld => ?_)
          refine wpAnyH_take (i := 0) (v := ?_) rfl (by kernel_rfl) (by kernel_rfl) (by kernel_rfl) (fun _ _ _ h => h) (Or.inl ⟨by rfl, ?_⟩) (by assumption) ?_
          rotate_left
          · (intro w' hSw; go_simp; try with_reducible rfl)
          try simp only [Act.put, put8]
          refine wpAnyH_take (i := 2) (v := ?_) rfl (by kernel_rfl) (by kernel_rfl) (by kernel_rfl) (fun _ _ _ h => h) (Or.inl ⟨by rfl, ?_⟩) (by assumption) ?_
          rotate_left
          · (intro w' hSw; go_simp; try with_reducible rfl)
          try simp only [Act.put, put8]
          refine wpAnyH_take (i := 3) (v := ?_) rfl (by kernel_rfl) (by kernel_rfl) (by kernel_rfl) (fun _ _ _ h => h) (Or.inl ⟨by rfl, ?_⟩) (by assumption) ?_
          rotate_left
          · (intro w' hSw; go_simp; try with_reducible rfl)
          try simp only [Act.put, put8]
          refine wpAnyH_take (i := 4) (v := ?_) rfl (by kernel_rfl) (by kernel_rfl) (by kernel_rfl) (fun _ _ _ h => h) (Or.inl ⟨by rfl, ?_⟩) (by assumption) ?_
          rotate_left
          · (intro w' hSw; go_simp; try with_reducible rfl)
          try simp only [Act.put, put8]
          refine wpAnyH_take (i := 5) (v := ?_) rfl (by kernel_rfl) (by kernel_rfl) (by kernel_rfl) (fun _ _ _ h => h) (Or.inl ⟨by rfl, ?_⟩) (by assumption) ?_
          rotate_left
          · (intro w' hSw; go_simp; try with_reducible rfl)
          try simp only [Act.put, put8]
          refine wpAnyH_take (i := 6) (v := ?_) rfl (by kernel_rfl) (by kernel_rfl) (by kernel_rfl) (fun _ _ _ h => h) (Or.inl ⟨by rfl, ?_⟩) (by assumption) ?_
          rotate_left
          · (intro w' hSw; have y := (Mp.lookup (HTJ.out.top.chg hSw HTB.out.1) (string_key Tryz.underlying9) Tryz.underlying88 (z := .map none) (by kernel_rfl) p.1).1; rw [HLA.out] at y; simp only [Option.getD_some] at y; go_simp; try with_reducible rfl)
          try simp only [Act.put, put8]
          refine wpAnyH_take (i := 7) (v := ?_) rfl (by kernel_rfl) (by kernel_rfl) (by kernel_rfl) (fun _ _ _ h => h) (Or.inl ⟨by rfl, ?_⟩) (by assumption) ?_
          rotate_left
          · (intro w' hSw; go_simp; try with_reducible rfl)
          try simp only [Act.put, put8]
          refine wpAnyH_take (i := 8) (v := ?_) rfl (by kernel_rfl) (by kernel_rfl) (by kernel_rfl) (fun _ _ _ h => h) (Or.inl ⟨by rfl, ?_⟩) (by assumption) ?_
          rotate_left
          · (intro w' hSw; have y := (Mp.lookup ((HTJ.out.sub _ HE.out).chg hSw HTB.out.2) (string_key Tryz.underlying9) Tryz.underlying94 (z := .pointer none) (by kernel_rfl) q.1).1; rw [HLB.out] at y; simp only [Option.getD_some] at y; go_simp; try with_reducible rfl)
          try simp only [Act.put, put8]
          refine wpAnyH_ready (rs := [1, 9]) (by kernel_rfl) (by simp) ?_
          refine AllReadyH.cons rfl (fun K hK => ?_) (AllReadyH.cons rfl (fun K hK => ?_) (AllReadyH.nil))
          · go_simp
            refine hK.out _ _ (hHeld) (fun hHeld => ?_)
            try simp only [Act.put, put8]
            clear hK K
            refine wpAnyH_ready (rs := [9]) (by kernel_rfl) (by simp) ?_
            refine AllReadyH.cons rfl (fun K hK => ?_) (AllReadyH.nil)
            go_simp
            refine (HCALL.out q.2 HID.out _ (HCWJ.out.trans hHeld (fun x hx => .inr (HNW.out x hx)))).mono ?_
            rintro ee w4 ⟨BA, bc, rfl, hbo, hc4, hn4⟩
            have y1 : w4.cell? ⟨db, 1, none⟩ = some (.slice B j d) := hc4.cell (by simpa using x1) List.not_mem_nil
            have HBO := Lib.hid hbo
            have HC4 := Lib.hid hc4
            have HN4 := Lib.hid hn4
            have hHc := hHeld.trans0 hc4
            have HOW4 : Hid (Own (w4.alloc (.cells #[.string q.1, .slice BA (β q.2).length bc] 70)) 70 2 B j d (nsv (fnsl fs))) := Lib.hid (HFS.out.row.chg ((((Chg.refl [] wr).drew).trans0 hc4).alloc _) (fun _ _ => List.not_mem_nil))
            have HBJ4 : Hid (Blk (w4.alloc (.cells #[.string q.1, .slice BA (β q.2).length bc] 70)) db 67 #[.string p.1, .slice B j d]) := Lib.hid (HBJ.out.chg ((((Chg.refl [] wr).drew).trans0 hc4).alloc _) List.not_mem_nil)
            have HCL : Hid (Chg [] wr (w4.alloc (.cells #[.string q.1, .slice BA (β q.2).length bc] 70))) := Lib.hid ((((Chg.refl [] wr).drew).trans0 hc4).alloc _)
            have y1a : (w4.alloc (.cells #[.string q.1, .slice BA (β q.2).length bc] 70)).cell? ⟨db, 1, none⟩ = some (.slice B j d) := HBJ4.out.cell 1
            clear hbo hn4
            refine hK.out _ _ (hHc) (fun hHeld => ?_)
            try simp only [Act.put, put8]
            clear hK K
            refine wpAnyH_take (i := 10) (v := ?_) rfl (by kernel_rfl) (by kernel_rfl) (by kernel_rfl) (fun _ _ _ h => h) (Or.inl ⟨by rfl, ?_⟩) (by assumption) ?_
            rotate_left
            · (intro w' hSw; go_simp; try with_reducible rfl)
            try simp only [Act.put, put8]
            refine wpAnyH_ready (rs := [11]) (by kernel_rfl) (by simp) ?_
            refine AllReadyH.cons rfl (fun K hK => ?_) (AllReadyH.nil)
            go_simp
            refine hK.out _ _ (hHeld.alloc _) (fun hHeld => ?_)
            try simp only [Act.put, put8]
            clear hK K
            refine wpAnyH_ready (rs := [12]) (by kernel_rfl) (by simp) ?_
            refine AllReadyH.cons rfl (fun K hK => ?_) (AllReadyH.nil)
            refine step_app rfl _ _ rfl etyFiles rfl HOW4.out rfl (Own.lit w4 70 2 #[.string q.1, .slice BA (β q.2).length bc] 1 (by decide) rfl).rd (nsv_one [⟨q.1, BA, (β q.2).length, bc⟩]) (by unfold maxLen; omega) (by omega) ?_
            intro A2 c2 w6 hown6 hchg6 hnew6 _
            have HB6 := Lib.hid (HBJ4.out.chg hchg6 HDBB.out)
            have y6 := HB6.out.cell 1
            have f6 := HB6.out.frozen 1
            simp at y6
            have HO6 := Lib.hid hown6
            have HC6 := Lib.hid hchg6
            have HN6 := Lib.hid hnew6
            have hH6 := hHeld.trans hchg6 (fun x hx => .inl (List.mem_cons_of_mem _ hx))
            clear hown6 hchg6 hnew6
            refine hK.out _ _ (hH6) (fun hHeld => ?_)
            try simp only [Act.put, put8]
            clear hK K
            refine wpAnyH_take (i := 13) (v := ?_) rfl (by kernel_rfl) (by kernel_rfl) (by kernel_rfl) (fun _ _ _ h => h) (Or.inl ⟨by rfl, ?_⟩) (by assumption) ?_
            rotate_left
            · (intro w' hSw; go_simp; try with_reducible rfl)
            try simp only [Act.put, put8]
            refine wpAnyH_ready (rs := [14]) (by kernel_rfl) (by simp) ?_
            refine AllReadyH.cons rfl (fun K hK => ?_) (AllReadyH.nil)
            go_simp
            refine hK.out _ _ (hHeld.setCell (.inl (by simp)) _) (fun hHeld => ?_)
            try simp only [Act.put, put8]
            clear hK K
            refine wpAnyH_done (by kernel_rfl) ?_ _
            try simp only [Act.put, put8]
            have HCS : Hid (Chg [db] w6 (w6.setCell ⟨db, 1, none⟩ (.slice A2 (j + 1) c2))) := Lib.hid ((Chg.refl _ _).setCell (.inl (by simp)) _)
            have HBS : Hid (Blk (w6.setCell ⟨db, 1, none⟩ (.slice A2 (j + 1) c2)) db 67 #[.string p.1, .slice A2 (j + 1) c2]) := Lib.hid (by simpa using HB6.out.set_ 1 (.slice A2 (j + 1) c2))
            clear y6 f6 y1 y1a hHeld hHc hH6 hc4 x1 x0 f1
            go_wp2
            go_roundw
            case rel =>
              have hn6 : ∀ k ∈ bo A2, w5.heap.size ≤ k := fun k hk => by
                rcases HN6.out k hk with h | h
                · exact HNJ.out k (List.mem_append_left _ h)
                · have h1 := HCJ.out.size; have h2 := HCL.out.size; omega
              have hndb : ∀ k ∈ bo A2, k ∉ [db] := fun k hk hm => by
                simp only [List.mem_singleton] at hm
                have h1 := hn6 k hk; have h2 := HLW.out; omega
              have hwl : wr.drew.heap.size ≤ w4.heap.size := HC4.out.size
              have hba : ∀ k ∈ bo BA, wr.heap.size ≤ k := fun k hk => HN4.out k hk
              have hbaO : Own (w4.alloc (.cells #[.string q.1, .slice BA (β q.2).length bc] 70)) 5 1 BA (β q.2).length bc (bv (β q.2)) := HBO.out.chg ((Chg.refl [] w4).alloc _) (fun _ _ => List.not_mem_nil)
              have hfl := HFS.out.lt
              have hO6 : Own w6 70 2 A2 (j + 1) c2 (nsv (fnsl (fs ++ [(⟨q.1, BA, (β q.2).length, bc⟩, β q.2)]))) := by
                have := HO6.out
                unfold fnsl at this ⊢
                rw [List.map_append, nsv_append]
                exact this
              have hfs6 : FilesO w6 A2 (j + 1) c2 (fs ++ [(⟨q.1, BA, (β q.2).length, bc⟩, β q.2)]) :=
                (HFS.out.chg HCL.out (fun _ _ => List.not_mem_nil)).snoc HC6.out hO6 (hbaO.chg HC6.out (fun k hk hm => by have h1 := hba k hk; have h2 := hfl k (List.mem_append_left _ hm); omega)) (fun k hk hm => by have h1 := hba k hk; have h2 := hfl k (List.mem_append_right _ hm); omega)
              refine ⟨j + 1, A2, c2, fs ++ [(⟨q.1, BA, (β q.2).length, bc⟩, β q.2)], by omega, by go_num, HBS.out, hfs6.chg HCS.out (fun k hk hm => ?_), ?_, ?_, ?_⟩
              · rcases List.mem_append.1 hk with hk | hk
                · exact hndb k hk hm
                · obtain ⟨f, hf, hk⟩ := List.mem_flatMap.1 hk
                  simp only [List.mem_singleton] at hm
                  subst hm
                  exact (hfs6.dat f hf).blk_ne HB6.out (by decide) _ hk rfl
              · rw [fval8_snoc, take_snoc _ _ _ HQ.out, List.map_append, HFV.out]; rfl
              · exact ((HCJ.out.trans0 HCL.out).trans HC6.out (fun x hx => .inr (HNJ.out x (List.mem_append_left _ hx)))).trans HCS.out (fun x hx => .inl hx)
              · intro k hk
                rw [fblk_snoc] at hk
                rcases List.mem_append.1 hk with hk | hk
                · exact hn6 k hk
                · rcases List.mem_append.1 hk with hk | hk
                  · exact HNJ.out k (List.mem_append_right _ hk)
                  · have h1 := hba k hk; have h2 := HCJ.out.size; omega
            case measure => simp [intOf]; omega
          · go_simp
            refine (HCALL.out q.2 HID.out _ (HCWJ.out.trans hHeld (fun x hx => .inr (HNW.out x hx)))).mono ?_
            rintro ee w4 ⟨BA, bc, rfl, hbo, hc4, hn4⟩
            have y1 : w4.cell? ⟨db, 1, none⟩ = some (.slice B j d) := hc4.cell (by simpa using x1) List.not_mem_nil
            have HBO := Lib.hid hbo
            have HC4 := Lib.hid hc4
            have HN4 := Lib.hid hn4
            have hHc := hHeld.trans0 hc4
            have HOW4 : Hid (Own (w4.alloc (.cells #[.string q.1, .slice BA (β q.2).length bc] 70)) 70 2 B j d (nsv (fnsl fs))) := Lib.hid (HFS.out.row.chg ((((Chg.refl [] wr).drew).trans0 hc4).alloc _) (fun _ _ => List.not_mem_nil))
            have HBJ4 : Hid (Blk (w4.alloc (.cells #[.string q.1, .slice BA (β q.2).length bc] 70)) db 67 #[.string p.1, .slice B j d]) := Lib.hid (HBJ.out.chg ((((Chg.refl [] wr).drew).trans0 hc4).alloc _) List.not_mem_nil)
            have HCL : Hid (Chg [] wr (w4.alloc (.cells #[.string q.1, .slice BA (β q.2).length bc] 70))) := Lib.hid ((((Chg.refl [] wr).drew).trans0 hc4).alloc _)
            have y1a : (w4.alloc (.cells #[.string q.1, .slice BA (β q.2).length bc] 70)).cell? ⟨db, 1, none⟩ = some (.slice B j d) := HBJ4.out.cell 1
            clear hbo hn4
            refine hK.out _ _ (hHc) (fun hHeld => ?_)
            try simp only [Act.put, put8]
            clear hK K
            refine wpAnyH_take (i := 10) (v := ?_) rfl (by kernel_rfl) (by kernel_rfl) (by kernel_rfl) (fun _ _ _ h => h) (Or.inl ⟨by rfl, ?_⟩) (by assumption) ?_
            rotate_left
            · (intro w' hSw; go_simp; try with_reducible rfl)
            try simp only [Act.put, put8]
            refine wpAnyH_ready (rs := [1, 11]) (by kernel_rfl) (by simp) ?_
            refine AllReadyH.cons rfl (fun K hK => ?_) (AllReadyH.cons rfl (fun K hK => ?_) (AllReadyH.nil))
            · go_simp
              refine hK.out _ _ (hHeld) (fun hHeld => ?_)
              try simp only [Act.put, put8]
              clear hK K
              refine wpAnyH_ready (rs := [11]) (by kernel_rfl) (by simp) ?_
              refine AllReadyH.cons rfl (fun K hK => ?_) (AllReadyH.nil)
              go_simp
              refine hK.out _ _ (hHeld.alloc _) (fun hHeld => ?_)
              try simp only [Act.put, put8]
              clear hK K
              refine wpAnyH_ready (rs := [12]) (by kernel_rfl) (by simp) ?_
              refine AllReadyH.cons rfl (fun K hK => ?_) (AllReadyH.nil)
              refine step_app rfl _ _ rfl etyFiles rfl HOW4.out rfl (Own.lit w4 70 2 #[.string q.1, .slice BA (β q.2).length bc] 1 (by decide) rfl).rd (nsv_one [⟨q.1, BA, (β q.2).length, bc⟩]) (by unfold maxLen; omega) (by omega) ?_
              intro A2 c2 w6 hown6 hchg6 hnew6 _
              have HB6 := Lib.hid (HBJ4.out.chg hchg6 HDBB.out)
              have y6 := HB6.out.cell 1
              have f6 := HB6.out.frozen 1
              simp at y6
              have HO6 := Lib.hid hown6
              have HC6 := Lib.hid hchg6
              have HN6 := Lib.hid hnew6
              have hH6 := hHeld.trans hchg6 (fun x hx => .inl (List.mem_cons_of_mem _ hx))
              clear hown6 hchg6 hnew6
              refine hK.out _ _ (hH6) (fun hHeld => ?_)
              try simp only [Act.put, put8]
              clear hK K
              refine wpAnyH_take (i := 13) (v := ?_) rfl (by kernel_rfl) (by kernel_rfl) (by kernel_rfl) (fun _ _ _ h => h) (Or.inl ⟨by rfl, ?_⟩) (by assumption) ?_
              rotate_left
              · (intro w' hSw; go_simp; try with_reducible rfl)
              try simp only [Act.put, put8]
              refine wpAnyH_ready (rs := [14]) (by kernel_rfl) (by simp) ?_
              refine AllReadyH.cons rfl (fun K hK => ?_) (AllReadyH.nil)
              go_simp
              refine hK.out _ _ (hHeld.setCell (.inl (by simp)) _) (fun hHeld => ?_)
              try simp only [Act.put, put8]
              clear hK K
              refine wpAnyH_done (by kernel_rfl) ?_ _
              try simp only [Act.put, put8]
              have HCS : Hid (Chg [db] w6 (w6.setCell ⟨db, 1, none⟩ (.slice A2 (j + 1) c2))) := Lib.hid ((Chg.refl _ _).setCell (.inl (by simp)) _)
              have HBS : Hid (Blk (w6.setCell ⟨db, 1, none⟩ (.slice A2 (j + 1) c2)) db 67 #[.string p.1, .slice A2 (j + 1) c2]) := Lib.hid (by simpa using HB6.out.set_ 1 (.slice A2 (j + 1) c2))
              clear y6 f6 y1 y1a hHeld hHc hH6 hc4 x1 x0 f1
              go_wp2
              go_roundw
              case rel =>
                have hn6 : ∀ k ∈ bo A2, w5.heap.size ≤ k := fun k hk => by
                  rcases HN6.out k hk with h | h
                  · exact HNJ.out k (List.mem_append_left _ h)
                  · have h1 := HCJ.out.size; have h2 := HCL.out.size; omega
                have hndb : ∀ k ∈ bo A2, k ∉ [db] := fun k hk hm => by
                  simp only [List.mem_singleton] at hm
                  have h1 := hn6 k hk; have h2 := HLW.out; omega
                have hwl : wr.drew.heap.size ≤ w4.heap.size := HC4.out.size
                have hba : ∀ k ∈ bo BA, wr.heap.size ≤ k := fun k hk => HN4.out k hk
                have hbaO : Own (w4.alloc (.cells #[.string q.1, .slice BA (β q.2).length bc] 70)) 5 1 BA (β q.2).length bc (bv (β q.2)) := HBO.out.chg ((Chg.refl [] w4).alloc _) (fun _ _ => List.not_mem_nil)
                have hfl := HFS.out.lt
                have hO6 : Own w6 70 2 A2 (j + 1) c2 (nsv (fnsl (fs ++ [(⟨q.1, BA, (β q.2).length, bc⟩, β q.2)]))) := by
                  have := HO6.out
                  unfold fnsl at this ⊢
                  rw [List.map_append, nsv_append]
                  exact this
                have hfs6 : FilesO w6 A2 (j + 1) c2 (fs ++ [(⟨q.1, BA, (β q.2).length, bc⟩, β q.2)]) :=
                  (HFS.out.chg HCL.out (fun _ _ => List.not_mem_nil)).snoc HC6.out hO6 (hbaO.chg HC6.out (fun k hk hm => by have h1 := hba k hk; have h2 := hfl k (List.mem_append_left _ hm); omega)) (fun k hk hm => by have h1 := hba k hk; have h2 := hfl k (List.mem_append_right _ hm); omega)
                refine ⟨j + 1, A2, c2, fs ++ [(⟨q.1, BA, (β q.2).length, bc⟩, β q.2)], by omega, by go_num, HBS.out, hfs6.chg HCS.out (fun k hk hm => ?_), ?_, ?_, ?_⟩
                · rcases List.mem_append.1 hk with hk | hk
                  · exact hndb k hk hm
                  · obtain ⟨f, hf, hk⟩ := List.mem_flatMap.1 hk
                    simp only [List.mem_singleton] at hm
                    subst hm
                    exact (hfs6.dat f hf).blk_ne HB6.out (by decide) _ hk rfl
                · rw [fval8_snoc, take_snoc _ _ _ HQ.out, List.map_append, HFV.out]; rfl
                · exact ((HCJ.out.trans0 HCL.out).trans HC6.out (fun x hx => .inr (HNJ.out x (List.mem_append_left _ hx)))).trans HCS.out (fun x hx => .inl hx)
                · intro k hk
                  rw [fblk_snoc] at hk
                  rcases List.mem_append.1 hk with hk | hk
                  · exact hn6 k hk
                  · rcases List.mem_append.1 hk with hk | hk
                    · exact HNJ.out k (List.mem_append_right _ hk)
                    · have h1 := hba k hk; have h2 := HCJ.out.size; omega
              case measure => simp [intOf]; omega
            · go_simp
              refine hK.out _ _ (hHeld.alloc _) (fun hHeld => ?_)
              try simp only [Act.put, put8]
              clear hK K
              refine wpAnyH_ready (rs := [1]) (by kernel_rfl) (by simp) ?_
              refine AllReadyH.cons rfl (fun K hK => ?_) (AllReadyH.nil)
              go_simp
              refine hK.out _ _ (hHeld) (fun hHeld => ?_)
              try simp only [Act.put, put8]
              clear hK K
              refine wpAnyH_ready (rs := [12]) (by kernel_rfl) (by simp) ?_
              refine AllReadyH.cons rfl (fun K hK => ?_) (AllReadyH.nil)
              refine step_app rfl _ _ rfl etyFiles rfl HOW4.out rfl (Own.lit w4 70 2 #[.string q.1, .slice BA (β q.2).length bc] 1 (by decide) rfl).rd (nsv_one [⟨q.1, BA, (β q.2).length, bc⟩]) (by unfold maxLen; omega) (by omega) ?_
              intro A2 c2 w6 hown6 hchg6 hnew6 _
              have HB6 := Lib.hid (HBJ4.out.chg hchg6 HDBB.out)
              have y6 := HB6.out.cell 1
              have f6 := HB6.out.frozen 1
              simp at y6
              have HO6 := Lib.hid hown6
              have HC6 := Lib.hid hchg6
              have HN6 := Lib.hid hnew6
              have hH6 := hHeld.trans hchg6 (fun x hx => .inl (List.mem_cons_of_mem _ hx))
              clear hown6 hchg6 hnew6
              refine hK.out _ _ (hH6) (fun hHeld => ?_)
              try simp only [Act.put, put8]
              clear hK K
              refine wpAnyH_take (i := 13) (v := ?_) rfl (by kernel_rfl) (by kernel_rfl) (by kernel_rfl) (fun _ _ _ h => h) (Or.inl ⟨by rfl, ?_⟩) (by assumption) ?_
              rotate_left
              · (intro w' hSw; go_simp; try with_reducible rfl)
              try simp only [Act.put, put8]
              refine wpAnyH_ready (rs := [14]) (by kernel_rfl) (by simp) ?_
              refine AllReadyH.cons rfl (fun K hK => ?_) (AllReadyH.nil)
              go_simp
              refine hK.out _ _ (hHeld.setCell (.inl (by simp)) _) (fun hHeld => ?_)
              try simp only [Act.put, put8]
              clear hK K
              refine wpAnyH_done (by kernel_rfl) ?_ _
              try simp only [Act.put, put8]
              have HCS : Hid (Chg [db] w6 (w6.setCell ⟨db, 1, none⟩ (.slice A2 (j + 1) c2))) := Lib.hid ((Chg.refl _ _).setCell (.inl (by simp)) _)
              have HBS : Hid (Blk (w6.setCell ⟨db, 1, none⟩ (.slice A2 (j + 1) c2)) db 67 #[.string p.1, .slice A2 (j + 1) c2]) := Lib.hid (by simpa using HB6.out.set_ 1 (.slice A2 (j + 1) c2))
              clear y6 f6 y1 y1a hHeld hHc hH6 hc4 x1 x0 f1
              go_wp2
              go_roundw
              case rel =>
                have hn6 : ∀ k ∈ bo A2, w5.heap.size ≤ k := fun k hk => by
                  rcases HN6.out k hk with h | h
                  · exact HNJ.out k (List.mem_append_left _ h)
                  · have h1 := HCJ.out.size; have h2 := HCL.out.size; omega
                have hndb : ∀ k ∈ bo A2, k ∉ [db] := fun k hk hm => by
                  simp only [List.mem_singleton] at hm
                  have h1 := hn6 k hk; have h2 := HLW.out; omega
                have hwl : wr.drew.heap.size ≤ w4.heap.size := HC4.out.size
                have hba : ∀ k ∈ bo BA, wr.heap.size ≤ k := fun k hk => HN4.out k hk
                have hbaO : Own (w4.alloc (.cells #[.string q.1, .slice BA (β q.2).length bc] 70)) 5 1 BA (β q.2).length bc (bv (β q.2)) := HBO.out.chg ((Chg.refl [] w4).alloc _) (fun _ _ => List.not_mem_nil)
                have hfl := HFS.out.lt
                have hO6 : Own w6 70 2 A2 (j + 1) c2 (nsv (fnsl (fs ++ [(⟨q.1, BA, (β q.2).length, bc⟩, β q.2)]))) := by
                  have := HO6.out
                  unfold fnsl at this ⊢
                  rw [List.map_append, nsv_append]
                  exact this
                have hfs6 : FilesO w6 A2 (j + 1) c2 (fs ++ [(⟨q.1, BA, (β q.2).length, bc⟩, β q.2)]) :=
                  (HFS.out.chg HCL.out (fun _ _ => List.not_mem_nil)).snoc HC6.out hO6 (hbaO.chg HC6.out (fun k hk hm => by have h1 := hba k hk; have h2 := hfl k (List.mem_append_left _ hm); omega)) (fun k hk hm => by have h1 := hba k hk; have h2 := hfl k (List.mem_append_right _ hm); omega)
                refine ⟨j + 1, A2, c2, fs ++ [(⟨q.1, BA, (β q.2).length, bc⟩, β q.2)], by omega, by go_num, HBS.out, hfs6.chg HCS.out (fun k hk hm => ?_), ?_, ?_, ?_⟩
                · rcases List.mem_append.1 hk with hk | hk
                  · exact hndb k hk hm
                  · obtain ⟨f, hf, hk⟩ := List.mem_flatMap.1 hk
                    simp only [List.mem_singleton] at hm
                    subst hm
                    exact (hfs6.dat f hf).blk_ne HB6.out (by decide) _ hk rfl
                · rw [fval8_snoc, take_snoc _ _ _ HQ.out, List.map_append, HFV.out]; rfl
                · exact ((HCJ.out.trans0 HCL.out).trans HC6.out (fun x hx => .inr (HNJ.out x (List.mem_append_left _ hx)))).trans HCS.out (fun x hx => .inl hx)
                · intro k hk
                  rw [fblk_snoc] at hk
                  rcases List.mem_append.1 hk with hk | hk
                  · exact hn6 k hk
                  · rcases List.mem_append.1 hk with hk | hk
                    · exact HNJ.out k (List.mem_append_right _ hk)
                    · have h1 := hba k hk; have h2 := HCJ.out.size; omega
              case measure => simp [intOf]; omega
        · obtain rfl : j = FN := by omega
          have HODS : Hid (DirsO wr A i c ds) := Lib.hid (HDS5.out.chg HCJ.out (fun k hk hm => by
            simp only [List.mem_singleton] at hm
            have := HAB.out k hk; omega))
          clear f1
          go_wp2_with (at_builtin; refine wpList_app rfl _ _ rfl etyDirs rfl (HODS.out.row.chg ((Chg.refl [] wr).alloc (.cells #[.string p.1, .slice B j d] 67)) (fun _ _ => List.not_mem_nil)) rfl (Own.lit wr 67 2 #[.string p.1, .slice B j d] 1 (by decide) rfl).rd (nsv_one [⟨p.1, B, j, d⟩]) (by unfold maxLen; omega) (by omega) ?_; intro A2 c2 w7 hown7 hchg7 hnew7 _; have HO7 := Lib.hid hown7; have HC7 := Lib.hid hchg7; have HN7 := Lib.hid hnew7; clear hown7 hchg7 hnew7)
          go_roundw
          case rel =>
            have hcAl : Chg [] wr (wr.alloc (.cells #[.string p.1, .slice B j d] 67)) := (Chg.refl [] wr).alloc _
            have hsz1 := HC3.out.size
            have hsz2 := HCH.out.size
            have hsz3 := HCW.out.size
            have hsz4 := HCJ.out.size
            have hlw := HLW.out
            have hfl := HFS.out.lt
            have hbA : ∀ k ∈ bo B ++ fblk fs, k ∉ bo A := fun k hk hm => by
              have h1 := HNJ.out k hk; have h2 := HAB.out k (List.mem_append_left _ hm); omega
            have hds7 : DirsO w7 A2 (i + 1) c2 (ds ++ [(⟨p.1, B, j, d⟩, fs)]) := by
              refine (HODS.out.chg hcAl (fun _ _ => List.not_mem_nil)).snoc HC7.out ?_ ((HFS.out.chg hcAl (fun _ _ => List.not_mem_nil)).chg HC7.out hbA) (fun k hk hm => ?_)
              · have := HO7.out
                unfold dnsl at this ⊢
                rw [List.map_append, nsv_append]
                exact this
              · have h1 := HNJ.out k hk; have h2 := HAB.out k (List.mem_append_right _ hm); omega
            refine ⟨i + 1, A2, c2, ds ++ [(⟨p.1, B, j, d⟩, fs)], by omega, by go_num, rfl, hds7, ?_, ?_, ?_⟩
            · rw [dval8_snoc, shows_snoc HP.out, HVAL.out, HFV.out, show p.2.take j = p.2 from List.take_of_length_le (by rw [HFN.out]; exact Nat.le_refl _)]
            · exact ((((HCH.out.trans0 HCW.out).trans0 HC5.out).trans HCJ.out (fun x hx => by simp only [List.mem_singleton] at hx; subst hx; right; have := HDB.out; omega)).trans0 hcAl).trans HC7.out (fun x hx => .inr (HNEW.out x (List.mem_append_left _ hx)).2)
            · intro k hk
              rw [dblk_snoc] at hk
              rcases List.mem_append.1 hk with hk | hk
              · rcases HN7.out k hk with h | h
                · exact HNEW.out k (List.mem_append_left _ h)
                · simp at h; omega
              · rcases List.mem_append.1 hk with hk | hk
                · exact HNEW.out k (List.mem_append_right _ hk)
                · have h1 := HNJ.out k hk; omega
          case measure => simp [intOf]; omega
    · obtain rfl : i = TN := by omega
      go_wp2
      go_ret
      refine ⟨A, i, c, ds, rfl, HDS.out, ?_, HC3.out.trans0 HCH.out, fun k hk => (HNEW.out k hk).1⟩
      rw [HVAL.out, List.take_of_length_le (by omega)]

set_option maxRecDepth 100000 in
set_option maxHeartbeats 6400000 in
theorem disk_dur (kc : Value) (w : World) (tb : Nat) (g : GTr) (ib : List Nat) (T : Tr) (m : Nat) (β : Nat → List Int) (ht : Tree w tb g) (hi : TreeIs ib g T) (hv : Val m T) (hw : wd T ≤ 1073741824)
    (hcall : ∀ i, i < m → ∀ wr, Chg [] w wr → Calls Tryz.prog 58 #[.pointer (some ⟨ibf ib i, 0, none⟩), kc] wr (NewRow 5 1 wr (bv (β i)) (β i).length)) :
    Calls Tryz.prog 53 #[.map (some tb), .func (.func 58) #[] #[kc]] w (NewDsk w (shows β T)) := by
  have HT := Lib.hid ht
  have HI := Lib.hid hi
  have HV := Lib.hid hv
  have HW := Lib.hid hw
  have HCALL := Lib.hid hcall
  have hTl : T.length ≤ 1073741824 := by have := wd_len T; omega
  clear ht hi hv hw hcall
  go_enter Tryz.func53, Tryz.ntmps53
  go_wp2_with fail
  refine (tkeys_any (some tb) w).mono ?_
  rintro e w2 ⟨rfl, hw2⟩
  have HW2 := Lib.hid hw2
  clear hw2
  go_wp2_with fail
  rw [HW2.out]
  refine (tkeys_sorted HT.out HI.out HV.out hTl rfl).mono ?_
  rintro e w3 ⟨NA, nc, rfl, hno, hc3, hn3⟩
  have HNO := Lib.hid hno
  have HC3 := Lib.hid hc3
  obtain ⟨TN, hTN⟩ : ∃ TN, T.length = TN := ⟨_, rfl⟩
  rw [hTN] at HNO hTl ⊢
  clear hno hc3 hn3
  go_wp2
  go_loopw [4, 6, 7, 9, 14, 26] (fun o _ _ _ q _ wr => ∃ (i : Nat) (A : Option Addr) (c : Nat) (ds : List DM), i ≤ TN ∧ q = .int .i64 i ∧ o = .slice A i c ∧ DirsO wr A i c ds ∧ dval8 ds = shows β (T.take i) ∧ Chg [] w3 wr ∧ ∀ k ∈ bo A ++ dblk ds, w.heap.size ≤ k ∧ w3.heap.size ≤ k) (fun _ _ _ _ q _ _ => TN - (intOf q).toNat)
  case atStart => exact ⟨0, none, 0, [], Nat.zero_le _, rfl, rfl, ⟨Own.nil _ _ _, by simp, by simp [dblk]⟩, rfl, Chg.refl _ _, by simp [dblk]⟩
  case round =>
    obtain ⟨i, A, c, ds, hiT, rfl, rfl, hds, hval, hch, hnew⟩ := hrel
    have HDS := Lib.hid hds
    have HVAL := Lib.hid hval
    have HCH := Lib.hid hch
    have HNEW := Lib.hid hnew
    clear hds hval hch hnew
    by_cases hlt : i < TN
    · have hlt' : (i : Int) < TN := by omega
      obtain ⟨ad, nmx, rfl, hnm, hcell⟩ := svs_at (HNO.out.chg HCH.out (fun _ _ => List.not_mem_nil)) hlt
      obtain ⟨p, hp⟩ : ∃ p, T[i]? = some p := ⟨_, List.getElem?_eq_getElem (by omega)⟩
      have hpn : p.1 = nmx := by
        rw [List.getElem?_map, hp] at hnm
        exact Option.some.inj hnm
      subst hpn
      have hpm := List.mem_of_getElem? hp
      have hFT : aget T p.1 = some p.2 := aget_mem' HV.out.srt.nodup hpm
      obtain ⟨e, he, hsub⟩ := HI.out.get hFT
      have HC1 : Hid (Chg [] w wr) := Lib.hid (HC3.out.trans0 HCH.out)
      have hTr := HT.out.keep HC1.out (fun _ _ => List.not_mem_nil)
      have hl := fun o => (Mp.lookup ((hTr.top).chg ((Chg.refl [] wr).alloc o) List.not_mem_nil) (string_key Tryz.underlying9) Tryz.underlying88 (z := .map none) (by kernel_rfl) p.1).1
      simp only [aget_tval, he, Option.map_some, Option.getD_some] at hl
      have HP := Lib.hid hp
      have HPM := Lib.hid hpm
      have HE := Lib.hid (aget_mem he)
      have HSUB := Lib.hid hsub
      have HFL : Hid (p.2.length ≤ 1073741824) := Lib.hid (by have := wd_sub hpm; have := HW.out; omega)
      clear hnm hp hpm hFT he hsub hTr
      go_wp2_with fail
      obtain ⟨db, hdb⟩ : ∃ db, wr.heap.size = db := ⟨_, rfl⟩
      obtain ⟨W, hWn⟩ : ∃ W, W = wr.alloc (.cells #[.string p.1, .slice none 0 0] 67) := ⟨_, rfl⟩
      have hbW : Blk W db 67 #[.string p.1, .slice none 0 0] := by rw [hWn, ← hdb]; exact Blk.new wr _ _
      have hcW : Chg [] wr W := by rw [hWn]; exact (Chg.refl _ _).alloc _
      rw [← hWn]
      have HBW := Lib.hid hbW
      have HCW := Lib.hid hcW
      have HDB : Hid (wr.heap.size ≤ db) := Lib.hid (by omega)
      rw [hdb]
      clear hbW hcW hWn hl hcell
      refine (fkeys_any (some e.1) W).mono ?_
      rintro ee w4 ⟨rfl, hw4⟩
      have HW4 := Lib.hid hw4
      clear hw4
      go_wp2_with fail
      rw [HW4.out]
      have hfm := (HT.out.sub _ HE.out).chg (HC1.out.trans0 HCW.out) List.not_mem_nil
      refine (fkeys_sorted hfm HSUB.out (HV.out.sub _ HPM.out) (HV.out.nms _ HPM.out) HFL.out rfl).mono ?_
      rintro ee w5 ⟨NB, nd, rfl, hno2, hc5, hn5⟩
      have HNO2 := Lib.hid hno2
      have HC5 := Lib.hid hc5
      have HN5 := Lib.hid hn5
      have HFM := Lib.hid hfm
      obtain ⟨FN, hFN⟩ : ∃ FN, p.2.length = FN := ⟨_, rfl⟩
      have hFl := HFL.out
      rw [hFN] at HNO2 hFl ⊢
      have HB5 := Lib.hid (HBW.out.chg hc5 List.not_mem_nil)
      have HAB : Hid (∀ k ∈ bo A ++ dblk ds, k < db) := Lib.hid (fun k hk => by have := HDS.out.lt k hk; have := HDB.out; omega)
      have HDS5 := Lib.hid ((HDS.out.chg HCW.out (fun _ _ => List.not_mem_nil)).chg hc5 (fun _ _ => List.not_mem_nil))
      have HLW : Hid (db < W.heap.size ∧ W.heap.size ≤ w5.heap.size) := Lib.hid ⟨HBW.out.lt, hc5.size⟩
      have HFN := Lib.hid hFN
      clear hno2 hc5 hn5 hfm hdb hFN
      go_wp2
      go_loopw [9, 26] (fun _ q wj => ∃ (j : Nat) (B : Option Addr) (d : Nat) (fs : List FM), j ≤ FN ∧ q = .int .i64 j ∧ Blk wj db 67 #[.string p.1, .slice B j d] ∧ FilesO wj B j d fs ∧ fval8 fs = (p.2.take j).map (fun q => (q.1, β q.2)) ∧ Chg [db] w5 wj ∧ ∀ k ∈ bo B ++ fblk fs, w5.heap.size ≤ k) (fun _ q _ => FN - (intOf q).toNat)
      case atStart => exact ⟨0, none, 0, [], Nat.zero_le _, rfl, HB5.out, ⟨Own.nil _ _ _, by simp, by simp [fblk]⟩, rfl, Chg.refl _ _, by simp [fblk]⟩
      case round =>
        obtain ⟨j, B, d, fs, hjF, rfl, hbj, hfs, hfv, hcj, hnj⟩ := hrel
        have HBJ := Lib.hid hbj
        have HFS := Lib.hid hfs
        have HFV := Lib.hid hfv
        have HCJ := Lib.hid hcj
        have HNJ := Lib.hid hnj
        have x1 := hbj.cell 1
        have x0 := hbj.cell 0
        have f1 := hbj.frozen 1
        simp at x1 x0
        clear hbj hfs hfv hcj hnj
        by_cases hjl : j < FN
        · have hjl' : (j : Int) < FN := by omega
          have hnbd : ∀ k ∈ bo NB, k ∉ [db] := fun k hk hm => by
            simp only [List.mem_singleton] at hm
            have h1 := HN5.out k hk
            have h2 := HLW.out.1
            omega
          obtain ⟨bd, qn, rfl, hqn, hqc⟩ := svs_at (HNO2.out.chg HCJ.out hnbd) hjl
          obtain ⟨q, hq⟩ : ∃ q, p.2[j]? = some q := by
            rw [List.getElem?_map] at hqn
            cases hh : p.2[j]? with
            | none => rw [hh] at hqn; cases hqn
            | some q => exact ⟨q, rfl⟩
          have hqq : q.1 = qn := by
            rw [List.getElem?_map, hq] at hqn
            exact Option.some.inj hqn
          subst hqq
          have hqm := List.mem_of_getElem? hq
          have hSF : Srt p.2 := HV.out.sub _ HPM.out
          have hid := HV.out.ids _ HPM.out _ hqm
          have hge : aget e.2 q.1 = some (ibf ib q.2) := by rw [HSUB.out, aget_mem' hSF.nodup hqm]; rfl
          have HCW5 : Hid (Chg [] w w5) := Lib.hid ((HC1.out.trans0 HCW.out).trans0 HC5.out)
          have HCWJ : Hid (Chg [] w wr) := Lib.hid (HCW5.out.trans HCJ.out (fun x hx => by simp only [List.mem_singleton] at hx; subst hx; right; have h1 := HDB.out; have h2 := HC1.out.size; omega))
          have hTj := HT.out.keep HCWJ.out (fun _ _ => List.not_mem_nil)
          have hlA := (Mp.lookup (hTj.top.chg (Chg.refl [] wr).drew List.not_mem_nil) (string_key Tryz.underlying9) Tryz.underlying88 (z := .map none) (by kernel_rfl) p.1).1
          have hlB := (Mp.lookup ((hTj.sub _ HE.out).chg (Chg.refl [] wr).drew List.not_mem_nil) (string_key Tryz.underlying9) Tryz.underlying94 (z := .pointer none) (by kernel_rfl) q.1).1
          simp only [aget_tval, aget_mem' HT.out.nodup HE.out, Option.map_some, Option.getD_some] at hlA
          simp only [aget_fval, hge, Option.map_some, Option.getD_some] at hlB
          have HQ := Lib.hid hq
          have HID := Lib.hid hid
          have HGE := Lib.hid hge
          clear hqn hq hqm hSF hid hge hnbd
          have HTJ : Hid (Tree wr tb g) := Lib.hid (HT.out.keep HCWJ.out (fun _ _ => List.not_mem_nil))
          have HNW : Hid (∀ x ∈ db :: bo B, w.heap.size ≤ x) := Lib.hid (fun x hx => by
            have h1 := HDB.out; have h2 := HC1.out.size; have h3 := HCW5.out.size
            rcases List.mem_cons.1 hx with rfl | hx
            · omega
            · have := HNJ.out x (List.mem_append_left _ hx); omega)
          have HTB : Hid (tb ∉ db :: bo B ∧ e.1 ∉ db :: bo B) := Lib.hid ⟨fun hm => by have h1 := HNW.out _ hm; have h2 := HT.out.top.lt; omega, fun hm => by have h1 := HNW.out _ hm; have h2 : e.1 < w.heap.size := (HT.out.sub _ HE.out).lt; omega⟩
          have HLA : Hid (aget (tval g) p.1 = some (.map (some e.1))) := Lib.hid (by rw [aget_tval, aget_mem' HT.out.nodup HE.out]; rfl)
          have HLB : Hid (aget (fval e.2) q.1 = some (.pointer (some ⟨ibf ib q.2, 0, none⟩))) := Lib.hid (by rw [aget_fval, HGE.out]; rfl)
          have HDBB : Hid (db ∉ bo B) := Lib.hid (fun hm => by have := HNJ.out db (List.mem_append_left _ hm); have := HLW.out; omega)
          have hj63 : j ≤ 1073741824 := by omega
          clear hlA hlB hTj
          go_wp2
          refine wp_region_held_drew (S := fun w' => Chg (db :: bo B) wr w') (by kernel_rfl) ((Chg.refl _ _).drew) (fun hHeld => ?_)
          refine wpAnyH_take (i := 0) (v := ?_) rfl (by kernel_rfl) (by kernel_rfl) (by kernel_rfl) (fun _ _ _ h => h) (Or.inl ⟨by rfl, ?_⟩) (by assumption) ?_
          rotate_left
          · (intro w' hSw; go_simp; try with_reducible rfl)
          try simp only [Act.put, put8]
          refine wpAnyH_take (i := 2) (v := ?_) rfl (by kernel_rfl) (by kernel_rfl) (by kernel_rfl) (fun _ _ _ h => h) (Or.inl ⟨by rfl, ?_⟩) (by assumption) ?_
          rotate_left
          · (intro w' hSw; go_simp; try with_reducible rfl)
          try simp only [Act.put, put8]
          refine wpAnyH_take (i := 3) (v := ?_) rfl (by kernel_rfl) (by kernel_rfl) (by kernel_rfl) (fun _ _ _ h => h) (Or.inl ⟨by rfl, ?_⟩) (by assumption) ?_
          rotate_left
          · (intro w' hSw; go_simp; try with_reducible rfl)
          try simp only [Act.put, put8]
          refine wpAnyH_take (i := 4) (v := ?_) rfl (by kernel_rfl) (by kernel_rfl) (by kernel_rfl) (fun _ _ _ h => h) (Or.inl ⟨by rfl, ?_⟩) (by assumption) ?_
          rotate_left
          · (intro w' hSw; go_simp; try with_reducible rfl)
          try simp only [Act.put, put8]
          refine wpAnyH_take (i := 5) (v := ?_) rfl (by kernel_rfl) (by kernel_rfl) (by kernel_rfl) (fun _ _ _ h => h) (Or.inl ⟨by rfl, ?_⟩) (by assumption) ?_
          rotate_left
          · (intro w' hSw; go_simp; try with_reducible rfl)
          try simp only [Act.put, put8]
          refine wpAnyH_take (i := 6) (v := ?_) rfl (by kernel_rfl) (by kernel_rfl) (by kernel_rfl) (fun _ _ _ h => h) (Or.inl ⟨by rfl, ?_⟩) (by assumption) ?_
          rotate_left
          · (intro w' hSw; have y := (Mp.lookup (HTJ.out.top.chg hSw HTB.out.1) (string_key Tryz.underlying9) Tryz.underlying88 (z := .map none) (by kernel_rfl) p.1).1; rw [HLA.out] at y; simp only [Option.getD_some] at y; go_simp; try with_reducible rfl)
          try simp only [Act.put, put8]
          refine wpAnyH_take (i := 7) (v := ?_) rfl (by kernel_rfl) (by kernel_rfl) (by kernel_rfl) (fun _ _ _ h => h) (Or.inl ⟨by rfl, ?_⟩) (by assumption) ?_
          rotate_left
          · (intro w' hSw; go_simp; try with_reducible rfl)
          try simp only [Act.put, put8]
          refine wpAnyH_take (i := 8) (v := ?_) rfl (by kernel_rfl) (by kernel_rfl) (by kernel_rfl) (fun _ _ _ h => h) (Or.inl ⟨by rfl, ?_⟩) (by assumption) ?_
          rotate_left
          · (intro w' hSw; have y := (Mp.lookup ((HTJ.out.sub _ HE.out).chg hSw HTB.out.2) (string_key Tryz.underlying9) Tryz.underlying94 (z := .pointer none) (by kernel_rfl) q.1).1; rw [HLB.out] at y; simp only [Option.getD_some] at y; go_simp; try with_reducible rfl)
          try simp only [Act.put, put8]
          refine wpAnyH_ready (rs := [1, 9]) (by kernel_rfl) (by simp) ?_
          refine AllReadyH.cons rfl (fun K hK => ?_) (AllReadyH.cons rfl (fun K hK => ?_) (AllReadyH.nil))
          · go_simp
            refine hK.out _ _ (hHeld) (fun hHeld => ?_)
            try simp only [Act.put, put8]
            clear hK K
            refine wpAnyH_ready (rs := [9]) (by kernel_rfl) (by simp) ?_
            refine AllReadyH.cons rfl (fun K hK => ?_) (AllReadyH.nil)
            go_simp
            refine (HCALL.out q.2 HID.out _ (HCWJ.out.trans hHeld (fun x hx => .inr (HNW.out x hx)))).mono ?_
            rintro ee w4 ⟨BA, bc, rfl, hbo, hc4, hn4⟩
            have y1 : w4.cell? ⟨db, 1, none⟩ = some (.slice B j d) := hc4.cell (by simpa using x1) List.not_mem_nil
            have HBO := Lib.hid hbo
            have HC4 := Lib.hid hc4
            have HN4 := Lib.hid hn4
            have hHc := hHeld.trans0 hc4
            have HOW4 : Hid (Own (w4.alloc (.cells #[.string q.1, .slice BA (β q.2).length bc] 70)) 70 2 B j d (nsv (fnsl fs))) := Lib.hid (HFS.out.row.chg ((((Chg.refl [] wr).drew).trans0 hc4).alloc _) (fun _ _ => List.not_mem_nil))
            have HBJ4 : Hid (Blk (w4.alloc (.cells #[.string q.1, .slice BA (β q.2).length bc] 70)) db 67 #[.string p.1, .slice B j d]) := Lib.hid (HBJ.out.chg ((((Chg.refl [] wr).drew).trans0 hc4).alloc _) List.not_mem_nil)
            have HCL : Hid (Chg [] wr (w4.alloc (.cells #[.string q.1, .slice BA (β q.2).length bc] 70))) := Lib.hid ((((Chg.refl [] wr).drew).trans0 hc4).alloc _)
            have y1a : (w4.alloc (.cells #[.string q.1, .slice BA (β q.2).length bc] 70)).cell? ⟨db, 1, none⟩ = some (.slice B j d) := HBJ4.out.cell 1
            clear hbo hn4
            refine hK.out _ _ (hHc) (fun hHeld => ?_)
            try simp only [Act.put, put8]
            clear hK K
            refine wpAnyH_take (i := 10) (v := ?_) rfl (by kernel_rfl) (by kernel_rfl) (by kernel_rfl) (fun _ _ _ h => h) (Or.inl ⟨by rfl, ?_⟩) (by assumption) ?_
            rotate_left
            · (intro w' hSw; go_simp; try with_reducible rfl)
            try simp only [Act.put, put8]
            refine wpAnyH_ready (rs := [11]) (by kernel_rfl) (by simp) ?_
            refine AllReadyH.cons rfl (fun K hK => ?_) (AllReadyH.nil)
            go_simp
            refine hK.out _ _ (hHeld.alloc _) (fun hHeld => ?_)
            try simp only [Act.put, put8]
            clear hK K
            refine wpAnyH_ready (rs := [12]) (by kernel_rfl) (by simp) ?_
            refine AllReadyH.cons rfl (fun K hK => ?_) (AllReadyH.nil)
            refine step_app rfl _ _ rfl etyFiles rfl HOW4.out rfl (Own.lit w4 70 2 #[.string q.1, .slice BA (β q.2).length bc] 1 (by decide) rfl).rd (nsv_one [⟨q.1, BA, (β q.2).length, bc⟩]) (by unfold maxLen; omega) (by omega) ?_
            intro A2 c2 w6 hown6 hchg6 hnew6 _
            have HB6 := Lib.hid (HBJ4.out.chg hchg6 HDBB.out)
            have y6 := HB6.out.cell 1
            have f6 := HB6.out.frozen 1
            simp at y6
            have HO6 := Lib.hid hown6
            have HC6 := Lib.hid hchg6
            have HN6 := Lib.hid hnew6
            have hH6 := hHeld.trans hchg6 (fun x hx => .inl (List.mem_cons_of_mem _ hx))
            clear hown6 hchg6 hnew6
            refine hK.out _ _ (hH6) (fun hHeld => ?_)
            try simp only [Act.put, put8]
            clear hK K
            refine wpAnyH_take (i := 13) (v := ?_) rfl (by kernel_rfl) (by kernel_rfl) (by kernel_rfl) (fun _ _ _ h => h) (Or.inl ⟨by rfl, ?_⟩) (by assumption) ?_
            rotate_left
            · (intro w' hSw; go_simp; try with_reducible rfl)
            try simp only [Act.put, put8]
            refine wpAnyH_ready (rs := [14]) (by kernel_rfl) (by simp) ?_
            refine AllReadyH.cons rfl (fun K hK => ?_) (AllReadyH.nil)
            go_simp
            refine hK.out _ _ (hHeld.setCell (.inl (by simp)) _) (fun hHeld => ?_)
            try simp only [Act.put, put8]
            clear hK K
            refine wpAnyH_done (by kernel_rfl) ?_ _
            try simp only [Act.put, put8]
            have HCS : Hid (Chg [db] w6 (w6.setCell ⟨db, 1, none⟩ (.slice A2 (j + 1) c2))) := Lib.hid ((Chg.refl _ _).setCell (.inl (by simp)) _)
            have HBS : Hid (Blk (w6.setCell ⟨db, 1, none⟩ (.slice A2 (j + 1) c2)) db 67 #[.string p.1, .slice A2 (j + 1) c2]) := Lib.hid (by simpa using HB6.out.set_ 1 (.slice A2 (j + 1) c2))
            clear y6 f6 y1 y1a hHeld hHc hH6 hc4 x1 x0 f1
            go_wp2
            go_roundw
            case rel =>
              have hn6 : ∀ k ∈ bo A2, w5.heap.size ≤ k := fun k hk => by
                rcases HN6.out k hk with h | h
                · exact HNJ.out k (List.mem_append_left _ h)
                · have h1 := HCJ.out.size; have h2 := HCL.out.size; omega
              have hndb : ∀ k ∈ bo A2, k ∉ [db] := fun k hk hm => by
                simp only [List.mem_singleton] at hm
                have h1 := hn6 k hk; have h2 := HLW.out; omega
              have hwl : wr.drew.heap.size ≤ w4.heap.size := HC4.out.size
              have hba : ∀ k ∈ bo BA, wr.heap.size ≤ k := fun k hk => HN4.out k hk
              have hbaO : Own (w4.alloc (.cells #[.string q.1, .slice BA (β q.2).length bc] 70)) 5 1 BA (β q.2).length bc (bv (β q.2)) := HBO.out.chg ((Chg.refl [] w4).alloc _) (fun _ _ => List.not_mem_nil)
              have hfl := HFS.out.lt
              have hO6 : Own w6 70 2 A2 (j + 1) c2 (nsv (fnsl (fs ++ [(⟨q.1, BA, (β q.2).length, bc⟩, β q.2)]))) := by
                have := HO6.out
                unfold fnsl at this ⊢
                rw [List.map_append, nsv_append]
                exact this
              have hfs6 : FilesO w6 A2 (j + 1) c2 (fs ++ [(⟨q.1, BA, (β q.2).length, bc⟩, β q.2)]) :=
                (HFS.out.chg HCL.out (fun _ _ => List.not_mem_nil)).snoc HC6.out hO6 (hbaO.chg HC6.out (fun k hk hm => by have h1 := hba k hk; have h2 := hfl k (List.mem_append_left _ hm); omega)) (fun k hk hm => by have h1 := hba k hk; have h2 := hfl k (List.mem_append_right _ hm); omega)
              refine ⟨j + 1, A2, c2, fs ++ [(⟨q.1, BA, (β q.2).length, bc⟩, β q.2)], by omega, by go_num, HBS.out, hfs6.chg HCS.out (fun k hk hm => ?_), ?_, ?_, ?_⟩
              · rcases List.mem_append.1 hk with hk | hk
                · exact hndb k hk hm
                · obtain ⟨f, hf, hk⟩ := List.mem_flatMap.1 hk
                  simp only [List.mem_singleton] at hm
                  subst hm
                  exact (hfs6.dat f hf).blk_ne HB6.out (by decide) _ hk rfl
              · rw [fval8_snoc, take_snoc _ _ _ HQ.out, List.map_append, HFV.out]; rfl
              · exact ((HCJ.out.trans0 HCL.out).trans HC6.out (fun x hx => .inr (HNJ.out x (List.mem_append_left _ hx)))).trans HCS.out (fun x hx => .inl hx)
              · intro k hk
                rw [fblk_snoc] at hk
                rcases List.mem_append.1 hk with hk | hk
                · exact hn6 k hk
                · rcases List.mem_append.1 hk with hk | hk
                  · exact HNJ.out k (List.mem_append_right _ hk)
                  · have h1 := hba k hk; have h2 := HCJ.out.size; omega
            case measure => simp [intOf]; omega
          · go_simp
            refine (HCALL.out q.2 HID.out _ (HCWJ.out.trans hHeld (fun x hx => .inr (HNW.out x hx)))).mono ?_
            rintro ee w4 ⟨BA, bc, rfl, hbo, hc4, hn4⟩
            have y1 : w4.cell? ⟨db, 1, none⟩ = some (.slice B j d) := hc4.cell (by simpa using x1) List.not_mem_nil
            have HBO := Lib.hid hbo
            have HC4 := Lib.hid hc4
            have HN4 := Lib.hid hn4
            have hHc := hHeld.trans0 hc4
            have HOW4 : Hid (Own (w4.alloc (.cells #[.string q.1, .slice BA (β q.2).length bc] 70)) 70 2 B j d (nsv (fnsl fs))) := Lib.hid (HFS.out.row.chg ((((Chg.refl [] wr).drew).trans0 hc4).alloc _) (fun _ _ => List.not_mem_nil))
            have HBJ4 : Hid (Blk (w4.alloc (.cells #[.string q.1, .slice BA (β q.2).length bc] 70)) db 67 #[.string p.1, .slice B j d]) := Lib.hid (HBJ.out.chg ((((Chg.refl [] wr).drew).trans0 hc4).alloc _) List.not_mem_nil)
            have HCL : Hid (Chg [] wr (w4.alloc (.cells #[.string q.1, .slice BA (β q.2).length bc] 70))) := Lib.hid ((((Chg.refl [] wr).drew).trans0 hc4).alloc _)
            have y1a : (w4.alloc (.cells #[.string q.1, .slice BA (β q.2).length bc] 70)).cell? ⟨db, 1, none⟩ = some (.slice B j d) := HBJ4.out.cell 1
            clear hbo hn4
            refine hK.out _ _ (hHc) (fun hHeld => ?_)
            try simp only [Act.put, put8]
            clear hK K
            refine wpAnyH_take (i := 10) (v := ?_) rfl (by kernel_rfl) (by kernel_rfl) (by kernel_rfl) (fun _ _ _ h => h) (Or.inl ⟨by rfl, ?_⟩) (by assumption) ?_
            rotate_left
            · (intro w' hSw; go_simp; try with_reducible rfl)
            try simp only [Act.put, put8]
            refine wpAnyH_ready (rs := [1, 11]) (by kernel_rfl) (by simp) ?_
            refine AllReadyH.cons rfl (fun K hK => ?_) (AllReadyH.cons rfl (fun K hK => ?_) (AllReadyH.nil))
            · go_simp
              refine hK.out _ _ (hHeld) (fun hHeld => ?_)
              try simp only [Act.put, put8]
              clear hK K
              refine wpAnyH_ready (rs := [11]) (by kernel_rfl) (by simp) ?_
              refine AllReadyH.cons rfl (fun K hK => ?_) (AllReadyH.nil)
              go_simp
              refine hK.out _ _ (hHeld.alloc _) (fun hHeld => ?_)
              try simp only [Act.put, put8]
              clear hK K
              refine wpAnyH_ready (rs := [12]) (by kernel_rfl) (by simp) ?_
              refine AllReadyH.cons rfl (fun K hK => ?_) (AllReadyH.nil)
              refine step_app rfl _ _ rfl etyFiles rfl HOW4.out rfl (Own.lit w4 70 2 #[.string q.1, .slice BA (β q.2).length bc] 1 (by decide) rfl).rd (nsv_one [⟨q.1, BA, (β q.2).length, bc⟩]) (by unfold maxLen; omega) (by omega) ?_
              intro A2 c2 w6 hown6 hchg6 hnew6 _
              have HB6 := Lib.hid (HBJ4.out.chg hchg6 HDBB.out)
              have y6 := HB6.out.cell 1
              have f6 := HB6.out.frozen 1
              simp at y6
              have HO6 := Lib.hid hown6
              have HC6 := Lib.hid hchg6
              have HN6 := Lib.hid hnew6
              have hH6 := hHeld.trans hchg6 (fun x hx => .inl (List.mem_cons_of_mem _ hx))
              clear hown6 hchg6 hnew6
              refine hK.out _ _ (hH6) (fun hHeld => ?_)
              try simp only [Act.put, put8]
              clear hK K
              refine wpAnyH_take (i := 13) (v := ?_) rfl (by kernel_rfl) (by kernel_rfl) (by kernel_rfl) (fun _ _ _ h => h) (Or.inl ⟨by rfl, ?_⟩) (by assumption) ?_
              rotate_left
              · (intro w' hSw; go_simp; try with_reducible rfl)
              try simp only [Act.put, put8]
              refine wpAnyH_ready (rs := [14]) (by kernel_rfl) (by simp) ?_
              refine AllReadyH.cons rfl (fun K hK => ?_) (AllReadyH.nil)
              go_simp
              refine hK.out _ _ (hHeld.setCell (.inl (by simp)) _) (fun hHeld => ?_)
              try simp only [Act.put, put8]
              clear hK K
              refine wpAnyH_done (by kernel_rfl) ?_ _
              try simp only [Act.put, put8]
              have HCS : Hid (Chg [db] w6 (w6.setCell ⟨db, 1, none⟩ (.slice A2 (j + 1) c2))) := Lib.hid ((Chg.refl _ _).setCell (.inl (by simp)) _)
              have HBS : Hid (Blk (w6.setCell ⟨db, 1, none⟩ (.slice A2 (j + 1) c2)) db 67 #[.string p.1, .slice A2 (j + 1) c2]) := Lib.hid (by simpa using HB6.out.set_ 1 (.slice A2 (j + 1) c2))
              clear y6 f6 y1 y1a hHeld hHc hH6 hc4 x1 x0 f1
              go_wp2
              go_roundw
              case rel =>
                have hn6 : ∀ k ∈ bo A2, w5.heap.size ≤ k := fun k hk => by
                  rcases HN6.out k hk with h | h
                  · exact HNJ.out k (List.mem_append_left _ h)
                  · have h1 := HCJ.out.size; have h2 := HCL.out.size; omega
                have hndb : ∀ k ∈ bo A2, k ∉ [db] := fun k hk hm => by
                  simp only [List.mem_singleton] at hm
                  have h1 := hn6 k hk; have h2 := HLW.out; omega
                have hwl : wr.drew.heap.size ≤ w4.heap.size := HC4.out.size
                have hba : ∀ k ∈ bo BA, wr.heap.size ≤ k := fun k hk => HN4.out k hk
                have hbaO : Own (w4.alloc (.cells #[.string q.1, .slice BA (β q.2).length bc] 70)) 5 1 BA (β q.2).length bc (bv (β q.2)) := HBO.out.chg ((Chg.refl [] w4).alloc _) (fun _ _ => List.not_mem_nil)
                have hfl := HFS.out.lt
                have hO6 : Own w6 70 2 A2 (j + 1) c2 (nsv (fnsl (fs ++ [(⟨q.1, BA, (β q.2).length, bc⟩, β q.2)]))) := by
                  have := HO6.out
                  unfold fnsl at this ⊢
                  rw [List.map_append, nsv_append]
                  exact this
                have hfs6 : FilesO w6 A2 (j + 1) c2 (fs ++ [(⟨q.1, BA, (β q.2).length, bc⟩, β q.2)]) :=
                  (HFS.out.chg HCL.out (fun _ _ => List.not_mem_nil)).snoc HC6.out hO6 (hbaO.chg HC6.out (fun k hk hm => by have h1 := hba k hk; have h2 := hfl k (List.mem_append_left _ hm); omega)) (fun k hk hm => by have h1 := hba k hk; have h2 := hfl k (List.mem_append_right _ hm); omega)
                refine ⟨j + 1, A2, c2, fs ++ [(⟨q.1, BA, (β q.2).length, bc⟩, β q.2)], by omega, by go_num, HBS.out, hfs6.chg HCS.out (fun k hk hm => ?_), ?_, ?_, ?_⟩
                · rcases List.mem_append.1 hk with hk | hk
                  · exact hndb k hk hm
                  · obtain ⟨f, hf, hk⟩ := List.mem_flatMap.1 hk
                    simp only [List.mem_singleton] at hm
                    subst hm
                    exact (hfs6.dat f hf).blk_ne HB6.out (by decide) _ hk rfl
                · rw [fval8_snoc, take_snoc _ _ _ HQ.out, List.map_append, HFV.out]; rfl
                · exact ((HCJ.out.trans0 HCL.out).trans HC6.out (fun x hx => .inr (HNJ.out x (List.mem_append_left _ hx)))).trans HCS.out (fun x hx => .inl hx)
                · intro k hk
                  rw [fblk_snoc] at hk
                  rcases List.mem_append.1 hk with hk | hk
                  · exact hn6 k hk
                  · rcases List.mem_append.1 hk with hk | hk
                    · exact HNJ.out k (List.mem_append_right _ hk)
                    · have h1 := hba k hk; have h2 := HCJ.out.size; omega
              case measure => simp [intOf]; omega
            · go_simp
              refine hK.out _ _ (hHeld.alloc _) (fun hHeld => ?_)
              try simp only [Act.put, put8]
              clear hK K
              refine wpAnyH_ready (rs := [1]) (by kernel_rfl) (by simp) ?_
              refine AllReadyH.cons rfl (fun K hK => ?_) (AllReadyH.nil)
              go_simp
              refine hK.out _ _ (hHeld) (fun hHeld => ?_)
              try simp only [Act.put, put8]
              clear hK K
              refine wpAnyH_ready (rs := [12]) (by kernel_rfl) (by simp) ?_
              refine AllReadyH.cons rfl (fun K hK => ?_) (AllReadyH.nil)
              refine step_app rfl _ _ rfl etyFiles rfl HOW4.out rfl (Own.lit w4 70 2 #[.string q.1, .slice BA (β q.2).length bc] 1 (by decide) rfl).rd (nsv_one [⟨q.1, BA, (β q.2).length, bc⟩]) (by unfold maxLen; omega) (by omega) ?_
              intro A2 c2 w6 hown6 hchg6 hnew6 _
              have HB6 := Lib.hid (HBJ4.out.chg hchg6 HDBB.out)
              have y6 := HB6.out.cell 1
              have f6 := HB6.out.frozen 1
              simp at y6
              have HO6 := Lib.hid hown6
              have HC6 := Lib.hid hchg6
              have HN6 := Lib.hid hnew6
              have hH6 := hHeld.trans hchg6 (fun x hx => .inl (List.mem_cons_of_mem _ hx))
              clear hown6 hchg6 hnew6
              refine hK.out _ _ (hH6) (fun hHeld => ?_)
              try simp only [Act.put, put8]
              clear hK K
              refine wpAnyH_take (i := 13) (v := ?_) rfl (by kernel_rfl) (by kernel_rfl) (by kernel_rfl) (fun _ _ _ h => h) (Or.inl ⟨by rfl, ?_⟩) (by assumption) ?_
              rotate_left
              · (intro w' hSw; go_simp; try with_reducible rfl)
              try simp only [Act.put, put8]
              refine wpAnyH_ready (rs := [14]) (by kernel_rfl) (by simp) ?_
              refine AllReadyH.cons rfl (fun K hK => ?_) (AllReadyH.nil)
              go_simp
              refine hK.out _ _ (hHeld.setCell (.inl (by simp)) _) (fun hHeld => ?_)
              try simp only [Act.put, put8]
              clear hK K
              refine wpAnyH_done (by kernel_rfl) ?_ _
              try simp only [Act.put, put8]
              have HCS : Hid (Chg [db] w6 (w6.setCell ⟨db, 1, none⟩ (.slice A2 (j + 1) c2))) := Lib.hid ((Chg.refl _ _).setCell (.inl (by simp)) _)
              have HBS : Hid (Blk (w6.setCell ⟨db, 1, none⟩ (.slice A2 (j + 1) c2)) db 67 #[.string p.1, .slice A2 (j + 1) c2]) := Lib.hid (by simpa using HB6.out.set_ 1 (.slice A2 (j + 1) c2))
              clear y6 f6 y1 y1a hHeld hHc hH6 hc4 x1 x0 f1
              go_wp2
              go_roundw
              case rel =>
                have hn6 : ∀ k ∈ bo A2, w5.heap.size ≤ k := fun k hk => by
                  rcases HN6.out k hk with h | h
                  · exact HNJ.out k (List.mem_append_left _ h)
                  · have h1 := HCJ.out.size; have h2 := HCL.out.size; omega
                have hndb : ∀ k ∈ bo A2, k ∉ [db] := fun k hk hm => by
                  simp only [List.mem_singleton] at hm
                  have h1 := hn6 k hk; have h2 := HLW.out; omega
                have hwl : wr.drew.heap.size ≤ w4.heap.size := HC4.out.size
                have hba : ∀ k ∈ bo BA, wr.heap.size ≤ k := fun k hk => HN4.out k hk
                have hbaO : Own (w4.alloc (.cells #[.string q.1, .slice BA (β q.2).length bc] 70)) 5 1 BA (β q.2).length bc (bv (β q.2)) := HBO.out.chg ((Chg.refl [] w4).alloc _) (fun _ _ => List.not_mem_nil)
                have hfl := HFS.out.lt
                have hO6 : Own w6 70 2 A2 (j + 1) c2 (nsv (fnsl (fs ++ [(⟨q.1, BA, (β q.2).length, bc⟩, β q.2)]))) := by
                  have := HO6.out
                  unfold fnsl at this ⊢
                  rw [List.map_append, nsv_append]
                  exact this
                have hfs6 : FilesO w6 A2 (j + 1) c2 (fs ++ [(⟨q.1, BA, (β q.2).length, bc⟩, β q.2)]) :=
                  (HFS.out.chg HCL.out (fun _ _ => List.not_mem_nil)).snoc HC6.out hO6 (hbaO.chg HC6.out (fun k hk hm => by have h1 := hba k hk; have h2 := hfl k (List.mem_append_left _ hm); omega)) (fun k hk hm => by have h1 := hba k hk; have h2 := hfl k (List.mem_append_right _ hm); omega)
                refine ⟨j + 1, A2, c2, fs ++ [(⟨q.1, BA, (β q.2).length, bc⟩, β q.2)], by omega, by go_num, HBS.out, hfs6.chg HCS.out (fun k hk hm => ?_), ?_, ?_, ?_⟩
                · rcases List.mem_append.1 hk with hk | hk
                  · exact hndb k hk hm
                  · obtain ⟨f, hf, hk⟩ := List.mem_flatMap.1 hk
                    simp only [List.mem_singleton] at hm
                    subst hm
                    exact (hfs6.dat f hf).blk_ne HB6.out (by decide) _ hk rfl
                · rw [fval8_snoc, take_snoc _ _ _ HQ.out, List.map_append, HFV.out]; rfl
                · exact ((HCJ.out.trans0 HCL.out).trans HC6.out (fun x hx => .inr (HNJ.out x (List.mem_append_left _ hx)))).trans HCS.out (fun x hx => .inl hx)
                · intro k hk
                  rw [fblk_snoc] at hk
                  rcases List.mem_append.1 hk with hk | hk
                  · exact hn6 k hk
                  · rcases List.mem_append.1 hk with hk | hk
                    · exact HNJ.out k (List.mem_append_right _ hk)
                    · have h1 := hba k hk; have h2 := HCJ.out.size; omega
              case measure => simp [intOf]; omega
        · obtain rfl : j = FN := by omega
          have HODS : Hid (DirsO wr A i c ds) := Lib.hid (HDS5.out.chg HCJ.out (fun k hk hm => by
            simp only [List.mem_singleton] at hm
            have := HAB.out k hk; omega))
          clear f1
          go_wp2_with (at_builtin; refine wpList_app rfl _ _ rfl etyDirs rfl (HODS.out.row.chg ((Chg.refl [] wr).alloc (.cells #[.string p.1, .slice B j d] 67)) (fun _ _ => List.not_mem_nil)) rfl (Own.lit wr 67 2 #[.string p.1, .slice B j d] 1 (by decide) rfl).rd (nsv_one [⟨p.1, B, j, d⟩]) (by unfold maxLen; omega) (by omega) ?_; intro A2 c2 w7 hown7 hchg7 hnew7 _; have HO7 := Lib.hid hown7; have HC7 := Lib.hid hchg7; have HN7 := Lib.hid hnew7; clear hown7 hchg7 hnew7)
          go_roundw
          case rel =>
            have hcAl : Chg [] wr (wr.alloc (.cells #[.string p.1, .slice B j d] 67)) := (Chg.refl [] wr).alloc _
            have hsz1 := HC3.out.size
            have hsz2 := HCH.out.size
            have hsz3 := HCW.out.size
            have hsz4 := HCJ.out.size
            have hlw := HLW.out
            have hfl := HFS.out.lt
            have hbA : ∀ k ∈ bo B ++ fblk fs, k ∉ bo A := fun k hk hm => by
              have h1 := HNJ.out k hk; have h2 := HAB.out k (List.mem_append_left _ hm); omega
            have hds7 : DirsO w7 A2 (i + 1) c2 (ds ++ [(⟨p.1, B, j, d⟩, fs)]) := by
              refine (HODS.out.chg hcAl (fun _ _ => List.not_mem_nil)).snoc HC7.out ?_ ((HFS.out.chg hcAl (fun _ _ => List.not_mem_nil)).chg HC7.out hbA) (fun k hk hm => ?_)
              · have := HO7.out
                unfold dnsl at this ⊢
                rw [List.map_append, nsv_append]
                exact this
              · have h1 := HNJ.out k hk; have h2 := HAB.out k (List.mem_append_right _ hm); omega
            refine ⟨i + 1, A2, c2, ds ++ [(⟨p.1, B, j, d⟩, fs)], by omega, by go_num, rfl, hds7, ?_, ?_, ?_⟩
            · rw [dval8_snoc, shows_snoc HP.out, HVAL.out, HFV.out, show p.2.take j = p.2 from List.take_of_length_le (by rw [HFN.out]; exact Nat.le_refl _)]
            · exact ((((HCH.out.trans0 HCW.out).trans0 HC5.out).trans HCJ.out (fun x hx => by simp only [List.mem_singleton] at hx; subst hx; right; have := HDB.out; omega)).trans0 hcAl).trans HC7.out (fun x hx => .inr (HNEW.out x (List.mem_append_left _ hx)).2)
            · intro k hk
              rw [dblk_snoc] at hk
              rcases List.mem_append.1 hk with hk | hk
              · rcases HN7.out k hk with h | h
                · exact HNEW.out k (List.mem_append_left _ h)
                · simp at h; omega
              · rcases List.mem_append.1 hk with hk | hk
                · exact HNEW.out k (List.mem_append_right _ hk)
                · have h1 := HNJ.out k hk; omega
          case measure => simp [intOf]; omega
    · obtain rfl : i = TN := by omega
      go_wp2
      go_ret
      refine ⟨A, i, c, ds, rfl, HDS.out, ?_, HC3.out.trans0 HCH.out, fun k hk => (HNEW.out k hk).1⟩
      rw [HVAL.out, List.take_of_length_le (by omega)]
end Go.Proofs.YtgomofeidghmiaaGreat
