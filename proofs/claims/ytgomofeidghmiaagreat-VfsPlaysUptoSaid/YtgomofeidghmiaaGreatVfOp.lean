/-
  Layer 08: Open: the file system over a disk.
-/
import Derived.Test.YtgomofeidghmiaaGreatVfJh
import Derived.Test.YtgomofeidghmiaaGreatVfJd
namespace Go.Proofs.YtgomofeidghmiaaGreat
open Go.RowKit

theorem Lay.ins {w w' : World} {Ps Qs : List (List Nat)} {P : List Nat} (h : Lay w (Ps ++ Qs)) (hn : ∀ x ∈ P, w.heap.size ≤ x) (hl : ∀ x ∈ P, x < w'.heap.size) (hs : w.heap.size ≤ w'.heap.size) : Lay w' (Ps ++ P :: Qs) := by
  have hsep := h.sep
  unfold Sep at hsep
  rw [List.pairwise_append] at hsep
  obtain ⟨s1, s2, s3⟩ := hsep
  refine ⟨?_, fun Q hQ x hx => ?_⟩
  · unfold Sep
    rw [List.pairwise_append]
    refine ⟨s1, List.pairwise_cons.2 ⟨fun Q hQ x hx hq => ?_, s2⟩, fun A hA B hB x hx hb => ?_⟩
    · have h1 := hn x hx
      have h2 := h.lt Q (List.mem_append_right _ hQ) x hq
      omega
    · rcases List.mem_cons.1 hB with rfl | hB
      · have h1 := hn x hb
        have h2 := h.lt A (List.mem_append_left _ hA) x hx
        omega
      · exact s3 A hA B hB x hx hb
  · rcases List.mem_append.1 hQ with hQ | hQ
    · exact Nat.lt_of_lt_of_le (h.lt Q (List.mem_append_left _ hQ) x hx) hs
    · rcases List.mem_cons.1 hQ with rfl | hQ
      · exact hl x hx
      · exact Nat.lt_of_lt_of_le (h.lt Q (List.mem_append_right _ hQ) x hx) hs
theorem bulk8_dir {D : Dsk} {d : ByteArray × List (ByteArray × List Int)} (h : d ∈ D) : d.2.length ≤ bulk8 D ∧ ∀ x ∈ d.2, x.2.length ≤ bulk8 D := by
  unfold bulk8
  induction D with
  | nil => simp at h
  | cons y r ih =>
    simp only [List.map_cons, List.sum_cons]
    rcases List.mem_cons.1 h with rfl | h
    · have h1 : d.2.length ≤ (d.2.map fun x => x.2.length + 1).sum ∧ ∀ x ∈ d.2, x.2.length ≤ (d.2.map fun x => x.2.length + 1).sum := by
        generalize d.2 = l
        induction l with
        | nil => simp
        | cons z l ih2 =>
          simp only [List.length_cons, List.map_cons, List.sum_cons, List.mem_cons]
          refine ⟨by omega, fun x hx => ?_⟩
          rcases hx with rfl | hx
          · omega
          · have := ih2.2 x hx; omega
      exact ⟨by omega, fun x hx => by have := h1.2 x hx; omega⟩
    · have h1 := ih h
      exact ⟨by omega, fun x hx => by have := h1.2 x hx; omega⟩
/-- a file system is told, in new memory; or an error -/
def NewFs (w : World) (D : Dsk) (quota stop : Int) (e : Ending) (w' : World) : Prop :=
  (openE D quota ≠ 0 ∧ e = .returned (.tuple #[.pointer none, .int .i64 (openE D quota)]) ∧ Chg [] w w') ∨
  (openE D quota = 0 ∧ ∃ G, e = .returned (.tuple #[.pointer (some ⟨G.b, 0, none⟩), .int .i64 0]) ∧ FsM w' G (openS D quota stop) ∧ (∀ x ∈ G.all, w.heap.size ≤ x) ∧ Chg [] w w')

set_option maxRecDepth 100000 in
set_option maxHeartbeats 6400000 in
theorem open_st (w : World) (A : Option Addr) (n c : Nat) (ds : List DM) (quota stop : Int) (h : DirsR w A n c ds) (hn : n ≤ 1073741824) (hb : bulk8 (dval8 ds) ≤ 1073741824) :
    Calls Tryz.prog 22 #[.slice A n c, .int .i64 quota, .int .i64 stop] w (NewFs w (dval8 ds) quota stop) := by
  have HD := Lib.hid h
  have HB := Lib.hid hb
  have hmm := @run_makeMap Tryz.prog
  clear h hb
  go_enter Tryz.func22, Tryz.ntmps22
  by_cases hq : quota < 0
  · have HE : Hid (openE (dval8 ds) quota = 2) := Lib.hid (by unfold openE; rw [if_pos hq])
    go_wp2
    go_ret2
    exact .inl ⟨by rw [HE.out]; decide, by rw [HE.out]; rfl, Chg.refl _ _⟩
  · have HE : Hid (openE (dval8 ds) quota = dirsE true noS (dval8 ds)) := Lib.hid (by unfold openE; rw [if_neg hq])
    obtain ⟨t1, ht1⟩ : ∃ t1, w.heap.size = t1 := ⟨_, rfl⟩
    obtain ⟨W, hW⟩ : ∃ W, (w.alloc (.map #[] 0)).alloc (.cells #[.map (some t1), .map none, .slice none 0 0, .slice none 0 0, .int .i64 quota, .int .i64 stop, .int .i64 0] 92) = W := ⟨_, rfl⟩
    have hcW : Chg [] w W := by rw [← hW]; exact ((Chg.refl [] w).alloc _).alloc _
    have hOp : OpM W ⟨t1 + 1, t1, [], [], [], []⟩ [] [] quota stop := by
      have hbk : Blk W (t1 + 1) 92 #[.map (some t1), .map none, .slice none 0 0, .slice none 0 0, .int .i64 quota, .int .i64 stop, .int .i64 0] := by
        rw [← hW]
        have := Blk.new (w.alloc (.map #[] 0)) 92 #[.map (some t1), .map none, .slice none 0 0, .slice none 0 0, .int .i64 quota, .int .i64 stop, .int .i64 0]
        simpa [ht1] using this
      have htr : Tree W t1 [] := ⟨by rw [← hW, ← ht1]; exact (Mp.made w kvS).chg ((Chg.refl [] _).alloc _) List.not_mem_nil, by simp, by simp⟩
      refine ⟨hbk, htr, ⟨fun k => rfl, fun k d F hd => by cases hd⟩, rfl, rfl, rfl, by simp, by simp, ⟨?_, ?_⟩⟩
      · simp [OpG.parts, Sep, tbl]
      · intro P hP x hx
        have h1 := hbk.lt
        have h2 := htr.top.lt
        simp only [OpG.parts, tbl, List.map_nil, List.mem_cons, List.mem_nil_iff, or_false] at hP
        rcases hP with rfl | rfl | rfl
        · simp at hx; omega
        · simp at hx; omega
        · simp at hx
    have HOP := Lib.hid hOp
    have HCW := Lib.hid hcW
    have HT1 := Lib.hid ht1
    clear hOp hcW
    go_wp2
    go_loopw [9, 10, 11, 12, 13, 26] (fun s9 _ _ _ _ s26 wr => ∃ (i : Nat) (g1 : GTr) (ib sg : List Nat) (Ls : List (List Nat)), i ≤ n ∧ s26 = .int .i64 i ∧ s9 = .string (lastN noS ((dval8 ds).take i)) ∧ dirsE true noS ((dval8 ds).take i) = 0 ∧
      OpM wr ⟨t1 + 1, t1, g1, ib, sg, Ls⟩ (numT 0 ((dval8 ds).take i)) (fls ((dval8 ds).take i)) quota stop ∧ (∀ x ∈ (OpG.mk (t1 + 1) t1 g1 ib sg Ls).parts.flatten, w.heap.size ≤ x) ∧ Chg [] w wr) (fun _ _ _ _ _ s26 _ => n - (intOf s26).toNat)
    case atStart => exact ⟨0, [], [], [], [], Nat.zero_le _, rfl, rfl, rfl, HOP.out, by have := HT1.out; simp [OpG.parts, tbl]; omega, HCW.out⟩
    case round =>
      obtain ⟨i, g1, ib, sg, Ls, hin, rfl, rfl, hpre, hop, hnew, hch⟩ := hrel
      have HPRE := Lib.hid hpre
      have HOP2 := Lib.hid hop
      have HNEW := Lib.hid hnew
      have HCH := Lib.hid hch
      clear hpre hop hnew hch HOP HCW
      by_cases hlt : i < n
      · have hlt' : (i : Int) < n := by omega
        obtain ⟨d, hd⟩ : ∃ d, ds[i]? = some d := ⟨_, List.getElem?_eq_getElem (by have := HD.out.row.nsl; simp [dnsl] at this; omega)⟩
        obtain ⟨⟨dnm, dA, dn, dc⟩, dfs⟩ := d
        have hdv : (dval8 ds)[i]? = some (dnm, fval8 dfs) := by unfold dval8; rw [List.getElem?_map, hd]; rfl
        obtain ⟨ad, rfl, hat⟩ := (HD.out.chg0 HCH.out).row.ns (j := i) (x := ⟨dnm, dA, dn, dc⟩) (by unfold dnsl; rw [List.getElem?_map, hd]; rfl)
        have x0 := hat.c0
        have x1 := hat.c1
        have HDV := Lib.hid hdv
        have HDM := Lib.hid (List.mem_of_getElem? hd)
        clear hd hdv hat
        obtain ⟨dv, hdvn⟩ : ∃ dv, wr.heap.size = dv := ⟨_, rfl⟩
        obtain ⟨W1, hW1⟩ : ∃ W1, wr.alloc (.cells #[.string dnm, .slice dA dn dc] 67) = W1 := ⟨_, rfl⟩
        have hv1 : Blk W1 dv 67 #[.string dnm, .slice dA dn dc] := by rw [← hW1, ← hdvn]; exact Blk.new wr _ _
        have hc1 : Chg [] wr W1 := by rw [← hW1]; exact (Chg.refl [] wr).alloc _
        have v0 := hv1.cell 0
        have v1 := hv1.cell 1
        simp only [List.getElem?_toArray, List.getElem?_cons_succ, List.getElem?_cons_zero] at v0 v1
        have HV1 := Lib.hid hv1
        have HC1 := Lib.hid hc1
        have HDVN := Lib.hid hdvn
        clear hv1 hc1
        go_wp2_with fail
        have hb0 : (((i : Int)) == 0) = (i == 0) := by cases i <;> rfl
        rw [hb0]
        refine (inorder_any (i == 0) (lastN noS ((dval8 ds).take i)) dnm W1).mono ?_
        rintro e w2 ⟨rfl, rfl⟩
        obtain ⟨E, hE⟩ : ∃ E, ordE (i == 0) (lastN noS ((dval8 ds).take i)) dnm = E := ⟨_, rfl⟩
        rw [hE]
        have HEE := Lib.hid hE
        clear hE hb0
        by_cases hE0 : E = 0
        · subst hE0
          have HNEWD : Hid (dnm ∉ ((dval8 ds).take i).map Prod.fst) := Lib.hid (dir_new HDV.out HPRE.out HEE.out)
          have HOP3 := Lib.hid (HOP2.out.keep0 HC1.out)
          have b0 := HOP3.out.blk.cell 0
          simp only [List.getElem?_toArray, List.getElem?_cons_zero] at b0
          obtain ⟨fb, hfb⟩ : ∃ fb, w2.heap.size = fb := ⟨_, rfl⟩
          have HFBN := Lib.hid hfb
          have hcA : Chg [] w2 ((w2.alloc (.map #[] 0)).drew) := ((Chg.refl [] w2).alloc _).drew
          obtain ⟨W3, hu, hmp3, hc3⟩ := Mp.update (HOP3.out.tr1.top.chg hcA List.not_mem_nil) (string_key Tryz.underlying9) Tryz.underlying88 dnm (.map (some fb))
          have hmf : Mp W3 fb kvS [] := by
            have h1 : Mp ((w2.alloc (.map #[] 0)).drew) fb kvS [] := by rw [← hfb]; exact (Mp.made w2 kvS).chg ((Chg.refl [] _).drew) List.not_mem_nil
            refine h1.chg hc3 ?_
            have h2 := HOP3.out.tr1.top.lt
            simp only at h2
            simp
            omega
          have HC3 : Hid (Chg [t1] w2 W3) := Lib.hid ((hcA.nil [t1]).trans hc3 (fun x hx => .inl hx))
          have HTD : Hid (aget (numT 0 ((dval8 ds).take i)) dnm = none) := Lib.hid (aget_none.2 (by rw [numT_fst]; exact HNEWD.out))
          have HOPD := Lib.hid (HOP3.out.dir HTD.out HC3.out hmp3 hmf (by omega))
          have HDVT : Hid (dv ≠ t1 ∧ w.heap.size ≤ dv ∧ w.heap.size ≤ fb ∧ t1 < dv) := Lib.hid (by
            have h1 := HDVN.out; have h2 := HCH.out.size; have h3 := HOP2.out.tr1.top.lt; have h4 := HC1.out.size
            simp only at h3
            refine ⟨by omega, by omega, by omega, by omega⟩)
          have hS7 := hc3
          clear hmp3 hmf hc3
          go_wp2
          refine wp_region_held_drew (S := fun w' => Chg [t1] w2 w') (by kernel_rfl) ((Chg.refl _ _).drew) (fun hHeld => ?_)
          refine wpAnyH_take (i := 0) (v := ?_) rfl (by kernel_rfl) (by kernel_rfl) (by kernel_rfl) (fun _ _ _ h => h) (Or.inl ⟨by rfl, ?_⟩) (by assumption) ?_
          rotate_left
          · (intro w' hSw; go_simp; try with_reducible rfl)
          try simp only [Act.put, put8]
          refine wpAnyH_take (i := 1) (v := ?_) rfl (by kernel_rfl) (by kernel_rfl) (by kernel_rfl) (fun _ _ _ h => h) (Or.inl ⟨by rfl, ?_⟩) (by assumption) ?_
          rotate_left
          · (intro w' hSw; go_simp; try with_reducible rfl)
          try simp only [Act.put, put8]
          refine wpAnyH_take (i := 2) (v := ?_) rfl (by kernel_rfl) (by kernel_rfl) (by kernel_rfl) (fun _ _ _ h => h) (Or.inl ⟨by rfl, ?_⟩) (by assumption) ?_
          rotate_left
          · (intro w' hSw; go_simp; try with_reducible rfl)
          try simp only [Act.put, put8]
          refine wpAnyH_take (i := 3) (v := ?_) rfl (by kernel_rfl) (by kernel_rfl) (by kernel_rfl) (fun _ _ _ h => h) (Or.inl ⟨by rfl, ?_⟩) (by assumption) ?_
          rotate_left
          · (intro w' hSw; have y := hSw.cell b0 (by simp); go_simp; try with_reducible rfl)
          try simp only [Act.put, put8]
          refine wpAnyH_take (i := 4) (v := ?_) rfl (by kernel_rfl) (by kernel_rfl) (by kernel_rfl) (fun _ _ _ h => h) (Or.inl ⟨by rfl, ?_⟩) (by assumption) ?_
          rotate_left
          · (intro w' hSw; go_simp; try with_reducible rfl)
          try simp only [Act.put, put8]
          refine wpAnyH_take (i := 5) (v := ?_) rfl (by kernel_rfl) (by kernel_rfl) (by kernel_rfl) (fun _ _ _ h => h) (Or.inl ⟨by rfl, ?_⟩) (by assumption) ?_
          rotate_left
          · (intro w' hSw; have y := hSw.cell v0 (fun h => HDVT.out.1 (by simpa using h)); go_simp; try with_reducible rfl)
          try simp only [Act.put, put8]
          refine wpAnyH_ready (rs := [6]) (by kernel_rfl) (by simp) ?_
          refine AllReadyH.cons rfl (fun K hK => ?_) (AllReadyH.nil)
          go_simp
          refine hK.out _ _ (hHeld.alloc _) (fun hHeld => ?_)
          try simp only [Act.put, put8]
          clear hK K
          refine wpAnyH_ready (rs := [7]) (by kernel_rfl) (by simp) ?_
          refine AllReadyH.cons rfl (fun K hK => ?_) (AllReadyH.nil)
          go_simp
          refine hK.out _ _ (hHeld.trans hS7 (fun x hx => .inl hx)) (fun hHeld => ?_)
          try simp only [Act.put, put8]
          clear hK K
          refine wpAnyH_done (by kernel_rfl) ?_ _
          try simp only [Act.put, put8]
          have HV3 := Lib.hid (HV1.out.chg HC3.out (by simpa using HDVT.out.1))
          have u1 := HV3.out.cell 1
          simp only [List.getElem?_toArray, List.getElem?_cons_succ, List.getElem?_cons_zero] at u1
          have hFR := HD.out.fil _ HDM.out
          have HFR := Lib.hid hFR
          have hml : dfs.length = dn := by have := hFR.row.nsl; simpa [fnsl] using this
          have hmb : dn ≤ 1073741824 := by
            have h1 := (bulk8_dir (List.mem_of_getElem? HDV.out)).1
            have h2 := HB.out
            simp only [fval8, List.length_map] at h1
            omega
          have HML := Lib.hid hml
          have HSZ3 : Hid (wr.heap.size ≤ W3.heap.size) := Lib.hid (Nat.le_trans HC1.out.size HC3.out.size)
          have HNEW3 : Hid (∀ x ∈ (OpG.mk (t1 + 1) t1 (aput g1 dnm (fb, [])) ib sg Ls).parts.flatten, w.heap.size ≤ x) := Lib.hid (fun x hx => by
            simp only [OpG.parts, List.flatten_cons, List.mem_append] at hx
            rcases hx with h | h | h
            · exact HNEW.out x (by simp only [OpG.parts, List.flatten_cons, List.mem_append]; exact .inl h)
            · rcases tbl_aput (B := w.heap.size) HOP2.out.tr1.nodup (.inr HDVT.out.2.2.1) x h with h | h
              · exact HNEW.out x (by simp only [OpG.parts, List.flatten_cons, List.mem_append]; exact .inr (.inl h))
              · exact h
            · exact HNEW.out x (by simp only [OpG.parts, List.flatten_cons, List.mem_append]; exact .inr (.inr h)))
          have HC30 : Hid (Chg [] w W3) := Lib.hid ((HCH.out.trans0 HC1.out).trans HC3.out (fun x hx => by simp only [List.mem_singleton] at hx; subst hx; right; have := HT1.out; omega))
          clear hHeld b0 hu hfb hS7 hcA hFR hml x0 x1 v0 v1
          go_wp2
          go_loopw [13, 14, 15, 16, 52] (fun s13 _ _ _ s52 wr => ∃ (k : Nat) (g1 : GTr) (ib sg : List Nat) (Ls : List (List Nat)), k ≤ dn ∧ s52 = .int .i64 k ∧ s13 = .string (lastN noS ((fval8 dfs).take k)) ∧ filesE true noS ((fval8 dfs).take k) = 0 ∧
            OpM wr ⟨t1 + 1, t1, g1, ib, sg, Ls⟩ (numT 0 ((dval8 ds).take i) ++ [(dnm, numF (0 + cnt8 ((dval8 ds).take i)) ((fval8 dfs).take k))]) (fls ((dval8 ds).take i) ++ ((fval8 dfs).take k).map fun x => (x.2, [])) quota stop ∧
            Blk wr dv 67 #[.string dnm, .slice dA dn dc] ∧ (∀ x ∈ (OpG.mk (t1 + 1) t1 g1 ib sg Ls).parts.flatten, w.heap.size ≤ x) ∧ Chg [] w wr ∧ dv ∉ tbl t1 g1) (fun _ _ _ _ s52 _ => dn - (intOf s52).toNat)
          case atStart => exact ⟨0, _, _, _, _, Nat.zero_le _, rfl, rfl, rfl, by simpa [numF] using HOPD.out, HV3.out, HNEW3.out, HC30.out, by
            intro hm
            rcases List.mem_cons.1 hm with h | h
            · exact HDVT.out.1 h
            · obtain ⟨p, hp, e⟩ := List.mem_map.1 h
              have h3 := HDVN.out
              rcases (mem_aput HOP2.out.tr1.nodup).1 hp with rfl | ⟨hp, _⟩
              · have h1 := HFBN.out; have h2 := HV1.out.lt; simp only at e; omega
              · have h1 : p.2.1 < wr.heap.size := (HOP2.out.tr1.sub p hp).lt
                omega⟩
          case round =>
            obtain ⟨k, g2, ib2, sg2, Ls2, hkm, rfl, rfl, hpre2, hop2, hvb, hnew2, hch2, hdvt⟩ := hrel
            have HPRE2 := Lib.hid hpre2
            have HOPK := Lib.hid hop2
            have HVB := Lib.hid hvb
            have HNEW2 := Lib.hid hnew2
            have HCH2 := Lib.hid hch2
            have HDVTB := Lib.hid hdvt
            clear hpre2 hop2 hvb hnew2 hch2 hdvt HOPD HV3 HNEW3 HC30
            by_cases hkl : k < dn
            · have hkl' : (k : Int) < dn := by omega
              obtain ⟨x, hx⟩ : ∃ x, dfs[k]? = some x := ⟨_, List.getElem?_eq_getElem (by have := HML.out; omega)⟩
              have hxv : (fval8 dfs)[k]? = some (x.1.nm, x.2) := by unfold fval8; rw [List.getElem?_map, hx]; rfl
              have hFRk := HFR.out.chg0 HCH2.out
              obtain ⟨bd, hbd, hat⟩ := hFRk.row.ns (j := k) (x := x.1) (by unfold fnsl; rw [List.getElem?_map, hx]; rfl)
              subst hbd
              have z0 := hat.c0
              have z1 := hat.c1
              have HXD := Lib.hid (hFRk.dat x (List.mem_of_getElem? hx))
              have HXV := Lib.hid hxv
              have HXN : Hid (x.1.n ≤ 1073741824) := Lib.hid (by
                have h1 := (bulk8_dir (List.mem_of_getElem? HDV.out)).2 (x.1.nm, x.2) (List.mem_of_getElem? hxv)
                have h2 := HB.out
                have h3 := HXD.out.1
                simp only [List.length_map, Nat.mul_one] at h3
                simp only at h1
                omega)
              have HFBK : Hid (∃ e, aget g2 dnm = some e) := Lib.hid (by
                obtain ⟨e, he, _⟩ := HOPK.out.is1.get (k := dnm) (F := numF (0 + cnt8 ((dval8 ds).take i)) ((fval8 dfs).take k)) (by rw [aget_snoc HTD.out, if_pos rfl])
                exact ⟨e, he⟩)
              obtain ⟨⟨f2, fl2⟩, he⟩ := HFBK.out
              have HE2 := Lib.hid he
              clear hx hxv hFRk hat he
              obtain ⟨fv, hfvn⟩ : ∃ fv, wr.heap.size = fv := ⟨_, rfl⟩
              obtain ⟨W4, hW4⟩ : ∃ W4, wr.alloc (.cells #[.string x.1.nm, .slice x.1.A x.1.n x.1.c] 70) = W4 := ⟨_, rfl⟩
              have hv4 : Blk W4 fv 70 #[.string x.1.nm, .slice x.1.A x.1.n x.1.c] := by rw [← hW4, ← hfvn]; exact Blk.new wr _ _
              have hc4 : Chg [] wr W4 := by rw [← hW4]; exact (Chg.refl [] wr).alloc _
              have v0 := hv4.cell 0
              have v1 := hv4.cell 1
              have d0 := (HVB.out.chg hc4 List.not_mem_nil).cell 0
              have b0 := (HOPK.out.keep0 hc4).blk.cell 0
              simp only [List.getElem?_toArray, List.getElem?_cons_succ, List.getElem?_cons_zero] at v0 v1 d0 b0
              have HC4 := Lib.hid hc4
              have HV4 := Lib.hid hv4
              have HFVN := Lib.hid hfvn
              clear hv4 hc4
              go_wp2_with fail
              have hb0 : (((k : Int)) == 0) = (k == 0) := by cases k <;> rfl
              rw [hb0]
              refine (inorder_any (k == 0) (lastN noS ((fval8 dfs).take k)) x.1.nm W4).mono ?_
              rintro e w4 ⟨rfl, rfl⟩
              obtain ⟨E, hE⟩ : ∃ E, ordE (k == 0) (lastN noS ((fval8 dfs).take k)) x.1.nm = E := ⟨_, rfl⟩
              rw [hE]
              have HEX := Lib.hid hE
              clear hE hb0
              by_cases hE0 : E = 0
              · subst hE0
                have HOP4 := Lib.hid (HOPK.out.keep0 HC4.out)
                have HFM := Lib.hid (aget_mem HE2.out)
                have HFT : Hid (f2 ≠ t1 ∧ t1 + 1 ≠ f2 ∧ dv ≠ f2 ∧ fv ≠ f2 ∧ w.heap.size ≤ f2) := Lib.hid (by
                  have hm := mem_tbl (tb := t1) HFM.out
                  refine ⟨HOPK.out.tr1.ne_top HFM.out, fun e => ?_, fun e => HDVTB.out (by rw [e]; exact hm), fun e => ?_, HNEW2.out f2 (by simp only [OpG.parts, List.flatten_cons, List.mem_append]; exact .inr (.inl hm))⟩
                  · exact HOPK.out.lay.ne (i := 0) (j := 1) (P := [t1 + 1]) (Q := tbl t1 g2) rfl rfl (by decide) (t1 + 1) (by simp) (by rw [e]; exact hm)
                  · have h1 := (HOPK.out.tr1.sub _ HFM.out).lt
                    have h2 := HFVN.out
                    simp only at h1
                    omega)
                have HLT1 : Hid (aget (tval g2) dnm = some (.map (some f2))) := Lib.hid (by rw [aget_tval, HE2.out]; rfl)
                go_wp2
                refine wp_region_held_drew (S := fun w' => Chg [f2] w4 w') (by kernel_rfl) ((Chg.refl _ _).drew) (fun hHeld => ?_)
                refine wpAnyH_take (i := 0) (v := ?_) rfl (by kernel_rfl) (by kernel_rfl) (by kernel_rfl) (fun _ _ _ h => h) (Or.inl ⟨by rfl, ?_⟩) (by assumption) ?_
                rotate_left
                · (intro w' hSw; go_simp; try with_reducible rfl)
                try simp only [Act.put, put8]
                refine wpAnyH_take (i := 1) (v := ?_) rfl (by kernel_rfl) (by kernel_rfl) (by kernel_rfl) (fun _ _ _ h => h) (Or.inl ⟨by rfl, ?_⟩) (by assumption) ?_
                rotate_left
                · (intro w' hSw; go_simp; try with_reducible rfl)
                try simp only [Act.put, put8]
                refine wpAnyH_take (i := 2) (v := ?_) rfl (by kernel_rfl) (by kernel_rfl) (by kernel_rfl) (fun _ _ _ h => h) (Or.inl ⟨by rfl, ?_⟩) (by assumption) ?_
                rotate_left
                · (intro w' hSw; go_simp; try with_reducible rfl)
                try simp only [Act.put, put8]
                refine wpAnyH_take (i := 3) (v := ?_) rfl (by kernel_rfl) (by kernel_rfl) (by kernel_rfl) (fun _ _ _ h => h) (Or.inl ⟨by rfl, ?_⟩) (by assumption) ?_
                rotate_left
                · (intro w' hSw; have y := hSw.cell b0 (by simpa using HFT.out.2.1); go_simp; try with_reducible rfl)
                try simp only [Act.put, put8]
                refine wpAnyH_take (i := 4) (v := ?_) rfl (by kernel_rfl) (by kernel_rfl) (by kernel_rfl) (fun _ _ _ h => h) (Or.inl ⟨by rfl, ?_⟩) (by assumption) ?_
                rotate_left
                · (intro w' hSw; go_simp; try with_reducible rfl)
                try simp only [Act.put, put8]
                refine wpAnyH_take (i := 5) (v := ?_) rfl (by kernel_rfl) (by kernel_rfl) (by kernel_rfl) (fun _ _ _ h => h) (Or.inl ⟨by rfl, ?_⟩) (by assumption) ?_
                rotate_left
                · (intro w' hSw; have y := hSw.cell d0 (by simpa using HFT.out.2.2.1); go_simp; try with_reducible rfl)
                try simp only [Act.put, put8]
                refine wpAnyH_take (i := 6) (v := ?_) rfl (by kernel_rfl) (by kernel_rfl) (by kernel_rfl) (fun _ _ _ h => h) (Or.inl ⟨by rfl, ?_⟩) (by assumption) ?_
                rotate_left
                · (intro w' hSw; have y := (Mp.lookup (HOP4.out.tr1.top.chg hSw (by simpa using HFT.out.1.symm)) (string_key Tryz.underlying9) Tryz.underlying88 (z := .map none) (by kernel_rfl) dnm).1; rw [HLT1.out] at y; simp only [Option.getD_some] at y; go_simp; try with_reducible rfl)
                try simp only [Act.put, put8]
                refine wpAnyH_take (i := 7) (v := ?_) rfl (by kernel_rfl) (by kernel_rfl) (by kernel_rfl) (fun _ _ _ h => h) (Or.inl ⟨by rfl, ?_⟩) (by assumption) ?_
                rotate_left
                · (intro w' hSw; go_simp; try with_reducible rfl)
                try simp only [Act.put, put8]
                refine wpAnyH_take (i := 8) (v := ?_) rfl (by kernel_rfl) (by kernel_rfl) (by kernel_rfl) (fun _ _ _ h => h) (Or.inl ⟨by rfl, ?_⟩) (by assumption) ?_
                rotate_left
                · (intro w' hSw; go_simp; try with_reducible rfl)
                try simp only [Act.put, put8]
                refine wpAnyH_take (i := 9) (v := ?_) rfl (by kernel_rfl) (by kernel_rfl) (by kernel_rfl) (fun _ _ _ h => h) (Or.inl ⟨by rfl, ?_⟩) (by assumption) ?_
                rotate_left
                · (intro w' hSw; have y := hSw.cell v1 (by simpa using HFT.out.2.2.2.1); go_simp; try with_reducible rfl)
                try simp only [Act.put, put8]
                refine wpAnyH_ready (rs := [10]) (by kernel_rfl) (by simp) ?_
                refine AllReadyH.cons rfl (fun K hK => ?_) (AllReadyH.nil)
                go_simp
                refine (new_any x.1.A x.1.n x.1.c x.2 _ HXN.out ((HXD.out.chg HC4.out (fun _ _ => List.not_mem_nil)).chg ((Chg.refl [] _).drew) (fun _ _ => List.not_mem_nil))).mono ?_
                rintro ee w5 ⟨sg0, L0, rfl, hs5, hc5, hL5⟩
                have HC5 : Hid (Chg [] w4 w5) := Lib.hid ((Chg.refl [] w4).drew.trans0 hc5)
                have HS5 := Lib.hid hs5
                have HL5 : Hid (∀ k ∈ L0, w4.heap.size ≤ k) := Lib.hid hL5
                have HBX : Hid (Blk (w5.alloc (.cells #[.pointer (some ⟨sg0, 0, none⟩)] 98)) w5.heap.size 98 #[.pointer (some ⟨sg0, 0, none⟩)]) := Lib.hid (Blk.new w5 _ _)
                obtain ⟨W6, hu, hmp6, hc6⟩ := Mp.update ((HOP4.out.tr1.sub _ HFM.out).chg (HC5.out.trans0 ((Chg.refl [] w5).alloc (.cells #[.pointer (some ⟨sg0, 0, none⟩)] 98))) List.not_mem_nil) (string_key Tryz.underlying9) Tryz.underlying94 x.1.nm (.pointer (some ⟨w5.heap.size, 0, none⟩))
                simp only at hu
                have HM6 := Lib.hid hmp6
                have HC6 : Hid (Chg [f2] (w5.alloc (.cells #[.pointer (some ⟨sg0, 0, none⟩)] 98)) W6) := Lib.hid hc6
                have hH5 := hHeld.trans0 hc5
                have hS6 := HC6.out
                clear hs5 hL5 hmp6 hc6
                refine hK.out _ _ (hH5) (fun hHeld => ?_)
                try simp only [Act.put, put8]
                clear hK K
                refine wpAnyH_take (i := 11) (v := ?_) rfl (by kernel_rfl) (by kernel_rfl) (by kernel_rfl) (fun _ _ _ h => h) (Or.inl ⟨by rfl, ?_⟩) (by assumption) ?_
                rotate_left
                · (intro w' hSw; go_simp; try with_reducible rfl)
                try simp only [Act.put, put8]
                refine wpAnyH_ready (rs := [12]) (by kernel_rfl) (by simp) ?_
                refine AllReadyH.cons rfl (fun K hK => ?_) (AllReadyH.nil)
                go_simp
                refine hK.out _ _ (hHeld.alloc _) (fun hHeld => ?_)
                try simp only [Act.put, put8]
                clear hK K
                refine wpAnyH_ready (rs := [13]) (by kernel_rfl) (by simp) ?_
                refine AllReadyH.cons rfl (fun K hK => ?_) (AllReadyH.nil)
                go_simp
                refine hK.out _ _ (hHeld.trans hS6 (fun x hx => .inl hx)) (fun hHeld => ?_)
                try simp only [Act.put, put8]
                clear hK K
                refine wpAnyH_done (by kernel_rfl) ?_ _
                try simp only [Act.put, put8]
                have HAN : Hid (aget (numF (0 + cnt8 ((dval8 ds).take i)) ((fval8 dfs).take k)) x.1.nm = none) := Lib.hid (aget_none.2 (by rw [numF_fst]; exact file_new HXV.out HPRE2.out HEX.out))
                have HLEN : Hid ((fls ((dval8 ds).take i) ++ ((fval8 dfs).take k).map fun x => ((x.2, []) : Fil)).length = 0 + cnt8 ((dval8 ds).take i) + ((fval8 dfs).take k).length) := Lib.hid (by rw [List.length_append, List.length_map, fls_len]; omega)
                have HF6 := Lib.hid (HOP4.out.file HTD.out HAN.out (fun p hp q hq => by
                  rw [HLEN.out]
                  rcases List.mem_append.1 hp with hp | hp
                  · have := numT_ids p hp q hq; omega
                  · simp only [List.mem_singleton] at hp
                    subst hp
                    exact numF_ids q hq) HE2.out HC5.out HL5.out HS5.out ((Chg.refl [] w5).alloc _) (Nat.le_refl _) HBX.out HC6.out HM6.out)
                have HC46 : Hid (Chg [f2] w4 W6) := Lib.hid (((HC5.out.trans0 ((Chg.refl [] w5).alloc _)).nil [f2]).trans HC6.out (fun x hx => .inl hx))
                have HV6 := Lib.hid ((HVB.out.chg HC4.out List.not_mem_nil).chg HC46.out (by simpa using HFT.out.2.2.1))
                clear hHeld hS6 hc5 hu hH5 b0 d0 v0 v1 z0 z1
                go_wp2
                go_roundw
                case rel =>
                  have hsz : w.heap.size ≤ w4.heap.size := Nat.le_trans HCH2.out.size HC4.out.size
                  have hsz5 := HC5.out.size
                  refine ⟨k + 1, aput g2 dnm (f2, aput fl2 x.1.nm w5.heap.size), ib2 ++ [w5.heap.size], sg2 ++ [sg0], Ls2 ++ [L0], by omega, by go_num, by rw [take_snoc _ _ _ HXV.out, lastN_snoc], filesE_next HXV.out HPRE2.out HEX.out, ?_, HV6.out, ?_, (HCH2.out.trans0 HC4.out).trans HC46.out (fun x hx => by simp only [List.mem_singleton] at hx; subst hx; exact .inr HFT.out.2.2.2.2), ?_⟩
                  rotate_left
                  · intro y hy
                    simp only [OpG.parts, List.flatten_cons, List.flatten_append, List.flatten_nil, List.append_nil, List.mem_append] at hy
                    have hN := HNEW2.out
                    simp only [OpG.parts, List.flatten_cons, List.mem_append] at hN
                    rcases hy with h | h | h | h | h
                    · exact hN y (.inl h)
                    · rcases tbl_aput (B := w.heap.size) HOPK.out.tr1.nodup (.inr HFT.out.2.2.2.2) y h with h | h
                      · exact hN y (.inr (.inl h))
                      · exact h
                    · rcases h with h | h
                      · exact hN y (.inr (.inr (.inl h)))
                      · simp only [List.mem_singleton] at h; omega
                    · exact hN y (.inr (.inr (.inr h)))
                    · have := HL5.out y h; omega
                  · intro hm
                    rcases List.mem_cons.1 hm with h | h
                    · exact HDVT.out.1 h
                    · obtain ⟨p, hp, e⟩ := List.mem_map.1 h
                      rcases (mem_aput HOPK.out.tr1.nodup).1 hp with rfl | ⟨hp, _⟩
                      · exact HFT.out.2.2.1 e.symm
                      · exact HDVTB.out (by rw [← e]; exact mem_tbl hp)
                  · have hf := HF6.out
                    rw [HLEN.out] at hf
                    rw [take_snoc _ _ _ HXV.out, numF_snoc, List.map_append, ← List.append_assoc]
                    exact hf
                case measure => simp [intOf]; omega
              · have hne : (E != 0) = true := by simp [hE0]
                have HFE : Hid (filesE true noS (fval8 dfs) = E) := Lib.hid (by
                  rw [filesE_at HXV.out HPRE2.out]
                  unfold filesE
                  rw [HEX.out, if_pos hE0])
                have HDE : Hid (openE (dval8 ds) quota = E) := Lib.hid (by
                  rw [HE.out, dirsE_at HDV.out HPRE.out]
                  unfold dirsE
                  rw [HEE.out, if_neg (by simp), HFE.out, if_pos hE0])
                have HNE := Lib.hid hE0
                clear hE0
                go_wp2
                go_ret2
                exact .inl ⟨by rw [HDE.out]; exact HNE.out, by rw [HDE.out]; rfl, HCH2.out.trans0 HC4.out⟩
            · obtain rfl : k = dn := by omega
              have HALL : Hid ((fval8 dfs).take k = fval8 dfs) := Lib.hid (List.take_of_length_le (by unfold fval8; rw [List.length_map, HML.out]; exact Nat.le_refl _))
              clear u1
              go_wp2
              go_roundw
              case rel =>
                have hf := HPRE2.out
                rw [HALL.out] at hf
                have ho := HOPK.out
                rw [HALL.out] at ho
                refine ⟨i + 1, g2, ib2, sg2, Ls2, by omega, by go_num, by rw [take_snoc _ _ _ HDV.out, lastN_snoc], dirsE_next HDV.out HPRE.out HEE.out hf, ?_, HNEW2.out, HCH2.out⟩
                rw [take_snoc _ _ _ HDV.out, numT_snoc, fls_snoc]
                exact ho
              case measure => simp [intOf]; omega
        · have hne : (E != 0) = true := by simp [hE0]
          have HDE : Hid (openE (dval8 ds) quota = E) := Lib.hid (by
            rw [HE.out, dirsE_at HDV.out HPRE.out]
            unfold dirsE
            rw [HEE.out, if_pos hE0])
          have HNE := Lib.hid hE0
          clear hE0
          go_wp2
          go_ret2
          exact .inl ⟨by rw [HDE.out]; exact HNE.out, by rw [HDE.out]; rfl, HCH.out.trans0 HC1.out⟩
      · obtain rfl : i = n := by omega
        have hlen : (dval8 ds).length = i := by have := HD.out.row.nsl; simpa [dnsl, dval8] using this
        have HTK : Hid ((dval8 ds).take i = dval8 ds) := Lib.hid (List.take_of_length_le (by omega))
        have HOPE : Hid (openE (dval8 ds) quota = 0) := Lib.hid (by rw [HE.out, ← HTK.out]; exact HPRE.out)
        have b0 := HOP2.out.blk.cell 0
        simp only [List.getElem?_toArray, List.getElem?_cons_zero] at b0
        clear hmm hlen
        go_wp2_with fail
        refine (tclone_any wr t1 g1 HOP2.out.tr1).mono ?_
        rintro e w2 ⟨ob, g', rfl, htr, hnw, hc2, hcp⟩
        have HOP5 := Lib.hid (HOP2.out.keep0 hc2)
        have c1 := HOP5.out.blk.cell 1
        have f1 := HOP5.out.blk.frozen 1
        have HB6 := Lib.hid (HOP5.out.blk.set_ 1 (.map (some ob)))
        simp only [List.getElem?_toArray, List.getElem?_cons_succ, List.getElem?_cons_zero] at c1
        have HTR := Lib.hid htr
        have HNW := Lib.hid hnw
        have HC2 := Lib.hid hc2
        have HCP := Lib.hid hcp
        clear htr hnw hc2 hcp b0
        go_wp2
        go_ret2
        refine .inr ⟨HOPE.out, ⟨t1 + 1, t1, ob, g1, g', none, 0, [], none, 0, ib, ib, sg, Ls⟩, rfl, ?_, ?_, ?_⟩
        · have hch1 : Chg [t1 + 1] w2 (w2.setCell ⟨t1 + 1, 1, none⟩ (.map (some ob))) := (Chg.refl [t1 + 1] w2).setCell (.inl (by simp)) _
          generalize w2.setCell ⟨t1 + 1, 1, none⟩ (.map (some ob)) = W9 at hch1 HB6 ⊢
          have hop := HOP5.out
          rw [HTK.out] at hop
          have hL : ∀ x ∈ [t1 + 1], x ∈ [t1 + 1] := fun x hx => hx
          have hk := fun (i : Nat) (P : List Nat) (hi : (OpG.mk (t1 + 1) t1 g1 ib sg Ls).parts[i]? = some P) (hn : i ≠ 0) => hop.lay.others2 (j := 0) rfl hL hi hn
          have hobn : ∀ x ∈ tbl ob g', x ∉ [t1 + 1] := fun x hx hm => by
            simp only [List.mem_singleton] at hm
            subst hm
            have h1 := HNW.out _ hx
            have h2 := HOP2.out.blk.lt
            simp only at h2
            omega
          refine ⟨by simpa [openS] using HB6.out, hop.tr1.keep hch1 (hk 1 _ rfl (by decide)), hop.is1, HTR.out.keep hch1 hobn, hop.is1.copied HCP.out, Own.nil _ _ _, fun i c v e1 => by simp [openS] at e1, Own.nil _ _ _, hop.ibl, hop.sgl, hop.lsl, hop.ibn, fun _ h => h, fun i x g L f e1 e2 e3 e4 => (hop.ino i x g L f e1 e2 e3 e4).keep hch1 (hk 2 _ rfl (by decide) x (List.mem_of_getElem? e1)) (hk (i + 3) L (by simpa [OpG.parts] using e3) (by omega)), ?_⟩
          have l1 : Lay W9 (([t1 + 1] :: tbl t1 g1 :: []) ++ tbl ob g' :: (ib :: Ls)) := Lay.ins (w := wr) (Ps := [t1 + 1] :: tbl t1 g1 :: []) (Qs := ib :: Ls) HOP2.out.lay (fun x hx => HNW.out x hx) (fun x hx => Nat.lt_of_lt_of_le (HTR.out.lt x hx) hch1.size) (Nat.le_trans HC2.out.size hch1.size)
          have l2 : Lay W9 (([t1 + 1] :: tbl t1 g1 :: tbl ob g' :: []) ++ [] :: (ib :: Ls)) := Lay.ins (w := W9) (Ps := [t1 + 1] :: tbl t1 g1 :: tbl ob g' :: []) (Qs := ib :: Ls) l1 (by simp) (by simp) (Nat.le_refl _)
          exact Lay.ins (w := W9) (P := []) (Ps := [t1 + 1] :: tbl t1 g1 :: tbl ob g' :: [] :: []) (Qs := ib :: Ls) l2 (by simp) (by simp) (Nat.le_refl _)
        · intro x hx
          have hN := HNEW.out
          simp only [OpG.parts, List.flatten_cons, List.mem_append] at hN
          simp only [FsG.all, FsG.parts, List.flatten_cons, List.mem_append, bo_none, List.not_mem_nil, false_or] at hx
          rcases hx with h | h | h | h | h
          · exact hN x (.inl h)
          · exact hN x (.inr (.inl h))
          · exact Nat.le_trans HCH.out.size (HNW.out x h)
          · exact hN x (.inr (.inr (.inl h)))
          · exact hN x (.inr (.inr (.inr h)))
        · exact (HCH.out.trans0 HC2.out).setCell (.inr (by have := HT1.out; simp only; omega)) _
end Go.Proofs.YtgomofeidghmiaaGreat
