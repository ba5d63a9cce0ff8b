/-
  Layer 08: the walk of VfsOpens.
-/
import Derived.Test.YtgomofeidghmiaaVfRv
namespace Go.Proofs.Ytgomofeidghmiaa
open Go.RowKit

theorem flat_ne {α : Type} (g : α → List Nat) {l : List α} (h : (l.flatMap g).Nodup) {a b : Nat} {x y : α} (ha : l[a]? = some x) (hb : l[b]? = some y) (hab : a ≠ b) : ∀ k ∈ g x, k ∉ g y := by
  induction l generalizing a b with
  | nil => simp at ha
  | cons z r ih =>
    rw [List.flatMap_cons] at h
    obtain ⟨h1, h2, h3⟩ := List.nodup_append.1 h
    intro k hk hy
    cases a with
    | zero =>
      simp at ha
      subst ha
      cases b with
      | zero => exact hab rfl
      | succ b => exact h3 k hk k (List.mem_flatMap.2 ⟨y, List.mem_of_getElem? (by simpa using hb), hy⟩) rfl
    | succ a =>
      cases b with
      | zero =>
        simp at hb
        subst hb
        exact h3 k hy k (List.mem_flatMap.2 ⟨x, List.mem_of_getElem? (by simpa using ha), hk⟩) rfl
      | succ b => exact ih h2 (by simpa using ha) (by simpa using hb) (by omega) k hk hy
/-- the slice of the i-th may be stored -/
theorem Own.ns1 {w : World} {e : TypeId} {ad : Addr} {n c : Nat} {xs : List Nsl} (h : Own w e 2 (some ad) n c (nsv xs)) {i : Nat} {x : Nsl} (hx : xs[i]? = some x) :
    NsAt w (ad.add (i * 2)) x ∧ w.frozen? ⟨(ad.add (i * 2)).block, (ad.add (i * 2)).off + 1, none⟩ = false ∧
      ∀ B m d, Own (w.setCell ⟨(ad.add (i * 2)).block, (ad.add (i * 2)).off + 1, none⟩ (.slice B m d)) e 2 (some ad) n c (nsv (xs.set i ⟨x.nm, B, m, d⟩)) := by
  obtain ⟨ad', he, hat⟩ := h.rd.ns hx
  injection he with he
  subst he
  rcases h.form with ⟨h1, _⟩ | ⟨g, cur, hA, hb, hn, hm, hs, ht⟩
  · cases h1
  · injection hA with hA
    subst hA
    rw [add_zero'] at hat ⊢
    simp only
    refine ⟨hat, hb.frozen _, fun B m d => ⟨?_, .inr ⟨g, c, _, rfl, Nat.zero_le _, hb.set_ _ _, hn, hm, by rw [Array.size_setIfInBounds]; exact hs, ?_⟩⟩⟩
    · rw [nsv_length, List.length_set, ← nsv_length]; exact h.1
    · rw [Array.toList_setIfInBounds, List.take_set, ht, Nat.zero_add]
      exact nsv_set xs i 1 (by decide) x ⟨x.nm, B, m, d⟩ _ hx rfl
theorem DirsO.files_ne {w : World} {A : Option Addr} {n c : Nat} {ds : List DM} (h : DirsO w A n c ds) {a b : Nat} {x y : DM} (ha : ds[a]? = some x) (hb : ds[b]? = some y) (hab : a ≠ b) : ∀ k ∈ bo x.1.A ++ fblk x.2, k ∉ bo y.1.A ++ fblk y.2 :=
  flat_ne (fun d : DM => bo d.1.A ++ fblk d.2) h.sep ha hb hab
theorem FilesO.dat_ne {w : World} {A : Option Addr} {n c : Nat} {fs : List FM} (h : FilesO w A n c fs) {a b : Nat} {x y : FM} (ha : fs[a]? = some x) (hb : fs[b]? = some y) (hab : a ≠ b) : ∀ k ∈ bo x.1.A, k ∉ bo y.1.A :=
  flat_ne (fun f : FM => bo f.1.A) h.sep ha hb hab
theorem mem_fblk {fs : List FM} {a : Nat} {x : FM} (h : fs[a]? = some x) : ∀ k ∈ bo x.1.A, k ∈ fblk fs := fun k hk => List.mem_flatMap.2 ⟨x, List.mem_of_getElem? h, hk⟩
theorem mem_dblk {ds : List DM} {a : Nat} {x : DM} (h : ds[a]? = some x) : ∀ k ∈ bo x.1.A ++ fblk x.2, k ∈ dblk ds := fun k hk => List.mem_flatMap.2 ⟨x, List.mem_of_getElem? h, hk⟩
theorem FilesO.row_ne {w : World} {A : Option Addr} {n c : Nat} {fs : List FM} (h : FilesO w A n c fs) : ∀ k ∈ bo A, k ∉ fblk fs := fun k hk hm => by
  obtain ⟨f, hf, hk2⟩ := List.mem_flatMap.1 hm
  exact (h.dat f hf).own_ne h.row (by decide) k hk2 hk

set_option maxRecDepth 100000 in
set_option maxHeartbeats 12800000 in
theorem lvopens_any (A : Option Addr) (n c : Nat) (ds : List DM) (quota stop : Int) (w : World)
    (hd : DirsR w A n c ds) (hq : quota ≤ 9223372036854775807) (hB : bulk8 (dval8 ds) ≤ 1073741824) :
    Calls Try.prog 5 #[.agg #[.slice A n c, .int .i64 quota, .int .i64 stop]] w fun e w' => e = .returned (.bool true) ∧ Chg [] w w' := by
  have HD := Lib.hid hd
  have HB := Lib.hid hB
  have HBN := Lib.hid (bulk8_bnd hd hB)
  have hn : n ≤ 1073741824 := HBN.out.1
  clear hd hB
  obtain ⟨E, hE⟩ : ∃ E, openE (dval8 ds) quota = E := ⟨_, rfl⟩
  have HE := Lib.hid hE
  clear hE
  go_enter Try.func5, Try.ntmps5
  obtain ⟨sb, hsb⟩ : ∃ sb, w.heap.size = sb := ⟨_, rfl⟩
  obtain ⟨W, hW⟩ : ∃ W, w.alloc (.cells #[.slice A n c, .int .i64 quota, .int .i64 stop] 26) = W := ⟨_, rfl⟩
  have hbk : Blk W sb 26 #[.slice A n c, .int .i64 quota, .int .i64 stop] := by rw [← hW, ← hsb]; exact Blk.new w _ _
  have hcW : Chg [] w W := by rw [← hW]; exact (Chg.refl [] w).alloc _
  have HBK := Lib.hid hbk
  have HCW := Lib.hid hcW
  have HSB : Hid (sb < W.heap.size) := Lib.hid hbk.lt
  clear hbk hcW
  go_wp2_with fail
  refine (speaks_any _).mono ?_
  rintro e w1 ⟨rfl, hc1⟩
  have HC1 := Lib.hid hc1
  have b0 := (HBK.out.chg hc1 List.not_mem_nil).cell 0
  simp only [List.getElem?_toArray, List.getElem?_cons_succ, List.getElem?_cons_zero] at b0
  clear hc1
  go_wp2_with fail
  refine (rcopy8_any A n c ds w1 (HD.out.chg0 (HCW.out.trans0 HC1.out)) hn HBN.out.2.2.2).mono ?_
  rintro e w2 ⟨A2, n2, c2, ds2, rfl, hdo, hdv, hc2, hn2⟩
  have HDO := Lib.hid hdo
  have HDV := Lib.hid hdv
  have HC2 : Hid (Chg [] W w2) := Lib.hid (HC1.out.trans0 hc2)
  have HN2 : Hid (∀ k ∈ bo A2 ++ dblk ds2, W.heap.size ≤ k) := Lib.hid (fun k hk => Nat.le_trans HC1.out.size (hn2 k hk))
  have HB2 := Lib.hid (bulk8_bnd hdo.rd (B := 1073741824) (by rw [hdv]; exact HB.out))
  have hn2' : n2 ≤ 1073741824 := HB2.out.1
  clear hdo hdv hc2 hn2
  have b1 := (HBK.out.chg HC2.out List.not_mem_nil).cell 1
  have b2 := (HBK.out.chg HC2.out List.not_mem_nil).cell 2
  simp only [List.getElem?_toArray, List.getElem?_cons_succ, List.getElem?_cons_zero] at b1 b2
  clear b0
  go_wp2_with fail
  refine (open_st w2 A2 n2 c2 ds2 quota stop HDO.out.rd hn2' (by rw [HDV.out]; exact HB.out)).mono ?_
  rintro e w3 hop
  rw [HDV.out] at hop
  obtain ⟨vp, rfl, hc3, hvp⟩ := hop.one
  rw [HE.out] at hvp ⊢
  have HVP := Lib.hid hvp
  have HC23 := Lib.hid hc3
  have HC3 : Hid (Chg [] W w3) := Lib.hid (HC2.out.trans0 hc3)
  clear hop hvp hc3 b1 b2
  have b0 := (HBK.out.chg HC3.out List.not_mem_nil).cell 0
  have b1 := (HBK.out.chg HC3.out List.not_mem_nil).cell 1
  have b2 := (HBK.out.chg HC3.out List.not_mem_nil).cell 2
  simp only [List.getElem?_toArray, List.getElem?_cons_succ, List.getElem?_cons_zero] at b0 b1 b2
  go_wp2_with fail
  refine (ropen_any w3 A n c ds quota stop (HD.out.chg0 (HCW.out.trans0 HC3.out)) hn HB.out).mono ?_
  rintro e w4 hro
  obtain ⟨rp, rfl, hc4, hrp⟩ := hro.one
  rw [HE.out] at hrp ⊢
  have HRP := Lib.hid hrp
  have HC34 := Lib.hid hc4
  have HC4 : Hid (Chg [] W w4) := Lib.hid (HC3.out.trans0 hc4)
  clear hro hrp hc4 b0 b1 b2
  have b0 := (HBK.out.chg HC4.out List.not_mem_nil).cell 0
  simp only [List.getElem?_toArray, List.getElem?_cons_succ, List.getElem?_cons_zero] at b0
  rcases HVP.out with ⟨hne, rfl⟩ | ⟨he, G, rfl, hfs, hnew⟩
  · rcases HRP.out with ⟨_, rfl⟩ | ⟨h, _⟩
    · clear hne
      go_wp2_with fail
      refine (same8_any _ _ _ ds2 _ _ _ ds w4 (HDO.out.rd.chg0 (HC23.out.trans0 HC34.out)) (HD.out.chg0 (HCW.out.trans0 HC4.out)) HB2.out.1 (fun x hx => (HB2.out.2.2.2 x hx).1)).mono ?_
      rintro e w5 ⟨bb, rfl, hbb, hc5⟩
      rw [hbb (HDV.out)]
      have HC5 := Lib.hid hc5
      clear hbb hc5 b0
      go_wp2
      go_ret
      exact ⟨rfl, (HCW.out.trans0 HC4.out).trans0 HC5.out⟩
    · exact absurd h hne
  · rcases HRP.out with ⟨h, _⟩ | ⟨_, R, rfl, hrf, hnew2⟩
    · exact absurd he h
    · have HFS := Lib.hid (hfs.keep0 HC34.out)
      have HRF := Lib.hid hrf
      have HNG := Lib.hid hnew
      have HNR := Lib.hid hnew2
      obtain ⟨S, hS⟩ : ∃ S, openS (dval8 ds) quota stop = S := ⟨_, rfl⟩
      have HI : Hid (Inv (bulk8 (dval8 ds)) S) := Lib.hid (by rw [← hS]; exact inv_open (by rw [HE.out]; exact he) hq)
      have HST : Hid ((S.steps : Int) = 0) := Lib.hid (by rw [← hS]; rfl)
      rw [hS] at HFS HRF
      have HS0 := Lib.hid hS
      obtain ⟨us, hus⟩ : ∃ us : Nat, S.used = us := ⟨_, rfl⟩
      obtain ⟨dw, hdw⟩ : ∃ dw, S.down = dw := ⟨_, rfl⟩
      have HU := Lib.hid hus
      have HDN := Lib.hid hdw
      have HBS : Hid (bulk8 (dval8 ds) ≤ 1073741824) := Lib.hid HB.out
      clear he hfs hrf hnew hnew2 hS hus hdw
      go_wp2_with fail
      refine (same8_any _ _ _ ds2 _ _ _ ds w4 (HDO.out.rd.chg0 (HC23.out.trans0 HC34.out)) (HD.out.chg0 (HCW.out.trans0 HC4.out)) HB2.out.1 (fun x hx => (HB2.out.2.2.2 x hx).1)).mono ?_
      rintro e w5 ⟨bb, rfl, hbb, hc5⟩
      rw [hbb (HDV.out)]
      have HC25 : Hid (Chg [] w2 w5) := Lib.hid ((HC23.out.trans0 HC34.out).trans0 hc5)
      have HC5 : Hid (Chg [] W w5) := Lib.hid (HC4.out.trans0 hc5)
      have HFS5 := Lib.hid (HFS.out.keep0 hc5)
      have HRF5 := Lib.hid (HRF.out.keep0 hc5)
      have HDO5 := Lib.hid (HDO.out.chg HC25.out (fun _ _ => List.not_mem_nil))
      have HL3 : Hid (∀ k ∈ bo A2 ++ dblk ds2, k < w2.heap.size) := Lib.hid HDO.out.lt
      have HLN : Hid (ds2.length = n2) := Lib.hid (by have := HDO.out.rd.row.nsl; simpa [dnsl] using this)
      clear hbb hc5 b0
      go_wp2
      go_loopw [56] (fun z wr => ∃ (i : Nat) (xs : List Nsl), i ≤ n2 ∧ z = .int .i64 i ∧ Own wr 38 2 A2 n2 c2 (nsv xs) ∧ (∀ k, i ≤ k → xs[k]? = (dnsl ds2)[k]?) ∧ (∀ k d, i ≤ k → ds2[k]? = some d → FilesO wr d.1.A d.1.n d.1.c d.2) ∧ Chg (bo A2 ++ dblk ds2) w5 wr) (fun z _ => n2 - (intOf z).toNat)
      case atStart => exact ⟨0, dnsl ds2, Nat.zero_le _, rfl, HDO5.out.row, fun _ _ => rfl, fun k d _ hd => HDO5.out.fil d (List.mem_of_getElem? hd), Chg.refl _ _⟩
      case round =>
        obtain ⟨i, xs, hi, rfl, hown, hxs, hfl, hch⟩ := hrel
        obtain ⟨wo, hwo⟩ : ∃ wo : World, wo = wr := ⟨_, rfl⟩
        subst hwo
        have HOWN := Lib.hid hown
        have HXS := Lib.hid hxs
        have HFL := Lib.hid hfl
        have HCH := Lib.hid hch
        clear hown hxs hfl hch
        by_cases hlt : i < n2
        · have hlt' : (i : Int) < n2 := by omega
          obtain ⟨d, hd⟩ : ∃ d, ds2[i]? = some d := ⟨_, List.getElem?_eq_getElem (by have := HLN.out; omega)⟩
          obtain ⟨⟨dnm, dA, dn, dc⟩, dfs⟩ := d
          have hx : xs[i]? = some ⟨dnm, dA, dn, dc⟩ := by rw [HXS.out i (Nat.le_refl _)]; unfold dnsl; rw [List.getElem?_map, hd]; rfl
          obtain ⟨ad, rfl, _⟩ := HOWN.out.rd.ns hx
          have HX := Lib.hid hx
          have HDD := Lib.hid hd
          have HFO : Hid (FilesO wo dA dn dc dfs) := Lib.hid (HFL.out i _ (Nat.le_refl _) hd)
          have HNX : Hid ((ad.add (i * 2)).block ∉ fblk dfs) := Lib.hid (fun hm => by
            rw [add_block] at hm
            exact HDO5.out.ne_row ad.block (mem_dblk hd _ (List.mem_append_right _ hm)) (by simp))
          have hdn : dn ≤ 1073741824 := (HB2.out.2.2.2 _ (List.mem_of_getElem? hd)).1
          have HDL : Hid (dfs.length = dn) := Lib.hid (by have := HFO.out.rd.row.nsl; simpa [fnsl] using this)
          have HFN : Hid (∀ f ∈ dfs, f.1.n ≤ 1073741824) := Lib.hid (HB2.out.2.2.2 _ (List.mem_of_getElem? hd)).2
          have x1 := (HOWN.out.ns1 hx).1.c1
          clear hx hd
          go_wp2
          go_loopw [65] (fun z wj => ∃ k : Nat, k ≤ dn ∧ z = .int .i64 k ∧ Chg (fblk dfs) wo wj ∧ ∀ m f, k ≤ m → dfs[m]? = some f → Own wj 5 1 f.1.A f.1.n f.1.c (bv f.2)) (fun z _ => dn - (intOf z).toNat)
          case atStart => exact ⟨0, Nat.zero_le _, rfl, Chg.refl _ _, fun m f _ hf => HFO.out.dat f (List.mem_of_getElem? hf)⟩
          case round =>
            obtain ⟨k, hk, rfl, hck, hdat⟩ := hrel
            obtain ⟨wk, hwk⟩ : ∃ wk : World, wk = wr := ⟨_, rfl⟩
            subst hwk
            have HCK := Lib.hid hck
            have HDAT := Lib.hid hdat
            have x1k := HCK.out.cell x1 HNX.out
            clear hck hdat
            by_cases hkl : k < dn
            · have hkl' : (k : Int) < dn := by omega
              obtain ⟨f, hf⟩ : ∃ f, dfs[k]? = some f := ⟨_, List.getElem?_eq_getElem (by have := HDL.out; omega)⟩
              obtain ⟨⟨fnm, fA, fn, fc⟩, zs⟩ := f
              have HFF := Lib.hid hf
              have hrow := HFO.out.row.chg HCK.out HFO.out.row_ne
              obtain ⟨bd, hbd, hatf⟩ := hrow.rd.ns (j := k) (x := ⟨fnm, fA, fn, fc⟩) (by unfold fnsl; rw [List.getElem?_map, hf]; rfl)
              have HNF : Hid ((ad.add (i * 2)).block ∉ bo fA ∧ (bd.add (k * 2)).block ∉ bo fA) := Lib.hid ⟨fun hm => HNX.out (mem_fblk hf _ hm), fun hm => by
                rw [add_block] at hm
                exact HFO.out.row_ne bd.block (by rw [hbd]; simp) (mem_fblk hf _ hm)⟩
              have HBD := Lib.hid hbd
              subst hbd
              have f1 := hatf.c1
              have hfn : fn ≤ 1073741824 := HFN.out _ (List.mem_of_getElem? hf)
              have HO0 := Lib.hid (HDAT.out k _ (Nat.le_refl _) hf)
              clear hf hrow hatf x1
              go_wp2
              go_loopw [78] (fun z wi => ∃ (j : Nat) (ys : List Value), j ≤ fn ∧ z = .int .i64 j ∧ Own wi 5 1 fA fn fc ys ∧ Chg (bo fA) wk wi) (fun z _ => fn - (intOf z).toNat)
              case atStart => exact ⟨0, _, Nat.zero_le _, rfl, HO0.out, Chg.refl _ _⟩
              case round =>
                obtain ⟨j, ys, hj, rfl, hoj, hcj⟩ := hrel
                have HCJ := Lib.hid hcj
                have y1 := HCJ.out.cell x1k HNF.out.1
                have g1 := HCJ.out.cell f1 HNF.out.2
                clear hcj
                by_cases hjl : j < fn
                · have hjl' : (j : Int) < fn := by omega
                  obtain ⟨cd, u, hcd, hxj, hcx, hfz, hset⟩ := hoj.at1 hjl
                  have HCD := Lib.hid hcd
                  have HSET := Lib.hid hset
                  subst hcd
                  clear hxj hset hoj x1k f1
                  go_wp2
                  go_roundw
                  case rel => exact ⟨j + 1, _, by omega, by go_num, HSET.out _, HCJ.out.setCell (.inl (by rw [add_block]; simp)) _⟩
                  case measure => simp [intOf]; omega
                · obtain rfl : j = fn := by omega
                  clear hoj x1k f1
                  go_wp2
                  go_roundw
                  case rel =>
                    refine ⟨k + 1, by omega, by go_num, HCK.out.trans HCJ.out (fun x hx => .inl (mem_fblk HFF.out x hx)), fun m f hm hf => ?_⟩
                    exact (HDAT.out m f (by omega) hf).chg HCJ.out (fun x hx hxm => HFO.out.dat_ne hf HFF.out (by omega) x hx hxm)
                  case measure => simp [intOf]; omega
            · obtain rfl : k = dn := by omega
              have hrw := (HOWN.out.chg HCK.out (fun x hx hm => HNX.out (by rw [add_block]; simp only [bo_some, List.mem_singleton] at hx; rw [← hx]; exact hm))).ns1 HX.out
              have hz := hrw.2.1
              have HRW := Lib.hid hrw.2.2
              clear hrw x1
              go_wp2
              go_roundw
              case rel =>
                have hcs : Chg (bo (some ad)) wk (wk.setCell ⟨(ad.add (i * 2)).block, (ad.add (i * 2)).off + 1, none⟩ (.slice none 0 0)) := (Chg.refl _ _).setCell (.inl (by simp [add_block])) _
                refine ⟨i + 1, xs.set i ⟨dnm, none, 0, 0⟩, by omega, by go_num, HRW.out none 0 0, fun m hm => ?_, fun m d hm hd => ?_, ?_⟩
                · rw [List.getElem?_set_ne (by omega)]; exact HXS.out m (by omega)
                · refine ((HFL.out m d (by omega) hd).chg HCK.out (fun x hx hxm => ?_)).chg hcs (fun x hx hxm => ?_)
                  · exact HDO5.out.files_ne hd HDD.out (by omega) x hx (List.mem_append_right _ hxm)
                  · exact HDO5.out.ne_row x (mem_dblk hd x hx) hxm
                · exact (HCH.out.trans HCK.out (fun x hx => .inl (List.mem_append_right _ (mem_dblk HDD.out x (List.mem_append_right _ hx))))).trans hcs (fun x hx => .inl (List.mem_append_left _ hx))
              case measure => simp [intOf]; omega
        · obtain rfl : i = n2 := by omega
          obtain ⟨w6, hw6⟩ : ∃ w6 : World, w6 = wo := ⟨_, rfl⟩
          subst hw6
          have HFS6 := Lib.hid (HFS5.out.keep HCH.out (fun x hx hm => by have h1 := HNG.out x hx; have h2 := HL3.out x hm; omega))
          have HRF6 := Lib.hid (HRF5.out.keep HCH.out (fun x hx hm => by have h1 := HNR.out x hx; have h2 := HL3.out x hm; have h3 := HC23.out.size; omega))
          have HC6 : Hid (Chg [] W w6) := Lib.hid (HC5.out.trans HCH.out (fun x hx => .inr (HN2.out x hx)))
          have HD6 := Lib.hid (HD.out.chg0 (HCW.out.trans0 HC6.out))
          have b0 := (HBK.out.chg HC6.out List.not_mem_nil).cell 0
          simp only [List.getElem?_toArray, List.getElem?_cons_succ, List.getElem?_cons_zero] at b0
          go_wp2_with fail
          refine wp_region_held_drew (S := fun w' => Chg [] w6 w') (by kernel_rfl) ((Chg.refl _ _).drew) (fun hHeld => ?_)
          refine wpAnyH_take (i := 0) (v := ?_) rfl (by kernel_rfl) (by kernel_rfl) (by kernel_rfl) (fun _ _ _ h => h) (Or.inl ⟨by rfl, ?_⟩) (by assumption) ?_
          rotate_left
          · (intro w' hSw; go_simp; try with_reducible rfl)
          try simp only [Act.put, List.getElem_toArray, List.getElem_cons_zero, List.setIfInBounds_toArray, List.set_cons_zero, List.set_cons_succ]
          refine wpAnyH_take (i := 2) (v := ?_) rfl (by kernel_rfl) (by kernel_rfl) (by kernel_rfl) (fun _ _ _ h => h) (Or.inl ⟨by rfl, ?_⟩) (by assumption) ?_
          rotate_left
          · (intro w' hSw; go_simp; try with_reducible rfl)
          try simp only [Act.put, List.getElem_toArray, List.getElem_cons_zero, List.getElem_cons_succ, List.setIfInBounds_toArray, List.set_cons_zero, List.set_cons_succ]
          refine wpAnyH_ready (rs := [1]) (by kernel_rfl) (by simp) ?_
          refine AllReadyH.cons rfl (fun K hK => ?_) (AllReadyH.nil)
          go_simp
          refine (view_st (HFS6.out.keep0 hHeld) HI.out HBS.out).mono ?_
          rintro ee wa ⟨Aa, na, ca, dsa, rfl, hds, hdv, hc, hn⟩
          have HDSa := Lib.hid hds.rd
          have HDVa := Lib.hid hdv
          have HBNa := Lib.hid (hds.rd.bnd (B := 1073741824) (by rw [hdv]; exact Nat.le_trans (siz_view HI.out) HBS.out))
          have hHa := hHeld.trans0 hc
          have HCCa := Lib.hid hc
          clear hds hdv hc hn
          refine hK.out _ _ (hHa) (fun hHeld => ?_)
          try simp only [Act.put, List.getElem_toArray, List.getElem_cons_zero, List.getElem_cons_succ, List.setIfInBounds_toArray, List.set_cons_zero, List.set_cons_succ]
          clear hK K
          refine wpAnyH_ready (rs := [3]) (by kernel_rfl) (by simp) ?_
          refine AllReadyH.cons rfl (fun K hK => ?_) (AllReadyH.nil)
          go_simp
          refine (rview_any (HRF6.out.keep0 hHa) HI.out HBS.out).mono ?_
          rintro ee wb ⟨Ab, nb, cb, dsb, rfl, hds, hdv, hc, hn⟩
          have HDSb := Lib.hid hds.rd
          have HDVb := Lib.hid hdv
          have HBNb := Lib.hid (hds.rd.bnd (B := 1073741824) (by rw [hdv]; exact Nat.le_trans (siz_view HI.out) HBS.out))
          have hHb := hHa.trans0 hc
          have HCCb := Lib.hid hc
          clear hds hdv hc hn
          refine hK.out _ _ (hHb) (fun hHeld => ?_)
          try simp only [Act.put, List.getElem_toArray, List.getElem_cons_zero, List.getElem_cons_succ, List.setIfInBounds_toArray, List.set_cons_zero, List.set_cons_succ]
          clear hK K
          refine wpAnyH_ready (rs := [4]) (by kernel_rfl) (by simp) ?_
          refine AllReadyH.cons rfl (fun K hK => ?_) (AllReadyH.nil)
          go_simp
          refine (same8_any _ _ _ dsa _ _ _ dsb _ (HDSa.out.chg0 HCCb.out) (HDSb.out) HBNa.out.1 HBNa.out.2).mono ?_
          rintro ee wc ⟨bb, rfl, hbb, hc⟩
          rw [hbb (by rw [HDVa.out, HDVb.out])]
          have hHc := hHb.trans0 hc
          clear hc hbb
          refine hK.out _ _ (hHc) (fun hHeld => ?_)
          try simp only [Act.put, List.getElem_toArray, List.getElem_cons_zero, List.getElem_cons_succ, List.setIfInBounds_toArray, List.set_cons_zero, List.set_cons_succ]
          clear hK K
          refine wpAnyH_take (i := 5) (v := ?_) rfl (by kernel_rfl) (by kernel_rfl) (by kernel_rfl) (fun _ _ _ h => h) (Or.inl ⟨by rfl, ?_⟩) (by assumption) ?_
          rotate_left
          · (intro w' hSw; go_simp; try with_reducible rfl)
          try simp only [Act.put, List.getElem_toArray, List.getElem_cons_zero, List.getElem_cons_succ, List.setIfInBounds_toArray, List.set_cons_zero, List.set_cons_succ]
          refine wpAnyH_take (i := 6) (v := ?_) rfl (by kernel_rfl) (by kernel_rfl) (by kernel_rfl) (fun _ _ _ h => h) (Or.inl ⟨by rfl, ?_⟩) (by assumption) ?_
          rotate_left
          · (intro w' hSw; go_simp; try with_reducible rfl)
          try simp only [Act.put, List.getElem_toArray, List.getElem_cons_zero, List.getElem_cons_succ, List.setIfInBounds_toArray, List.set_cons_zero, List.set_cons_succ]
          refine wpAnyH_take (i := 7) (v := ?_) rfl (by kernel_rfl) (by kernel_rfl) (by kernel_rfl) (fun _ _ _ h => h) (Or.inl ⟨by rfl, ?_⟩) (by assumption) ?_
          rotate_left
          · (intro w' hSw; go_simp; try with_reducible rfl)
          try simp only [Act.put, List.getElem_toArray, List.getElem_cons_zero, List.getElem_cons_succ, List.setIfInBounds_toArray, List.set_cons_zero, List.set_cons_succ]
          refine wpAnyH_take (i := 9) (v := ?_) rfl (by kernel_rfl) (by kernel_rfl) (by kernel_rfl) (fun _ _ _ h => h) (Or.inl ⟨by rfl, ?_⟩) (by assumption) ?_
          rotate_left
          · (intro w' hSw; go_simp; try with_reducible rfl)
          try simp only [Act.put, List.getElem_toArray, List.getElem_cons_zero, List.getElem_cons_succ, List.setIfInBounds_toArray, List.set_cons_zero, List.set_cons_succ]
          refine wpAnyH_take (i := 10) (v := ?_) rfl (by kernel_rfl) (by kernel_rfl) (by kernel_rfl) (fun _ _ _ h => h) (Or.inl ⟨by rfl, ?_⟩) (by assumption) ?_
          rotate_left
          · (intro w' hSw; have y := hSw.cell b0 List.not_mem_nil; go_simp; try with_reducible rfl)
          try simp only [Act.put, List.getElem_toArray, List.getElem_cons_zero, List.getElem_cons_succ, List.setIfInBounds_toArray, List.set_cons_zero, List.set_cons_succ]
          refine wpAnyH_ready (rs := [8]) (by kernel_rfl) (by simp) ?_
          refine AllReadyH.cons rfl (fun K hK => ?_) (AllReadyH.nil)
          go_simp
          refine (durable_st (HFS6.out.keep0 hHc) HI.out HBS.out none 0 0 [] 0 (Rd.nil _ _) (by decide)).mono ?_
          rintro ee wd ⟨Ad, nd, cd, dsd, rfl, hds, hdv, hc, hn⟩
          have HDSd := Lib.hid hds.rd
          have HDVd := Lib.hid hdv
          have HBNd := Lib.hid (hds.rd.bnd (B := 1073741824) (by rw [hdv]; exact Nat.le_trans (siz_left HI.out [] 0) HBS.out))
          have hHd := hHc.trans0 hc
          have HCCd := Lib.hid hc
          clear hds hdv hc hn
          refine hK.out _ _ (hHd) (fun hHeld => ?_)
          try simp only [Act.put, List.getElem_toArray, List.getElem_cons_zero, List.getElem_cons_succ, List.setIfInBounds_toArray, List.set_cons_zero, List.set_cons_succ]
          clear hK K
          refine wpAnyH_ready (rs := [11]) (by kernel_rfl) (by simp) ?_
          refine AllReadyH.cons rfl (fun K hK => ?_) (AllReadyH.nil)
          go_simp
          refine (same8_any _ _ _ dsd _ _ _ ds _ (HDSd.out) (HD6.out.chg0 hHd) HBNd.out.1 HBNd.out.2).mono ?_
          rintro ee we ⟨bb, rfl, hbb, hc⟩
          rw [hbb (by rw [HDVd.out, ← HS0.out]; exact open_left _ _ _ _ _)]
          have hHe := hHd.trans0 hc
          clear hc hbb
          refine hK.out _ _ (hHe) (fun hHeld => ?_)
          try simp only [Act.put, List.getElem_toArray, List.getElem_cons_zero, List.getElem_cons_succ, List.setIfInBounds_toArray, List.set_cons_zero, List.set_cons_succ]
          clear hK K
          refine wpAnyH_take (i := 12) (v := ?_) rfl (by kernel_rfl) (by kernel_rfl) (by kernel_rfl) (fun _ _ _ h => h) (Or.inl ⟨by rfl, ?_⟩) (by assumption) ?_
          rotate_left
          · (intro w' hSw; go_simp; try with_reducible rfl)
          try simp only [Act.put, List.getElem_toArray, List.getElem_cons_zero, List.getElem_cons_succ, List.setIfInBounds_toArray, List.set_cons_zero, List.set_cons_succ]
          refine wpAnyH_take (i := 13) (v := ?_) rfl (by kernel_rfl) (by kernel_rfl) (by kernel_rfl) (fun _ _ _ h => h) (Or.inl ⟨by rfl, ?_⟩) (by assumption) ?_
          rotate_left
          · (intro w' hSw; go_simp; try with_reducible rfl)
          try simp only [Act.put, List.getElem_toArray, List.getElem_cons_zero, List.getElem_cons_succ, List.setIfInBounds_toArray, List.set_cons_zero, List.set_cons_succ]
          refine wpAnyH_take (i := 14) (v := ?_) rfl (by kernel_rfl) (by kernel_rfl) (by kernel_rfl) (fun _ _ _ h => h) (Or.inl ⟨by rfl, ?_⟩) (by assumption) ?_
          rotate_left
          · (intro w' hSw; go_simp; try with_reducible rfl)
          try simp only [Act.put, List.getElem_toArray, List.getElem_cons_zero, List.getElem_cons_succ, List.setIfInBounds_toArray, List.set_cons_zero, List.set_cons_succ]
          refine wpAnyH_take (i := 16) (v := ?_) rfl (by kernel_rfl) (by kernel_rfl) (by kernel_rfl) (fun _ _ _ h => h) (Or.inl ⟨by rfl, ?_⟩) (by assumption) ?_
          rotate_left
          · (intro w' hSw; go_simp; try with_reducible rfl)
          try simp only [Act.put, List.getElem_toArray, List.getElem_cons_zero, List.getElem_cons_succ, List.setIfInBounds_toArray, List.set_cons_zero, List.set_cons_succ]
          refine wpAnyH_ready (rs := [15]) (by kernel_rfl) (by simp) ?_
          refine AllReadyH.cons rfl (fun K hK => ?_) (AllReadyH.nil)
          go_simp
          refine (used_st (HFS6.out.keep0 hHe) HI.out HBS.out).mono ?_
          rintro ee wf ⟨rfl, hc⟩
          rw [HU.out]
          have hHf := hHe.trans0 hc
          clear hc
          refine hK.out _ _ (hHf) (fun hHeld => ?_)
          try simp only [Act.put, List.getElem_toArray, List.getElem_cons_zero, List.getElem_cons_succ, List.setIfInBounds_toArray, List.set_cons_zero, List.set_cons_succ]
          clear hK K
          refine wpAnyH_ready (rs := [17]) (by kernel_rfl) (by simp) ?_
          refine AllReadyH.cons rfl (fun K hK => ?_) (AllReadyH.nil)
          go_simp
          refine (rused_any (HRF6.out.keep0 hHf) HI.out HBS.out).mono ?_
          rintro ee wg ⟨rfl, hc⟩
          rw [HU.out]
          have hHg := hHf.trans0 hc
          clear hc
          refine hK.out _ _ (hHg) (fun hHeld => ?_)
          try simp only [Act.put, List.getElem_toArray, List.getElem_cons_zero, List.getElem_cons_succ, List.setIfInBounds_toArray, List.set_cons_zero, List.set_cons_succ]
          clear hK K
          refine wpAnyH_take (i := 18) (v := ?_) rfl (by kernel_rfl) (by kernel_rfl) (by kernel_rfl) (fun _ _ _ h => h) (Or.inl ⟨by rfl, ?_⟩) (by assumption) ?_
          rotate_left
          · (intro w' hSw; go_simp; try with_reducible rfl)
          try simp only [Act.put, List.getElem_toArray, List.getElem_cons_zero, List.getElem_cons_succ, List.setIfInBounds_toArray, List.set_cons_zero, List.set_cons_succ]
          refine wpAnyH_take (i := 19) (v := ?_) rfl (by kernel_rfl) (by kernel_rfl) (by kernel_rfl) (fun _ _ _ h => h) (Or.inl ⟨by rfl, ?_⟩) (by assumption) ?_
          rotate_left
          · (intro w' hSw; go_simp; try with_reducible rfl)
          try simp only [Act.put, List.getElem_toArray, List.getElem_cons_zero, List.getElem_cons_succ, List.setIfInBounds_toArray, List.set_cons_zero, List.set_cons_succ]
          refine wpAnyH_take (i := 20) (v := ?_) rfl (by kernel_rfl) (by kernel_rfl) (by kernel_rfl) (fun _ _ _ h => h) (Or.inl ⟨by rfl, ?_⟩) (by assumption) ?_
          rotate_left
          · (intro w' hSw; go_simp; try with_reducible rfl)
          try simp only [Act.put, List.getElem_toArray, List.getElem_cons_zero, List.getElem_cons_succ, List.setIfInBounds_toArray, List.set_cons_zero, List.set_cons_succ]
          refine wpAnyH_take (i := 21) (v := ?_) rfl (by kernel_rfl) (by kernel_rfl) (by kernel_rfl) (fun _ _ _ h => h) (Or.inl ⟨by rfl, ?_⟩) (by assumption) ?_
          rotate_left
          · (intro w' hSw; go_simp; try with_reducible rfl)
          try simp only [Act.put, List.getElem_toArray, List.getElem_cons_zero, List.getElem_cons_succ, List.setIfInBounds_toArray, List.set_cons_zero, List.set_cons_succ]
          refine wpAnyH_ready (rs := [22]) (by kernel_rfl) (by simp) ?_
          refine AllReadyH.cons rfl (fun K hK => ?_) (AllReadyH.nil)
          go_simp
          refine (steps_any G.b S.steps _ (by simpa using (HFS6.out.keep0 hHg).blk.cell 6)).mono ?_
          rintro ee wh ⟨rfl, rfl⟩
          rw [HST.out]
          refine hK.out _ _ (hHg) (fun hHeld => ?_)
          try simp only [Act.put, List.getElem_toArray, List.getElem_cons_zero, List.getElem_cons_succ, List.setIfInBounds_toArray, List.set_cons_zero, List.set_cons_succ]
          clear hK K
          refine wpAnyH_take (i := 23) (v := ?_) rfl (by kernel_rfl) (by kernel_rfl) (by kernel_rfl) (fun _ _ _ h => h) (Or.inl ⟨by rfl, ?_⟩) (by assumption) ?_
          rotate_left
          · (intro w' hSw; go_simp; try with_reducible rfl)
          try simp only [Act.put, List.getElem_toArray, List.getElem_cons_zero, List.getElem_cons_succ, List.setIfInBounds_toArray, List.set_cons_zero, List.set_cons_succ]
          refine wpAnyH_take (i := 24) (v := ?_) rfl (by kernel_rfl) (by kernel_rfl) (by kernel_rfl) (fun _ _ _ h => h) (Or.inl ⟨by rfl, ?_⟩) (by assumption) ?_
          rotate_left
          · (intro w' hSw; go_simp; try with_reducible rfl)
          try simp only [Act.put, List.getElem_toArray, List.getElem_cons_zero, List.getElem_cons_succ, List.setIfInBounds_toArray, List.set_cons_zero, List.set_cons_succ]
          refine wpAnyH_take (i := 25) (v := ?_) rfl (by kernel_rfl) (by kernel_rfl) (by kernel_rfl) (fun _ _ _ h => h) (Or.inl ⟨by rfl, ?_⟩) (by assumption) ?_
          rotate_left
          · (intro w' hSw; go_simp; try with_reducible rfl)
          try simp only [Act.put, List.getElem_toArray, List.getElem_cons_zero, List.getElem_cons_succ, List.setIfInBounds_toArray, List.set_cons_zero, List.set_cons_succ]
          refine wpAnyH_take (i := 26) (v := ?_) rfl (by kernel_rfl) (by kernel_rfl) (by kernel_rfl) (fun _ _ _ h => h) (Or.inl ⟨by rfl, ?_⟩) (by assumption) ?_
          rotate_left
          · (intro w' hSw; go_simp; try with_reducible rfl)
          try simp only [Act.put, List.getElem_toArray, List.getElem_cons_zero, List.getElem_cons_succ, List.setIfInBounds_toArray, List.set_cons_zero, List.set_cons_succ]
          refine wpAnyH_take (i := 28) (v := ?_) rfl (by kernel_rfl) (by kernel_rfl) (by kernel_rfl) (fun _ _ _ h => h) (Or.inl ⟨by rfl, ?_⟩) (by assumption) ?_
          rotate_left
          · (intro w' hSw; go_simp; try with_reducible rfl)
          try simp only [Act.put, List.getElem_toArray, List.getElem_cons_zero, List.getElem_cons_succ, List.setIfInBounds_toArray, List.set_cons_zero, List.set_cons_succ]
          refine wpAnyH_ready (rs := [27]) (by kernel_rfl) (by simp) ?_
          refine AllReadyH.cons rfl (fun K hK => ?_) (AllReadyH.nil)
          go_simp
          refine (down_st (HFS6.out.keep0 hHg)).mono ?_
          rintro ee wi ⟨rfl, hc⟩
          rw [HDN.out]
          have hHi := hHg.trans0 hc
          clear hc
          refine hK.out _ _ (hHi) (fun hHeld => ?_)
          try simp only [Act.put, List.getElem_toArray, List.getElem_cons_zero, List.getElem_cons_succ, List.setIfInBounds_toArray, List.set_cons_zero, List.set_cons_succ]
          clear hK K
          refine wpAnyH_ready (rs := [29]) (by kernel_rfl) (by simp) ?_
          refine AllReadyH.cons rfl (fun K hK => ?_) (AllReadyH.nil)
          go_simp
          refine (RfM.down (HRF6.out.keep0 hHi)).mono ?_
          rintro ee wj ⟨rfl, hc⟩
          rw [HDN.out]
          have hHj := hHi.trans0 hc
          clear hc
          refine hK.out _ _ (hHj) (fun hHeld => ?_)
          try simp only [Act.put, List.getElem_toArray, List.getElem_cons_zero, List.getElem_cons_succ, List.setIfInBounds_toArray, List.set_cons_zero, List.set_cons_succ]
          clear hK K
          refine wpAnyH_take (i := 30) (v := ?_) rfl (by kernel_rfl) (by kernel_rfl) (by kernel_rfl) (fun _ _ _ h => h) (Or.inl ⟨by rfl, ?_⟩) (by assumption) ?_
          rotate_left
          · (intro w' hSw; go_simp; try with_reducible rfl)
          try simp only [Act.put, List.getElem_toArray, List.getElem_cons_zero, List.getElem_cons_succ, List.setIfInBounds_toArray, List.set_cons_zero, List.set_cons_succ]
          refine wpAnyH_take (i := 31) (v := ?_) rfl (by kernel_rfl) (by kernel_rfl) (by kernel_rfl) (fun _ _ _ h => h) (Or.inl ⟨by rfl, ?_⟩) (by assumption) ?_
          rotate_left
          · (intro w' hSw; go_simp; try with_reducible rfl)
          try simp only [Act.put, List.getElem_toArray, List.getElem_cons_zero, List.getElem_cons_succ, List.setIfInBounds_toArray, List.set_cons_zero, List.set_cons_succ]
          refine wpAnyH_take (i := 32) (v := ?_) rfl (by kernel_rfl) (by kernel_rfl) (by kernel_rfl) (fun _ _ _ h => h) (Or.inl ⟨by rfl, ?_⟩) (by assumption) ?_
          rotate_left
          · (intro w' hSw; go_simp; try with_reducible rfl)
          try simp only [Act.put, List.getElem_toArray, List.getElem_cons_zero, List.getElem_cons_succ, List.setIfInBounds_toArray, List.set_cons_zero, List.set_cons_succ]
          refine wpAnyH_done (by kernel_rfl) ?_ _
          try simp only [Act.put, List.getElem_toArray, List.getElem_cons_zero, List.getElem_cons_succ, List.setIfInBounds_toArray, List.set_cons_zero, List.set_cons_succ]
          have HFIN : Hid (Chg [] w _) := Lib.hid ((HCW.out.trans0 HC6.out).trans0 hHj)
          clear hHa hHb hHc hHd hHe hHf hHg hHi hHj hHeld b0
          go_wp2
          go_ret
          exact ⟨rfl, HFIN.out⟩
end Go.Proofs.Ytgomofeidghmiaa
