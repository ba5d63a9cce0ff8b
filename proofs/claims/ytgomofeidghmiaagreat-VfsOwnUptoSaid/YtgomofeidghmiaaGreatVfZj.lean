/-
  Layer 08: the law's wreck.
-/
import Derived.Test.YtgomofeidghmiaaGreatVfZh
namespace Go.Proofs.YtgomofeidghmiaaGreat
open Go.RowKit

theorem flat_ne {α : Type} (g : α → List Nat) {l : List α} (h : (l.flatMap g).Nodup) {a b : Nat} {x y : α} (ha : l[a]? = some x) (hb : l[b]? = some y) (hab : a ≠ b) : ∀ k ∈ g x, k ∉ g y := by
  induction l generalizing a b with
  | nil => simp at ha
  | cons z r ih =>
    rw [List.flatMap_cons] at h
    obtain ⟨h1, h2, h3⟩ := List.nodup_append.1 h
    intro k hk hy
    cases a with
    | zero =>
      simp at ha
      subst ha
      cases b with
      | zero => exact hab rfl
      | succ b => exact h3 k hk k (List.mem_flatMap.2 ⟨y, List.mem_of_getElem? (by simpa using hb), hy⟩) rfl
    | succ a =>
      cases b with
      | zero =>
        simp at hb
        subst hb
        exact h3 k hy k (List.mem_flatMap.2 ⟨x, List.mem_of_getElem? (by simpa using ha), hk⟩) rfl
      | succ b => exact ih h2 (by simpa using ha) (by simpa using hb) (by omega) k hk hy
/-- the slice of the i-th may be stored -/
theorem Own.ns1 {w : World} {e : TypeId} {ad : Addr} {n c : Nat} {xs : List Nsl} (h : Own w e 2 (some ad) n c (nsv xs)) {i : Nat} {x : Nsl} (hx : xs[i]? = some x) :
    NsAt w (ad.add (i * 2)) x ∧ w.frozen? ⟨(ad.add (i * 2)).block, (ad.add (i * 2)).off + 1, none⟩ = false ∧
      ∀ B m d, Own (w.setCell ⟨(ad.add (i * 2)).block, (ad.add (i * 2)).off + 1, none⟩ (.slice B m d)) e 2 (some ad) n c (nsv (xs.set i ⟨x.nm, B, m, d⟩)) := by
  obtain ⟨ad', he, hat⟩ := h.rd.ns hx
  injection he with he
  subst he
  rcases h.form with ⟨h1, _⟩ | ⟨g, cur, hA, hb, hn, hm, hs, ht⟩
  · cases h1
  · injection hA with hA
    subst hA
    rw [add_zero'] at hat ⊢
    simp only
    refine ⟨hat, hb.frozen _, fun B m d => ⟨?_, .inr ⟨g, c, _, rfl, Nat.zero_le _, hb.set_ _ _, hn, hm, by rw [Array.size_setIfInBounds]; exact hs, ?_⟩⟩⟩
    · rw [nsv_length, List.length_set, ← nsv_length]; exact h.1
    · rw [Array.toList_setIfInBounds, List.take_set, ht, Nat.zero_add]
      exact nsv_set xs i 1 (by decide) x ⟨x.nm, B, m, d⟩ _ hx rfl
theorem DirsO.files_ne {w : World} {A : Option Addr} {n c : Nat} {ds : List DM} (h : DirsO w A n c ds) {a b : Nat} {x y : DM} (ha : ds[a]? = some x) (hb : ds[b]? = some y) (hab : a ≠ b) : ∀ k ∈ bo x.1.A ++ fblk x.2, k ∉ bo y.1.A ++ fblk y.2 :=
  flat_ne (fun d : DM => bo d.1.A ++ fblk d.2) h.sep ha hb hab
theorem FilesO.dat_ne {w : World} {A : Option Addr} {n c : Nat} {fs : List FM} (h : FilesO w A n c fs) {a b : Nat} {x y : FM} (ha : fs[a]? = some x) (hb : fs[b]? = some y) (hab : a ≠ b) : ∀ k ∈ bo x.1.A, k ∉ bo y.1.A :=
  flat_ne (fun f : FM => bo f.1.A) h.sep ha hb hab
theorem mem_fblk {fs : List FM} {a : Nat} {x : FM} (h : fs[a]? = some x) : ∀ k ∈ bo x.1.A, k ∈ fblk fs := fun _ hk => List.mem_flatMap.2 ⟨x, List.mem_of_getElem? h, hk⟩
theorem mem_dblk {ds : List DM} {a : Nat} {x : DM} (h : ds[a]? = some x) : ∀ k ∈ bo x.1.A ++ fblk x.2, k ∈ dblk ds := fun _ hk => List.mem_flatMap.2 ⟨x, List.mem_of_getElem? h, hk⟩
theorem FilesO.row_ne {w : World} {A : Option Addr} {n c : Nat} {fs : List FM} (h : FilesO w A n c fs) : ∀ k ∈ bo A, k ∉ fblk fs := fun k hk hm => by
  obtain ⟨f, hf, hk2⟩ := List.mem_flatMap.1 hm
  exact (h.dat f hf).own_ne h.row (by decide) k hk2 hk

def star8 : ByteArray := { data := #[42] }
/-- the name of the i-th may be stored -/
theorem Own.ns0 {w : World} {e : TypeId} {ad : Addr} {n c : Nat} {xs : List Nsl} (h : Own w e 2 (some ad) n c (nsv xs)) {i : Nat} {x : Nsl} (hx : xs[i]? = some x) :
    NsAt w (ad.add (i * 2)) x ∧ w.frozen? (ad.add (i * 2)) = false ∧ ∀ nm, Own (w.setCell (ad.add (i * 2)) (.string nm)) e 2 (some ad) n c (nsv (xs.set i ⟨nm, x.A, x.n, x.c⟩)) := by
  obtain ⟨ad', he, hat⟩ := h.rd.ns hx
  injection he with he
  subst he
  rcases h.form with ⟨h1, _⟩ | ⟨g, cur, hA, hb, hn, hm, hs, ht⟩
  · cases h1
  · injection hA with hA
    subst hA
    rw [add_zero'] at hat ⊢
    refine ⟨hat, hb.frozen _, fun nm => ⟨?_, .inr ⟨g, c, _, rfl, Nat.zero_le _, hb.set_ _ _, hn, hm, by rw [Array.size_setIfInBounds]; exact hs, ?_⟩⟩⟩
    · rw [nsv_length, List.length_set, ← nsv_length]; exact h.1
    · rw [Array.toList_setIfInBounds, List.take_set, ht, Nat.zero_add]
      exact nsv_set xs i 0 (by decide) x ⟨nm, x.A, x.n, x.c⟩ _ hx rfl

set_option maxRecDepth 100000 in
set_option maxHeartbeats 12800000 in
theorem lwreck_any (A : Option Addr) (n c : Nat) (ds : List DM) (w : World) (h : DirsO w A n c ds) (hn : n ≤ 536870912) (hfn : ∀ x ∈ ds, x.1.n ≤ 536870912 ∧ ∀ f ∈ x.2, f.1.n ≤ 1073741824) :
    Calls Tryz.prog 21 #[.slice A n c] w fun e w' => e = .returned (.tuple #[]) ∧ Chg (bo A ++ dblk ds) w w' := by
  have HDO := Lib.hid h
  have HFN0 := Lib.hid hfn
  have HLN : Hid (ds.length = n) := Lib.hid (by have := h.rd.row.nsl; simpa [dnsl] using this)
  clear h hfn
  go_enter Tryz.func21, Tryz.ntmps21
  go_wp2
  go_loopw [8] (fun z wr => ∃ (i : Nat) (xs : List Nsl), i ≤ n ∧ z = .int .i64 i ∧ Own wr 67 2 A n c (nsv xs) ∧ (∀ k, i ≤ k → xs[k]? = (dnsl ds)[k]?) ∧ (∀ k d, i ≤ k → ds[k]? = some d → FilesO wr d.1.A d.1.n d.1.c d.2) ∧ Chg (bo A ++ dblk ds) w wr) (fun z _ => n - (intOf z).toNat)
  case atStart => exact ⟨0, dnsl ds, Nat.zero_le _, rfl, HDO.out.row, fun _ _ => rfl, fun k d _ hd => HDO.out.fil d (List.mem_of_getElem? hd), Chg.refl _ _⟩
  case round =>
    obtain ⟨i, xs, hi, rfl, hown, hxs, hfl, hch⟩ := hrel
    obtain ⟨wo, hwo⟩ : ∃ wo : World, wo = wr := ⟨_, rfl⟩
    subst hwo
    have HOWN := Lib.hid hown
    have HXS := Lib.hid hxs
    have HFL := Lib.hid hfl
    have HCH := Lib.hid hch
    clear hown hxs hfl hch
    by_cases hlt : i < n
    · have hlt' : (i : Int) < n := by omega
      obtain ⟨d, hd⟩ : ∃ d, ds[i]? = some d := ⟨_, List.getElem?_eq_getElem (by have := HLN.out; omega)⟩
      obtain ⟨⟨dnm, dA, dn, dc⟩, dfs⟩ := d
      have hx : xs[i]? = some ⟨dnm, dA, dn, dc⟩ := by rw [HXS.out i (Nat.le_refl _)]; unfold dnsl; rw [List.getElem?_map, hd]; rfl
      obtain ⟨ad, rfl, _⟩ := HOWN.out.rd.ns hx
      have HX := Lib.hid hx
      have HXL : Hid (i < xs.length) := Lib.hid (List.getElem?_eq_some_iff.1 hx).1
      have HDD := Lib.hid hd
      have HFO : Hid (FilesO wo dA dn dc dfs) := Lib.hid (HFL.out i _ (Nat.le_refl _) hd)
      have HADN : Hid (∀ x ∈ bo (some ad), x ∉ bo dA ++ fblk dfs) := Lib.hid (fun x hx hm => HDO.out.ne_row x (mem_dblk hd x hm) hx)
      have HNX : Hid ((ad.add (i * 2)).block ∉ bo dA ++ fblk dfs) := Lib.hid (by rw [add_block]; exact HADN.out _ (by simp))
      have hdn : dn ≤ 536870912 := (HFN0.out _ (List.mem_of_getElem? hd)).1
      have HDL : Hid (dfs.length = dn) := Lib.hid (by have := HFO.out.rd.row.nsl; simpa [fnsl] using this)
      have HFN : Hid (∀ f ∈ dfs, f.1.n ≤ 1073741824) := Lib.hid (HFN0.out _ (List.mem_of_getElem? hd)).2
      have x1 := (HOWN.out.ns1 hx).1.c1
      clear hx hd
      go_wp2
      go_loopw [17] (fun z wj => ∃ (k : Nat) (ys : List Nsl), k ≤ dn ∧ z = .int .i64 k ∧ Own wj 70 2 dA dn dc (nsv ys) ∧ (∀ m, k ≤ m → ys[m]? = (fnsl dfs)[m]?) ∧ Chg (bo dA ++ fblk dfs) wo wj ∧ ∀ m f, k ≤ m → dfs[m]? = some f → Own wj 5 1 f.1.A f.1.n f.1.c (bv f.2)) (fun z _ => dn - (intOf z).toNat)
      case atStart => exact ⟨0, fnsl dfs, Nat.zero_le _, rfl, HFO.out.row, fun _ _ => rfl, Chg.refl _ _, fun m f _ hf => HFO.out.dat f (List.mem_of_getElem? hf)⟩
      case round =>
        obtain ⟨k, ys, hk, rfl, hrow, hys, hck, hdat⟩ := hrel
        obtain ⟨wk, hwk⟩ : ∃ wk : World, wk = wr := ⟨_, rfl⟩
        subst hwk
        have HROW := Lib.hid hrow
        have HYS := Lib.hid hys
        have HCK := Lib.hid hck
        have HDAT := Lib.hid hdat
        have x1k := HCK.out.cell x1 HNX.out
        clear hrow hys hck hdat
        by_cases hkl : k < dn
        · have hkl' : (k : Int) < dn := by omega
          obtain ⟨f, hf⟩ : ∃ f, dfs[k]? = some f := ⟨_, List.getElem?_eq_getElem (by have := HDL.out; omega)⟩
          obtain ⟨⟨fnm, fA, fn, fc⟩, zs⟩ := f
          have HFF := Lib.hid hf
          have hy : ys[k]? = some ⟨fnm, fA, fn, fc⟩ := by rw [HYS.out k (Nat.le_refl _)]; unfold fnsl; rw [List.getElem?_map, hf]; rfl
          obtain ⟨bd, hbd, hatf⟩ := HROW.out.rd.ns hy
          have HY := Lib.hid hy
          have HYL : Hid (k < ys.length) := Lib.hid (List.getElem?_eq_some_iff.1 hy).1
          have HBD := Lib.hid hbd
          subst hbd
          have HRF : Hid (∀ x ∈ bo (some bd), x ∉ bo fA) := Lib.hid (fun x hx hm => HFO.out.row_ne x hx (mem_fblk hf x hm))
          have HNF : Hid ((ad.add (i * 2)).block ∉ bo fA ∧ (bd.add (k * 2)).block ∉ bo fA) := Lib.hid ⟨fun hm => HNX.out (List.mem_append_right _ (mem_fblk hf _ hm)), fun hm => by
            rw [add_block] at hm
            exact HRF.out bd.block (by simp) hm⟩
          have f1 := hatf.c1
          have hfn : fn ≤ 1073741824 := HFN.out _ (List.mem_of_getElem? hf)
          have HO0 := Lib.hid (HDAT.out k _ (Nat.le_refl _) hf)
          clear hf hy hatf x1
          go_wp2
          go_loopw [32] (fun z wi => ∃ (j : Nat) (vs : List Value), j ≤ fn ∧ z = .int .i64 j ∧ Own wi 5 1 fA fn fc vs ∧ Chg (bo fA) wk wi) (fun z _ => fn - (intOf z).toNat)
          case atStart => exact ⟨0, _, Nat.zero_le _, rfl, HO0.out, Chg.refl _ _⟩
          case round =>
            obtain ⟨j, vs, hj, rfl, hoj, hcj⟩ := hrel
            obtain ⟨wi, hwi⟩ : ∃ wi : World, wi = wr := ⟨_, rfl⟩
            subst hwi
            have HCJ := Lib.hid hcj
            have q1 := HCJ.out.cell f1 HNF.out.2
            clear hcj
            by_cases hjl : j < fn
            · have hjl' : (j : Int) < fn := by omega
              obtain ⟨cd, u, hcd, hxj, hcx, hfz, hset⟩ := hoj.at1 hjl
              have HCD := Lib.hid hcd
              have HSET := Lib.hid hset
              subst hcd
              clear hxj hset hoj x1k f1
              go_wp2
              go_roundw
              case rel => exact ⟨j + 1, _, by omega, by go_num, HSET.out _, HCJ.out.setCell (.inl (by rw [add_block]; simp)) _⟩
              case measure => simp [intOf]; omega
            · obtain rfl : j = fn := by omega
              have HO1 := Lib.hid hoj
              have HRI := Lib.hid (HROW.out.chg HCJ.out HRF.out)
              clear hoj x1k f1
              go_wp2_with (at_builtin; refine wpList_app rfl _ _ rfl etyBytes rfl (HO1.out.chg ((Chg.refl [] wi).alloc (.cells #[.int .u8 238, .int .u8 238, .int .u8 238, .int .u8 238] 5)) (fun _ _ => List.not_mem_nil)) rfl (Own.lit wi 5 1 #[.int .u8 238, .int .u8 238, .int .u8 238, .int .u8 238] 4 (by decide) rfl).rd (by intro u hu; simp at hu; subst hu; rfl) (by unfold maxLen; omega) (by omega) ?_; intro A5 c5 w5 _ hchg5 hnew5 _; have HC5 : Hid (Chg (bo fA) wi w5) := Lib.hid ((((Chg.refl [] wi).alloc (.cells #[.int .u8 238, .int .u8 238, .int .u8 238, .int .u8 238] 5)).nil _).trans hchg5 (fun x hx => .inl hx)); have hr5 := (HRI.out.chg HC5.out HRF.out).ns1 HY.out; have p1 := hr5.1.c1; have g1 := hr5.2.1; have hr6 := hr5.2.2 A5 (j + 4) c5; have hr7 := hr6.ns0 (x := ⟨fnm, A5, j + 4, c5⟩) (i := k) (by rw [List.getElem?_set_self HYL.out]); have p0 := hr7.1.c0; have g0 := hr7.2.1; have HR8 := Lib.hid (hr7.2.2 star8); clear hchg5 hnew5 hr5 hr6 hr7)
              go_roundw
              case rel =>
                have hcs : Chg (bo (some bd)) w5 ((w5.setCell ⟨(bd.add (k * 2)).block, (bd.add (k * 2)).off + 1, none⟩ (.slice A5 (j + 4) c5)).setCell (bd.add (k * 2)) (.string star8)) := ((Chg.refl _ _).setCell (.inl (by simp [add_block])) _).setCell (.inl (by simp [add_block])) _
                refine ⟨k + 1, _, by omega, by go_num, HR8.out, fun m hm => ?_, ((HCK.out.trans HCJ.out (fun x hx => .inl (List.mem_append_right _ (mem_fblk HFF.out x hx)))).trans HC5.out (fun x hx => .inl (List.mem_append_right _ (mem_fblk HFF.out x hx)))).trans hcs (fun x hx => .inl (List.mem_append_left _ hx)), fun m f hm hf => ?_⟩
                · rw [List.getElem?_set_ne (by omega), List.getElem?_set_ne (by omega)]; exact HYS.out m (by omega)
                · refine (((HDAT.out m f (by omega) hf).chg HCJ.out (fun x hx hxm => ?_)).chg HC5.out (fun x hx hxm => ?_)).chg hcs (fun x hx hxm => ?_)
                  · exact HFO.out.dat_ne hf HFF.out (by omega) x hx hxm
                  · exact HFO.out.dat_ne hf HFF.out (by omega) x hx hxm
                  · exact HFO.out.row_ne x hxm (mem_fblk hf x hx)
              case measure => simp [intOf]; omega
        · obtain rfl : k = dn := by omega
          clear x1
          go_wp2_with (at_builtin; refine wpList_app rfl _ _ rfl etyFiles rfl (HROW.out.chg ((Chg.refl [] wk).alloc (.cells #[.string star8, .slice none 0 0] 70)) (fun _ _ => List.not_mem_nil)) rfl (Own.lit wk 70 2 #[.string star8, .slice none 0 0] 1 (by decide) rfl).rd (nsv_one [⟨star8, none, 0, 0⟩]) (by unfold maxLen; omega) (by omega) ?_; intro A6 c6 w6 _ hchg6 hnew6 _; have HC6 : Hid (Chg (bo dA) wk w6) := Lib.hid ((((Chg.refl [] wk).alloc (.cells #[.string star8, .slice none 0 0] 70)).nil _).trans hchg6 (fun x hx => .inl hx)); have hr5 := ((HOWN.out.chg HCK.out HADN.out).chg HC6.out (fun x hx hm => HADN.out x hx (List.mem_append_left _ hm))).ns1 HX.out; have p1 := hr5.1.c1; have g1 := hr5.2.1; have hr6 := hr5.2.2 A6 (k + 1) c6; have hr7 := hr6.ns0 (x := ⟨dnm, A6, k + 1, c6⟩) (i := i) (by rw [List.getElem?_set_self HXL.out]); have p0 := hr7.1.c0; have g0 := hr7.2.1; have HR8 := Lib.hid (hr7.2.2 star8); clear hchg6 hnew6 hr5 hr6 hr7)
          go_roundw
          case rel =>
            have hcs : Chg (bo (some ad)) w6 ((w6.setCell ⟨(ad.add (i * 2)).block, (ad.add (i * 2)).off + 1, none⟩ (.slice A6 (k + 1) c6)).setCell (ad.add (i * 2)) (.string star8)) := ((Chg.refl _ _).setCell (.inl (by simp [add_block])) _).setCell (.inl (by simp [add_block])) _
            refine ⟨i + 1, _, by omega, by go_num, HR8.out, fun m hm => ?_, fun m d hm hd => ?_, ?_⟩
            · rw [List.getElem?_set_ne (by omega), List.getElem?_set_ne (by omega)]; exact HXS.out m (by omega)
            · refine (((HFL.out m d (by omega) hd).chg HCK.out (fun x hx hxm => ?_)).chg HC6.out (fun x hx hxm => ?_)).chg hcs (fun x hx hxm => ?_)
              · exact HDO.out.files_ne hd HDD.out (by omega) x hx hxm
              · exact HDO.out.files_ne hd HDD.out (by omega) x hx (List.mem_append_left _ hxm)
              · exact HDO.out.ne_row x (mem_dblk hd x hx) hxm
            · exact ((HCH.out.trans HCK.out (fun x hx => .inl (List.mem_append_right _ (mem_dblk HDD.out x hx)))).trans HC6.out (fun x hx => .inl (List.mem_append_right _ (mem_dblk HDD.out x (List.mem_append_left _ hx))))).trans hcs (fun x hx => .inl (List.mem_append_left _ hx))
          case measure => simp [intOf]; omega
    · obtain rfl : i = n := by omega
      go_wp2
      go_end0
      exact ⟨rfl, HCH.out⟩
end Go.Proofs.YtgomofeidghmiaaGreat
