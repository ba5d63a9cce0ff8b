/-
  Layer 13: LinksOwn's walk.
-/
import Derived.Test.YthlpojaohdpjgaaLkX
import Derived.Test.YthlpojaohdpjgaaLkV
import Derived.Test.YthlpojaohdpjgaaLkZ
import Derived.Test.YthlpojaohdpjgaaLkPl
import Derived.Deep.RegionHeld3
namespace Go.Proofs.Ythlpojaohdpjgaa
open Go.RowKit

set_option maxRecDepth 100000 in
set_option maxHeartbeats 3200000 in
theorem lkown_any (A : Option Addr) (n c : Nat) (ls : List Lk) (node : Int) (B : Option Addr) (m d : Nat) (ord : List Int) (w : World) (hrd : Rd w 7 A n c (lvs ls)) (hn : n ≤ 1073741823) (hor : Rd w 1 B m d (iv ord)) (hm : m ≤ 1073741823) :
    Calls Try.prog 9 #[.slice A n c, .agg #[.int .i64 node, .slice B m d]] w fun e w' => e = .returned (.bool true) ∧ Chg [] w w' := by
  have hl : ls.length = n := by have := hrd.1; rw [lvs_length] at this; omega
  have hol0 : ord.length = m := by have := hor.1; simp at this; omega
  have HTL := Lib.hid (show (thr ls node ord).length ≤ n from by rw [← hl]; exact thr_len _ _ _)
  obtain ⟨M, hM⟩ : ∃ M, (incident ls node).length = M := ⟨_, rfl⟩
  have hMn : M ≤ n := by rw [← hM, ← inc_all, ← hl]; exact inc_le _ _ _
  have HI := Lib.hid hM
  have HL := Lib.hid hl
  have HM := Lib.hid hol0
  have HR := Lib.hid hrd
  have HO := Lib.hid hor
  clear hl hol0 hrd hor hM
  go_enter Try.func9, Try.ntmps9
  go_wp2_with fail
  have hb0 := Blk.new w 31 #[.int .i64 node, .slice B m d]
  refine (lspeaks_any _).mono ?_
  rintro e w1 ⟨rfl, hc1⟩
  have hb1 := hb0.chg hc1 (by simp)
  have C1 := ((Chg.refl [] w).alloc (.cells #[.int .i64 node, .slice B m d] 31)).trans0 hc1
  clear hb0 hc1
  go_wp2_with fail
  refine (lcopied_any A n c ls _ (by omega) (HR.out.chg C1 (by simp))).mono ?_
  rintro e w2 ⟨A2, c2, rfl, ho2, hc2, hn2⟩
  have hb2 := hb1.chg hc2 (by simp)
  have C2 := C1.trans0 hc2
  have u2 := hb2.cell 0
  have v2 := hb2.cell 1
  simp at u2 v2
  clear hn2 hc2 hb1 C1
  go_wp2_with fail
  refine (thread_any A2 n c2 ls node B m d ord _ ho2.rd (by omega) (HO.out.chg C2 (by simp)) (by omega)).mono ?_
  rintro e w4 ⟨A4, N4, c4, E4, rfl, hE4, ho4, hN4, hc4, hn4⟩
  have hb4 := hb2.chg hc4 (by simp)
  have C4 := C2.trans0 hc4
  have u4 := hb4.cell 0
  have v4 := hb4.cell 1
  simp at u4 v4
  have HE4 := Lib.hid hE4
  have HN4 := Lib.hid hN4
  have q4 : N4 ≤ n := by have := HTL.out; omega
  clear hE4 hN4 u2 v2
  go_wp2_with fail
  refine (thread_any A2 n c2 ls node B m d ord _ (ho2.chg hc4 (by simp)).rd (by omega) (HO.out.chg C4 (by simp)) (by omega)).mono ?_
  rintro e w5 ⟨A5, N5, c5, E5, rfl, hE5, ho5, hN5, hc5, hn5⟩
  obtain rfl : E5 = E4 := hE5.trans HE4.out.symm
  obtain rfl : N5 = N4 := hN5.trans HN4.out.symm
  clear hE5 hN5 u4 v4
  have hb5 := hb4.chg hc5 (by simp)
  have C5 := C4.trans0 hc5
  have u5 := hb5.cell 0
  have v5 := hb5.cell 1
  simp at u5 v5
  go_wp2_with fail
  refine (gthread_any A n c ls node B m d ord _ (HR.out.chg C5 (by simp)) (by omega) (HO.out.chg C5 (by simp)) (by omega)).mono ?_
  rintro e w6 ⟨A6, N6, c6, E6, rfl, hE6, ho6, hN6, hc6, hn6⟩
  obtain rfl : E6 = E5 := hE6.trans HE4.out.symm
  obtain rfl : N6 = N5 := hN6.trans HN4.out.symm
  clear hE6 hN6 u5 v5
  have C6 := C5.trans0 hc6
  have hb6 := hb5.chg hc6 (by simp)
  -- what is spoilt, and what stays
  have S4 : ∀ k ∈ bo A4, w.heap.size ≤ k := fun k hk => by have := hn4 k hk; have := C2.size; omega
  have x42 : ∀ k ∈ bo A2, k ∉ bo A4 := fun k hk hk2 => by have h1 := ho2.lt k hk; have h2 := hn4 k hk2; omega
  have x45 : ∀ k ∈ bo A5, k ∉ bo A4 := fun k hk hk2 => by have h1 := ho4.lt k hk2; have h2 := hn5 k hk; omega
  have x46 : ∀ k ∈ bo A6, k ∉ bo A4 := fun k hk hk2 => by have h1 := (ho4.chg hc5 (by simp)).lt k hk2; have h2 := hn6 k hk; omega
  have x4b : w.heap.size ∉ bo A4 := fun hh => ho4.blk_ne hb4 (by decide) _ hh rfl
  have h24 : Own w6 46 7 A2 n c2 (lvs ls) := ho2.chg ((hc4.trans0 hc5).trans0 hc6) (by simp)
  have h44 : Own w6 46 7 A4 N6 c4 (lvs (thr ls node ord)) := ho4.chg (hc5.trans0 hc6) (by simp)
  have h54 : Own w6 46 7 A5 N6 c5 (lvs (thr ls node ord)) := ho5.chg hc6 (by simp)
  have HS4 := Lib.hid S4
  have H42 := Lib.hid x42
  have H45 := Lib.hid x45
  have H46 := Lib.hid x46
  have H4b := Lib.hid x4b
  have H24 := Lib.hid h24
  have H44 := Lib.hid h44
  have H54 := Lib.hid h54
  have H66 := Lib.hid ho6
  clear S4 x42 x45 x46 x4b h24 h44 h54 ho6 ho2 ho4 ho5 hn4 hn5 hn6 hc4 hc5 hc6 hb2 hb4 hb5 C2 C4 C5
  go_wp2
  go_loopw [54] (fun q wr => ∃ (k : Nat) (L : List Lk), k ≤ N6 ∧ q = .int .i64 k ∧ Own wr 46 7 A4 N6 c4 (lvs L) ∧ Chg (bo A4) w6 wr) (fun q _ => N6 - (intOf q).toNat)
  case atStart => exact ⟨0, _, Nat.zero_le _, rfl, H44.out, Chg.refl _ _⟩
  case round =>
    obtain ⟨k, L, hk, rfl, hown, hch⟩ := hrel
    by_cases hlt : k < N6
    · have hLl : L.length = N6 := by have := hown.rd.1; rw [lvs_length] at this; omega
      obtain ⟨l, hl⟩ : ∃ l, L[k]? = some l := ⟨_, List.getElem?_eq_getElem (by omega)⟩
      obtain ⟨g, rfl, _⟩ := hown.lk hl
      have y0 := hown.cl hl (k := 0) (u := .bool l.live) (by decide) rfl
      have y1 := hown.cl hl (k := 1) (u := .int .i64 l.src) (by decide) rfl
      have y2 := hown.cl hl (k := 2) (u := .int .i64 l.dst) (by decide) rfl
      have y3 := hown.cl hl (k := 3) (u := .int .i64 l.sp) (by decide) rfl
      have y4 := hown.cl hl (k := 4) (u := .int .i64 l.tp) (by decide) rfl
      have y5 := hown.cl hl (k := 5) (u := .int .i64 l.sn) (by decide) rfl
      have y6 := hown.cl hl (k := 6) (u := .int .i64 l.tn) (by decide) rfl
      simp only [Nat.add_zero] at y0
      have f0 := hown.fz (k * 7)
      have f1 := hown.fz (k * 7 + 1)
      have f2 := hown.fz (k * 7 + 2)
      have f3 := hown.fz (k * 7 + 3)
      have f4 := hown.fz (k * 7 + 4)
      have f5 := hown.fz (k * 7 + 5)
      have f6 := hown.fz (k * 7 + 6)
      have HLL := Lib.hid hl
      clear hl hLl
      go_wp2
      go_roundw
      case rel => exact ⟨k + 1, _, by omega, by go_num, hown.set7 HLL.out _ _ _ _ _ _ _, ((((((hch.setCell (.inl (by simp)) _).setCell (.inl (by simp)) _).setCell (.inl (by simp)) _).setCell (.inl (by simp)) _).setCell (.inl (by simp)) _).setCell (.inl (by simp)) _).setCell (.inl (by simp)) _⟩
      case measure => simp [intOf]; omega
    · obtain ⟨wo, hwo⟩ : ∃ wo : World, wo = wr := ⟨_, rfl⟩
      subst hwo
      go_wp2_with (at_builtin; refine wpList_app rfl _ _ rfl etyLinks rfl (hown.chg ((Chg.refl [] wo).alloc _) (fun _ _ => List.not_mem_nil)) rfl (Own.lit wo 46 7 #[.bool false, .int .i64 (-9), .int .i64 0, .int .i64 0, .int .i64 0, .int .i64 0, .int .i64 0] 1 (by decide) rfl).rd (by simp [Value.oneCell']) (by unfold maxLen; omega) (by omega) ?_; intro A7 c7 w7 ho7 hc7 hn7 _)
      have D7 := (hch.alloc (.cells #[.bool false, .int .i64 (-9), .int .i64 0, .int .i64 0, .int .i64 0, .int .i64 0, .int .i64 0] 46)).trans hc7 (fun x hx => .inl hx)
      have C7 : Chg [] w w7 := C6.trans D7 (fun x hx => .inr (HS4.out x hx))
      have hb7 := hb6.chg D7 H4b.out
      have u7 := hb7.cell 0
      simp at u7
      have h27 := H24.out.chg D7 H42.out
      have h57 := H54.out.chg D7 H45.out
      have h67 := H66.out.chg D7 H46.out
      clear hown hch ho7 hc7 hn7 D7 hlt hk
      go_region_held3 (fun w' => w'.cell? ⟨w.heap.size, 0, none⟩ = some (.int .i64 node)) (first | assumption | go_keep)
        (first
        | (go_at_call 13; (with_reducible refine (incident_any A2 n c2 ls node _ (h27.chg G8 (by simp)).rd (by omega) M HI.out).mono ?_); rintro e w9 ⟨A9, c9, rfl, ho9, hc9, hn9⟩; have G9 := G8.trans0 hc9; have u9 := G9.cell u7 (by simp))
        | (go_at_call 13; (with_reducible refine (incident_any A2 n c2 ls node _ (h27.chg ((Chg.refl [] w7).drew) (by simp)).rd (by omega) M HI.out).mono ?_); rintro e w8 ⟨A8, c8, rfl, ho8, hc8, hn8⟩; have G8 := ((Chg.refl [] w7).drew).trans0 hc8; have u8 := G8.cell u7 (by simp)))
      all_goals
        have C9 := C7.trans0 G9
        have h89 := ho8.chg hc9 (by simp)
        have h29 := h27.chg G9 (by simp)
        have h59 := h57.chg G9 (by simp)
        have h69 := h67.chg G9 (by simp)
        have hb9 := hb7.chg G9 (by simp)
        have HS8 := Lib.hid (show ∀ k ∈ bo A8, w.heap.size ≤ k from fun k hk => by have h1 := hn8 k hk; have h2 := C7.size; simp at h1; omega)
        have H89 := Lib.hid (show ∀ k ∈ bo A9, k ∉ bo A8 from fun k hk hk2 => by have h1 := ho8.lt k hk2; have h2 := hn9 k hk; omega)
        have H8b := Lib.hid (show w.heap.size ∉ bo A8 from fun hh => h89.blk_ne hb9 (by decide) _ hh rfl)
        have H82 := Lib.hid (h29.own_ne h89 (by decide))
        have H85 := Lib.hid (h59.own_ne h89 (by decide))
        have H86 := Lib.hid (h69.own_ne h89 (by decide))
        have O8 := Lib.hid h89
        have O2 := Lib.hid h29
        have O5 := Lib.hid h59
        have O6 := Lib.hid h69
        have O9 := Lib.hid ho9
        clear h89 h29 h59 h69 ho8 ho9 hn8 hn9 hc8 hc9 u8 u9 u7 h27 h57 h67 hb7 G8 G9
        go_wp2
        go_loopw [76] (fun q wr => ∃ (k : Nat) (L : List Value), k ≤ M ∧ q = .int .i64 k ∧ Own wr 3 1 A8 M c8 L ∧ Chg (bo A8) w9 wr) (fun q _ => M - (intOf q).toNat)
        case atStart => exact ⟨0, _, Nat.zero_le _, rfl, O8.out, Chg.refl _ _⟩
        case round =>
          obtain ⟨k, L, hk, rfl, hown, hch⟩ := hrel
          by_cases hlt : k < M
          · obtain ⟨ad, u, rfl, hx, hcx, hfz, hset⟩ := hown.at1 hlt
            have HX := Lib.hid hx
            have HS := Lib.hid hset
            clear hx hset
            go_wp2
            go_roundw
            case rel => exact ⟨k + 1, _, by omega, by go_num, HS.out _, hch.setCell (.inl (by rw [add_block]; simp)) _⟩
            case measure => simp [intOf]; omega
          · obtain ⟨wo, hwo⟩ : ∃ wo : World, wo = wr := ⟨_, rfl⟩
            subst hwo
            go_wp2_with (at_builtin; refine wpList_app rfl _ _ rfl etyInts rfl (hown.chg ((Chg.refl [] wo).alloc _) (fun _ _ => List.not_mem_nil)) rfl (Own.lit wo 3 1 #[.int .i64 (-9), .int .i64 (-9)] 2 (by decide) rfl).rd (by simp [Value.oneCell']) (by unfold maxLen; omega) (by omega) ?_; intro A10 c10 w10 ho10 hc10 hn10 _; have D10 := (hch.alloc (.cells #[.int .i64 (-9), .int .i64 (-9)] 3)).trans hc10 (fun x hx => .inl hx); have C10 : Chg [] w w10 := C9.trans D10 (fun x hx => .inr (HS8.out x hx)); have hb10 := hb9.chg D10 H8b.out; have P2 := Lib.hid (O2.out.chg D10 H82.out); have P5 := Lib.hid (O5.out.chg D10 H85.out); have P6 := Lib.hid (O6.out.chg D10 H86.out); have P9 := Lib.hid (O9.out.chg D10 H89.out))
            refine (sameL_true A5 N6 c5 _ A6 N6 c6 _ (by omega) P5.out.rd P6.out.rd).mono ?_
            rintro e w11 ⟨rfl, hc11⟩
            go_wp2_with fail
            refine (sameL_true A2 n c2 ls A n c _ (by omega) (P2.out.chg hc11 (by simp)).rd (HR.out.chg (C10.trans0 hc11) (by simp))).mono ?_
            rintro e w12 ⟨rfl, hc12⟩
            have G12 := hc11.trans0 hc12
            have u12 := (hb10.chg G12 (by simp)).cell 0
            simp at u12
            go_wp2_with fail
            refine (gincident_any A n c ls node _ (HR.out.chg (C10.trans0 G12) (by simp)) (by omega) M HI.out).mono ?_
            rintro e w13 ⟨A13, c13, rfl, ho13, hc13, hn13⟩
            go_wp2_with fail
            refine (sameI_true A9 M c9 _ A13 M c13 _ (by omega) (P9.out.chg (G12.trans0 hc13) (by simp)).rd ho13.rd).mono ?_
            rintro e w14 ⟨rfl, hc14⟩
            have G14 := (G12.trans0 hc13).trans0 hc14
            have C14 := C10.trans0 G14
            have hb14 := hb10.chg G14 (by simp)
            have u14 := hb14.cell 0
            have v14 := hb14.cell 1
            simp at u14 v14
            clear u12 hown hch ho10 hc10 hn10 D10 ho13 hn13
            by_cases hen : ¬ ordE ls node [] ord = 0
            · have he6 : (E6 != 0) = true := by rw [HE4.out]; simpa using hen
              clear hen
              go_wp2
              go_ret
              exact ⟨rfl, C14⟩
            have he : ordE ls node [] ord = 0 := Decidable.not_not.1 hen
            clear hen
            have he6 : E6 = 0 := HE4.out.trans he
            subst he6
            by_cases hm0 : m = 0
            · have t2 : ((m : Int) == 0) = true := by simp [hm0]
              clear he hm0
              go_wp2
              go_ret
              exact ⟨rfl, C14⟩
            have t2 : ((m : Int) == 0) = false := by simp; omega
            have hG := lay_good he
            have HWW := Lib.hid (hG.1.walked hG.2)
            have h5 := P5.out.chg G14 (by simp)
            have h6 := P6.out.chg G14 (by simp)
            rw [thr, if_pos he] at h5 h6
            have H5 := Lib.hid h5
            have H6 := Lib.hid h6
            clear he hG h5 h6
            obtain ⟨ad, x, rfl, hx, hcx⟩ := rd_int (HO.out.chg C14 (by simp)) (show 0 < m by omega)
            have hwx : walk (layG ls node ord ord) node x = (ord, 0) := by
              have := HWW.out
              rw [hx] at this
              exact this
            have HWX := Lib.hid hwx
            have hpos : (0 : Int) < m := by omega
            have hpos2 : ¬ ((m : Int) ≤ 0) := by omega
            have hpos3 : ((m : Int) ≤ 0) = False := by simp; omega
            have hpos4 : 0 < m := by omega
            have hcy : w14.cell? ad = some (.int .i64 x) := hcx
            clear hx hwx hcx
            go_wp2_with fail
            go_region_held3 (fun w' => w'.cell? ⟨w.heap.size, 0, none⟩ = some (.int .i64 node) ∧ w'.cell? ⟨w.heap.size, 1, none⟩ = some (.slice (some ad) m d) ∧ w'.cell? ad = some (.int .i64 x)) (first | exact ⟨by assumption, by assumption, by assumption⟩ | go_keep)
              (first
              | (go_at_call 18; (with_reducible refine (walk_any A5 N6 c5 _ node x _ (H5.out.chg ((Chg.refl [] _).drew) (by simp)).rd (by omega)).mono ?_); rintro e w15 ⟨A15, N15, c15, E15, rfl, hE15, ho15, hN15, hc15, hn15⟩; have HE15 := Lib.hid hE15; have HN15 := Lib.hid hN15; clear hE15 hN15; have G15 := ((Chg.refl [] w14).drew).trans0 hc15; have hb15 := hb14.chg G15 (by simp); have s0 := hb15.cell 0; have s1 := hb15.cell 1; simp at s0 s1; have s2 := G15.cell hcy (by simp)))
            all_goals
              have hE : E15 = 0 := by have := HE15.out; rw [HWX.out] at this; exact this
              have hN : N15 = m := by have := HN15.out; rw [HWX.out] at this; exact this.trans HM.out
              rw [HWX.out] at ho15
              subst hE
              subst hN
              have C15 := C14.trans0 G15
              have H15 := Lib.hid ho15
              have HS15 := Lib.hid (show ∀ k ∈ bo A15, w.heap.size ≤ k from fun k hk => by have h1 := hn15 k hk; have h2 := C14.size; simp at h1; omega)
              clear ho15 hn15 hc15
              go_wp2_with fail
              go_region_held3 (fun w' => w'.cell? ⟨w.heap.size, 0, none⟩ = some (.int .i64 node) ∧ w'.cell? ⟨w.heap.size, 1, none⟩ = some (.slice (some ad) N15 d) ∧ w'.cell? ad = some (.int .i64 x)) (first | exact ⟨by assumption, by assumption, by assumption⟩ | go_keep)
                (first
                | (go_at_call 18; (with_reducible refine (walk_any A5 N6 c5 _ node x _ (H5.out.chg G15.drew (by simp)).rd (by omega)).mono ?_); rintro e w16 ⟨A16, N16, c16, E16, rfl, hE16, ho16, hN16, hc16, hn16⟩; have HE16 := Lib.hid hE16; have HN16 := Lib.hid hN16; clear hE16 hN16; have G16 := ((Chg.refl [] w15).drew).trans0 hc16; have hb16 := hb15.chg G16 (by simp); have z0 := hb16.cell 0; have z1 := hb16.cell 1; simp at z0 z1; have z2 := G16.cell s2 (by simp)))
              all_goals
                have hE : E16 = 0 := by have := HE16.out; rw [HWX.out] at this; exact this
                have hN : N16 = N15 := by have := HN16.out; rw [HWX.out] at this; exact this.trans HM.out
                rw [HWX.out] at ho16
                subst hE
                subst hN
                have C16 := C15.trans0 G16
                have h15 := H15.out.chg G16 (by simp)
                have h5 := H5.out.chg (G15.trans0 G16) (by simp)
                have h6 := H6.out.chg (G15.trans0 G16) (by simp)
                have X16 := Lib.hid (show ∀ k ∈ bo A16, k ∉ bo A15 from fun k hk hk2 => by have h1 := H15.out.lt k hk2; have h2 := hn16 k hk; simp at h2; omega)
                have X5 := Lib.hid (h5.own_ne h15 (by decide))
                have X6 := Lib.hid (h6.own_ne h15 (by decide))
                have Xb := Lib.hid (show w.heap.size ∉ bo A15 from fun hh => h15.blk_ne hb16 (by decide) _ hh rfl)
                have Y15 := Lib.hid h15
                have Y5 := Lib.hid h5
                have Y6 := Lib.hid h6
                have Y16 := Lib.hid ho16
                clear h15 h5 h6 ho16 hn16 hc16 z0 z1 z2 s0 s1 s2 G15 G16
                go_wp2
                go_loopw [137] (fun q wr => ∃ (k : Nat) (L : List Value), k ≤ N16 ∧ q = .int .i64 k ∧ Own wr 3 1 A15 N16 c15 L ∧ Chg (bo A15) w16 wr) (fun q _ => N16 - (intOf q).toNat)
                case atStart => exact ⟨0, _, Nat.zero_le _, rfl, Y15.out, Chg.refl _ _⟩
                case round =>
                  obtain ⟨k, L, hk, rfl, hown, hch⟩ := hrel
                  by_cases hlt : k < N16
                  · obtain ⟨vd, u, rfl, hx, hcx, hfz, hset⟩ := hown.at1 hlt
                    have HX := Lib.hid hx
                    have HS := Lib.hid hset
                    clear hx hset
                    go_wp2
                    go_roundw
                    case rel => exact ⟨k + 1, _, by omega, by go_num, HS.out _, hch.setCell (.inl (by rw [add_block]; simp)) _⟩
                    case measure => simp [intOf]; omega
                  · obtain ⟨wo2, hwo2⟩ : ∃ wo : World, wo = wr := ⟨_, rfl⟩
                    subst hwo2
                    go_wp2_with (at_builtin; refine wpList_app rfl _ _ rfl etyInts rfl (hown.chg ((Chg.refl [] wo2).alloc _) (fun _ _ => List.not_mem_nil)) rfl (Own.lit wo2 3 1 #[.int .i64 (-9), .int .i64 (-9)] 2 (by decide) rfl).rd (by simp [Value.oneCell']) (by unfold maxLen; omega) (by omega) ?_; intro A17 c17 w17 ho17 hc17 hn17 _; have D17 := (hch.alloc (.cells #[.int .i64 (-9), .int .i64 (-9)] 3)).trans hc17 (fun x hx => .inl hx); have C17 : Chg [] w w17 := C16.trans D17 (fun x hx => .inr (HS15.out x hx)); have hb17 := hb16.chg D17 Xb.out; have p1 := hb17.cell 1; simp at p1)
                    refine (sameI_true A16 N16 c16 ord (some ad) N16 d _ (by omega) (Y16.out.chg D17 X16.out).rd (HO.out.chg C17 (by simp))).mono ?_
                    rintro e w18 ⟨rfl, hc18⟩
                    go_wp2_with fail
                    refine (sameL_true A5 N6 c5 _ A6 N6 c6 _ (by omega) ((Y5.out.chg D17 X5.out).chg hc18 (by simp)).rd ((Y6.out.chg D17 X6.out).chg hc18 (by simp)).rd).mono ?_
                    rintro e w19 ⟨rfl, hc19⟩
                    go_wp2
                    go_ret
                    exact ⟨rfl, (C17.trans0 hc18).trans0 hc19⟩
end Go.Proofs.Ythlpojaohdpjgaa
