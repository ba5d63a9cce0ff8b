/-
  Layer 13: LinksThere's walk.
-/
import Derived.Test.YthlpojaohdpjgaaLkX
import Derived.Test.YthlpojaohdpjgaaLkP
import Derived.Test.YthlpojaohdpjgaaLkPl
import Derived.Deep.RegionHeld3
import Derived.Deep.RegionLaw
namespace Go.Proofs.Ythlpojaohdpjgaa
open Go.RowKit

def hdAt (ord : List Int) (k : Nat) : Int := if k = 0 then -1 else ord[0]?.getD (-1)

set_option maxRecDepth 100000 in
set_option maxHeartbeats 12800000 in
theorem lkthere_any (A : Option Addr) (n c : Nat) (ls : List Lk) (node : Int) (B : Option Addr) (m d : Nat) (ord : List Int) (w : World) (hrd : Rd w 7 A n c (lvs ls)) (hn : n ≤ 1073741824) (hor : Rd w 1 B m d (iv ord)) (hm : m ≤ 1073741824) :
    Calls Try.prog 6 #[.slice A n c, .agg #[.int .i64 node, .slice B m d]] w fun e w' => e = .returned (.bool true) ∧ Chg [] w w' := by
  have hl : ls.length = n := by have := hrd.1; rw [lvs_length] at this; omega
  have hol0 : ord.length = m := by have := hor.1; simp at this; omega
  have HL := Lib.hid hl
  have HM := Lib.hid hol0
  clear hl hol0
  have HR := Lib.hid hrd
  have HO := Lib.hid hor
  clear hrd hor
  go_enter Try.func6, Try.ntmps6
  go_wp2_with fail
  have hb0 := Blk.new w 31 #[.int .i64 node, .slice B m d]
  refine (lspeaks_any _).mono ?_
  rintro e w1 ⟨rfl, hc1⟩
  have hb1 := hb0.chg hc1 (by simp)
  have hc1' := ((Chg.refl [] w).alloc (.cells #[.int .i64 node, .slice B m d] 31)).trans0 hc1
  have b0 := hb1.cell 0
  have b1 := hb1.cell 1
  simp at b0 b1
  go_wp2_with fail
  clear hb0
  have hlt1 := hb1.lt
  go_region_held3 (fun w' => w'.cell? ⟨w.heap.size, 0, none⟩ = some (.int .i64 node) ∧ w'.cell? ⟨w.heap.size, 1, none⟩ = some (.slice B m d)) (first | exact ⟨by assumption, by assumption⟩ | go_keep)
    (first
    | (go_at_call 16; (with_reducible refine (thread_any A2 n c2 ls node A3 m c3 ord _ hos.rd hn (by simpa using ho3.rd) (by omega)).mono ?_); rintro e w4 ⟨A4, N4, c4, E4, rfl, hE4, ho4, hN4, hc4, hn4⟩; have HE4 := Lib.hid hE4; have HN4 := Lib.hid hN4; clear hE4 hN4; have hb4 := hb3.chg hc4 (by simp); have C4 := C3.trans0 hc4; have u4 := hb4.cell 0; have v4 := hb4.cell 1; simp at u4 v4)
    | (go_at_call 16; (with_reducible refine (thread_any A2 n c2 ls node A3 (0 + m) c3 ord _ hos.rd hn (by simpa using ho3.rd) (by omega)).mono ?_); rintro e w4 ⟨A4, N4, c4, E4, rfl, hE4, ho4, hN4, hc4, hn4⟩; have HE4 := Lib.hid hE4; have HN4 := Lib.hid hN4; clear hE4 hN4; have hb4 := hb3.chg hc4 (by simp); have C4 := C3.trans0 hc4; have u4 := hb4.cell 0; have v4 := hb4.cell 1; simp at u4 v4)
    | (refine step_app rfl _ _ rfl etyInts rfl (Own.lit w2 3 1 #[] 0 (by decide) rfl) rfl (HO.out.chg (C2.alloc (.cells #[] 3)) (by simp)) (iv_one ord) (by unfold maxLen; omega) (by omega) ?_; intro A3 c3 w3 ho3 hc3 hn3 _; have C3 := (C2.alloc (.cells #[] 3)).trans hc3 (by simp; have q2 := C2.size; omega); have hb3 := (hb2.alloc (.cells #[] 3)).chg hc3 (by simp; have q2 := hc2.size; simp at q2; omega); have hos := (ho2.chg ((Chg.refl [] w2).alloc (.cells #[] 3)) (by simp)).chg hc3 ((ho2.chg ((Chg.refl [] w2).alloc (.cells #[] 3)) (by simp)).own_ne (Own.lit w2 3 1 #[] 0 (by decide) rfl) (by decide)); have v3 := hb3.cell 1; have u3 := hb3.cell 0; simp at v3 u3)
    | (go_at_call 11; (with_reducible refine (lcopied_any A n c ls _ hn (HR.out.chg hc1'.drew (by simp))).mono ?_); rintro e w2 ⟨A2, c2, rfl, ho2, hc2, hn2⟩; have hb2 := hb1.drew.chg hc2 (by simp); have C2 := hc1'.drew.trans0 hc2; have v1 := hb2.cell 1; have u1 := hb2.cell 0; simp at v1 u1)
    | (refine step_app rfl _ _ rfl etyInts rfl hol rfl (HO.out.chg C2 (by simp)) (iv_one ord) (by unfold maxLen; omega) (by omega) ?_; intro A3 c3 w3 ho3 hc3 hn3 _; have C3 := C2.trans hc3 (by simp; omega); have hb3 := hb2.chg hc3 (by simp; omega); have hos := ho2.chg hc3 (ho2.own_ne hol (by decide)); have v3 := hb3.cell 1; have u3 := hb3.cell 0; simp at v3 u3)
    | (go_at_call 11; (with_reducible refine (lcopied_any A n c ls _ hn (HR.out.chg (hc1'.alloc (.cells #[] 3)).drew (by simp))).mono ?_); rintro e w2 ⟨A2, c2, rfl, ho2, hc2, hn2⟩; have hol := ((Own.lit w1 3 1 #[] 0 (by decide) rfl).chg ((Chg.refl [] _).drew) (by simp)).chg hc2 (by simp); have hb2 := ((hb1.alloc (.cells #[] 3)).drew).chg hc2 (by simp); have C2 := (hc1'.alloc (.cells #[] 3)).drew.trans0 hc2; have v1 := hb2.cell 1; have u1 := hb2.cell 0; simp at v1 u1))
  all_goals
    have HO4 := Lib.hid ho4
    clear ho4 ho3 hos hn3 hn4 hc3 ho2 hn2 hc2
    by_cases he : ordE ls node [] ord = 0
    · have he4 : E4 = 0 := HE4.out.trans he
      have hnn : N4 = n := by have := HN4.out; rw [thr, if_pos he, layG_length, HL.out] at this; exact this
      subst he4
      subst hnn
      have ho5 := HO4.out
      rw [thr, if_pos he] at ho5
      obtain ⟨hG, hS⟩ := lay_good he
      have HG := Lib.hid hG
      have HSf := Lib.hid hS
      have H5 := Lib.hid ho5
      clear he ho5 hG hS
      go_wp2
      go_loopw [7, 41] (fun hv q wr => ∃ k : Nat, k ≤ m ∧ q = .int .i64 k ∧ hv = .int .i64 (hdAt ord k) ∧ Chg [] w4 wr) (fun _ q _ => m - (intOf q).toNat)
      case atStart => exact ⟨0, Nat.zero_le _, rfl, rfl, Chg.refl _ _⟩
      case round =>
        obtain ⟨k, hk, rfl, rfl, hch⟩ := hrel
        have u5 := (hb4.chg hch (by simp)).cell 0
        have v5 := (hb4.chg hch (by simp)).cell 1
        simp at u5 v5
        by_cases hlt : k < m
        · obtain ⟨bd, id, rfl, hid, hcell⟩ := rd_int (HO.out.chg (C4.trans0 hch) (by simp)) hlt
          have HID := Lib.hid hid
          clear hid
          by_cases hk0 : k = 0
          · have e0 : ((k : Int) == 0) = true := by simp [hk0]
            have HK0 := Lib.hid hk0
            clear hk0
            go_wp2
            go_roundw
            case rel =>
              refine ⟨k + 1, by omega, by go_num, ?_, hch⟩
              have := HID.out
              rw [HK0.out] at this
              simp [hdAt, this]
            case measure => simp [intOf]; omega
          · have e0 : ((k : Int) == 0) = false := by simp; omega
            have HK0 := Lib.hid hk0
            have HWI := Lib.hid (HG.out.walked_in HID.out (by have := HK0.out; omega))
            have hkd : hdAt ord (k + 1) = hdAt ord k := by unfold hdAt; rw [if_neg (by omega), if_neg HK0.out]
            have HKD := Lib.hid hkd
            clear hk0 hkd
            go_wp2_with fail
            refine (walk_any A4 N4 c4 _ node id _ (H5.out.chg hch (by simp)).rd hn).mono ?_
            rintro e w6 ⟨A6, N6, c6, E6, rfl, hE6, ho6, hN6, hc6, hn6⟩
            rw [HWI.out] at hE6
            obtain rfl : E6 = 101 := hE6
            go_wp2
            go_roundw
            case rel => exact ⟨k + 1, by omega, by go_num, by rw [HKD.out], hch.trans0 hc6⟩
            case measure => simp [intOf]; omega
        · have hkm : k = m := by omega
          subst hkm
          have hhd : hdAt ord k = ord[0]?.getD (-1) := by
            unfold hdAt
            split
            · rename_i h0
              have := HM.out
              rw [h0] at this
              rw [List.eq_nil_of_length_eq_zero this]; rfl
            · rfl
          have HHD := Lib.hid hhd
          have HWW := Lib.hid (HG.out.walked HSf.out)
          clear hhd
          go_wp2_with fail
          refine (walk_any A4 N4 c4 _ node _ _ (H5.out.chg hch (by simp)).rd hn).mono ?_
          rintro e w6 ⟨A6, N6, c6, E6, rfl, hE6, ho6, hN6, hc6, hn6⟩
          rw [HHD.out, HWW.out] at hE6 ho6 hN6
          have hE6k : E6 = 0 := hE6
          subst hE6k
          have hN6k : N6 = k := hN6.trans HM.out
          clear hN6
          subst hN6k
          have v6 := (hb4.chg (hch.trans0 hc6) (by simp)).cell 1
          simp at v6
          go_wp2_with fail
          refine (sameI_true A6 N6 c6 ord B N6 d _ hm ho6.rd (HO.out.chg ((C4.trans0 hch).trans0 hc6) (by simp))).mono ?_
          rintro e w7 ⟨rfl, hc7⟩
          have hnn : ((N4 : Int) == N4) = true := by simp
          go_wp2
          go_ret
          exact ⟨rfl, ((C4.trans0 hch).trans0 hc6).trans0 hc7⟩
    · have he4 : (E4 != 0) = true := by rw [HE4.out]; simpa using he
      have hnn : N4 = 0 := by have := HN4.out; rw [thr, if_neg he] at this; exact this
      have hmp : 0 < m := by
        rcases Nat.eq_zero_or_pos m with h0 | h0
        · have := HM.out
          rw [h0] at this
          rw [List.eq_nil_of_length_eq_zero this] at he
          exact absurd rfl he
        · exact h0
      have hmp' : (0 : Int) < m := by omega
      subst hnn
      clear he
      go_wp2
      go_ret
      exact ⟨rfl, C4⟩
end Go.Proofs.Ythlpojaohdpjgaa
