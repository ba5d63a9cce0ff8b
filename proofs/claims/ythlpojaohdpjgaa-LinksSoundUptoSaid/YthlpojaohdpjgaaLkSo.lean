/-
  Layer 13: LinksSound's walk.
-/
import Derived.Test.YthlpojaohdpjgaaLkX
import Derived.Test.YthlpojaohdpjgaaLkV
import Derived.Test.YthlpojaohdpjgaaLkPl
import Derived.Deep.OwnRows
import Derived.Laws.OwnMore
namespace Go.Proofs.Ythlpojaohdpjgaa
open Go.RowKit

set_option maxRecDepth 100000 in
set_option maxHeartbeats 3200000 in
theorem lksound_any (A : Option Addr) (n c : Nat) (ls : List Lk) (node head : Int) (w : World) (hrd : Rd w 7 A n c (lvs ls)) (hn : n ≤ 1073741823) :
    Calls Try.prog 8 #[.slice A n c, .int .i64 node, .int .i64 head] w fun e w' => e = .returned (.bool true) ∧ Chg [] w w' := by
  have hl : ls.length = n := by have := hrd.1; rw [lvs_length] at this; omega
  have HL := Lib.hid hl
  have HR := Lib.hid hrd
  have HWL := Lib.hid (walk_len ls node head)
  clear hrd hl
  have hmk := run_make_row' (P := Try.prog) 44 4 (.bool false) 1 Try.underlying44 (by kernel_rfl) rfl .i64 .i64 n (by omega) (by omega)
  go_enter Try.func8, Try.ntmps8
  go_wp2_with fail
  refine (lspeaks_any _).mono ?_
  rintro e w1 ⟨rfl, hc1⟩
  go_wp2_with fail
  refine (lcopied_any A n c ls _ (by omega) (HR.out.chg hc1 (by simp))).mono ?_
  rintro e w2 ⟨A2, c2, rfl, ho2, hc2, hn2⟩
  go_wp2_with fail
  refine (walk_any A2 n c2 ls node head _ ho2.rd (by omega)).mono ?_
  rintro e w3 ⟨A3, N3, c3, E3, rfl, hE3, ho3, hN3, hc3, hn3⟩
  have C3 : Chg [] w w3 := (hc1.trans0 hc2).trans0 hc3
  obtain ⟨s1, s2⟩ := walk_sound (ls := ls) (node := node) (head := head)
  by_cases he : (walk ls node head).2 = 0
  · obtain ⟨hG, hH⟩ := s1 he
    obtain rfl : E3 = 0 := hE3.trans he
    obtain ⟨res, hres⟩ : ∃ res, (walk ls node head).1 = res := ⟨_, rfl⟩
    have hrl := HWL.out
    rw [hres] at hG hH ho3 hN3 hrl
    have HG := Lib.hid hG
    have HHD := Lib.hid hH
    have HN3 := Lib.hid hN3
    have HO3 := Lib.hid ho3
    have q3 : N3 ≤ n := by have := hG.len; have := HL.out; omega
    have hA3 := ho3.lt
    have HA3 := Lib.hid hA3
    clear hE3 he hG hH hN3 ho3 hres hrl s1 s2 hn3 hn2 ho2 hc3 hc2 hc1 hA3
    obtain ⟨w4, hw4⟩ : ∃ w4 : World, w4 = w3.alloc (.cells (madeCells #[.bool false] n) 4) := ⟨_, rfl⟩
    have hm4 : Own w4 4 1 (some ⟨w3.heap.size, 0, none⟩) n n (metb n (res.take 0)) := by
      rw [hw4]
      have := Own.lit w3 4 1 (madeCells #[.bool false] n) n (by unfold maxLen; omega) (by rw [size_madeCells, Nat.mul_one])
      rw [toList_madeCells_one] at this
      rw [List.take_zero, metb_nil]; exact this
    have C4 : Chg [] w w4 := by rw [hw4]; exact C3.alloc _
    have ho4 : Own w4 3 1 A3 N3 c3 (iv res) := by rw [hw4]; exact HO3.out.chg ((Chg.refl [] w3).alloc _) (by simp)
    have HGW := Lib.hid (show w.heap.size ≤ w3.heap.size from C3.size)
    have HGA := Lib.hid (show ∀ k ∈ bo A3, k ∉ [w3.heap.size] from fun k hk => by have := HA3.out k hk; simp; omega)
    have HM4 := Lib.hid hm4
    have HO4 := Lib.hid ho4
    have HC4 := Lib.hid C4
    clear hm4 ho4 C4
    go_wp2
    rw [← hw4]
    clear hw4
    go_loopw [32] (fun q wr => ∃ k : Nat, k ≤ N3 ∧ q = .int .i64 k ∧ Own wr 4 1 (some ⟨w3.heap.size, 0, none⟩) n n (metb n (res.take k)) ∧ Chg [w3.heap.size] w4 wr) (fun q _ => N3 - (intOf q).toNat)
    case atStart => exact ⟨0, Nat.zero_le _, rfl, HM4.out, Chg.refl _ _⟩
    case round =>
      obtain ⟨k, hk, rfl, hom, hch⟩ := hrel
      have CW : Chg [] w wr := HC4.out.trans hch (by simp; exact HGW.out)
      by_cases hlt : k < N3
      · obtain ⟨rd, id, rfl, hid, hcell⟩ := rd_int ((HO4.out.chg hch HGA.out).rd) hlt
        obtain ⟨h0, l, hl, hv, ht, _⟩ := HG.out.at_ k id hid
        obtain ⟨j, rfl⟩ := Int.eq_ofNat_of_zero_le h0
        simp only [Int.toNat_natCast] at hl
        obtain ⟨ad, rfl, x0, x1, x2, x3, x4, x5, x6⟩ := (HR.out.chg CW (by simp)).lk hl
        have qj : j < n := by
          have := (List.getElem?_eq_some_iff.1 hl).1
          have := HL.out
          omega
        have qj2 : (j : Int) < n := by omega
        have hnm : (j : Int) ∉ res.take k := by
          intro hh
          obtain ⟨s, hs⟩ := List.getElem?_of_mem hh
          have hs2 : s < (res.take k).length := (List.getElem?_eq_some_iff.1 hs).1
          rw [List.length_take] at hs2
          rw [List.getElem?_take, if_pos (by omega)] at hs
          have := (List.getElem?_inj (i := s) (j := k) (by omega) HG.out.nodup).1 (by rw [hs, hid])
          omega
        obtain ⟨md, u, hmd, hu, hcu, hfz, hset⟩ := hom.at1 qj
        rw [metb_at _ _ _ qj, show decide ((j : Int) ∈ res.take k) = false by simp [hnm]] at hu
        injection hmd with hmd
        injection hu with hu
        rw [← hmd] at hcu hfz hset
        rw [← hu] at hcu
        rw [hv] at x0
        simp only [add_zero', Nat.zero_add] at hcu hfz hset
        have HSET := Lib.hid hset
        have HID := Lib.hid hid
        clear hmd hu hnm hset hid hl hv x3 x4 x5 x6 h0
        by_cases hsn : l.src = node
        · have e1 : (l.src != node) = false := by simp [hsn]
          clear hsn ht
          by_cases hk0 : k = 0
          · have e0 : ((k : Int) == 0) = true := by simp [hk0]
            have eh : ((j : Int) != head) = false := by
              have h1 := HID.out
              rw [hk0] at h1
              have h2 := HHD.out
              split at h2
              · rw [h2] at h1; cases h1
              · obtain ⟨r, hr⟩ := h2
                rw [hr] at h1
                simp at h1
                simp [h1]
            clear hk0
            go_wp2
            go_roundw
            case rel => exact ⟨k + 1, by omega, by go_num, by rw [← metb_set _ _ _ _ HID.out]; exact HSET.out _, hch.setCell (.inl (by simp)) _⟩
            case measure => simp [intOf]; omega
          · have e0 : ((k : Int) == 0) = false := by simp; omega
            clear hk0
            go_wp2
            go_roundw
            case rel => exact ⟨k + 1, by omega, by go_num, by rw [← metb_set _ _ _ _ HID.out]; exact HSET.out _, hch.setCell (.inl (by simp)) _⟩
            case measure => simp [intOf]; omega
        · have e1 : (l.src != node) = true := by simp [hsn]
          have e2 : (l.dst != node) = false := by simp [Lk.touches, hsn] at ht; simp [ht]
          clear hsn ht
          by_cases hk0 : k = 0
          · have e0 : ((k : Int) == 0) = true := by simp [hk0]
            have eh : ((j : Int) != head) = false := by
              have h1 := HID.out
              rw [hk0] at h1
              have h2 := HHD.out
              split at h2
              · rw [h2] at h1; cases h1
              · obtain ⟨r, hr⟩ := h2
                rw [hr] at h1
                simp at h1
                simp [h1]
            clear hk0
            go_wp2
            go_roundw
            case rel => exact ⟨k + 1, by omega, by go_num, by rw [← metb_set _ _ _ _ HID.out]; exact HSET.out _, hch.setCell (.inl (by simp)) _⟩
            case measure => simp [intOf]; omega
          · have e0 : ((k : Int) == 0) = false := by simp; omega
            clear hk0
            go_wp2
            go_roundw
            case rel => exact ⟨k + 1, by omega, by go_num, by rw [← metb_set _ _ _ _ HID.out]; exact HSET.out _, hch.setCell (.inl (by simp)) _⟩
            case measure => simp [intOf]; omega
      · have hkm : k = N3 := by omega
        subst hkm
        obtain ⟨M, hM⟩ : ∃ M, (incident ls node).length = M := ⟨_, rfl⟩
        have hle : k ≤ M := by rw [HN3.out, ← hM]; exact HG.out.inc
        have hle' : (k : Int) ≤ M := by omega
        have HM := Lib.hid hM
        clear hM
        go_wp2_with fail
        refine (lcopied_any A n c ls _ (by omega) (HR.out.chg CW (by simp))).mono ?_
        rintro e w5 ⟨A5, c5, rfl, ho5, hc5, hn5⟩
        go_wp2_with fail
        refine (incident_any A5 n c5 ls node _ ho5.rd (by omega) M HM.out).mono ?_
        rintro e w6 ⟨A6, c6, rfl, ho6, hc6, hn6⟩
        have hhd := HHD.out
        have hkr := HN3.out
        by_cases hh : head = -1
        · rw [if_pos hh] at hhd
          have k0 : ((k : Int) == 0) = true := by rw [hkr, hhd]; rfl
          have h1 : (head == -1) = true := by simp [hh]
          clear hhd hkr hh
          go_wp2
          go_ret
          exact ⟨rfl, (CW.trans0 hc5).trans0 hc6⟩
        · rw [if_neg hh] at hhd
          obtain ⟨r, hr⟩ := hhd
          have k0 : ((k : Int) == 0) = false := by rw [hkr, hr]; simp; omega
          have h1 : (head == -1) = false := by simp [hh]
          clear hr hkr hh
          go_wp2
          go_ret
          exact ⟨rfl, (CW.trans0 hc5).trans0 hc6⟩
  · have he3 : (E3 != 0) = true := by rw [hE3]; simpa using he
    have hn0 : N3 = 0 := by rw [hN3, s2 he]; rfl
    subst hn0
    clear he hE3 hN3 s1 s2
    go_wp2
    go_ret
    exact ⟨rfl, C3⟩
end Go.Proofs.Ythlpojaohdpjgaa
