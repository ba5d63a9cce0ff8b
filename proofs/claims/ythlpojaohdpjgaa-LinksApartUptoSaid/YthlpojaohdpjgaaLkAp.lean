/-
  Layer 13: LinksApart's walk.
-/
import Derived.Test.YthlpojaohdpjgaaLkX
import Derived.Test.YthlpojaohdpjgaaLkP
import Derived.Test.YthlpojaohdpjgaaLkPl
import Derived.Deep.RegionHeld3
import Derived.Deep.RegionLaw
namespace Go.Proofs.Ythlpojaohdpjgaa
open Go.RowKit

set_option maxRecDepth 100000 in
set_option maxHeartbeats 3200000 in
theorem lkapart_any (A : Option Addr) (n c : Nat) (ls : List Lk) (na : Int) (Ba : Option Addr) (ma da : Nat) (oa : List Int) (nb : Int) (Bb : Option Addr) (mb db : Nat) (ob : List Int) (w : World) (hrd : Rd w 7 A n c (lvs ls)) (hn : n ≤ 1073741824)
    (hoa : Rd w 1 Ba ma da (iv oa)) (hma : ma ≤ 1073741824) (hob : Rd w 1 Bb mb db (iv ob)) (hmb : mb ≤ 1073741824) :
    Calls Try.prog 7 #[.slice A n c, .agg #[.int .i64 na, .slice Ba ma da], .agg #[.int .i64 nb, .slice Bb mb db]] w fun e w' => e = .returned (.bool true) ∧ Chg [] w w' := by
  have hl : ls.length = n := by have := hrd.1; rw [lvs_length] at this; omega
  have hal : oa.length = ma := by have := hoa.1; simp at this; omega
  have HL := Lib.hid hl
  have HAL := Lib.hid hal
  have HR := Lib.hid hrd
  have HA := Lib.hid hoa
  have HB := Lib.hid hob
  clear hl hal hrd hoa hob
  go_enter Try.func7, Try.ntmps7
  go_wp2_with fail
  have hbA := (Blk.new w 31 #[.int .i64 na, .slice Ba ma da]).alloc (.cells #[.int .i64 nb, .slice Bb mb db] 31)
  have hbB := Blk.new (w.alloc (.cells #[.int .i64 na, .slice Ba ma da] 31)) 31 #[.int .i64 nb, .slice Bb mb db]
  refine (lspeaks_any _).mono ?_
  rintro e w1 ⟨rfl, hc1⟩
  have hb1 := hbA.chg hc1 (by simp)
  have hbB1 := hbB.chg hc1 (by simp)
  have hc1' := (((Chg.refl [] w).alloc (.cells #[.int .i64 na, .slice Ba ma da] 31)).alloc (.cells #[.int .i64 nb, .slice Bb mb db] 31)).trans0 hc1
  simp at hbB1
  have a0 := hb1.cell 0
  have a1 := hb1.cell 1
  have b0 := hbB1.cell 0
  have b1 := hbB1.cell 1
  simp at a0 a1 b0 b1
  clear hbA hbB
  by_cases hnn : na = nb
  · have t1 : (na == nb) = true := by simp [hnn]
    clear hnn
    go_wp2
    go_ret
    exact ⟨rfl, hc1'⟩
  have t1 : (na == nb) = false := by simp [hnn]
  have HNN := Lib.hid hnn
  clear hnn
  by_cases hm0 : ma = 0
  · have t2 : ((ma : Int) == 0) = true := by simp [hm0]
    clear hm0
    go_wp2
    go_ret
    exact ⟨rfl, hc1'⟩
  have t2 : ((ma : Int) == 0) = false := by simp; omega
  have hlt1 := hb1.lt
  go_wp2_with fail
  go_region_held3 (fun w' => w'.cell? ⟨w.heap.size, 0, none⟩ = some (.int .i64 na) ∧ w'.cell? ⟨w.heap.size, 1, none⟩ = some (.slice Ba ma da)) (first | exact ⟨by assumption, by assumption⟩ | go_keep)
    (first
    | (go_at_call 16; (with_reducible refine (thread_any A2 n c2 ls na A3 ma c3 oa _ hos.rd hn (by simpa using ho3.rd) (by omega)).mono ?_); rintro e w4 ⟨A4, N4, c4, E4, rfl, hE4, ho4, hN4, hc4, hn4⟩; have HE4 := Lib.hid hE4; have HN4 := Lib.hid hN4; clear hE4 hN4; have hb4 := hb3.chg hc4 (by simp); have D4 := D3.trans0 hc4; have u4 := hb4.cell 0; have v4 := hb4.cell 1; simp at u4 v4)
    | (go_at_call 16; (with_reducible refine (thread_any A2 n c2 ls na A3 (0 + ma) c3 oa _ hos.rd hn (by simpa using ho3.rd) (by omega)).mono ?_); rintro e w4 ⟨A4, N4, c4, E4, rfl, hE4, ho4, hN4, hc4, hn4⟩; have HE4 := Lib.hid hE4; have HN4 := Lib.hid hN4; clear hE4 hN4; have hb4 := hb3.chg hc4 (by simp); have D4 := D3.trans0 hc4; have u4 := hb4.cell 0; have v4 := hb4.cell 1; simp at u4 v4)
    | (refine step_app rfl _ _ rfl etyInts rfl (Own.lit w2 3 1 #[] 0 (by decide) rfl) rfl (HA.out.chg ((hc1'.trans0 D2).alloc (.cells #[] 3)) (by simp)) (iv_one oa) (by unfold maxLen; omega) (by omega) ?_; intro A3 c3 w3 ho3 hc3 hn3 _; have D3 := (D2.alloc (.cells #[] 3)).trans hc3 (by simp; have q2 := D2.size; omega); have hb3 := (hb2.alloc (.cells #[] 3)).chg hc3 (by simp; have q2 := hc2.size; simp at q2; omega); have hos := (ho2.chg ((Chg.refl [] w2).alloc (.cells #[] 3)) (by simp)).chg hc3 ((ho2.chg ((Chg.refl [] w2).alloc (.cells #[] 3)) (by simp)).own_ne (Own.lit w2 3 1 #[] 0 (by decide) rfl) (by decide)); have v3 := hb3.cell 1; have u3 := hb3.cell 0; simp at v3 u3)
    | (go_at_call 11; (with_reducible refine (lcopied_any A n c ls _ hn (HR.out.chg hc1'.drew (by simp))).mono ?_); rintro e w2 ⟨A2, c2, rfl, ho2, hc2, hn2⟩; have hb2 := hb1.drew.chg hc2 (by simp); have D2 := ((Chg.refl [] w1).drew).trans0 hc2; have v1 := hb2.cell 1; have u1 := hb2.cell 0; simp at v1 u1)
    | (refine step_app rfl _ _ rfl etyInts rfl hol rfl (HA.out.chg (hc1'.trans0 D2) (by simp)) (iv_one oa) (by unfold maxLen; omega) (by omega) ?_; intro A3 c3 w3 ho3 hc3 hn3 _; have D3 := D2.trans hc3 (by simp); have hb3 := hb2.chg hc3 (by simp; omega); have hos := ho2.chg hc3 (ho2.own_ne hol (by decide)); have v3 := hb3.cell 1; have u3 := hb3.cell 0; simp at v3 u3)
    | (go_at_call 11; (with_reducible refine (lcopied_any A n c ls _ hn (HR.out.chg (hc1'.alloc (.cells #[] 3)).drew (by simp))).mono ?_); rintro e w2 ⟨A2, c2, rfl, ho2, hc2, hn2⟩; have hol := ((Own.lit w1 3 1 #[] 0 (by decide) rfl).chg ((Chg.refl [] _).drew) (by simp)).chg hc2 (by simp); have hb2 := ((hb1.alloc (.cells #[] 3)).drew).chg hc2 (by simp); have D2 := ((Chg.refl [] w1).alloc (.cells #[] 3)).drew.trans0 hc2; have v1 := hb2.cell 1; have u1 := hb2.cell 0; simp at v1 u1))
  all_goals
    have HO4x := Lib.hid ho4
    have hbB4 := hbB1.chg D4 (by simp)
    have x0 := hbB4.cell 0
    have x1 := hbB4.cell 1
    simp at x0 x1
    clear ho4 ho3 hos hn3 hn4 hc3 ho2 hn2 hc2
    by_cases hen : ¬ ordE ls na [] oa = 0
    · have he := hen
      have he4 : (E4 != 0) = true := by rw [HE4.out]; simpa using he
      clear he hen
      go_wp2
      go_ret
      exact ⟨rfl, hc1'.trans0 D4⟩
    have he : ordE ls na [] oa = 0 := Decidable.not_not.1 hen
    clear hen
    obtain rfl : E4 = 0 := HE4.out.trans he
    obtain rfl : N4 = n := by have := HN4.out; rw [thr, if_pos he, layG_length, HL.out] at this; exact this
    have ho5 := HO4x.out
    rw [thr, if_pos he] at ho5
    have HO4 := Lib.hid ho5
    have HGA := Lib.hid (lay_good he)
    clear he ho5
    go_wp2_with fail
    go_region_held3 (fun w' => w'.cell? ⟨w.heap.size + 1, 0, none⟩ = some (.int .i64 nb) ∧ w'.cell? ⟨w.heap.size + 1, 1, none⟩ = some (.slice Bb mb db)) (first | exact ⟨by assumption, by assumption⟩ | go_keep)
      (first
      | (go_at_call 16; (with_reducible refine (thread_any A4 N4 c4 _ nb A6 mb c6 ob _ (HO4.out.chg G6 (by simp)).rd hn (by simpa using ho6.rd) (by omega)).mono ?_); rintro e w7 ⟨A7, N7, c7, E7, rfl, hE7, ho7, hN7, hc7, hn7⟩; have HE7 := Lib.hid hE7; have HN7 := Lib.hid hN7; clear hE7 hN7; have G7 := G6.trans0 hc7; have hbB7 := hbB4.chg G7 (by simp); have x8 := hbB7.cell 0; have x9 := hbB7.cell 1; simp at x8 x9)
      | (go_at_call 16; (with_reducible refine (thread_any A4 N4 c4 _ nb A6 (0 + mb) c6 ob _ (HO4.out.chg G6 (by simp)).rd hn (by simpa using ho6.rd) (by omega)).mono ?_); rintro e w7 ⟨A7, N7, c7, E7, rfl, hE7, ho7, hN7, hc7, hn7⟩; have HE7 := Lib.hid hE7; have HN7 := Lib.hid hN7; clear hE7 hN7; have G7 := G6.trans0 hc7; have hbB7 := hbB4.chg G7 (by simp); have x8 := hbB7.cell 0; have x9 := hbB7.cell 1; simp at x8 x9)
      | (refine step_app rfl _ _ rfl etyInts rfl ((Own.lit w4 3 1 #[] 0 (by decide) rfl).chg ((Chg.refl [] _).drew) (by simp)) rfl (HB.out.chg (((hc1'.trans0 D4).alloc (.cells #[] 3)).drew) (by simp)) (iv_one ob) (by unfold maxLen; omega) (by omega) ?_; intro A6 c6 w6 ho6 hc6 hn6 _; have G6 := (((Chg.refl [] w4).alloc (.cells #[] 3)).drew).trans hc6 (by simp); have hbB6 := (hbB4.chg (((Chg.refl [] w4).alloc (.cells #[] 3)).drew) (by simp)).chg hc6 (by simp; have q9 := hbB4.lt; omega); have x6 := hbB6.cell 0; have x7 := hbB6.cell 1; simp at x6 x7)
      | (refine step_app rfl _ _ rfl etyInts rfl (Own.lit w4.drew 3 1 #[] 0 (by decide) rfl) rfl (HB.out.chg (((hc1'.trans0 D4).drew).alloc (.cells #[] 3)) (by simp)) (iv_one ob) (by unfold maxLen; omega) (by omega) ?_; intro A6 c6 w6 ho6 hc6 hn6 _; have G6 := (((Chg.refl [] w4).drew).alloc (.cells #[] 3)).trans hc6 (by simp); have hbB6 := (hbB4.chg (((Chg.refl [] w4).drew).alloc (.cells #[] 3)) (by simp)).chg hc6 (by simp; have q9 := hbB4.lt; omega); have x6 := hbB6.cell 0; have x7 := hbB6.cell 1; simp at x6 x7))
    all_goals
      have HO7 := Lib.hid ho7
      have hb7 := hb4.chg G7 (by simp)
      have m0 := hb7.cell 0
      have m1 := hb7.cell 1
      simp at m0 m1
      clear ho7 ho6 hn6 hn7 hc7 hc6
      by_cases hfn : ¬ ordE (layG ls na oa oa) nb [] ob = 0
      · have hf := hfn
        have he7 : (E7 != 0) = true := by rw [HE7.out]; simpa using hf
        clear hf hfn
        go_wp2
        go_ret
        exact ⟨rfl, (hc1'.trans0 D4).trans0 G7⟩
      have hf : ordE (layG ls na oa oa) nb [] ob = 0 := Decidable.not_not.1 hfn
      clear hfn
      have he7 : E7 = 0 := HE7.out.trans hf
      subst he7
      have hn7 : N7 ≤ 1073741824 := by
        have h1 := HN7.out
        rw [thr, if_pos hf, layG_length, layG_length, HL.out] at h1
        omega
      have ho8 := HO7.out
      rw [thr, if_pos hf] at ho8
      obtain ⟨hG, hS⟩ := lay_apart HNN.out HGA.out.1 HGA.out.2 hf
      have HWW := Lib.hid (hG.walked hS)
      have HO8 := Lib.hid ho8
      clear hf hG hS ho8
      obtain ⟨ad, x, rfl, hx, hcx⟩ := rd_int (HA.out.chg ((hc1'.trans0 D4).trans0 G7) (by simp)) (show 0 < ma by omega)
      have HX := Lib.hid hx
      clear hx
      have hpos : (0 : Int) < ma := by omega
      have hpos2 : ¬ ((ma : Int) ≤ 0) := by omega
      have hpos3 : ((ma : Int) ≤ 0) = False := by simp; omega
      have hpos4 : 0 < ma := by omega
      have hcy : w7.cell? ad = some (.int .i64 x) := hcx
      go_wp2_with fail
      go_region_held3 (fun w' => w'.cell? ⟨w.heap.size, 0, none⟩ = some (.int .i64 na) ∧ w'.cell? ⟨w.heap.size, 1, none⟩ = some (.slice (some ad) ma da) ∧ w'.cell? ad = some (.int .i64 x)) (first | exact ⟨by assumption, by assumption, by assumption⟩ | go_keep)
        (first
        | (go_at_call 18; (with_reducible refine (walk_any A7 N7 c7 _ na x _ (HO8.out.chg ((Chg.refl [] _).drew) (by simp)).rd hn7).mono ?_); rintro e w8 ⟨A8, N8, c8, E8, rfl, hE8, ho8, hN8, hc8, hn8⟩; have HE8 := Lib.hid hE8; have HN8 := Lib.hid hN8; clear hE8 hN8; have G8 := ((Chg.refl [] w7).drew).trans0 hc8; have hb8 := hb7.chg G8 (by simp); have s0 := hb8.cell 0; have s1 := hb8.cell 1; simp at s0 s1; have s2 := G8.cell hcy (by simp)))
      all_goals
        have hwx : walk (layG (layG ls na oa oa) nb ob ob) na x = (oa, 0) := by
          have := HWW.out
          rw [HX.out] at this
          exact this
        have he8 : E8 = 0 := by have := HE8.out; rw [hwx] at this; exact this
        have hn8' : N8 = ma := by have := HN8.out; rw [hwx] at this; exact this.trans HAL.out
        rw [hwx] at ho8
        subst he8
        subst hn8'
        clear hwx hn8
        go_wp2_with fail
        refine (sameI_true A8 N8 c8 oa (some ad) N8 da _ (by omega) ho8.rd (HA.out.chg (((hc1'.trans0 D4).trans0 G7).trans0 G8) (by simp))).mono ?_
        rintro e w9 ⟨rfl, hc9⟩
        go_wp2
        go_ret
        exact ⟨rfl, (((hc1'.trans0 D4).trans0 G7).trans0 G8).trans0 hc9⟩
end Go.Proofs.Ythlpojaohdpjgaa
