/-
  Layer 13: LinksThreads' walk.
-/
import Derived.Test.YthlpojaohdpjgaaLkX
import Derived.Test.YthlpojaohdpjgaaLkP
import Derived.Test.YthlpojaohdpjgaaLkV
import Derived.Deep.RegionHeld3
import Derived.Deep.RegionLaw
namespace Go.Proofs.Ythlpojaohdpjgaa
open Go.RowKit

theorem thr_len (ls : List Lk) (node : Int) (ord : List Int) : (thr ls node ord).length ≤ ls.length := by
  unfold thr
  split
  · rw [layG_length]; exact Nat.le_refl _
  · simp

set_option maxHeartbeats 6400000 in
theorem lkthr_any (A : Option Addr) (n c : Nat) (ls : List Lk) (node : Int) (B : Option Addr) (m d : Nat) (ord : List Int) (w : World) (hrd : Rd w 7 A n c (lvs ls)) (hn : n ≤ 1073741824) (hor : Rd w 1 B m d (iv ord)) (hm : m ≤ 1073741824) :
    Calls Try.prog 4 #[.slice A n c, .agg #[.int .i64 node, .slice B m d]] w fun e w' => e = .returned (.bool true) ∧ Chg [] w w' := by
  have hl : ls.length = n := by have := hrd.1; rw [lvs_length] at this; omega
  have HTL := Lib.hid (show (thr ls node ord).length ≤ n from by rw [← hl]; exact thr_len _ _ _)
  clear hl
  have HR := Lib.hid hrd
  have HO := Lib.hid hor
  clear hrd hor
  go_enter Try.func4, Try.ntmps4
  go_wp2_with fail
  have hb0 := Blk.new w 31 #[.int .i64 node, .slice B m d]
  refine (lspeaks_any _).mono ?_
  rintro e w1 ⟨rfl, hc1⟩
  have hb1 := hb0.chg hc1 (by simp)
  have hc1' := ((Chg.refl [] w).alloc (.cells #[.int .i64 node, .slice B m d] 31)).trans0 hc1
  have b0 := hb1.cell 0
  have b1 := hb1.cell 1
  simp at b0 b1
  go_wp2_with fail
  clear hb0
  have hlt1 := hb1.lt
  go_region_held3 (fun w' => w'.cell? ⟨w.heap.size, 1, none⟩ = some (.slice B m d)) (first | assumption | go_keep)
    (first
    | (refine step_app rfl _ _ rfl etyInts rfl (Own.lit w2 3 1 #[] 0 (by decide) rfl) rfl (HO.out.chg (C2.alloc (.cells #[] 3)) (by simp)) (iv_one ord) (by unfold maxLen; omega) (by omega) ?_; intro A3 c3 w3 ho3 hc3 hn3 _; have C3 := (C2.alloc (.cells #[] 3)).trans hc3 (by simp; have q2 := C2.size; omega); have hb3 := (hb2.alloc (.cells #[] 3)).chg hc3 (by simp; have q2 := hc2.size; simp at q2; omega); have hos := (ho2.chg ((Chg.refl [] w2).alloc (.cells #[] 3)) (by simp)).chg hc3 ((ho2.chg ((Chg.refl [] w2).alloc (.cells #[] 3)) (by simp)).own_ne (Own.lit w2 3 1 #[] 0 (by decide) rfl) (by decide)); have v3 := hb3.cell 1; have u3 := hb3.cell 0; simp at v3 u3)
    | (go_at_call 11; (with_reducible refine (lcopied_any A n c ls _ hn (HR.out.chg hc1'.drew (by simp))).mono ?_); rintro e w2 ⟨A2, c2, rfl, ho2, hc2, hn2⟩; have v1 := hc2.cell b1 (by simp); have hb2 := hb1.drew.chg hc2 (by simp); have C2 := hc1'.drew.trans0 hc2)
    | (refine step_app rfl _ _ rfl etyInts rfl hol rfl (HO.out.chg C2 (by simp)) (iv_one ord) (by unfold maxLen; omega) (by omega) ?_; intro A3 c3 w3 ho3 hc3 hn3 _; have C3 := C2.trans hc3 (by simp; omega); have hb3 := hb2.chg hc3 (by simp; omega); have hos := ho2.chg hc3 (ho2.own_ne hol (by decide)); have v3 := hb3.cell 1; have u3 := hb3.cell 0; simp at v3 u3)
    | (go_at_call 11; (with_reducible refine (lcopied_any A n c ls _ hn (HR.out.chg (hc1'.alloc (.cells #[] 3)).drew (by simp))).mono ?_); rintro e w2 ⟨A2, c2, rfl, ho2, hc2, hn2⟩; have hol := ((Own.lit w1 3 1 #[] 0 (by decide) rfl).chg ((Chg.refl [] _).drew) (by simp)).chg hc2 (by simp); have hb2 := ((hb1.alloc (.cells #[] 3)).drew).chg hc2 (by simp); have C2 := (hc1'.alloc (.cells #[] 3)).drew.trans0 hc2; have v1 := hb2.cell 1; simp at v1))
  all_goals
    have ho3' : Own w3 3 1 A3 m c3 (iv ord) := by simpa using ho3
    clear ho3
    go_wp2_with fail
    refine (thread_any A2 n c2 ls node A3 m c3 ord _ hos.rd hn ho3'.rd hm).mono ?_
    rintro e w4 ⟨A4, N4, c4, E4, rfl, hE4, ho4, hN4, hc4, hn4⟩
    have u4 := (hb3.chg hc4 (by simp)).cell 0
    have v4 := (hb3.chg hc4 (by simp)).cell 1
    simp at u4 v4
    have q4 : N4 ≤ n := by have := HTL.out; omega
    have HE4 := Lib.hid hE4
    have HN4 := Lib.hid hN4
    clear hE4 hN4
    go_wp2_with fail
    refine (gthread_any A n c ls node B m d ord _ (HR.out.chg (C3.trans0 hc4) (by simp)) hn (HO.out.chg (C3.trans0 hc4) (by simp)) hm).mono ?_
    rintro e w5 ⟨A5, N5, c5, E5, rfl, hE5, ho5, hN5, hc5, hn5⟩
    obtain rfl : E5 = E4 := hE5.trans HE4.out.symm
    obtain rfl : N5 = N4 := hN5.trans HN4.out.symm
    clear hE5 hN5
    have hee : (E5 == E5) = true := by simp
    have C5 : Chg [] w w5 := (C3.trans0 hc4).trans0 hc5
    have D5 : Chg [] w3 w5 := hc4.trans0 hc5
    go_wp2_with fail
    refine (sameL_true A4 N5 c4 _ A5 N5 c5 _ (by omega) (ho4.chg hc5 (by simp)).rd ho5.rd).mono ?_
    rintro e w6 ⟨rfl, hc6⟩
    go_wp2_with fail
    refine (sameL_true A2 n c2 ls A n c _ hn (hos.chg (D5.trans0 hc6) (by simp)).rd (HR.out.chg (C5.trans0 hc6) (by simp))).mono ?_
    rintro e w7 ⟨rfl, hc7⟩
    have v7 := (hb3.chg ((D5.trans0 hc6).trans0 hc7) (by simp)).cell 1
    simp at v7
    go_wp2_with fail
    refine (sameI_true A3 m c3 ord B m d _ hm (ho3'.chg ((D5.trans0 hc6).trans0 hc7) (by simp)).rd (HO.out.chg ((C5.trans0 hc6).trans0 hc7) (by simp))).mono ?_
    rintro e w8 ⟨rfl, hc8⟩
    go_wp2
    go_ret
    exact ⟨rfl, ((C5.trans0 hc6).trans0 hc7).trans0 hc8⟩
end Go.Proofs.Ythlpojaohdpjgaa
