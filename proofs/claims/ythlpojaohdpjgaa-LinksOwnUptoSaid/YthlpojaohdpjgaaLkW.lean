/-
  Layer 13: speaks.
-/
import Derived.Test.YthlpojaohdpjgaaLkThree
import Derived.Test.YthlpojaohdpjgaaLkP
import Derived.Test.YthlpojaohdpjgaaLkQ
namespace Go.Proofs.Ythlpojaohdpjgaa
open Go.RowKit

theorem sameI_true (A : Option Addr) (n c : Nat) (xs : List Int) (B : Option Addr) (m d : Nat) (w : World) (hn : n ≤ 1073741824) (ha : Rd w 1 A n c (iv xs)) (hb : Rd w 1 B m d (iv xs)) :
    Calls Try.prog 12 #[.slice A n c, .slice B m d] w fun e w' => e = .returned (.bool true) ∧ Chg [] w w' := by
  have hm : m ≤ 1073741824 := by have h1 := ha.1; have h2 := hb.1; simp at h1 h2; omega
  refine (sameInts_any A n c xs B m d xs w hn hm ha hb).mono ?_
  rintro e w1 ⟨rfl, hc⟩
  exact ⟨by simp, hc⟩
theorem sameL_true (A : Option Addr) (n c : Nat) (xs : List Lk) (B : Option Addr) (m d : Nat) (w : World) (hn : n ≤ 1073741824) (ha : Rd w 7 A n c (lvs xs)) (hb : Rd w 7 B m d (lvs xs)) :
    Calls Try.prog 15 #[.slice A n c, .slice B m d] w fun e w' => e = .returned (.bool true) ∧ Chg [] w w' := by
  have hm : m ≤ 1073741824 := by have h1 := ha.1; have h2 := hb.1; rw [lvs_length] at h1 h2; omega
  refine (sameLinks_any A n c xs B m d xs w hn hm ha hb).mono ?_
  rintro e w1 ⟨rfl, hc⟩
  exact ⟨by simp, hc⟩
theorem lit_rdi (w : World) (zs : List Int) (n : Nat) (hn : zs.length = n) (hm : n ≤ maxLen) : Rd (w.alloc (.cells (iv zs).toArray 3)) 1 (some ⟨w.heap.size, 0, none⟩) n n (iv zs) := by
  have := (Own.lit w 3 1 (iv zs).toArray n hm (by simp [hn])).rd
  simpa using this

/-- the document's example, threaded -/
def threadedL : List Lk := [⟨true, 5, 6, 2, -1, 1, -1⟩, ⟨true, 5, 5, 0, -1, -1, -1⟩, ⟨true, 6, 5, -1, -1, -1, 0⟩]
theorem threaded_ord : ordE threeL 5 [] [2, 0, 1] = 0 := by decide
theorem threaded_thr : thr threeL 5 [2, 0, 1] = threadedL := by decide
theorem threaded_walk : walk threadedL 5 2 = ([2, 0, 1], 0) := by decide
theorem threaded_bad : walk threadedL 5 0 = ([], 101) := by decide
theorem threaded_inc : incident threadedL 6 = [0, 2] := by decide

set_option maxHeartbeats 6400000 in
theorem lspeaks_any (w : World) : Calls Try.prog 10 #[] w fun e w' => e = .returned (.bool true) ∧ Chg [] w w' := by
  go_enter Try.func10, Try.ntmps10
  go_wp2_with fail
  refine (three_any _).mono ?_
  rintro e w1 ⟨A1, c1, rfl, ho1, hc1, hn1⟩
  go_wp2_with fail
  refine (thread_any A1 3 c1 threeL 5 _ 3 3 [2, 0, 1] _ (ho1.rd.chg ((Chg.refl [] w1).alloc _) (by simp)) (by omega) (lit_rdi w1 [2, 0, 1] 3 rfl (by decide)) (by omega)).mono ?_
  rintro e w2 ⟨A2, N, c2, E, rfl, hE, ho2, hN, hc2, hn2⟩
  rw [threaded_ord] at hE
  rw [threaded_thr] at ho2 hN
  obtain rfl : N = 3 := hN
  subst hE
  have C2 : Chg [] w w2 := (hc1.alloc _).trans0 hc2
  obtain ⟨g, rfl, _⟩ := ho2.lk (j := 2) rfl
  have y1 := ho2.cl (j := 2) (k := 6) (u := .int .i64 0) rfl (by decide) rfl
  have y2 := ho2.cl (j := 0) (k := 3) (u := .int .i64 2) rfl (by decide) rfl
  have y3 := ho2.cl (j := 0) (k := 5) (u := .int .i64 1) rfl (by decide) rfl
  have y4 := ho2.cl (j := 1) (k := 3) (u := .int .i64 0) rfl (by decide) rfl
  simp at y1 y2 y3 y4
  have HO2 := Lib.hid ho2
  clear ho2 hn2 hn1 ho1
  go_wp2_with fail
  refine (walk_any _ 3 c2 threadedL 5 2 _ HO2.out.rd (by omega)).mono ?_
  rintro e w3 ⟨A3, N3, c3, E3, rfl, hE3, ho3, hN3, hc3, hn3⟩
  rw [threaded_walk] at hE3 ho3 hN3
  obtain rfl : N3 = 3 := hN3
  obtain rfl : E3 = 0 := hE3
  clear y1 y2 y3 y4
  go_wp2_with fail
  refine (walk_any _ 3 c2 threadedL 5 0 _ (HO2.out.rd.chg hc3 (by simp)) (by omega)).mono ?_
  rintro e w4 ⟨A4, N4, c4, E4, rfl, hE4, ho4, hN4, hc4, hn4⟩
  rw [threaded_bad] at hE4 ho4 hN4
  obtain rfl : N4 = 0 := hN4
  obtain rfl : E4 = 101 := hE4
  go_wp2_with fail
  refine (sameI_true A3 3 c3 [2, 0, 1] _ 3 3 _ (by omega) (ho3.chg (hc4.alloc _) (by simp)).rd (lit_rdi w4 [2, 0, 1] 3 rfl (by decide))).mono ?_
  rintro e w5 ⟨rfl, hc5⟩
  have D5 : Chg [] w2 w5 := ((hc3.trans0 hc4).alloc _).trans0 hc5
  go_wp2_with fail
  refine (incident_any _ 3 c2 threadedL 6 _ (HO2.out.rd.chg D5 (by simp)) (by omega) 2 (by rw [threaded_inc]; rfl)).mono ?_
  rintro e w6 ⟨A6, c6, rfl, ho6, hc6, hn6⟩
  rw [threaded_inc] at ho6
  go_wp2_with fail
  refine (sameI_true A6 2 c6 [0, 2] _ 2 2 _ (by omega) (ho6.chg ((Chg.refl [] w6).alloc _) (by simp)).rd (lit_rdi w6 [0, 2] 2 rfl (by decide))).mono ?_
  rintro e w7 ⟨rfl, hc7⟩
  go_wp2
  go_ret
  exact ⟨rfl, C2.trans0 (((D5.trans0 hc6).alloc _).trans0 hc7)⟩
end Go.Proofs.Ythlpojaohdpjgaa
