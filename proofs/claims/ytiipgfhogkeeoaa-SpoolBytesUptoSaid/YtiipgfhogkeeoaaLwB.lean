/-
  Layer 7: speaks.
-/
import Derived.Test.YtiipgfhogkeeoaaLwA
namespace Go.Proofs.Ytiipgfhogkeeoaa
open Go.RowKit

theorem lit_rd (w : World) (e : TypeId) (k : IntKind) (zs : List Int) (n : Nat) (hn : zs.length = n) (hm : n ≤ maxLen) : Rd (w.alloc (.cells (zs.map (Value.int k)).toArray e)) 1 (some ⟨w.heap.size, 0, none⟩) n n (zs.map (Value.int k)) := by
  have := (Own.lit w e 1 (zs.map (Value.int k)).toArray n hm (by simp [hn])).rd
  simpa using this
theorem lit_rdb (w : World) (e : TypeId) (zs : List Bool) (n : Nat) (hn : zs.length = n) (hm : n ≤ maxLen) : Rd (w.alloc (.cells (kv zs).toArray e)) 1 (some ⟨w.heap.size, 0, none⟩) n n (kv zs) := by
  have := (Own.lit w e 1 (kv zs).toArray n hm (by simp [hn])).rd
  simpa using this

set_option maxHeartbeats 3200000 in
theorem speaks_any (w : World) : Calls Try.prog 8 #[] w fun e w' => e = .returned (.bool true) ∧ Chg [] w w' := by
  go_enter Try.func8, Try.ntmps8
  go_wp2_with fail
  refine (new_any _ 2 2 [1, 2] _ (by omega) (lit_rd w 5 .u8 [1, 2] 2 rfl (by decide))).mono ?_
  rintro e w1 ⟨g, L, rfl, hs1, hc1, hn1⟩
  have C1 : Chg [] w w1 := ((Chg.refl [] w).alloc _).trans0 hc1
  have B1 : ∀ k ∈ L, w.heap.size ≤ k := fun k hk => by have := hn1 k hk; simp at this; omega
  go_wp2_with fail
  refine (append_some g L [1, 2] [] _ 2 2 [3, 4] _ (hs1.chg ((Chg.refl [] w1).alloc _) (by simp)) (by omega) (by decide) (by decide) (lit_rd w1 5 .u8 [3, 4] 2 rfl (by decide))).mono ?_
  rintro e w2 ⟨L2, rfl, hs2, hc2, hn2⟩
  have C2 : Chg [] w w2 := (C1.alloc _).trans hc2 (fun x hx => .inr (B1 x hx))
  have B2 : ∀ k ∈ L2, w.heap.size ≤ k := fun k hk => by rcases hn2 k hk with h | h; exact B1 k h; have := C1.size; simp at h; omega
  go_wp2_with fail
  refine (append_some g L2 [1, 2] [[3, 4]] _ 1 1 [5] _ (hs2.chg ((Chg.refl [] w2).alloc _) (by simp)) (by omega) (by decide) (by decide) (lit_rd w2 5 .u8 [5] 1 rfl (by decide))).mono ?_
  rintro e w3 ⟨L3, rfl, hs3, hc3, hn3⟩
  have C3 : Chg [] w w3 := (C2.alloc _).trans hc3 (fun x hx => .inr (B2 x hx))
  have B3 : ∀ k ∈ L3, w.heap.size ≤ k := fun k hk => by rcases hn3 k hk with h | h; exact B2 k h; have := C2.size; simp at h; omega
  go_wp2_with fail
  refine (after_any g L3 [1, 2] [[3, 4], [5]] _ 2 2 [false, true] _ (hs3.chg ((Chg.refl [] w3).alloc _) (by simp)) (by decide) (by decide) (by omega) (lit_rdb w3 4 [false, true] 2 rfl (by decide)) 5 (by decide)).mono ?_
  rintro e w4 ⟨A4, c4, rfl, ho4, hc4, hn4⟩
  go_wp2_with fail
  refine (same_true A4 5 c4 [1, 2, 0, 0, 5] _ 5 5 _ (by omega) (ho4.chg ((Chg.refl [] w4).alloc _) (by simp)).rd (lit_rd w4 5 .u8 [1, 2, 0, 0, 5] 5 rfl (by decide))).mono ?_
  rintro e w5 ⟨rfl, hc5⟩
  have D5 : Chg [] w3 w5 := ((((Chg.refl [] w3).alloc _).trans0 hc4).alloc _).trans0 hc5
  go_wp2_with fail
  refine (seen_any g L3 [1, 2] [[3, 4], [5]] _ (hs3.chg D5 (by simp)) (by decide) 5 (by decide)).mono ?_
  rintro e w6 ⟨A6, c6, rfl, ho6, hc6, hn6⟩
  go_wp2_with fail
  refine (same_true A6 5 c6 [1, 2, 3, 4, 5] _ 5 5 _ (by omega) (ho6.chg ((Chg.refl [] w6).alloc _) (by simp)).rd (lit_rd w6 5 .u8 [1, 2, 3, 4, 5] 5 rfl (by decide))).mono ?_
  rintro e w7 ⟨rfl, hc7⟩
  have D7 : Chg [] w3 w7 := ((D5.trans0 hc6).alloc _).trans0 hc7
  go_wp2_with fail
  refine (safe_any g L3 [1, 2] [[3, 4], [5]] _ (hs3.chg D7 (by simp)) (by decide) 2 rfl).mono ?_
  rintro e w8 ⟨A8, c8, rfl, ho8, hc8, hn8⟩
  go_wp2_with fail
  refine (same_true A8 2 c8 [1, 2] _ 2 2 _ (by omega) (ho8.chg ((Chg.refl [] w8).alloc _) (by simp)).rd (lit_rd w8 5 .u8 [1, 2] 2 rfl (by decide))).mono ?_
  rintro e w9 ⟨rfl, hc9⟩
  have D9 : Chg [] w3 w9 := ((D7.trans0 hc8).alloc _).trans0 hc9
  go_wp2_with fail
  refine (pending_any g L3 [1, 2] [[3, 4], [5]] _ (hs3.chg D9 (by simp)) 2 rfl).mono ?_
  rintro e w10 ⟨rfl, rfl⟩
  go_wp2_with fail
  refine (size_any g L3 [1, 2] [[3, 4], [5]] _ (hs3.chg D9 (by simp)) 5 rfl).mono ?_
  rintro e w11 ⟨rfl, rfl⟩
  go_wp2
  go_ret
  exact ⟨rfl, C3.trans0 D9⟩
end Go.Proofs.Ytiipgfhogkeeoaa
