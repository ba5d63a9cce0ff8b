/-
  Layer 17: way (both), head (both).
-/
import Derived.Test.YtelmnmepdmfihaaLkN
import Derived.WalkSpells
namespace Go.Proofs.Ytelmnmepdmfihaa
open Go.RowKit

/-- 0: it goes out from the node; 1: it comes in; 2: it is a loop -/
def wayOf (l : Lk) (node : Int) : Nat := if l.src = node then (if l.dst = node then 2 else 0) else 1
def headOf (ids : List Int) : Int := ids.head?.getD (-1)

set_option maxHeartbeats 1600000 in
theorem way_any (l : Lk) (node : Int) (w : World) : Calls Try.prog 25 #[.agg #[.bool l.live, .int .i64 l.src, .int .i64 l.dst, .int .i64 l.sp, .int .i64 l.tp, .int .i64 l.sn, .int .i64 l.tn], .int .i64 node] w
    fun e w' => e = .returned (.int .i64 (wayOf l node : Nat)) ∧ Chg [] w w' := by
  by_cases h : l.src = node
  · have h1 : (l.src == node) = true := by simp [h]
    by_cases h2 : l.dst = node
    · have h3 : (l.dst == node) = true := by simp [h2]
      have HT : Hid (wayOf l node = 2) := Lib.hid (by simp [wayOf, h, h2])
      clear h h2
      go_enter Try.func25, Try.ntmps25
      go_wp2
      go_ret
      exact ⟨by rw [HT.out]; rfl, by repeat (first | exact Chg.refl _ _ | apply Chg.alloc)⟩
    · have h3 : (l.dst == node) = false := by simp [h2]
      have HT : Hid (wayOf l node = 0) := Lib.hid (by simp [wayOf, h, h2])
      clear h h2
      go_enter Try.func25, Try.ntmps25
      go_wp2
      go_ret
      exact ⟨by rw [HT.out]; rfl, by repeat (first | exact Chg.refl _ _ | apply Chg.alloc)⟩
  · have h1 : (l.src == node) = false := by simp [h]
    have HT : Hid (wayOf l node = 1) := Lib.hid (by simp [wayOf, h])
    clear h
    go_enter Try.func25, Try.ntmps25
    go_wp2
    go_ret
    exact ⟨by rw [HT.out]; rfl, by repeat (first | exact Chg.refl _ _ | apply Chg.alloc)⟩

set_option maxHeartbeats 1600000 in
theorem rway_any (l : Lk) (node : Int) (w : World) : Calls Try.prog 29 #[.agg #[.bool l.live, .int .i64 l.src, .int .i64 l.dst, .int .i64 l.sp, .int .i64 l.tp, .int .i64 l.sn, .int .i64 l.tn], .int .i64 node] w
    fun e w' => e = .returned (.int .i64 (wayOf l node : Nat)) ∧ Chg [] w w' := by
  by_cases h : l.src = node
  · have h1 : (l.src != node) = false := by simp [h]
    by_cases h2 : l.dst = node
    · have h3 : (l.dst != node) = false := by simp [h2]
      have HT : Hid (wayOf l node = 2) := Lib.hid (by simp [wayOf, h, h2])
      clear h h2
      go_enter Try.func29, Try.ntmps29
      go_wp2
      go_ret
      exact ⟨by rw [HT.out]; rfl, by repeat (first | exact Chg.refl _ _ | apply Chg.alloc)⟩
    · have h3 : (l.dst != node) = true := by simp [h2]
      have HT : Hid (wayOf l node = 0) := Lib.hid (by simp [wayOf, h, h2])
      clear h h2
      go_enter Try.func29, Try.ntmps29
      go_wp2
      go_ret
      exact ⟨by rw [HT.out]; rfl, by repeat (first | exact Chg.refl _ _ | apply Chg.alloc)⟩
  · have h1 : (l.src != node) = true := by simp [h]
    have HT : Hid (wayOf l node = 1) := Lib.hid (by simp [wayOf, h])
    clear h
    go_enter Try.func29, Try.ntmps29
    go_wp2
    go_ret
    exact ⟨by rw [HT.out]; rfl, by repeat (first | exact Chg.refl _ _ | apply Chg.alloc)⟩

set_option maxHeartbeats 1600000 in
theorem head_any (A : Option Addr) (n c : Nat) (ids : List Int) (w : World) (h : Rd w 1 A n c (iv ids)) : Calls Try.prog 31 #[.slice A n c] w fun e w' => e = .returned (.int .i64 (headOf ids)) ∧ w' = w := by
  have hl : ids.length = n := by have := h.1; simp at this; omega
  by_cases h0 : n = 0
  · have t0 : ((n : Int) == 0) = true := by simp [h0]
    have HT : Hid (headOf ids = -1) := Lib.hid (by rw [List.eq_nil_of_length_eq_zero (by omega : ids.length = 0)]; rfl)
    clear h0 hl
    go_enter Try.func31, Try.ntmps31
    go_wp2
    go_ret
    exact ⟨by rw [HT.out]; rfl, rfl⟩
  · have t0 : ((n : Int) == 0) = false := by simp; omega
    obtain ⟨ad, x, rfl, hx, hc⟩ := rd_int h (show 0 < n by omega)
    have hcy : w.cell? ad = some (.int .i64 x) := hc
    have hpos : (0 : Int) < n := by omega
    have HT : Hid (headOf ids = x) := Lib.hid (by unfold headOf; rw [List.head?_eq_getElem?, hx]; rfl)
    clear h0 hl hx
    go_enter Try.func31, Try.ntmps31
    go_wp2
    go_ret
    exact ⟨by rw [HT.out]; rfl, rfl⟩

set_option maxHeartbeats 1600000 in
theorem rfirst_any (A : Option Addr) (n c : Nat) (ids : List Int) (w : World) (h : Rd w 1 A n c (iv ids)) : Calls Try.prog 34 #[.slice A n c] w fun e w' => e = .returned (.int .i64 (headOf ids)) ∧ w' = w := by
  have hl : ids.length = n := by have := h.1; simp at this; omega
  by_cases h0 : n = 0
  · have t0 : ((n : Int) == 0) = true := by simp [h0]
    have HT : Hid (headOf ids = -1) := Lib.hid (by rw [List.eq_nil_of_length_eq_zero (by omega : ids.length = 0)]; rfl)
    clear h0 hl
    go_enter Try.func34, Try.ntmps34
    go_wp2
    go_ret
    exact ⟨by rw [HT.out]; rfl, rfl⟩
  · have t0 : ((n : Int) == 0) = false := by simp; omega
    obtain ⟨ad, x, rfl, hx, hc⟩ := rd_int h (show 0 < n by omega)
    have hcy : w.cell? ad = some (.int .i64 x) := hc
    have hpos : (0 : Int) < n := by omega
    have HT : Hid (headOf ids = x) := Lib.hid (by unfold headOf; rw [List.head?_eq_getElem?, hx]; rfl)
    clear h0 hl hx
    go_enter Try.func34, Try.ntmps34
    go_wp2
    go_ret
    exact ⟨by rw [HT.out]; rfl, rfl⟩
theorem way_any' (l : Lk) (node : Int) (k : Nat) (hk : wayOf l node = k) (w : World) : Calls Try.prog 25 #[.agg #[.bool l.live, .int .i64 l.src, .int .i64 l.dst, .int .i64 l.sp, .int .i64 l.tp, .int .i64 l.sn, .int .i64 l.tn], .int .i64 node] w
    fun e w' => e = .returned (.int .i64 (k : Int)) ∧ Chg [] w w' := by
  subst hk; exact way_any l node w
end Go.Proofs.Ytelmnmepdmfihaa
