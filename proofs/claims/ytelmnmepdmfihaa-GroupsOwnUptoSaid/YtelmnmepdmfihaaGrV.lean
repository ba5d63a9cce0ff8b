/-
  Layer 17: Rels.same.
-/
import Derived.Test.YtelmnmepdmfihaaGrU
namespace Go.Proofs.Ytelmnmepdmfihaa
open Go.RowKit

set_option maxRecDepth 100000 in
set_option maxHeartbeats 3200000 in
theorem relsSame_any (A : Option Addr) (n c : Nat) (ls : List Lk) (B : Option Addr) (m d : Nat) (ts : List Int) (A2 : Option Addr) (c2 : Nat) (B2 : Option Addr) (d2 : Nat) (w : World) (hn : n ≤ 1073741824) (hm : m ≤ 1073741824)
    (h1 : Rd w 7 A n c (lvs ls)) (h2 : Rd w 1 B m d (iv ts)) (h3 : Rd w 7 A2 n c2 (lvs ls)) (h4 : Rd w 1 B2 m d2 (iv ts)) :
    Calls Try.prog 15 #[.agg #[.slice A n c, .slice B m d], .agg #[.slice A2 n c2, .slice B2 m d2]] w fun e w' => e = .returned (.bool true) ∧ Chg [] w w' := by
  have H1 := Lib.hid h1
  have H2 := Lib.hid h2
  have H3 := Lib.hid h3
  have H4 := Lib.hid h4
  clear h1 h2 h3 h4
  go_enter Try.func15, Try.ntmps15
  go_wp2
  have hb0 := (Blk.new w 25 #[.slice A n c, .slice B m d]).alloc (.cells #[.slice A2 n c2, .slice B2 m d2] 25)
  have hb1 := Blk.new (w.alloc (.cells #[.slice A n c, .slice B m d] 25)) 25 #[.slice A2 n c2, .slice B2 m d2]
  rw [show (w.alloc (.cells #[.slice A n c, .slice B m d] 25)).heap.size = w.heap.size + 1 by simp] at hb1
  have HB0 := Lib.hid hb0
  have HB1 := Lib.hid hb1
  clear hb0 hb1
  go_loopw [16] (fun i wr => ∃ k : Nat, k ≤ m ∧ i = .int .i64 k ∧ Blk wr w.heap.size 25 #[.slice A n c, .slice B m d] ∧ Blk wr (w.heap.size + 1) 25 #[.slice A2 n c2, .slice B2 m d2] ∧ Chg [] w wr) (fun i _ => m - (intOf i).toNat)
  case atStart => exact ⟨0, Nat.zero_le _, rfl, HB0.out, HB1.out, ((Chg.refl _ _).alloc _).alloc _⟩
  case round =>
    obtain ⟨k, hk, rfl, hb0, hb1, hch⟩ := hrel
    have z0 := hb0.cell 0
    have z1 := hb0.cell 1
    have y0 := hb1.cell 0
    have y1 := hb1.cell 1
    simp at z0 z1 y0 y1
    have HQ0 := Lib.hid hb0
    have HQ1 := Lib.hid hb1
    have HCH := Lib.hid hch
    clear hb0 hb1 hch
    by_cases hlt : k < m
    · obtain ⟨ad, x, rfl, hx, hcx⟩ := rd_int (H2.out.chg HCH.out (fun _ _ => List.not_mem_nil)) hlt
      obtain ⟨bd, y, rfl, hy, hcy⟩ := rd_int (H4.out.chg HCH.out (fun _ _ => List.not_mem_nil)) hlt
      rw [hx] at hy
      injection hy with hy
      subst hy
      clear hx
      have h0 : (0 : Int) ≤ k := by omega
      have h1 : (k : Int) < m := by omega
      have hxx : (x != x) = false := by simp
      go_wp2_with fail
      go_quiet (fail)
      go_wp2
      go_roundw
      case rel => exact ⟨k + 1, by omega, by go_num, HQ0.out.drewN _, HQ1.out.drewN _, HCH.out.drewN _⟩
      case measure => simp [intOf]; omega
    · go_wp2_with fail
      refine (sameLinks_any A n c ls A2 n c2 ls _ hn hn (H1.out.chg HCH.out (fun _ _ => List.not_mem_nil)) (H3.out.chg HCH.out (fun _ _ => List.not_mem_nil))).mono ?_
      rintro e w2 ⟨rfl, hc2⟩
      rw [show decide (ls = ls) = true from decide_eq_true rfl]
      go_wp2
      go_ret
      exact ⟨rfl, HCH.out.trans0 hc2⟩
end Go.Proofs.Ytelmnmepdmfihaa
