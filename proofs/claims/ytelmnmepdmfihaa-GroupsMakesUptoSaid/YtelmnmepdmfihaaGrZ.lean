/-
  Layer 17: the walk of GroupsMakes.
-/
import Derived.Test.YtelmnmepdmfihaaGrX
import Derived.Test.YtelmnmepdmfihaaGrO
namespace Go.Proofs.Ytelmnmepdmfihaa
open Go.RowKit

theorem mkL_len (ls : List Lk) (ts : List Int) (node first : Int) : (mkL ls ts node first).length ≤ ls.length := by
  unfold mkL; split
  · rw [layB_length]; exact Nat.le_refl _
  · simp
theorem mkG_len (ls : List Lk) (ts : List Int) (node first : Int) : (mkG ls ts node first).length ≤ ls.length := by
  unfold mkG; split
  · rw [grps_length]; exact gather_len ls ts node
  · simp

set_option maxRecDepth 100000 in
set_option maxHeartbeats 6400000 in
theorem lgmakes_any (A : Option Addr) (n c : Nat) (ls : List Lk) (B : Option Addr) (m d : Nat) (ts : List Int) (node first : Int) (w : World) (hrd : Rd w 7 A n c (lvs ls)) (hn : n ≤ 1073741824) (hts : Rd w 1 B m d (iv ts)) (hm : m ≤ 1073741824) (hwf : ∀ z ∈ ts, (Lit.int .i64 z).wf = true) :
    Calls Try.prog 4 #[.agg #[.slice A n c, .slice B m d], .agg #[.int .i64 node, .int .i64 first]] w fun e w' => e = .returned (.bool true) ∧ Chg [] w w' := by
  have hl : ls.length = n := by have := hrd.1; rw [lvs_length] at this; omega
  have HR := Lib.hid hrd
  have HO := Lib.hid hts
  have HL := Lib.hid hl
  have HWF := Lib.hid hwf
  clear hrd hts hl hwf
  go_enter Try.func4, Try.ntmps4
  go_wp2_with fail
  refine (gspeaks_any _).mono ?_
  rintro e w1 ⟨rfl, hc1⟩
  have hb := ((Blk.new w 25 #[.slice A n c, .slice B m d]).alloc (.cells #[.int .i64 node, .int .i64 first] 34)).chg hc1 (fun h => List.not_mem_nil h)
  have ha := Blk.new (w.alloc (.cells #[.slice A n c, .slice B m d] 25)) 34 #[.int .i64 node, .int .i64 first]
  rw [show (w.alloc (.cells #[.slice A n c, .slice B m d] 25)).heap.size = w.heap.size + 1 by simp] at ha
  have ha1 := ha.chg hc1 (fun h => List.not_mem_nil h)
  have C1 : Chg [] w w1 := (((Chg.refl [] w).alloc _).alloc _).trans0 hc1
  have z0 := hb.cell 0
  have z1 := hb.cell 1
  simp at z0 z1
  clear ha hc1
  go_wp2_with fail
  refine (copied_any A n c ls B m d ts _ (HR.out.chg C1 (fun _ _ => List.not_mem_nil)) hn (HO.out.chg C1 (fun _ _ => List.not_mem_nil)) hm).mono ?_
  rintro e w2 ⟨A2, c2, B2, d2, rfl, hoa, hob, hc2, hna, hnb⟩
  clear z0 z1
  have hb2 := (hb.chg hc2 (fun h => List.not_mem_nil h)).alloc (.cells #[.slice A2 n c2, .slice B2 m d2] 25)
  have ha2 := (ha1.chg hc2 (fun h => List.not_mem_nil h)).alloc (.cells #[.slice A2 n c2, .slice B2 m d2] 25)
  have hb3 := Blk.new w2 25 #[.slice A2 n c2, .slice B2 m d2]
  have hcw := (Chg.refl [] w2).alloc (.cells #[.slice A2 n c2, .slice B2 m d2] 25)
  have HC : Hid (Chg [] w (w2.alloc (.cells #[.slice A2 n c2, .slice B2 m d2] 25))) := Lib.hid ((C1.trans0 hc2).trans0 hcw)
  have HOA := Lib.hid (hoa.chg hcw (fun _ _ => List.not_mem_nil))
  have HOB := Lib.hid (hob.chg hcw (fun _ _ => List.not_mem_nil))
  have a0 := ha2.cell 0
  have a1 := ha2.cell 1
  simp at a0 a1
  have HB2 := Lib.hid hb2
  have HA2 := Lib.hid ha2
  have HB3 := Lib.hid hb3
  clear hb ha1 hb2 ha2 hb3 hcw hoa hob hna hnb hc2 C1
  go_wp2_with fail
  refine (make_any A2 n c2 ls B2 m d2 ts node first _ HOA.out.rd hn HOB.out.rd hm HWF.out).mono ?_
  rintro e w3 ⟨A3, N3, c3, A4, N4, c4, E3, rfl, hE3, ho3, hN3, ho4, hN4, hc3, hn3, hn4⟩
  have x0 := hc3.cell (HB2.out.cell 0) (fun h => List.not_mem_nil h)
  have x1 := hc3.cell (HB2.out.cell 1) (fun h => List.not_mem_nil h)
  have u0 := hc3.cell (HA2.out.cell 0) (fun h => List.not_mem_nil h)
  have u1 := hc3.cell (HA2.out.cell 1) (fun h => List.not_mem_nil h)
  have HC3 := Lib.hid hc3
  have HE3 := Lib.hid hE3
  have HO3 := Lib.hid ho3
  have HN3 := Lib.hid hN3
  have HO4 := Lib.hid ho4
  have HN4 := Lib.hid hN4
  clear hE3 ho3 hN3 ho4 hN4 hc3 hn3 hn4 a0 a1
  go_wp2_with fail
  refine (rmake_any A n c ls B m d ts node first _ (HR.out.chg (HC.out.trans0 HC3.out) (fun _ _ => List.not_mem_nil)) hn (HO.out.chg (HC.out.trans0 HC3.out) (fun _ _ => List.not_mem_nil)) hm).mono ?_
  rintro e w4 ⟨A5, N5, c5, A6, N6, c6, E5, rfl, hE5, ho5, hN5, ho6, hN6, hc5, hn5, hn6⟩
  obtain rfl : E5 = E3 := hE5.trans HE3.out.symm
  have HC5 := Lib.hid (HC3.out.trans0 hc5)
  have HO5 := Lib.hid ho5
  have HN5 := Lib.hid hN5
  have HO6 := Lib.hid ho6
  have HN6 := Lib.hid hN6
  have HO3' := Lib.hid (HO3.out.chg hc5 (fun _ _ => List.not_mem_nil))
  have HO4' := Lib.hid (HO4.out.chg hc5 (fun _ _ => List.not_mem_nil))
  have hee : (E5 == E5) = true := by simp
  clear hE5 ho5 hN5 ho6 hN6 hc5 hn5 hn6 x0 x1 u0 u1
  go_wp2_with fail
  refine (sameLinks_any A3 N3 c3 (mkL ls ts node first) A5 N5 c5 (mkL ls ts node first) _ (by rw [HN3.out]; have := mkL_len ls ts node first; have := HL.out; omega) (by rw [HN5.out]; have := mkL_len ls ts node first; have := HL.out; omega) HO3'.out.rd HO5.out.rd).mono ?_
  rintro e w5 ⟨rfl, hc6⟩
  rw [show decide (mkL ls ts node first = mkL ls ts node first) = true from decide_eq_true rfl]
  have HC6 := Lib.hid hc6
  clear hc6
  go_wp2_with fail
  refine (sameGroups_any A4 N4 c4 (mkG ls ts node first) A6 N6 c6 (mkG ls ts node first) _ (by rw [HN4.out]; have := mkG_len ls ts node first; have := HL.out; omega) (by rw [HN6.out]; have := mkG_len ls ts node first; have := HL.out; omega) (HO4'.out.rd.chg HC6.out (fun _ _ => List.not_mem_nil)) (HO6.out.rd.chg HC6.out (fun _ _ => List.not_mem_nil))).mono ?_
  rintro e w6 ⟨rfl, hc7⟩
  rw [show decide (mkG ls ts node first = mkG ls ts node first) = true from decide_eq_true rfl]
  have HC7 := Lib.hid ((HC5.out.trans0 HC6.out).trans0 hc7)
  clear hc7
  have x0 := HC7.out.cell (HB2.out.cell 0) (fun h => List.not_mem_nil h)
  have x1 := HC7.out.cell (HB2.out.cell 1) (fun h => List.not_mem_nil h)
  have u0 := HC7.out.cell (HB3.out.cell 0) (fun h => List.not_mem_nil h)
  have u1 := HC7.out.cell (HB3.out.cell 1) (fun h => List.not_mem_nil h)
  go_wp2_with fail
  refine (relsSame_any A2 n c2 ls B2 m d2 ts A c B d _ hn hm (HOA.out.rd.chg HC7.out (fun _ _ => List.not_mem_nil)) (HOB.out.rd.chg HC7.out (fun _ _ => List.not_mem_nil)) (HR.out.chg (HC.out.trans0 HC7.out) (fun _ _ => List.not_mem_nil)) (HO.out.chg (HC.out.trans0 HC7.out) (fun _ _ => List.not_mem_nil))).mono ?_
  rintro e w8 ⟨rfl, hc8⟩
  go_wp2
  go_ret
  exact ⟨rfl, (HC.out.trans0 HC7.out).trans0 hc8⟩
end Go.Proofs.Ytelmnmepdmfihaa
