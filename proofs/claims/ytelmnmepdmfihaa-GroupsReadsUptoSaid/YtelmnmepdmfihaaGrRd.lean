/-
  Layer 17: the walk of GroupsReads.
-/
import Derived.Test.YtelmnmepdmfihaaGrX
import Derived.Test.YtelmnmepdmfihaaGrRb
namespace Go.Proofs.Ytelmnmepdmfihaa
open Go.RowKit

theorem BRo.chg {w w' : World} {A : Option Addr} {n c : Nat} {bs : List Bn} (h : BRo w A n c bs) (hc : Chg [] w w') : BRo w' A n c bs := by
  obtain ⟨rs, h1, h2, h3⟩ := h
  exact ⟨rs, h1.chg hc (fun _ _ => List.not_mem_nil), h2, fun i p b hp hb => ⟨(h3 i p b hp hb).1, fun k hk => ((h3 i p b hp hb).2 k hk).chg hc (fun _ _ => List.not_mem_nil)⟩⟩
theorem rdg_small (ls : List Lk) (ts : List Int) (gs : List Lk) (node : Int) (K : Nat) : ∀ (f : Nat) (acc : List Bn) (held : Nat) (id : Int), acc.length + f ≤ K → (∀ b ∈ acc, ∀ k, (b.f k).length ≤ ls.length) →
    (rdg ls ts gs node f acc held id).1.length ≤ K ∧ ∀ b ∈ (rdg ls ts gs node f acc held id).1, ∀ k, (b.f k).length ≤ ls.length
  | 0, acc, held, id, h, hb => ⟨by simp only [rdg]; omega, by simpa only [rdg] using hb⟩
  | f + 1, acc, held, id, h, hb => by
    rw [rdg]
    split
    · split
      · exact ⟨by simp only; omega, hb⟩
      · exact ⟨by simp, by simp⟩
    split
    · exact ⟨by simp, by simp⟩
    split
    · exact ⟨by simp, by simp⟩
    split
    · exact ⟨by simp, by simp⟩
    split
    · exact ⟨by simp, by simp⟩
    split
    · exact ⟨by simp, by simp⟩
    · refine rdg_small ls ts gs node K f _ _ _ (by simp; omega) (fun b hm k => ?_)
      rcases List.mem_append.1 hm with h1 | h1
      · exact hb b h1 k
      · simp at h1
        subst h1
        exact ids_len
theorem reads_small (ls : List Lk) (ts : List Int) (gs : List Lk) (node head : Int) : (reads ls ts gs node head).1.length ≤ gs.length + 1 ∧ ∀ b ∈ (reads ls ts gs node head).1, ∀ k, (b.f k).length ≤ ls.length := by
  unfold reads
  split
  · exact ⟨by simp, by simp⟩
  · exact rdg_small ls ts gs node (gs.length + 1) _ _ _ _ (by simp) (by simp)

set_option maxRecDepth 1000000 in
set_option maxHeartbeats 6400000 in
theorem lgreads_any (A : Option Addr) (n c : Nat) (ls : List Lk) (B : Option Addr) (m d : Nat) (ts : List Int) (G : Option Addr) (gn gc : Nat) (gs : List Lk) (node first : Int) (w : World) (hrd : Rd w 7 A n c (lvs ls)) (hn : n ≤ 1073741824) (hts : Rd w 1 B m d (iv ts)) (hm : m ≤ 1073741824) (hgr : Rd w 7 G gn gc (lvs gs)) (hgn : gn ≤ 1073741823) :
    Calls Try.prog 5 #[.agg #[.slice A n c, .slice B m d], .slice G gn gc, .agg #[.int .i64 node, .int .i64 first]] w fun e w' => e = .returned (.bool true) ∧ Chg [] w w' := by
  have hl : ls.length = n := by have := hrd.1; rw [lvs_length] at this; omega
  have hgl : gs.length = gn := by have := hgr.1; rw [lvs_length] at this; omega
  have HR := Lib.hid hrd
  have HO := Lib.hid hts
  have HGR := Lib.hid hgr
  have HL := Lib.hid hl
  have HGL := Lib.hid hgl
  clear hrd hts hl hgr hgl
  go_enter Try.func5, Try.ntmps5
  go_wp2_with fail
  refine (gspeaks_any _).mono ?_
  rintro e w1 ⟨rfl, hc1⟩
  have hb := ((Blk.new w 25 #[.slice A n c, .slice B m d]).alloc (.cells #[.int .i64 node, .int .i64 first] 34)).chg hc1 (fun h => List.not_mem_nil h)
  have ha := Blk.new (w.alloc (.cells #[.slice A n c, .slice B m d] 25)) 34 #[.int .i64 node, .int .i64 first]
  rw [show (w.alloc (.cells #[.slice A n c, .slice B m d] 25)).heap.size = w.heap.size + 1 by simp] at ha
  have ha1 := ha.chg hc1 (fun h => List.not_mem_nil h)
  have C1 : Chg [] w w1 := (((Chg.refl [] w).alloc _).alloc _).trans0 hc1
  have z0 := hb.cell 0
  have z1 := hb.cell 1
  simp at z0 z1
  clear ha hc1
  go_wp2_with fail
  refine (copied_any A n c ls B m d ts _ (HR.out.chg C1 (fun _ _ => List.not_mem_nil)) hn (HO.out.chg C1 (fun _ _ => List.not_mem_nil)) hm).mono ?_
  rintro e w2 ⟨A2, c2, B2, d2, rfl, hoa, hob, hc2, hna, hnb⟩
  clear z0 z1
  have HB2 := Lib.hid (hb.chg hc2 (fun h => List.not_mem_nil h))
  have HA2 := Lib.hid (ha1.chg hc2 (fun h => List.not_mem_nil h))
  have HOA := Lib.hid hoa
  have HOB := Lib.hid hob
  have HC2 : Hid (Chg [] w w2) := Lib.hid (C1.trans0 hc2)
  clear hb ha1 hoa hob hna hnb C1 hc2
  go_wp2_with (at_builtin; refine wpList_app rfl _ _ rfl etyGroups rfl (Own.lit w2 58 7 #[] 0 (by decide) rfl) rfl (HGR.out.chg (HC2.out.alloc (.cells #[] 58)) (fun _ _ => List.not_mem_nil)) (lvs_one gs) (by unfold maxLen; omega) (by omega) ?_; intro A3 c3 w3 hown3 hchg3 hnew3 _; have hcx : Chg [] w2 w3 := ((Chg.refl [] w2).alloc (.cells #[] 58)).trans hchg3 (fun x hx => .inr (by simp [bo] at hx; omega)); have hb3 := ((HB2.out.chg hcx (fun h => List.not_mem_nil h)).alloc (.cells #[.slice A2 n c2, .slice B2 m d2] 25)); have ha3 := ((HA2.out.chg hcx (fun h => List.not_mem_nil h)).alloc (.cells #[.slice A2 n c2, .slice B2 m d2] 25)); have hn3 := Blk.new w3 25 #[.slice A2 n c2, .slice B2 m d2]; have HC3 : Hid (Chg [] w2 (w3.alloc (.cells #[.slice A2 n c2, .slice B2 m d2] 25))) := Lib.hid (hcx.alloc _); have HO3 : Hid (Own (w3.alloc (.cells #[.slice A2 n c2, .slice B2 m d2] 25)) 58 7 A3 gn c3 (lvs gs)) := Lib.hid (by have q := hown3.chg ((Chg.refl [] w3).alloc (.cells #[.slice A2 n c2, .slice B2 m d2] 25)) (fun _ _ => List.not_mem_nil); simpa using q); have a0 : (w3.alloc (.cells #[.slice A2 n c2, .slice B2 m d2] 25)).cell? ⟨w.heap.size + 1, 0, none⟩ = some (.int .i64 node) := ha3.cell 0; have a1 : (w3.alloc (.cells #[.slice A2 n c2, .slice B2 m d2] 25)).cell? ⟨w.heap.size + 1, 1, none⟩ = some (.int .i64 first) := ha3.cell 1; have n0 : (w3.alloc (.cells #[.slice A2 n c2, .slice B2 m d2] 25)).cell? ⟨w3.heap.size, 0, none⟩ = some (.slice A2 n c2) := hn3.cell 0; have n1 : (w3.alloc (.cells #[.slice A2 n c2, .slice B2 m d2] 25)).cell? ⟨w3.heap.size, 1, none⟩ = some (.slice B2 m d2) := hn3.cell 1; have HB3 := Lib.hid hb3; have HA3 := Lib.hid ha3; have HN3 := Lib.hid hn3; clear hcx hb3 ha3 hn3 hown3 hchg3 hnew3)
  refine (read_any A2 n c2 ls B2 m d2 ts A3 gn c3 gs node first _ (HOA.out.rd.chg HC3.out (fun _ _ => List.not_mem_nil)) hn (HOB.out.rd.chg HC3.out (fun _ _ => List.not_mem_nil)) hm HO3.out.rd (by omega)).mono ?_
  rintro e w4 ⟨A4, c4, rfl, hbr4, hc4⟩
  obtain ⟨R, hR⟩ : ∃ R, reads ls ts gs node first = R := ⟨_, rfl⟩
  have hsm := reads_small ls ts gs node first
  rw [hR] at hbr4 hsm ⊢
  obtain ⟨LR, hLR⟩ : ∃ LR, R.1.length = LR := ⟨_, rfl⟩
  rw [hLR] at hbr4 hsm ⊢
  have HRR := Lib.hid hR
  have HLR := Lib.hid hLR
  have HSM := Lib.hid hsm
  have HBR4 := Lib.hid hbr4
  have HC4 : Hid (Chg [] w2 w4) := Lib.hid (HC3.out.trans0 hc4)
  have HB4 := Lib.hid (HB3.out.chg hc4 (fun h => List.not_mem_nil h))
  have HA4 := Lib.hid (HA3.out.chg hc4 (fun h => List.not_mem_nil h))
  have HN4 := Lib.hid (HN3.out.chg hc4 (fun h => List.not_mem_nil h))
  have HO4 := Lib.hid (HO3.out.chg hc4 (fun _ _ => List.not_mem_nil))
  have x0 := HB4.out.cell 0
  have x1 := HB4.out.cell 1
  have u0 := HA4.out.cell 0
  have u1 := HA4.out.cell 1
  simp at x0 x1 u0 u1
  clear hR hLR hsm hbr4 hc4 a0 a1 n0 n1
  go_wp2_with fail
  refine (rread_any A n c ls B m d ts G gn gc gs node first _ (HR.out.chg (HC2.out.trans0 HC4.out) (fun _ _ => List.not_mem_nil)) hn (HO.out.chg (HC2.out.trans0 HC4.out) (fun _ _ => List.not_mem_nil)) hm (HGR.out.chg (HC2.out.trans0 HC4.out) (fun _ _ => List.not_mem_nil)) (by omega)).mono ?_
  rintro e w6 ⟨A6, c6, rfl, hbr6, hc6⟩
  rw [HRR.out, HLR.out] at hbr6
  rw [HRR.out, HLR.out]
  have HBR6 := Lib.hid hbr6
  have HBR46 := Lib.hid (HBR4.out.chg hc6)
  have HC6 : Hid (Chg [] w2 w6) := Lib.hid (HC4.out.trans0 hc6)
  have HB6 := Lib.hid (HB4.out.chg hc6 (fun h => List.not_mem_nil h))
  have HN6 := Lib.hid (HN4.out.chg hc6 (fun h => List.not_mem_nil h))
  have HO6 := Lib.hid (HO4.out.chg hc6 (fun _ _ => List.not_mem_nil))
  have hee : (R.2 == R.2) = true := by simp
  clear hbr6 hc6 x0 x1 u0 u1
  go_wp2_with fail
  refine (same_any A4 LR c4 A6 LR c6 R.1 _ (by have := HSM.out.1; have := HGL.out; omega) HLR.out HLR.out (fun i b hb k hk => by have := HSM.out.2 b (List.mem_of_getElem? hb) k; have := HL.out; omega) HBR46.out.brd HBR6.out.brd).mono ?_
  rintro e w7 ⟨rfl, hc7⟩
  have HC7 := Lib.hid hc7
  have HB7 := Lib.hid (HB6.out.chg hc7 (fun h => List.not_mem_nil h))
  have HN7 := Lib.hid (HN6.out.chg hc7 (fun h => List.not_mem_nil h))
  have x0 := HB7.out.cell 0
  have x1 := HB7.out.cell 1
  have u0 := HN7.out.cell 0
  have u1 := HN7.out.cell 1
  simp at x0 x1 u0 u1
  clear hc7
  go_wp2_with fail
  refine (relsSame_any A2 n c2 ls B2 m d2 ts A c B d _ hn hm (HOA.out.rd.chg (HC6.out.trans0 HC7.out) (fun _ _ => List.not_mem_nil)) (HOB.out.rd.chg (HC6.out.trans0 HC7.out) (fun _ _ => List.not_mem_nil)) (HR.out.chg (HC2.out.trans0 (HC6.out.trans0 HC7.out)) (fun _ _ => List.not_mem_nil)) (HO.out.chg (HC2.out.trans0 (HC6.out.trans0 HC7.out)) (fun _ _ => List.not_mem_nil))).mono ?_
  rintro e w8 ⟨rfl, hc8⟩
  have HC8 := Lib.hid (HC7.out.trans0 hc8)
  clear hc8 x0 x1 u0 u1
  go_wp2_with fail
  refine (sameGroups_any A3 gn c3 gs G gn gc gs _ (by omega) (by omega) (HO6.out.rd.chg HC8.out (fun _ _ => List.not_mem_nil)) (HGR.out.chg (HC2.out.trans0 (HC6.out.trans0 HC8.out)) (fun _ _ => List.not_mem_nil))).mono ?_
  rintro e w9 ⟨rfl, hc9⟩
  rw [show decide (gs = gs) = true from decide_eq_true rfl]
  go_wp2
  go_ret
  exact ⟨rfl, (HC2.out.trans0 (HC6.out.trans0 HC8.out)).trans0 hc9⟩
end Go.Proofs.Ytelmnmepdmfihaa
