/-
  Chunks and speaks over the second virtual program; no condition but what each law names.
-/
import Derived.Test.YtcdhmnefmbcmaaaKWyC
namespace Go.Proofs.Ytcdhmnefmbcmaaa.Ww
open Go Go.RowKit
theorem speaksw_any {w : World} : Calls Tryw.prog 11 #[] w fun e w' => e = .returned (.bool true) ∧ w' = w := by
  refine calls_of_wp Tryw.func11 rfl ?_
  simp only [List.size_toArray, List.length_cons, List.length_nil, Nat.reduceAdd, Nat.reduceSub, Array.replicate_succ, Array.replicate_zero, List.push_toArray, List.append_toArray, List.nil_append, List.cons_append]
  go_wp2
  go_ret
  exact ⟨rfl, rfl⟩
/-- what Chunks has made: two boxes, and a copy of the bytes -/
def SeqOf (zs : List Int) (d : Nat) (w : World) (p1 p2 : Nat) (B : Option Addr) (c : Nat) : Prop :=
  p1 ≠ p2 ∧ Blk w p1 22 #[.slice B zs.length c] ∧ Blk w p2 3 #[.int .i64 ((d + 1 : Nat) : Int)] ∧ Own w 5 1 B zs.length c (bv zs)
set_option maxRecDepth 100000 in
theorem chunksw_any {A : Option Addr} {n c : Nat} {zs : List Int} {size : Int} {w : World} (hn : n ≤ 1073741824) (hs : size ≤ 9223372036854775807) (hrd : Rd w 1 A n c (bv zs)) :
    Calls Tryw.prog 9 #[.slice A n c, .int .i64 size] w fun e w' => ∃ p1 p2 B c2, e = .returned (.func (.func 22) #[] #[.pointer (some ⟨p1, 0, none⟩), .pointer (some ⟨p2, 0, none⟩)]) ∧ SeqOf zs (szOf size n) w' p1 p2 B c2 ∧ Chg [] w w' ∧ w.heap.size ≤ p1 ∧ w.heap.size ≤ p2 ∧ ∀ k ∈ bo B, w.heap.size ≤ k := by
  have hl : zs.length = n := by have := hrd.1; simp at this; omega
  have HR := Lib.hid hrd
  have HL := Lib.hid hl
  have HN := Lib.hid hn
  clear hrd hl hn
  have k1 := Tryw.call21
  go_enter Tryw.func9, Try.ntmps9
  go_wp2
  have hz : ((w.alloc (.cells #[.slice A n c] 22)).alloc (.cells #[.int .i64 size] 3)).heap.size = w.heap.size + 2 := by simp
  have hc1 : Chg [] w ((w.alloc (.cells #[.slice A n c] 22)).alloc (.cells #[.int .i64 size] 3)) := ((Chg.refl [] w).alloc _).alloc _
  have hb1 : Blk ((w.alloc (.cells #[.slice A n c] 22)).alloc (.cells #[.int .i64 size] 3)) w.heap.size 22 #[.slice A n c] := (Blk.new w _ _).alloc _
  have hb2 : Blk ((w.alloc (.cells #[.slice A n c] 22)).alloc (.cells #[.int .i64 size] 3)) (w.heap.size + 1) 3 #[.int .i64 size] := by
    have h := Blk.new (w.alloc (.cells #[.slice A n c] 22)) 3 #[.int .i64 size]
    rwa [World.size_alloc] at h
  obtain ⟨w1, hw1⟩ : ∃ w1, (w.alloc (.cells #[.slice A n c] 22)).alloc (.cells #[.int .i64 size] 3) = w1 := ⟨_, rfl⟩
  rw [hw1] at hz hc1 hb1 hb2 ⊢
  clear hw1
  refine (clone_any A n c zs w1 HN.out (HR.out.chg hc1 (by simp))).mono ?_
  rintro e w2 ⟨B, c2, rfl, ho, hc2, hnew⟩
  have hb1' := hb1.chg hc2 (by simp)
  have hb2' := hb2.chg hc2 (by simp)
  have e1 := hb1'.cell 0
  have f1 := hb1'.frozen 0
  have hbB : ∀ k ∈ bo B, k ≠ w.heap.size ∧ k ≠ w.heap.size + 1 := fun k hk => by have := hnew k hk; omega
  obtain ⟨w3, hw3⟩ : ∃ w3, w2.setCell ⟨w.heap.size, 0, none⟩ (.slice B n c2) = w3 := ⟨_, rfl⟩
  have hc3 : Chg [w.heap.size] w2 w3 := by rw [← hw3]; exact (Chg.refl _ w2).setCell (.inl (by simp)) _
  have hb1'' : Blk w3 w.heap.size 22 #[.slice B n c2] := by rw [← hw3]; exact hb1'.set_ 0 _
  have hb2'' := hb2'.chg hc3 (by simp)
  have ho3 : Own w3 5 1 B n c2 (bv zs) := ho.chg hc3 (fun k hk h => (hbB k hk).1 (by simpa using h))
  have e2 := hb2''.cell 0
  have e3 := hb1''.cell 0
  have f2 := hb2''.frozen 0
  have hcw3 : Chg [] w w3 := (hc1.trans hc2 (by simp)).trans hc3 (fun b hb => .inr (by simp at hb; omega))
  by_cases hs1 : size < 1
  · have hs1d : decide (size < 1) = true := by simpa using hs1
    have fin : ∀ x : Int, ((szOf size n + 1 : Nat) : Int) = x → ∃ p1 p2 B' c2', (Ending.returned (.func (.func 22) #[] #[.pointer (some ⟨w.heap.size, 0, none⟩), .pointer (some ⟨w.heap.size + 1, 0, none⟩)])) = Ending.returned (.func (.func 22) #[] #[.pointer (some ⟨p1, 0, none⟩), .pointer (some ⟨p2, 0, none⟩)]) ∧ SeqOf zs (szOf size n) (w3.setCell ⟨w.heap.size + 1, 0, none⟩ (.int .i64 x)) p1 p2 B' c2' ∧ Chg [] w (w3.setCell ⟨w.heap.size + 1, 0, none⟩ (.int .i64 x)) ∧ w.heap.size ≤ p1 ∧ w.heap.size ≤ p2 ∧ ∀ k ∈ bo B', w.heap.size ≤ k := by
      intro x hx
      have hc4 : Chg [w.heap.size + 1] w3 (w3.setCell ⟨w.heap.size + 1, 0, none⟩ (.int .i64 x)) := (Chg.refl _ w3).setCell (.inl (by simp)) _
      refine ⟨_, _, B, c2, rfl, ⟨by omega, by rw [HL.out]; exact hb1''.far (by simp) _, ?_, by rw [HL.out]; exact ho3.chg hc4 (fun k hk h => (hbB k hk).2 (by simpa using h))⟩, hcw3.trans hc4 (fun b hb => .inr (by simp at hb; omega)), Nat.le_refl _, by omega, fun k hk => by have := hnew k hk; omega⟩
      rw [hx]
      exact hb2''.set_ 0 _
    have FIN := Lib.hid fin
    clear fin
    go_wp2
    all_goals go_ret
    · have hv : ((szOf size n + 1 : Nat) : Int) = (n : Int) := by unfold szOf; rw [if_pos (by omega)]; omega
      obtain ⟨p1, p2, B', c3, h1, h2, h3⟩ := FIN.out (n : Int) hv
      exact ⟨p1, p2, h1, B', ⟨c3, h2⟩, h3⟩
    · have hv : ((szOf size n + 1 : Nat) : Int) = 1 := by unfold szOf; rw [if_pos (by omega)]; omega
      obtain ⟨p1, p2, B', c3, h1, h2, h3⟩ := FIN.out 1 hv
      exact ⟨p1, p2, h1, B', ⟨c3, h2⟩, h3⟩
  · have hs1d : decide (size < 1) = false := by simpa using hs1
    go_wp2
    go_ret
    refine ⟨_, _, B, c2, rfl, ⟨by omega, by rw [HL.out]; exact hb1'', ?_, by rw [HL.out]; exact ho3⟩, hcw3, Nat.le_refl _, by omega, fun k hk => by have := hnew k hk; omega⟩
    have e : ((szOf size n + 1 : Nat) : Int) = size := by unfold szOf; rw [if_neg (by omega)]; omega
    rw [e]; exact hb2''
end Go.Proofs.Ytcdhmnefmbcmaaa.Ww
