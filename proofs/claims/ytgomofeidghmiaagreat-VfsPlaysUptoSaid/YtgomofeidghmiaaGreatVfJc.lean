/-
  Layer 08: the changes of names, as what their closures do to a tree.
  Layer 08: do: a change of names is made and kept.
  Layer 08: trees in memory stand for plain trees; what each change's closure does to one.
  Layer 08: the program's file system in memory.
  Layer 08: the program's file system: ask and find on it; what never changes grows; a file more; a change done.
-/
import Derived.Test.YtgomofeidghmiaaGreatVfJb
namespace Go.Proofs.YtgomofeidghmiaaGreat
open Go.RowKit

theorem fval_nil : fval [] = [] := rfl

set_option maxRecDepth 100000 in
set_option maxHeartbeats 3200000 in
theorem mkdir1_any (tb db : Nat) (m : List (ByteArray × Value)) (dir : ByteArray) (w : World) (hm : Mp w tb kvS m) (hd : w.cell? ⟨db, 0, none⟩ = some (.string dir)) :
    Calls Tryz.prog 67 #[.map (some tb), .pointer (some ⟨db, 0, none⟩)] w fun e w' => e = .returned (.tuple #[]) ∧ ∃ fb, w.heap.size ≤ fb ∧ Mp w' fb kvS [] ∧ Mp w' tb kvS (aput m dir (.map (some fb))) ∧ Chg [tb] w w' := by
  have hmm := @run_makeMap Tryz.prog
  have hal : Chg [] w (w.alloc (.map #[] 0)) := (Chg.refl _ _).alloc _
  obtain ⟨w2, hu, hmp2, hc2⟩ := Mp.update (hm.chg hal List.not_mem_nil) (string_key Tryz.underlying9) Tryz.underlying88 dir (.map (some w.heap.size))
  have hne : w.heap.size ≠ tb := by have := hm.lt; omega
  have HN : Hid (Mp w2 w.heap.size kvS []) := Lib.hid ((Mp.made w kvS).chg hc2 (by simpa using hne))
  have HM := Lib.hid hmp2
  have HC : Hid (Chg [tb] w w2) := Lib.hid ((hal.nil [tb]).trans hc2 (fun x hx => .inl hx))
  clear hm hmp2 hc2 hne hal
  go_enter Tryz.func67, Tryz.ntmps67
  go_wp2
  go_end0
  exact ⟨rfl, _, Nat.le_refl _, HN.out, HM.out, HC.out⟩

set_option maxRecDepth 100000 in
set_option maxHeartbeats 3200000 in
theorem rmdir1_any (tb db : Nat) (m : List (ByteArray × Value)) (dir : ByteArray) (w : World) (hm : Mp w tb kvS m) (hd : w.cell? ⟨db, 0, none⟩ = some (.string dir)) :
    Calls Tryz.prog 79 #[.map (some tb), .pointer (some ⟨db, 0, none⟩)] w fun e w' => e = .returned (.tuple #[]) ∧ Mp w' tb kvS (adel m dir) ∧ Chg [tb] w w' := by
  obtain ⟨w2, hu, hmp2, hc2⟩ := Mp.del hm (ty := 0) (string_key Tryz.underlying9) Tryz.underlying88 dir 9
  have HM := Lib.hid hmp2
  have HC := Lib.hid hc2
  clear hm hmp2 hc2
  go_enter Tryz.func79, Tryz.ntmps79
  go_wp2
  go_end0
  exact ⟨rfl, HM.out, HC.out⟩

set_option maxRecDepth 100000 in
set_option maxHeartbeats 3200000 in
theorem remove1_any (tb fb db nb : Nat) (m f : List (ByteArray × Value)) (dir name : ByteArray) (w : World) (hm : Mp w tb kvS m) (hf : Mp w fb kvS f) (hg : aget m dir = some (.map (some fb)))
    (hd : w.cell? ⟨db, 0, none⟩ = some (.string dir)) (hn : w.cell? ⟨nb, 0, none⟩ = some (.string name)) :
    Calls Tryz.prog 78 #[.map (some tb), .pointer (some ⟨db, 0, none⟩), .pointer (some ⟨nb, 0, none⟩)] w fun e w' => e = .returned (.tuple #[]) ∧ Mp w' fb kvS (adel f name) ∧ Chg [fb] w w' := by
  obtain ⟨w2, hu, hmp2, hc2⟩ := Mp.del hf (ty := 0) (string_key Tryz.underlying9) Tryz.underlying94 name 9
  have hl := (Mp.lookup hm (string_key Tryz.underlying9) Tryz.underlying88 (z := .map none) (by kernel_rfl) dir).1
  rw [hg, Option.getD_some] at hl
  have HM := Lib.hid hmp2
  have HC := Lib.hid hc2
  clear hm hf hmp2 hc2 hg
  go_enter Tryz.func78, Tryz.ntmps78
  go_wp2
  go_end0
  exact ⟨rfl, HM.out, HC.out⟩

set_option maxRecDepth 100000 in
set_option maxHeartbeats 3200000 in
theorem create1_any (tb fb xb db nb ib : Nat) (m f : List (ByteArray × Value)) (dir name : ByteArray) (w : World) (hm : Mp w tb kvS m) (hf : Mp w fb kvS f) (hg : aget m dir = some (.map (some fb)))
    (hx : w.cell? ⟨xb, 0, none⟩ = some (.pointer (some ⟨ib, 0, none⟩))) (hd : w.cell? ⟨db, 0, none⟩ = some (.string dir)) (hn : w.cell? ⟨nb, 0, none⟩ = some (.string name)) :
    Calls Tryz.prog 68 #[.map (some tb), .pointer (some ⟨xb, 0, none⟩), .pointer (some ⟨db, 0, none⟩), .pointer (some ⟨nb, 0, none⟩)] w fun e w' => e = .returned (.tuple #[]) ∧ Mp w' fb kvS (aput f name (.pointer (some ⟨ib, 0, none⟩))) ∧ Chg [fb] w w' := by
  obtain ⟨w2, hu, hmp2, hc2⟩ := Mp.update hf (string_key Tryz.underlying9) Tryz.underlying94 name (.pointer (some ⟨ib, 0, none⟩))
  have hl := (Mp.lookup hm (string_key Tryz.underlying9) Tryz.underlying88 (z := .map none) (by kernel_rfl) dir).1
  rw [hg, Option.getD_some] at hl
  have HM := Lib.hid hmp2
  have HC := Lib.hid hc2
  clear hm hf hmp2 hc2 hg
  go_enter Tryz.func68, Tryz.ntmps68
  go_wp2
  go_end0
  exact ⟨rfl, HM.out, HC.out⟩

set_option maxRecDepth 100000 in
set_option maxHeartbeats 3200000 in
theorem rename1_any (tb fb db nb : Nat) (m : List (ByteArray × Value)) (src dst : ByteArray) (w : World) (hm : Mp w tb kvS m) (hg : aget m src = some (.map (some fb)))
    (hd : w.cell? ⟨db, 0, none⟩ = some (.string src)) (hn : w.cell? ⟨nb, 0, none⟩ = some (.string dst)) (_ : db ≠ tb) (h2 : nb ≠ tb) :
    Calls Tryz.prog 77 #[.map (some tb), .pointer (some ⟨db, 0, none⟩), .pointer (some ⟨nb, 0, none⟩)] w fun e w' => e = .returned (.tuple #[]) ∧ Mp w' tb kvS (aput (adel m src) dst (.map (some fb))) ∧ Chg [tb] w w' := by
  have hl := (Mp.lookup hm (string_key Tryz.underlying9) Tryz.underlying88 (z := .map none) (by kernel_rfl) src).1
  rw [hg, Option.getD_some] at hl
  obtain ⟨w2, hu, hmp2, hc2⟩ := Mp.del hm (ty := 0) (string_key Tryz.underlying9) Tryz.underlying88 src 9
  obtain ⟨w3, hu3, hmp3, hc3⟩ := Mp.update hmp2 (string_key Tryz.underlying9) Tryz.underlying88 dst (.map (some fb))
  have hn2 := hc2.cell hn (by simpa using h2)
  have HM := Lib.hid hmp3
  have HC : Hid (Chg [tb] w w3) := Lib.hid (hc2.trans hc3 (fun x hx => .inl hx))
  clear hm hmp2 hc2 hmp3 hc3 hg
  go_enter Tryz.func77, Tryz.ntmps77
  go_wp2
  go_end0
  exact ⟨rfl, HM.out, HC.out⟩
end Go.Proofs.YtgomofeidghmiaaGreat

namespace Go.Proofs.YtgomofeidghmiaaGreat
open Go.RowKit

theorem etyChanges : Ety Tryz.prog 89 112 1 8 .nilFunc := .mk' Tryz.underlying89 (by kernel_rfl) rfl (by decide)

set_option maxRecDepth 100000 in
set_option maxHeartbeats 3200000 in
theorem do_mkdir_any (k0 : Value) (b tb : Nat) (sf : Option Nat) (A Aw : Option Addr) (n c nw cw : Nat) (q a : Int) (s : Nat) (xs : List Value) (w : World) (R : World → Prop) (L : List Nat)
    (hcall : Calls Tryz.prog 67 #[.map (some tb), k0] w fun e w' => e = .returned (.tuple #[]) ∧ R w' ∧ Chg L w w')
    (hb : Blk w b 92 #[.map (some tb), .map sf, .slice A n c, .slice Aw nw cw, .int .i64 q, .int .i64 a, .int .i64 (s : Int)]) (ho : Own w 112 1 A n c xs) (hbL : b ∉ L) (hoL : ∀ x ∈ bo A, x ∉ L) (hn : n ≤ 1073741824) (hs : s ≤ 1073741824) :
    Calls Tryz.prog 66 #[.pointer (some ⟨b, 0, none⟩), .func (.func 67) #[] #[k0]] w fun e w' => e = .returned (.int .i64 0) ∧ ∃ w1, R w1 ∧ Chg L w w1 ∧ Chg (b :: bo A) w1 w' ∧ ∃ A' c',
      Blk w' b 92 #[.map (some tb), .map sf, (.slice A' (n + 1) c'), .slice Aw nw cw, .int .i64 q, .int .i64 a, .int .i64 ((s + 1 : Nat) : Int)] ∧ Own w' 112 1 A' (n + 1) c' (xs ++ [.func (.func 67) #[] #[k0]]) ∧ ∀ x ∈ bo A', x ∈ bo A ∨ w1.heap.size ≤ x := by
  have HC := Lib.hid hcall
  have HB := Lib.hid hb
  have HO := Lib.hid ho
  have h0 := hb.cell 0
  simp at h0
  have hwt : IntKind.i64.wrap ((s : Int) + 1) = ((s + 1 : Nat) : Int) := by rw [IntKind.wrap_i64]; omega
  clear hcall hb ho
  go_enter Tryz.func66, Tryz.ntmps66
  go_wp2_with fail
  refine HC.out.mono ?_
  rintro e w1 ⟨rfl, hr, hc1⟩
  have HR := Lib.hid hr
  have HC1 := Lib.hid hc1
  have hb1 := HB.out.chg hc1 hbL
  have HO1 := Lib.hid (HO.out.chg hc1 hoL)
  have HB1 := Lib.hid hb1
  have x2 := hb1.cell 2
  simp at x2
  clear hr hc1 hb1 h0
  go_wp2_with (at_builtin; refine wpList_app rfl _ _ rfl etyChanges rfl (HO1.out.chg ((Chg.refl [] w1).alloc (.cells #[.func (.func 67) #[] #[k0]] 112)) (fun _ _ => List.not_mem_nil)) rfl (Own.lit w1 112 1 #[.func (.func 67) #[] #[k0]] 1 (by decide) rfl).rd (by simp [Value.oneCell']) (by unfold maxLen; omega) (by omega) ?_; intro A2 c2 w2 hown2 hchg2 hnew2 _; have HCX : Hid (Chg (bo A) w1 w2) := Lib.hid ((((Chg.refl [] w1).alloc (.cells #[.func (.func 67) #[] #[k0]] 112)).nil _).trans hchg2 (fun x hx => .inl hx)); have hbA : b ∉ bo A := (fun hm => HO1.out.blk_ne HB1.out (by decide) b hm rfl); have HB2 := Lib.hid (HB1.out.chg HCX.out hbA); have y2 := HB2.out.cell 2; have f2 := HB2.out.frozen 2; have HB3 := Lib.hid (HB2.out.set_ 2 (.slice A2 (n + 1) c2)); have y6 := HB3.out.cell 6; have f6 := HB3.out.frozen 6; simp at y2 y6; have HO2 := Lib.hid hown2; have HN2 : Hid (∀ x ∈ bo A2, x ∈ bo A ∨ w1.heap.size ≤ x) := Lib.hid (fun x hx => (hnew2 x hx).imp id (fun h => by have := h.1; simp at this; omega)); clear hown2 hchg2 hnew2 hbA)
  go_ret
  have hb2 := HO2.out.blk_ne HB2.out (by decide)
  have hb4 := HB3.out.set_ 6 (.int .i64 ((s + 1 : Nat) : Int))
  refine ⟨rfl, w1, HR.out, HC1.out, ?_, A2, c2, ?_, ?_, HN2.out⟩
  · exact ((HCX.out.mono (fun x hx => .inl (List.mem_cons_of_mem _ hx))).setCell (.inl (by simp)) _).setCell (.inl (by simp)) _
  · simpa using hb4
  · have hcs : Chg [b] w2 ((w2.setCell ⟨b, 2, none⟩ (.slice A2 (n + 1) c2)).setCell ⟨b, 6, none⟩ (.int .i64 ((s + 1 : Nat) : Int))) := ((Chg.refl _ _).setCell (.inl (by simp)) _).setCell (.inl (by simp)) _
    have q := HO2.out.chg hcs (fun x hx hm => hb2 x hx (by simpa using hm))
    simpa using q

set_option maxRecDepth 100000 in
set_option maxHeartbeats 3200000 in
theorem do_rmdir_any (k0 : Value) (b tb : Nat) (sf : Option Nat) (A Aw : Option Addr) (n c nw cw : Nat) (q a : Int) (s : Nat) (xs : List Value) (w : World) (R : World → Prop) (L : List Nat)
    (hcall : Calls Tryz.prog 79 #[.map (some tb), k0] w fun e w' => e = .returned (.tuple #[]) ∧ R w' ∧ Chg L w w')
    (hb : Blk w b 92 #[.map (some tb), .map sf, .slice A n c, .slice Aw nw cw, .int .i64 q, .int .i64 a, .int .i64 (s : Int)]) (ho : Own w 112 1 A n c xs) (hbL : b ∉ L) (hoL : ∀ x ∈ bo A, x ∉ L) (hn : n ≤ 1073741824) (hs : s ≤ 1073741824) :
    Calls Tryz.prog 66 #[.pointer (some ⟨b, 0, none⟩), .func (.func 79) #[] #[k0]] w fun e w' => e = .returned (.int .i64 0) ∧ ∃ w1, R w1 ∧ Chg L w w1 ∧ Chg (b :: bo A) w1 w' ∧ ∃ A' c',
      Blk w' b 92 #[.map (some tb), .map sf, (.slice A' (n + 1) c'), .slice Aw nw cw, .int .i64 q, .int .i64 a, .int .i64 ((s + 1 : Nat) : Int)] ∧ Own w' 112 1 A' (n + 1) c' (xs ++ [.func (.func 79) #[] #[k0]]) ∧ ∀ x ∈ bo A', x ∈ bo A ∨ w1.heap.size ≤ x := by
  have HC := Lib.hid hcall
  have HB := Lib.hid hb
  have HO := Lib.hid ho
  have h0 := hb.cell 0
  simp at h0
  have hwt : IntKind.i64.wrap ((s : Int) + 1) = ((s + 1 : Nat) : Int) := by rw [IntKind.wrap_i64]; omega
  clear hcall hb ho
  go_enter Tryz.func66, Tryz.ntmps66
  go_wp2_with fail
  refine HC.out.mono ?_
  rintro e w1 ⟨rfl, hr, hc1⟩
  have HR := Lib.hid hr
  have HC1 := Lib.hid hc1
  have hb1 := HB.out.chg hc1 hbL
  have HO1 := Lib.hid (HO.out.chg hc1 hoL)
  have HB1 := Lib.hid hb1
  have x2 := hb1.cell 2
  simp at x2
  clear hr hc1 hb1 h0
  go_wp2_with (at_builtin; refine wpList_app rfl _ _ rfl etyChanges rfl (HO1.out.chg ((Chg.refl [] w1).alloc (.cells #[.func (.func 79) #[] #[k0]] 112)) (fun _ _ => List.not_mem_nil)) rfl (Own.lit w1 112 1 #[.func (.func 79) #[] #[k0]] 1 (by decide) rfl).rd (by simp [Value.oneCell']) (by unfold maxLen; omega) (by omega) ?_; intro A2 c2 w2 hown2 hchg2 hnew2 _; have HCX : Hid (Chg (bo A) w1 w2) := Lib.hid ((((Chg.refl [] w1).alloc (.cells #[.func (.func 79) #[] #[k0]] 112)).nil _).trans hchg2 (fun x hx => .inl hx)); have hbA : b ∉ bo A := (fun hm => HO1.out.blk_ne HB1.out (by decide) b hm rfl); have HB2 := Lib.hid (HB1.out.chg HCX.out hbA); have y2 := HB2.out.cell 2; have f2 := HB2.out.frozen 2; have HB3 := Lib.hid (HB2.out.set_ 2 (.slice A2 (n + 1) c2)); have y6 := HB3.out.cell 6; have f6 := HB3.out.frozen 6; simp at y2 y6; have HO2 := Lib.hid hown2; have HN2 : Hid (∀ x ∈ bo A2, x ∈ bo A ∨ w1.heap.size ≤ x) := Lib.hid (fun x hx => (hnew2 x hx).imp id (fun h => by have := h.1; simp at this; omega)); clear hown2 hchg2 hnew2 hbA)
  go_ret
  have hb2 := HO2.out.blk_ne HB2.out (by decide)
  have hb4 := HB3.out.set_ 6 (.int .i64 ((s + 1 : Nat) : Int))
  refine ⟨rfl, w1, HR.out, HC1.out, ?_, A2, c2, ?_, ?_, HN2.out⟩
  · exact ((HCX.out.mono (fun x hx => .inl (List.mem_cons_of_mem _ hx))).setCell (.inl (by simp)) _).setCell (.inl (by simp)) _
  · simpa using hb4
  · have hcs : Chg [b] w2 ((w2.setCell ⟨b, 2, none⟩ (.slice A2 (n + 1) c2)).setCell ⟨b, 6, none⟩ (.int .i64 ((s + 1 : Nat) : Int))) := ((Chg.refl _ _).setCell (.inl (by simp)) _).setCell (.inl (by simp)) _
    have q := HO2.out.chg hcs (fun x hx hm => hb2 x hx (by simpa using hm))
    simpa using q

set_option maxRecDepth 100000 in
set_option maxHeartbeats 3200000 in
theorem do_create_any (k0 k1 k2 : Value) (b tb : Nat) (sf : Option Nat) (A Aw : Option Addr) (n c nw cw : Nat) (q a : Int) (s : Nat) (xs : List Value) (w : World) (R : World → Prop) (L : List Nat)
    (hcall : Calls Tryz.prog 68 #[.map (some tb), k0, k1, k2] w fun e w' => e = .returned (.tuple #[]) ∧ R w' ∧ Chg L w w')
    (hb : Blk w b 92 #[.map (some tb), .map sf, .slice A n c, .slice Aw nw cw, .int .i64 q, .int .i64 a, .int .i64 (s : Int)]) (ho : Own w 112 1 A n c xs) (hbL : b ∉ L) (hoL : ∀ x ∈ bo A, x ∉ L) (hn : n ≤ 1073741824) (hs : s ≤ 1073741824) :
    Calls Tryz.prog 66 #[.pointer (some ⟨b, 0, none⟩), .func (.func 68) #[] #[k0, k1, k2]] w fun e w' => e = .returned (.int .i64 0) ∧ ∃ w1, R w1 ∧ Chg L w w1 ∧ Chg (b :: bo A) w1 w' ∧ ∃ A' c',
      Blk w' b 92 #[.map (some tb), .map sf, (.slice A' (n + 1) c'), .slice Aw nw cw, .int .i64 q, .int .i64 a, .int .i64 ((s + 1 : Nat) : Int)] ∧ Own w' 112 1 A' (n + 1) c' (xs ++ [.func (.func 68) #[] #[k0, k1, k2]]) ∧ ∀ x ∈ bo A', x ∈ bo A ∨ w1.heap.size ≤ x := by
  have HC := Lib.hid hcall
  have HB := Lib.hid hb
  have HO := Lib.hid ho
  have h0 := hb.cell 0
  simp at h0
  have hwt : IntKind.i64.wrap ((s : Int) + 1) = ((s + 1 : Nat) : Int) := by rw [IntKind.wrap_i64]; omega
  clear hcall hb ho
  go_enter Tryz.func66, Tryz.ntmps66
  go_wp2_with fail
  refine HC.out.mono ?_
  rintro e w1 ⟨rfl, hr, hc1⟩
  have HR := Lib.hid hr
  have HC1 := Lib.hid hc1
  have hb1 := HB.out.chg hc1 hbL
  have HO1 := Lib.hid (HO.out.chg hc1 hoL)
  have HB1 := Lib.hid hb1
  have x2 := hb1.cell 2
  simp at x2
  clear hr hc1 hb1 h0
  go_wp2_with (at_builtin; refine wpList_app rfl _ _ rfl etyChanges rfl (HO1.out.chg ((Chg.refl [] w1).alloc (.cells #[.func (.func 68) #[] #[k0, k1, k2]] 112)) (fun _ _ => List.not_mem_nil)) rfl (Own.lit w1 112 1 #[.func (.func 68) #[] #[k0, k1, k2]] 1 (by decide) rfl).rd (by simp [Value.oneCell']) (by unfold maxLen; omega) (by omega) ?_; intro A2 c2 w2 hown2 hchg2 hnew2 _; have HCX : Hid (Chg (bo A) w1 w2) := Lib.hid ((((Chg.refl [] w1).alloc (.cells #[.func (.func 68) #[] #[k0, k1, k2]] 112)).nil _).trans hchg2 (fun x hx => .inl hx)); have hbA : b ∉ bo A := (fun hm => HO1.out.blk_ne HB1.out (by decide) b hm rfl); have HB2 := Lib.hid (HB1.out.chg HCX.out hbA); have y2 := HB2.out.cell 2; have f2 := HB2.out.frozen 2; have HB3 := Lib.hid (HB2.out.set_ 2 (.slice A2 (n + 1) c2)); have y6 := HB3.out.cell 6; have f6 := HB3.out.frozen 6; simp at y2 y6; have HO2 := Lib.hid hown2; have HN2 : Hid (∀ x ∈ bo A2, x ∈ bo A ∨ w1.heap.size ≤ x) := Lib.hid (fun x hx => (hnew2 x hx).imp id (fun h => by have := h.1; simp at this; omega)); clear hown2 hchg2 hnew2 hbA)
  go_ret
  have hb2 := HO2.out.blk_ne HB2.out (by decide)
  have hb4 := HB3.out.set_ 6 (.int .i64 ((s + 1 : Nat) : Int))
  refine ⟨rfl, w1, HR.out, HC1.out, ?_, A2, c2, ?_, ?_, HN2.out⟩
  · exact ((HCX.out.mono (fun x hx => .inl (List.mem_cons_of_mem _ hx))).setCell (.inl (by simp)) _).setCell (.inl (by simp)) _
  · simpa using hb4
  · have hcs : Chg [b] w2 ((w2.setCell ⟨b, 2, none⟩ (.slice A2 (n + 1) c2)).setCell ⟨b, 6, none⟩ (.int .i64 ((s + 1 : Nat) : Int))) := ((Chg.refl _ _).setCell (.inl (by simp)) _).setCell (.inl (by simp)) _
    have q := HO2.out.chg hcs (fun x hx hm => hb2 x hx (by simpa using hm))
    simpa using q

set_option maxRecDepth 100000 in
set_option maxHeartbeats 3200000 in
theorem do_remove_any (k0 k1 : Value) (b tb : Nat) (sf : Option Nat) (A Aw : Option Addr) (n c nw cw : Nat) (q a : Int) (s : Nat) (xs : List Value) (w : World) (R : World → Prop) (L : List Nat)
    (hcall : Calls Tryz.prog 78 #[.map (some tb), k0, k1] w fun e w' => e = .returned (.tuple #[]) ∧ R w' ∧ Chg L w w')
    (hb : Blk w b 92 #[.map (some tb), .map sf, .slice A n c, .slice Aw nw cw, .int .i64 q, .int .i64 a, .int .i64 (s : Int)]) (ho : Own w 112 1 A n c xs) (hbL : b ∉ L) (hoL : ∀ x ∈ bo A, x ∉ L) (hn : n ≤ 1073741824) (hs : s ≤ 1073741824) :
    Calls Tryz.prog 66 #[.pointer (some ⟨b, 0, none⟩), .func (.func 78) #[] #[k0, k1]] w fun e w' => e = .returned (.int .i64 0) ∧ ∃ w1, R w1 ∧ Chg L w w1 ∧ Chg (b :: bo A) w1 w' ∧ ∃ A' c',
      Blk w' b 92 #[.map (some tb), .map sf, (.slice A' (n + 1) c'), .slice Aw nw cw, .int .i64 q, .int .i64 a, .int .i64 ((s + 1 : Nat) : Int)] ∧ Own w' 112 1 A' (n + 1) c' (xs ++ [.func (.func 78) #[] #[k0, k1]]) ∧ ∀ x ∈ bo A', x ∈ bo A ∨ w1.heap.size ≤ x := by
  have HC := Lib.hid hcall
  have HB := Lib.hid hb
  have HO := Lib.hid ho
  have h0 := hb.cell 0
  simp at h0
  have hwt : IntKind.i64.wrap ((s : Int) + 1) = ((s + 1 : Nat) : Int) := by rw [IntKind.wrap_i64]; omega
  clear hcall hb ho
  go_enter Tryz.func66, Tryz.ntmps66
  go_wp2_with fail
  refine HC.out.mono ?_
  rintro e w1 ⟨rfl, hr, hc1⟩
  have HR := Lib.hid hr
  have HC1 := Lib.hid hc1
  have hb1 := HB.out.chg hc1 hbL
  have HO1 := Lib.hid (HO.out.chg hc1 hoL)
  have HB1 := Lib.hid hb1
  have x2 := hb1.cell 2
  simp at x2
  clear hr hc1 hb1 h0
  go_wp2_with (at_builtin; refine wpList_app rfl _ _ rfl etyChanges rfl (HO1.out.chg ((Chg.refl [] w1).alloc (.cells #[.func (.func 78) #[] #[k0, k1]] 112)) (fun _ _ => List.not_mem_nil)) rfl (Own.lit w1 112 1 #[.func (.func 78) #[] #[k0, k1]] 1 (by decide) rfl).rd (by simp [Value.oneCell']) (by unfold maxLen; omega) (by omega) ?_; intro A2 c2 w2 hown2 hchg2 hnew2 _; have HCX : Hid (Chg (bo A) w1 w2) := Lib.hid ((((Chg.refl [] w1).alloc (.cells #[.func (.func 78) #[] #[k0, k1]] 112)).nil _).trans hchg2 (fun x hx => .inl hx)); have hbA : b ∉ bo A := (fun hm => HO1.out.blk_ne HB1.out (by decide) b hm rfl); have HB2 := Lib.hid (HB1.out.chg HCX.out hbA); have y2 := HB2.out.cell 2; have f2 := HB2.out.frozen 2; have HB3 := Lib.hid (HB2.out.set_ 2 (.slice A2 (n + 1) c2)); have y6 := HB3.out.cell 6; have f6 := HB3.out.frozen 6; simp at y2 y6; have HO2 := Lib.hid hown2; have HN2 : Hid (∀ x ∈ bo A2, x ∈ bo A ∨ w1.heap.size ≤ x) := Lib.hid (fun x hx => (hnew2 x hx).imp id (fun h => by have := h.1; simp at this; omega)); clear hown2 hchg2 hnew2 hbA)
  go_ret
  have hb2 := HO2.out.blk_ne HB2.out (by decide)
  have hb4 := HB3.out.set_ 6 (.int .i64 ((s + 1 : Nat) : Int))
  refine ⟨rfl, w1, HR.out, HC1.out, ?_, A2, c2, ?_, ?_, HN2.out⟩
  · exact ((HCX.out.mono (fun x hx => .inl (List.mem_cons_of_mem _ hx))).setCell (.inl (by simp)) _).setCell (.inl (by simp)) _
  · simpa using hb4
  · have hcs : Chg [b] w2 ((w2.setCell ⟨b, 2, none⟩ (.slice A2 (n + 1) c2)).setCell ⟨b, 6, none⟩ (.int .i64 ((s + 1 : Nat) : Int))) := ((Chg.refl _ _).setCell (.inl (by simp)) _).setCell (.inl (by simp)) _
    have q := HO2.out.chg hcs (fun x hx hm => hb2 x hx (by simpa using hm))
    simpa using q

set_option maxRecDepth 100000 in
set_option maxHeartbeats 3200000 in
theorem do_rename_any (k0 k1 : Value) (b tb : Nat) (sf : Option Nat) (A Aw : Option Addr) (n c nw cw : Nat) (q a : Int) (s : Nat) (xs : List Value) (w : World) (R : World → Prop) (L : List Nat)
    (hcall : Calls Tryz.prog 77 #[.map (some tb), k0, k1] w fun e w' => e = .returned (.tuple #[]) ∧ R w' ∧ Chg L w w')
    (hb : Blk w b 92 #[.map (some tb), .map sf, .slice A n c, .slice Aw nw cw, .int .i64 q, .int .i64 a, .int .i64 (s : Int)]) (ho : Own w 112 1 A n c xs) (hbL : b ∉ L) (hoL : ∀ x ∈ bo A, x ∉ L) (hn : n ≤ 1073741824) (hs : s ≤ 1073741824) :
    Calls Tryz.prog 66 #[.pointer (some ⟨b, 0, none⟩), .func (.func 77) #[] #[k0, k1]] w fun e w' => e = .returned (.int .i64 0) ∧ ∃ w1, R w1 ∧ Chg L w w1 ∧ Chg (b :: bo A) w1 w' ∧ ∃ A' c',
      Blk w' b 92 #[.map (some tb), .map sf, (.slice A' (n + 1) c'), .slice Aw nw cw, .int .i64 q, .int .i64 a, .int .i64 ((s + 1 : Nat) : Int)] ∧ Own w' 112 1 A' (n + 1) c' (xs ++ [.func (.func 77) #[] #[k0, k1]]) ∧ ∀ x ∈ bo A', x ∈ bo A ∨ w1.heap.size ≤ x := by
  have HC := Lib.hid hcall
  have HB := Lib.hid hb
  have HO := Lib.hid ho
  have h0 := hb.cell 0
  simp at h0
  have hwt : IntKind.i64.wrap ((s : Int) + 1) = ((s + 1 : Nat) : Int) := by rw [IntKind.wrap_i64]; omega
  clear hcall hb ho
  go_enter Tryz.func66, Tryz.ntmps66
  go_wp2_with fail
  refine HC.out.mono ?_
  rintro e w1 ⟨rfl, hr, hc1⟩
  have HR := Lib.hid hr
  have HC1 := Lib.hid hc1
  have hb1 := HB.out.chg hc1 hbL
  have HO1 := Lib.hid (HO.out.chg hc1 hoL)
  have HB1 := Lib.hid hb1
  have x2 := hb1.cell 2
  simp at x2
  clear hr hc1 hb1 h0
  go_wp2_with (at_builtin; refine wpList_app rfl _ _ rfl etyChanges rfl (HO1.out.chg ((Chg.refl [] w1).alloc (.cells #[.func (.func 77) #[] #[k0, k1]] 112)) (fun _ _ => List.not_mem_nil)) rfl (Own.lit w1 112 1 #[.func (.func 77) #[] #[k0, k1]] 1 (by decide) rfl).rd (by simp [Value.oneCell']) (by unfold maxLen; omega) (by omega) ?_; intro A2 c2 w2 hown2 hchg2 hnew2 _; have HCX : Hid (Chg (bo A) w1 w2) := Lib.hid ((((Chg.refl [] w1).alloc (.cells #[.func (.func 77) #[] #[k0, k1]] 112)).nil _).trans hchg2 (fun x hx => .inl hx)); have hbA : b ∉ bo A := (fun hm => HO1.out.blk_ne HB1.out (by decide) b hm rfl); have HB2 := Lib.hid (HB1.out.chg HCX.out hbA); have y2 := HB2.out.cell 2; have f2 := HB2.out.frozen 2; have HB3 := Lib.hid (HB2.out.set_ 2 (.slice A2 (n + 1) c2)); have y6 := HB3.out.cell 6; have f6 := HB3.out.frozen 6; simp at y2 y6; have HO2 := Lib.hid hown2; have HN2 : Hid (∀ x ∈ bo A2, x ∈ bo A ∨ w1.heap.size ≤ x) := Lib.hid (fun x hx => (hnew2 x hx).imp id (fun h => by have := h.1; simp at this; omega)); clear hown2 hchg2 hnew2 hbA)
  go_ret
  have hb2 := HO2.out.blk_ne HB2.out (by decide)
  have hb4 := HB3.out.set_ 6 (.int .i64 ((s + 1 : Nat) : Int))
  refine ⟨rfl, w1, HR.out, HC1.out, ?_, A2, c2, ?_, ?_, HN2.out⟩
  · exact ((HCX.out.mono (fun x hx => .inl (List.mem_cons_of_mem _ hx))).setCell (.inl (by simp)) _).setCell (.inl (by simp)) _
  · simpa using hb4
  · have hcs : Chg [b] w2 ((w2.setCell ⟨b, 2, none⟩ (.slice A2 (n + 1) c2)).setCell ⟨b, 6, none⟩ (.int .i64 ((s + 1 : Nat) : Int))) := ((Chg.refl _ _).setCell (.inl (by simp)) _).setCell (.inl (by simp)) _
    have q := HO2.out.chg hcs (fun x hx hm => hb2 x hx (by simpa using hm))
    simpa using q
end Go.Proofs.YtgomofeidghmiaaGreat

namespace Go.Proofs.YtgomofeidghmiaaGreat
open Go.RowKit

section
variable {κ α β : Type} [DecidableEq κ]
theorem aput_map (f : α → β) (t : List (κ × α)) (k : κ) (v : α) : aput (t.map fun p => (p.1, f p.2)) k (f v) = (aput t k v).map fun p => (p.1, f p.2) := by
  induction t with
  | nil => rfl
  | cons p r ih =>
    rw [List.map_cons, aput_cons, aput_cons, ih]
    by_cases h : p.1 = k <;> simp [h]
theorem adel_map (f : α → β) (t : List (κ × α)) (k : κ) : adel (t.map fun p => (p.1, f p.2)) k = (adel t k).map fun p => (p.1, f p.2) := by
  induction t with
  | nil => rfl
  | cons p r ih =>
    rw [List.map_cons, adel_cons, adel_cons, ih]
    by_cases h : p.1 = k <;> simp [h]
theorem mem_aput {t : List (κ × α)} (hn : (t.map Prod.fst).Nodup) {k : κ} {v : α} {p : κ × α} : p ∈ aput t k v ↔ p = (k, v) ∨ (p ∈ t ∧ p.1 ≠ k) := by
  rw [(aput_perm hn k v).mem_iff, List.mem_cons]
  unfold without; simp
theorem mem_adel {t : List (κ × α)} (hn : (t.map Prod.fst).Nodup) {k : κ} {p : κ × α} : p ∈ adel t k ↔ (p ∈ t ∧ p.1 ≠ k) := by
  rw [adel_without hn]
  unfold without; simp
theorem adel_nodup {t : List (κ × α)} (hn : (t.map Prod.fst).Nodup) (k : κ) : ((adel t k).map Prod.fst).Nodup := by
  rw [adel_without hn]
  exact hn.sublist (List.filter_sublist.map _)
theorem aput_same {t : List (κ × α)} {k : κ} {v : α} (h : aget t k = some v) : aput t k v = t := by
  induction t with
  | nil => cases h
  | cons p r ih =>
    rw [aget_cons] at h
    rw [aput_cons]
    by_cases hp : p.1 = k
    · rw [if_pos hp] at h ⊢
      injection h with h
      rw [← hp, ← h]
    · rw [if_neg hp] at h ⊢
      rw [ih h]
end

abbrev GTr := List (ByteArray × Nat × List (ByteArray × Nat))
/-- a tree's blocks -/
def tbl (tb : Nat) (g : GTr) : List Nat := tb :: g.map fun p => p.2.1
/-- a file's inode -/
def ibf (ib : List Nat) (i : Nat) : Nat := ib.getD i 0
/-- the tree in memory is that -/
structure TreeIs (ib : List Nat) (g : GTr) (T : Tr) : Prop where
  top : ∀ k, (aget g k).isSome = (aget T k).isSome
  sub : ∀ k d F, aget g k = some d → aget T k = some F → ∀ n, aget d.2 n = (aget F n).map (ibf ib)

theorem tval_fst (g : GTr) : (tval g).map Prod.fst = g.map Prod.fst := by unfold tval; rw [List.map_map]; rfl
theorem fval_fst (f : List (ByteArray × Nat)) : (fval f).map Prod.fst = f.map Prod.fst := by unfold fval; rw [List.map_map]; rfl
theorem Tree.nodup {w : World} {tb : Nat} {g : GTr} (h : Tree w tb g) : (g.map Prod.fst).Nodup := by rw [← tval_fst]; exact h.top.nodup
theorem Tree.subnodup {w : World} {tb : Nat} {g : GTr} (h : Tree w tb g) {p : ByteArray × Nat × List (ByteArray × Nat)} (hp : p ∈ g) : (p.2.2.map Prod.fst).Nodup := by rw [← fval_fst]; exact (h.sub p hp).nodup
theorem Tree.lt {w : World} {tb : Nat} {g : GTr} (h : Tree w tb g) : ∀ x ∈ tbl tb g, x < w.heap.size := by
  intro x hx
  rcases List.mem_cons.1 hx with rfl | hx
  · exact h.top.lt
  · obtain ⟨p, hp, rfl⟩ := List.mem_map.1 hx
    exact (h.sub p hp).lt
theorem Tree.keep {w w' : World} {tb : Nat} {g : GTr} {L : List Nat} (h : Tree w tb g) (hc : Chg L w w') (hn : ∀ x ∈ tbl tb g, x ∉ L) : Tree w' tb g :=
  h.chg hc (hn tb (by simp [tbl])) (fun p hp => hn _ (by simp only [tbl, List.mem_cons, List.mem_map]; exact .inr ⟨p, hp, rfl⟩))
theorem TreeIs.get {ib : List Nat} {g : GTr} {T : Tr} (h : TreeIs ib g T) {k : ByteArray} {F : Fol} (hF : aget T k = some F) : ∃ d, aget g k = some d ∧ ∀ n, aget d.2 n = (aget F n).map (ibf ib) := by
  have := h.top k
  rw [hF] at this
  cases hg : aget g k with
  | none => rw [hg] at this; cases this
  | some d => exact ⟨d, rfl, h.sub k d F hg hF⟩
theorem TreeIs.none {ib : List Nat} {g : GTr} {T : Tr} (h : TreeIs ib g T) {k : ByteArray} (hF : aget T k = none) : aget g k = none := by
  have := h.top k
  rw [hF] at this
  cases hg : aget g k with
  | none => rfl
  | some d => rw [hg] at this; cases this
/-- a directory in memory: there, or not -/
theorem TreeIs.fol {ib : List Nat} {g : GTr} {T : Tr} (h : TreeIs ib g T) (k n : ByteArray) : ((aget g k).bind fun d => aget d.2 n) = (aget (folOf T k) n).map (ibf ib) := by
  unfold folOf
  cases hF : aget T k with
  | none => rw [h.none hF]; rfl
  | some F => obtain ⟨d, hd, hs⟩ := h.get hF; rw [hd]; exact hs n
theorem TreeIs.keys {ib : List Nat} {g : GTr} {T : Tr} (h : TreeIs ib g T) (hn : (g.map Prod.fst).Nodup) (hT : Srt T) : (g.map Prod.fst).Perm (T.map Prod.fst) := by
  rw [List.perm_ext_iff_of_nodup hn hT.nodup]
  intro k
  rw [← aget_isSome, ← aget_isSome, h.top]
theorem fol_keys {ib : List Nat} {f : List (ByteArray × Nat)} {F : Fol} (h : ∀ n, aget f n = (aget F n).map (ibf ib)) (hn : (f.map Prod.fst).Nodup) (hF : Srt F) : (f.map Prod.fst).Perm (F.map Prod.fst) := by
  rw [List.perm_ext_iff_of_nodup hn hF.nodup]
  intro k
  rw [← aget_isSome, ← aget_isSome, h k]
  cases aget F k <;> rfl

theorem TreeIs.put {ib : List Nat} {g : GTr} {T T' : Tr} {d : ByteArray} {fb : Nat} {f : List (ByteArray × Nat)} {F : Fol} (h : TreeIs ib g T) (hn : (g.map Prod.fst).Nodup) (hT : ∀ k, aget T' k = if d = k then some F else aget T k)
    (hf : ∀ n, aget f n = (aget F n).map (ibf ib)) : TreeIs ib (aput g d (fb, f)) T' := by
  refine ⟨fun k => ?_, fun k e F' he hF' => ?_⟩
  · rw [aget_aput hn, hT]
    by_cases hk : d = k
    · rw [if_pos hk, if_pos hk]; rfl
    · rw [if_neg hk, if_neg hk]; exact h.top k
  · rw [aget_aput hn] at he
    rw [hT] at hF'
    by_cases hk : d = k
    · rw [if_pos hk] at he hF'
      injection he with he; injection hF' with hF'
      rw [← he, ← hF']; exact hf
    · rw [if_neg hk] at he hF'
      exact h.sub k e F' he hF'
theorem TreeIs.del {ib : List Nat} {g : GTr} {T T' : Tr} {d : ByteArray} (h : TreeIs ib g T) (hn : (g.map Prod.fst).Nodup) (hT : ∀ k, aget T' k = if d = k then Option.none else aget T k) : TreeIs ib (adel g d) T' := by
  refine ⟨fun k => ?_, fun k e F' he hF' => ?_⟩
  · rw [aget_adel hn, hT]
    by_cases hk : d = k
    · rw [if_pos hk, if_pos hk]; rfl
    · rw [if_neg hk, if_neg hk]; exact h.top k
  · rw [aget_adel hn] at he
    rw [hT] at hF'
    by_cases hk : d = k
    · rw [if_pos hk] at he; cases he
    · rw [if_neg hk] at he hF'
      exact h.sub k e F' he hF'

theorem Tree.put {w w' : World} {tb : Nat} {g : GTr} {L : List Nat} {d : ByteArray} {fb : Nat} {f : List (ByteArray × Nat)} (hn : (g.map Prod.fst).Nodup) (hs : ∀ p ∈ g, Mp w p.2.1 kvS (fval p.2.2)) (ha : (tbl tb g).Nodup) (hc : Chg L w w')
    (htop : Mp w' tb kvS (aput (tval g) d (.map (some fb)))) (hf : Mp w' fb kvS (fval f)) (h1 : fb ≠ tb) (h2 : ∀ p ∈ g, p.1 ≠ d → p.2.1 ≠ fb) (hL : ∀ p ∈ g, p.1 ≠ d → p.2.1 ∉ L) : Tree w' tb (aput g d (fb, f)) := by
  refine ⟨?_, fun p hp => ?_, ?_⟩
  · have := aput_map (fun x : Nat × List (ByteArray × Nat) => Value.map (some x.1)) g d (fb, f)
    unfold tval at htop ⊢
    rw [← this]
    exact htop
  · rcases (mem_aput hn).1 hp with rfl | ⟨hp, hd⟩
    · exact hf
    · exact (hs p hp).chg hc (hL p hp hd)
  · have hp := ((aput_perm hn d (fb, f)).map fun p => p.2.1).cons tb
    refine hp.nodup_iff.2 ?_
    have ha' := List.nodup_cons.1 ha
    rw [List.map_cons, List.nodup_cons, List.nodup_cons]
    have hsub : ((without g d).map fun p => p.2.1).Sublist (g.map fun p => p.2.1) := List.filter_sublist.map _
    refine ⟨?_, ?_, ha'.2.sublist hsub⟩
    · rw [List.mem_cons, not_or]
      exact ⟨fun e => h1 e.symm, fun hm => ha'.1 (hsub.subset hm)⟩
    · intro hm
      obtain ⟨p, hp, e⟩ := List.mem_map.1 hm
      unfold without at hp
      simp only [List.mem_filter, decide_eq_true_eq] at hp
      exact h2 p hp.1 hp.2 e
theorem Tree.del {w w' : World} {tb : Nat} {g : GTr} {d : ByteArray} (h : Tree w tb g) (hc : Chg [tb] w w') (htop : Mp w' tb kvS (adel (tval g) d)) : Tree w' tb (adel g d) := by
  have hn := h.nodup
  refine ⟨?_, fun p hp => ?_, ?_⟩
  · have := adel_map (fun x : Nat × List (ByteArray × Nat) => Value.map (some x.1)) g d
    unfold tval at htop ⊢
    rw [← this]
    exact htop
  · have hp := ((mem_adel hn).1 hp).1
    refine (h.sub p hp).chg hc ?_
    have := (List.nodup_cons.1 h.apart).1
    intro e
    simp only [List.mem_singleton] at e
    exact this (List.mem_map.2 ⟨p, hp, e⟩)
  · rw [adel_without hn]
    have hsub : ((without g d).map fun p => p.2.1).Sublist (g.map fun p => p.2.1) := List.filter_sublist.map _
    exact h.apart.sublist (hsub.cons_cons tb)
theorem Tree.ne_top {w : World} {tb : Nat} {g : GTr} (h : Tree w tb g) {p : ByteArray × Nat × List (ByteArray × Nat)} (hp : p ∈ g) : p.2.1 ≠ tb := fun e => (List.nodup_cons.1 h.apart).1 (List.mem_map.2 ⟨p, hp, e⟩)
theorem nodup_inj {α β : Type} {l : List α} {f : α → β} (hn : (l.map f).Nodup) {a b : α} (ha : a ∈ l) (hb : b ∈ l) (h : f a = f b) : a = b := by
  induction l with
  | nil => simp at ha
  | cons x r ih =>
    rw [List.map_cons, List.nodup_cons] at hn
    rcases List.mem_cons.1 ha with ha1 | ha1
    · rcases List.mem_cons.1 hb with hb1 | hb1
      · rw [ha1, hb1]
      · exact (hn.1 (List.mem_map.2 ⟨b, hb1, by rw [← h, ha1]⟩)).elim
    · rcases List.mem_cons.1 hb with hb1 | hb1
      · exact (hn.1 (List.mem_map.2 ⟨a, ha1, by rw [h, hb1]⟩)).elim
      · exact ih hn.2 ha1 hb1
theorem Tree.ne_sub {w : World} {tb : Nat} {g : GTr} (h : Tree w tb g) {p q : ByteArray × Nat × List (ByteArray × Nat)} (hp : p ∈ g) (hq : q ∈ g) (hne : p.1 ≠ q.1) : p.2.1 ≠ q.2.1 := by
  intro e
  have := nodup_inj (List.nodup_cons.1 h.apart).2 hp hq e
  exact hne (by rw [this])

/-- behind a change: the tree is that -/
def CloTo (w : World) (tb : Nat) (g : GTr) (ib : List Nat) (T' : Tr) (w' : World) : Prop :=
  (∃ g', Tree w' tb g' ∧ TreeIs ib g' T' ∧ ∀ x ∈ tbl tb g', x ∈ tbl tb g ∨ w.heap.size ≤ x) ∧ Chg (tbl tb g) w w'

section
variable {w : World} {tb : Nat} {g : GTr} {ib : List Nat} {T : Tr} {m : Nat}
theorem tbl_aput {d : ByteArray} {fb : Nat} {f : List (ByteArray × Nat)} {B : Nat} (hn : (g.map Prod.fst).Nodup) (h : fb ∈ tbl tb g ∨ B ≤ fb) : ∀ x ∈ tbl tb (aput g d (fb, f)), x ∈ tbl tb g ∨ B ≤ x := by
  intro x hx
  unfold tbl at hx h ⊢
  rcases List.mem_cons.1 hx with rfl | hx
  · left; simp
  · obtain ⟨p, hp, rfl⟩ := List.mem_map.1 hx
    rcases (mem_aput hn).1 hp with rfl | ⟨hp, hd⟩
    · exact h
    · left; exact List.mem_cons_of_mem _ (List.mem_map.2 ⟨p, hp, rfl⟩)
theorem mem_tbl {p : ByteArray × Nat × List (ByteArray × Nat)} (hp : p ∈ g) : p.2.1 ∈ tbl tb g := List.mem_cons_of_mem _ (List.mem_map.2 ⟨p, hp, rfl⟩)

theorem cl_mkdir {d : ByteArray} {k : Nat} (ht : Tree w tb g) (hi : TreeIs ib g T) (hd : aget T d = none) (hk : w.cell? ⟨k, 0, none⟩ = some (.string d)) :
    Calls Tryz.prog 67 #[.map (some tb), .pointer (some ⟨k, 0, none⟩)] w fun e w' => e = .returned (.tuple #[]) ∧ CloTo w tb g ib (Chn.on T (.mkdir d)) w' := by
  refine (mkdir1_any tb k (tval g) d w ht.top hk).mono ?_
  rintro e w' ⟨rfl, fb, hge, hfb, htop, hc⟩
  have h2 : ∀ p ∈ g, p.2.1 ≠ fb := fun p hp e => by have := (ht.sub p hp).lt; omega
  have htl := ht.top.lt
  refine ⟨rfl, ⟨aput g d (fb, []), Tree.put ht.nodup ht.sub ht.apart hc htop (by simpa [fval] using hfb) (by omega) (fun p hp _ => h2 p hp) (fun p hp _ => by simpa using ht.ne_top hp),
    hi.put ht.nodup (fun k => aget_withS (aget_none.1 hd) _ k) (fun n => rfl), tbl_aput ht.nodup (.inr hge)⟩, hc.mono (by simp [tbl])⟩

theorem cl_rmdir {d : ByteArray} {k : Nat} (ht : Tree w tb g) (hi : TreeIs ib g T) (hk : w.cell? ⟨k, 0, none⟩ = some (.string d)) :
    Calls Tryz.prog 79 #[.map (some tb), .pointer (some ⟨k, 0, none⟩)] w fun e w' => e = .returned (.tuple #[]) ∧ CloTo w tb g ib (Chn.on T (.rmdir d)) w' := by
  refine (rmdir1_any tb k (tval g) d w ht.top hk).mono ?_
  rintro e w' ⟨rfl, htop, hc⟩
  refine ⟨rfl, ⟨adel g d, ht.del hc htop, hi.del ht.nodup (fun k => aget_without T d k), fun x hx => .inl ?_⟩, hc.mono (by simp [tbl])⟩
  rcases List.mem_cons.1 hx with rfl | hx
  · simp [tbl]
  · obtain ⟨p, hp, rfl⟩ := List.mem_map.1 hx
    exact mem_tbl ((mem_adel ht.nodup).1 hp).1

theorem fol_some {d : ByteArray} {F : Fol} (h : aget T d = some F) : folOf T d = F := by unfold folOf; rw [h]; rfl
theorem aget_swap {T : Tr} {d : ByteArray} {F : Fol} (k : ByteArray) : aget (withS d F (without T d)) k = if d = k then some F else aget T k := by
  rw [aget_withS (without_not d), aget_without]
  by_cases h : d = k <;> simp [h]

theorem cl_create {d n : ByteArray} {x k j i : Nat} (ht : Tree w tb g) (hi : TreeIs ib g T) (_ : Val m T) (hok : Chn.ok m T (.create d n i)) (hx : w.cell? ⟨x, 0, none⟩ = some (.pointer (some ⟨ibf ib i, 0, none⟩)))
    (hk : w.cell? ⟨k, 0, none⟩ = some (.string d)) (hj : w.cell? ⟨j, 0, none⟩ = some (.string n)) :
    Calls Tryz.prog 68 #[.map (some tb), .pointer (some ⟨x, 0, none⟩), .pointer (some ⟨k, 0, none⟩), .pointer (some ⟨j, 0, none⟩)] w fun e w' => e = .returned (.tuple #[]) ∧ CloTo w tb g ib (Chn.on T (.create d n i)) w' := by
  obtain ⟨_, _, F, hF, hnone⟩ := hok
  obtain ⟨e, he, hs⟩ := hi.get hF
  have hmem := aget_mem he
  refine (create1_any tb e.1 x k j (ibf ib i) (tval g) (fval e.2) d n w ht.top (ht.sub _ hmem) (by rw [aget_tval, he]; rfl) hx hk hj).mono ?_
  rintro r w' ⟨rfl, hfb, hc⟩
  have hfv : aput (fval e.2) n (.pointer (some ⟨ibf ib i, 0, none⟩)) = fval (aput e.2 n (ibf ib i)) := aput_map (fun i : Nat => Value.pointer (some ⟨i, 0, none⟩)) e.2 n (ibf ib i)
  rw [hfv] at hfb
  have hL : ∀ p ∈ g, p.1 ≠ d → p.2.1 ∉ [e.1] := fun p hp hne => by simpa using ht.ne_sub hp hmem hne
  have htop : Mp w' tb kvS (aput (tval g) d (.map (some e.1))) := by
    rw [aput_same (by rw [aget_tval, he]; rfl)]
    exact ht.top.chg hc (by simpa using (ht.ne_top hmem).symm)
  refine ⟨rfl, ⟨aput g d (e.1, aput e.2 n (ibf ib i)), Tree.put ht.nodup ht.sub ht.apart hc htop hfb (ht.ne_top hmem) (fun p hp hne => by simpa using hL p hp hne) hL, ?_, tbl_aput ht.nodup (.inl (mem_tbl hmem))⟩, hc.mono (fun y hy => .inl (by simp only [List.mem_singleton] at hy; subst hy; exact mem_tbl hmem))⟩
  refine hi.put ht.nodup (fun k => aget_swap k) (fun n' => ?_)
  rw [fol_some hF, aget_aput (ht.subnodup hmem), aget_withS (aget_none.1 hnone), hs n']
  by_cases hnn : n = n' <;> simp [hnn]

theorem cl_remove {d n : ByteArray} {k j : Nat} (ht : Tree w tb g) (hi : TreeIs ib g T) (_ : Val m T) (hok : Chn.ok m T (.remove d n))
    (hk : w.cell? ⟨k, 0, none⟩ = some (.string d)) (hj : w.cell? ⟨j, 0, none⟩ = some (.string n)) :
    Calls Tryz.prog 78 #[.map (some tb), .pointer (some ⟨k, 0, none⟩), .pointer (some ⟨j, 0, none⟩)] w fun e w' => e = .returned (.tuple #[]) ∧ CloTo w tb g ib (Chn.on T (.remove d n)) w' := by
  obtain ⟨F, hF⟩ := hok
  obtain ⟨e, he, hs⟩ := hi.get hF
  have hmem := aget_mem he
  refine (remove1_any tb e.1 k j (tval g) (fval e.2) d n w ht.top (ht.sub _ hmem) (by rw [aget_tval, he]; rfl) hk hj).mono ?_
  rintro r w' ⟨rfl, hfb, hc⟩
  have hfv : adel (fval e.2) n = fval (adel e.2 n) := adel_map (fun i : Nat => Value.pointer (some ⟨i, 0, none⟩)) e.2 n
  rw [hfv] at hfb
  have hL : ∀ p ∈ g, p.1 ≠ d → p.2.1 ∉ [e.1] := fun p hp hne => by simpa using ht.ne_sub hp hmem hne
  have htop : Mp w' tb kvS (aput (tval g) d (.map (some e.1))) := by
    rw [aput_same (by rw [aget_tval, he]; rfl)]
    exact ht.top.chg hc (by simpa using (ht.ne_top hmem).symm)
  refine ⟨rfl, ⟨aput g d (e.1, adel e.2 n), Tree.put ht.nodup ht.sub ht.apart hc htop hfb (ht.ne_top hmem) (fun p hp hne => by simpa using hL p hp hne) hL, ?_, tbl_aput ht.nodup (.inl (mem_tbl hmem))⟩, hc.mono (fun y hy => .inl (by simp only [List.mem_singleton] at hy; subst hy; exact mem_tbl hmem))⟩
  refine hi.put ht.nodup (fun k => aget_swap k) (fun n' => ?_)
  rw [fol_some hF, aget_adel (ht.subnodup hmem), aget_without, hs n']
  by_cases hnn : n = n' <;> simp [hnn]

theorem cl_rename {a b : ByteArray} {k j : Nat} (ht : Tree w tb g) (hi : TreeIs ib g T) (hok : Chn.ok m T (.rename a b))
    (hk : w.cell? ⟨k, 0, none⟩ = some (.string a)) (hj : w.cell? ⟨j, 0, none⟩ = some (.string b)) (h1 : k ≠ tb) (h2 : j ≠ tb) :
    Calls Tryz.prog 77 #[.map (some tb), .pointer (some ⟨k, 0, none⟩), .pointer (some ⟨j, 0, none⟩)] w fun e w' => e = .returned (.tuple #[]) ∧ CloTo w tb g ib (Chn.on T (.rename a b)) w' := by
  obtain ⟨_, F, hF⟩ := hok
  obtain ⟨e, he, hs⟩ := hi.get hF
  have hmem := aget_mem he
  refine (rename1_any tb e.1 k j (tval g) a b w ht.top (by rw [aget_tval, he]; rfl) hk hj h1 h2).mono ?_
  rintro r w' ⟨rfl, htop, hc⟩
  have hdm : adel (tval g) a = tval (adel g a) := adel_map (fun x : Nat × List (ByteArray × Nat) => Value.map (some x.1)) g a
  rw [hdm] at htop
  have hn := ht.nodup
  have hnt : ∀ p ∈ adel g a, p.2.1 ∉ [tb] := fun p hp => by simpa using ht.ne_top ((mem_adel hn).1 hp).1
  have hap : (tbl tb (adel g a)).Nodup := by
    rw [adel_without hn]
    have hsub : ((without g a).map fun p => p.2.1).Sublist (g.map fun p => p.2.1) := List.filter_sublist.map _
    exact ht.apart.sublist (hsub.cons_cons tb)
  refine ⟨rfl, ⟨aput (adel g a) b (e.1, e.2), Tree.put (adel_nodup hn a) (fun p hp => ht.sub p ((mem_adel hn).1 hp).1) hap hc htop ((ht.sub _ hmem).chg hc (by simpa using ht.ne_top hmem)) (ht.ne_top hmem)
    (fun p hp _ => ht.ne_sub ((mem_adel hn).1 hp).1 hmem ((mem_adel hn).1 hp).2) (fun p hp _ => hnt p hp), ?_, fun x hx => .inl ?_⟩, hc.mono (by simp [tbl])⟩
  · refine TreeIs.put (T := without T a) (F := F) (hi.del hn (fun k => aget_without T a k)) (adel_nodup hn a) (fun k => ?_) hs
    simp only [Chn.on, fol_some hF]
    exact aget_swap k
  · rcases List.mem_cons.1 hx with rfl | hx
    · simp [tbl]
    · obtain ⟨p, hp, rfl⟩ := List.mem_map.1 hx
      rcases (mem_aput (adel_nodup hn a)).1 hp with rfl | ⟨hp, _⟩
      · exact mem_tbl (p := (a, e)) hmem
      · exact mem_tbl ((mem_adel hn).1 hp).1
end
end Go.Proofs.YtgomofeidghmiaaGreat

namespace Go.Proofs.YtgomofeidghmiaaGreat
open Go.RowKit

/-! blocks in parts, each block in one part -/
def Sep (Ps : List (List Nat)) : Prop := Ps.Pairwise fun a b => ∀ x ∈ a, x ∉ b
structure Lay (w : World) (Ps : List (List Nat)) : Prop where
  sep : Sep Ps
  lt : ∀ P ∈ Ps, ∀ x ∈ P, x < w.heap.size

theorem Sep.ne {Ps : List (List Nat)} (h : Sep Ps) {i j : Nat} {P Q : List Nat} (hi : Ps[i]? = some P) (hj : Ps[j]? = some Q) (hij : i ≠ j) : ∀ x ∈ P, x ∉ Q := by
  have hil := (List.getElem?_eq_some_iff.1 hi)
  have hjl := (List.getElem?_eq_some_iff.1 hj)
  obtain ⟨hi1, rfl⟩ := hil
  obtain ⟨hj1, rfl⟩ := hjl
  intro x hx hq
  rcases Nat.lt_or_gt_of_ne hij with h1 | h1
  · exact (List.pairwise_iff_getElem.1 h i j hi1 hj1 h1) x hx hq
  · exact (List.pairwise_iff_getElem.1 h j i hj1 hi1 h1) x hq hx
theorem Lay.ne {w : World} {Ps : List (List Nat)} (h : Lay w Ps) {i j : Nat} {P Q : List Nat} (hi : Ps[i]? = some P) (hj : Ps[j]? = some Q) (hij : i ≠ j) : ∀ x ∈ P, x ∉ Q := h.sep.ne hi hj hij
theorem Lay.mono {w w' : World} {Ps : List (List Nat)} (h : Lay w Ps) (hs : w.heap.size ≤ w'.heap.size) : Lay w' Ps := ⟨h.sep, fun P hP x hx => Nat.lt_of_lt_of_le (h.lt P hP x hx) hs⟩
/-- one part is another one now -/
theorem Lay.set_ {w w' : World} {Ps : List (List Nat)} (h : Lay w Ps) {i : Nat} {P P' : List Nat} (hi : Ps[i]? = some P) (hn : ∀ x ∈ P', x ∈ P ∨ w.heap.size ≤ x) (hl : ∀ x ∈ P', x < w'.heap.size) (hs : w.heap.size ≤ w'.heap.size) : Lay w' (Ps.set i P') := by
  have hil : i < Ps.length := (List.getElem?_eq_some_iff.1 hi).1
  refine ⟨?_, fun Q hQ x hx => ?_⟩
  · unfold Sep
    rw [List.pairwise_iff_getElem]
    intro a b ha hb hab
    have ha' : a < Ps.length := by simpa using ha
    have hb' : b < Ps.length := by simpa using hb
    have hlt : ∀ (c : Nat) (hc : c < Ps.length), ∀ x ∈ Ps[c], x < w.heap.size := fun c hc x hx => h.lt _ (List.getElem_mem hc) x hx
    rw [List.getElem_set, List.getElem_set]
    intro x hx hxb
    by_cases h1 : i = a
    · rw [if_pos h1] at hx
      rw [if_neg (by omega)] at hxb
      rcases hn x hx with h2 | h2
      · exact h.ne hi (List.getElem?_eq_getElem hb') (by omega) x h2 hxb
      · have := hlt b hb' x hxb; omega
    · rw [if_neg h1] at hx
      by_cases h3 : i = b
      · rw [if_pos h3] at hxb
        rcases hn x hxb with h2 | h2
        · exact h.ne hi (List.getElem?_eq_getElem ha') (by omega) x h2 hx
        · have := hlt a ha' x hx; omega
      · rw [if_neg h3] at hxb
        exact (List.pairwise_iff_getElem.1 h.sep a b ha' hb' hab) x hx hxb
  · rcases List.mem_or_eq_of_mem_set hQ with h1 | rfl
    · exact Nat.lt_of_lt_of_le (h.lt Q h1 x hx) hs
    · exact hl x hx
/-- one part more -/
theorem Lay.snoc {w w' : World} {Ps : List (List Nat)} (h : Lay w Ps) {P : List Nat} (hn : ∀ x ∈ P, w.heap.size ≤ x) (hl : ∀ x ∈ P, x < w'.heap.size) (hs : w.heap.size ≤ w'.heap.size) : Lay w' (Ps ++ [P]) := by
  refine ⟨?_, fun Q hQ x hx => ?_⟩
  · unfold Sep
    rw [List.pairwise_append]
    refine ⟨h.sep, by simp, fun Q hQ R hR x hx hr => ?_⟩
    simp only [List.mem_singleton] at hR
    subst hR
    have h1 := hn x hr
    have h2 := h.lt Q hQ x hx
    omega
  · rcases List.mem_append.1 hQ with h1 | h1
    · exact Nat.lt_of_lt_of_le (h.lt Q h1 x hx) hs
    · simp only [List.mem_singleton] at h1; subst h1; exact hl x hx

/-- a change's closure in memory; K: blocks that never change -/
def ChnV (w : World) (ib K : List Nat) : Chn → Value → Prop
  | .mkdir d, v => ∃ k, v = .func (.func 67) #[] #[.pointer (some ⟨k, 0, none⟩)] ∧ k ∈ K ∧ w.cell? ⟨k, 0, none⟩ = some (.string d)
  | .rmdir d, v => ∃ k, v = .func (.func 79) #[] #[.pointer (some ⟨k, 0, none⟩)] ∧ k ∈ K ∧ w.cell? ⟨k, 0, none⟩ = some (.string d)
  | .create d n i, v => ∃ x k j, v = .func (.func 68) #[] #[.pointer (some ⟨x, 0, none⟩), .pointer (some ⟨k, 0, none⟩), .pointer (some ⟨j, 0, none⟩)] ∧ x ∈ K ∧ k ∈ K ∧ j ∈ K ∧
      w.cell? ⟨x, 0, none⟩ = some (.pointer (some ⟨ibf ib i, 0, none⟩)) ∧ w.cell? ⟨k, 0, none⟩ = some (.string d) ∧ w.cell? ⟨j, 0, none⟩ = some (.string n) ∧ i < ib.length
  | .remove d n, v => ∃ k j, v = .func (.func 78) #[] #[.pointer (some ⟨k, 0, none⟩), .pointer (some ⟨j, 0, none⟩)] ∧ k ∈ K ∧ j ∈ K ∧ w.cell? ⟨k, 0, none⟩ = some (.string d) ∧ w.cell? ⟨j, 0, none⟩ = some (.string n)
  | .rename d n, v => ∃ k j, v = .func (.func 77) #[] #[.pointer (some ⟨k, 0, none⟩), .pointer (some ⟨j, 0, none⟩)] ∧ k ∈ K ∧ j ∈ K ∧ w.cell? ⟨k, 0, none⟩ = some (.string d) ∧ w.cell? ⟨j, 0, none⟩ = some (.string n)
theorem ChnV.keep {w w' : World} {ib ib' K K' L : List Nat} {c : Chn} {v : Value} (h : ChnV w ib K c v) (hc : Chg L w w') (hL : ∀ x ∈ K, x ∉ L) (hK : ∀ x ∈ K, x ∈ K') (hib : ∀ i < ib.length, ibf ib' i = ibf ib i) (hl : ib.length ≤ ib'.length) : ChnV w' ib' K' c v := by
  cases c with
  | mkdir d => obtain ⟨k, h1, h2, h3⟩ := h; exact ⟨k, h1, hK k h2, hc.cell h3 (hL k h2)⟩
  | rmdir d => obtain ⟨k, h1, h2, h3⟩ := h; exact ⟨k, h1, hK k h2, hc.cell h3 (hL k h2)⟩
  | create d n i =>
    obtain ⟨x, k, j, h1, h2, h3, h4, h5, h6, h7, h8⟩ := h
    exact ⟨x, k, j, h1, hK x h2, hK k h3, hK j h4, by rw [hib i h8]; exact hc.cell h5 (hL x h2), hc.cell h6 (hL k h3), hc.cell h7 (hL j h4), by omega⟩
  | remove d n => obtain ⟨k, j, h1, h2, h3, h4, h5⟩ := h; exact ⟨k, j, h1, hK k h2, hK j h3, hc.cell h4 (hL k h2), hc.cell h5 (hL j h3)⟩
  | rename d n => obtain ⟨k, j, h1, h2, h3, h4, h5⟩ := h; exact ⟨k, j, h1, hK k h2, hK j h3, hc.cell h4 (hL k h2), hc.cell h5 (hL j h3)⟩

/-- where a file system lies -/
structure FsG where
  b : Nat
  t1 : Nat
  t2 : Nat
  g1 : GTr
  g2 : GTr
  A : Option Addr
  c : Nat
  vs : List Value
  Aw : Option Addr
  cw : Nat
  K : List Nat
  ib : List Nat
  sg : List Nat
  Ls : List (List Nat)
/-- parts: 0 the struct, 1 seen, 2 safe, 3 pending, 4 writes, 5 what never changes, from 6 on the Spools -/
def FsG.parts (G : FsG) : List (List Nat) := [G.b] :: tbl G.t1 G.g1 :: tbl G.t2 G.g2 :: bo G.A :: bo G.Aw :: G.K :: G.Ls
def FsG.all (G : FsG) : List Nat := G.parts.flatten
def inoV (ib : List Nat) (i : Nat) : Value := .pointer (some ⟨ibf ib i, 0, none⟩)
/-- a file in memory: its inode, its Spool -/
def InoM (w : World) (x g : Nat) (L : List Nat) (f : Fil) : Prop := Blk w x 98 #[.pointer (some ⟨g, 0, none⟩)] ∧ Spo w g L f.1 f.2

structure FsM (w : World) (G : FsG) (S : St) : Prop where
  blk : Blk w G.b 92 #[.map (some G.t1), .map (some G.t2), .slice G.A S.chs.length G.c, .slice G.Aw S.wr.length G.cw, .int .i64 S.quota, .int .i64 S.stop, .int .i64 (S.steps : Int)]
  tr1 : Tree w G.t1 G.g1
  is1 : TreeIs G.ib G.g1 S.seen
  tr2 : Tree w G.t2 G.g2
  is2 : TreeIs G.ib G.g2 S.safe
  own : Own w 112 1 G.A S.chs.length G.c G.vs
  chn : ∀ (i : Nat) (c : Chn) (v : Value), S.chs[i]? = some c → G.vs[i]? = some v → ChnV w G.ib G.K c v
  wrs : Own w 95 1 G.Aw S.wr.length G.cw (S.wr.map (inoV G.ib))
  ibl : G.ib.length = S.files.length
  sgl : G.sg.length = S.files.length
  lsl : G.Ls.length = S.files.length
  ibn : G.ib.Nodup
  ibk : ∀ x ∈ G.ib, x ∈ G.K
  ino : ∀ (i x g : Nat) (L : List Nat) (f : Fil), G.ib[i]? = some x → G.sg[i]? = some g → G.Ls[i]? = some L → S.files[i]? = some f → InoM w x g L f
  lay : Lay w G.parts

theorem FsM.vsl {w : World} {G : FsG} {S : St} (h : FsM w G S) : G.vs.length = S.chs.length := by have := h.own.1; omega

theorem FsG.mem_all {G : FsG} {x : Nat} {P : List Nat} {i : Nat} (hi : G.parts[i]? = some P) (hx : x ∈ P) : x ∈ G.all := List.mem_flatten.2 ⟨P, List.mem_of_getElem? hi, hx⟩
theorem InoM.keep {w w' : World} {x g : Nat} {L M : List Nat} {f : Fil} (h : InoM w x g L f) (hc : Chg M w w') (h1 : x ∉ M) (h2 : ∀ k ∈ L, k ∉ M) : InoM w' x g L f :=
  ⟨h.1.chg hc h1, h.2.chg hc h2⟩
theorem FsM.at_ {w : World} {G : FsG} {S : St} (h : FsM w G S) {i : Nat} {f : Fil} (hf : S.files[i]? = some f) : ∃ x g L, G.ib[i]? = some x ∧ G.sg[i]? = some g ∧ G.Ls[i]? = some L ∧ InoM w x g L f := by
  have hl := (List.getElem?_eq_some_iff.1 hf).1
  have h1 := h.ibl; have h2 := h.sgl; have h3 := h.lsl
  exact ⟨_, _, _, List.getElem?_eq_getElem (by omega), List.getElem?_eq_getElem (by omega), List.getElem?_eq_getElem (by omega), h.ino i _ _ _ f (List.getElem?_eq_getElem (by omega)) (List.getElem?_eq_getElem (by omega)) (List.getElem?_eq_getElem (by omega)) hf⟩
theorem FsM.lt {w : World} {G : FsG} {S : St} (h : FsM w G S) : ∀ x ∈ G.all, x < w.heap.size := by
  intro x hx
  obtain ⟨P, hP, hx⟩ := List.mem_flatten.1 hx
  exact h.lay.lt P hP x hx
/-- nothing of it has changed -/
theorem FsM.keep {w w' : World} {G : FsG} {S : St} {L : List Nat} (h : FsM w G S) (hc : Chg L w w') (hn : ∀ x ∈ G.all, x ∉ L) : FsM w' G S := by
  have hm : ∀ (i : Nat) (P : List Nat), G.parts[i]? = some P → ∀ x ∈ P, x ∉ L := fun i P hi x hx => hn x (FsG.mem_all hi hx)
  refine ⟨h.blk.chg hc (hm 0 _ rfl _ (by simp)), h.tr1.keep hc (hm 1 _ rfl), h.is1, h.tr2.keep hc (hm 2 _ rfl), h.is2, h.own.chg hc (hm 3 _ rfl), fun i c v h1 h2 => (h.chn i c v h1 h2).keep hc (hm 5 _ rfl) (fun _ h => h) (fun _ _ => rfl) (Nat.le_refl _),
    h.wrs.chg hc (hm 4 _ rfl), h.ibl, h.sgl, h.lsl, h.ibn, h.ibk, fun i x g M f h1 h2 h3 h4 => (h.ino i x g M f h1 h2 h3 h4).keep hc (hm 5 _ rfl x (h.ibk x (List.mem_of_getElem? h1))) (hm (i + 6) M (by simpa [FsG.parts] using h3)), h.lay.mono hc.size⟩
theorem FsM.keep0 {w w' : World} {G : FsG} {S : St} (h : FsM w G S) (hc : Chg [] w w') : FsM w' G S := h.keep hc (fun _ _ => List.not_mem_nil)

/-- a call has turned it into that -/
def FsTo (w : World) (G : FsG) (S' : St) (w' : World) : Prop := ∃ G', FsM w' G' S' ∧ G'.b = G.b ∧ (∀ x ∈ G'.all, x ∈ G.all ∨ w.heap.size ≤ x) ∧ Chg G.all w w'
theorem FsTo.same {w w' : World} {G : FsG} {S : St} (h : FsM w G S) (hc : Chg [] w w') : FsTo w G S w' := ⟨G, h.keep0 hc, rfl, fun _ hx => .inl hx, hc.nil _⟩
end Go.Proofs.YtgomofeidghmiaaGreat

namespace Go.Proofs.YtgomofeidghmiaaGreat
open Go.RowKit

theorem ask_eq {G : FsG} {w : World} {S : St} (h : FsM w G S) (there : Bool) (ns : List ByteArray) : askE S.stop S.steps (tval G.g1) there ns = S.ask there ns := by
  have : ∀ k, (aget (tval G.g1) k).isNone = (aget S.seen k).isNone := fun k => by
    have := h.is1.top k
    rw [aget_tval]
    cases h1 : aget G.g1 k <;> cases h2 : aget S.seen k <;> rw [h1, h2] at this <;> first | rfl | cases this
  unfold askE St.ask St.down
  rw [this]
theorem find_eq {G : FsG} {w : World} {S : St} (h : FsM w G S) (d n : ByteArray) : findR S.stop S.steps G.g1 d n = ((S.fnd d n).1.map (ibf G.ib), (S.fnd d n).2) := by
  unfold findR St.fnd
  rw [ask_eq h]
  split
  · rfl
  · rw [h.is1.fol d n]
    cases aget (folOf S.seen d) n <;> rfl

theorem ask_st {G : FsG} {w : World} {S : St} (h : FsM w G S) (there : Bool) (A : Option Addr) (n c : Nat) (ns : List ByteArray) (hr : Rd w 1 A n c (svs ns)) (hn : n ≤ 1073741824) (ht : there = true → 0 < n) :
    Calls Tryz.prog 65 #[.pointer (some ⟨G.b, 0, none⟩), .bool there, .slice A n c] w fun e w' => e = .returned (.int .i64 (S.ask there ns)) ∧ Chg [] w w' := by
  rw [← ask_eq h]
  exact ask_any G.b G.t1 S.stop S.steps (tval G.g1) there A n c ns w (by simpa using h.blk.cell 0) (by simpa using h.blk.cell 5) (by simpa using h.blk.cell 6) h.tr1.top tval_maps hr hn ht
theorem find_st {G : FsG} {w : World} {S : St} (h : FsM w G S) (d n : ByteArray) :
    Calls Tryz.prog 69 #[.pointer (some ⟨G.b, 0, none⟩), .string d, .string n] w fun e w' => e = .returned (findV ((S.fnd d n).1.map (ibf G.ib), (S.fnd d n).2)) ∧ Chg [] w w' := by
  rw [← find_eq h]
  exact find_any G.b G.t1 S.stop S.steps G.g1 d n w (by simpa using h.blk.cell 0) (by simpa using h.blk.cell 5) (by simpa using h.blk.cell 6) h.tr1
theorem down_st {G : FsG} {w : World} {S : St} (h : FsM w G S) :
    Calls Tryz.prog 12 #[.pointer (some ⟨G.b, 0, none⟩)] w fun e w' => e = .returned (.bool S.down) ∧ Chg [] w w' :=
  down_any G.b S.stop S.steps w (by simpa using h.blk.cell 5) (by simpa using h.blk.cell 6)

/-- a block that never changes, more -/
theorem FsM.addK {w w1 : World} {G : FsG} {S : St} (h : FsM w G S) (hc : Chg [] w w1) {x : Nat} (hx : w.heap.size ≤ x) (hx1 : x < w1.heap.size) : FsM w1 { G with K := x :: G.K } S := by
  have h1 := h.keep0 hc
  refine ⟨h1.blk, h1.tr1, h1.is1, h1.tr2, h1.is2, h1.own, fun i c v a b => (h1.chn i c v a b).keep (Chg.refl [] w1) (fun _ _ => List.not_mem_nil) (fun _ hm => List.mem_cons_of_mem _ hm) (fun _ _ => rfl) (Nat.le_refl _), h1.wrs, h1.ibl, h1.sgl, h1.lsl, h1.ibn, fun y hy => List.mem_cons_of_mem _ (h1.ibk y hy), h1.ino, ?_⟩
  exact h.lay.set_ (i := 5) (P' := x :: G.K) rfl (fun y hy => by rcases List.mem_cons.1 hy with rfl | hy; exact .inr hx; exact .inl hy) (fun y hy => by
    rcases List.mem_cons.1 hy with rfl | hy
    · exact hx1
    · exact h1.lay.lt G.K (List.mem_of_getElem? (i := 5) rfl) y hy) hc.size

theorem ibf_old {ib : List Nat} {x i : Nat} (hi : i < ib.length) : ibf (ib ++ [x]) i = ibf ib i := by
  unfold ibf
  rw [List.getD_eq_getElem?_getD, List.getD_eq_getElem?_getD, List.getElem?_append_left hi]
theorem ibf_new (ib : List Nat) (x : Nat) : ibf (ib ++ [x]) ib.length = x := by
  unfold ibf
  rw [List.getD_eq_getElem?_getD, List.getElem?_append_right (Nat.le_refl _)]
  simp
theorem ibf_at {ib : List Nat} {i x : Nat} (h : ib[i]? = some x) : ibf ib i = x := by
  unfold ibf
  rw [List.getD_eq_getElem?_getD, h]; rfl
theorem TreeIs.grow {ib : List Nat} {g : GTr} {T : Tr} {m x : Nat} (h : TreeIs ib g T) (hv : Val m T) (hm : ib.length = m) : TreeIs (ib ++ [x]) g T :=
  ⟨h.top, fun k d F hd hF n => by
    rw [h.sub k d F hd hF n]
    cases hn : aget F n with
    | none => rfl
    | some i =>
      have := hv.ids _ (aget_mem hF) _ (aget_mem hn)
      simp only [Option.map_some]
      rw [ibf_old (by simpa [hm] using this)]⟩

/-- a file more -/
theorem FsM.addFile {w w1 w2 : World} {G : FsG} {S : St} {B : Nat} (h : FsM w G S) (hi : Inv B S) (hc1 : Chg [] w w1) {g : Nat} {L : List Nat} {f : List Int} (hL : ∀ k ∈ L, w.heap.size ≤ k) (hs : Spo w1 g L f []) (hc2 : Chg [] w1 w2)
    {x : Nat} (hx : w1.heap.size ≤ x) (hb : Blk w2 x 98 #[.pointer (some ⟨g, 0, none⟩)]) :
    FsM w2 { G with K := x :: G.K, ib := G.ib ++ [x], sg := G.sg ++ [g], Ls := G.Ls ++ [L] } { S with files := S.files ++ [(f, [])] } := by
  have h2 := h.keep0 (hc1.trans0 hc2)
  have hxl := hb.lt
  refine ⟨h2.blk, h2.tr1, h2.is1.grow hi.val h.ibl, h2.tr2, h2.is2.grow hi.safe h.ibl, h2.own, fun i c v a b => (h2.chn i c v a b).keep (Chg.refl [] w2) (fun _ _ => List.not_mem_nil) (fun _ hm => List.mem_cons_of_mem _ hm) (fun i hi => ibf_old hi) (by simp), ?_, by simp [h.ibl], by simp [h.sgl], by simp [h.lsl], ?_, ?_, ?_, ?_⟩
  · have e : S.wr.map (inoV (G.ib ++ [x])) = S.wr.map (inoV G.ib) := List.map_congr_left fun i hm => by
      unfold inoV
      rw [ibf_old (by rw [h.ibl]; exact hi.wr i hm)]
    show Own w2 95 1 G.Aw S.wr.length G.cw (S.wr.map (inoV (G.ib ++ [x])))
    rw [e]
    exact h2.wrs
  · show (G.ib ++ [x]).Nodup
    rw [List.nodup_append]
    refine ⟨h.ibn, by simp, fun a ha b hb => ?_⟩
    simp only [List.mem_singleton] at hb
    subst hb
    have := h.lay.lt G.K (List.mem_of_getElem? (i := 5) rfl) a (h.ibk a ha)
    have := hc1.size
    omega
  · intro y hy
    rcases List.mem_append.1 hy with hy | hy
    · exact List.mem_cons_of_mem _ (h.ibk y hy)
    · simp only [List.mem_singleton] at hy
      subst hy
      simp
  · intro i y gg M ff e1 e2 e3 e4
    have l1 := h.ibl; have l2 := h.sgl; have l3 := h.lsl
    by_cases hil : i < S.files.length
    · simp only at e1 e2 e3 e4
      rw [List.getElem?_append_left (by omega)] at e1 e2 e3 e4
      exact h2.ino i y gg M ff e1 e2 e3 e4
    · have hie : i = S.files.length := by
        have := (List.getElem?_eq_some_iff.1 e4).1
        simp at this; omega
      subst hie
      simp only at e1 e2 e3 e4
      rw [List.getElem?_append_right (by omega), l1, Nat.sub_self] at e1
      rw [List.getElem?_append_right (by omega), l2, Nat.sub_self] at e2
      rw [List.getElem?_append_right (by omega), l3, Nat.sub_self] at e3
      rw [List.getElem?_append_right (by omega), Nat.sub_self] at e4
      simp at e1 e2 e3 e4
      subst e1; subst e2; subst e3; subst e4
      exact ⟨hb, hs.chg hc2 (fun _ _ => List.not_mem_nil)⟩
  · have h3 := h.lay.snoc (w' := w1) hL hs.lt hc1.size
    have h4 := h3.set_ (w' := w2) (i := 5) (P := G.K) (P' := x :: G.K) rfl (fun y hy => by rcases List.mem_cons.1 hy with rfl | hy; exact .inr hx; exact .inl hy) (fun y hy => by
      rcases List.mem_cons.1 hy with rfl | hy
      · exact hxl
      · exact h2.lay.lt G.K (List.mem_of_getElem? (i := 5) rfl) y hy) hc2.size
    exact h4

/-- a change of names has been done and kept -/
theorem FsM.did {w w1 w' : World} {G : FsG} {S : St} {c : Chn} {v : Value} {A' : Option Addr} {c' : Nat} (h : FsM w G S) (hv : ChnV w G.ib G.K c v) (hcl : CloTo w G.t1 G.g1 G.ib (c.on S.seen) w1) (hc1 : Chg (G.b :: bo G.A) w1 w')
    (hb : Blk w' G.b 92 #[.map (some G.t1), .map (some G.t2), .slice A' (S.chs.length + 1) c', .slice G.Aw S.wr.length G.cw, .int .i64 S.quota, .int .i64 S.stop, .int .i64 ((S.steps + 1 : Nat) : Int)])
    (ho : Own w' 112 1 A' (S.chs.length + 1) c' (G.vs ++ [v])) (hA : ∀ x ∈ bo A', x ∈ bo G.A ∨ w1.heap.size ≤ x) : FsTo w G (S.make c) w' := by
  obtain ⟨⟨g', ht', hi', hsub⟩, hct⟩ := hcl
  have hm : ∀ (i : Nat) (P : List Nat), G.parts[i]? = some P → i ≠ 1 → ∀ x ∈ P, x ∉ tbl G.t1 G.g1 := fun i P hi hne x hx => h.lay.ne hi (j := 1) rfl hne x hx
  have hm2 : ∀ (i : Nat) (P : List Nat), G.parts[i]? = some P → i ≠ 0 → i ≠ 3 → ∀ x ∈ P, x ∉ G.b :: bo G.A := fun i P hi h0 h3 x hx hmem => by
    rcases List.mem_cons.1 hmem with rfl | hmem
    · exact h.lay.ne hi (j := 0) rfl h0 _ hx (by simp)
    · exact h.lay.ne hi (j := 3) rfl h3 x hx hmem
  have k1 : ∀ (i : Nat) (P : List Nat), G.parts[i]? = some P → i ≠ 0 → i ≠ 3 → i ≠ 1 → ∀ x ∈ P, x ∉ tbl G.t1 G.g1 ++ (G.b :: bo G.A) := fun i P hi h0 h3 h1 x hx hmem => by
    rcases List.mem_append.1 hmem with hmem | hmem
    · exact hm i P hi h1 x hx hmem
    · exact hm2 i P hi h0 h3 x hx hmem
  have hcc : Chg (tbl G.t1 G.g1 ++ (G.b :: bo G.A)) w w' := (hct.mono (fun x hx => .inl (List.mem_append_left _ hx))).trans hc1 (fun x hx => .inl (List.mem_append_right _ hx))
  have hlay1 := h.lay.set_ (w' := w1) (i := 1) (P' := tbl G.t1 g') rfl hsub ht'.lt hct.size
  have hlay2 := hlay1.set_ (w' := w') (i := 3) (P := bo G.A) (P' := bo A') rfl hA ho.lt hc1.size
  have htn : ∀ x ∈ tbl G.t1 g', x ∉ G.b :: bo G.A := fun x hx hmem => by
    rcases List.mem_cons.1 hmem with rfl | hmem
    · exact hlay1.ne (i := 1) (j := 0) (P := tbl G.t1 g') (Q := [G.b]) rfl rfl (by decide) _ hx (by simp)
    · exact hlay1.ne (i := 1) (j := 3) (P := tbl G.t1 g') (Q := bo G.A) rfl rfl (by decide) x hx hmem
  refine ⟨{ G with g1 := g', A := A', c := c', vs := G.vs ++ [v] }, ⟨?_, ht'.keep hc1 htn, hi', h.tr2.keep hcc (k1 2 _ rfl (by decide) (by decide) (by decide)), h.is2, ?_, ?_, h.wrs.chg hcc (k1 4 _ rfl (by decide) (by decide) (by decide)), h.ibl, h.sgl, h.lsl, h.ibn, h.ibk, ?_, hlay2⟩, rfl, ?_, ?_⟩
  · simpa [St.make] using hb
  · simpa [St.make] using ho
  · intro i c0 v0 e1 e2
    have hvl := h.vsl
    have hK : ∀ x ∈ G.K, x ∉ tbl G.t1 G.g1 ++ (G.b :: bo G.A) := k1 5 _ rfl (by decide) (by decide) (by decide)
    simp only [St.make] at e1 e2
    by_cases hil : i < S.chs.length
    · rw [List.getElem?_append_left (by omega)] at e1 e2
      exact (h.chn i c0 v0 e1 e2).keep hcc hK (fun _ h => h) (fun _ _ => rfl) (Nat.le_refl _)
    · have hie : i = S.chs.length := by
        have := (List.getElem?_eq_some_iff.1 e1).1
        simp at this; omega
      subst hie
      rw [List.getElem?_append_right (Nat.le_refl _), Nat.sub_self] at e1
      rw [List.getElem?_append_right (by omega), hvl, Nat.sub_self] at e2
      simp at e1 e2
      subst e1; subst e2
      exact hv.keep hcc hK (fun _ h => h) (fun _ _ => rfl) (Nat.le_refl _)
  · intro i x g L f e1 e2 e3 e4
    exact (h.ino i x g L f e1 e2 e3 e4).keep hcc (k1 5 _ rfl (by decide) (by decide) (by decide) x (h.ibk x (List.mem_of_getElem? e1))) (k1 (i + 6) L (by simpa [FsG.parts] using e3) (by omega) (by omega) (by omega))
  · intro x hx
    obtain ⟨P, hP, hx⟩ := List.mem_flatten.1 hx
    simp only [FsG.parts, List.mem_cons] at hP
    rcases hP with rfl | rfl | rfl | rfl | hP
    · exact .inl (FsG.mem_all (i := 0) rfl hx)
    · exact (hsub x hx).imp (fun h => FsG.mem_all (i := 1) rfl h) id
    · exact .inl (FsG.mem_all (i := 2) rfl hx)
    · exact (hA x hx).imp (fun h => FsG.mem_all (i := 3) rfl h) (fun h => Nat.le_trans hct.size h)
    · exact .inl (List.mem_flatten.2 ⟨P, by simp only [FsG.parts, List.mem_cons]; exact .inr (.inr (.inr (.inr hP))), hx⟩)
  · exact hcc.mono (fun x hx => .inl (by
      rcases List.mem_append.1 hx with hx | hx
      · exact FsG.mem_all (i := 1) rfl hx
      · rcases List.mem_cons.1 hx with rfl | hx
        · exact FsG.mem_all (i := 0) rfl (by simp)
        · exact FsG.mem_all (i := 3) rfl hx))
/-- what is new for a file system that has grown is new for the elder one -/
theorem FsTo.of {w w0 w' : World} {G G0 : FsG} {S' : St} (h : FsTo w0 G0 S' w') (hc : Chg [] w w0) (hb : G0.b = G.b) (hsub : ∀ x ∈ G0.all, x ∈ G.all ∨ w.heap.size ≤ x) : FsTo w G S' w' := by
  obtain ⟨G', h1, h2, h3, h4⟩ := h
  exact ⟨G', h1, h2.trans hb, fun x hx => by
    rcases h3 x hx with h | h
    · exact hsub x h
    · exact .inr (Nat.le_trans hc.size h), (hc.nil _).trans h4 hsub⟩
theorem FsG.all_addK {G : FsG} {x B : Nat} (hx : B ≤ x) : ∀ y ∈ FsG.all { G with K := x :: G.K }, y ∈ G.all ∨ B ≤ y := by
  intro y hy
  simp only [FsG.all, FsG.parts, List.flatten_cons, List.mem_append, List.mem_cons] at hy ⊢
  rcases hy with h | h | h | h | h | (rfl | h) | h
  · exact .inl (.inl h)
  · exact .inl (.inr (.inl h))
  · exact .inl (.inr (.inr (.inl h)))
  · exact .inl (.inr (.inr (.inr (.inl h))))
  · exact .inl (.inr (.inr (.inr (.inr (.inl h)))))
  · exact .inr hx
  · exact .inl (.inr (.inr (.inr (.inr (.inr (.inl h))))))
  · exact .inl (.inr (.inr (.inr (.inr (.inr (.inr h))))))
theorem FsG.all_addFile {G : FsG} {x g B : Nat} {L : List Nat} (hx : B ≤ x) (hL : ∀ k ∈ L, B ≤ k) : ∀ y ∈ FsG.all { G with K := x :: G.K, ib := G.ib ++ [x], sg := G.sg ++ [g], Ls := G.Ls ++ [L] }, y ∈ G.all ∨ B ≤ y := by
  intro y hy
  simp only [FsG.all, FsG.parts, List.flatten_cons, List.flatten_append, List.flatten_nil, List.append_nil, List.mem_append, List.mem_cons] at hy ⊢
  rcases hy with h | h | h | h | h | (rfl | h) | h | h
  · exact .inl (.inl h)
  · exact .inl (.inr (.inl h))
  · exact .inl (.inr (.inr (.inl h)))
  · exact .inl (.inr (.inr (.inr (.inl h))))
  · exact .inl (.inr (.inr (.inr (.inr (.inl h)))))
  · exact .inr hx
  · exact .inl (.inr (.inr (.inr (.inr (.inr (.inl h))))))
  · exact .inl (.inr (.inr (.inr (.inr (.inr (.inr h))))))
  · exact .inr (hL y h)
end Go.Proofs.YtgomofeidghmiaaGreat
