/-
  Layer 08: do: a change of names is made and kept.
-/
import Derived.Test.YtgomofeidghmiaaVfD
namespace Go.Proofs.Ytgomofeidghmiaa
open Go.RowKit

theorem etyChanges : Ety Try.prog 74 106 1 8 .nilFunc := .mk' Try.underlying74 (by kernel_rfl) rfl (by decide)

set_option maxRecDepth 100000 in
set_option maxHeartbeats 3200000 in
theorem do_mkdir_any (k0 : Value) (b tb : Nat) (sf : Option Nat) (A Aw : Option Addr) (n c nw cw : Nat) (q a : Int) (s : Nat) (xs : List Value) (w : World) (R : World → Prop) (L : List Nat)
    (hcall : Calls Try.prog 58 #[.map (some tb), k0] w fun e w' => e = .returned (.tuple #[]) ∧ R w' ∧ Chg L w w')
    (hb : Blk w b 77 #[.map (some tb), .map sf, .slice A n c, .slice Aw nw cw, .int .i64 q, .int .i64 a, .int .i64 (s : Int)]) (ho : Own w 106 1 A n c xs) (hbL : b ∉ L) (hoL : ∀ x ∈ bo A, x ∉ L) (hn : n ≤ 1073741824) (hs : s ≤ 1073741824) :
    Calls Try.prog 56 #[.pointer (some ⟨b, 0, none⟩), .func (.func 58) #[] #[k0]] w fun e w' => e = .returned (.int .i64 0) ∧ ∃ w1, R w1 ∧ Chg L w w1 ∧ Chg (b :: bo A) w1 w' ∧ ∃ A' c',
      Blk w' b 77 #[.map (some tb), .map sf, (.slice A' (n + 1) c'), .slice Aw nw cw, .int .i64 q, .int .i64 a, .int .i64 ((s + 1 : Nat) : Int)] ∧ Own w' 106 1 A' (n + 1) c' (xs ++ [.func (.func 58) #[] #[k0]]) ∧ ∀ x ∈ bo A', x ∈ bo A ∨ w1.heap.size ≤ x := by
  have HC := Lib.hid hcall
  have HB := Lib.hid hb
  have HO := Lib.hid ho
  have h0 := hb.cell 0
  simp at h0
  have hwt : IntKind.i64.wrap ((s : Int) + 1) = ((s + 1 : Nat) : Int) := by rw [IntKind.wrap_i64]; omega
  clear hcall hb ho
  go_enter Try.func56, Try.ntmps56
  go_wp2_with fail
  refine HC.out.mono ?_
  rintro e w1 ⟨rfl, hr, hc1⟩
  have HR := Lib.hid hr
  have HC1 := Lib.hid hc1
  have hb1 := HB.out.chg hc1 hbL
  have HO1 := Lib.hid (HO.out.chg hc1 hoL)
  have HB1 := Lib.hid hb1
  have x2 := hb1.cell 2
  simp at x2
  clear hr hc1 hb1 h0
  go_wp2_with (at_builtin; refine wpList_app rfl _ _ rfl etyChanges rfl (HO1.out.chg ((Chg.refl [] w1).alloc (.cells #[.func (.func 58) #[] #[k0]] 106)) (fun _ _ => List.not_mem_nil)) rfl (Own.lit w1 106 1 #[.func (.func 58) #[] #[k0]] 1 (by decide) rfl).rd (by simp [Value.oneCell']) (by unfold maxLen; omega) (by omega) ?_; intro A2 c2 w2 hown2 hchg2 hnew2 _; have HCX : Hid (Chg (bo A) w1 w2) := Lib.hid ((((Chg.refl [] w1).alloc (.cells #[.func (.func 58) #[] #[k0]] 106)).nil _).trans hchg2 (fun x hx => .inl hx)); have hbA : b ∉ bo A := (fun hm => HO1.out.blk_ne HB1.out (by decide) b hm rfl); have HB2 := Lib.hid (HB1.out.chg HCX.out hbA); have y2 := HB2.out.cell 2; have f2 := HB2.out.frozen 2; have HB3 := Lib.hid (HB2.out.set_ 2 (.slice A2 (n + 1) c2)); have y6 := HB3.out.cell 6; have f6 := HB3.out.frozen 6; simp at y2 y6; have HO2 := Lib.hid hown2; have HN2 : Hid (∀ x ∈ bo A2, x ∈ bo A ∨ w1.heap.size ≤ x) := Lib.hid (fun x hx => (hnew2 x hx).imp id (fun h => by have := h.1; simp at this; omega)); clear hown2 hchg2 hnew2 hbA)
  go_ret
  have hb2 := HO2.out.blk_ne HB2.out (by decide)
  have hb4 := HB3.out.set_ 6 (.int .i64 ((s + 1 : Nat) : Int))
  refine ⟨rfl, w1, HR.out, HC1.out, ?_, A2, c2, ?_, ?_, HN2.out⟩
  · exact ((HCX.out.mono (fun x hx => .inl (List.mem_cons_of_mem _ hx))).setCell (.inl (by simp)) _).setCell (.inl (by simp)) _
  · simpa using hb4
  · have hcs : Chg [b] w2 ((w2.setCell ⟨b, 2, none⟩ (.slice A2 (n + 1) c2)).setCell ⟨b, 6, none⟩ (.int .i64 ((s + 1 : Nat) : Int))) := ((Chg.refl _ _).setCell (.inl (by simp)) _).setCell (.inl (by simp)) _
    have q := HO2.out.chg hcs (fun x hx hm => hb2 x hx (by simpa using hm))
    simpa using q

set_option maxRecDepth 100000 in
set_option maxHeartbeats 3200000 in
theorem do_rmdir_any (k0 : Value) (b tb : Nat) (sf : Option Nat) (A Aw : Option Addr) (n c nw cw : Nat) (q a : Int) (s : Nat) (xs : List Value) (w : World) (R : World → Prop) (L : List Nat)
    (hcall : Calls Try.prog 73 #[.map (some tb), k0] w fun e w' => e = .returned (.tuple #[]) ∧ R w' ∧ Chg L w w')
    (hb : Blk w b 77 #[.map (some tb), .map sf, .slice A n c, .slice Aw nw cw, .int .i64 q, .int .i64 a, .int .i64 (s : Int)]) (ho : Own w 106 1 A n c xs) (hbL : b ∉ L) (hoL : ∀ x ∈ bo A, x ∉ L) (hn : n ≤ 1073741824) (hs : s ≤ 1073741824) :
    Calls Try.prog 56 #[.pointer (some ⟨b, 0, none⟩), .func (.func 73) #[] #[k0]] w fun e w' => e = .returned (.int .i64 0) ∧ ∃ w1, R w1 ∧ Chg L w w1 ∧ Chg (b :: bo A) w1 w' ∧ ∃ A' c',
      Blk w' b 77 #[.map (some tb), .map sf, (.slice A' (n + 1) c'), .slice Aw nw cw, .int .i64 q, .int .i64 a, .int .i64 ((s + 1 : Nat) : Int)] ∧ Own w' 106 1 A' (n + 1) c' (xs ++ [.func (.func 73) #[] #[k0]]) ∧ ∀ x ∈ bo A', x ∈ bo A ∨ w1.heap.size ≤ x := by
  have HC := Lib.hid hcall
  have HB := Lib.hid hb
  have HO := Lib.hid ho
  have h0 := hb.cell 0
  simp at h0
  have hwt : IntKind.i64.wrap ((s : Int) + 1) = ((s + 1 : Nat) : Int) := by rw [IntKind.wrap_i64]; omega
  clear hcall hb ho
  go_enter Try.func56, Try.ntmps56
  go_wp2_with fail
  refine HC.out.mono ?_
  rintro e w1 ⟨rfl, hr, hc1⟩
  have HR := Lib.hid hr
  have HC1 := Lib.hid hc1
  have hb1 := HB.out.chg hc1 hbL
  have HO1 := Lib.hid (HO.out.chg hc1 hoL)
  have HB1 := Lib.hid hb1
  have x2 := hb1.cell 2
  simp at x2
  clear hr hc1 hb1 h0
  go_wp2_with (at_builtin; refine wpList_app rfl _ _ rfl etyChanges rfl (HO1.out.chg ((Chg.refl [] w1).alloc (.cells #[.func (.func 73) #[] #[k0]] 106)) (fun _ _ => List.not_mem_nil)) rfl (Own.lit w1 106 1 #[.func (.func 73) #[] #[k0]] 1 (by decide) rfl).rd (by simp [Value.oneCell']) (by unfold maxLen; omega) (by omega) ?_; intro A2 c2 w2 hown2 hchg2 hnew2 _; have HCX : Hid (Chg (bo A) w1 w2) := Lib.hid ((((Chg.refl [] w1).alloc (.cells #[.func (.func 73) #[] #[k0]] 106)).nil _).trans hchg2 (fun x hx => .inl hx)); have hbA : b ∉ bo A := (fun hm => HO1.out.blk_ne HB1.out (by decide) b hm rfl); have HB2 := Lib.hid (HB1.out.chg HCX.out hbA); have y2 := HB2.out.cell 2; have f2 := HB2.out.frozen 2; have HB3 := Lib.hid (HB2.out.set_ 2 (.slice A2 (n + 1) c2)); have y6 := HB3.out.cell 6; have f6 := HB3.out.frozen 6; simp at y2 y6; have HO2 := Lib.hid hown2; have HN2 : Hid (∀ x ∈ bo A2, x ∈ bo A ∨ w1.heap.size ≤ x) := Lib.hid (fun x hx => (hnew2 x hx).imp id (fun h => by have := h.1; simp at this; omega)); clear hown2 hchg2 hnew2 hbA)
  go_ret
  have hb2 := HO2.out.blk_ne HB2.out (by decide)
  have hb4 := HB3.out.set_ 6 (.int .i64 ((s + 1 : Nat) : Int))
  refine ⟨rfl, w1, HR.out, HC1.out, ?_, A2, c2, ?_, ?_, HN2.out⟩
  · exact ((HCX.out.mono (fun x hx => .inl (List.mem_cons_of_mem _ hx))).setCell (.inl (by simp)) _).setCell (.inl (by simp)) _
  · simpa using hb4
  · have hcs : Chg [b] w2 ((w2.setCell ⟨b, 2, none⟩ (.slice A2 (n + 1) c2)).setCell ⟨b, 6, none⟩ (.int .i64 ((s + 1 : Nat) : Int))) := ((Chg.refl _ _).setCell (.inl (by simp)) _).setCell (.inl (by simp)) _
    have q := HO2.out.chg hcs (fun x hx hm => hb2 x hx (by simpa using hm))
    simpa using q

set_option maxRecDepth 100000 in
set_option maxHeartbeats 3200000 in
theorem do_create_any (k0 k1 k2 : Value) (b tb : Nat) (sf : Option Nat) (A Aw : Option Addr) (n c nw cw : Nat) (q a : Int) (s : Nat) (xs : List Value) (w : World) (R : World → Prop) (L : List Nat)
    (hcall : Calls Try.prog 59 #[.map (some tb), k0, k1, k2] w fun e w' => e = .returned (.tuple #[]) ∧ R w' ∧ Chg L w w')
    (hb : Blk w b 77 #[.map (some tb), .map sf, .slice A n c, .slice Aw nw cw, .int .i64 q, .int .i64 a, .int .i64 (s : Int)]) (ho : Own w 106 1 A n c xs) (hbL : b ∉ L) (hoL : ∀ x ∈ bo A, x ∉ L) (hn : n ≤ 1073741824) (hs : s ≤ 1073741824) :
    Calls Try.prog 56 #[.pointer (some ⟨b, 0, none⟩), .func (.func 59) #[] #[k0, k1, k2]] w fun e w' => e = .returned (.int .i64 0) ∧ ∃ w1, R w1 ∧ Chg L w w1 ∧ Chg (b :: bo A) w1 w' ∧ ∃ A' c',
      Blk w' b 77 #[.map (some tb), .map sf, (.slice A' (n + 1) c'), .slice Aw nw cw, .int .i64 q, .int .i64 a, .int .i64 ((s + 1 : Nat) : Int)] ∧ Own w' 106 1 A' (n + 1) c' (xs ++ [.func (.func 59) #[] #[k0, k1, k2]]) ∧ ∀ x ∈ bo A', x ∈ bo A ∨ w1.heap.size ≤ x := by
  have HC := Lib.hid hcall
  have HB := Lib.hid hb
  have HO := Lib.hid ho
  have h0 := hb.cell 0
  simp at h0
  have hwt : IntKind.i64.wrap ((s : Int) + 1) = ((s + 1 : Nat) : Int) := by rw [IntKind.wrap_i64]; omega
  clear hcall hb ho
  go_enter Try.func56, Try.ntmps56
  go_wp2_with fail
  refine HC.out.mono ?_
  rintro e w1 ⟨rfl, hr, hc1⟩
  have HR := Lib.hid hr
  have HC1 := Lib.hid hc1
  have hb1 := HB.out.chg hc1 hbL
  have HO1 := Lib.hid (HO.out.chg hc1 hoL)
  have HB1 := Lib.hid hb1
  have x2 := hb1.cell 2
  simp at x2
  clear hr hc1 hb1 h0
  go_wp2_with (at_builtin; refine wpList_app rfl _ _ rfl etyChanges rfl (HO1.out.chg ((Chg.refl [] w1).alloc (.cells #[.func (.func 59) #[] #[k0, k1, k2]] 106)) (fun _ _ => List.not_mem_nil)) rfl (Own.lit w1 106 1 #[.func (.func 59) #[] #[k0, k1, k2]] 1 (by decide) rfl).rd (by simp [Value.oneCell']) (by unfold maxLen; omega) (by omega) ?_; intro A2 c2 w2 hown2 hchg2 hnew2 _; have HCX : Hid (Chg (bo A) w1 w2) := Lib.hid ((((Chg.refl [] w1).alloc (.cells #[.func (.func 59) #[] #[k0, k1, k2]] 106)).nil _).trans hchg2 (fun x hx => .inl hx)); have hbA : b ∉ bo A := (fun hm => HO1.out.blk_ne HB1.out (by decide) b hm rfl); have HB2 := Lib.hid (HB1.out.chg HCX.out hbA); have y2 := HB2.out.cell 2; have f2 := HB2.out.frozen 2; have HB3 := Lib.hid (HB2.out.set_ 2 (.slice A2 (n + 1) c2)); have y6 := HB3.out.cell 6; have f6 := HB3.out.frozen 6; simp at y2 y6; have HO2 := Lib.hid hown2; have HN2 : Hid (∀ x ∈ bo A2, x ∈ bo A ∨ w1.heap.size ≤ x) := Lib.hid (fun x hx => (hnew2 x hx).imp id (fun h => by have := h.1; simp at this; omega)); clear hown2 hchg2 hnew2 hbA)
  go_ret
  have hb2 := HO2.out.blk_ne HB2.out (by decide)
  have hb4 := HB3.out.set_ 6 (.int .i64 ((s + 1 : Nat) : Int))
  refine ⟨rfl, w1, HR.out, HC1.out, ?_, A2, c2, ?_, ?_, HN2.out⟩
  · exact ((HCX.out.mono (fun x hx => .inl (List.mem_cons_of_mem _ hx))).setCell (.inl (by simp)) _).setCell (.inl (by simp)) _
  · simpa using hb4
  · have hcs : Chg [b] w2 ((w2.setCell ⟨b, 2, none⟩ (.slice A2 (n + 1) c2)).setCell ⟨b, 6, none⟩ (.int .i64 ((s + 1 : Nat) : Int))) := ((Chg.refl _ _).setCell (.inl (by simp)) _).setCell (.inl (by simp)) _
    have q := HO2.out.chg hcs (fun x hx hm => hb2 x hx (by simpa using hm))
    simpa using q

set_option maxRecDepth 100000 in
set_option maxHeartbeats 3200000 in
theorem do_remove_any (k0 k1 : Value) (b tb : Nat) (sf : Option Nat) (A Aw : Option Addr) (n c nw cw : Nat) (q a : Int) (s : Nat) (xs : List Value) (w : World) (R : World → Prop) (L : List Nat)
    (hcall : Calls Try.prog 72 #[.map (some tb), k0, k1] w fun e w' => e = .returned (.tuple #[]) ∧ R w' ∧ Chg L w w')
    (hb : Blk w b 77 #[.map (some tb), .map sf, .slice A n c, .slice Aw nw cw, .int .i64 q, .int .i64 a, .int .i64 (s : Int)]) (ho : Own w 106 1 A n c xs) (hbL : b ∉ L) (hoL : ∀ x ∈ bo A, x ∉ L) (hn : n ≤ 1073741824) (hs : s ≤ 1073741824) :
    Calls Try.prog 56 #[.pointer (some ⟨b, 0, none⟩), .func (.func 72) #[] #[k0, k1]] w fun e w' => e = .returned (.int .i64 0) ∧ ∃ w1, R w1 ∧ Chg L w w1 ∧ Chg (b :: bo A) w1 w' ∧ ∃ A' c',
      Blk w' b 77 #[.map (some tb), .map sf, (.slice A' (n + 1) c'), .slice Aw nw cw, .int .i64 q, .int .i64 a, .int .i64 ((s + 1 : Nat) : Int)] ∧ Own w' 106 1 A' (n + 1) c' (xs ++ [.func (.func 72) #[] #[k0, k1]]) ∧ ∀ x ∈ bo A', x ∈ bo A ∨ w1.heap.size ≤ x := by
  have HC := Lib.hid hcall
  have HB := Lib.hid hb
  have HO := Lib.hid ho
  have h0 := hb.cell 0
  simp at h0
  have hwt : IntKind.i64.wrap ((s : Int) + 1) = ((s + 1 : Nat) : Int) := by rw [IntKind.wrap_i64]; omega
  clear hcall hb ho
  go_enter Try.func56, Try.ntmps56
  go_wp2_with fail
  refine HC.out.mono ?_
  rintro e w1 ⟨rfl, hr, hc1⟩
  have HR := Lib.hid hr
  have HC1 := Lib.hid hc1
  have hb1 := HB.out.chg hc1 hbL
  have HO1 := Lib.hid (HO.out.chg hc1 hoL)
  have HB1 := Lib.hid hb1
  have x2 := hb1.cell 2
  simp at x2
  clear hr hc1 hb1 h0
  go_wp2_with (at_builtin; refine wpList_app rfl _ _ rfl etyChanges rfl (HO1.out.chg ((Chg.refl [] w1).alloc (.cells #[.func (.func 72) #[] #[k0, k1]] 106)) (fun _ _ => List.not_mem_nil)) rfl (Own.lit w1 106 1 #[.func (.func 72) #[] #[k0, k1]] 1 (by decide) rfl).rd (by simp [Value.oneCell']) (by unfold maxLen; omega) (by omega) ?_; intro A2 c2 w2 hown2 hchg2 hnew2 _; have HCX : Hid (Chg (bo A) w1 w2) := Lib.hid ((((Chg.refl [] w1).alloc (.cells #[.func (.func 72) #[] #[k0, k1]] 106)).nil _).trans hchg2 (fun x hx => .inl hx)); have hbA : b ∉ bo A := (fun hm => HO1.out.blk_ne HB1.out (by decide) b hm rfl); have HB2 := Lib.hid (HB1.out.chg HCX.out hbA); have y2 := HB2.out.cell 2; have f2 := HB2.out.frozen 2; have HB3 := Lib.hid (HB2.out.set_ 2 (.slice A2 (n + 1) c2)); have y6 := HB3.out.cell 6; have f6 := HB3.out.frozen 6; simp at y2 y6; have HO2 := Lib.hid hown2; have HN2 : Hid (∀ x ∈ bo A2, x ∈ bo A ∨ w1.heap.size ≤ x) := Lib.hid (fun x hx => (hnew2 x hx).imp id (fun h => by have := h.1; simp at this; omega)); clear hown2 hchg2 hnew2 hbA)
  go_ret
  have hb2 := HO2.out.blk_ne HB2.out (by decide)
  have hb4 := HB3.out.set_ 6 (.int .i64 ((s + 1 : Nat) : Int))
  refine ⟨rfl, w1, HR.out, HC1.out, ?_, A2, c2, ?_, ?_, HN2.out⟩
  · exact ((HCX.out.mono (fun x hx => .inl (List.mem_cons_of_mem _ hx))).setCell (.inl (by simp)) _).setCell (.inl (by simp)) _
  · simpa using hb4
  · have hcs : Chg [b] w2 ((w2.setCell ⟨b, 2, none⟩ (.slice A2 (n + 1) c2)).setCell ⟨b, 6, none⟩ (.int .i64 ((s + 1 : Nat) : Int))) := ((Chg.refl _ _).setCell (.inl (by simp)) _).setCell (.inl (by simp)) _
    have q := HO2.out.chg hcs (fun x hx hm => hb2 x hx (by simpa using hm))
    simpa using q

set_option maxRecDepth 100000 in
set_option maxHeartbeats 3200000 in
theorem do_rename_any (k0 k1 : Value) (b tb : Nat) (sf : Option Nat) (A Aw : Option Addr) (n c nw cw : Nat) (q a : Int) (s : Nat) (xs : List Value) (w : World) (R : World → Prop) (L : List Nat)
    (hcall : Calls Try.prog 57 #[.map (some tb), k0, k1] w fun e w' => e = .returned (.tuple #[]) ∧ R w' ∧ Chg L w w')
    (hb : Blk w b 77 #[.map (some tb), .map sf, .slice A n c, .slice Aw nw cw, .int .i64 q, .int .i64 a, .int .i64 (s : Int)]) (ho : Own w 106 1 A n c xs) (hbL : b ∉ L) (hoL : ∀ x ∈ bo A, x ∉ L) (hn : n ≤ 1073741824) (hs : s ≤ 1073741824) :
    Calls Try.prog 56 #[.pointer (some ⟨b, 0, none⟩), .func (.func 57) #[] #[k0, k1]] w fun e w' => e = .returned (.int .i64 0) ∧ ∃ w1, R w1 ∧ Chg L w w1 ∧ Chg (b :: bo A) w1 w' ∧ ∃ A' c',
      Blk w' b 77 #[.map (some tb), .map sf, (.slice A' (n + 1) c'), .slice Aw nw cw, .int .i64 q, .int .i64 a, .int .i64 ((s + 1 : Nat) : Int)] ∧ Own w' 106 1 A' (n + 1) c' (xs ++ [.func (.func 57) #[] #[k0, k1]]) ∧ ∀ x ∈ bo A', x ∈ bo A ∨ w1.heap.size ≤ x := by
  have HC := Lib.hid hcall
  have HB := Lib.hid hb
  have HO := Lib.hid ho
  have h0 := hb.cell 0
  simp at h0
  have hwt : IntKind.i64.wrap ((s : Int) + 1) = ((s + 1 : Nat) : Int) := by rw [IntKind.wrap_i64]; omega
  clear hcall hb ho
  go_enter Try.func56, Try.ntmps56
  go_wp2_with fail
  refine HC.out.mono ?_
  rintro e w1 ⟨rfl, hr, hc1⟩
  have HR := Lib.hid hr
  have HC1 := Lib.hid hc1
  have hb1 := HB.out.chg hc1 hbL
  have HO1 := Lib.hid (HO.out.chg hc1 hoL)
  have HB1 := Lib.hid hb1
  have x2 := hb1.cell 2
  simp at x2
  clear hr hc1 hb1 h0
  go_wp2_with (at_builtin; refine wpList_app rfl _ _ rfl etyChanges rfl (HO1.out.chg ((Chg.refl [] w1).alloc (.cells #[.func (.func 57) #[] #[k0, k1]] 106)) (fun _ _ => List.not_mem_nil)) rfl (Own.lit w1 106 1 #[.func (.func 57) #[] #[k0, k1]] 1 (by decide) rfl).rd (by simp [Value.oneCell']) (by unfold maxLen; omega) (by omega) ?_; intro A2 c2 w2 hown2 hchg2 hnew2 _; have HCX : Hid (Chg (bo A) w1 w2) := Lib.hid ((((Chg.refl [] w1).alloc (.cells #[.func (.func 57) #[] #[k0, k1]] 106)).nil _).trans hchg2 (fun x hx => .inl hx)); have hbA : b ∉ bo A := (fun hm => HO1.out.blk_ne HB1.out (by decide) b hm rfl); have HB2 := Lib.hid (HB1.out.chg HCX.out hbA); have y2 := HB2.out.cell 2; have f2 := HB2.out.frozen 2; have HB3 := Lib.hid (HB2.out.set_ 2 (.slice A2 (n + 1) c2)); have y6 := HB3.out.cell 6; have f6 := HB3.out.frozen 6; simp at y2 y6; have HO2 := Lib.hid hown2; have HN2 : Hid (∀ x ∈ bo A2, x ∈ bo A ∨ w1.heap.size ≤ x) := Lib.hid (fun x hx => (hnew2 x hx).imp id (fun h => by have := h.1; simp at this; omega)); clear hown2 hchg2 hnew2 hbA)
  go_ret
  have hb2 := HO2.out.blk_ne HB2.out (by decide)
  have hb4 := HB3.out.set_ 6 (.int .i64 ((s + 1 : Nat) : Int))
  refine ⟨rfl, w1, HR.out, HC1.out, ?_, A2, c2, ?_, ?_, HN2.out⟩
  · exact ((HCX.out.mono (fun x hx => .inl (List.mem_cons_of_mem _ hx))).setCell (.inl (by simp)) _).setCell (.inl (by simp)) _
  · simpa using hb4
  · have hcs : Chg [b] w2 ((w2.setCell ⟨b, 2, none⟩ (.slice A2 (n + 1) c2)).setCell ⟨b, 6, none⟩ (.int .i64 ((s + 1 : Nat) : Int))) := ((Chg.refl _ _).setCell (.inl (by simp)) _).setCell (.inl (by simp)) _
    have q := HO2.out.chg hcs (fun x hx hm => hb2 x hx (by simpa using hm))
    simpa using q
end Go.Proofs.Ytgomofeidghmiaa
