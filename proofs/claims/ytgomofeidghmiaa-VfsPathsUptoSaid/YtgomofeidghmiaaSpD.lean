/-
  The program's Spool: Sync, Seen, Safe, Size, Pending.
-/
import Derived.Test.YtgomofeidghmiaaSpC
import Derived.StillTailTactics
namespace Go.Proofs.Ytgomofeidghmiaa
open Go.RowKit

theorem iv_ends_nil (b : Nat) : iv (ends b []) = [] := rfl

set_option maxRecDepth 100000 in
set_option maxHeartbeats 1600000 in
theorem sync_any (g : Nat) (L : List Nat) (base : List Int) (ws : List (List Int)) (w : World) (h : Spo w g L base ws) (hlen : base.length + ws.flatten.length ≤ 1073741824) :
    Calls Try.prog 62 #[.pointer (some ⟨g, 0, none⟩)] w (SpoTo w g L (base ++ ws.flatten) []) := by
  obtain ⟨A, n, c, M, m, dm, s, hb, h1, h2, rfl, hn, hm, hs⟩ := h
  have n63 : n ≤ 1073741824 := by omega
  have hmd := h2.rd.2.1
  have HE := Lib.hid (show n = base.length + ws.flatten.length ∧ m = ws.length ∧ s = base.length from ⟨hn, hm, hs⟩)
  have HO := Lib.hid h1
  have HM := Lib.hid h2
  have HB := Lib.hid hb
  have c0 := hb.cell 0
  have c1 := hb.cell 1
  have c2 := hb.cell 2
  have f1 := hb.frozen 1
  have f2 := hb.frozen 2
  simp at c0 c1 c2
  clear h1 h2 hb hn hm hs
  go_enter Try.func62, Try.ntmps62
  go_wp2
  go_end0
  obtain ⟨hn, hm, hs⟩ := HE.out
  have hb2 := (HB.out.set_ 1 (.int .i64 n)).set_ 2 (.slice M 0 dm)
  have hch : Chg [g] w ((w.setCell ⟨g, 1, none⟩ (.int .i64 n)).setCell ⟨g, 2, none⟩ (.slice M 0 dm)) := ((Chg.refl [g] w).setCell (by simp) _).setCell (by simp) _
  refine ⟨g :: (bo A ++ bo M), rfl, ⟨A, n, c, M, 0, dm, n, by simpa using hb2, ?_, ?_, rfl, ?_, rfl, ?_⟩, hch.mono (by simp), fun k hk => .inl hk⟩
  · simpa using HO.out.chg hch (fun j hj hh => HO.out.blk_ne HB.out (by decide) j hj (by simpa using hh))
  · have := (HM.out.chg hch (fun j hj hh => HM.out.blk_ne HB.out (by decide) j hj (by simpa using hh))).cut (Nat.zero_le _)
    simp only [Nat.zero_mul, List.take_zero] at this
    exact this
  · simpa using hn
  · rw [hn, List.length_append]

set_option maxRecDepth 100000 in
set_option maxHeartbeats 1600000 in
theorem seen_any (g : Nat) (L : List Nat) (base : List Int) (ws : List (List Int)) (w : World) (h : Spo w g L base ws) (hlen : base.length + ws.flatten.length ≤ 1073741824) (N0 : Nat) (hN0 : (base ++ ws.flatten).length = N0) :
    Calls Try.prog 45 #[.pointer (some ⟨g, 0, none⟩)] w (NewRow 5 1 w (bv (base ++ ws.flatten)) N0) := by
  subst hN0
  obtain ⟨A, n, c, M, m, dm, s, hb, h1, h2, rfl, hn, hm, hs⟩ := h
  have n63 : n ≤ 1073741824 := by omega
  have HE := Lib.hid (show n = (base ++ ws.flatten).length by rw [List.length_append]; omega)
  have HO := Lib.hid h1
  have c0 := hb.cell 0
  simp at c0
  clear h1 h2 hb hn hm hs
  go_enter Try.func45, Try.ntmps45
  go_wp2_with (go_at_call 66; refine (clone_any A n c _ _ n63 HO.out.rd).mono ?_; rintro e w1 ⟨A1, c1, rfl, hown, hchg, hnew⟩)
  go_ret
  rw [← HE.out]
  exact ⟨A1, c1, rfl, hown, hchg, hnew⟩

set_option maxRecDepth 100000 in
set_option maxHeartbeats 1600000 in
theorem safe_any (g : Nat) (L : List Nat) (base : List Int) (ws : List (List Int)) (w : World) (h : Spo w g L base ws) (hlen : base.length + ws.flatten.length ≤ 1073741824) (N0 : Nat) (hN0 : base.length = N0) :
    Calls Try.prog 71 #[.pointer (some ⟨g, 0, none⟩)] w (NewRow 5 1 w (bv base) N0) := by
  subst hN0
  obtain ⟨A, n, c, M, m, dm, s, hb, h1, h2, rfl, hn, hm, hs⟩ := h
  have n63 : n ≤ 1073741824 := by omega
  have s63 : s ≤ 1073741824 := by omega
  have hsn : s ≤ n := by omega
  have hnc := h1.rd.2.1
  have hcut : Rd w 1 A s c (bv base) := by
    have := h1.rd.take hsn
    rw [Nat.mul_one] at this
    rw [show bv base = (bv (base ++ ws.flatten)).take s by rw [hs]; simp]
    exact this
  have HC := Lib.hid hcut
  have HE := Lib.hid (show s = base.length from hs)
  have c0 := hb.cell 0
  have c1 := hb.cell 1
  simp at c0 c1
  have q0 : (0 : Int) ≤ s := by omega
  have q1 : (s : Int) ≤ c := by omega
  clear h1 h2 hb hn hm hs hcut
  go_enter Try.func71, Try.ntmps71
  go_wp2
  go_still_tail 9, (by kernel_rfl)
  go_wp2_with (go_at_call 66; refine (clone_any A s c _ _ s63 (HC.out.chg ((Chg.refl [] w).drew) (by simp))).mono ?_; rintro e w1 ⟨A1, c1, rfl, hown, hchg, hnew⟩)
  go_ret
  rw [← HE.out]
  exact ⟨A1, c1, rfl, hown, ((Chg.refl [] w).drew).trans0 hchg, hnew⟩

set_option maxRecDepth 100000 in
set_option maxHeartbeats 1600000 in
theorem size_any (g : Nat) (L : List Nat) (base : List Int) (ws : List (List Int)) (w : World) (h : Spo w g L base ws) (N0 : Nat) (hN0 : base.length + ws.flatten.length = N0) :
    Calls Try.prog 49 #[.pointer (some ⟨g, 0, none⟩)] w (fun e w' => e = .returned (.int .i64 (N0 : Nat)) ∧ w' = w) := by
  subst hN0
  obtain ⟨A, n, c, M, m, dm, s, hb, h1, h2, rfl, hn, hm, hs⟩ := h
  have HE := Lib.hid hn
  have c0 := hb.cell 0
  simp at c0
  clear h1 h2 hb hn hm hs
  go_enter Try.func49, Try.ntmps49
  go_wp2
  go_ret
  exact ⟨by rw [← HE.out]; rfl, rfl⟩

end Go.Proofs.Ytgomofeidghmiaa
