/-
  The document's Spool: Seen, Sync: contracts.
-/
import Derived.Test.YtiipgfhogkeeoaaRfA
namespace Go.Proofs.Ytiipgfhogkeeoaa
open Go.RowKit

theorem Inn.at_ {w : World} {L : List Nat} {vs : List Value} {ws : List (List Int)} (h : Inn w L vs ws) {W : Option Addr} {m d : Nat} (hW : Own w 22 1 W m d vs) {i : Nat} {x : List Int} (hx : ws[i]? = some x) :
    ∃ ad A c, W = some ad ∧ w.cell? (ad.add i) = some (.slice A x.length c) ∧ Rd w 1 A x.length c (bv x) := by
  obtain ⟨A, c, h1, h2, h3⟩ := h.2 i x hx
  have hi : i < m := by
    have e1 := hW.1
    have e2 := (List.getElem?_eq_some_iff.1 hx).1
    have e3 := h.1
    omega
  obtain ⟨ad, u, e1, e2, e3⟩ := hW.rd.at1 hi
  rw [h1] at e2
  cases e2
  exact ⟨ad, A, c, e1, e3, h2.rd⟩

theorem take_flat (ws : List (List Int)) (i : Nat) (x : List Int) (h : ws[i]? = some x) : (ws.take (i + 1)).flatten = (ws.take i).flatten ++ x := by
  rw [take_snoc ws i x h, List.flatten_append]; simp
theorem take_flat_le (ws : List (List Int)) (i : Nat) : (ws.take i).flatten.length ≤ ws.flatten.length := by
  conv => rhs; rw [← List.take_append_drop i ws, List.flatten_append, List.length_append]
  omega

set_option maxHeartbeats 1600000 in
theorem rseen_any (g : Nat) (L : List Nat) (base : List Int) (ws : List (List Int)) (w : World) (h : Rsp w g L base ws) (hlen : base.length + ws.flatten.length ≤ 1073741824) (hwl : ws.length ≤ 1073741824) (N0 : Nat) (hN0 : (base ++ ws.flatten).length = N0) :
    Calls Try.prog 21 #[.pointer (some ⟨g, 0, none⟩)] w (NewRow 5 1 w (bv (base ++ ws.flatten)) N0) := by
  subst hN0
  obtain ⟨A, n, c, W, m, dm, vs, hb, h1, h2, h3, h4, h5, h6, h7, h8, h9⟩ := h
  have n63 : n ≤ 1073741824 := by omega
  have m63 : m ≤ 1073741824 := by omega
  have HO := Lib.hid h1
  have HM := Lib.hid h2
  have HI := Lib.hid h3
  have HE := Lib.hid (show n = base.length ∧ m = ws.length from ⟨h8, h9⟩)
  have HB := Lib.hid hb
  have HL := Lib.hid hlen
  have c0 := hb.cell 0
  simp at c0
  clear h1 h2 h3 h4 h5 h6 h7 h8 h9 hb hwl hlen
  go_enter Try.func21, Try.ntmps21
  go_wp2_with (go_at_call 9; refine (copy_any A n c base _ n63 HO.out.rd).mono ?_; rintro e w1 ⟨A1, c1, rfl, hown, hchg, hnew⟩)
  obtain ⟨hn, hm⟩ := HE.out
  clear c0
  go_loopw [3, 4] (fun o q wr => ∃ (i N : Nat) (A' : Option Addr) (c' : Nat), i ≤ m ∧ o = .slice A' N c' ∧ q = .int .i64 i ∧ N = base.length + (ws.take i).flatten.length ∧
    Own wr 5 1 A' N c' (bv (base ++ (ws.take i).flatten)) ∧ Chg [] w wr ∧ (∀ k ∈ bo A', w.heap.size ≤ k)) (fun _ q _ => m - (intOf q).toNat)
  case atStart => exact ⟨0, n, A1, c1, Nat.zero_le _, rfl, rfl, by simp [hn], by simpa using hown, hchg, hnew⟩
  case round =>
    obtain ⟨i, N, A', c', hi, rfl, rfl, hN, hown, hchg, hnew⟩ := hrel
    have HN := Lib.hid hN
    have HW := Lib.hid hnew
    have HG := Lib.hid (show n = base.length ∧ m = ws.length from ⟨hn, hm⟩)
    have hb1 := HB.out.chg hchg (by simp)
    have c1' := hb1.cell 1
    simp at c1'
    by_cases hlt : i < m
    · obtain ⟨x, hx⟩ : ∃ x, ws[i]? = some x := ⟨_, List.getElem?_eq_getElem (by omega)⟩
      have hfl := take_flat ws i x hx
      have hle := take_flat_le ws (i + 1)
      rw [hfl, List.length_append] at hle
      have q1 : N + x.length ≤ 1073741824 := by have := HL.out; omega
      have HX := Lib.hid hx
      clear hx hfl hle hN hnew hn hm
      obtain ⟨wo, hwo⟩ : ∃ wo : World, wo = wr := ⟨_, rfl⟩
      subst hwo
      have HC := Lib.hid hchg
      clear hchg
      go_wp2
      go_loopw [3, 5] (fun o q wr => ∃ (k : Nat) (A2 : Option Addr) (c2 : Nat), k ≤ x.length ∧ o = .slice A2 (N + k) c2 ∧ q = .int .i64 k ∧
        Own wr 5 1 A2 (N + k) c2 (bv (base ++ (ws.take i).flatten ++ x.take k)) ∧ Chg [] w wr ∧ (∀ k ∈ bo A2, w.heap.size ≤ k)) (fun _ q _ => x.length - (intOf q).toNat)
      case atStart => exact ⟨0, A', c', Nat.zero_le _, rfl, rfl, by simpa using hown, HC.out, HW.out⟩
      case round =>
        obtain ⟨k, A2, c2, hk, rfl, rfl, hown2, hchg, hnew⟩ := hrel
        have HW2 := Lib.hid hnew
        clear hnew
        have hb2 := HB.out.chg hchg (by simp)
        have e1 := hb2.cell 1
        simp at e1
        obtain ⟨ad, Ai, ci, rfl, hci, hri⟩ := ((HI.out).chg hchg (by simp)).at_ (HM.out.chg hchg (by simp)) HX.out
        by_cases hkx : k < x.length
        · obtain ⟨bd, y, rfl, hy, hcy⟩ := rd_byte hri hkx
          have HY := Lib.hid hy
          have HRI := Lib.hid hri
          clear hri hy
          go_wp2_with (at_builtin; refine wpList_app rfl _ _ rfl etyBytes rfl (hown2.chg ((Chg.refl [] wr).alloc _) (by simp)) rfl (Own.lit wr 5 1 #[.int .u8 y] 1 (by decide) rfl).rd (one_int _ _) (by unfold maxLen; omega) (by omega) ?_; intro A3 c3 w3 hown3 hchg3 hnew3 _)
          go_roundw
          case rel =>
            refine ⟨k + 1, A3, c3, by omega, rfl, by go_num, ?_, (hchg.alloc _).trans hchg3 (fun y hy => .inr (HW2.out y hy)), fun y hy => ?_⟩
            · rw [take_snoc x k y HY.out]
              simpa [List.append_assoc, Nat.add_assoc] using hown3
            · rcases hnew3 y hy with h1 | h1
              · exact HW2.out y h1
              · have h2 := hchg.size; simp at h1; omega
          case measure => simp [intOf]; omega
        · have HRI := Lib.hid hri
          clear hri
          go_wp2
          go_roundw
          case rel =>
            have hkk : k = x.length := by omega
            subst hkk
            refine ⟨i + 1, N + x.length, A2, c2, by omega, rfl, by go_num, by rw [take_flat ws i x HX.out, List.length_append]; have := HN.out; omega, ?_, hchg, HW2.out⟩
            rw [take_flat ws i x HX.out]
            rw [List.take_of_length_le (Nat.le_refl _)] at hown2
            simpa [List.append_assoc] using hown2
          case measure => simp [intOf]; omega
    · go_wp2
      go_ret
      have him : ws.take i = ws := List.take_of_length_le (by have := HG.out.2; omega)
      have hown5 := hown
      have hN5 := HN.out
      rw [him] at hown5 hN5
      rw [List.length_append, ← hN5]
      exact ⟨A', c', rfl, hown5, hchg, HW.out⟩

set_option maxHeartbeats 1600000 in
theorem rsync_any (g : Nat) (L : List Nat) (base : List Int) (ws : List (List Int)) (w : World) (h : Rsp w g L base ws) (hlen : base.length + ws.flatten.length ≤ 1073741824) (hwl : ws.length ≤ 1073741824) :
    Calls Try.prog 17 #[.pointer (some ⟨g, 0, none⟩)] w (RspTo w g L (base ++ ws.flatten) []) := by
  have HS := Lib.hid h
  obtain ⟨A, n, c, W, m, dm, vs, hb, h1, h2, h3, h4, h5, h6, h7, h8, h9⟩ := h
  have HB := Lib.hid hb
  have HO := Lib.hid (show g ∈ L ∧ ∀ k ∈ L, k < w.heap.size from ⟨h4, h7⟩)
  clear hb h1 h2 h3 h4 h5 h6 h7 h8 h9
  obtain ⟨N, hN⟩ : ∃ N, (base ++ ws.flatten).length = N := ⟨_, rfl⟩
  have HN := Lib.hid hN
  clear hN
  go_enter Try.func17, Try.ntmps17
  go_wp2_with (go_at_call 21; refine (rseen_any g L base ws _ HS.out hlen hwl N HN.out).mono ?_; rintro e w1 ⟨A1, c1, rfl, hown, hchg, hnew⟩; have hb1 := HB.out.chg hchg (by simp); have d0 := hb1.cell 0; have d1 := hb1.cell 1; have f0 := hb1.frozen 0; have f1 := hb1.frozen 1; simp at d0 d1; have gl := hb1.lt)
  go_end0
  have HN := HN.out
  obtain ⟨h4, h7⟩ := HO.out
  have sz := hchg.size
  have hb2 := ((hb1.set_ 0 (.slice A1 N c1)).set_ 1 (.slice (some ⟨w1.heap.size, 0, none⟩) 0 0)).alloc (.cells #[] 22)
  have hc1 : Chg [g] w1 ((w1.setCell ⟨g, 0, none⟩ (.slice A1 N c1)).setCell ⟨g, 1, none⟩ (.slice (some ⟨w1.heap.size, 0, none⟩) 0 0)) := ((Chg.refl [g] w1).setCell (by simp) _).setCell (by simp) _
  have hc := hc1.alloc (.cells #[] 22)
  have ho : Own _ 22 1 _ 0 0 [] := Own.lit ((w1.setCell ⟨g, 0, none⟩ (.slice A1 N c1)).setCell ⟨g, 1, none⟩ (.slice (some ⟨w1.heap.size, 0, none⟩) 0 0)) 22 1 #[] 0 (by decide) rfl
  have hsz : ((w1.setCell ⟨g, 0, none⟩ (.slice A1 N c1)).setCell ⟨g, 1, none⟩ (.slice (some ⟨w1.heap.size, 0, none⟩) 0 0)).heap.size = w1.heap.size := by simp [World.setCell]
  rw [hsz] at ho
  refine ⟨w1.heap.size :: (bo A1 ++ L), rfl, ⟨A1, N, c1, _, 0, 0, [], by simpa using hb2, hown.chg hc (fun j hj hh => hown.blk_ne hb1 (by decide) j hj (by simpa using hh)), ho, ⟨rfl, fun i x hx => by simp at hx⟩, by simp [h4], fun j hj => by simp [hj], by simp, ?_, HN.symm, rfl⟩, ?_, ?_⟩
  · intro j hj
    have e1 : ((((w1.setCell ⟨g, 0, none⟩ (.slice A1 N c1)).setCell ⟨g, 1, none⟩ (.slice (some ⟨w1.heap.size, 0, none⟩) 0 0))).alloc (.cells #[] 22)).heap.size = w1.heap.size + 1 := by simp [World.setCell]
    rw [e1]
    simp only [List.mem_cons, List.mem_append] at hj
    rcases hj with rfl | hj | hj
    · omega
    · have := hown.lt j hj; omega
    · have := h7 j hj; omega
  · exact (hchg.nil L).trans hc (fun x hx => .inl (by simp at hx; subst hx; exact h4))
  · intro j hj
    simp only [List.mem_cons, List.mem_append] at hj
    rcases hj with rfl | hj | hj
    · exact .inr sz
    · exact .inr (hnew j hj)
    · exact .inl hj
end Go.Proofs.Ytiipgfhogkeeoaa
