/-
  The document's Spool (satchelref07): New, Append, Seen, Sync: contracts.
  The document's Spool: Seen, Sync: contracts.
  The document's Spool: After; and that it is what the program's is (aft).
-/
import Derived.Test.YtgomofeidghmiaaGreatSpJ
import Derived.Deep.RegionHeld3
namespace Go.Proofs.YtgomofeidghmiaaGreat
open Go.RowKit

theorem etyBytess : Ety Tryz.prog 145 31 1 24 (.slice none 0 0) := .mk' Tryz.underlying145 (by kernel_rfl) rfl (by decide)

/-- each of the rows is owned and reads as its list; all their blocks are in L -/
def Inn (w : World) (L : List Nat) (vs : List Value) (ws : List (List Int)) : Prop :=
  vs.length = ws.length ∧ ∀ (i : Nat) (x : List Int), ws[i]? = some x → ∃ A c, vs[i]? = some (.slice A x.length c) ∧ Own w 5 1 A x.length c (bv x) ∧ ∀ k ∈ bo A, k ∈ L

theorem Inn.chg {w w' : World} {L M : List Nat} {vs : List Value} {ws : List (List Int)} (h : Inn w L vs ws) (hc : Chg M w w') (hn : ∀ k ∈ L, k ∈ M → ∃ t cs, Blk w k t cs ∧ t ≠ 5) : Inn w' L vs ws :=
  ⟨h.1, fun i x hx => by
    obtain ⟨A, c, h1, h2, h3⟩ := h.2 i x hx
    refine ⟨A, c, h1, h2.chg hc (fun k hk hm => ?_), h3⟩
    obtain ⟨t, cs, hb, ht⟩ := hn k (h3 k hk) hm
    exact h2.blk_ne hb ht k hk rfl⟩
theorem Inn.mono {w : World} {L M : List Nat} {vs : List Value} {ws : List (List Int)} (h : Inn w L vs ws) (hs : ∀ k ∈ L, k ∈ M) : Inn w M vs ws :=
  ⟨h.1, fun i x hx => by obtain ⟨A, c, h1, h2, h3⟩ := h.2 i x hx; exact ⟨A, c, h1, h2, fun k hk => hs k (h3 k hk)⟩⟩
theorem Inn.snoc {w : World} {L : List Nat} {vs : List Value} {ws : List (List Int)} {A : Option Addr} {c : Nat} {x : List Int} (h : Inn w L vs ws) (ho : Own w 5 1 A x.length c (bv x)) (hk : ∀ k ∈ bo A, k ∈ L) :
    Inn w L (vs ++ [.slice A x.length c]) (ws ++ [x]) := by
  refine ⟨by simp [h.1], fun i y hy => ?_⟩
  by_cases hi : i < ws.length
  · rw [List.getElem?_append_left hi] at hy
    obtain ⟨A', c', h1, h2, h3⟩ := h.2 i y hy
    exact ⟨A', c', by rw [List.getElem?_append_left (by rw [h.1]; exact hi)]; exact h1, h2, h3⟩
  · rw [List.getElem?_append_right (by omega)] at hy
    by_cases h0 : i - ws.length = 0
    · rw [h0] at hy
      simp at hy
      subst hy
      refine ⟨A, c, ?_, ho, hk⟩
      rw [List.getElem?_append_right (by rw [h.1]; omega), h.1, h0]
      rfl
    · rw [List.getElem?_eq_none (by simp; omega)] at hy
      cases hy

/-- the document's Spool in block g; its blocks are in L -/
def Rsp (w : World) (g : Nat) (L : List Nat) (base : List Int) (ws : List (List Int)) : Prop :=
  ∃ A n c W m d vs, Blk w g 147 #[.slice A n c, .slice W m d] ∧ Own w 5 1 A n c (bv base) ∧ Own w 31 1 W m d vs ∧ Inn w L vs ws ∧
    g ∈ L ∧ (∀ k ∈ bo A, k ∈ L) ∧ (∀ k ∈ bo W, k ∈ L) ∧ (∀ k ∈ L, k < w.heap.size) ∧ n = base.length ∧ m = ws.length

theorem Rsp.lt {w : World} {g : Nat} {L : List Nat} {base : List Int} {ws : List (List Int)} (h : Rsp w g L base ws) : ∀ k ∈ L, k < w.heap.size := by
  obtain ⟨A, n, c, W, m, d, vs, hb, h1, h2, h3, h4, h5, h6, h7, _⟩ := h
  exact h7
theorem Rsp.chg {w w' : World} {g : Nat} {L M : List Nat} {base : List Int} {ws : List (List Int)} (h : Rsp w g L base ws) (hc : Chg M w w') (hn : ∀ k ∈ L, k ∉ M) : Rsp w' g L base ws := by
  obtain ⟨A, n, c, W, m, d, vs, hb, h1, h2, h3, h4, h5, h6, h7, h8⟩ := h
  exact ⟨A, n, c, W, m, d, vs, hb.chg hc (hn g h4), h1.chg hc (fun k hk => hn k (h5 k hk)), h2.chg hc (fun k hk => hn k (h6 k hk)), h3.chg hc (fun k hk hm => absurd hm (hn k hk)), h4, h5, h6, fun k hk => Nat.lt_of_lt_of_le (h7 k hk) hc.size, h8⟩

def NewRsp (w : World) (zs : List Int) (e : Ending) (w' : World) : Prop :=
  ∃ g L, e = .returned (.pointer (some ⟨g, 0, none⟩)) ∧ Rsp w' g L zs [] ∧ Chg [] w w' ∧ ∀ k ∈ L, w.heap.size ≤ k

theorem zero22 (w : World) : (zeroValue 145).run Tryz.prog w = .ok (.slice none 0 0) w := by kernel_rfl

set_option maxRecDepth 100000 in
set_option maxHeartbeats 800000 in
theorem rnew_any (A : Option Addr) (n c : Nat) (zs : List Int) (w : World) (hn : n ≤ 1073741824) (hrd : Rd w 1 A n c (bv zs)) :
    Calls Tryz.prog 76 #[.slice A n c] w (NewRsp w zs) := by
  have hl : zs.length = n := by have := hrd.1; simp at this; omega
  have HL := Lib.hid hl
  clear hl
  go_enter Tryz.func76, Tryz.ntmps76
  go_wp2_with (go_at_call 91; refine (copy_any A n c zs _ hn hrd).mono ?_; rintro e w1 ⟨A1, c1, rfl, hown, hchg, hnew⟩)
  go_ret
  have hsz := hchg.size
  refine ⟨w1.heap.size, w1.heap.size :: bo A1, rfl, ⟨A1, n, c1, none, 0, 0, [], Blk.new w1 147 _, hown.chg ((Chg.refl [] w1).alloc _) (by simp), Own.nil _ _ _, ⟨rfl, fun i x hx => by simp at hx⟩, by simp, fun k hk => by simp [hk], by simp, ?_, HL.out.symm, rfl⟩, hchg.alloc _, ?_⟩
  · intro k hk
    simp at hk ⊢
    rcases hk with rfl | hk
    · omega
    · have := hown.lt k hk; omega
  · intro k hk
    simp at hk
    rcases hk with rfl | hk
    · omega
    · exact hnew k hk

def RspTo (w : World) (g : Nat) (L : List Nat) (base : List Int) (ws : List (List Int)) (e : Ending) (w' : World) : Prop :=
  ∃ L', e = .returned (.tuple #[]) ∧ Rsp w' g L' base ws ∧ Chg L w w' ∧ ∀ k ∈ L', k ∈ L ∨ w.heap.size ≤ k

theorem rappend_nil (g : Nat) (L : List Nat) (base : List Int) (ws : List (List Int)) (B : Option Addr) (d : Nat) (w : World) (h : Rsp w g L base ws) :
    Calls Tryz.prog 88 #[.pointer (some ⟨g, 0, none⟩), .slice B 0 d] w (RspTo w g L base ws) := by
  go_enter Tryz.func88, Tryz.ntmps88
  go_wp2
  go_end0
  exact ⟨L, rfl, h, Chg.refl _ _, fun k hk => .inl hk⟩

theorem rapp_close {g : Nat} {L : List Nat} {base : List Int} {ws : List (List Int)} {k : Nat} {xs : List Int} {w w1 w3 : World} {A W A1 A2 : Option Addr} {n c m dm cc1 cc2 : Nat} {vs : List Value} {o : Obj}
    (HI : Inn w L vs ws ∧ g ∈ L ∧ (∀ k ∈ bo A, k ∈ L) ∧ (∀ k ∈ bo W, k ∈ L) ∧ (∀ k ∈ L, k < w.heap.size) ∧ n = base.length ∧ m = ws.length)
    (HO : Own w 5 1 A n c (bv base)) (HM : Own w 31 1 W m dm vs) (HX : xs.length = k) (hown1 : Own w1 5 1 A1 k cc1 (bv xs)) (hchg1 : Chg [] w.drew w1) (hnew1 : ∀ k ∈ bo A1, w.heap.size ≤ k)
    (hown2 : Own w3 31 1 A2 (m + 1) cc2 (vs ++ [.slice A1 k cc1])) (hchg2 : Chg (bo W) (w1.alloc o) w3) (hnew2 : ∀ k ∈ bo A2, k ∈ bo W ∨ ((w1.alloc o).heap.size ≤ k ∧ k < w3.heap.size))
    (hb3 : Blk w3 g 147 #[.slice A n c, .slice W m dm]) :
    RspTo w g L base (ws ++ [xs]) (.returned (.tuple #[])) (w3.setCell ⟨g, 1, none⟩ (.slice A2 (m + 1) cc2)) := by
  obtain ⟨h3, h4, h5, h6, h7, h8, h9⟩ := HI
  subst HX
  have z1 : w.heap.size ≤ w1.heap.size := hchg1.size
  have z2 : w1.heap.size + 1 ≤ w3.heap.size := by have := hchg2.size; simpa using this
  have e1 : Chg [] w w1 := ((Chg.refl [] w).drew).trans0 hchg1
  have e2 : Chg (bo W) w w3 := ((e1.alloc o).nil _).trans hchg2 (fun x hx => .inl hx)
  have e3 : Chg [g] w3 (w3.setCell ⟨g, 1, none⟩ (.slice A2 (m + 1) cc2)) := (Chg.refl [g] w3).setCell (by simp) _
  have HM1 := HM.chg e1 (by simp)
  have o1 : Own w3 5 1 A1 xs.length cc1 (bv xs) := (hown1.chg ((Chg.refl [] w1).alloc o) (by simp)).chg hchg2 (fun j hj hh => hown1.own_ne HM1 (by decide) j hj hh)
  have o2 : Own w3 5 1 A n c (bv base) := HO.chg e2 (fun j hj hh => HO.own_ne HM (by decide) j hj hh)
  have bW : ∀ j ∈ bo W, ∃ t cs, Blk w j t cs ∧ t ≠ 5 := fun j hj => by
    rcases HM.form with ⟨rfl, _⟩ | ⟨g', cur, rfl, hb', _⟩
    · simp at hj
    · simp at hj; subst hj; exact ⟨_, _, hb', by decide⟩
  refine ⟨bo A1 ++ (bo A2 ++ L), rfl, ⟨A, n, c, A2, m + 1, cc2, _, by simpa using hb3.set_ 1 (.slice A2 (m + 1) cc2), o2.chg e3 (fun j hj hh => o2.blk_ne hb3 (by decide) j hj (by simpa using hh)),
    hown2.chg e3 (fun j hj hh => hown2.blk_ne hb3 (by decide) j hj (by simpa using hh)), ?_, by simp [h4], fun j hj => by simp [h5 j hj], fun j hj => by simp [hj], ?_, h8, by simp [h9]⟩, ?_, ?_⟩
  · refine Inn.snoc (Inn.mono (((h3.chg e2 (fun j _ hm => bW j hm))).chg e3 (fun j _ hm => ⟨_, _, by simp at hm; subst hm; exact hb3, by decide⟩)) (fun j hj => by simp [hj])) ?_ (fun j hj => by simp [hj])
    exact o1.chg e3 (fun j hj hh => o1.blk_ne hb3 (by decide) j hj (by simpa using hh))
  · intro j hj
    have : w3.heap.size ≤ (w3.setCell ⟨g, 1, none⟩ (.slice A2 (m + 1) cc2)).heap.size := e3.size
    simp only [List.mem_append] at hj
    rcases hj with hj | hj | hj
    · have := o1.lt j hj; omega
    · have := hown2.lt j hj; omega
    · have := h7 j hj; omega
  · exact (e2.mono (fun x hx => .inl (h6 x hx))).trans e3 (fun x hx => .inl (by simp at hx; subst hx; exact h4))
  · intro j hj
    simp only [List.mem_append] at hj
    rcases hj with hj | hj | hj
    · exact .inr (hnew1 j hj)
    · rcases hnew2 j hj with h | h
      · exact .inl (h6 j h)
      · right; have := h.1; simp at this; omega
    · exact .inl hj

set_option maxRecDepth 100000 in
set_option maxHeartbeats 1600000 in
theorem rappend_some (g : Nat) (L : List Nat) (base : List Int) (ws : List (List Int)) (B : Option Addr) (k d : Nat) (xs : List Int) (w : World) (h : Rsp w g L base ws) (hk : 0 < k) (hk2 : k ≤ 1073741824)
    (hws : ws.length ≤ 1073741824) (hrd : Rd w 1 B k d (bv xs)) :
    Calls Tryz.prog 88 #[.pointer (some ⟨g, 0, none⟩), .slice B k d] w (RspTo w g L base (ws ++ [xs])) := by
  obtain ⟨A, n, c, W, m, dm, vs, hb, h1, h2, h3, h4, h5, h6, h7, h8, h9⟩ := h
  have m63 : m ≤ 1073741824 := by omega
  have HR := Lib.hid hrd
  have HO := Lib.hid h1
  have HM := Lib.hid h2
  have HI := Lib.hid (show Inn w L vs ws ∧ g ∈ L ∧ (∀ k ∈ bo A, k ∈ L) ∧ (∀ k ∈ bo W, k ∈ L) ∧ (∀ k ∈ L, k < w.heap.size) ∧ n = base.length ∧ m = ws.length from ⟨h3, h4, h5, h6, h7, h8, h9⟩)
  have HB := Lib.hid hb
  have c1 := hb.cell 1
  simp at c1
  have HX : Hid (xs.length = k) := Lib.hid (by have := hrd.1; simp at this; omega)
  clear hrd h1 h2 h3 h4 h5 h6 h7 h8 h9 hb hws
  go_enter Tryz.func88, Tryz.ntmps88
  go_wp2
  go_region_law (first
    | (refine step_app rfl _ _ rfl etyBytess rfl (HM1.out.chg ((Chg.refl [] w1).alloc _) (by simp)) rfl (Own.lit w1 31 1 #[.slice A1 k cc1] 1 (by decide) rfl).rd (by simp [Value.oneCell']) (by unfold maxLen; omega) (by omega) ?_; intro A2 cc2 w3 hown2 hchg2 hnew2 _; have hb3 := ((HB1.out).alloc _).chg hchg2 HG1.out; have x1 := hb3.cell 1; have y1 := hb3.frozen 1; simp at x1)
    | (go_simp; go_at_call 91; refine (copy_any B k d xs _ hk2 (HR.out.chg ((Chg.refl [] w).drew) (by simp))).mono ?_; rintro e w1 ⟨A1, cc1, rfl, hown1, hchg1, hnew1⟩; have HB1 := Lib.hid (HB.out.chg (((Chg.refl [] w).drew).trans0 hchg1) (by simp)); have HM1 := Lib.hid (HM.out.chg (((Chg.refl [] w).drew).trans0 hchg1) (by simp)); have HG1 : Hid (g ∉ bo W) := Lib.hid (fun hh => HM.out.blk_ne HB.out (by decide) g hh rfl); have d1 := HB1.out.cell 1; have d1a := fun o => (HB1.out.alloc o).cell 1; simp at d1 d1a))
  all_goals
    go_wp2
    go_end0
    exact rapp_close HI.out HO.out HM.out HX.out hown1 hchg1 hnew1 hown2 hchg2 hnew2 hb3
end Go.Proofs.YtgomofeidghmiaaGreat

namespace Go.Proofs.YtgomofeidghmiaaGreat
open Go.RowKit

theorem Inn.at_ {w : World} {L : List Nat} {vs : List Value} {ws : List (List Int)} (h : Inn w L vs ws) {W : Option Addr} {m d : Nat} (hW : Own w 31 1 W m d vs) {i : Nat} {x : List Int} (hx : ws[i]? = some x) :
    ∃ ad A c, W = some ad ∧ w.cell? (ad.add i) = some (.slice A x.length c) ∧ Rd w 1 A x.length c (bv x) := by
  obtain ⟨A, c, h1, h2, h3⟩ := h.2 i x hx
  have hi : i < m := by
    have e1 := hW.1
    have e2 := (List.getElem?_eq_some_iff.1 hx).1
    have e3 := h.1
    omega
  obtain ⟨ad, u, e1, e2, e3⟩ := hW.rd.at1 hi
  rw [h1] at e2
  cases e2
  exact ⟨ad, A, c, e1, e3, h2.rd⟩

theorem take_flat (ws : List (List Int)) (i : Nat) (x : List Int) (h : ws[i]? = some x) : (ws.take (i + 1)).flatten = (ws.take i).flatten ++ x := by
  rw [take_snoc ws i x h, List.flatten_append]; simp
theorem take_flat_le (ws : List (List Int)) (i : Nat) : (ws.take i).flatten.length ≤ ws.flatten.length := by
  conv => rhs; rw [← List.take_append_drop i ws, List.flatten_append, List.length_append]
  omega

set_option maxRecDepth 100000 in
set_option maxHeartbeats 1600000 in
theorem rseen_any (g : Nat) (L : List Nat) (base : List Int) (ws : List (List Int)) (w : World) (h : Rsp w g L base ws) (hlen : base.length + ws.flatten.length ≤ 1073741824) (hwl : ws.length ≤ 1073741824) (N0 : Nat) (hN0 : (base ++ ws.flatten).length = N0) :
    Calls Tryz.prog 56 #[.pointer (some ⟨g, 0, none⟩)] w (NewRow 5 1 w (bv (base ++ ws.flatten)) N0) := by
  subst hN0
  obtain ⟨A, n, c, W, m, dm, vs, hb, h1, h2, h3, h4, h5, h6, h7, h8, h9⟩ := h
  have n63 : n ≤ 1073741824 := by omega
  have m63 : m ≤ 1073741824 := by omega
  have HO := Lib.hid h1
  have HM := Lib.hid h2
  have HI := Lib.hid h3
  have HE := Lib.hid (show n = base.length ∧ m = ws.length from ⟨h8, h9⟩)
  have HB := Lib.hid hb
  have HL := Lib.hid hlen
  have c0 := hb.cell 0
  simp at c0
  clear h1 h2 h3 h4 h5 h6 h7 h8 h9 hb hwl hlen
  go_enter Tryz.func56, Tryz.ntmps56
  go_wp2_with (go_at_call 91; refine (copy_any A n c base _ n63 HO.out.rd).mono ?_; rintro e w1 ⟨A1, c1, rfl, hown, hchg, hnew⟩)
  obtain ⟨hn, hm⟩ := HE.out
  clear c0
  go_loopw [3, 4] (fun o q wr => ∃ (i N : Nat) (A' : Option Addr) (c' : Nat), i ≤ m ∧ o = .slice A' N c' ∧ q = .int .i64 i ∧ N = base.length + (ws.take i).flatten.length ∧
    Own wr 5 1 A' N c' (bv (base ++ (ws.take i).flatten)) ∧ Chg [] w wr ∧ (∀ k ∈ bo A', w.heap.size ≤ k)) (fun _ q _ => m - (intOf q).toNat)
  case atStart => exact ⟨0, n, A1, c1, Nat.zero_le _, rfl, rfl, by simp [hn], by simpa using hown, hchg, hnew⟩
  case round =>
    obtain ⟨i, N, A', c', hi, rfl, rfl, hN, hown, hchg, hnew⟩ := hrel
    have HN := Lib.hid hN
    have HW := Lib.hid hnew
    have HG := Lib.hid (show n = base.length ∧ m = ws.length from ⟨hn, hm⟩)
    have hb1 := HB.out.chg hchg (by simp)
    have c1' := hb1.cell 1
    simp at c1'
    by_cases hlt : i < m
    · obtain ⟨x, hx⟩ : ∃ x, ws[i]? = some x := ⟨_, List.getElem?_eq_getElem (by omega)⟩
      have hfl := take_flat ws i x hx
      have hle := take_flat_le ws (i + 1)
      rw [hfl, List.length_append] at hle
      have q1 : N + x.length ≤ 1073741824 := by have := HL.out; omega
      have HX := Lib.hid hx
      clear hx hfl hle hN hnew hn hm
      obtain ⟨wo, hwo⟩ : ∃ wo : World, wo = wr := ⟨_, rfl⟩
      subst hwo
      have HC := Lib.hid hchg
      clear hchg
      go_wp2
      go_loopw [3, 5] (fun o q wr => ∃ (k : Nat) (A2 : Option Addr) (c2 : Nat), k ≤ x.length ∧ o = .slice A2 (N + k) c2 ∧ q = .int .i64 k ∧
        Own wr 5 1 A2 (N + k) c2 (bv (base ++ (ws.take i).flatten ++ x.take k)) ∧ Chg [] w wr ∧ (∀ k ∈ bo A2, w.heap.size ≤ k)) (fun _ q _ => x.length - (intOf q).toNat)
      case atStart => exact ⟨0, A', c', Nat.zero_le _, rfl, rfl, by simpa using hown, HC.out, HW.out⟩
      case round =>
        obtain ⟨k, A2, c2, hk, rfl, rfl, hown2, hchg, hnew⟩ := hrel
        have HW2 := Lib.hid hnew
        clear hnew
        have hb2 := HB.out.chg hchg (by simp)
        have e1 := hb2.cell 1
        simp at e1
        obtain ⟨ad, Ai, ci, rfl, hci, hri⟩ := ((HI.out).chg hchg (by simp)).at_ (HM.out.chg hchg (by simp)) HX.out
        by_cases hkx : k < x.length
        · obtain ⟨bd, y, rfl, hy, hcy⟩ := rd_byte hri hkx
          have HY := Lib.hid hy
          have HRI := Lib.hid hri
          clear hri hy
          go_wp2_with (at_builtin; refine wpList_app rfl _ _ rfl etyBytes rfl (hown2.chg ((Chg.refl [] wr).alloc _) (by simp)) rfl (Own.lit wr 5 1 #[.int .u8 y] 1 (by decide) rfl).rd (one_int _ _) (by unfold maxLen; omega) (by omega) ?_; intro A3 c3 w3 hown3 hchg3 hnew3 _)
          go_roundw
          case rel =>
            refine ⟨k + 1, A3, c3, by omega, rfl, by go_num, ?_, (hchg.alloc _).trans hchg3 (fun y hy => .inr (HW2.out y hy)), fun y hy => ?_⟩
            · rw [take_snoc x k y HY.out]
              simpa [List.append_assoc, Nat.add_assoc] using hown3
            · rcases hnew3 y hy with h1 | h1
              · exact HW2.out y h1
              · have h2 := hchg.size; simp at h1; omega
          case measure => simp [intOf]; omega
        · have HRI := Lib.hid hri
          clear hri
          go_wp2
          go_roundw
          case rel =>
            have hkk : k = x.length := by omega
            subst hkk
            refine ⟨i + 1, N + x.length, A2, c2, by omega, rfl, by go_num, by rw [take_flat ws i x HX.out, List.length_append]; have := HN.out; omega, ?_, hchg, HW2.out⟩
            rw [take_flat ws i x HX.out]
            rw [List.take_of_length_le (Nat.le_refl _)] at hown2
            simpa [List.append_assoc] using hown2
          case measure => simp [intOf]; omega
    · go_wp2
      go_ret
      have him : ws.take i = ws := List.take_of_length_le (by have := HG.out.2; omega)
      have hown5 := hown
      have hN5 := HN.out
      rw [him] at hown5 hN5
      rw [List.length_append, ← hN5]
      exact ⟨A', c', rfl, hown5, hchg, HW.out⟩

set_option maxRecDepth 100000 in
set_option maxHeartbeats 1600000 in
theorem rsync_any (g : Nat) (L : List Nat) (base : List Int) (ws : List (List Int)) (w : World) (h : Rsp w g L base ws) (hlen : base.length + ws.flatten.length ≤ 1073741824) (hwl : ws.length ≤ 1073741824) :
    Calls Tryz.prog 89 #[.pointer (some ⟨g, 0, none⟩)] w (RspTo w g L (base ++ ws.flatten) []) := by
  have HS := Lib.hid h
  obtain ⟨A, n, c, W, m, dm, vs, hb, h1, h2, h3, h4, h5, h6, h7, h8, h9⟩ := h
  have HB := Lib.hid hb
  have HO := Lib.hid (show g ∈ L ∧ ∀ k ∈ L, k < w.heap.size from ⟨h4, h7⟩)
  clear hb h1 h2 h3 h4 h5 h6 h7 h8 h9
  obtain ⟨N, hN⟩ : ∃ N, (base ++ ws.flatten).length = N := ⟨_, rfl⟩
  have HN := Lib.hid hN
  clear hN
  go_enter Tryz.func89, Tryz.ntmps89
  go_wp2_with (go_at_call 56; refine (rseen_any g L base ws _ HS.out hlen hwl N HN.out).mono ?_; rintro e w1 ⟨A1, c1, rfl, hown, hchg, hnew⟩; have hb1 := HB.out.chg hchg (by simp); have d0 := hb1.cell 0; have d1 := hb1.cell 1; have f0 := hb1.frozen 0; have f1 := hb1.frozen 1; simp at d0 d1; have gl := hb1.lt)
  go_end0
  have HN := HN.out
  obtain ⟨h4, h7⟩ := HO.out
  have sz := hchg.size
  have hb2 := ((hb1.set_ 0 (.slice A1 N c1)).set_ 1 (.slice (some ⟨w1.heap.size, 0, none⟩) 0 0)).alloc (.cells #[] 31)
  have hc1 : Chg [g] w1 ((w1.setCell ⟨g, 0, none⟩ (.slice A1 N c1)).setCell ⟨g, 1, none⟩ (.slice (some ⟨w1.heap.size, 0, none⟩) 0 0)) := ((Chg.refl [g] w1).setCell (by simp) _).setCell (by simp) _
  have hc := hc1.alloc (.cells #[] 31)
  have ho : Own _ 31 1 _ 0 0 [] := Own.lit ((w1.setCell ⟨g, 0, none⟩ (.slice A1 N c1)).setCell ⟨g, 1, none⟩ (.slice (some ⟨w1.heap.size, 0, none⟩) 0 0)) 31 1 #[] 0 (by decide) rfl
  have hsz : ((w1.setCell ⟨g, 0, none⟩ (.slice A1 N c1)).setCell ⟨g, 1, none⟩ (.slice (some ⟨w1.heap.size, 0, none⟩) 0 0)).heap.size = w1.heap.size := by simp [World.setCell]
  rw [hsz] at ho
  refine ⟨w1.heap.size :: (bo A1 ++ L), rfl, ⟨A1, N, c1, _, 0, 0, [], by simpa using hb2, hown.chg hc (fun j hj hh => hown.blk_ne hb1 (by decide) j hj (by simpa using hh)), ho, ⟨rfl, fun i x hx => by simp at hx⟩, by simp [h4], fun j hj => by simp [hj], by simp, ?_, HN.symm, rfl⟩, ?_, ?_⟩
  · intro j hj
    have e1 : ((((w1.setCell ⟨g, 0, none⟩ (.slice A1 N c1)).setCell ⟨g, 1, none⟩ (.slice (some ⟨w1.heap.size, 0, none⟩) 0 0))).alloc (.cells #[] 31)).heap.size = w1.heap.size + 1 := by simp [World.setCell]
    rw [e1]
    simp only [List.mem_cons, List.mem_append] at hj
    rcases hj with rfl | hj | hj
    · omega
    · have := hown.lt j hj; omega
    · have := h7 j hj; omega
  · exact (hchg.nil L).trans hc (fun x hx => .inl (by simp at hx; subst hx; exact h4))
  · intro j hj
    simp only [List.mem_cons, List.mem_append] at hj
    rcases hj with rfl | hj | hj
    · exact .inr sz
    · exact .inr (hnew j hj)
    · exact .inl hj
end Go.Proofs.YtgomofeidghmiaaGreat

namespace Go.Proofs.YtgomofeidghmiaaGreat
open Go.RowKit

def rout (out : List Int) : List (List Int) → List Bool → List Int
  | [], _ => out
  | x :: r, ks => rout (out ++ if ks.headD false then x else List.replicate x.length 0) r ks.tail
def rend (at' e : Nat) : List (List Int) → List Bool → Nat
  | [], _ => e
  | x :: r, ks => rend (at' + x.length) (if ks.headD false then at' + x.length else e) r ks.tail

theorem rout_snoc (out : List Int) (ws : List (List Int)) (x : List Int) (ks : List Bool) :
    rout out (ws ++ [x]) ks = rout out ws ks ++ if ks[ws.length]?.getD false then x else List.replicate x.length 0 := by
  induction ws generalizing out ks with
  | nil => cases ks <;> simp [rout]
  | cons y r ih =>
    simp only [List.cons_append, rout, ih]
    cases ks with
    | nil => simp
    | cons k ks => simp only [List.tail_cons, List.length_cons, List.getElem?_cons_succ]; rfl
theorem rend_snoc (a e : Nat) (ws : List (List Int)) (x : List Int) (ks : List Bool) :
    rend a e (ws ++ [x]) ks = if ks[ws.length]?.getD false then a + ws.flatten.length + x.length else rend a e ws ks := by
  induction ws generalizing a e ks with
  | nil => cases ks <;> simp [rend]
  | cons y r ih =>
    simp only [List.cons_append, rend, ih]
    cases ks with
    | nil => simp
    | cons k ks => simp [Nat.add_assoc]
theorem rout_length (out : List Int) (ws : List (List Int)) (ks : List Bool) : (rout out ws ks).length = out.length + ws.flatten.length := by
  induction ws generalizing out ks with
  | nil => simp [rout]
  | cons y r ih =>
    simp only [rout, ih, List.flatten_cons, List.length_append]
    split <;> simp <;> omega
theorem rend_le (a e : Nat) (ws : List (List Int)) (ks : List Bool) (h : e ≤ a) : rend a e ws ks ≤ a + ws.flatten.length := by
  induction ws generalizing a e ks with
  | nil => simpa [rend] using h
  | cons y r ih =>
    simp only [rend, List.flatten_cons, List.length_append]
    have : (if ks.headD false then a + y.length else e) ≤ a + y.length := by split <;> omega
    have := ih _ _ ks.tail this
    omega

/-- the program's After is the document's -/
theorem aft_eq (ws : List (List Int)) : ∀ (R : List Int) (E : Nat) (ks : List Bool), E ≤ R.length → R.drop E = List.replicate (R.length - E) 0 →
    aft (R.take E) R.length ws ks = (rout R ws ks).take (rend R.length E ws ks) := by
  induction ws with
  | nil => intro R E ks _ _; rfl
  | cons x r ih =>
    intro R E ks hE hz
    simp only [aft, rout, rend]
    cases hk : ks.headD false with
    | true =>
      have hR : R.take E ++ List.replicate (R.length - (R.take E).length) 0 ++ x = R ++ x := by
        rw [List.length_take, Nat.min_eq_left hE, ← hz, List.take_append_drop]
      have := ih (R ++ x) (R ++ x).length ks.tail (Nat.le_refl _) (by simp)
      rw [List.take_length] at this
      simp only [if_true, hR]
      rw [List.length_append] at this
      exact this
    | false =>
      have := ih (R ++ List.replicate x.length 0) E ks.tail (by simp; omega) (by
        rw [List.drop_append_of_le_length hE, hz, List.replicate_append_replicate]
        congr 1; simp; omega)
      rw [List.take_append_of_le_length hE, List.length_append, List.length_replicate] at this
      simpa using this
theorem aft_ref (base : List Int) (ws : List (List Int)) (ks : List Bool) : aft base base.length ws ks = (rout base ws ks).take (rend base.length base.length ws ks) := by
  have := aft_eq ws base base.length ks (Nat.le_refl _) (by simp)
  rwa [List.take_length] at this

set_option maxRecDepth 100000 in
set_option maxHeartbeats 3200000 in
theorem rafter_any (g : Nat) (L : List Nat) (base : List Int) (ws : List (List Int)) (K : Option Addr) (kn kc : Nat) (ks : List Bool) (w : World) (h : Rsp w g L base ws) (hlen : base.length + ws.flatten.length ≤ 1073741824)
    (hwl : ws.length ≤ 1073741824) (hkn : kn ≤ 1073741824) (hkd : Rd w 1 K kn kc (kv ks)) (N0 : Nat) (hN0 : (aft base base.length ws ks).length = N0) :
    Calls Tryz.prog 62 #[.pointer (some ⟨g, 0, none⟩), .slice K kn kc] w (NewRow 5 1 w (bv (aft base base.length ws ks)) N0) := by
  obtain ⟨A, n, c, W, m, dm, vs, hb, h1, h2, h3, h4, h5, h6, h7, h8, h9⟩ := h
  have n63 : n ≤ 1073741824 := by omega
  have m63 : m ≤ 1073741824 := by omega
  have hkl : ks.length = kn := by have := hkd.1; simp at this; omega
  have HO := Lib.hid h1
  have HM := Lib.hid h2
  have HI := Lib.hid h3
  have HE := Lib.hid (show n = base.length ∧ m = ws.length ∧ ks.length = kn ∧ (aft base base.length ws ks).length = N0 from ⟨h8, h9, hkl, hN0⟩)
  have HB := Lib.hid hb
  have HL := Lib.hid hlen
  have HK := Lib.hid hkd
  have c0 := hb.cell 0
  simp at c0
  clear h1 h2 h3 h4 h5 h6 h7 h8 h9 hb hwl hlen hkd hkl hN0
  go_enter Tryz.func62, Tryz.ntmps62
  go_wp2_with (go_at_call 91; refine (copy_any A n c base _ n63 HO.out.rd).mono ?_; rintro e w1 ⟨A1, c1, rfl, hown, hchg, hnew⟩)
  obtain ⟨hn, hm, hkl, hN0⟩ := HE.out
  clear c0
  go_loopw [5, 6, 7, 8] (fun o t e q wr => ∃ (i T E : Nat) (A' : Option Addr) (c' : Nat), i ≤ m ∧ o = .slice A' T c' ∧ t = .int .i64 T ∧ e = .int .i64 E ∧ q = .int .i64 i ∧ T = base.length + (ws.take i).flatten.length ∧ E = rend base.length base.length (ws.take i) ks ∧
    Own wr 5 1 A' T c' (bv (rout base (ws.take i) ks)) ∧ Chg [] w wr ∧ (∀ k ∈ bo A', w.heap.size ≤ k)) (fun _ _ _ q _ => m - (intOf q).toNat)
  case atStart => exact ⟨0, n, n, A1, c1, Nat.zero_le _, rfl, rfl, rfl, rfl, by simp [hn], by simp [rend, hn], by simpa [rout] using hown, hchg, hnew⟩
  case round =>
    obtain ⟨i, T, E, A', c', hi, rfl, rfl, rfl, rfl, hT, hE, hown, hchg, hnew⟩ := hrel
    have HT := Lib.hid (show T = base.length + (ws.take i).flatten.length ∧ E = rend base.length base.length (ws.take i) ks from ⟨hT, hE⟩)
    have HW := Lib.hid hnew
    have HG := Lib.hid (show n = base.length ∧ m = ws.length ∧ ks.length = kn ∧ (aft base base.length ws ks).length = N0 from ⟨hn, hm, hkl, hN0⟩)
    have hb1 := HB.out.chg hchg (by simp)
    have c1' := hb1.cell 1
    simp at c1'
    by_cases hlt : i < m
    · obtain ⟨x, hx⟩ : ∃ x, ws[i]? = some x := ⟨_, List.getElem?_eq_getElem (by omega)⟩
      have hfl := take_flat ws i x hx
      have hle := take_flat_le ws (i + 1)
      rw [hfl, List.length_append] at hle
      have q1 : T + x.length ≤ 1073741824 := by have := HL.out; omega
      have HX := Lib.hid hx
      have hil : (ws.take i).length = i := by rw [List.length_take]; omega
      have HIL := Lib.hid hil
      clear hx hfl hle hnew hn hm hT hE hkl hN0 hil
      obtain ⟨wo, hwo⟩ : ∃ wo : World, wo = wr := ⟨_, rfl⟩
      subst hwo
      have HC := Lib.hid hchg
      clear hchg
      have inner : ∀ (b : Bool) (row : List Int), row = (if b then x else List.replicate x.length 0) → row.length = x.length := by
        intro b row hr; subst hr; cases b <;> simp
      have closing : ∀ (b : Bool), ks[i]?.getD false = b → ∀ (A2 : Option Addr) (c2 : Nat) (w2 : World), Own w2 5 1 A2 (T + x.length) c2 (bv (rout base (ws.take i) ks ++ (if b then x else List.replicate x.length 0))) → Chg [] w w2 → (∀ k ∈ bo A2, w.heap.size ≤ k) →
          T + x.length = base.length + (ws.take (i + 1)).flatten.length ∧ (if b then T + x.length else E) = rend base.length base.length (ws.take (i + 1)) ks ∧ Own w2 5 1 A2 (T + x.length) c2 (bv (rout base (ws.take (i + 1)) ks)) := by
        intro b hb A2 c2 w2 ho _ _
        obtain ⟨hT, hE⟩ := HT.out
        rw [take_snoc ws i x HX.out, flat_snoc, rout_snoc, rend_snoc, HIL.out, hb]
        refine ⟨by omega, ?_, ho⟩
        cases b
        · rw [if_neg (by decide), if_neg (by decide)]; exact hE
        · rw [if_pos rfl, if_pos rfl]; omega
      have HCL := Lib.hid closing
      clear inner closing
      by_cases hki : i < kn
      · obtain ⟨kd, b, rfl, hkb, hck⟩ := rd_bool (HK.out.chg HC.out (by simp)) hki
        have HKB : Hid (ks[i]?.getD false = b) := Lib.hid (by rw [hkb]; rfl)
        clear hkb
        cases b with
        | true =>
          go_wp2
          go_loopw [5, 6, 10] (fun o t q wr => ∃ (k : Nat) (A2 : Option Addr) (c2 : Nat), k ≤ x.length ∧ o = .slice A2 (T + k) c2 ∧ t = .int .i64 ((T + k : Nat) : Int) ∧ q = .int .i64 k ∧
            Own wr 5 1 A2 (T + k) c2 (bv (rout base (ws.take i) ks ++ x.take k)) ∧ Chg [] w wr ∧ (∀ k ∈ bo A2, w.heap.size ≤ k)) (fun _ _ q _ => x.length - (intOf q).toNat)
          case atStart => exact ⟨0, A', c', Nat.zero_le _, rfl, rfl, rfl, by simpa using hown, HC.out, HW.out⟩
          case round =>
            obtain ⟨k, A2, c2, hk, rfl, rfl, rfl, hown2, hchg, hnew⟩ := hrel
            have HW2 := Lib.hid hnew
            clear hnew
            have hb2 := HB.out.chg hchg (by simp)
            have e1 := hb2.cell 1
            simp at e1
            obtain ⟨ad, Ai, ci, rfl, hci, hri⟩ := ((HI.out).chg hchg (by simp)).at_ (HM.out.chg hchg (by simp)) HX.out
            by_cases hkx : k < x.length
            · obtain ⟨bd, y, rfl, hy, hcy⟩ := rd_byte hri hkx
              have HY := Lib.hid hy
              have HRI := Lib.hid hri
              clear hri hy
              go_wp2_with (at_builtin; refine wpList_app rfl _ _ rfl etyBytes rfl (hown2.chg ((Chg.refl [] wr).alloc _) (by simp)) rfl (Own.lit wr 5 1 #[.int .u8 y] 1 (by decide) rfl).rd (one_int _ _) (by unfold maxLen; omega) (by omega) ?_; intro A3 c3 w3 hown3 hchg3 hnew3 _)
              go_roundw
              case rel =>
                refine ⟨k + 1, A3, c3, by omega, rfl, by go_num, by go_num, ?_, (hchg.alloc _).trans hchg3 (fun y hy => .inr (HW2.out y hy)), fun y hy => ?_⟩
                · rw [take_snoc x k y (HY.out)]
                  simpa [List.append_assoc, Nat.add_assoc] using hown3
                · rcases hnew3 y hy with h1 | h1
                  · exact HW2.out y h1
                  · have h2 := hchg.size; simp at h1; omega
              case measure => simp [intOf]; omega
            · have HRI := Lib.hid hri
              clear hri
              go_wp2
              go_roundw
              case rel =>
                have hkk : k = x.length := by omega
                subst hkk
                rw [List.take_of_length_le (l := x) (i := x.length) (by simp)] at hown2
                obtain ⟨z1, z2, z3⟩ := HCL.out true HKB.out A2 c2 _ hown2 hchg HW2.out
                exact ⟨i + 1, T + x.length, T + x.length, A2, c2, by omega, rfl, rfl, rfl, by go_num, z1, z2, z3, hchg, HW2.out⟩
              case measure => simp [intOf]; omega
        | false =>
          go_wp2
          go_loopw [5, 6, 10] (fun o t q wr => ∃ (k : Nat) (A2 : Option Addr) (c2 : Nat), k ≤ x.length ∧ o = .slice A2 (T + k) c2 ∧ t = .int .i64 ((T + k : Nat) : Int) ∧ q = .int .i64 k ∧
            Own wr 5 1 A2 (T + k) c2 (bv (rout base (ws.take i) ks ++ (List.replicate x.length (0 : Int)).take k)) ∧ Chg [] w wr ∧ (∀ k ∈ bo A2, w.heap.size ≤ k)) (fun _ _ q _ => x.length - (intOf q).toNat)
          case atStart => exact ⟨0, A', c', Nat.zero_le _, rfl, rfl, rfl, by simpa using hown, HC.out, HW.out⟩
          case round =>
            obtain ⟨k, A2, c2, hk, rfl, rfl, rfl, hown2, hchg, hnew⟩ := hrel
            have HW2 := Lib.hid hnew
            clear hnew
            have hb2 := HB.out.chg hchg (by simp)
            have e1 := hb2.cell 1
            simp at e1
            obtain ⟨ad, Ai, ci, rfl, hci, hri⟩ := ((HI.out).chg hchg (by simp)).at_ (HM.out.chg hchg (by simp)) HX.out
            by_cases hkx : k < x.length
            · obtain ⟨bd, y, rfl, hy, hcy⟩ := rd_byte hri hkx
              have HY := Lib.hid hy
              have HRI := Lib.hid hri
              clear hri hy
              go_wp2_with (at_builtin; refine wpList_app rfl _ _ rfl etyBytes rfl (hown2.chg ((Chg.refl [] wr).alloc _) (by simp)) rfl (Own.lit wr 5 1 #[.int .u8 0] 1 (by decide) rfl).rd (one_int _ _) (by unfold maxLen; omega) (by omega) ?_; intro A3 c3 w3 hown3 hchg3 hnew3 _)
              go_roundw
              case rel =>
                refine ⟨k + 1, A3, c3, by omega, rfl, by go_num, by go_num, ?_, (hchg.alloc _).trans hchg3 (fun y hy => .inr (HW2.out y hy)), fun y hy => ?_⟩
                · rw [take_snoc (List.replicate x.length (0 : Int)) k 0 (by simp [hkx])]
                  simpa [List.append_assoc, Nat.add_assoc] using hown3
                · rcases hnew3 y hy with h1 | h1
                  · exact HW2.out y h1
                  · have h2 := hchg.size; simp at h1; omega
              case measure => simp [intOf]; omega
            · have HRI := Lib.hid hri
              clear hri
              go_wp2
              go_roundw
              case rel =>
                have hkk : k = x.length := by omega
                subst hkk
                rw [List.take_of_length_le (l := (List.replicate x.length (0 : Int))) (i := x.length) (by simp)] at hown2
                obtain ⟨z1, z2, z3⟩ := HCL.out false HKB.out A2 c2 _ hown2 hchg HW2.out
                exact ⟨i + 1, T + x.length, E, A2, c2, by omega, rfl, rfl, rfl, by go_num, z1, z2, z3, hchg, HW2.out⟩
              case measure => simp [intOf]; omega
      · have HKB : Hid (ks[i]?.getD false = false) := Lib.hid (by rw [List.getElem?_eq_none (by have := HG.out.2.2.1; omega)]; rfl)
        go_wp2
        go_loopw [5, 6, 10] (fun o t q wr => ∃ (k : Nat) (A2 : Option Addr) (c2 : Nat), k ≤ x.length ∧ o = .slice A2 (T + k) c2 ∧ t = .int .i64 ((T + k : Nat) : Int) ∧ q = .int .i64 k ∧
          Own wr 5 1 A2 (T + k) c2 (bv (rout base (ws.take i) ks ++ (List.replicate x.length (0 : Int)).take k)) ∧ Chg [] w wr ∧ (∀ k ∈ bo A2, w.heap.size ≤ k)) (fun _ _ q _ => x.length - (intOf q).toNat)
        case atStart => exact ⟨0, A', c', Nat.zero_le _, rfl, rfl, rfl, by simpa using hown, HC.out, HW.out⟩
        case round =>
          obtain ⟨k, A2, c2, hk, rfl, rfl, rfl, hown2, hchg, hnew⟩ := hrel
          have HW2 := Lib.hid hnew
          clear hnew
          have hb2 := HB.out.chg hchg (by simp)
          have e1 := hb2.cell 1
          simp at e1
          obtain ⟨ad, Ai, ci, rfl, hci, hri⟩ := ((HI.out).chg hchg (by simp)).at_ (HM.out.chg hchg (by simp)) HX.out
          by_cases hkx : k < x.length
          · obtain ⟨bd, y, rfl, hy, hcy⟩ := rd_byte hri hkx
            have HY := Lib.hid hy
            have HRI := Lib.hid hri
            clear hri hy
            go_wp2_with (at_builtin; refine wpList_app rfl _ _ rfl etyBytes rfl (hown2.chg ((Chg.refl [] wr).alloc _) (by simp)) rfl (Own.lit wr 5 1 #[.int .u8 0] 1 (by decide) rfl).rd (one_int _ _) (by unfold maxLen; omega) (by omega) ?_; intro A3 c3 w3 hown3 hchg3 hnew3 _)
            go_roundw
            case rel =>
              refine ⟨k + 1, A3, c3, by omega, rfl, by go_num, by go_num, ?_, (hchg.alloc _).trans hchg3 (fun y hy => .inr (HW2.out y hy)), fun y hy => ?_⟩
              · rw [take_snoc (List.replicate x.length (0 : Int)) k 0 (by simp [hkx])]
                simpa [List.append_assoc, Nat.add_assoc] using hown3
              · rcases hnew3 y hy with h1 | h1
                · exact HW2.out y h1
                · have h2 := hchg.size; simp at h1; omega
            case measure => simp [intOf]; omega
          · have HRI := Lib.hid hri
            clear hri
            go_wp2
            go_roundw
            case rel =>
              have hkk : k = x.length := by omega
              subst hkk
              rw [List.take_of_length_le (l := (List.replicate x.length (0 : Int))) (i := x.length) (by simp)] at hown2
              obtain ⟨z1, z2, z3⟩ := HCL.out false HKB.out A2 c2 _ hown2 hchg HW2.out
              exact ⟨i + 1, T + x.length, E, A2, c2, by omega, rfl, rfl, rfl, by go_num, z1, z2, z3, hchg, HW2.out⟩
            case measure => simp [intOf]; omega
    · have q5 : E ≤ T := by
        have := rend_le base.length base.length (ws.take i) ks (Nat.le_refl _)
        omega
      have q6 := hown.rd.2.1
      have him : ws.take i = ws := List.take_of_length_le (by omega)
      have HO5 : Hid (Own wr 5 1 A' T c' (bv (rout base ws ks)) ∧ E = rend base.length base.length ws ks) := Lib.hid (by rw [him] at hown hE; exact ⟨hown, hE⟩)
      clear hn hm hT hE hkl hN0 him hown hnew
      go_wp2
      go_ret
      obtain ⟨ho, hE⟩ := HO5.out
      have h0 := HG.out.2.2.2
      have hr := ho.cut q5
      rw [aft_ref] at h0 ⊢
      rw [Nat.mul_one, hE, ← List.map_take] at hr
      have hEN : rend base.length base.length ws ks = N0 := by
        rw [← h0, List.length_take, ← hE]
        have := ho.1
        simp at this
        omega
      rw [hEN] at hr ⊢
      have hEE : E = N0 := by omega
      subst hEE
      exact ⟨A', c', rfl, hr, hchg, HW.out⟩
end Go.Proofs.YtgomofeidghmiaaGreat
