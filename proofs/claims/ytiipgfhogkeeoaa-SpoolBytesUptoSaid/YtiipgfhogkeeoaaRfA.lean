/-
  The document's Spool (satchelref07): New, Append, Seen, Sync: contracts.
-/
import Derived.Test.YtiipgfhogkeeoaaSpE
import Derived.Deep.RegionHeld3
namespace Go.Proofs.Ytiipgfhogkeeoaa
open Go.RowKit

theorem etyBytess : Ety Try.prog 37 22 1 24 (.slice none 0 0) := .mk' Try.underlying37 (by kernel_rfl) rfl (by decide)

/-- each of the rows is owned and reads as its list; all their blocks are in L -/
def Inn (w : World) (L : List Nat) (vs : List Value) (ws : List (List Int)) : Prop :=
  vs.length = ws.length ∧ ∀ (i : Nat) (x : List Int), ws[i]? = some x → ∃ A c, vs[i]? = some (.slice A x.length c) ∧ Own w 5 1 A x.length c (bv x) ∧ ∀ k ∈ bo A, k ∈ L

theorem Inn.chg {w w' : World} {L M : List Nat} {vs : List Value} {ws : List (List Int)} (h : Inn w L vs ws) (hc : Chg M w w') (hn : ∀ k ∈ L, k ∈ M → ∃ t cs, Blk w k t cs ∧ t ≠ 5) : Inn w' L vs ws :=
  ⟨h.1, fun i x hx => by
    obtain ⟨A, c, h1, h2, h3⟩ := h.2 i x hx
    refine ⟨A, c, h1, h2.chg hc (fun k hk hm => ?_), h3⟩
    obtain ⟨t, cs, hb, ht⟩ := hn k (h3 k hk) hm
    exact h2.blk_ne hb ht k hk rfl⟩
theorem Inn.mono {w : World} {L M : List Nat} {vs : List Value} {ws : List (List Int)} (h : Inn w L vs ws) (hs : ∀ k ∈ L, k ∈ M) : Inn w M vs ws :=
  ⟨h.1, fun i x hx => by obtain ⟨A, c, h1, h2, h3⟩ := h.2 i x hx; exact ⟨A, c, h1, h2, fun k hk => hs k (h3 k hk)⟩⟩
theorem Inn.snoc {w : World} {L : List Nat} {vs : List Value} {ws : List (List Int)} {A : Option Addr} {c : Nat} {x : List Int} (h : Inn w L vs ws) (ho : Own w 5 1 A x.length c (bv x)) (hk : ∀ k ∈ bo A, k ∈ L) :
    Inn w L (vs ++ [.slice A x.length c]) (ws ++ [x]) := by
  refine ⟨by simp [h.1], fun i y hy => ?_⟩
  by_cases hi : i < ws.length
  · rw [List.getElem?_append_left hi] at hy
    obtain ⟨A', c', h1, h2, h3⟩ := h.2 i y hy
    exact ⟨A', c', by rw [List.getElem?_append_left (by rw [h.1]; exact hi)]; exact h1, h2, h3⟩
  · rw [List.getElem?_append_right (by omega)] at hy
    by_cases h0 : i - ws.length = 0
    · rw [h0] at hy
      simp at hy
      subst hy
      refine ⟨A, c, ?_, ho, hk⟩
      rw [List.getElem?_append_right (by rw [h.1]; omega), h.1, h0]
      rfl
    · rw [List.getElem?_eq_none (by simp; omega)] at hy
      cases hy

/-- the document's Spool in block g; its blocks are in L -/
def Rsp (w : World) (g : Nat) (L : List Nat) (base : List Int) (ws : List (List Int)) : Prop :=
  ∃ A n c W m d vs, Blk w g 39 #[.slice A n c, .slice W m d] ∧ Own w 5 1 A n c (bv base) ∧ Own w 22 1 W m d vs ∧ Inn w L vs ws ∧
    g ∈ L ∧ (∀ k ∈ bo A, k ∈ L) ∧ (∀ k ∈ bo W, k ∈ L) ∧ (∀ k ∈ L, k < w.heap.size) ∧ n = base.length ∧ m = ws.length

theorem Rsp.lt {w : World} {g : Nat} {L : List Nat} {base : List Int} {ws : List (List Int)} (h : Rsp w g L base ws) : ∀ k ∈ L, k < w.heap.size := by
  obtain ⟨A, n, c, W, m, d, vs, hb, h1, h2, h3, h4, h5, h6, h7, _⟩ := h
  exact h7
theorem Rsp.chg {w w' : World} {g : Nat} {L M : List Nat} {base : List Int} {ws : List (List Int)} (h : Rsp w g L base ws) (hc : Chg M w w') (hn : ∀ k ∈ L, k ∉ M) : Rsp w' g L base ws := by
  obtain ⟨A, n, c, W, m, d, vs, hb, h1, h2, h3, h4, h5, h6, h7, h8⟩ := h
  exact ⟨A, n, c, W, m, d, vs, hb.chg hc (hn g h4), h1.chg hc (fun k hk => hn k (h5 k hk)), h2.chg hc (fun k hk => hn k (h6 k hk)), h3.chg hc (fun k hk hm => absurd hm (hn k hk)), h4, h5, h6, fun k hk => Nat.lt_of_lt_of_le (h7 k hk) hc.size, h8⟩

def NewRsp (w : World) (zs : List Int) (e : Ending) (w' : World) : Prop :=
  ∃ g L, e = .returned (.pointer (some ⟨g, 0, none⟩)) ∧ Rsp w' g L zs [] ∧ Chg [] w w' ∧ ∀ k ∈ L, w.heap.size ≤ k

theorem zero22 (w : World) : (zeroValue 37).run Try.prog w = .ok (.slice none 0 0) w := by kernel_rfl

set_option maxHeartbeats 800000 in
theorem rnew_any (A : Option Addr) (n c : Nat) (zs : List Int) (w : World) (hn : n ≤ 1073741824) (hrd : Rd w 1 A n c (bv zs)) :
    Calls Try.prog 13 #[.slice A n c] w (NewRsp w zs) := by
  have hl : zs.length = n := by have := hrd.1; simp at this; omega
  have HL := Lib.hid hl
  clear hl
  go_enter Try.func13, Try.ntmps13
  go_wp2_with (go_at_call 9; refine (copy_any A n c zs _ hn hrd).mono ?_; rintro e w1 ⟨A1, c1, rfl, hown, hchg, hnew⟩)
  go_ret
  have hsz := hchg.size
  refine ⟨w1.heap.size, w1.heap.size :: bo A1, rfl, ⟨A1, n, c1, none, 0, 0, [], Blk.new w1 39 _, hown.chg ((Chg.refl [] w1).alloc _) (by simp), Own.nil _ _ _, ⟨rfl, fun i x hx => by simp at hx⟩, by simp, fun k hk => by simp [hk], by simp, ?_, HL.out.symm, rfl⟩, hchg.alloc _, ?_⟩
  · intro k hk
    simp at hk ⊢
    rcases hk with rfl | hk
    · omega
    · have := hown.lt k hk; omega
  · intro k hk
    simp at hk
    rcases hk with rfl | hk
    · omega
    · exact hnew k hk

def RspTo (w : World) (g : Nat) (L : List Nat) (base : List Int) (ws : List (List Int)) (e : Ending) (w' : World) : Prop :=
  ∃ L', e = .returned (.tuple #[]) ∧ Rsp w' g L' base ws ∧ Chg L w w' ∧ ∀ k ∈ L', k ∈ L ∨ w.heap.size ≤ k

theorem rappend_nil (g : Nat) (L : List Nat) (base : List Int) (ws : List (List Int)) (B : Option Addr) (d : Nat) (w : World) (h : Rsp w g L base ws) :
    Calls Try.prog 15 #[.pointer (some ⟨g, 0, none⟩), .slice B 0 d] w (RspTo w g L base ws) := by
  go_enter Try.func15, Try.ntmps15
  go_wp2
  go_end0
  exact ⟨L, rfl, h, Chg.refl _ _, fun k hk => .inl hk⟩

theorem rapp_close {g : Nat} {L : List Nat} {base : List Int} {ws : List (List Int)} {k : Nat} {xs : List Int} {w w1 w3 : World} {A W A1 A2 : Option Addr} {n c m dm cc1 cc2 : Nat} {vs : List Value} {o : Obj}
    (HI : Inn w L vs ws ∧ g ∈ L ∧ (∀ k ∈ bo A, k ∈ L) ∧ (∀ k ∈ bo W, k ∈ L) ∧ (∀ k ∈ L, k < w.heap.size) ∧ n = base.length ∧ m = ws.length)
    (HO : Own w 5 1 A n c (bv base)) (HM : Own w 22 1 W m dm vs) (HX : xs.length = k) (hown1 : Own w1 5 1 A1 k cc1 (bv xs)) (hchg1 : Chg [] w.drew w1) (hnew1 : ∀ k ∈ bo A1, w.heap.size ≤ k)
    (hown2 : Own w3 22 1 A2 (m + 1) cc2 (vs ++ [.slice A1 k cc1])) (hchg2 : Chg (bo W) (w1.alloc o) w3) (hnew2 : ∀ k ∈ bo A2, k ∈ bo W ∨ ((w1.alloc o).heap.size ≤ k ∧ k < w3.heap.size))
    (hb3 : Blk w3 g 39 #[.slice A n c, .slice W m dm]) :
    RspTo w g L base (ws ++ [xs]) (.returned (.tuple #[])) (w3.setCell ⟨g, 1, none⟩ (.slice A2 (m + 1) cc2)) := by
  obtain ⟨h3, h4, h5, h6, h7, h8, h9⟩ := HI
  subst HX
  have z1 : w.heap.size ≤ w1.heap.size := hchg1.size
  have z2 : w1.heap.size + 1 ≤ w3.heap.size := by have := hchg2.size; simpa using this
  have e1 : Chg [] w w1 := ((Chg.refl [] w).drew).trans0 hchg1
  have e2 : Chg (bo W) w w3 := ((e1.alloc o).nil _).trans hchg2 (fun x hx => .inl hx)
  have e3 : Chg [g] w3 (w3.setCell ⟨g, 1, none⟩ (.slice A2 (m + 1) cc2)) := (Chg.refl [g] w3).setCell (by simp) _
  have HM1 := HM.chg e1 (by simp)
  have o1 : Own w3 5 1 A1 xs.length cc1 (bv xs) := (hown1.chg ((Chg.refl [] w1).alloc o) (by simp)).chg hchg2 (fun j hj hh => hown1.own_ne HM1 (by decide) j hj hh)
  have o2 : Own w3 5 1 A n c (bv base) := HO.chg e2 (fun j hj hh => HO.own_ne HM (by decide) j hj hh)
  have bW : ∀ j ∈ bo W, ∃ t cs, Blk w j t cs ∧ t ≠ 5 := fun j hj => by
    rcases HM.form with ⟨rfl, _⟩ | ⟨g', cur, rfl, hb', _⟩
    · simp at hj
    · simp at hj; subst hj; exact ⟨_, _, hb', by decide⟩
  refine ⟨bo A1 ++ (bo A2 ++ L), rfl, ⟨A, n, c, A2, m + 1, cc2, _, by simpa using hb3.set_ 1 (.slice A2 (m + 1) cc2), o2.chg e3 (fun j hj hh => o2.blk_ne hb3 (by decide) j hj (by simpa using hh)),
    hown2.chg e3 (fun j hj hh => hown2.blk_ne hb3 (by decide) j hj (by simpa using hh)), ?_, by simp [h4], fun j hj => by simp [h5 j hj], fun j hj => by simp [hj], ?_, h8, by simp [h9]⟩, ?_, ?_⟩
  · refine Inn.snoc (Inn.mono (((h3.chg e2 (fun j _ hm => bW j hm))).chg e3 (fun j _ hm => ⟨_, _, by simp at hm; subst hm; exact hb3, by decide⟩)) (fun j hj => by simp [hj])) ?_ (fun j hj => by simp [hj])
    exact o1.chg e3 (fun j hj hh => o1.blk_ne hb3 (by decide) j hj (by simpa using hh))
  · intro j hj
    have : w3.heap.size ≤ (w3.setCell ⟨g, 1, none⟩ (.slice A2 (m + 1) cc2)).heap.size := e3.size
    simp only [List.mem_append] at hj
    rcases hj with hj | hj | hj
    · have := o1.lt j hj; omega
    · have := hown2.lt j hj; omega
    · have := h7 j hj; omega
  · exact (e2.mono (fun x hx => .inl (h6 x hx))).trans e3 (fun x hx => .inl (by simp at hx; subst hx; exact h4))
  · intro j hj
    simp only [List.mem_append] at hj
    rcases hj with hj | hj | hj
    · exact .inr (hnew1 j hj)
    · rcases hnew2 j hj with h | h
      · exact .inl (h6 j h)
      · right; have := h.1; simp at this; omega
    · exact .inl hj

set_option maxHeartbeats 1600000 in
theorem rappend_some (g : Nat) (L : List Nat) (base : List Int) (ws : List (List Int)) (B : Option Addr) (k d : Nat) (xs : List Int) (w : World) (h : Rsp w g L base ws) (hk : 0 < k) (hk2 : k ≤ 1073741824)
    (hws : ws.length ≤ 1073741824) (hrd : Rd w 1 B k d (bv xs)) :
    Calls Try.prog 15 #[.pointer (some ⟨g, 0, none⟩), .slice B k d] w (RspTo w g L base (ws ++ [xs])) := by
  obtain ⟨A, n, c, W, m, dm, vs, hb, h1, h2, h3, h4, h5, h6, h7, h8, h9⟩ := h
  have m63 : m ≤ 1073741824 := by omega
  have HR := Lib.hid hrd
  have HO := Lib.hid h1
  have HM := Lib.hid h2
  have HI := Lib.hid (show Inn w L vs ws ∧ g ∈ L ∧ (∀ k ∈ bo A, k ∈ L) ∧ (∀ k ∈ bo W, k ∈ L) ∧ (∀ k ∈ L, k < w.heap.size) ∧ n = base.length ∧ m = ws.length from ⟨h3, h4, h5, h6, h7, h8, h9⟩)
  have HB := Lib.hid hb
  have c1 := hb.cell 1
  simp at c1
  have HX : Hid (xs.length = k) := Lib.hid (by have := hrd.1; simp at this; omega)
  clear hrd h1 h2 h3 h4 h5 h6 h7 h8 h9 hb hws
  go_enter Try.func15, Try.ntmps15
  go_wp2
  go_region_law (first
    | (refine step_app rfl _ _ rfl etyBytess rfl (HM1.out.chg ((Chg.refl [] w1).alloc _) (by simp)) rfl (Own.lit w1 22 1 #[.slice A1 k cc1] 1 (by decide) rfl).rd (by simp [Value.oneCell']) (by unfold maxLen; omega) (by omega) ?_; intro A2 cc2 w3 hown2 hchg2 hnew2 _; have hb3 := ((HB1.out).alloc _).chg hchg2 HG1.out; have x1 := hb3.cell 1; have y1 := hb3.frozen 1; simp at x1)
    | (go_simp; go_at_call 9; refine (copy_any B k d xs _ hk2 (HR.out.chg ((Chg.refl [] w).drew) (by simp))).mono ?_; rintro e w1 ⟨A1, cc1, rfl, hown1, hchg1, hnew1⟩; have HB1 := Lib.hid (HB.out.chg (((Chg.refl [] w).drew).trans0 hchg1) (by simp)); have HM1 := Lib.hid (HM.out.chg (((Chg.refl [] w).drew).trans0 hchg1) (by simp)); have HG1 : Hid (g ∉ bo W) := Lib.hid (fun hh => HM.out.blk_ne HB.out (by decide) g hh rfl); have d1 := HB1.out.cell 1; have d1a := fun o => (HB1.out.alloc o).cell 1; simp at d1 d1a))
  all_goals
    go_wp2
    go_end0
    exact rapp_close HI.out HO.out HM.out HX.out hown1 hchg1 hnew1 hown2 hchg2 hnew2 hb3
end Go.Proofs.Ytiipgfhogkeeoaa
