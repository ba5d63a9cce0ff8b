/-
  The program's Spool: its methods' contracts. The state: the safe bytes, and the pending writes one by one.
-/
import Derived.Test.YtgomofeidghmiaaSpB
import Derived.Test.YtgomofeidghmiaaMemZ
import Derived.Deep.RegionLaw
namespace Go.Proofs.Ytgomofeidghmiaa
open Go.RowKit

/-- where each pending write ends -/
def ends : Nat → List (List Int) → List Int
  | _, [] => []
  | b, x :: r => ((b + x.length : Nat) : Int) :: ends (b + x.length) r
theorem ends_length (b : Nat) (ws : List (List Int)) : (ends b ws).length = ws.length := by
  induction ws generalizing b with
  | nil => rfl
  | cons x r ih => simp [ends, ih]
theorem ends_snoc (b : Nat) (ws : List (List Int)) (x : List Int) : ends b (ws ++ [x]) = ends b ws ++ [((b + ws.flatten.length + x.length : Nat) : Int)] := by
  induction ws generalizing b with
  | nil => simp [ends]
  | cons y r ih => simp [ends, ih]; omega
theorem ends_at (b : Nat) (ws : List (List Int)) (i : Nat) (x : List Int) (h : ws[i]? = some x) : (ends b ws)[i]? = some (((b + (ws.take i).flatten.length + x.length : Nat) : Int)) := by
  induction ws generalizing b i with
  | nil => simp at h
  | cons y r ih =>
    cases i with
    | zero => simp at h; subst h; simp [ends]
    | succ i => simp at h; simp [ends, ih _ i h]; omega

theorem flat_snoc (ws : List (List Int)) (x : List Int) : (ws ++ [x]).flatten.length = ws.flatten.length + x.length := by
  rw [List.flatten_append, List.length_append]; simp

/-- the program's Spool in block g: L: its blocks -/
def Spo (w : World) (g : Nat) (L : List Nat) (base : List Int) (ws : List (List Int)) : Prop :=
  ∃ A n c M m d s, Blk w g 122 #[.slice A n c, .int .i64 (s : Nat), .slice M m d] ∧ Own w 5 1 A n c (bv (base ++ ws.flatten)) ∧
    Own w 3 1 M m d (iv (ends base.length ws)) ∧ L = g :: (bo A ++ bo M) ∧ n = base.length + ws.flatten.length ∧ m = ws.length ∧ s = base.length

theorem Spo.lt {w : World} {g : Nat} {L : List Nat} {base : List Int} {ws : List (List Int)} (h : Spo w g L base ws) : ∀ k ∈ L, k < w.heap.size := by
  obtain ⟨A, n, c, M, m, d, s, hb, h1, h2, rfl, _⟩ := h
  intro k hk
  simp only [List.mem_cons, List.mem_append] at hk
  rcases hk with rfl | hk | hk
  · exact hb.lt
  · exact h1.lt k hk
  · exact h2.lt k hk
theorem Spo.chg {w w' : World} {g : Nat} {L M : List Nat} {base : List Int} {ws : List (List Int)} (h : Spo w g L base ws) (hc : Chg M w w') (hn : ∀ k ∈ L, k ∉ M) : Spo w' g L base ws := by
  obtain ⟨A, n, c, M, m, d, s, hb, h1, h2, rfl, e⟩ := h
  exact ⟨A, n, c, M, m, d, s, hb.chg hc (hn g (by simp)), h1.chg hc (fun k hk => hn k (by simp [hk])), h2.chg hc (fun k hk => hn k (by simp [hk])), rfl, e⟩

/-- New: a Spool in new memory -/
def NewSpo (w : World) (zs : List Int) (e : Ending) (w' : World) : Prop :=
  ∃ g L, e = .returned (.pointer (some ⟨g, 0, none⟩)) ∧ Spo w' g L zs [] ∧ Chg [] w w' ∧ ∀ k ∈ L, w.heap.size ≤ k

set_option maxRecDepth 100000 in
set_option maxHeartbeats 800000 in
theorem new_any (A : Option Addr) (n c : Nat) (zs : List Int) (w : World) (hn : n ≤ 1073741824) (hrd : Rd w 1 A n c (bv zs)) :
    Calls Try.prog 38 #[.slice A n c] w (NewSpo w zs) := by
  have hl : zs.length = n := by have := hrd.1; simp at this; omega
  have HL := Lib.hid hl
  clear hl
  go_enter Try.func38, Try.ntmps38
  go_wp2_with (go_at_call 66; refine (clone_any A n c zs _ hn hrd).mono ?_; rintro e w1 ⟨A1, c1, rfl, hown, hchg, hnew⟩)
  go_ret
  have ho := HL.out
  subst ho
  refine ⟨w1.heap.size, _, rfl, ⟨A1, _, c1, none, 0, 0, _, Blk.new w1 122 _, ?_, ?_, rfl, ?_, rfl, rfl⟩, hchg.alloc _, ?_⟩
  · simpa using hown.chg ((Chg.refl [] w1).alloc _) (by simp)
  · exact Own.nil _ _ _
  · simp
  · have := hchg.size
    intro k hk
    simp at hk
    rcases hk with rfl | hk
    · exact this
    · exact hnew k hk

/-- what a call that changes a Spool leaves -/
def SpoTo (w : World) (g : Nat) (L : List Nat) (base : List Int) (ws : List (List Int)) (e : Ending) (w' : World) : Prop :=
  ∃ L', e = .returned (.tuple #[]) ∧ Spo w' g L' base ws ∧ Chg L w w' ∧ ∀ k ∈ L', k ∈ L ∨ w.heap.size ≤ k

theorem append_nil (g : Nat) (L : List Nat) (base : List Int) (ws : List (List Int)) (B : Option Addr) (d : Nat) (w : World) (h : Spo w g L base ws) :
    Calls Try.prog 61 #[.pointer (some ⟨g, 0, none⟩), .slice B 0 d] w (SpoTo w g L base ws) := by
  go_enter Try.func61, Try.ntmps61
  go_wp2
  go_end0
  exact ⟨L, rfl, h, Chg.refl _ _, fun k hk => .inl hk⟩

set_option maxRecDepth 100000 in
set_option maxHeartbeats 1600000 in
theorem append_some (g : Nat) (L : List Nat) (base : List Int) (ws : List (List Int)) (B : Option Addr) (k d : Nat) (xs : List Int) (w : World) (h : Spo w g L base ws) (hk : 0 < k) (hlen : base.length + ws.flatten.length + k ≤ 1073741824)
    (hws : ws.length ≤ 1073741824) (hrd : Rd w 1 B k d (bv xs)) :
    Calls Try.prog 61 #[.pointer (some ⟨g, 0, none⟩), .slice B k d] w (SpoTo w g L base (ws ++ [xs])) := by
  obtain ⟨A, n, c, M, m, dm, s, hb, h1, h2, rfl, hn, hm, hs⟩ := h
  have hlx : xs.length = k := by have := hrd.1; simp at this; omega
  have n63 : n + k ≤ 1073741824 := by omega
  have m63 : m ≤ 1073741824 := by omega
  have HE := Lib.hid (show n = base.length + ws.flatten.length ∧ m = ws.length ∧ s = base.length ∧ xs.length = k from ⟨hn, hm, hs, hlx⟩)
  have HR := Lib.hid hrd
  have HO := Lib.hid h1
  have HM := Lib.hid h2
  have HB := Lib.hid hb
  have c0 := hb.cell 0
  have c1 := hb.cell 1
  have c2 := hb.cell 2
  have f0 := hb.frozen 0
  simp at c0 c1 c2
  clear hrd h1 h2 hb hn hm hs hlx hws
  go_enter Try.func61, Try.ntmps61
  go_wp2_with (at_builtin; refine wpList_app rfl _ _ rfl etyBytes rfl HO.out rfl HR.out (bv_one _) (by unfold maxLen; omega) (by omega) ?_; intro A1 cc1 w1 hown1 hchg1 hnew1 _; have ff := (HB.out.chg hchg1 (fun hh => HO.out.blk_ne HB.out (by decide) g hh rfl)); have d0 := ff.cell 0; have d1 := ff.cell 1; have d2 := ff.cell 2; have e0 := ff.frozen 0; have e2 := ff.frozen 2; simp at d0 d1 d2)
  have hb2 : Blk (w1.setCell ⟨g, 0, none⟩ (.slice A1 (n + k) cc1)) g 122 #[.slice A1 (n + k) cc1, .int .i64 (s : Nat), .slice M m dm] := by simpa using ff.set_ 0 (.slice A1 (n + k) cc1)
  have hch : Chg [g] w1 (w1.setCell ⟨g, 0, none⟩ (.slice A1 (n + k) cc1)) := (Chg.refl [g] w1).setCell (by simp) _
  have HA1 := Lib.hid (hown1.chg hch (fun j hj hh => hown1.blk_ne ff (by decide) j hj (by simpa using hh)))
  have hM1 := HM.out.chg hchg1 (fun j hj hh => HM.out.own_ne HO.out (by decide) j hj hh)
  have HM1 := Lib.hid (hM1.chg hch (fun j hj hh => hM1.blk_ne ff (by decide) j hj (by simpa using hh)))
  have HC := Lib.hid (show Chg (g :: bo A) w (w1.setCell ⟨g, 0, none⟩ (.slice A1 (n + k) cc1)) from (hchg1.mono (by simp +contextual)).trans hch (by simp))
  clear hM1 hch d0 d1 d2 e0 e2 ff c0 c1 c2 f0
  generalize w1.setCell ⟨g, 0, none⟩ (.slice A1 (n + k) cc1) = W2 at *
  have d0 := hb2.cell 0
  have d2 := hb2.cell 2
  have e2 := hb2.frozen 2
  have d2a := fun o => (hb2.alloc o).cell 2
  simp at d0 d2 d2a
  have HB2 := Lib.hid hb2
  clear hb2
  go_region_law (refine step_app rfl _ _ rfl etyInts rfl (HM1.out.chg (((Chg.refl [] W2).drew).alloc _) (by simp)) rfl (Own.lit W2.drew 3 1 #[.int .i64 ((n + k : Nat) : Int)] 1 (by decide) rfl).rd (one_int _ _) (by unfold maxLen; omega) (by omega) ?_; intro A2 cc2 w3 hown2 hchg2 hnew2 _; have hb3 := ((HB2.out.drew).alloc _).chg hchg2 (fun hh => HM1.out.blk_ne HB2.out (by decide) g hh rfl); have x2 := hb3.cell 2; have y2 := hb3.frozen 2; simp at x2)
  all_goals
    go_wp2
    go_end0
    obtain ⟨hn, hm, hs, hlx⟩ := HE.out
    have hW : Chg [g] w3 (w3.setCell ⟨g, 2, none⟩ (.slice A2 (m + 1) cc2)) := (Chg.refl [g] w3).setCell (by simp) _
    have hA3 := (HA1.out.chg (((Chg.refl [] W2).drew).alloc (.cells #[.int .i64 ((n + k : Nat) : Int)] 3)) (by simp)).chg hchg2 (fun j hj hh => HA1.out.own_ne HM1.out (by decide) j hj hh)
    have sz : w.heap.size ≤ W2.heap.size := HC.out.size
    refine ⟨g :: (bo A1 ++ bo A2), rfl, ⟨A1, n + k, cc1, A2, m + 1, cc2, s, by simpa using hb3.set_ 2 (.slice A2 (m + 1) cc2), ?_, ?_, rfl, ?_, ?_, hs⟩, ?_, ?_⟩
    · simpa [List.append_assoc] using hA3.chg hW (fun j hj hh => hA3.blk_ne hb3 (by decide) j hj (by simpa using hh))
    · rw [ends_snoc, ← hn]
      have := hown2.chg hW (fun j hj hh => hown2.blk_ne hb3 (by decide) j hj (by simpa using hh))
      simp only [List.map_append, List.map_cons, List.map_nil, hlx] 
      exact this
    · rw [flat_snoc]; omega
    · simp [hm]
    · refine ((((HC.out.mono (L := g :: (bo A ++ bo M)) (fun x hx => .inl (by simp only [List.mem_cons, List.mem_append] at hx ⊢; rcases hx with hx | hx <;> simp [hx]))).drew).alloc _).trans hchg2 ?_).trans hW (by simp)
      intro x hx; left; simp [hx]
    · intro j hj
      simp only [List.mem_cons, List.mem_append] at hj ⊢
      rcases hj with rfl | hj | hj
      · simp
      · rcases hnew1 j hj with h1 | h1
        · exact .inl (.inr (.inl h1))
        · exact .inr h1.1
      · rcases hnew2 j hj with h1 | h1
        · exact .inl (.inr (.inr h1))
        · right; have := h1.1; simp at this; omega
end Go.Proofs.Ytgomofeidghmiaa
