/-
  same, spoil, slices.Clone at bytes: contracts.
-/
import Derived.Test.YtiipgfhogkeeoaaSpA
import Derived.WalkSpells
namespace Go.Proofs.Ytiipgfhogkeeoaa
open Go.RowKit

theorem bne_int (x y : Int) : (x != y) = !(x == y) := rfl

set_option maxHeartbeats 800000 in
theorem same_any (A : Option Addr) (n c : Nat) (xs : List Int) (B : Option Addr) (m d : Nat) (ys : List Int) (w : World) (hn : n ≤ 1073741824) (hm : m ≤ 1073741824)
    (ha : Rd w 1 A n c (bv xs)) (hb : Rd w 1 B m d (bv ys)) :
    Calls Try.prog 11 #[.slice A n c, .slice B m d] w fun e w' => e = .returned (.bool (decide (xs = ys))) ∧ Chg [] w w' := by
  have hlx : xs.length = n := by have := ha.1; simp at this; omega
  have hly : ys.length = m := by have := hb.1; simp at this; omega
  have HA := Lib.hid ha
  have HB := Lib.hid hb
  by_cases hnm : n = m
  · subst hnm
    have HX := Lib.hid hlx
    have HY := Lib.hid hly
    clear ha hb hlx hly
    go_enter Try.func11, Try.ntmps11
    go_wp2
    go_loopw [13] (fun i wr => ∃ k : Nat, k ≤ n ∧ i = .int .i64 k ∧ xs.take k = ys.take k ∧ Chg [] w wr) (fun i _ => n - (intOf i).toNat)
    case atStart => exact ⟨0, Nat.zero_le _, rfl, rfl, Chg.refl _ _⟩
    case round =>
      obtain ⟨k, hk, rfl, heq, hchg⟩ := hrel
      by_cases hlt : k < n
      · obtain ⟨ad, x, rfl, hx, hcx⟩ := rd_byte (HA.out.chg hchg (by simp)) hlt
        obtain ⟨bd, y, rfl, hy, hcy⟩ := rd_byte (HB.out.chg hchg (by simp)) hlt
        have HXk := Lib.hid hx
        have HYk := Lib.hid hy
        have HE := Lib.hid heq
        clear hx hy heq
        have h0 : (0 : Int) ≤ k := by omega
        have h1 : (k : Int) < n := by omega
        go_wp2
        by_cases hxy : x = y
        · have hxy' : (x == y) = true := by simp [hxy]
          have hxy2 : (x != y) = false := by simp [hxy]
          have HXY := Lib.hid hxy
          clear hxy
          go_quiet (fail)
          go_wp2
          go_roundw
          case rel => exact ⟨k + 1, by omega, by go_num, by rw [take_snoc _ _ _ HXk.out, take_snoc _ _ _ HYk.out, HE.out, HXY.out], hchg.drewN _⟩
          case measure => simp [intOf]; omega
        · have hxy' : (x == y) = false := by simp [hxy]
          have hxy2 : (x != y) = true := by simp [hxy]
          go_quiet (fail)
          go_wp2
          go_ret
          refine ⟨?_, hchg.drewN _⟩
          have hne : xs ≠ ys := by
            rintro rfl
            rw [HXk.out] at HYk
            have := HYk.out
            simp at this
            exact hxy this
          simp [hne]
      · go_wp2
        go_ret
        refine ⟨?_, hchg⟩
        have hkn : k = n := by omega
        subst hkn
        rw [List.take_of_length_le (by rw [HX.out]; exact Nat.le_refl _), List.take_of_length_le (by rw [HY.out]; exact Nat.le_refl _)] at heq
        simp [heq]
  · have hne : xs ≠ ys := by rintro rfl; omega
    have HE := Lib.hid hne
    have h1 : ((n : Int) == m) = false := by simp; omega
    have h2 : ((n : Int) != m) = true := by simp; omega
    clear ha hb hlx hly hne
    go_enter Try.func11, Try.ntmps11
    go_wp2
    go_ret
    refine ⟨?_, Chg.refl _ _⟩
    simp [HE.out]

set_option maxHeartbeats 800000 in
theorem spoil_any (A : Option Addr) (n c : Nat) (xs : List Value) (w : World) (hn : n ≤ 1073741824) (hown : Own w 5 1 A n c xs) :
    Calls Try.prog 12 #[.slice A n c] w fun e w' => e = .returned (.tuple #[]) ∧ Chg (bo A) w w' := by
  go_enter Try.func12, Try.ntmps12
  go_wp2
  go_loopw [6] (fun i wr => ∃ (k : Nat) (ys : List Value), k ≤ n ∧ i = .int .i64 k ∧ Own wr 5 1 A n c ys ∧ Chg (bo A) w wr) (fun i _ => n - (intOf i).toNat)
  case atStart => exact ⟨0, xs, Nat.zero_le _, rfl, hown, Chg.refl _ _⟩
  case round =>
    obtain ⟨k, ys, hk, rfl, hown2, hchg⟩ := hrel
    by_cases hlt : k < n
    · obtain ⟨ad, u, rfl, hx, hcx, hfz, hset⟩ := hown2.at1 hlt
      have HX := Lib.hid hx
      have HS := Lib.hid hset
      clear hx hset
      go_wp2
      go_roundw
      case rel => exact ⟨k + 1, _, by omega, by go_num, HS.out _, hchg.setCell (by rw [add_block]; simp) _⟩
      case measure => simp [intOf]; omega
    · go_wp2
      clear hlt hk
      go_loopw [0, 3] (fun s i w2 => ∃ (j : Nat) (A' : Option Addr) (c' : Nat) (zs : List Value), j ≤ 16 ∧ i = .int .i64 j ∧ s = .slice A' (n + j) c' ∧ Own w2 5 1 A' (n + j) c' zs ∧ Chg (bo A) w w2 ∧ (∀ x ∈ bo A', x ∈ bo A ∨ w.heap.size ≤ x)) (fun _ i _ => 16 - (intOf i).toNat)
      case atStart => exact ⟨0, A, c, ys, by omega, rfl, rfl, hown2, hchg, fun x hx => .inl hx⟩
      case round =>
        obtain ⟨j, A', c', zs, hj, rfl, rfl, hown3, hchg2, hsub⟩ := hrel
        have HN := Lib.hid hsub
        clear hsub
        by_cases hlt : j < 16
        · go_wp2_with (at_builtin; refine wpList_app rfl _ _ rfl etyBytes rfl (hown3.chg ((Chg.refl [] wr).alloc _) (by simp)) rfl (Own.lit wr 5 1 #[.int .u8 238] 1 (by decide) rfl).rd (one_int _ _) (by unfold maxLen; omega) (by omega) ?_; intro A2 c2 w3 hown4 hchg4 hnew4 _)
          go_roundw
          case rel =>
            refine ⟨j + 1, A2, c2, _, by omega, by go_num, rfl, hown4, (hchg2.alloc _).trans hchg4 HN.out, fun y hy => ?_⟩
            rcases hnew4 y hy with h1 | h1
            · exact HN.out y h1
            · right; have h2 := hchg2.size; simp at h1; omega
          case measure => simp [intOf]; omega
        · go_wp2
          go_end0
          exact ⟨rfl, hchg2⟩

/-- slices.Clone: nil stays nil -/
theorem clone_any (A : Option Addr) (n c : Nat) (zs : List Int) (w : World) (hn : n ≤ 1073741824) (hrd : Rd w 1 A n c (bv zs)) :
    Calls Try.prog 26 #[.slice A n c] w (NewRow 5 1 w (bv zs) n) := by
  cases A with
  | none =>
    have hc := hrd.2.2.2.1 rfl
    have hn0 : n = 0 := by have := hrd.2.1; omega
    subst hc; subst hn0
    have hz : bv zs = [] := List.eq_nil_of_length_eq_zero (by simpa using hrd.1)
    have HZ := Lib.hid hz
    have qT := fun (w : World) => Lib.run_eql_slice_nil (P := Try.prog) w 22 5 none 0 0 0 0 Try.underlying22
    clear hz hrd
    go_enter Try.func26, Try.ntmps26
    go_wp2
    go_ret
    exact ⟨none, 0, rfl, by rw [HZ.out]; exact Own.nil _ _ _, Chg.refl _ _, by simp⟩
  | some ad =>
    have HR := Lib.hid hrd
    clear hrd
    have qT := fun (w : World) => Lib.run_eql_slice_nil (P := Try.prog) w 22 5 (some ad) n c 0 0 Try.underlying22
    go_enter Try.func26, Try.ntmps26
    go_wp2_with (at_builtin; refine wpList_app rfl _ _ rfl etyBytes rfl (Own.lit w 5 1 #[] 0 (by decide) rfl) rfl (HR.out.chg ((Chg.refl [] w).alloc _) (by simp)) (bv_one zs) (by unfold maxLen; omega) (by omega) ?_; intro A2 c2 w3 hown4 hchg4 hnew4 _)
    go_ret
    exact ⟨A2, c2, rfl, by simpa using hown4, ((Chg.refl [] w).alloc _).trans hchg4 (by simp), fun k hk => by
      rcases hnew4 k hk with h1 | h1
      · simp at h1; omega
      · have := h1.1; simp at this; omega⟩
end Go.Proofs.Ytiipgfhogkeeoaa
