/-
  Layer 13: same, copied, Clone, the example.
-/
import Derived.Test.YthlpojaohdpjgaaLkN
import Derived.WalkSpells
import Derived.Laws.StructEq
namespace Go.Proofs.Ythlpojaohdpjgaa
open Go.RowKit

theorem bne_int (x y : Int) : (x != y) = !(x == y) := rfl

set_option maxHeartbeats 800000 in
theorem sameInts_any (A : Option Addr) (n c : Nat) (xs : List Int) (B : Option Addr) (m d : Nat) (ys : List Int) (w : World) (hn : n ≤ 1073741824) (hm : m ≤ 1073741824)
    (ha : Rd w 1 A n c (iv xs)) (hb : Rd w 1 B m d (iv ys)) :
    Calls Try.prog 12 #[.slice A n c, .slice B m d] w fun e w' => e = .returned (.bool (decide (xs = ys))) ∧ Chg [] w w' := by
  have hlx : xs.length = n := by have := ha.1; simp at this; omega
  have hly : ys.length = m := by have := hb.1; simp at this; omega
  have HA := Lib.hid ha
  have HB := Lib.hid hb
  by_cases hnm : n = m
  · subst hnm
    have HX := Lib.hid hlx
    have HY := Lib.hid hly
    clear ha hb hlx hly
    go_enter Try.func12, Try.ntmps12
    go_wp2
    go_loopw [13] (fun i wr => ∃ k : Nat, k ≤ n ∧ i = .int .i64 k ∧ xs.take k = ys.take k ∧ Chg [] w wr) (fun i _ => n - (intOf i).toNat)
    case atStart => exact ⟨0, Nat.zero_le _, rfl, rfl, Chg.refl _ _⟩
    case round =>
      obtain ⟨k, hk, rfl, heq, hchg⟩ := hrel
      by_cases hlt : k < n
      · obtain ⟨ad, x, rfl, hx, hcx⟩ := rd_int (HA.out.chg hchg (by simp)) hlt
        obtain ⟨bd, y, rfl, hy, hcy⟩ := rd_int (HB.out.chg hchg (by simp)) hlt
        have HXk := Lib.hid hx
        have HYk := Lib.hid hy
        have HE := Lib.hid heq
        clear hx hy heq
        have h0 : (0 : Int) ≤ k := by omega
        have h1 : (k : Int) < n := by omega
        go_wp2
        by_cases hxy : x = y
        · have hxy' : (x == y) = true := by simp [hxy]
          have hxy2 : (x != y) = false := by simp [hxy]
          have HXY := Lib.hid hxy
          clear hxy
          go_quiet (fail)
          go_wp2
          go_roundw
          case rel => exact ⟨k + 1, by omega, by go_num, by rw [take_snoc _ _ _ HXk.out, take_snoc _ _ _ HYk.out, HE.out, HXY.out], hchg.drewN _⟩
          case measure => simp [intOf]; omega
        · have hxy' : (x == y) = false := by simp [hxy]
          have hxy2 : (x != y) = true := by simp [hxy]
          go_quiet (fail)
          go_wp2
          go_ret
          refine ⟨?_, hchg.drewN _⟩
          have hne : xs ≠ ys := by
            rintro rfl
            rw [HXk.out] at HYk
            have := HYk.out
            simp at this
            exact hxy this
          simp [hne]
      · go_wp2
        go_ret
        refine ⟨?_, hchg⟩
        have hkn : k = n := by omega
        subst hkn
        rw [List.take_of_length_le (by rw [HX.out]; exact Nat.le_refl _), List.take_of_length_le (by rw [HY.out]; exact Nat.le_refl _)] at heq
        simp [heq]
  · have hne : xs ≠ ys := by rintro rfl; omega
    have HE := Lib.hid hne
    have h1 : ((n : Int) == m) = false := by simp; omega
    have h2 : ((n : Int) != m) = true := by simp; omega
    clear ha hb hlx hly hne
    go_enter Try.func12, Try.ntmps12
    go_wp2
    go_ret
    refine ⟨?_, Chg.refl _ _⟩
    simp [HE.out]


theorem lk_neq (a b : Lk) (w : World) : (binOp .neq 46 (.agg #[.bool a.live, .int .i64 a.src, .int .i64 a.dst, .int .i64 a.sp, .int .i64 a.tp, .int .i64 a.sn, .int .i64 a.tn]) (.agg #[.bool b.live, .int .i64 b.src, .int .i64 b.dst, .int .i64 b.sp, .int .i64 b.tp, .int .i64 b.sn, .int .i64 b.tn])).run Try.prog w = .ok (.bool (a != b)) w := by
  rw [run_neq_struct, run_equalIn_agg w 9999 46 _ _ Try.underlying46 (by kernel_rfl)]
  simp only [Program.fieldsOf, Try.underlying46]
  have e1 : (a != b) = !(a.live == b.live && (a.src == b.src && (a.dst == b.dst && (a.sp == b.sp && (a.tp == b.tp && (a.sn == b.sn && a.tn == b.tn)))))) := by
    unfold bne
    congr 1
    rw [Bool.eq_iff_iff]
    cases a; cases b; simp [Lk.mk.injEq]
  rw [e1]
  cases h0 : (a.live == b.live)
  · go_simp
  cases h1 : (a.src == b.src)
  · go_simp
  cases h2 : (a.dst == b.dst)
  · go_simp
  cases h3 : (a.sp == b.sp)
  · go_simp
  cases h4 : (a.tp == b.tp)
  · go_simp
  cases h5 : (a.sn == b.sn)
  · go_simp
  cases h6 : (a.tn == b.tn)
  · go_simp
  go_simp

set_option maxHeartbeats 1600000 in
theorem sameLinks_any (A : Option Addr) (n c : Nat) (xs : List Lk) (B : Option Addr) (m d : Nat) (ys : List Lk) (w : World) (hn : n ≤ 1073741824) (hm : m ≤ 1073741824)
    (ha : Rd w 7 A n c (lvs xs)) (hb : Rd w 7 B m d (lvs ys)) :
    Calls Try.prog 15 #[.slice A n c, .slice B m d] w fun e w' => e = .returned (.bool (decide (xs = ys))) ∧ Chg [] w w' := by
  have hlx : xs.length = n := by have := ha.1; rw [lvs_length] at this; omega
  have hly : ys.length = m := by have := hb.1; rw [lvs_length] at this; omega
  have HA := Lib.hid ha
  have HB := Lib.hid hb
  by_cases hnm : n = m
  · subst hnm
    have HX := Lib.hid hlx
    have HY := Lib.hid hly
    clear ha hb hlx hly
    go_enter Try.func15, Try.ntmps15
    go_wp2
    go_loopw [13] (fun i wr => ∃ k : Nat, k ≤ n ∧ i = .int .i64 k ∧ xs.take k = ys.take k ∧ Chg [] w wr) (fun i _ => n - (intOf i).toNat)
    case atStart => exact ⟨0, Nat.zero_le _, rfl, rfl, Chg.refl _ _⟩
    case round =>
      obtain ⟨k, hk, rfl, heq, hchg⟩ := hrel
      by_cases hlt : k < n
      · obtain ⟨x, hx⟩ : ∃ l, xs[k]? = some l := ⟨_, List.getElem?_eq_getElem (by have := HX.out; omega)⟩
        obtain ⟨y, hy⟩ : ∃ l, ys[k]? = some l := ⟨_, List.getElem?_eq_getElem (by have := HY.out; omega)⟩
        obtain ⟨ad, rfl, c0, c1, c2, c3, c4, c5, c6⟩ := (HA.out.chg hchg (by simp)).lk hx
        obtain ⟨bd, rfl, d0, d1, d2, d3, d4, d5, d6⟩ := (HB.out.chg hchg (by simp)).lk hy
        have HXk := Lib.hid hx
        have HYk := Lib.hid hy
        have HE := Lib.hid heq
        clear hx hy heq
        have h0 : (0 : Int) ≤ k := by omega
        have h1 : (k : Int) < n := by omega
        have qN := fun w => lk_neq x y w
        go_wp2
        by_cases hxy : x = y
        · have hxy2 : (x != y) = false := by simp [hxy]
          have HXY := Lib.hid hxy
          clear hxy
          go_quiet (fail)
          go_wp2
          go_roundw
          case rel => exact ⟨k + 1, by omega, by go_num, by rw [take_snoc _ _ _ HXk.out, take_snoc _ _ _ HYk.out, HE.out, HXY.out], hchg.drewN _⟩
          case measure => simp [intOf]; omega
        · have hxy2 : (x != y) = true := by simp [hxy]
          go_quiet (fail)
          go_wp2
          go_ret
          refine ⟨?_, hchg.drewN _⟩
          have hne : xs ≠ ys := by
            rintro rfl
            rw [HXk.out] at HYk
            have := HYk.out
            simp at this
            exact hxy this
          simp [hne]
      · go_wp2
        go_ret
        refine ⟨?_, hchg⟩
        have hkn : k = n := by omega
        subst hkn
        rw [List.take_of_length_le (by rw [HX.out]; exact Nat.le_refl _), List.take_of_length_le (by rw [HY.out]; exact Nat.le_refl _)] at heq
        simp [heq]
  · have hne : xs ≠ ys := by rintro rfl; omega
    have HE := Lib.hid hne
    have h1 : ((n : Int) == m) = false := by simp; omega
    have h2 : ((n : Int) != m) = true := by simp; omega
    clear ha hb hlx hly hne
    go_enter Try.func15, Try.ntmps15
    go_wp2
    go_ret
    refine ⟨?_, Chg.refl _ _⟩
    simp [HE.out]

set_option maxHeartbeats 800000 in
theorem lcopied_any (A : Option Addr) (n c : Nat) (zs : List Lk) (w : World) (hn : n ≤ 1073741824) (hrd : Rd w 7 A n c (lvs zs)) :
    Calls Try.prog 11 #[.slice A n c] w (NewRow 46 7 w (lvs zs) n) := by
  have HR := Lib.hid hrd
  clear hrd
  go_enter Try.func11, Try.ntmps11
  go_wp2_with (at_builtin; refine wpList_app rfl _ _ rfl etyLinks rfl (Own.lit w 46 7 #[] 0 (by decide) rfl) rfl (HR.out.chg ((Chg.refl [] w).alloc _) (by simp)) (lvs_one zs) (by unfold maxLen; omega) (by omega) ?_; intro A2 c2 w3 hown4 hchg4 hnew4 _)
  go_ret
  exact ⟨A2, c2, rfl, by simpa using hown4, ((Chg.refl [] w).alloc _).trans hchg4 (by simp), fun k hk => by
    rcases hnew4 k hk with h1 | h1
    · simp at h1; omega
    · have := h1.1; simp at this; omega⟩

set_option maxHeartbeats 800000 in
/-- slices.Clone: nil stays nil -/
theorem lclone_any (A : Option Addr) (n c : Nat) (zs : List Lk) (w : World) (hn : n ≤ 1073741824) (hrd : Rd w 7 A n c (lvs zs)) :
    Calls Try.prog 23 #[.slice A n c] w (NewRow 46 7 w (lvs zs) n) := by
  cases A with
  | none =>
    have hc := hrd.2.2.2.1 rfl
    have hn0 : n = 0 := by have := hrd.2.1; omega
    subst hc; subst hn0
    have hz : lvs zs = [] := List.eq_nil_of_length_eq_zero (by simpa using hrd.1)
    have HZ := Lib.hid hz
    have qT := fun (w : World) => Lib.run_eql_slice_nil (P := Try.prog) w 22 46 none 0 0 0 0 Try.underlying22
    clear hz hrd
    go_enter Try.func23, Try.ntmps23
    go_wp2
    go_ret
    exact ⟨none, 0, rfl, by rw [HZ.out]; exact Own.nil _ _ _, Chg.refl _ _, by simp⟩
  | some ad =>
    have HR := Lib.hid hrd
    clear hrd
    have qT := fun (w : World) => Lib.run_eql_slice_nil (P := Try.prog) w 22 46 (some ad) n c 0 0 Try.underlying22
    go_enter Try.func23, Try.ntmps23
    go_wp2_with (at_builtin; refine wpList_app rfl _ _ rfl etyLinks rfl (Own.lit w 46 7 #[] 0 (by decide) rfl) rfl (HR.out.chg ((Chg.refl [] w).alloc _) (by simp)) (lvs_one zs) (by unfold maxLen; omega) (by omega) ?_; intro A2 c2 w3 hown4 hchg4 hnew4 _)
    go_ret
    exact ⟨A2, c2, rfl, by simpa using hown4, ((Chg.refl [] w).alloc _).trans hchg4 (by simp), fun k hk => by
      rcases hnew4 k hk with h1 | h1
      · simp at h1; omega
      · have := h1.1; simp at this; omega⟩
end Go.Proofs.Ythlpojaohdpjgaa
