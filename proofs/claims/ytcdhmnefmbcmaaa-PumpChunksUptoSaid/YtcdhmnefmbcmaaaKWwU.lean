/-
  slices.Clone over the virtual program; no condition but what each law names.
-/
import Derived.Test.YtcdhmnefmbcmaaaKWwT
namespace Go.Proofs.Ytcdhmnefmbcmaaa.Ww
open Go Go.RowKit
/-- slices.Clone: nil stays nil -/
theorem clone_any (A : Option Addr) (n c : Nat) (zs : List Int) (w : World) (hn : n ≤ 1073741824) (hrd : Rd w 1 A n c (bv zs)) :
    Calls Tryw.prog 21 #[.slice A n c] w (NewRow 5 1 w (bv zs) n) := by
  cases A with
  | none =>
    have hc := hrd.2.2.2.1 rfl
    have hn0 : n = 0 := by have := hrd.2.1; omega
    subst hc; subst hn0
    have hz : bv zs = [] := List.eq_nil_of_length_eq_zero (by simpa using hrd.1)
    have HZ := Lib.hid hz
    have qT := fun (w : World) => Lib.run_eql_slice_nil (P := Tryw.prog) w 22 5 none 0 0 0 0 und_bytesV
    clear hz hrd
    go_enter Tryw.func21, Try.ntmps21
    go_wp2
    go_ret
    exact ⟨none, 0, rfl, by rw [HZ.out]; exact Own.nil _ _ _, Chg.refl _ _, by simp⟩
  | some ad =>
    have HR := Lib.hid hrd
    clear hrd
    have qT := fun (w : World) => Lib.run_eql_slice_nil (P := Tryw.prog) w 22 5 (some ad) n c 0 0 und_bytesV
    go_enter Tryw.func21, Try.ntmps21
    go_wp2_with (at_builtin; refine wpList_app rfl _ _ rfl etyBytes rfl (Own.lit w 5 1 #[] 0 (by decide) rfl) rfl (HR.out.chg ((Chg.refl [] w).alloc _) (by simp)) (bv_one zs) (by unfold maxLen; omega) (by omega) ?_; intro A2 c2 w3 hown4 hchg4 hnew4 _)
    go_ret
    exact ⟨A2, c2, rfl, by simpa using hown4, ((Chg.refl [] w).alloc _).trans hchg4 (by simp), fun k hk => by
      rcases hnew4 k hk with h1 | h1
      · simp at h1; omega
      · have := h1.1; simp at this; omega⟩
end Go.Proofs.Ytcdhmnefmbcmaaa.Ww
