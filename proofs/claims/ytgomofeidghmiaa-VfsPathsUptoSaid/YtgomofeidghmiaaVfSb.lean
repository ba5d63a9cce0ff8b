/-
  Layer 08: SameBytes, SameFiles, Same: equal disks are one.
-/
import Derived.Test.YtgomofeidghmiaaVfS
import Derived.Test.YtgomofeidghmiaaVfB
import Derived.Laws.BytesArg
import Derived.BigQuiet
namespace Go.Proofs.Ytgomofeidghmiaa
open Go.RowKit

theorem conv_rd {w : World} {A : Option Addr} {n c : Nat} {xs : List Int} (h : Rd w 1 A n c (bv xs)) : (convert 39 9 (.slice A n c)).run Try.prog w = .ok (.string (strOfNums xs)) w := by
  have hl : xs.length = n := by have := h.1; simp at this; omega
  cases A with
  | none =>
    have h1 := h.2.2.2.1 rfl
    have h2 := h.2.1
    have hx : xs = [] := List.eq_nil_of_length_eq_zero (by omega)
    subst hx
    exact run_convert_bytes_nil w 39 5 Try.underlying39 Try.underlying5 _ _ _ Try.underlying9
  | some ad =>
    have hld : (loadCells ad n).run Try.prog w = .ok (bv xs).toArray w := by
      have := run_loadCells_list (P := Try.prog) w ad (bv xs) (fun j v hj => (h.2.2.2.2 ad rfl).2 j v hj)
      simpa [hl] using this
    rw [run_convert_bytes_string w _ _ _ _ n c Try.underlying39 Try.underlying5 Try.underlying9, run_bytesToString w ad n c xs hld, foldl_push_bytes]
    simp [strOfNums, ByteArray.empty, ByteArray.emptyWithCapacity]
    rfl

/-- some answer; true where they are one -/
def SaysIf (p : Prop) (w : World) (e : Ending) (w' : World) : Prop := ∃ b : Bool, e = .returned (.bool b) ∧ (p → b = true) ∧ Chg [] w w'

set_option maxRecDepth 100000 in
set_option maxHeartbeats 1600000 in
theorem sameb_any (A : Option Addr) (n c : Nat) (xs : List Int) (B : Option Addr) (m d : Nat) (ys : List Int) (w : World) (ha : Rd w 1 A n c (bv xs)) (hb : Rd w 1 B m d (bv ys)) :
    Calls Try.prog 35 #[.slice A n c, .slice B m d] w (SaysIf (xs = ys) w) := by
  have h1 := conv_rd ha
  have h2 := conv_rd hb
  obtain ⟨s, hs⟩ : ∃ s, strOfNums xs = s := ⟨_, rfl⟩
  obtain ⟨t, ht⟩ : ∃ t, strOfNums ys = t := ⟨_, rfl⟩
  rw [hs] at h1
  rw [ht] at h2
  have HST : Hid (xs = ys → s = t) := Lib.hid (by rintro rfl; rw [← hs, ← ht])
  clear ha hb hs ht
  go_enter Try.func35, Try.ntmps35
  go_wp2
  go_ret
  refine ⟨_, rfl, fun h => ?_, Chg.refl _ _⟩
  rw [HST.out h]
  simp
end Go.Proofs.Ytgomofeidghmiaa
