/-
  The laws' helpers over the virtual program: two rows of bytes compared; no condition but what each law names.
-/
import Derived.Test.YtcdhmnefmbcmaaaKWwM
import Derived.Test.YtcdhmnefmbcmaaaKPsD
import Derived.WalkSpells
import Derived.WalkLawsBesides
namespace Go.Proofs.Ytcdhmnefmbcmaaa.Ww
open Go Go.RowKit
theorem und_bytesV : Tryw.prog.underlying 22 = some (.slice 5) := (Tryw.und _).trans Try.underlying22
theorem conv_any {A : Option Addr} {l c : Nat} {w : World} : (convert 22 9 (.slice A l c)).run Tryw.prog w = (Conv.bytesToString (.slice A l c)).run Tryw.prog w := by
  have h1 := und_bytesV
  have h2 : Tryw.prog.underlying 9 = some .string := (Tryw.und _).trans Try.underlying9
  have h3 : Tryw.prog.underlying 5 = some (.int .u8) := (Tryw.und _).trans Try.underlying5
  simp [convert, run_underlying h1, run_underlying h2, run_underlying h3]
/-- bytes, as values -/
abbrev bv (xs : List Int) : List Value := xs.map (Value.int .u8)
theorem conv_rd {w : World} {A : Option Addr} {n c : Nat} {xs : List Int} (h : Rd w 1 A n c (bv xs)) : (convert 22 9 (.slice A n c)).run Tryw.prog w = .ok (.string (strOfNums xs)) w := by
  have hl : xs.length = n := by have := h.1; simp at this; omega
  rw [conv_any]
  cases A with
  | none =>
    have h1 := h.2.2.2.1 rfl
    have h2 := h.2.1
    have hx : xs = [] := List.eq_nil_of_length_eq_zero (by omega)
    subst hx
    rfl
  | some ad =>
    have hld : (loadCells ad n).run Tryw.prog w = .ok (bv xs).toArray w := by
      have := run_loadCells_list (P := Tryw.prog) w ad (bv xs) (fun j v hj => (h.2.2.2.2 ad rfl).2 j v hj)
      simpa [hl] using this
    rw [run_bytesToString w ad n c xs hld, foldl_push_bytes]
    simp [strOfNums, ByteArray.empty, ByteArray.emptyWithCapacity]
    rfl
theorem same_any {A B : Option Addr} {n c m d : Nat} {xs ys : List Int} {w : World} (ha : Rd w 1 A n c (bv xs)) (hb : Rd w 1 B m d (bv ys)) :
    Calls Tryw.prog 10 #[.slice A n c, .slice B m d] w fun e w' => e = .returned (.bool ((strOfNums xs).toList == (strOfNums ys).toList)) ∧ w' = w := by
  have h1 := conv_rd ha
  have h2 := conv_rd hb
  go_enter Tryw.func10, Try.ntmps10
  go_wp2
  go_ret
  exact ⟨rfl, rfl⟩
end Go.Proofs.Ytcdhmnefmbcmaaa.Ww
