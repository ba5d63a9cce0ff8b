/-
  The law's copy of bytes over the virtual program; no condition but what each law names.
-/
import Derived.Test.YtcdhmnefmbcmaaaKWwS
import Derived.Deep.QuietTactic
import Derived.BigQuiet
import Derived.Lib.AppendZerosOnto
import Derived.Deep.RegionLaw
import Derived.StillTailTactics
namespace Go.Proofs.Ytcdhmnefmbcmaaa.Ww
open Go Go.RowKit
theorem bv_one (zs : List Int) : ∀ u ∈ bv zs, u.oneCell' = true := ints_oneCell _ _

/-- a slice in new memory is told -/
def NewRow (e : TypeId) (sz : Nat) (w : World) (xs : List Value) (n : Nat) (en : Ending) (w' : World) : Prop :=
  ∃ A c, en = .returned (.slice A n c) ∧ Own w' e sz A n c xs ∧ Chg [] w w' ∧ ∀ k ∈ bo A, w.heap.size ≤ k

theorem etyBytes : Ety Tryw.prog 22 5 1 1 (.int .u8 0) := .mk' und_bytesV (by kernel_rfl) rfl (by decide)

theorem one_int (k : IntKind) (x : Int) : ∀ u ∈ (#[Value.int k x] : Array Value).toList, u.oneCell' = true := by simp [Value.oneCell']

theorem take_snoc {α : Type} (l : List α) (k : Nat) (x : α) (h : l[k]? = some x) : l.take (k + 1) = l.take k ++ [x] := by
  rw [List.take_add_one, h]; rfl

theorem rd_byte {w : World} {k : IntKind} {A : Option Addr} {n c : Nat} {zs : List Int} (h : Rd w 1 A n c (zs.map (Value.int k))) {j : Nat} (hj : j < n) :
    ∃ ad x, A = some ad ∧ zs[j]? = some x ∧ w.cell? (ad.add j) = some (.int k x) := by
  obtain ⟨ad, u, h1, h2, h3⟩ := h.at1 hj
  rw [List.getElem?_map] at h2
  cases hz : zs[j]? with
  | none => rw [hz] at h2; cases h2
  | some x => rw [hz] at h2; simp at h2; subst h2; exact ⟨ad, x, h1, rfl, h3⟩

set_option maxRecDepth 100000 in
set_option maxHeartbeats 800000 in
theorem copy_any (A : Option Addr) (n c : Nat) (zs : List Int) (w : World) (hn : n ≤ 1073741824) (hrd : Rd w 1 A n c (bv zs)) :
    Calls Tryw.prog 8 #[.slice A n c] w (NewRow 5 1 w (bv zs) n) := by
  have hl : zs.length = n := by have := hrd.1; simp at this; omega
  have HR := Lib.hid hrd
  have HL := Lib.hid hl
  clear hrd hl
  go_enter Tryw.func8, Try.ntmps8
  go_wp2
  go_loopw [3, 4] (fun v i wr => ∃ (k : Nat) (A' : Option Addr) (c' : Nat), k ≤ n ∧ i = .int .i64 k ∧ v = .slice A' k c' ∧ Own wr 5 1 A' k c' ((bv zs).take k) ∧ Chg [] w wr ∧ (∀ k ∈ bo A', w.heap.size ≤ k)) (fun _ i _ => n - (intOf i).toNat)
  case atStart =>
    exact ⟨0, _, 0, Nat.zero_le _, rfl, rfl, Own.lit w 5 1 #[] 0 (by decide) rfl, (Chg.refl _ _).alloc _, by simp⟩
  case round =>
    obtain ⟨k, A', c', hk, rfl, rfl, hown, hchg, hnew⟩ := hrel
    by_cases hlt : k < n
    · obtain ⟨ad, x, rfl, hx, hcell⟩ := rd_byte (HR.out.chg hchg (by simp)) hlt
      have HX := Lib.hid hx
      have HN := Lib.hid hnew
      clear hx hnew
      go_wp2_with (at_builtin; refine wpList_app rfl _ _ rfl etyBytes rfl (hown.chg ((Chg.refl [] wr).alloc _) (by simp)) rfl (Own.lit wr 5 1 #[.int .u8 x] 1 (by decide) rfl).rd (one_int _ _) (by unfold maxLen; omega) (by omega) ?_; intro A2 c2 w2 hown2 hchg2 hnew2 _)
      go_roundw
      case rel =>
        refine ⟨k + 1, A2, c2, by omega, by go_num, rfl, ?_, (hchg.alloc _).trans hchg2 (fun y hy => .inr (HN.out y hy)), fun y hy => ?_⟩
        · rw [take_snoc _ _ (.int .u8 x) (by simp [HX.out])]; exact hown2
        · rcases hnew2 y hy with h1 | h1
          · exact HN.out y h1
          · have h2 := hchg.size; simp at h1; omega
      case measure => simp [intOf]; omega
    · go_wp2
      go_ret
      have hkn : k = n := by omega
      subst hkn
      exact ⟨A', c', rfl, by rw [← List.take_of_length_le (l := bv zs) (i := k) (by simp [HL.out])]; exact hown, hchg, hnew⟩

end Go.Proofs.Ytcdhmnefmbcmaaa.Ww
