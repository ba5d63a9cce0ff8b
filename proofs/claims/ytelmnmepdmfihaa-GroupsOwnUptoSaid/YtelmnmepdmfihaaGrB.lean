/-
  Layer 17: bunch, size.
-/
import Derived.Test.YtelmnmepdmfihaaGrA
import Derived.Laws.Rows
namespace Go.Proofs.Ytelmnmepdmfihaa
open Go.RowKit

set_option maxHeartbeats 1600000 in
theorem bunch_any (A0 A1 A2 : Option Addr) (n0 c0 n1 c1 n2 c2 : Nat) (t : Int) (w : World) : Calls Try.prog 28 #[.agg #[.slice A0 n0 c0, .slice A1 n1 c1, .slice A2 n2 c2], .int .i64 t] w
    fun e w' => e = .returned (.agg #[.int .i64 t, .slice A0 n0 c0, .slice A1 n1 c1, .slice A2 n2 c2]) ∧ Chg [] w w' := by
  go_enter Try.func28, Try.ntmps28
  go_wp2
  refine bodyPost_ret (results_cell_row rfl _ _ (w.heap.size + 1) 52 _ (0, 0) _ rfl (heap_alloc2_new w _ _) Try.underlying52 rfl (by kernel_rfl)) rfl ?_
  exact ⟨rfl, ((Chg.refl _ _).alloc _).alloc _⟩

theorem bins_at0 (A0 A1 A2 : Option Addr) (n0 c0 n1 c1 n2 c2 : Nat) (w : World) : (Instr.index 62 (.agg #[.slice A0 n0 c0, .slice A1 n1 c1, .slice A2 n2 c2]) (.int .i64 0)).run Try.prog w = .ok (.slice A0 n0 c0) w := by
  have hs : (Go.sizeOf 23).run Try.prog w = .ok 1 w := by
    simp [go_sem]
  have hp : (part 23 #[.slice A0 n0 c0, .slice A1 n1 c1, .slice A2 n2 c2] 0).run Try.prog w = .ok (.slice A0 n0 c0) w := by
    go_simp
  unfold Instr.index
  simp only [asIntOf, Sem.run_bind, Sem.run_pure, Result.andThen_ok, run_underlying Try.underlying62]
  simp [hp, hs]
theorem bins_at1 (A0 A1 A2 : Option Addr) (n0 c0 n1 c1 n2 c2 : Nat) (w : World) : (Instr.index 62 (.agg #[.slice A0 n0 c0, .slice A1 n1 c1, .slice A2 n2 c2]) (.int .i64 1)).run Try.prog w = .ok (.slice A1 n1 c1) w := by
  have hs : (Go.sizeOf 23).run Try.prog w = .ok 1 w := by
    simp [go_sem]
  have hp : (part 23 #[.slice A0 n0 c0, .slice A1 n1 c1, .slice A2 n2 c2] 1).run Try.prog w = .ok (.slice A1 n1 c1) w := by
    go_simp
  unfold Instr.index
  simp only [asIntOf, Sem.run_bind, Sem.run_pure, Result.andThen_ok, run_underlying Try.underlying62]
  simp [hp, hs]
theorem bins_at2 (A0 A1 A2 : Option Addr) (n0 c0 n1 c1 n2 c2 : Nat) (w : World) : (Instr.index 62 (.agg #[.slice A0 n0 c0, .slice A1 n1 c1, .slice A2 n2 c2]) (.int .i64 2)).run Try.prog w = .ok (.slice A2 n2 c2) w := by
  have hs : (Go.sizeOf 23).run Try.prog w = .ok 1 w := by
    simp [go_sem]
  have hp : (part 23 #[.slice A0 n0 c0, .slice A1 n1 c1, .slice A2 n2 c2] 2).run Try.prog w = .ok (.slice A2 n2 c2) w := by
    go_simp
  unfold Instr.index
  simp only [asIntOf, Sem.run_bind, Sem.run_pure, Result.andThen_ok, run_underlying Try.underlying62]
  simp [hp, hs]

set_option maxRecDepth 100000 in
/-- how many a type has -/
theorem size_any (A0 A1 A2 : Option Addr) (n0 c0 n1 c1 n2 c2 : Nat) (h0 : n0 ≤ 1073741824) (h1 : n1 ≤ 1073741824) (h2 : n2 ≤ 1073741824) (w : World) : Calls Try.prog 36 #[.agg #[.slice A0 n0 c0, .slice A1 n1 c1, .slice A2 n2 c2]] w
    fun e w' => e = .returned (.int .i64 ((n0 + n1 + n2 : Nat) : Int)) ∧ Chg [] w w' := by
  have ix0 := fun w => bins_at0 A0 A1 A2 n0 c0 n1 c1 n2 c2 w
  have ix1 := fun w => bins_at1 A0 A1 A2 n0 c0 n1 c1 n2 c2 w
  have ix2 := fun w => bins_at2 A0 A1 A2 n0 c0 n1 c1 n2 c2 w
  go_enter Try.func36, Try.ntmps36
  go_wp2
  go_loopw [2, 6] (fun s q wr => (q = .int .i64 0 ∧ s = .int .i64 0 ∨ q = .int .i64 1 ∧ s = .int .i64 n0 ∨ q = .int .i64 2 ∧ s = .int .i64 ((n0 + n1 : Nat) : Int) ∨ q = .int .i64 3 ∧ s = .int .i64 ((n0 + n1 + n2 : Nat) : Int)) ∧ Chg [] w wr) (fun _ q _ => 3 - (intOf q).toNat)
  case atStart => exact ⟨.inl ⟨rfl, rfl⟩, by repeat (first | exact Chg.refl _ _ | apply Chg.alloc)⟩
  case round =>
    obtain ⟨h, hch⟩ := hrel
    rcases h with ⟨rfl, rfl⟩ | ⟨rfl, rfl⟩ | ⟨rfl, rfl⟩ | ⟨rfl, rfl⟩
    · go_wp2
      go_roundw
      case rel => exact ⟨.inr (.inl ⟨rfl, by first | rfl | (congr 1; omega)⟩), hch⟩
      case measure => simp [intOf]
    · go_wp2
      go_roundw
      case rel => exact ⟨.inr (.inr (.inl ⟨rfl, by first | rfl | (congr 1; omega)⟩)), hch⟩
      case measure => simp [intOf]
    · go_wp2
      go_roundw
      case rel => exact ⟨.inr (.inr (.inr ⟨rfl, by first | rfl | (congr 1; omega)⟩)), hch⟩
      case measure => simp [intOf]
    · go_wp2
      go_ret
      exact ⟨by first | rfl | (congr 2), hch⟩
end Go.Proofs.Ytelmnmepdmfihaa
