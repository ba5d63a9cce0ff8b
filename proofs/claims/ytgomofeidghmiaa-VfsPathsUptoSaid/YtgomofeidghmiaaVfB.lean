/-
  Layer 08: small functions: Down, Steps, inOrder.
-/
import Derived.Test.YtgomofeidghmiaaVfA
namespace Go.Proofs.Ytgomofeidghmiaa
open Go.RowKit

/-- is the power off? -/
def downB (a s : Int) : Bool := decide (0 ≤ a) && decide (a ≤ s)

set_option maxRecDepth 100000 in
set_option maxHeartbeats 1600000 in
theorem down_any (b : Nat) (a s : Int) (w : World) (h5 : w.cell? ⟨b, 5, none⟩ = some (.int .i64 a)) (h6 : w.cell? ⟨b, 6, none⟩ = some (.int .i64 s)) :
    Calls Try.prog 23 #[.pointer (some ⟨b, 0, none⟩)] w fun e w' => e = .returned (.bool (downB a s)) ∧ Chg [] w w' := by
  by_cases ha : 0 ≤ a
  · have d1 : decide (0 ≤ a) = true := by simp [ha]
    have HD : Hid (downB a s = decide (a ≤ s)) := Lib.hid (by unfold downB; rw [d1, Bool.true_and])
    clear ha
    go_enter Try.func23, Try.ntmps23
    go_wp2
    go_quiet (fail)
    go_wp2
    go_ret
    exact ⟨by rw [HD.out]; rfl, (Chg.refl [] w).drewN _⟩
  · have d1 : decide (0 ≤ a) = false := by simp; omega
    have HD : Hid (downB a s = false) := Lib.hid (by unfold downB; rw [d1, Bool.false_and])
    clear ha
    go_enter Try.func23, Try.ntmps23
    go_wp2
    go_quiet (fail)
    go_wp2
    go_ret
    exact ⟨by rw [HD.out]; rfl, (Chg.refl [] w).drewN _⟩

set_option maxRecDepth 100000 in
set_option maxHeartbeats 1600000 in
theorem rdown_any (b : Nat) (a s : Int) (w : World) (h5 : w.cell? ⟨b, 6, none⟩ = some (.int .i64 a)) (h6 : w.cell? ⟨b, 7, none⟩ = some (.int .i64 s)) :
    Calls Try.prog 24 #[.pointer (some ⟨b, 0, none⟩)] w fun e w' => e = .returned (.bool (downB a s)) ∧ Chg [] w w' := by
  by_cases ha : 0 ≤ a
  · have d1 : decide (0 ≤ a) = true := by simp [ha]
    have HD : Hid (downB a s = decide (a ≤ s)) := Lib.hid (by unfold downB; rw [d1, Bool.true_and])
    clear ha
    go_enter Try.func24, Try.ntmps24
    go_wp2
    go_quiet (fail)
    go_wp2
    go_ret
    exact ⟨by rw [HD.out]; rfl, (Chg.refl [] w).drewN _⟩
  · have d1 : decide (0 ≤ a) = false := by simp; omega
    have HD : Hid (downB a s = false) := Lib.hid (by unfold downB; rw [d1, Bool.false_and])
    clear ha
    go_enter Try.func24, Try.ntmps24
    go_wp2
    go_quiet (fail)
    go_wp2
    go_ret
    exact ⟨by rw [HD.out]; rfl, (Chg.refl [] w).drewN _⟩

theorem steps_any (b : Nat) (s : Int) (w : World) (h6 : w.cell? ⟨b, 6, none⟩ = some (.int .i64 s)) :
    Calls Try.prog 22 #[.pointer (some ⟨b, 0, none⟩)] w fun e w' => e = .returned (.int .i64 s) ∧ w' = w := by
  go_enter Try.func22, Try.ntmps22
  go_wp2
  go_ret
  exact ⟨rfl, rfl⟩

/-- text a is not behind text b -/
def leS (a b : ByteArray) : Bool := Op.bytesLess a.toList b.toList || a.toList == b.toList
theorem run_leq_str (a b : ByteArray) (w : World) : (binOp .leq 9 (.string a) (.string b)).run Try.prog w = .ok (.bool (leS a b)) w := by
  simp [binOp, Op.stringOp, leS]

/-- is a name in its place? its error's number -/
def ordE (f : Bool) (last name : ByteArray) : Int := if goodP name = false then 81 else if f = false ∧ leS name last = true then 6 else 0

set_option maxRecDepth 100000 in
set_option maxHeartbeats 1600000 in
theorem inorder_any (f : Bool) (last name : ByteArray) (w : World) :
    Calls Try.prog 37 #[.bool f, .string last, .string name] w fun e w' => e = .returned (.int .i64 (ordE f last name)) ∧ w' = w := by
  have hle := fun w => run_leq_str name last w
  cases hg : goodP name with
  | false =>
    have HR : Hid (ordE f last name = 81) := Lib.hid (by unfold ordE; rw [if_pos hg])
    go_enter Try.func37, Try.ntmps37
    go_wp2_with fail
    refine (good_any name _).mono ?_
    rintro e w1 ⟨rfl, rfl⟩
    rw [hg]
    go_wp2
    go_ret
    exact ⟨by rw [HR.out]; rfl, rfl⟩
  | true =>
    cases f with
    | true =>
      have HR : Hid (ordE true last name = 0) := Lib.hid (by unfold ordE; rw [if_neg (by simp [hg]), if_neg (by simp)])
      go_enter Try.func37, Try.ntmps37
      go_wp2_with fail
      refine (good_any name _).mono ?_
      rintro e w1 ⟨rfl, rfl⟩
      rw [hg]
      go_wp2
      go_ret
      exact ⟨by rw [HR.out]; rfl, rfl⟩
    | false =>
      cases hl : leS name last with
      | true =>
        have HR : Hid (ordE false last name = 6) := Lib.hid (by unfold ordE; rw [if_neg (by simp [hg]), if_pos ⟨rfl, hl⟩])
        rw [hl] at hle
        go_enter Try.func37, Try.ntmps37
        go_wp2_with fail
        refine (good_any name _).mono ?_
        rintro e w1 ⟨rfl, rfl⟩
        rw [hg]
        go_wp2
        go_ret
        exact ⟨by rw [HR.out]; rfl, rfl⟩
      | false =>
        have HR : Hid (ordE false last name = 0) := Lib.hid (by unfold ordE; rw [if_neg (by simp [hg]), if_neg (by simp [hl])])
        rw [hl] at hle
        go_enter Try.func37, Try.ntmps37
        go_wp2_with fail
        refine (good_any name _).mono ?_
        rintro e w1 ⟨rfl, rfl⟩
        rw [hg]
        go_wp2
        go_ret
        exact ⟨by rw [HR.out]; rfl, rfl⟩
end Go.Proofs.Ytgomofeidghmiaa
