/-
  Layer 08: arguments opened.
-/
import Derived.Test.YtgomofeidghmiaaLwR
import Derived.Test.YtgomofeidghmiaaVfS
import Derived.Lib.SmallJoins
namespace Go.Proofs.Ytgomofeidghmiaa
open Go.RowKit Go.ChangeShapes Go.WideShapes Go.Deep

theorem trodAll_none {H : Type} {enc : TypeId × Value → H} {P : Program} {w : World} {base : Nat} {spare : Nat → Bool} {held : Bool} {args : Array Value} {ds : List (DataW H)} {ps : List MemPlace} (h : DataW.TrodAll enc P w base spare held [] args.toList ds ps) :
    args = #[] ∧ ds = [] ∧ ps = [] := by
  cases args with
  | mk l =>
    cases l with
    | nil =>
      cases ds with
      | nil => cases ps with
        | nil => exact ⟨rfl, rfl, rfl⟩
        | cons p r => exact absurd h (by simp [DataW.TrodAll])
      | cons d r => exact absurd h (by simp [DataW.TrodAll])
    | cons v r => exact absurd h (by cases ds <;> simp [DataW.TrodAll])
theorem trodAll_one8 {H : Type} {enc : TypeId × Value → H} {P : Program} {w : World} {base : Nat} {spare : Nat → Bool} {held : Bool} {t : TypeId} {args : Array Value} {ds : List (DataW H)} {ps : List MemPlace} (h : DataW.TrodAll enc P w base spare held [t] args.toList ds ps) :
    ∃ v d p, args = #[v] ∧ ds = [d] ∧ ps = p ∧ DataW.Trod enc P w base spare held t v d p := by
  obtain ⟨v, d, h1, h2, h3⟩ := trodAll_one h
  exact ⟨v, d, ps, h1, h2, rfl, h3⟩
end Go.Proofs.Ytgomofeidghmiaa
