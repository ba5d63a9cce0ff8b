/-
  Layer 13: the example of the document.
-/
import Derived.Test.YthlpojaohdpjgaaLkN
namespace Go.Proofs.Ythlpojaohdpjgaa
open Go.RowKit

theorem Own.lit' (w : World) (e : TypeId) (sz : Nat) (cs : Array Value) (n g : Nat) (xs : List Value) (hg : g = w.heap.size) (hx : cs.toList = xs) (hm : n ≤ maxLen) (hs : cs.size = n * sz) : Own (w.alloc (.cells cs e)) e sz (some ⟨g, 0, none⟩) n n xs := by
  subst hg; subst hx; exact Own.lit w e sz cs n hm hs
/-- the document's example -/
def threeL : List Lk := [⟨true, 5, 6, -1, -1, -1, -1⟩, ⟨true, 5, 5, -1, -1, -1, -1⟩, ⟨true, 6, 5, -1, -1, -1, -1⟩]
set_option maxHeartbeats 1600000 in
theorem three_any (w : World) : Calls Try.prog 20 #[] w (NewRow 46 7 w (lvs threeL) 3) := by
  go_enter Try.func20, Try.ntmps20
  go_wp2
  go_region
  all_goals go_wp2
  all_goals go_ret
  all_goals refine ⟨_, _, rfl, ?_, by repeat (first | exact Chg.refl _ _ | apply Chg.drewN | apply Chg.alloc | refine Chg.setCell ?_ (by right; first | exact Nat.le_refl _ | (simp <;> omega)) _), by simp <;> omega⟩
  all_goals exact Own.lit' _ 46 7 _ 3 _ _ (by simp) (by rfl) (by decide) (by rfl)
end Go.Proofs.Ythlpojaohdpjgaa
