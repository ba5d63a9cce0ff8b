/-
  Layer 17, plain: the example of the document, reckoned.
-/
import Derived.Test.YtelmnmepdmfihaaGrR
namespace Go.Proofs.Ytelmnmepdmfihaa
open Go.RowKit

def fourL : List Lk := [⟨true, 5, 6, -1, -1, -1, -1⟩, ⟨true, 5, 5, -1, -1, -1, -1⟩, ⟨true, 6, 5, -1, -1, -1, -1⟩, ⟨true, 5, 7, -1, -1, -1, -1⟩]
def fourT : List Int := [2, 1, 2, 2]
def fourO : List Lk := [⟨true, 5, 6, -1, -1, 3, -1⟩, ⟨true, 5, 5, -1, -1, -1, -1⟩, ⟨true, 6, 5, -1, -1, -1, -1⟩, ⟨true, 5, 7, 0, -1, -1, -1⟩]
def fourG : List Lk := [⟨true, 1, 5, -1, -1, 1, 5⟩, ⟨true, 2, 5, 0, 2, -1, -1⟩]
def fourA : List Lk := [lk0, lk0, lk0, lk0, ⟨true, 1, 5, -1, -1, 1, 5⟩, ⟨true, 2, 5, 0, 2, -1, -1⟩]
theorem four_e : mkE fourL fourT 5 4 = 0 := by decide
theorem four_l : mkL fourL fourT 5 4 = fourO := by decide
theorem four_g : mkG fourL fourT 5 4 = fourG := by decide
theorem four_gl : (gather fourO fourT 5).length = 2 := by decide
theorem four_r : reads fourO fourT fourA 5 4 = ([oneB fourO ⟨true, 1, 5, -1, -1, 1, 5⟩, oneB fourO ⟨true, 2, 5, 0, 2, -1, -1⟩], 0) := by
  unfold reads
  rw [if_neg (by decide)]
  refine (rdg_step (ls := fourO) (ts := fourT) (gs := fourA) (node := 5) (f := 6) (acc := []) (held := 0) (j := 4) (g := ⟨true, 1, 5, -1, -1, 1, 5⟩) rfl rfl (by rintro (h | ⟨b, hb, _⟩); exact h rfl; simp at hb) (by decide)).trans ?_
  refine (rdg_step (ls := fourO) (ts := fourT) (gs := fourA) (node := 5) (f := 5) (acc := [] ++ [oneB fourO ⟨true, 1, 5, -1, -1, 1, 5⟩]) (j := 5) (g := ⟨true, 2, 5, 0, 2, -1, -1⟩) rfl rfl (by rintro (h | ⟨b, hb, hle⟩); exact h rfl; (simp at hb; subst hb; simp [oneB] at hle)) (by decide)).trans ?_
  refine (rdg_end (f := 4)).trans ?_
  rw [if_pos (by decide)]
  rfl
theorem four_f : (oneB fourO ⟨true, 2, 5, 0, 2, -1, -1⟩).f 0 = [0, 3] := by decide
end Go.Proofs.Ytelmnmepdmfihaa
