/-
  Layer 08: the walks of VfsNames, VfsPaths.
-/
import Derived.Test.YtgomofeidghmiaaVfSp
namespace Go.Proofs.Ytgomofeidghmiaa
open Go.RowKit

set_option maxRecDepth 100000 in
set_option maxHeartbeats 1600000 in
theorem lvnames_any (w : World) : Calls Try.prog 3 #[] w fun e w' => e = .returned (.bool true) ∧ Chg [] w w' := by
  go_enter Try.func3, Try.ntmps3
  go_wp2_with fail
  refine (speaks_any w).mono ?_
  rintro e w1 ⟨rfl, hc⟩
  have HC := Lib.hid hc
  clear hc
  go_wp2
  go_ret
  exact ⟨rfl, HC.out⟩

set_option maxRecDepth 100000 in
set_option maxHeartbeats 1600000 in
theorem lvpaths_any (s : ByteArray) (w : World) : Calls Try.prog 4 #[.string s] w fun e w' => e = .returned (.bool true) ∧ Chg [] w w' := by
  go_enter Try.func4, Try.ntmps4
  go_wp2_with fail
  refine (speaks_any w).mono ?_
  rintro e w1 ⟨rfl, hc⟩
  have HC := Lib.hid hc
  clear hc
  go_wp2_with fail
  refine (good_any s w1).mono ?_
  rintro e w2 ⟨rfl, rfl⟩
  go_wp2_with fail
  refine (rgood_any s _).mono ?_
  rintro e w3 ⟨rfl, hc3⟩
  have HC3 := Lib.hid hc3
  clear hc3
  cases goodP s
  all_goals
    go_wp2
    go_ret
    exact ⟨rfl, HC.out.trans0 HC3.out⟩
end Go.Proofs.Ytgomofeidghmiaa
