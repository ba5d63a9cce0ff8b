/-
  Layer 08: sorted keys of a map that stands for a directory: the directory's names in order.
-/
import Derived.Test.YtgomofeidghmiaaVfK
import Derived.Test.YtgomofeidghmiaaVfPl
namespace Go.Proofs.Ytgomofeidghmiaa
open Go.RowKit Go.Sort

theorem mk_toList (l : List ByteArray) : (l.map (·.data.toList)).map (fun l => (⟨l.toArray⟩ : ByteArray)) = l := by
  rw [List.map_map]
  conv => rhs; rw [← List.map_id l]
  exact List.map_congr_left fun x _ => by cases x; rfl
theorem srt_eq {α β : Type} {m : List (ByteArray × β)} {t : List (ByteArray × α)} (hp : (m.map Prod.fst).Perm (t.map Prod.fst)) (hs : Srt t) : srt (m.map Prod.fst) = t.map Prod.fst := by
  unfold srt
  rw [show ((m.map Prod.fst).map (·.data.toList)).mergeSort (fun x y => decide (x ≤ y)) = ((t.map Prod.fst).map (·.data.toList)).mergeSort (fun x y => decide (x ≤ y)) from mergeSort_of_perm (hp.map _)]
  rw [List.mergeSort_of_pairwise]
  · exact mk_toList _
  · refine List.Pairwise.map _ (fun a b hab => ?_) hs
    rw [ltS_iff] at hab
    simp only [decide_eq_true_eq]
    exact List.le_of_lt hab
end Go.Proofs.Ytgomofeidghmiaa
