/-
  Layer 08: the changes of names, as what their closures do to a tree.
-/
import Derived.Test.YtgomofeidghmiaaVfM
namespace Go.Proofs.Ytgomofeidghmiaa
open Go.RowKit

theorem fval_nil : fval [] = [] := rfl

set_option maxRecDepth 100000 in
set_option maxHeartbeats 3200000 in
theorem mkdir1_any (tb db : Nat) (m : List (ByteArray × Value)) (dir : ByteArray) (w : World) (hm : Mp w tb kvS m) (hd : w.cell? ⟨db, 0, none⟩ = some (.string dir)) :
    Calls Try.prog 58 #[.map (some tb), .pointer (some ⟨db, 0, none⟩)] w fun e w' => e = .returned (.tuple #[]) ∧ ∃ fb, w.heap.size ≤ fb ∧ Mp w' fb kvS [] ∧ Mp w' tb kvS (aput m dir (.map (some fb))) ∧ Chg [tb] w w' := by
  have hmm := @run_makeMap Try.prog
  have hal : Chg [] w (w.alloc (.map #[] 0)) := (Chg.refl _ _).alloc _
  obtain ⟨w2, hu, hmp2, hc2⟩ := Mp.update (hm.chg hal List.not_mem_nil) (string_key Try.underlying9) Try.underlying73 dir (.map (some w.heap.size))
  have hne : w.heap.size ≠ tb := by have := hm.lt; omega
  have HN : Hid (Mp w2 w.heap.size kvS []) := Lib.hid ((Mp.made w kvS).chg hc2 (by simpa using hne))
  have HM := Lib.hid hmp2
  have HC : Hid (Chg [tb] w w2) := Lib.hid ((hal.nil [tb]).trans hc2 (fun x hx => .inl hx))
  clear hm hmp2 hc2 hne hal
  go_enter Try.func58, Try.ntmps58
  go_wp2
  go_end0
  exact ⟨rfl, _, Nat.le_refl _, HN.out, HM.out, HC.out⟩

set_option maxRecDepth 100000 in
set_option maxHeartbeats 3200000 in
theorem rmdir1_any (tb db : Nat) (m : List (ByteArray × Value)) (dir : ByteArray) (w : World) (hm : Mp w tb kvS m) (hd : w.cell? ⟨db, 0, none⟩ = some (.string dir)) :
    Calls Try.prog 73 #[.map (some tb), .pointer (some ⟨db, 0, none⟩)] w fun e w' => e = .returned (.tuple #[]) ∧ Mp w' tb kvS (adel m dir) ∧ Chg [tb] w w' := by
  obtain ⟨w2, hu, hmp2, hc2⟩ := Mp.del hm (ty := 0) (string_key Try.underlying9) Try.underlying73 dir 9
  have HM := Lib.hid hmp2
  have HC := Lib.hid hc2
  clear hm hmp2 hc2
  go_enter Try.func73, Try.ntmps73
  go_wp2
  go_end0
  exact ⟨rfl, HM.out, HC.out⟩

set_option maxRecDepth 100000 in
set_option maxHeartbeats 3200000 in
theorem remove1_any (tb fb db nb : Nat) (m f : List (ByteArray × Value)) (dir name : ByteArray) (w : World) (hm : Mp w tb kvS m) (hf : Mp w fb kvS f) (hg : aget m dir = some (.map (some fb)))
    (hd : w.cell? ⟨db, 0, none⟩ = some (.string dir)) (hn : w.cell? ⟨nb, 0, none⟩ = some (.string name)) :
    Calls Try.prog 72 #[.map (some tb), .pointer (some ⟨db, 0, none⟩), .pointer (some ⟨nb, 0, none⟩)] w fun e w' => e = .returned (.tuple #[]) ∧ Mp w' fb kvS (adel f name) ∧ Chg [fb] w w' := by
  obtain ⟨w2, hu, hmp2, hc2⟩ := Mp.del hf (ty := 0) (string_key Try.underlying9) Try.underlying80 name 9
  have hl := (Mp.lookup hm (string_key Try.underlying9) Try.underlying73 (z := .map none) (by kernel_rfl) dir).1
  rw [hg, Option.getD_some] at hl
  have HM := Lib.hid hmp2
  have HC := Lib.hid hc2
  clear hm hf hmp2 hc2 hg
  go_enter Try.func72, Try.ntmps72
  go_wp2
  go_end0
  exact ⟨rfl, HM.out, HC.out⟩

set_option maxRecDepth 100000 in
set_option maxHeartbeats 3200000 in
theorem create1_any (tb fb xb db nb ib : Nat) (m f : List (ByteArray × Value)) (dir name : ByteArray) (w : World) (hm : Mp w tb kvS m) (hf : Mp w fb kvS f) (hg : aget m dir = some (.map (some fb)))
    (hx : w.cell? ⟨xb, 0, none⟩ = some (.pointer (some ⟨ib, 0, none⟩))) (hd : w.cell? ⟨db, 0, none⟩ = some (.string dir)) (hn : w.cell? ⟨nb, 0, none⟩ = some (.string name)) :
    Calls Try.prog 59 #[.map (some tb), .pointer (some ⟨xb, 0, none⟩), .pointer (some ⟨db, 0, none⟩), .pointer (some ⟨nb, 0, none⟩)] w fun e w' => e = .returned (.tuple #[]) ∧ Mp w' fb kvS (aput f name (.pointer (some ⟨ib, 0, none⟩))) ∧ Chg [fb] w w' := by
  obtain ⟨w2, hu, hmp2, hc2⟩ := Mp.update hf (string_key Try.underlying9) Try.underlying80 name (.pointer (some ⟨ib, 0, none⟩))
  have hl := (Mp.lookup hm (string_key Try.underlying9) Try.underlying73 (z := .map none) (by kernel_rfl) dir).1
  rw [hg, Option.getD_some] at hl
  have HM := Lib.hid hmp2
  have HC := Lib.hid hc2
  clear hm hf hmp2 hc2 hg
  go_enter Try.func59, Try.ntmps59
  go_wp2
  go_end0
  exact ⟨rfl, HM.out, HC.out⟩

set_option maxRecDepth 100000 in
set_option maxHeartbeats 3200000 in
theorem rename1_any (tb fb db nb : Nat) (m : List (ByteArray × Value)) (src dst : ByteArray) (w : World) (hm : Mp w tb kvS m) (hg : aget m src = some (.map (some fb)))
    (hd : w.cell? ⟨db, 0, none⟩ = some (.string src)) (hn : w.cell? ⟨nb, 0, none⟩ = some (.string dst)) (h1 : db ≠ tb) (h2 : nb ≠ tb) :
    Calls Try.prog 57 #[.map (some tb), .pointer (some ⟨db, 0, none⟩), .pointer (some ⟨nb, 0, none⟩)] w fun e w' => e = .returned (.tuple #[]) ∧ Mp w' tb kvS (aput (adel m src) dst (.map (some fb))) ∧ Chg [tb] w w' := by
  have hl := (Mp.lookup hm (string_key Try.underlying9) Try.underlying73 (z := .map none) (by kernel_rfl) src).1
  rw [hg, Option.getD_some] at hl
  obtain ⟨w2, hu, hmp2, hc2⟩ := Mp.del hm (ty := 0) (string_key Try.underlying9) Try.underlying73 src 9
  obtain ⟨w3, hu3, hmp3, hc3⟩ := Mp.update hmp2 (string_key Try.underlying9) Try.underlying73 dst (.map (some fb))
  have hn2 := hc2.cell hn (by simpa using h2)
  have HM := Lib.hid hmp3
  have HC : Hid (Chg [tb] w w3) := Lib.hid (hc2.trans hc3 (fun x hx => .inl hx))
  clear hm hmp2 hc2 hmp3 hc3 hg
  go_enter Try.func57, Try.ntmps57
  go_wp2
  go_end0
  exact ⟨rfl, HM.out, HC.out⟩
end Go.Proofs.Ytgomofeidghmiaa
