/-
  No cell of these rows narrows 'for every input' (looked for: loops, veiled, ifaces, maps, wideKeys, modest, calm, conditions, laid).
  DERIVED. THE GIVEN ROWS OF THIS SEAT. 7 by the template 'for every input the law returns true; each argument reads behind the call as it read before'; 0 by the template 'total and deterministic' (their statements: YtgomofeidghmiaaTotals.lean).
  GIVEN WITH THE SEED: the statements are not yours to turn. If you find one false, say at which input.
  Laid BY PROGRAM, IN A SANDBOX (cutbox-rows.mjs): the forced cells as the released guide's own fill.sh prints them over the translation 0230972175fbf88b… (all of the seat's roots in one cut). By AI agents, Wed Nov 11 2026. No macro, syntax, notation, axiom, sorry.
-/
import Derived.Test.YtgomofeidghmiaaChecked
import GoSem.Claim
import GoSem.ClaimJoined
import GoSem.ClaimMapViews
import Derived.JoinedTies
import Derived.KernelRfl
namespace Go.Proofs.Ytgomofeidghmiaa
/- THE CELL 'sum', in the pinned program and in every row, IS THE sha256 OF THE DUMP (.gsa) THAT YtgomofeidghmiaaProg.lean LOADS. Nothing in Lean hashes anything: it is a label: what it is worth is what the hold of that sum in a sandbox is worth. -/
noncomputable def Try.pinned : Pinned := { name := "ytgomofeidghmiaa", sum := "0230972175fbf88b4be5a9567ad0d04964594f900d52db568bafc182790c6351", checked := Try.checked }
namespace Rows
def none {H : Type} : Left H := { results := [], args := [] }

/-- 'satchellaw08.VfsNames': WHATEVER THE INPUT: true; the input reads as it did. -/
def vfsNamesSpec : ChangeSpec := { name := "vfsNames", fn := fun _ => fun
  | [] => { results := [.lit (.bool true)], args := [] }
  | _ => none }
def vfsNamesRow : OpenClaim := { program := "ytgomofeidghmiaa", sum := "0230972175fbf88b4be5a9567ad0d04964594f900d52db568bafc182790c6351", func := "satchel/satchellaw08.VfsNames", spec := "vfsNames", inPlace := ["maps.clone"], unfollowed := true, recurses := true, apart := false }
def VfsNamesSaid : Prop := vfsNamesRow.holds Try.pinned (OpenSpec.ofChange vfsNamesSpec)

/-- ITS FALSE NEIGHBOUR: 'it returns false'. Refute it at one input. -/
def vfsNamesWrong : ChangeSpec := { name := "vfsNames", fn := fun _ => fun
  | [] => { results := [.lit (.bool false)], args := [] }
  | _ => none }
def VfsNamesWrongFalsely : Prop := vfsNamesRow.holds Try.pinned (OpenSpec.ofChange vfsNamesWrong)

/-- 'satchellaw08.VfsPaths': WHATEVER THE INPUT: true; the input reads as it did. -/
def vfsPathsSpec : ChangeSpec := { name := "vfsPaths", fn := fun _ => fun
  | [d] => { results := [.lit (.bool true)], args := [d] }
  | _ => none }
def vfsPathsRow : OpenClaim := { program := "ytgomofeidghmiaa", sum := "0230972175fbf88b4be5a9567ad0d04964594f900d52db568bafc182790c6351", func := "satchel/satchellaw08.VfsPaths", spec := "vfsPaths", inPlace := ["maps.clone"], unfollowed := true, recurses := true, apart := false }
def VfsPathsSaid : Prop := vfsPathsRow.holds Try.pinned (OpenSpec.ofChange vfsPathsSpec)

/-- ITS FALSE NEIGHBOUR: 'it returns false'. Refute it at one input. -/
def vfsPathsWrong : ChangeSpec := { name := "vfsPaths", fn := fun _ => fun
  | [d] => { results := [.lit (.bool false)], args := [d] }
  | _ => none }
def VfsPathsWrongFalsely : Prop := vfsPathsRow.holds Try.pinned (OpenSpec.ofChange vfsPathsWrong)

/-- 'satchellaw08.VfsOpens': WHATEVER THE INPUT: true; the input reads as it did. -/
def vfsOpensSpec : ChangeSpec := { name := "vfsOpens", fn := fun _ => fun
  | [d] => { results := [.lit (.bool true)], args := [d] }
  | _ => none }
def vfsOpensRow : OpenClaim := { program := "ytgomofeidghmiaa", sum := "0230972175fbf88b4be5a9567ad0d04964594f900d52db568bafc182790c6351", func := "satchel/satchellaw08.VfsOpens", spec := "vfsOpens", inPlace := ["maps.clone"], unfollowed := true, recurses := true, apart := false }
def VfsOpensSaid : Prop := vfsOpensRow.holds Try.pinned (OpenSpec.ofChange vfsOpensSpec)

/-- ITS FALSE NEIGHBOUR: 'it returns false'. Refute it at one input. -/
def vfsOpensWrong : ChangeSpec := { name := "vfsOpens", fn := fun _ => fun
  | [d] => { results := [.lit (.bool false)], args := [d] }
  | _ => none }
def VfsOpensWrongFalsely : Prop := vfsOpensRow.holds Try.pinned (OpenSpec.ofChange vfsOpensWrong)

/-- 'satchellaw08.VfsSyncs': WHATEVER THE INPUT: true; the input reads as it did. -/
def vfsSyncsSpec : ChangeSpec := { name := "vfsSyncs", fn := fun _ => fun
  | [d1, d2, d3] => { results := [.lit (.bool true)], args := [d1, d2, d3] }
  | _ => none }
def vfsSyncsRow : OpenClaim := { program := "ytgomofeidghmiaa", sum := "0230972175fbf88b4be5a9567ad0d04964594f900d52db568bafc182790c6351", func := "satchel/satchellaw08.VfsSyncs", spec := "vfsSyncs", inPlace := ["maps.clone"], unfollowed := true, recurses := true, apart := false }
def VfsSyncsSaid : Prop := vfsSyncsRow.holds Try.pinned (OpenSpec.ofChange vfsSyncsSpec)

/-- ITS FALSE NEIGHBOUR: 'it returns false'. Refute it at one input. -/
def vfsSyncsWrong : ChangeSpec := { name := "vfsSyncs", fn := fun _ => fun
  | [d1, d2, d3] => { results := [.lit (.bool false)], args := [d1, d2, d3] }
  | _ => none }
def VfsSyncsWrongFalsely : Prop := vfsSyncsRow.holds Try.pinned (OpenSpec.ofChange vfsSyncsWrong)

/-- 'satchellaw08.VfsAtomic': WHATEVER THE INPUT: true; the input reads as it did. -/
def vfsAtomicSpec : ChangeSpec := { name := "vfsAtomic", fn := fun _ => fun
  | [d1, d2, d3] => { results := [.lit (.bool true)], args := [d1, d2, d3] }
  | _ => none }
def vfsAtomicRow : OpenClaim := { program := "ytgomofeidghmiaa", sum := "0230972175fbf88b4be5a9567ad0d04964594f900d52db568bafc182790c6351", func := "satchel/satchellaw08.VfsAtomic", spec := "vfsAtomic", inPlace := ["maps.clone"], unfollowed := true, recurses := true, apart := false }
def VfsAtomicSaid : Prop := vfsAtomicRow.holds Try.pinned (OpenSpec.ofChange vfsAtomicSpec)

/-- ITS FALSE NEIGHBOUR: 'it returns false'. Refute it at one input. -/
def vfsAtomicWrong : ChangeSpec := { name := "vfsAtomic", fn := fun _ => fun
  | [d1, d2, d3] => { results := [.lit (.bool false)], args := [d1, d2, d3] }
  | _ => none }
def VfsAtomicWrongFalsely : Prop := vfsAtomicRow.holds Try.pinned (OpenSpec.ofChange vfsAtomicWrong)

/-- 'satchellaw08.VfsQuota': WHATEVER THE INPUT: true; the input reads as it did. -/
def vfsQuotaSpec : ChangeSpec := { name := "vfsQuota", fn := fun _ => fun
  | [d1, d2] => { results := [.lit (.bool true)], args := [d1, d2] }
  | _ => none }
def vfsQuotaRow : OpenClaim := { program := "ytgomofeidghmiaa", sum := "0230972175fbf88b4be5a9567ad0d04964594f900d52db568bafc182790c6351", func := "satchel/satchellaw08.VfsQuota", spec := "vfsQuota", inPlace := ["maps.clone"], unfollowed := true, recurses := true, apart := false }
def VfsQuotaSaid : Prop := vfsQuotaRow.holds Try.pinned (OpenSpec.ofChange vfsQuotaSpec)

/-- ITS FALSE NEIGHBOUR: 'it returns false'. Refute it at one input. -/
def vfsQuotaWrong : ChangeSpec := { name := "vfsQuota", fn := fun _ => fun
  | [d1, d2] => { results := [.lit (.bool false)], args := [d1, d2] }
  | _ => none }
def VfsQuotaWrongFalsely : Prop := vfsQuotaRow.holds Try.pinned (OpenSpec.ofChange vfsQuotaWrong)

/-- 'satchellaw08.VfsPower': WHATEVER THE INPUT: true; the input reads as it did. -/
def vfsPowerSpec : ChangeSpec := { name := "vfsPower", fn := fun _ => fun
  | [d1, d2, d3] => { results := [.lit (.bool true)], args := [d1, d2, d3] }
  | _ => none }
def vfsPowerRow : OpenClaim := { program := "ytgomofeidghmiaa", sum := "0230972175fbf88b4be5a9567ad0d04964594f900d52db568bafc182790c6351", func := "satchel/satchellaw08.VfsPower", spec := "vfsPower", inPlace := ["maps.clone"], unfollowed := true, recurses := true, apart := false }
def VfsPowerSaid : Prop := vfsPowerRow.holds Try.pinned (OpenSpec.ofChange vfsPowerSpec)

/-- ITS FALSE NEIGHBOUR: 'it returns false'. Refute it at one input. -/
def vfsPowerWrong : ChangeSpec := { name := "vfsPower", fn := fun _ => fun
  | [d1, d2, d3] => { results := [.lit (.bool false)], args := [d1, d2, d3] }
  | _ => none }
def VfsPowerWrongFalsely : Prop := vfsPowerRow.holds Try.pinned (OpenSpec.ofChange vfsPowerWrong)

/- THE SECOND FORM. 'bulk': how many values and letters a reading holds, each counted each time it is reached (what is shared counts as often as it is met; a slice's spare places count too). A statement '..UptoSaid' is the law's where the arguments, and the package variables that the reading takes, are together of bulk at most 1048576: NARROWER than '..Said'. Prove '..Said' where nothing that the law and all that it calls make is longer than what came in: it says more and counts as full. Else prove '..UptoSaid'. A law counts once. -/
mutual
def uptoBulk {H : Type} : DataW H → Nat
  | .lit (.string bytes) => bytes.length + 1
  | .lit _ => 1
  | .nil => 1
  | .ptr d => uptoBulk d + 1
  | .slice elems spare => uptoBulkAll elems + uptoBulkAll spare + 1
  | .agg parts => uptoBulkAll parts + 1
  | .iface _ d => uptoBulk d + 1
  | .map entries => uptoBulkEntries entries + 1
  | .held _ => 1
def uptoBulkAll {H : Type} : List (DataW H) → Nat
  | [] => 0
  | d :: r => uptoBulk d + uptoBulkAll r
def uptoBulkEntries {H : Type} : List (Lit × DataW H) → Nat
  | [] => 0
  | x :: r => uptoBulkEntry x + uptoBulkEntries r
def uptoBulkEntry {H : Type} : Lit × DataW H → Nat
  | (.string bytes, d) => bytes.length + uptoBulk d + 1
  | (_, d) => uptoBulk d + 1
 end
def uptoSmall : (H : Type) → List (DataW H) → Bool := fun _ ds => decide (uptoBulkAll ds ≤ 1048576)
def OpenSpec.upto (s : _root_.Go.ChangeSpec) : _root_.Go.OpenSpec := { _root_.Go.OpenSpec.ofChange s with cond := some uptoSmall }

/-- 'satchellaw08.VfsNames', WHERE WHAT IT READS IS OF BULK AT MOST 1048576: true; the input reads as it did. -/
def vfsNamesUptoRow : OpenClaim := { program := "ytgomofeidghmiaa", sum := "0230972175fbf88b4be5a9567ad0d04964594f900d52db568bafc182790c6351", func := "satchel/satchellaw08.VfsNames", spec := "vfsNames", inPlace := ["maps.clone"], unfollowed := true, recurses := true, apart := false, narrowed := true }
def VfsNamesUptoSaid : Prop := vfsNamesUptoRow.holds Try.pinned (OpenSpec.upto vfsNamesSpec)

/-- 'satchellaw08.VfsPaths', WHERE WHAT IT READS IS OF BULK AT MOST 1048576: true; the input reads as it did. -/
def vfsPathsUptoRow : OpenClaim := { program := "ytgomofeidghmiaa", sum := "0230972175fbf88b4be5a9567ad0d04964594f900d52db568bafc182790c6351", func := "satchel/satchellaw08.VfsPaths", spec := "vfsPaths", inPlace := ["maps.clone"], unfollowed := true, recurses := true, apart := false, narrowed := true }
def VfsPathsUptoSaid : Prop := vfsPathsUptoRow.holds Try.pinned (OpenSpec.upto vfsPathsSpec)

/-- 'satchellaw08.VfsOpens', WHERE WHAT IT READS IS OF BULK AT MOST 1048576: true; the input reads as it did. -/
def vfsOpensUptoRow : OpenClaim := { program := "ytgomofeidghmiaa", sum := "0230972175fbf88b4be5a9567ad0d04964594f900d52db568bafc182790c6351", func := "satchel/satchellaw08.VfsOpens", spec := "vfsOpens", inPlace := ["maps.clone"], unfollowed := true, recurses := true, apart := false, narrowed := true }
def VfsOpensUptoSaid : Prop := vfsOpensUptoRow.holds Try.pinned (OpenSpec.upto vfsOpensSpec)

/-- 'satchellaw08.VfsSyncs', WHERE WHAT IT READS IS OF BULK AT MOST 1048576: true; the input reads as it did. -/
def vfsSyncsUptoRow : OpenClaim := { program := "ytgomofeidghmiaa", sum := "0230972175fbf88b4be5a9567ad0d04964594f900d52db568bafc182790c6351", func := "satchel/satchellaw08.VfsSyncs", spec := "vfsSyncs", inPlace := ["maps.clone"], unfollowed := true, recurses := true, apart := false, narrowed := true }
def VfsSyncsUptoSaid : Prop := vfsSyncsUptoRow.holds Try.pinned (OpenSpec.upto vfsSyncsSpec)

/-- 'satchellaw08.VfsAtomic', WHERE WHAT IT READS IS OF BULK AT MOST 1048576: true; the input reads as it did. -/
def vfsAtomicUptoRow : OpenClaim := { program := "ytgomofeidghmiaa", sum := "0230972175fbf88b4be5a9567ad0d04964594f900d52db568bafc182790c6351", func := "satchel/satchellaw08.VfsAtomic", spec := "vfsAtomic", inPlace := ["maps.clone"], unfollowed := true, recurses := true, apart := false, narrowed := true }
def VfsAtomicUptoSaid : Prop := vfsAtomicUptoRow.holds Try.pinned (OpenSpec.upto vfsAtomicSpec)

/-- 'satchellaw08.VfsQuota', WHERE WHAT IT READS IS OF BULK AT MOST 1048576: true; the input reads as it did. -/
def vfsQuotaUptoRow : OpenClaim := { program := "ytgomofeidghmiaa", sum := "0230972175fbf88b4be5a9567ad0d04964594f900d52db568bafc182790c6351", func := "satchel/satchellaw08.VfsQuota", spec := "vfsQuota", inPlace := ["maps.clone"], unfollowed := true, recurses := true, apart := false, narrowed := true }
def VfsQuotaUptoSaid : Prop := vfsQuotaUptoRow.holds Try.pinned (OpenSpec.upto vfsQuotaSpec)

/-- 'satchellaw08.VfsPower', WHERE WHAT IT READS IS OF BULK AT MOST 1048576: true; the input reads as it did. -/
def vfsPowerUptoRow : OpenClaim := { program := "ytgomofeidghmiaa", sum := "0230972175fbf88b4be5a9567ad0d04964594f900d52db568bafc182790c6351", func := "satchel/satchellaw08.VfsPower", spec := "vfsPower", inPlace := ["maps.clone"], unfollowed := true, recurses := true, apart := false, narrowed := true }
def VfsPowerUptoSaid : Prop := vfsPowerUptoRow.holds Try.pinned (OpenSpec.upto vfsPowerSpec)

end Rows
end Go.Proofs.Ytgomofeidghmiaa
