/-
  No cell of these rows narrows 'for every input' (looked for: loops, veiled, ifaces, maps, wideKeys, modest, calm, conditions, laid).
  DERIVED. THE GIVEN ROWS OF THIS SEAT. 7 by the template 'for every input the law returns true; each argument reads behind the call as it read before'; 0 by the template 'total and deterministic' (their statements: YtelmnmepdmfihaaTotals.lean).
  GIVEN WITH THE SEED: the statements are not yours to turn. If you find one false, say at which input.
  Laid BY PROGRAM, IN A SANDBOX (cutbox-rows.mjs): the forced cells as the released guide's own fill.sh prints them over the translation 557897c6e1441d39… (all of the seat's roots in one cut). By AI agents, Wed Nov 11 2026. No macro, syntax, notation, axiom, sorry.
-/
import Derived.Test.YtelmnmepdmfihaaChecked
import GoSem.Claim
import GoSem.ClaimJoined
import GoSem.ClaimMapViews
import Derived.JoinedTies
import Derived.KernelRfl
namespace Go.Proofs.Ytelmnmepdmfihaa
/- THE CELL 'sum', in the pinned program and in every row, IS THE sha256 OF THE DUMP (.gsa) THAT YtelmnmepdmfihaaProg.lean LOADS. Nothing in Lean hashes anything: it is a label: what it is worth is what the hold of that sum in a sandbox is worth. -/
noncomputable def Try.pinned : Pinned := { name := "ytelmnmepdmfihaa", sum := "557897c6e1441d395bd7ca4dfb4c3a04d6b01882a5a6f18845b8f8bd1d055907", checked := Try.checked }
namespace Rows
def none {H : Type} : Left H := { results := [], args := [] }

/-- 'satchellaw17.GroupsGathers': WHATEVER THE INPUT: true; the input reads as it did. -/
def groupsGathersSpec : ChangeSpec := { name := "groupsGathers", fn := fun _ => fun
  | [d1, d2] => { results := [.lit (.bool true)], args := [d1, d2] }
  | _ => none }
def groupsGathersRow : OpenClaim := { program := "ytelmnmepdmfihaa", sum := "557897c6e1441d395bd7ca4dfb4c3a04d6b01882a5a6f18845b8f8bd1d055907", func := "satchel/satchellaw17.GroupsGathers", spec := "groupsGathers", unfollowed := true, recurses := true, apart := false }
def GroupsGathersSaid : Prop := groupsGathersRow.holds Try.pinned (OpenSpec.ofChange groupsGathersSpec)

/-- ITS FALSE NEIGHBOUR: 'it returns false'. Refute it at one input. -/
def groupsGathersWrong : ChangeSpec := { name := "groupsGathers", fn := fun _ => fun
  | [d1, d2] => { results := [.lit (.bool false)], args := [d1, d2] }
  | _ => none }
def GroupsGathersWrongFalsely : Prop := groupsGathersRow.holds Try.pinned (OpenSpec.ofChange groupsGathersWrong)

/-- 'satchellaw17.GroupsMakes': WHATEVER THE INPUT: true; the input reads as it did. -/
def groupsMakesSpec : ChangeSpec := { name := "groupsMakes", fn := fun _ => fun
  | [d1, d2] => { results := [.lit (.bool true)], args := [d1, d2] }
  | _ => none }
def groupsMakesRow : OpenClaim := { program := "ytelmnmepdmfihaa", sum := "557897c6e1441d395bd7ca4dfb4c3a04d6b01882a5a6f18845b8f8bd1d055907", func := "satchel/satchellaw17.GroupsMakes", spec := "groupsMakes", unfollowed := true, recurses := true, apart := false }
def GroupsMakesSaid : Prop := groupsMakesRow.holds Try.pinned (OpenSpec.ofChange groupsMakesSpec)

/-- ITS FALSE NEIGHBOUR: 'it returns false'. Refute it at one input. -/
def groupsMakesWrong : ChangeSpec := { name := "groupsMakes", fn := fun _ => fun
  | [d1, d2] => { results := [.lit (.bool false)], args := [d1, d2] }
  | _ => none }
def GroupsMakesWrongFalsely : Prop := groupsMakesRow.holds Try.pinned (OpenSpec.ofChange groupsMakesWrong)

/-- 'satchellaw17.GroupsReads': WHATEVER THE INPUT: true; the input reads as it did. -/
def groupsReadsSpec : ChangeSpec := { name := "groupsReads", fn := fun _ => fun
  | [d1, d2, d3] => { results := [.lit (.bool true)], args := [d1, d2, d3] }
  | _ => none }
def groupsReadsRow : OpenClaim := { program := "ytelmnmepdmfihaa", sum := "557897c6e1441d395bd7ca4dfb4c3a04d6b01882a5a6f18845b8f8bd1d055907", func := "satchel/satchellaw17.GroupsReads", spec := "groupsReads", unfollowed := true, recurses := true, apart := false }
def GroupsReadsSaid : Prop := groupsReadsRow.holds Try.pinned (OpenSpec.ofChange groupsReadsSpec)

/-- ITS FALSE NEIGHBOUR: 'it returns false'. Refute it at one input. -/
def groupsReadsWrong : ChangeSpec := { name := "groupsReads", fn := fun _ => fun
  | [d1, d2, d3] => { results := [.lit (.bool false)], args := [d1, d2, d3] }
  | _ => none }
def GroupsReadsWrongFalsely : Prop := groupsReadsRow.holds Try.pinned (OpenSpec.ofChange groupsReadsWrong)

/-- 'satchellaw17.GroupsThere': WHATEVER THE INPUT: true; the input reads as it did. -/
def groupsThereSpec : ChangeSpec := { name := "groupsThere", fn := fun _ => fun
  | [d1, d2, d3] => { results := [.lit (.bool true)], args := [d1, d2, d3] }
  | _ => none }
def groupsThereRow : OpenClaim := { program := "ytelmnmepdmfihaa", sum := "557897c6e1441d395bd7ca4dfb4c3a04d6b01882a5a6f18845b8f8bd1d055907", func := "satchel/satchellaw17.GroupsThere", spec := "groupsThere", unfollowed := true, recurses := true, apart := false }
def GroupsThereSaid : Prop := groupsThereRow.holds Try.pinned (OpenSpec.ofChange groupsThereSpec)

/-- ITS FALSE NEIGHBOUR: 'it returns false'. Refute it at one input. -/
def groupsThereWrong : ChangeSpec := { name := "groupsThere", fn := fun _ => fun
  | [d1, d2, d3] => { results := [.lit (.bool false)], args := [d1, d2, d3] }
  | _ => none }
def GroupsThereWrongFalsely : Prop := groupsThereRow.holds Try.pinned (OpenSpec.ofChange groupsThereWrong)

/-- 'satchellaw17.GroupsParts': WHATEVER THE INPUT: true; the input reads as it did. -/
def groupsPartsSpec : ChangeSpec := { name := "groupsParts", fn := fun _ => fun
  | [d1, d2] => { results := [.lit (.bool true)], args := [d1, d2] }
  | _ => none }
def groupsPartsRow : OpenClaim := { program := "ytelmnmepdmfihaa", sum := "557897c6e1441d395bd7ca4dfb4c3a04d6b01882a5a6f18845b8f8bd1d055907", func := "satchel/satchellaw17.GroupsParts", spec := "groupsParts", unfollowed := true, recurses := true, apart := false }
def GroupsPartsSaid : Prop := groupsPartsRow.holds Try.pinned (OpenSpec.ofChange groupsPartsSpec)

/-- ITS FALSE NEIGHBOUR: 'it returns false'. Refute it at one input. -/
def groupsPartsWrong : ChangeSpec := { name := "groupsParts", fn := fun _ => fun
  | [d1, d2] => { results := [.lit (.bool false)], args := [d1, d2] }
  | _ => none }
def GroupsPartsWrongFalsely : Prop := groupsPartsRow.holds Try.pinned (OpenSpec.ofChange groupsPartsWrong)

/-- 'satchellaw17.GroupsApart': WHATEVER THE INPUT: true; the input reads as it did. -/
def groupsApartSpec : ChangeSpec := { name := "groupsApart", fn := fun _ => fun
  | [d1, d2, d3] => { results := [.lit (.bool true)], args := [d1, d2, d3] }
  | _ => none }
def groupsApartRow : OpenClaim := { program := "ytelmnmepdmfihaa", sum := "557897c6e1441d395bd7ca4dfb4c3a04d6b01882a5a6f18845b8f8bd1d055907", func := "satchel/satchellaw17.GroupsApart", spec := "groupsApart", unfollowed := true, recurses := true, apart := false }
def GroupsApartSaid : Prop := groupsApartRow.holds Try.pinned (OpenSpec.ofChange groupsApartSpec)

/-- ITS FALSE NEIGHBOUR: 'it returns false'. Refute it at one input. -/
def groupsApartWrong : ChangeSpec := { name := "groupsApart", fn := fun _ => fun
  | [d1, d2, d3] => { results := [.lit (.bool false)], args := [d1, d2, d3] }
  | _ => none }
def GroupsApartWrongFalsely : Prop := groupsApartRow.holds Try.pinned (OpenSpec.ofChange groupsApartWrong)

/-- 'satchellaw17.GroupsOwn': WHATEVER THE INPUT: true; the input reads as it did. -/
def groupsOwnSpec : ChangeSpec := { name := "groupsOwn", fn := fun _ => fun
  | [d1, d2] => { results := [.lit (.bool true)], args := [d1, d2] }
  | _ => none }
def groupsOwnRow : OpenClaim := { program := "ytelmnmepdmfihaa", sum := "557897c6e1441d395bd7ca4dfb4c3a04d6b01882a5a6f18845b8f8bd1d055907", func := "satchel/satchellaw17.GroupsOwn", spec := "groupsOwn", unfollowed := true, recurses := true, apart := false }
def GroupsOwnSaid : Prop := groupsOwnRow.holds Try.pinned (OpenSpec.ofChange groupsOwnSpec)

/-- ITS FALSE NEIGHBOUR: 'it returns false'. Refute it at one input. -/
def groupsOwnWrong : ChangeSpec := { name := "groupsOwn", fn := fun _ => fun
  | [d1, d2] => { results := [.lit (.bool false)], args := [d1, d2] }
  | _ => none }
def GroupsOwnWrongFalsely : Prop := groupsOwnRow.holds Try.pinned (OpenSpec.ofChange groupsOwnWrong)

/- THE SECOND FORM. 'bulk': how many values and letters a reading holds, each counted each time it is reached (what is shared counts as often as it is met; a slice's spare places count too). A statement '..UptoSaid' is the law's where the arguments, and the package variables that the reading takes, are together of bulk at most 1048576: NARROWER than '..Said'. Prove '..Said' where nothing that the law and all that it calls make is longer than what came in: it says more and counts as full. Else prove '..UptoSaid'. A law counts once. -/
mutual
def uptoBulk {H : Type} : DataW H → Nat
  | .lit (.string bytes) => bytes.length + 1
  | .lit _ => 1
  | .nil => 1
  | .ptr d => uptoBulk d + 1
  | .slice elems spare => uptoBulkAll elems + uptoBulkAll spare + 1
  | .agg parts => uptoBulkAll parts + 1
  | .iface _ d => uptoBulk d + 1
  | .map entries => uptoBulkEntries entries + 1
  | .held _ => 1
def uptoBulkAll {H : Type} : List (DataW H) → Nat
  | [] => 0
  | d :: r => uptoBulk d + uptoBulkAll r
def uptoBulkEntries {H : Type} : List (Lit × DataW H) → Nat
  | [] => 0
  | x :: r => uptoBulkEntry x + uptoBulkEntries r
def uptoBulkEntry {H : Type} : Lit × DataW H → Nat
  | (.string bytes, d) => bytes.length + uptoBulk d + 1
  | (_, d) => uptoBulk d + 1
 end
def uptoSmall : (H : Type) → List (DataW H) → Bool := fun _ ds => decide (uptoBulkAll ds ≤ 1048576)
def OpenSpec.upto (s : _root_.Go.ChangeSpec) : _root_.Go.OpenSpec := { _root_.Go.OpenSpec.ofChange s with cond := some uptoSmall }

/-- 'satchellaw17.GroupsGathers', WHERE WHAT IT READS IS OF BULK AT MOST 1048576: true; the input reads as it did. -/
def groupsGathersUptoRow : OpenClaim := { program := "ytelmnmepdmfihaa", sum := "557897c6e1441d395bd7ca4dfb4c3a04d6b01882a5a6f18845b8f8bd1d055907", func := "satchel/satchellaw17.GroupsGathers", spec := "groupsGathers", unfollowed := true, recurses := true, apart := false, narrowed := true }
def GroupsGathersUptoSaid : Prop := groupsGathersUptoRow.holds Try.pinned (OpenSpec.upto groupsGathersSpec)

/-- 'satchellaw17.GroupsMakes', WHERE WHAT IT READS IS OF BULK AT MOST 1048576: true; the input reads as it did. -/
def groupsMakesUptoRow : OpenClaim := { program := "ytelmnmepdmfihaa", sum := "557897c6e1441d395bd7ca4dfb4c3a04d6b01882a5a6f18845b8f8bd1d055907", func := "satchel/satchellaw17.GroupsMakes", spec := "groupsMakes", unfollowed := true, recurses := true, apart := false, narrowed := true }
def GroupsMakesUptoSaid : Prop := groupsMakesUptoRow.holds Try.pinned (OpenSpec.upto groupsMakesSpec)

/-- 'satchellaw17.GroupsReads', WHERE WHAT IT READS IS OF BULK AT MOST 1048576: true; the input reads as it did. -/
def groupsReadsUptoRow : OpenClaim := { program := "ytelmnmepdmfihaa", sum := "557897c6e1441d395bd7ca4dfb4c3a04d6b01882a5a6f18845b8f8bd1d055907", func := "satchel/satchellaw17.GroupsReads", spec := "groupsReads", unfollowed := true, recurses := true, apart := false, narrowed := true }
def GroupsReadsUptoSaid : Prop := groupsReadsUptoRow.holds Try.pinned (OpenSpec.upto groupsReadsSpec)

/-- 'satchellaw17.GroupsThere', WHERE WHAT IT READS IS OF BULK AT MOST 1048576: true; the input reads as it did. -/
def groupsThereUptoRow : OpenClaim := { program := "ytelmnmepdmfihaa", sum := "557897c6e1441d395bd7ca4dfb4c3a04d6b01882a5a6f18845b8f8bd1d055907", func := "satchel/satchellaw17.GroupsThere", spec := "groupsThere", unfollowed := true, recurses := true, apart := false, narrowed := true }
def GroupsThereUptoSaid : Prop := groupsThereUptoRow.holds Try.pinned (OpenSpec.upto groupsThereSpec)

/-- 'satchellaw17.GroupsParts', WHERE WHAT IT READS IS OF BULK AT MOST 1048576: true; the input reads as it did. -/
def groupsPartsUptoRow : OpenClaim := { program := "ytelmnmepdmfihaa", sum := "557897c6e1441d395bd7ca4dfb4c3a04d6b01882a5a6f18845b8f8bd1d055907", func := "satchel/satchellaw17.GroupsParts", spec := "groupsParts", unfollowed := true, recurses := true, apart := false, narrowed := true }
def GroupsPartsUptoSaid : Prop := groupsPartsUptoRow.holds Try.pinned (OpenSpec.upto groupsPartsSpec)

/-- 'satchellaw17.GroupsApart', WHERE WHAT IT READS IS OF BULK AT MOST 1048576: true; the input reads as it did. -/
def groupsApartUptoRow : OpenClaim := { program := "ytelmnmepdmfihaa", sum := "557897c6e1441d395bd7ca4dfb4c3a04d6b01882a5a6f18845b8f8bd1d055907", func := "satchel/satchellaw17.GroupsApart", spec := "groupsApart", unfollowed := true, recurses := true, apart := false, narrowed := true }
def GroupsApartUptoSaid : Prop := groupsApartUptoRow.holds Try.pinned (OpenSpec.upto groupsApartSpec)

/-- 'satchellaw17.GroupsOwn', WHERE WHAT IT READS IS OF BULK AT MOST 1048576: true; the input reads as it did. -/
def groupsOwnUptoRow : OpenClaim := { program := "ytelmnmepdmfihaa", sum := "557897c6e1441d395bd7ca4dfb4c3a04d6b01882a5a6f18845b8f8bd1d055907", func := "satchel/satchellaw17.GroupsOwn", spec := "groupsOwn", unfollowed := true, recurses := true, apart := false, narrowed := true }
def GroupsOwnUptoSaid : Prop := groupsOwnUptoRow.holds Try.pinned (OpenSpec.upto groupsOwnSpec)

end Rows
end Go.Proofs.Ytelmnmepdmfihaa
