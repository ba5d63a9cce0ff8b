/-
  NARROWER THAN 'FOR EVERY INPUT', by the rows' own cells (each row's printed sentence says how): StagingCrashes: laid · StagingTurns: laid · StagingCleans: laid · StagingPublishes: laid · StagingQuota: laid.
  DERIVED. THE GIVEN ROWS OF THIS SEAT. 5 by the template 'for every input the law returns true; each argument reads behind the call as it read before'; 0 by the template 'total and deterministic' (their statements: YtkkgcebhfghdnaaGreatDoorTotals.lean).
  GIVEN WITH THE SEED: the statements are not yours to turn. If you find one false, say at which input.
  Laid BY PROGRAM, IN A SANDBOX (cutbox-rows.mjs): the forced cells as the released guide's own fill.sh prints them over the translation 36c8fc4d2b506e75… (all of the seat's roots in one cut). By AI agents, Wed Nov 11 2026. No macro, syntax, notation, axiom, sorry.
-/
import Derived.Test.YtkkgcebhfghdnaaGreatDoorChecked
import GoSem.Claim
import GoSem.ClaimJoined
import GoSem.ClaimMapViews
import Derived.JoinedTies
import Derived.KernelRfl
namespace Go.Proofs.YtkkgcebhfghdnaaGreatDoor
/- THE CELL 'sum', in the pinned program and in every row, IS THE sha256 OF THE DUMP (.gsa) THAT YtkkgcebhfghdnaaGreatDoorProg.lean LOADS. Nothing in Lean hashes anything: it is a label: what it is worth is what the hold of that sum in a sandbox is worth. -/
noncomputable def Tryz.pinned : Pinned := { name := "ytkkgcebhfghdnaagreatdoor", sum := "36c8fc4d2b506e755ee977ef8d5e7e008d0ce52935442937988c9b390c079d66", checked := Tryz.checked }
namespace Rows
def none {H : Type} : Left H := { results := [], args := [] }

/- WHAT THE LISTED PACKAGE-LEVEL VARIABLES READ AS WHEN THE CALL BEGINS. Each datum BY PROGRAM (the guide's laid-datum.mjs) off the statement by which the dump's own 'gosem.cut.vars' lays the variable. In a bare row this is a premise. The card (YtkkgcebhfghdnaaGreatDoorCards.lean) ties it to the program's text. -/
def laid_errors_errorType {H : Type} : DataW H := .iface "internal/reflectlite.rtype" (.agg [.ptr (.lit (.string [101, 114, 114, 111, 114]))])

/-- 'satchellaw28.StagingCrashes': WHATEVER THE INPUT: true; the input reads as it did. -/
def stagingCrashesSpec : ChangeSpec := { name := "stagingCrashes", fn := fun _ => fun
  | [d1, d2, d3] => { results := [.lit (.bool true)], args := [d1, d2, d3] }
  | _ => none }
def stagingCrashesRow : OpenClaim := { program := "ytkkgcebhfghdnaagreatdoor", sum := "36c8fc4d2b506e755ee977ef8d5e7e008d0ce52935442937988c9b390c079d66", func := "satchel/satchellaw28.StagingCrashes", spec := "stagingCrashes", inPlace := ["maps.clone", "(*sync.WaitGroup).Add", "internal/race.ReleaseMerge", "internal/race.Disable", "internal/race.Enable", "internal/synctest.IsInBubble", "internal/synctest.Associate[sync.WaitGroup]", "sync.fatal", "sync/atomic.OrUint64", "sync/atomic.AddUint64", "internal/race.Read", "sync/atomic.LoadUint64", "sync/atomic.StoreUint64", "internal/synctest.Disassociate[sync.WaitGroup]", "sync.runtime_Semrelease", "(*sync.WaitGroup).Done", "(*sync.WaitGroup).Wait", "internal/race.Acquire", "internal/synctest.IsAssociated[sync.WaitGroup]", "sync/atomic.CompareAndSwapUint64", "internal/race.Write", "sync.runtime_SemacquireWaitGroup", "internal/reflectlite.ValueOf", "(internal/reflectlite.Value).Type", "(internal/reflectlite.Value).IsNil", "internal/reflectlite.TypeOf", "(internal/reflectlite.Value).Elem", "(internal/reflectlite.Value).Set"], unfollowed := true, recurses := true, named := ["errors.errorType"], leaving := true, apart := false, laid := [("errors.errorType", laid_errors_errorType)] }
def StagingCrashesSaid : Prop := stagingCrashesRow.holds Tryz.pinned (OpenSpec.ofChange stagingCrashesSpec)

/-- ITS FALSE NEIGHBOUR: 'it returns false'. Refute it at one input. -/
def stagingCrashesWrong : ChangeSpec := { name := "stagingCrashes", fn := fun _ => fun
  | [d1, d2, d3] => { results := [.lit (.bool false)], args := [d1, d2, d3] }
  | _ => none }
def StagingCrashesWrongFalsely : Prop := stagingCrashesRow.holds Tryz.pinned (OpenSpec.ofChange stagingCrashesWrong)

/-- 'satchellaw28.StagingTurns': WHATEVER THE INPUT: true; the input reads as it did. -/
def stagingTurnsSpec : ChangeSpec := { name := "stagingTurns", fn := fun _ => fun
  | [d1, d2, d3] => { results := [.lit (.bool true)], args := [d1, d2, d3] }
  | _ => none }
def stagingTurnsRow : OpenClaim := { program := "ytkkgcebhfghdnaagreatdoor", sum := "36c8fc4d2b506e755ee977ef8d5e7e008d0ce52935442937988c9b390c079d66", func := "satchel/satchellaw28.StagingTurns", spec := "stagingTurns", inPlace := ["maps.clone", "(*sync.WaitGroup).Add", "internal/race.ReleaseMerge", "internal/race.Disable", "internal/race.Enable", "internal/synctest.IsInBubble", "internal/synctest.Associate[sync.WaitGroup]", "sync.fatal", "sync/atomic.OrUint64", "sync/atomic.AddUint64", "internal/race.Read", "sync/atomic.LoadUint64", "sync/atomic.StoreUint64", "internal/synctest.Disassociate[sync.WaitGroup]", "sync.runtime_Semrelease", "(*sync.WaitGroup).Done", "(*sync.WaitGroup).Wait", "internal/race.Acquire", "internal/synctest.IsAssociated[sync.WaitGroup]", "sync/atomic.CompareAndSwapUint64", "internal/race.Write", "sync.runtime_SemacquireWaitGroup", "internal/reflectlite.ValueOf", "(internal/reflectlite.Value).Type", "(internal/reflectlite.Value).IsNil", "internal/reflectlite.TypeOf", "(internal/reflectlite.Value).Elem", "(internal/reflectlite.Value).Set"], unfollowed := true, recurses := true, named := ["errors.errorType"], leaving := true, apart := false, laid := [("errors.errorType", laid_errors_errorType)] }
def StagingTurnsSaid : Prop := stagingTurnsRow.holds Tryz.pinned (OpenSpec.ofChange stagingTurnsSpec)

/-- ITS FALSE NEIGHBOUR: 'it returns false'. Refute it at one input. -/
def stagingTurnsWrong : ChangeSpec := { name := "stagingTurns", fn := fun _ => fun
  | [d1, d2, d3] => { results := [.lit (.bool false)], args := [d1, d2, d3] }
  | _ => none }
def StagingTurnsWrongFalsely : Prop := stagingTurnsRow.holds Tryz.pinned (OpenSpec.ofChange stagingTurnsWrong)

/-- 'satchellaw28.StagingCleans': WHATEVER THE INPUT: true; the input reads as it did. -/
def stagingCleansSpec : ChangeSpec := { name := "stagingCleans", fn := fun _ => fun
  | [d1, d2] => { results := [.lit (.bool true)], args := [d1, d2] }
  | _ => none }
def stagingCleansRow : OpenClaim := { program := "ytkkgcebhfghdnaagreatdoor", sum := "36c8fc4d2b506e755ee977ef8d5e7e008d0ce52935442937988c9b390c079d66", func := "satchel/satchellaw28.StagingCleans", spec := "stagingCleans", inPlace := ["maps.clone", "(*sync.WaitGroup).Add", "internal/race.ReleaseMerge", "internal/race.Disable", "internal/race.Enable", "internal/synctest.IsInBubble", "internal/synctest.Associate[sync.WaitGroup]", "sync.fatal", "sync/atomic.OrUint64", "sync/atomic.AddUint64", "internal/race.Read", "sync/atomic.LoadUint64", "sync/atomic.StoreUint64", "internal/synctest.Disassociate[sync.WaitGroup]", "sync.runtime_Semrelease", "(*sync.WaitGroup).Done", "(*sync.WaitGroup).Wait", "internal/race.Acquire", "internal/synctest.IsAssociated[sync.WaitGroup]", "sync/atomic.CompareAndSwapUint64", "internal/race.Write", "sync.runtime_SemacquireWaitGroup", "internal/reflectlite.ValueOf", "(internal/reflectlite.Value).Type", "(internal/reflectlite.Value).IsNil", "internal/reflectlite.TypeOf", "(internal/reflectlite.Value).Elem", "(internal/reflectlite.Value).Set"], unfollowed := true, recurses := true, named := ["errors.errorType"], leaving := true, apart := false, laid := [("errors.errorType", laid_errors_errorType)] }
def StagingCleansSaid : Prop := stagingCleansRow.holds Tryz.pinned (OpenSpec.ofChange stagingCleansSpec)

/-- ITS FALSE NEIGHBOUR: 'it returns false'. Refute it at one input. -/
def stagingCleansWrong : ChangeSpec := { name := "stagingCleans", fn := fun _ => fun
  | [d1, d2] => { results := [.lit (.bool false)], args := [d1, d2] }
  | _ => none }
def StagingCleansWrongFalsely : Prop := stagingCleansRow.holds Tryz.pinned (OpenSpec.ofChange stagingCleansWrong)

/-- 'satchellaw28.StagingPublishes': WHATEVER THE INPUT: true; the input reads as it did. -/
def stagingPublishesSpec : ChangeSpec := { name := "stagingPublishes", fn := fun _ => fun
  | [d1, d2, d3] => { results := [.lit (.bool true)], args := [d1, d2, d3] }
  | _ => none }
def stagingPublishesRow : OpenClaim := { program := "ytkkgcebhfghdnaagreatdoor", sum := "36c8fc4d2b506e755ee977ef8d5e7e008d0ce52935442937988c9b390c079d66", func := "satchel/satchellaw28.StagingPublishes", spec := "stagingPublishes", inPlace := ["maps.clone", "(*sync.WaitGroup).Add", "internal/race.ReleaseMerge", "internal/race.Disable", "internal/race.Enable", "internal/synctest.IsInBubble", "internal/synctest.Associate[sync.WaitGroup]", "sync.fatal", "sync/atomic.OrUint64", "sync/atomic.AddUint64", "internal/race.Read", "sync/atomic.LoadUint64", "sync/atomic.StoreUint64", "internal/synctest.Disassociate[sync.WaitGroup]", "sync.runtime_Semrelease", "(*sync.WaitGroup).Done", "(*sync.WaitGroup).Wait", "internal/race.Acquire", "internal/synctest.IsAssociated[sync.WaitGroup]", "sync/atomic.CompareAndSwapUint64", "internal/race.Write", "sync.runtime_SemacquireWaitGroup", "internal/reflectlite.ValueOf", "(internal/reflectlite.Value).Type", "(internal/reflectlite.Value).IsNil", "internal/reflectlite.TypeOf", "(internal/reflectlite.Value).Elem", "(internal/reflectlite.Value).Set"], unfollowed := true, recurses := true, named := ["errors.errorType"], leaving := true, apart := false, laid := [("errors.errorType", laid_errors_errorType)] }
def StagingPublishesSaid : Prop := stagingPublishesRow.holds Tryz.pinned (OpenSpec.ofChange stagingPublishesSpec)

/-- ITS FALSE NEIGHBOUR: 'it returns false'. Refute it at one input. -/
def stagingPublishesWrong : ChangeSpec := { name := "stagingPublishes", fn := fun _ => fun
  | [d1, d2, d3] => { results := [.lit (.bool false)], args := [d1, d2, d3] }
  | _ => none }
def StagingPublishesWrongFalsely : Prop := stagingPublishesRow.holds Tryz.pinned (OpenSpec.ofChange stagingPublishesWrong)

/-- 'satchellaw28.StagingQuota': WHATEVER THE INPUT: true; the input reads as it did. -/
def stagingQuotaSpec : ChangeSpec := { name := "stagingQuota", fn := fun _ => fun
  | [d1, d2] => { results := [.lit (.bool true)], args := [d1, d2] }
  | _ => none }
def stagingQuotaRow : OpenClaim := { program := "ytkkgcebhfghdnaagreatdoor", sum := "36c8fc4d2b506e755ee977ef8d5e7e008d0ce52935442937988c9b390c079d66", func := "satchel/satchellaw28.StagingQuota", spec := "stagingQuota", inPlace := ["maps.clone", "(*sync.WaitGroup).Add", "internal/race.ReleaseMerge", "internal/race.Disable", "internal/race.Enable", "internal/synctest.IsInBubble", "internal/synctest.Associate[sync.WaitGroup]", "sync.fatal", "sync/atomic.OrUint64", "sync/atomic.AddUint64", "internal/race.Read", "sync/atomic.LoadUint64", "sync/atomic.StoreUint64", "internal/synctest.Disassociate[sync.WaitGroup]", "sync.runtime_Semrelease", "(*sync.WaitGroup).Done", "(*sync.WaitGroup).Wait", "internal/race.Acquire", "internal/synctest.IsAssociated[sync.WaitGroup]", "sync/atomic.CompareAndSwapUint64", "internal/race.Write", "sync.runtime_SemacquireWaitGroup", "internal/reflectlite.ValueOf", "(internal/reflectlite.Value).Type", "(internal/reflectlite.Value).IsNil", "internal/reflectlite.TypeOf", "(internal/reflectlite.Value).Elem", "(internal/reflectlite.Value).Set"], unfollowed := true, recurses := true, named := ["errors.errorType"], leaving := true, apart := false, laid := [("errors.errorType", laid_errors_errorType)] }
def StagingQuotaSaid : Prop := stagingQuotaRow.holds Tryz.pinned (OpenSpec.ofChange stagingQuotaSpec)

/-- ITS FALSE NEIGHBOUR: 'it returns false'. Refute it at one input. -/
def stagingQuotaWrong : ChangeSpec := { name := "stagingQuota", fn := fun _ => fun
  | [d1, d2] => { results := [.lit (.bool false)], args := [d1, d2] }
  | _ => none }
def StagingQuotaWrongFalsely : Prop := stagingQuotaRow.holds Tryz.pinned (OpenSpec.ofChange stagingQuotaWrong)

/- THE SECOND FORM. 'bulk': how many values and letters a reading holds, each counted each time it is reached (what is shared counts as often as it is met; a slice's spare places count too). A statement '..UptoSaid' is the law's where the arguments, and the package variables that the reading takes, are together of bulk at most 1048576: NARROWER than '..Said'. Prove '..Said' where nothing that the law and all that it calls make is longer than what came in: it says more and counts as full. Else prove '..UptoSaid'. A law counts once. -/
mutual
def uptoBulk {H : Type} : DataW H → Nat
  | .lit (.string bytes) => bytes.length + 1
  | .lit _ => 1
  | .nil => 1
  | .ptr d => uptoBulk d + 1
  | .slice elems spare => uptoBulkAll elems + uptoBulkAll spare + 1
  | .agg parts => uptoBulkAll parts + 1
  | .iface _ d => uptoBulk d + 1
  | .map entries => uptoBulkEntries entries + 1
  | .held _ => 1
def uptoBulkAll {H : Type} : List (DataW H) → Nat
  | [] => 0
  | d :: r => uptoBulk d + uptoBulkAll r
def uptoBulkEntries {H : Type} : List (Lit × DataW H) → Nat
  | [] => 0
  | x :: r => uptoBulkEntry x + uptoBulkEntries r
def uptoBulkEntry {H : Type} : Lit × DataW H → Nat
  | (.string bytes, d) => bytes.length + uptoBulk d + 1
  | (_, d) => uptoBulk d + 1
 end
def uptoSmall : (H : Type) → List (DataW H) → Bool := fun _ ds => decide (uptoBulkAll ds ≤ 1048576)
def OpenSpec.upto (s : _root_.Go.ChangeSpec) : _root_.Go.OpenSpec := { _root_.Go.OpenSpec.ofChange s with cond := some uptoSmall }

/-- 'satchellaw28.StagingCrashes', WHERE WHAT IT READS IS OF BULK AT MOST 1048576: true; the input reads as it did. -/
def stagingCrashesUptoRow : OpenClaim := { program := "ytkkgcebhfghdnaagreatdoor", sum := "36c8fc4d2b506e755ee977ef8d5e7e008d0ce52935442937988c9b390c079d66", func := "satchel/satchellaw28.StagingCrashes", spec := "stagingCrashes", inPlace := ["maps.clone", "(*sync.WaitGroup).Add", "internal/race.ReleaseMerge", "internal/race.Disable", "internal/race.Enable", "internal/synctest.IsInBubble", "internal/synctest.Associate[sync.WaitGroup]", "sync.fatal", "sync/atomic.OrUint64", "sync/atomic.AddUint64", "internal/race.Read", "sync/atomic.LoadUint64", "sync/atomic.StoreUint64", "internal/synctest.Disassociate[sync.WaitGroup]", "sync.runtime_Semrelease", "(*sync.WaitGroup).Done", "(*sync.WaitGroup).Wait", "internal/race.Acquire", "internal/synctest.IsAssociated[sync.WaitGroup]", "sync/atomic.CompareAndSwapUint64", "internal/race.Write", "sync.runtime_SemacquireWaitGroup", "internal/reflectlite.ValueOf", "(internal/reflectlite.Value).Type", "(internal/reflectlite.Value).IsNil", "internal/reflectlite.TypeOf", "(internal/reflectlite.Value).Elem", "(internal/reflectlite.Value).Set"], unfollowed := true, recurses := true, named := ["errors.errorType"], leaving := true, apart := false, laid := [("errors.errorType", laid_errors_errorType)], narrowed := true }
def StagingCrashesUptoSaid : Prop := stagingCrashesUptoRow.holds Tryz.pinned (OpenSpec.upto stagingCrashesSpec)

/-- 'satchellaw28.StagingTurns', WHERE WHAT IT READS IS OF BULK AT MOST 1048576: true; the input reads as it did. -/
def stagingTurnsUptoRow : OpenClaim := { program := "ytkkgcebhfghdnaagreatdoor", sum := "36c8fc4d2b506e755ee977ef8d5e7e008d0ce52935442937988c9b390c079d66", func := "satchel/satchellaw28.StagingTurns", spec := "stagingTurns", inPlace := ["maps.clone", "(*sync.WaitGroup).Add", "internal/race.ReleaseMerge", "internal/race.Disable", "internal/race.Enable", "internal/synctest.IsInBubble", "internal/synctest.Associate[sync.WaitGroup]", "sync.fatal", "sync/atomic.OrUint64", "sync/atomic.AddUint64", "internal/race.Read", "sync/atomic.LoadUint64", "sync/atomic.StoreUint64", "internal/synctest.Disassociate[sync.WaitGroup]", "sync.runtime_Semrelease", "(*sync.WaitGroup).Done", "(*sync.WaitGroup).Wait", "internal/race.Acquire", "internal/synctest.IsAssociated[sync.WaitGroup]", "sync/atomic.CompareAndSwapUint64", "internal/race.Write", "sync.runtime_SemacquireWaitGroup", "internal/reflectlite.ValueOf", "(internal/reflectlite.Value).Type", "(internal/reflectlite.Value).IsNil", "internal/reflectlite.TypeOf", "(internal/reflectlite.Value).Elem", "(internal/reflectlite.Value).Set"], unfollowed := true, recurses := true, named := ["errors.errorType"], leaving := true, apart := false, laid := [("errors.errorType", laid_errors_errorType)], narrowed := true }
def StagingTurnsUptoSaid : Prop := stagingTurnsUptoRow.holds Tryz.pinned (OpenSpec.upto stagingTurnsSpec)

/-- 'satchellaw28.StagingCleans', WHERE WHAT IT READS IS OF BULK AT MOST 1048576: true; the input reads as it did. -/
def stagingCleansUptoRow : OpenClaim := { program := "ytkkgcebhfghdnaagreatdoor", sum := "36c8fc4d2b506e755ee977ef8d5e7e008d0ce52935442937988c9b390c079d66", func := "satchel/satchellaw28.StagingCleans", spec := "stagingCleans", inPlace := ["maps.clone", "(*sync.WaitGroup).Add", "internal/race.ReleaseMerge", "internal/race.Disable", "internal/race.Enable", "internal/synctest.IsInBubble", "internal/synctest.Associate[sync.WaitGroup]", "sync.fatal", "sync/atomic.OrUint64", "sync/atomic.AddUint64", "internal/race.Read", "sync/atomic.LoadUint64", "sync/atomic.StoreUint64", "internal/synctest.Disassociate[sync.WaitGroup]", "sync.runtime_Semrelease", "(*sync.WaitGroup).Done", "(*sync.WaitGroup).Wait", "internal/race.Acquire", "internal/synctest.IsAssociated[sync.WaitGroup]", "sync/atomic.CompareAndSwapUint64", "internal/race.Write", "sync.runtime_SemacquireWaitGroup", "internal/reflectlite.ValueOf", "(internal/reflectlite.Value).Type", "(internal/reflectlite.Value).IsNil", "internal/reflectlite.TypeOf", "(internal/reflectlite.Value).Elem", "(internal/reflectlite.Value).Set"], unfollowed := true, recurses := true, named := ["errors.errorType"], leaving := true, apart := false, laid := [("errors.errorType", laid_errors_errorType)], narrowed := true }
def StagingCleansUptoSaid : Prop := stagingCleansUptoRow.holds Tryz.pinned (OpenSpec.upto stagingCleansSpec)

/-- 'satchellaw28.StagingPublishes', WHERE WHAT IT READS IS OF BULK AT MOST 1048576: true; the input reads as it did. -/
def stagingPublishesUptoRow : OpenClaim := { program := "ytkkgcebhfghdnaagreatdoor", sum := "36c8fc4d2b506e755ee977ef8d5e7e008d0ce52935442937988c9b390c079d66", func := "satchel/satchellaw28.StagingPublishes", spec := "stagingPublishes", inPlace := ["maps.clone", "(*sync.WaitGroup).Add", "internal/race.ReleaseMerge", "internal/race.Disable", "internal/race.Enable", "internal/synctest.IsInBubble", "internal/synctest.Associate[sync.WaitGroup]", "sync.fatal", "sync/atomic.OrUint64", "sync/atomic.AddUint64", "internal/race.Read", "sync/atomic.LoadUint64", "sync/atomic.StoreUint64", "internal/synctest.Disassociate[sync.WaitGroup]", "sync.runtime_Semrelease", "(*sync.WaitGroup).Done", "(*sync.WaitGroup).Wait", "internal/race.Acquire", "internal/synctest.IsAssociated[sync.WaitGroup]", "sync/atomic.CompareAndSwapUint64", "internal/race.Write", "sync.runtime_SemacquireWaitGroup", "internal/reflectlite.ValueOf", "(internal/reflectlite.Value).Type", "(internal/reflectlite.Value).IsNil", "internal/reflectlite.TypeOf", "(internal/reflectlite.Value).Elem", "(internal/reflectlite.Value).Set"], unfollowed := true, recurses := true, named := ["errors.errorType"], leaving := true, apart := false, laid := [("errors.errorType", laid_errors_errorType)], narrowed := true }
def StagingPublishesUptoSaid : Prop := stagingPublishesUptoRow.holds Tryz.pinned (OpenSpec.upto stagingPublishesSpec)

/-- 'satchellaw28.StagingQuota', WHERE WHAT IT READS IS OF BULK AT MOST 1048576: true; the input reads as it did. -/
def stagingQuotaUptoRow : OpenClaim := { program := "ytkkgcebhfghdnaagreatdoor", sum := "36c8fc4d2b506e755ee977ef8d5e7e008d0ce52935442937988c9b390c079d66", func := "satchel/satchellaw28.StagingQuota", spec := "stagingQuota", inPlace := ["maps.clone", "(*sync.WaitGroup).Add", "internal/race.ReleaseMerge", "internal/race.Disable", "internal/race.Enable", "internal/synctest.IsInBubble", "internal/synctest.Associate[sync.WaitGroup]", "sync.fatal", "sync/atomic.OrUint64", "sync/atomic.AddUint64", "internal/race.Read", "sync/atomic.LoadUint64", "sync/atomic.StoreUint64", "internal/synctest.Disassociate[sync.WaitGroup]", "sync.runtime_Semrelease", "(*sync.WaitGroup).Done", "(*sync.WaitGroup).Wait", "internal/race.Acquire", "internal/synctest.IsAssociated[sync.WaitGroup]", "sync/atomic.CompareAndSwapUint64", "internal/race.Write", "sync.runtime_SemacquireWaitGroup", "internal/reflectlite.ValueOf", "(internal/reflectlite.Value).Type", "(internal/reflectlite.Value).IsNil", "internal/reflectlite.TypeOf", "(internal/reflectlite.Value).Elem", "(internal/reflectlite.Value).Set"], unfollowed := true, recurses := true, named := ["errors.errorType"], leaving := true, apart := false, laid := [("errors.errorType", laid_errors_errorType)], narrowed := true }
def StagingQuotaUptoSaid : Prop := stagingQuotaUptoRow.holds Tryz.pinned (OpenSpec.upto stagingQuotaSpec)

end Rows
end Go.Proofs.YtkkgcebhfghdnaaGreatDoor
