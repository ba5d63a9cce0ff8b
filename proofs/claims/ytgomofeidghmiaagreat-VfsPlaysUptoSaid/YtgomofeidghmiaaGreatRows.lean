/-
  No cell of these rows narrows 'for every input' (looked for: loops, veiled, ifaces, maps, wideKeys, modest, calm, conditions, laid).
  DERIVED. THE GIVEN ROWS OF THIS SEAT. 3 by the template 'for every input the law returns true; each argument reads behind the call as it read before'; 0 by the template 'total and deterministic' (their statements: YtgomofeidghmiaaGreatTotals.lean).
  GIVEN WITH THE SEED: the statements are not yours to turn. If you find one false, say at which input.
  Laid BY PROGRAM, IN A SANDBOX (cutbox-rows.mjs): the forced cells as the released guide's own fill.sh prints them over the translation db3ef41bc4853eb9… (all of the seat's roots in one cut). By AI agents, Wed Nov 11 2026. No macro, syntax, notation, axiom, sorry.
-/
import Derived.Test.YtgomofeidghmiaaGreatChecked
import GoSem.Claim
import GoSem.ClaimJoined
import GoSem.ClaimMapViews
import Derived.JoinedTies
import Derived.KernelRfl
namespace Go.Proofs.YtgomofeidghmiaaGreat
/- THE CELL 'sum', in the pinned program and in every row, IS THE sha256 OF THE DUMP (.gsa) THAT YtgomofeidghmiaaGreatProg.lean LOADS. Nothing in Lean hashes anything: it is a label: what it is worth is what the hold of that sum in a sandbox is worth. -/
noncomputable def Tryz.pinned : Pinned := { name := "ytgomofeidghmiaagreat", sum := "db3ef41bc4853eb9b27d54fe350ea80955cdf7076c043c32063e6f40ffd7a82b", checked := Tryz.checked }
namespace Rows
def none {H : Type} : Left H := { results := [], args := [] }

/-- 'satchellaw08.VfsPlays': WHATEVER THE INPUT: true; the input reads as it did. -/
def vfsPlaysSpec : ChangeSpec := { name := "vfsPlays", fn := fun _ => fun
  | [d1, d2] => { results := [.lit (.bool true)], args := [d1, d2] }
  | _ => none }
def vfsPlaysRow : OpenClaim := { program := "ytgomofeidghmiaagreat", sum := "db3ef41bc4853eb9b27d54fe350ea80955cdf7076c043c32063e6f40ffd7a82b", func := "satchel/satchellaw08.VfsPlays", spec := "vfsPlays", inPlace := ["maps.clone"], unfollowed := true, recurses := true, apart := false }
def VfsPlaysSaid : Prop := vfsPlaysRow.holds Tryz.pinned (OpenSpec.ofChange vfsPlaysSpec)

/-- ITS FALSE NEIGHBOUR: 'it returns false'. Refute it at one input. -/
def vfsPlaysWrong : ChangeSpec := { name := "vfsPlays", fn := fun _ => fun
  | [d1, d2] => { results := [.lit (.bool false)], args := [d1, d2] }
  | _ => none }
def VfsPlaysWrongFalsely : Prop := vfsPlaysRow.holds Tryz.pinned (OpenSpec.ofChange vfsPlaysWrong)

/-- 'satchellaw08.VfsCrashes': WHATEVER THE INPUT: true; the input reads as it did. -/
def vfsCrashesSpec : ChangeSpec := { name := "vfsCrashes", fn := fun _ => fun
  | [d1, d2, d3] => { results := [.lit (.bool true)], args := [d1, d2, d3] }
  | _ => none }
def vfsCrashesRow : OpenClaim := { program := "ytgomofeidghmiaagreat", sum := "db3ef41bc4853eb9b27d54fe350ea80955cdf7076c043c32063e6f40ffd7a82b", func := "satchel/satchellaw08.VfsCrashes", spec := "vfsCrashes", inPlace := ["maps.clone"], unfollowed := true, recurses := true, apart := false }
def VfsCrashesSaid : Prop := vfsCrashesRow.holds Tryz.pinned (OpenSpec.ofChange vfsCrashesSpec)

/-- ITS FALSE NEIGHBOUR: 'it returns false'. Refute it at one input. -/
def vfsCrashesWrong : ChangeSpec := { name := "vfsCrashes", fn := fun _ => fun
  | [d1, d2, d3] => { results := [.lit (.bool false)], args := [d1, d2, d3] }
  | _ => none }
def VfsCrashesWrongFalsely : Prop := vfsCrashesRow.holds Tryz.pinned (OpenSpec.ofChange vfsCrashesWrong)

/-- 'satchellaw08.VfsOwn': WHATEVER THE INPUT: true; the input reads as it did. -/
def vfsOwnSpec : ChangeSpec := { name := "vfsOwn", fn := fun _ => fun
  | [d1, d2, d3] => { results := [.lit (.bool true)], args := [d1, d2, d3] }
  | _ => none }
def vfsOwnRow : OpenClaim := { program := "ytgomofeidghmiaagreat", sum := "db3ef41bc4853eb9b27d54fe350ea80955cdf7076c043c32063e6f40ffd7a82b", func := "satchel/satchellaw08.VfsOwn", spec := "vfsOwn", inPlace := ["maps.clone"], unfollowed := true, recurses := true, apart := false }
def VfsOwnSaid : Prop := vfsOwnRow.holds Tryz.pinned (OpenSpec.ofChange vfsOwnSpec)

/-- ITS FALSE NEIGHBOUR: 'it returns false'. Refute it at one input. -/
def vfsOwnWrong : ChangeSpec := { name := "vfsOwn", fn := fun _ => fun
  | [d1, d2, d3] => { results := [.lit (.bool false)], args := [d1, d2, d3] }
  | _ => none }
def VfsOwnWrongFalsely : Prop := vfsOwnRow.holds Tryz.pinned (OpenSpec.ofChange vfsOwnWrong)

/- THE SECOND FORM. 'bulk': how many values and letters a reading holds, each counted each time it is reached (what is shared counts as often as it is met; a slice's spare places count too). A statement '..UptoSaid' is the law's where the arguments, and the package variables that the reading takes, are together of bulk at most 1048576: NARROWER than '..Said'. Prove '..Said' where nothing that the law and all that it calls make is longer than what came in: it says more and counts as full. Else prove '..UptoSaid'. A law counts once. -/
mutual
def uptoBulk {H : Type} : DataW H → Nat
  | .lit (.string bytes) => bytes.length + 1
  | .lit _ => 1
  | .nil => 1
  | .ptr d => uptoBulk d + 1
  | .slice elems spare => uptoBulkAll elems + uptoBulkAll spare + 1
  | .agg parts => uptoBulkAll parts + 1
  | .iface _ d => uptoBulk d + 1
  | .map entries => uptoBulkEntries entries + 1
  | .held _ => 1
def uptoBulkAll {H : Type} : List (DataW H) → Nat
  | [] => 0
  | d :: r => uptoBulk d + uptoBulkAll r
def uptoBulkEntries {H : Type} : List (Lit × DataW H) → Nat
  | [] => 0
  | x :: r => uptoBulkEntry x + uptoBulkEntries r
def uptoBulkEntry {H : Type} : Lit × DataW H → Nat
  | (.string bytes, d) => bytes.length + uptoBulk d + 1
  | (_, d) => uptoBulk d + 1
 end
def uptoSmall : (H : Type) → List (DataW H) → Bool := fun _ ds => decide (uptoBulkAll ds ≤ 1048576)
def OpenSpec.upto (s : _root_.Go.ChangeSpec) : _root_.Go.OpenSpec := { _root_.Go.OpenSpec.ofChange s with cond := some uptoSmall }

/-- 'satchellaw08.VfsPlays', WHERE WHAT IT READS IS OF BULK AT MOST 1048576: true; the input reads as it did. -/
def vfsPlaysUptoRow : OpenClaim := { program := "ytgomofeidghmiaagreat", sum := "db3ef41bc4853eb9b27d54fe350ea80955cdf7076c043c32063e6f40ffd7a82b", func := "satchel/satchellaw08.VfsPlays", spec := "vfsPlays", inPlace := ["maps.clone"], unfollowed := true, recurses := true, apart := false, narrowed := true }
def VfsPlaysUptoSaid : Prop := vfsPlaysUptoRow.holds Tryz.pinned (OpenSpec.upto vfsPlaysSpec)

/-- 'satchellaw08.VfsCrashes', WHERE WHAT IT READS IS OF BULK AT MOST 1048576: true; the input reads as it did. -/
def vfsCrashesUptoRow : OpenClaim := { program := "ytgomofeidghmiaagreat", sum := "db3ef41bc4853eb9b27d54fe350ea80955cdf7076c043c32063e6f40ffd7a82b", func := "satchel/satchellaw08.VfsCrashes", spec := "vfsCrashes", inPlace := ["maps.clone"], unfollowed := true, recurses := true, apart := false, narrowed := true }
def VfsCrashesUptoSaid : Prop := vfsCrashesUptoRow.holds Tryz.pinned (OpenSpec.upto vfsCrashesSpec)

/-- 'satchellaw08.VfsOwn', WHERE WHAT IT READS IS OF BULK AT MOST 1048576: true; the input reads as it did. -/
def vfsOwnUptoRow : OpenClaim := { program := "ytgomofeidghmiaagreat", sum := "db3ef41bc4853eb9b27d54fe350ea80955cdf7076c043c32063e6f40ffd7a82b", func := "satchel/satchellaw08.VfsOwn", spec := "vfsOwn", inPlace := ["maps.clone"], unfollowed := true, recurses := true, apart := false, narrowed := true }
def VfsOwnUptoSaid : Prop := vfsOwnUptoRow.holds Tryz.pinned (OpenSpec.upto vfsOwnSpec)

end Rows
end Go.Proofs.YtgomofeidghmiaaGreat
