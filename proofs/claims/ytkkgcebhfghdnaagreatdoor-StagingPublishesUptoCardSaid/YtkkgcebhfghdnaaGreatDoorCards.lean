/-
  DERIVED. GIVEN WITH THE SEED: THE CARDS: each row of YtkkgcebhfghdnaaGreatDoorRows.lean that lists a variable, with what it lists TIED to the program's text (the seventh form; the later family's looks); each row that meets fmt, with fmt's text TOLD by the authors' own Lean function (tested against real Go, not proved from fmt's source: count such statements apart). THE CARD IS WHAT COUNTS. Prove the row's statement (the work); the ties are given (YtkkgcebhfghdnaaGreatDoorTie.lean); close each card by the builder's one call (the guide's Derived/Test/ToyasCard.lean, 'card_holds'). Laid BY PROGRAM, IN A SANDBOX (cutbox-door.mjs). By AI agents, Wed Nov 11 2026. No macro, syntax, notation, axiom, sorry.
-/
import Derived.Test.YtkkgcebhfghdnaaGreatDoorRows
import GoSem.ClaimSeven
namespace Go.Proofs.YtkkgcebhfghdnaaGreatDoor
namespace Rows

/-- THE TIED CARD OF 'satchellaw28.StagingCrashes'. -/
def stagingCrashesCard : Claim7 := { stood := { row := stagingCrashesRow, standIns := [], harness := (true, "503188990b06714f748bd170a98f75a159cee04e3487e84f51127a3c43b34e91"), looks := true }, kinds := [], alts := [], goes := true, laidByText := true, laidKinds := [.handle], laidTests := true, laidLooks := .later }
def StagingCrashesCardSaid : Prop := Claim7.holds Tryz.pinned (.plain (OpenSpec.ofChange stagingCrashesSpec)) stagingCrashesCard

/-- THE TIED CARD OF 'satchellaw28.StagingTurns'. -/
def stagingTurnsCard : Claim7 := { stood := { row := stagingTurnsRow, standIns := [], harness := (true, "503188990b06714f748bd170a98f75a159cee04e3487e84f51127a3c43b34e91"), looks := true }, kinds := [], alts := [], goes := true, laidByText := true, laidKinds := [.handle], laidTests := true, laidLooks := .later }
def StagingTurnsCardSaid : Prop := Claim7.holds Tryz.pinned (.plain (OpenSpec.ofChange stagingTurnsSpec)) stagingTurnsCard

/-- THE TIED CARD OF 'satchellaw28.StagingCleans'. -/
def stagingCleansCard : Claim7 := { stood := { row := stagingCleansRow, standIns := [], harness := (true, "503188990b06714f748bd170a98f75a159cee04e3487e84f51127a3c43b34e91"), looks := true }, kinds := [], alts := [], goes := true, laidByText := true, laidKinds := [.handle], laidTests := true, laidLooks := .later }
def StagingCleansCardSaid : Prop := Claim7.holds Tryz.pinned (.plain (OpenSpec.ofChange stagingCleansSpec)) stagingCleansCard

/-- THE TIED CARD OF 'satchellaw28.StagingPublishes'. -/
def stagingPublishesCard : Claim7 := { stood := { row := stagingPublishesRow, standIns := [], harness := (true, "503188990b06714f748bd170a98f75a159cee04e3487e84f51127a3c43b34e91"), looks := true }, kinds := [], alts := [], goes := true, laidByText := true, laidKinds := [.handle], laidTests := true, laidLooks := .later }
def StagingPublishesCardSaid : Prop := Claim7.holds Tryz.pinned (.plain (OpenSpec.ofChange stagingPublishesSpec)) stagingPublishesCard

/-- THE TIED CARD OF 'satchellaw28.StagingQuota'. -/
def stagingQuotaCard : Claim7 := { stood := { row := stagingQuotaRow, standIns := [], harness := (true, "503188990b06714f748bd170a98f75a159cee04e3487e84f51127a3c43b34e91"), looks := true }, kinds := [], alts := [], goes := true, laidByText := true, laidKinds := [.handle], laidTests := true, laidLooks := .later }
def StagingQuotaCardSaid : Prop := Claim7.holds Tryz.pinned (.plain (OpenSpec.ofChange stagingQuotaSpec)) stagingQuotaCard

/-- THE SECOND FORM's CARD OF 'satchellaw28.StagingCrashes'. -/
def stagingCrashesUptoCard : Claim7 := { stood := { row := stagingCrashesUptoRow, standIns := [], harness := (true, "503188990b06714f748bd170a98f75a159cee04e3487e84f51127a3c43b34e91"), looks := true }, kinds := [], alts := [], goes := true, laidByText := true, laidKinds := [.handle], laidTests := true, laidLooks := .later }
def StagingCrashesUptoCardSaid : Prop := Claim7.holds Tryz.pinned (.plain (OpenSpec.upto stagingCrashesSpec)) stagingCrashesUptoCard

/-- THE SECOND FORM's CARD OF 'satchellaw28.StagingTurns'. -/
def stagingTurnsUptoCard : Claim7 := { stood := { row := stagingTurnsUptoRow, standIns := [], harness := (true, "503188990b06714f748bd170a98f75a159cee04e3487e84f51127a3c43b34e91"), looks := true }, kinds := [], alts := [], goes := true, laidByText := true, laidKinds := [.handle], laidTests := true, laidLooks := .later }
def StagingTurnsUptoCardSaid : Prop := Claim7.holds Tryz.pinned (.plain (OpenSpec.upto stagingTurnsSpec)) stagingTurnsUptoCard

/-- THE SECOND FORM's CARD OF 'satchellaw28.StagingCleans'. -/
def stagingCleansUptoCard : Claim7 := { stood := { row := stagingCleansUptoRow, standIns := [], harness := (true, "503188990b06714f748bd170a98f75a159cee04e3487e84f51127a3c43b34e91"), looks := true }, kinds := [], alts := [], goes := true, laidByText := true, laidKinds := [.handle], laidTests := true, laidLooks := .later }
def StagingCleansUptoCardSaid : Prop := Claim7.holds Tryz.pinned (.plain (OpenSpec.upto stagingCleansSpec)) stagingCleansUptoCard

/-- THE SECOND FORM's CARD OF 'satchellaw28.StagingPublishes'. -/
def stagingPublishesUptoCard : Claim7 := { stood := { row := stagingPublishesUptoRow, standIns := [], harness := (true, "503188990b06714f748bd170a98f75a159cee04e3487e84f51127a3c43b34e91"), looks := true }, kinds := [], alts := [], goes := true, laidByText := true, laidKinds := [.handle], laidTests := true, laidLooks := .later }
def StagingPublishesUptoCardSaid : Prop := Claim7.holds Tryz.pinned (.plain (OpenSpec.upto stagingPublishesSpec)) stagingPublishesUptoCard

/-- THE SECOND FORM's CARD OF 'satchellaw28.StagingQuota'. -/
def stagingQuotaUptoCard : Claim7 := { stood := { row := stagingQuotaUptoRow, standIns := [], harness := (true, "503188990b06714f748bd170a98f75a159cee04e3487e84f51127a3c43b34e91"), looks := true }, kinds := [], alts := [], goes := true, laidByText := true, laidKinds := [.handle], laidTests := true, laidLooks := .later }
def StagingQuotaUptoCardSaid : Prop := Claim7.holds Tryz.pinned (.plain (OpenSpec.upto stagingQuotaSpec)) stagingQuotaUptoCard
end Rows
end Go.Proofs.YtkkgcebhfghdnaaGreatDoor
