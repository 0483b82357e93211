/-
  DERIVED. GIVEN WITH THE SEED: THE CARDS: each row of YtpejlcaoggedfaaGreatDoorRows.lean that lists a variable, with what it lists TIED to the program's text (the seventh form; the later family's looks); each row that meets fmt, with fmt's text TOLD by the authors' own Lean function (tested against real Go, not proved from fmt's source: count such statements apart). THE CARD IS WHAT COUNTS. Prove the row's statement (the work); the ties are given (YtpejlcaoggedfaaGreatDoorTie.lean); close each card by the builder's one call (the guide's Derived/Test/ToyasCard.lean, 'card_holds'). Laid BY PROGRAM, IN A SANDBOX (cutbox-door.mjs). By AI agents, Wed Nov 11 2026. No macro, syntax, notation, axiom, sorry.
-/
import Derived.Test.YtpejlcaoggedfaaGreatDoorRows
import GoSem.ClaimSeven
namespace Go.Proofs.YtpejlcaoggedfaaGreatDoor
namespace Rows

/-- THE TIED CARD OF 'henlaw7.CardTells'. -/
def cardTellsCard : Claim7 := { stood := { row := cardTellsRow, standIns := [], harness := (true, "12e1d939a7c248592b63822e07b0033bfe772f2d547ba06615334cde6a674fd0"), looks := false }, kinds := [], alts := [], laidByText := true, laidKinds := [.data, .data, .data, .data, .pinned], laidTests := true, laidLooks := .later }
def CardTellsCardSaid : Prop := Claim7.holds Tryz.pinned (.plain (OpenSpec.ofChange cardTellsSpec)) cardTellsCard

/-- THE TIED CARD OF 'henlaw7.CardBack'. -/
def cardBackCard : Claim7 := { stood := { row := cardBackRow, standIns := [], harness := (true, "12e1d939a7c248592b63822e07b0033bfe772f2d547ba06615334cde6a674fd0"), looks := false }, kinds := [], alts := [], laidByText := true, laidKinds := [.data, .data, .data, .data, .pinned], laidTests := true, laidLooks := .later }
def CardBackCardSaid : Prop := Claim7.holds Tryz.pinned (.plain (OpenSpec.ofChange cardBackSpec)) cardBackCard

/-- THE TIED CARD OF 'henlaw7.CardNames'. -/
def cardNamesCard : Claim7 := { stood := { row := cardNamesRow, standIns := [], harness := (true, "12e1d939a7c248592b63822e07b0033bfe772f2d547ba06615334cde6a674fd0"), looks := false }, kinds := [], alts := [], laidByText := true, laidKinds := [.data, .data, .data, .data, .pinned], laidTests := true, laidLooks := .later }
def CardNamesCardSaid : Prop := Claim7.holds Tryz.pinned (.plain (OpenSpec.ofChange cardNamesSpec)) cardNamesCard

/-- THE TIED CARD OF 'henlaw8.MergeOne'. -/
def mergeOneCard : Claim7 := { stood := { row := mergeOneRow, standIns := [], harness := (true, "12e1d939a7c248592b63822e07b0033bfe772f2d547ba06615334cde6a674fd0"), looks := false }, kinds := [], alts := [], laidByText := true, laidKinds := [.data, .data, .data, .data, .pinned], laidTests := true, laidLooks := .later }
def MergeOneCardSaid : Prop := Claim7.holds Tryz.pinned (.plain (OpenSpec.ofChange mergeOneSpec)) mergeOneCard

/-- THE TIED CARD OF 'henlaw8.MergeTurns'. -/
def mergeTurnsCard : Claim7 := { stood := { row := mergeTurnsRow, standIns := [], harness := (true, "12e1d939a7c248592b63822e07b0033bfe772f2d547ba06615334cde6a674fd0"), looks := false }, kinds := [], alts := [], laidByText := true, laidKinds := [.data, .data, .data, .data, .pinned], laidTests := true, laidLooks := .later }
def MergeTurnsCardSaid : Prop := Claim7.holds Tryz.pinned (.plain (OpenSpec.ofChange mergeTurnsSpec)) mergeTurnsCard

/-- THE TIED CARD OF 'henlaw8.MergeMakes'. -/
def mergeMakesCard : Claim7 := { stood := { row := mergeMakesRow, standIns := [], harness := (true, "12e1d939a7c248592b63822e07b0033bfe772f2d547ba06615334cde6a674fd0"), looks := false }, kinds := [], alts := [], laidByText := true, laidKinds := [.data, .data, .data, .data, .pinned], laidTests := true, laidLooks := .later }
def MergeMakesCardSaid : Prop := Claim7.holds Tryz.pinned (.plain (OpenSpec.ofChange mergeMakesSpec)) mergeMakesCard

/-- THE TIED CARD OF 'henlaw8.MergeTells'. -/
def mergeTellsCard : Claim7 := { stood := { row := mergeTellsRow, standIns := [], harness := (true, "12e1d939a7c248592b63822e07b0033bfe772f2d547ba06615334cde6a674fd0"), looks := false }, kinds := [], alts := [], laidByText := true, laidKinds := [.data, .data, .data, .data, .pinned], laidTests := true, laidLooks := .later }
def MergeTellsCardSaid : Prop := Claim7.holds Tryz.pinned (.plain (OpenSpec.ofChange mergeTellsSpec)) mergeTellsCard

/-- THE TIED CARD OF 'henlaw8.MergeChanges'. -/
def mergeChangesCard : Claim7 := { stood := { row := mergeChangesRow, standIns := [], harness := (true, "12e1d939a7c248592b63822e07b0033bfe772f2d547ba06615334cde6a674fd0"), looks := false }, kinds := [], alts := [], laidByText := true, laidKinds := [.data, .data, .data, .data, .pinned], laidTests := true, laidLooks := .later }
def MergeChangesCardSaid : Prop := Claim7.holds Tryz.pinned (.plain (OpenSpec.ofChange mergeChangesSpec)) mergeChangesCard

/-- THE SECOND FORM's CARD OF 'henlaw7.CardTells'. -/
def cardTellsUptoCard : Claim7 := { stood := { row := cardTellsUptoRow, standIns := [], harness := (true, "12e1d939a7c248592b63822e07b0033bfe772f2d547ba06615334cde6a674fd0"), looks := false }, kinds := [], alts := [], laidByText := true, laidKinds := [.data, .data, .data, .data, .pinned], laidTests := true, laidLooks := .later }
def CardTellsUptoCardSaid : Prop := Claim7.holds Tryz.pinned (.plain (OpenSpec.upto cardTellsSpec)) cardTellsUptoCard

/-- THE SECOND FORM's CARD OF 'henlaw7.CardBack'. -/
def cardBackUptoCard : Claim7 := { stood := { row := cardBackUptoRow, standIns := [], harness := (true, "12e1d939a7c248592b63822e07b0033bfe772f2d547ba06615334cde6a674fd0"), looks := false }, kinds := [], alts := [], laidByText := true, laidKinds := [.data, .data, .data, .data, .pinned], laidTests := true, laidLooks := .later }
def CardBackUptoCardSaid : Prop := Claim7.holds Tryz.pinned (.plain (OpenSpec.upto cardBackSpec)) cardBackUptoCard

/-- THE SECOND FORM's CARD OF 'henlaw7.CardNames'. -/
def cardNamesUptoCard : Claim7 := { stood := { row := cardNamesUptoRow, standIns := [], harness := (true, "12e1d939a7c248592b63822e07b0033bfe772f2d547ba06615334cde6a674fd0"), looks := false }, kinds := [], alts := [], laidByText := true, laidKinds := [.data, .data, .data, .data, .pinned], laidTests := true, laidLooks := .later }
def CardNamesUptoCardSaid : Prop := Claim7.holds Tryz.pinned (.plain (OpenSpec.upto cardNamesSpec)) cardNamesUptoCard

/-- THE SECOND FORM's CARD OF 'henlaw8.MergeOne'. -/
def mergeOneUptoCard : Claim7 := { stood := { row := mergeOneUptoRow, standIns := [], harness := (true, "12e1d939a7c248592b63822e07b0033bfe772f2d547ba06615334cde6a674fd0"), looks := false }, kinds := [], alts := [], laidByText := true, laidKinds := [.data, .data, .data, .data, .pinned], laidTests := true, laidLooks := .later }
def MergeOneUptoCardSaid : Prop := Claim7.holds Tryz.pinned (.plain (OpenSpec.upto mergeOneSpec)) mergeOneUptoCard

/-- THE SECOND FORM's CARD OF 'henlaw8.MergeTurns'. -/
def mergeTurnsUptoCard : Claim7 := { stood := { row := mergeTurnsUptoRow, standIns := [], harness := (true, "12e1d939a7c248592b63822e07b0033bfe772f2d547ba06615334cde6a674fd0"), looks := false }, kinds := [], alts := [], laidByText := true, laidKinds := [.data, .data, .data, .data, .pinned], laidTests := true, laidLooks := .later }
def MergeTurnsUptoCardSaid : Prop := Claim7.holds Tryz.pinned (.plain (OpenSpec.upto mergeTurnsSpec)) mergeTurnsUptoCard

/-- THE SECOND FORM's CARD OF 'henlaw8.MergeMakes'. -/
def mergeMakesUptoCard : Claim7 := { stood := { row := mergeMakesUptoRow, standIns := [], harness := (true, "12e1d939a7c248592b63822e07b0033bfe772f2d547ba06615334cde6a674fd0"), looks := false }, kinds := [], alts := [], laidByText := true, laidKinds := [.data, .data, .data, .data, .pinned], laidTests := true, laidLooks := .later }
def MergeMakesUptoCardSaid : Prop := Claim7.holds Tryz.pinned (.plain (OpenSpec.upto mergeMakesSpec)) mergeMakesUptoCard

/-- THE SECOND FORM's CARD OF 'henlaw8.MergeTells'. -/
def mergeTellsUptoCard : Claim7 := { stood := { row := mergeTellsUptoRow, standIns := [], harness := (true, "12e1d939a7c248592b63822e07b0033bfe772f2d547ba06615334cde6a674fd0"), looks := false }, kinds := [], alts := [], laidByText := true, laidKinds := [.data, .data, .data, .data, .pinned], laidTests := true, laidLooks := .later }
def MergeTellsUptoCardSaid : Prop := Claim7.holds Tryz.pinned (.plain (OpenSpec.upto mergeTellsSpec)) mergeTellsUptoCard

/-- THE SECOND FORM's CARD OF 'henlaw8.MergeChanges'. -/
def mergeChangesUptoCard : Claim7 := { stood := { row := mergeChangesUptoRow, standIns := [], harness := (true, "12e1d939a7c248592b63822e07b0033bfe772f2d547ba06615334cde6a674fd0"), looks := false }, kinds := [], alts := [], laidByText := true, laidKinds := [.data, .data, .data, .data, .pinned], laidTests := true, laidLooks := .later }
def MergeChangesUptoCardSaid : Prop := Claim7.holds Tryz.pinned (.plain (OpenSpec.upto mergeChangesSpec)) mergeChangesUptoCard
end Rows
end Go.Proofs.YtpejlcaoggedfaaGreatDoor
