/-
  DERIVED. GIVEN WITH THE SEED: THE CARDS: each row of YtogjokofmfpmgaaGreatDoorRows.lean that lists a variable, with what it lists TIED to the program's text (the seventh form; the later family's looks); each row that meets fmt, with fmt's text TOLD by the authors' own Lean function (tested against real Go, not proved from fmt's source: count such statements apart). THE CARD IS WHAT COUNTS. Prove the row's statement (the work); the ties are given (YtogjokofmfpmgaaGreatDoorTie.lean); close each card by the builder's one call (the guide's Derived/Test/ToyasCard.lean, 'card_holds'). Laid BY PROGRAM, IN A SANDBOX (cutbox-door.mjs). By AI agents, Wed Nov 11 2026. No macro, syntax, notation, axiom, sorry.
-/
import Derived.Test.YtogjokofmfpmgaaGreatDoorRows
import GoSem.ClaimSeven
namespace Go.Proofs.YtogjokofmfpmgaaGreatDoor
namespace Rows

/-- THE TIED CARD OF 'henlaw12.ReqTells'. -/
def reqTellsCard : Claim7 := { stood := { row := reqTellsRow, standIns := [], harness := (true, "971d6d9d8bdf1ae41c4c22a825017ae81522b4c179a6e15c441d06c74bd47b0a"), looks := false }, kinds := [], alts := [], laidByText := true, laidKinds := [.data, .data, .data, .data, .pinned], laidTests := true, laidLooks := .later }
def ReqTellsCardSaid : Prop := Claim7.holds Tryz.pinned (.plain (OpenSpec.ofChange reqTellsSpec)) reqTellsCard

/-- THE TIED CARD OF 'henlaw12.ReqBack'. -/
def reqBackCard : Claim7 := { stood := { row := reqBackRow, standIns := [], harness := (true, "971d6d9d8bdf1ae41c4c22a825017ae81522b4c179a6e15c441d06c74bd47b0a"), looks := false }, kinds := [], alts := [], laidByText := true, laidKinds := [.data, .data, .data, .data, .pinned], laidTests := true, laidLooks := .later }
def ReqBackCardSaid : Prop := Claim7.holds Tryz.pinned (.plain (OpenSpec.ofChange reqBackSpec)) reqBackCard

/-- THE TIED CARD OF 'henlaw12.ReqCut'. -/
def reqCutCard : Claim7 := { stood := { row := reqCutRow, standIns := [], harness := (true, "971d6d9d8bdf1ae41c4c22a825017ae81522b4c179a6e15c441d06c74bd47b0a"), looks := false }, kinds := [], alts := [], laidByText := true, laidKinds := [.data, .data, .data, .data, .pinned], laidTests := true, laidLooks := .later }
def ReqCutCardSaid : Prop := Claim7.holds Tryz.pinned (.plain (OpenSpec.ofChange reqCutSpec)) reqCutCard

/-- THE TIED CARD OF 'henlaw12.ReqFields'. -/
def reqFieldsCard : Claim7 := { stood := { row := reqFieldsRow, standIns := [], harness := (true, "971d6d9d8bdf1ae41c4c22a825017ae81522b4c179a6e15c441d06c74bd47b0a"), looks := false }, kinds := [], alts := [], laidByText := true, laidKinds := [.data, .data, .data, .data, .pinned], laidTests := true, laidLooks := .later }
def ReqFieldsCardSaid : Prop := Claim7.holds Tryz.pinned (.plain (OpenSpec.ofChange reqFieldsSpec)) reqFieldsCard

/-- THE TIED CARD OF 'henlaw12.ReqNames'. -/
def reqNamesCard : Claim7 := { stood := { row := reqNamesRow, standIns := [], harness := (true, "971d6d9d8bdf1ae41c4c22a825017ae81522b4c179a6e15c441d06c74bd47b0a"), looks := false }, kinds := [], alts := [], laidByText := true, laidKinds := [.data, .data, .data, .data, .pinned], laidTests := true, laidLooks := .later }
def ReqNamesCardSaid : Prop := Claim7.holds Tryz.pinned (.plain (OpenSpec.ofChange reqNamesSpec)) reqNamesCard

/-- THE TIED CARD OF 'henlaw26.SessPlays'. -/
def sessPlaysCard : Claim7 := { stood := { row := sessPlaysRow, standIns := [], harness := (true, "971d6d9d8bdf1ae41c4c22a825017ae81522b4c179a6e15c441d06c74bd47b0a"), looks := false }, kinds := [], alts := [], laidByText := true, laidKinds := [.data, .data, .data, .data, .pinned], laidTests := true, laidLooks := .later }
def SessPlaysCardSaid : Prop := Claim7.holds Tryz.pinned (.plain (OpenSpec.ofChange sessPlaysSpec)) sessPlaysCard

/-- THE TIED CARD OF 'henlaw26.SessReady'. -/
def sessReadyCard : Claim7 := { stood := { row := sessReadyRow, standIns := [], harness := (true, "971d6d9d8bdf1ae41c4c22a825017ae81522b4c179a6e15c441d06c74bd47b0a"), looks := false }, kinds := [], alts := [], laidByText := true, laidKinds := [.data, .data, .data, .data, .pinned], laidTests := true, laidLooks := .later }
def SessReadyCardSaid : Prop := Claim7.holds Tryz.pinned (.plain (OpenSpec.ofChange sessReadySpec)) sessReadyCard

/-- THE TIED CARD OF 'henlaw26.SessPieces'. -/
def sessPiecesCard : Claim7 := { stood := { row := sessPiecesRow, standIns := [], harness := (true, "971d6d9d8bdf1ae41c4c22a825017ae81522b4c179a6e15c441d06c74bd47b0a"), looks := false }, kinds := [], alts := [], laidByText := true, laidKinds := [.data, .data, .data, .data, .pinned], laidTests := true, laidLooks := .later }
def SessPiecesCardSaid : Prop := Claim7.holds Tryz.pinned (.plain (OpenSpec.ofChange sessPiecesSpec)) sessPiecesCard

/-- THE TIED CARD OF 'henlaw26.SessBound'. -/
def sessBoundCard : Claim7 := { stood := { row := sessBoundRow, standIns := [], harness := (true, "971d6d9d8bdf1ae41c4c22a825017ae81522b4c179a6e15c441d06c74bd47b0a"), looks := false }, kinds := [], alts := [], laidByText := true, laidKinds := [.data, .data, .data, .data, .pinned], laidTests := true, laidLooks := .later }
def SessBoundCardSaid : Prop := Claim7.holds Tryz.pinned (.plain (OpenSpec.ofChange sessBoundSpec)) sessBoundCard

/-- THE TIED CARD OF 'henlaw26.SessAsks'. -/
def sessAsksCard : Claim7 := { stood := { row := sessAsksRow, standIns := [], harness := (true, "971d6d9d8bdf1ae41c4c22a825017ae81522b4c179a6e15c441d06c74bd47b0a"), looks := false }, kinds := [], alts := [], laidByText := true, laidKinds := [.data, .data, .data, .data, .pinned], laidTests := true, laidLooks := .later }
def SessAsksCardSaid : Prop := Claim7.holds Tryz.pinned (.plain (OpenSpec.ofChange sessAsksSpec)) sessAsksCard

/-- THE SECOND FORM's CARD OF 'henlaw12.ReqTells'. -/
def reqTellsUptoCard : Claim7 := { stood := { row := reqTellsUptoRow, standIns := [], harness := (true, "971d6d9d8bdf1ae41c4c22a825017ae81522b4c179a6e15c441d06c74bd47b0a"), looks := false }, kinds := [], alts := [], laidByText := true, laidKinds := [.data, .data, .data, .data, .pinned], laidTests := true, laidLooks := .later }
def ReqTellsUptoCardSaid : Prop := Claim7.holds Tryz.pinned (.plain (OpenSpec.upto reqTellsSpec)) reqTellsUptoCard

/-- THE SECOND FORM's CARD OF 'henlaw12.ReqBack'. -/
def reqBackUptoCard : Claim7 := { stood := { row := reqBackUptoRow, standIns := [], harness := (true, "971d6d9d8bdf1ae41c4c22a825017ae81522b4c179a6e15c441d06c74bd47b0a"), looks := false }, kinds := [], alts := [], laidByText := true, laidKinds := [.data, .data, .data, .data, .pinned], laidTests := true, laidLooks := .later }
def ReqBackUptoCardSaid : Prop := Claim7.holds Tryz.pinned (.plain (OpenSpec.upto reqBackSpec)) reqBackUptoCard

/-- THE SECOND FORM's CARD OF 'henlaw12.ReqCut'. -/
def reqCutUptoCard : Claim7 := { stood := { row := reqCutUptoRow, standIns := [], harness := (true, "971d6d9d8bdf1ae41c4c22a825017ae81522b4c179a6e15c441d06c74bd47b0a"), looks := false }, kinds := [], alts := [], laidByText := true, laidKinds := [.data, .data, .data, .data, .pinned], laidTests := true, laidLooks := .later }
def ReqCutUptoCardSaid : Prop := Claim7.holds Tryz.pinned (.plain (OpenSpec.upto reqCutSpec)) reqCutUptoCard

/-- THE SECOND FORM's CARD OF 'henlaw12.ReqFields'. -/
def reqFieldsUptoCard : Claim7 := { stood := { row := reqFieldsUptoRow, standIns := [], harness := (true, "971d6d9d8bdf1ae41c4c22a825017ae81522b4c179a6e15c441d06c74bd47b0a"), looks := false }, kinds := [], alts := [], laidByText := true, laidKinds := [.data, .data, .data, .data, .pinned], laidTests := true, laidLooks := .later }
def ReqFieldsUptoCardSaid : Prop := Claim7.holds Tryz.pinned (.plain (OpenSpec.upto reqFieldsSpec)) reqFieldsUptoCard

/-- THE SECOND FORM's CARD OF 'henlaw12.ReqNames'. -/
def reqNamesUptoCard : Claim7 := { stood := { row := reqNamesUptoRow, standIns := [], harness := (true, "971d6d9d8bdf1ae41c4c22a825017ae81522b4c179a6e15c441d06c74bd47b0a"), looks := false }, kinds := [], alts := [], laidByText := true, laidKinds := [.data, .data, .data, .data, .pinned], laidTests := true, laidLooks := .later }
def ReqNamesUptoCardSaid : Prop := Claim7.holds Tryz.pinned (.plain (OpenSpec.upto reqNamesSpec)) reqNamesUptoCard

/-- THE SECOND FORM's CARD OF 'henlaw26.SessPlays'. -/
def sessPlaysUptoCard : Claim7 := { stood := { row := sessPlaysUptoRow, standIns := [], harness := (true, "971d6d9d8bdf1ae41c4c22a825017ae81522b4c179a6e15c441d06c74bd47b0a"), looks := false }, kinds := [], alts := [], laidByText := true, laidKinds := [.data, .data, .data, .data, .pinned], laidTests := true, laidLooks := .later }
def SessPlaysUptoCardSaid : Prop := Claim7.holds Tryz.pinned (.plain (OpenSpec.upto sessPlaysSpec)) sessPlaysUptoCard

/-- THE SECOND FORM's CARD OF 'henlaw26.SessReady'. -/
def sessReadyUptoCard : Claim7 := { stood := { row := sessReadyUptoRow, standIns := [], harness := (true, "971d6d9d8bdf1ae41c4c22a825017ae81522b4c179a6e15c441d06c74bd47b0a"), looks := false }, kinds := [], alts := [], laidByText := true, laidKinds := [.data, .data, .data, .data, .pinned], laidTests := true, laidLooks := .later }
def SessReadyUptoCardSaid : Prop := Claim7.holds Tryz.pinned (.plain (OpenSpec.upto sessReadySpec)) sessReadyUptoCard

/-- THE SECOND FORM's CARD OF 'henlaw26.SessPieces'. -/
def sessPiecesUptoCard : Claim7 := { stood := { row := sessPiecesUptoRow, standIns := [], harness := (true, "971d6d9d8bdf1ae41c4c22a825017ae81522b4c179a6e15c441d06c74bd47b0a"), looks := false }, kinds := [], alts := [], laidByText := true, laidKinds := [.data, .data, .data, .data, .pinned], laidTests := true, laidLooks := .later }
def SessPiecesUptoCardSaid : Prop := Claim7.holds Tryz.pinned (.plain (OpenSpec.upto sessPiecesSpec)) sessPiecesUptoCard

/-- THE SECOND FORM's CARD OF 'henlaw26.SessBound'. -/
def sessBoundUptoCard : Claim7 := { stood := { row := sessBoundUptoRow, standIns := [], harness := (true, "971d6d9d8bdf1ae41c4c22a825017ae81522b4c179a6e15c441d06c74bd47b0a"), looks := false }, kinds := [], alts := [], laidByText := true, laidKinds := [.data, .data, .data, .data, .pinned], laidTests := true, laidLooks := .later }
def SessBoundUptoCardSaid : Prop := Claim7.holds Tryz.pinned (.plain (OpenSpec.upto sessBoundSpec)) sessBoundUptoCard

/-- THE SECOND FORM's CARD OF 'henlaw26.SessAsks'. -/
def sessAsksUptoCard : Claim7 := { stood := { row := sessAsksUptoRow, standIns := [], harness := (true, "971d6d9d8bdf1ae41c4c22a825017ae81522b4c179a6e15c441d06c74bd47b0a"), looks := false }, kinds := [], alts := [], laidByText := true, laidKinds := [.data, .data, .data, .data, .pinned], laidTests := true, laidLooks := .later }
def SessAsksUptoCardSaid : Prop := Claim7.holds Tryz.pinned (.plain (OpenSpec.upto sessAsksSpec)) sessAsksUptoCard
end Rows
end Go.Proofs.YtogjokofmfpmgaaGreatDoor
