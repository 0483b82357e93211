/-
  DERIVED. GIVEN WITH THE SEED: THE CARDS: each row of YtdnmeffglpmlaaaDoorRows.lean that lists a variable, with what it lists TIED to the program's text (the seventh form; the later family's looks); each row that meets fmt, with fmt's text TOLD by the authors' own Lean function (tested against real Go, not proved from fmt's source: count such statements apart). THE CARD IS WHAT COUNTS. Prove the row's statement (the work); the ties are given (YtdnmeffglpmlaaaDoorTie.lean); close each card by the builder's one call (the guide's Derived/Test/ToyasCard.lean, 'card_holds'). Laid BY PROGRAM, IN A SANDBOX (cutbox-door.mjs). By AI agents, Wed Nov 11 2026. No macro, syntax, notation, axiom, sorry.
-/
import Derived.Test.YtdnmeffglpmlaaaDoorRows
import GoSem.ClaimSeven
namespace Go.Proofs.YtdnmeffglpmlaaaDoor
namespace Rows

/-- THE TIED CARD OF 'henlaw5.DayTells'. -/
def dayTellsCard : Claim7 := { stood := { row := dayTellsRow, standIns := [], harness := (true, "85644a5b974bce176be26584416563fda7d54a69599569e855f4e83d0c5f218e"), looks := false }, kinds := [], alts := [], laidByText := true, laidKinds := [.data, .data, .data], laidTests := true, laidLooks := .later }
def DayTellsCardSaid : Prop := Claim7.holds Tryd.pinned (.plain (OpenSpec.ofChange dayTellsSpec)) dayTellsCard

/-- THE TIED CARD OF 'henlaw5.DayBack'. -/
def dayBackCard : Claim7 := { stood := { row := dayBackRow, standIns := [], harness := (true, "85644a5b974bce176be26584416563fda7d54a69599569e855f4e83d0c5f218e"), looks := false }, kinds := [], alts := [], laidByText := true, laidKinds := [.data, .data, .data], laidTests := true, laidLooks := .later }
def DayBackCardSaid : Prop := Claim7.holds Tryd.pinned (.plain (OpenSpec.ofChange dayBackSpec)) dayBackCard

/-- THE TIED CARD OF 'henlaw5.DayNext'. -/
def dayNextCard : Claim7 := { stood := { row := dayNextRow, standIns := [], harness := (true, "85644a5b974bce176be26584416563fda7d54a69599569e855f4e83d0c5f218e"), looks := false }, kinds := [], alts := [], laidByText := true, laidKinds := [.data, .data, .data], laidTests := true, laidLooks := .later }
def DayNextCardSaid : Prop := Claim7.holds Tryd.pinned (.plain (OpenSpec.ofChange dayNextSpec)) dayNextCard

/-- THE TIED CARD OF 'henlaw5.DayUntil'. -/
def dayUntilCard : Claim7 := { stood := { row := dayUntilRow, standIns := [], harness := (true, "85644a5b974bce176be26584416563fda7d54a69599569e855f4e83d0c5f218e"), looks := false }, kinds := [], alts := [], laidByText := true, laidKinds := [.data, .data, .data], laidTests := true, laidLooks := .later }
def DayUntilCardSaid : Prop := Claim7.holds Tryd.pinned (.plain (OpenSpec.ofChange dayUntilSpec)) dayUntilCard

/-- THE TIED CARD OF 'henlaw4.MailTells'. -/
def mailTellsCard : Claim7 := { stood := { row := mailTellsRow, standIns := [], harness := (true, "85644a5b974bce176be26584416563fda7d54a69599569e855f4e83d0c5f218e"), looks := false }, kinds := [], alts := [], laidByText := true, laidKinds := [.data, .pinned], laidTests := true, laidLooks := .later }
def MailTellsCardSaid : Prop := Claim7.holds Tryd.pinned (.plain (OpenSpec.ofChange mailTellsSpec)) mailTellsCard

/-- THE TIED CARD OF 'henlaw4.MailBack'. -/
def mailBackCard : Claim7 := { stood := { row := mailBackRow, standIns := [], harness := (true, "85644a5b974bce176be26584416563fda7d54a69599569e855f4e83d0c5f218e"), looks := false }, kinds := [], alts := [], laidByText := true, laidKinds := [.data, .pinned], laidTests := true, laidLooks := .later }
def MailBackCardSaid : Prop := Claim7.holds Tryd.pinned (.plain (OpenSpec.ofChange mailBackSpec)) mailBackCard

/-- THE TIED CARD OF 'henlaw4.MailMakes'. -/
def mailMakesCard : Claim7 := { stood := { row := mailMakesRow, standIns := [], harness := (true, "85644a5b974bce176be26584416563fda7d54a69599569e855f4e83d0c5f218e"), looks := false }, kinds := [], alts := [], laidByText := true, laidKinds := [.data, .pinned], laidTests := true, laidLooks := .later }
def MailMakesCardSaid : Prop := Claim7.holds Tryd.pinned (.plain (OpenSpec.ofChange mailMakesSpec)) mailMakesCard

/-- THE SECOND FORM's CARD OF 'henlaw5.DayTells'. -/
def dayTellsUptoCard : Claim7 := { stood := { row := dayTellsUptoRow, standIns := [], harness := (true, "85644a5b974bce176be26584416563fda7d54a69599569e855f4e83d0c5f218e"), looks := false }, kinds := [], alts := [], laidByText := true, laidKinds := [.data, .data, .data], laidTests := true, laidLooks := .later }
def DayTellsUptoCardSaid : Prop := Claim7.holds Tryd.pinned (.plain (OpenSpec.upto dayTellsSpec)) dayTellsUptoCard

/-- THE SECOND FORM's CARD OF 'henlaw5.DayBack'. -/
def dayBackUptoCard : Claim7 := { stood := { row := dayBackUptoRow, standIns := [], harness := (true, "85644a5b974bce176be26584416563fda7d54a69599569e855f4e83d0c5f218e"), looks := false }, kinds := [], alts := [], laidByText := true, laidKinds := [.data, .data, .data], laidTests := true, laidLooks := .later }
def DayBackUptoCardSaid : Prop := Claim7.holds Tryd.pinned (.plain (OpenSpec.upto dayBackSpec)) dayBackUptoCard

/-- THE SECOND FORM's CARD OF 'henlaw5.DayNext'. -/
def dayNextUptoCard : Claim7 := { stood := { row := dayNextUptoRow, standIns := [], harness := (true, "85644a5b974bce176be26584416563fda7d54a69599569e855f4e83d0c5f218e"), looks := false }, kinds := [], alts := [], laidByText := true, laidKinds := [.data, .data, .data], laidTests := true, laidLooks := .later }
def DayNextUptoCardSaid : Prop := Claim7.holds Tryd.pinned (.plain (OpenSpec.upto dayNextSpec)) dayNextUptoCard

/-- THE SECOND FORM's CARD OF 'henlaw5.DayUntil'. -/
def dayUntilUptoCard : Claim7 := { stood := { row := dayUntilUptoRow, standIns := [], harness := (true, "85644a5b974bce176be26584416563fda7d54a69599569e855f4e83d0c5f218e"), looks := false }, kinds := [], alts := [], laidByText := true, laidKinds := [.data, .data, .data], laidTests := true, laidLooks := .later }
def DayUntilUptoCardSaid : Prop := Claim7.holds Tryd.pinned (.plain (OpenSpec.upto dayUntilSpec)) dayUntilUptoCard

/-- THE SECOND FORM's CARD OF 'henlaw4.MailTells'. -/
def mailTellsUptoCard : Claim7 := { stood := { row := mailTellsUptoRow, standIns := [], harness := (true, "85644a5b974bce176be26584416563fda7d54a69599569e855f4e83d0c5f218e"), looks := false }, kinds := [], alts := [], laidByText := true, laidKinds := [.data, .pinned], laidTests := true, laidLooks := .later }
def MailTellsUptoCardSaid : Prop := Claim7.holds Tryd.pinned (.plain (OpenSpec.upto mailTellsSpec)) mailTellsUptoCard

/-- THE SECOND FORM's CARD OF 'henlaw4.MailBack'. -/
def mailBackUptoCard : Claim7 := { stood := { row := mailBackUptoRow, standIns := [], harness := (true, "85644a5b974bce176be26584416563fda7d54a69599569e855f4e83d0c5f218e"), looks := false }, kinds := [], alts := [], laidByText := true, laidKinds := [.data, .pinned], laidTests := true, laidLooks := .later }
def MailBackUptoCardSaid : Prop := Claim7.holds Tryd.pinned (.plain (OpenSpec.upto mailBackSpec)) mailBackUptoCard

/-- THE SECOND FORM's CARD OF 'henlaw4.MailMakes'. -/
def mailMakesUptoCard : Claim7 := { stood := { row := mailMakesUptoRow, standIns := [], harness := (true, "85644a5b974bce176be26584416563fda7d54a69599569e855f4e83d0c5f218e"), looks := false }, kinds := [], alts := [], laidByText := true, laidKinds := [.data, .pinned], laidTests := true, laidLooks := .later }
def MailMakesUptoCardSaid : Prop := Claim7.holds Tryd.pinned (.plain (OpenSpec.upto mailMakesSpec)) mailMakesUptoCard
end Rows
end Go.Proofs.YtdnmeffglpmlaaaDoor
