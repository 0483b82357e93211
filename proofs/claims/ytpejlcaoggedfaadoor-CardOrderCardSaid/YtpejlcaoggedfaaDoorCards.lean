/-
  DERIVED. GIVEN WITH THE SEED: THE CARDS: each row of YtpejlcaoggedfaaDoorRows.lean that lists a variable, with what it lists TIED to the program's text (the seventh form; the later family's looks); each row that meets fmt, with fmt's text TOLD by the authors' own Lean function (tested against real Go, not proved from fmt's source: count such statements apart). THE CARD IS WHAT COUNTS. Prove the row's statement (the work); the ties are given (YtpejlcaoggedfaaDoorTie.lean); close each card by the builder's one call (the guide's Derived/Test/ToyasCard.lean, 'card_holds'). Laid BY PROGRAM, IN A SANDBOX (cutbox-door.mjs). By AI agents, Wed Nov 11 2026. No macro, syntax, notation, axiom, sorry.
-/
import Derived.Test.YtpejlcaoggedfaaDoorRows
import GoSem.ClaimSeven
namespace Go.Proofs.YtpejlcaoggedfaaDoor
namespace Rows

/-- THE TIED CARD OF 'henlaw6.FieldBack'. -/
def fieldBackCard : Claim7 := { stood := { row := fieldBackRow, standIns := [], harness := (true, "87503be343946627de7d09ddae486054519a458ea2168df26a667cc299aee57d"), looks := false }, kinds := [], alts := [], laidByText := true, laidKinds := [.data, .data, .data, .data, .pinned], laidTests := true, laidLooks := .later }
def FieldBackCardSaid : Prop := Claim7.holds Tryd.pinned (.plain (OpenSpec.ofChange fieldBackSpec)) fieldBackCard

/-- THE TIED CARD OF 'henlaw6.FieldTells'. -/
def fieldTellsCard : Claim7 := { stood := { row := fieldTellsRow, standIns := [], harness := (true, "87503be343946627de7d09ddae486054519a458ea2168df26a667cc299aee57d"), looks := false }, kinds := [], alts := [], laidByText := true, laidKinds := [.data, .data, .data, .data, .pinned], laidTests := true, laidLooks := .later }
def FieldTellsCardSaid : Prop := Claim7.holds Tryd.pinned (.plain (OpenSpec.ofChange fieldTellsSpec)) fieldTellsCard

/-- THE TIED CARD OF 'henlaw6.FieldOrders'. -/
def fieldOrdersCard : Claim7 := { stood := { row := fieldOrdersRow, standIns := [], harness := (true, "87503be343946627de7d09ddae486054519a458ea2168df26a667cc299aee57d"), looks := false }, kinds := [], alts := [], laidByText := true, laidKinds := [.data, .data, .data, .data, .pinned], laidTests := true, laidLooks := .later }
def FieldOrdersCardSaid : Prop := Claim7.holds Tryd.pinned (.plain (OpenSpec.ofChange fieldOrdersSpec)) fieldOrdersCard

/-- THE TIED CARD OF 'henlaw7.CardOrder'. -/
def cardOrderCard : Claim7 := { stood := { row := cardOrderRow, standIns := [], harness := (true, "87503be343946627de7d09ddae486054519a458ea2168df26a667cc299aee57d"), looks := false }, kinds := [], alts := [], laidByText := true, laidKinds := [.data, .data, .data, .data, .pinned], laidTests := true, laidLooks := .later }
def CardOrderCardSaid : Prop := Claim7.holds Tryd.pinned (.plain (OpenSpec.ofChange cardOrderSpec)) cardOrderCard

/-- THE SECOND FORM's CARD OF 'henlaw6.FieldBack'. -/
def fieldBackUptoCard : Claim7 := { stood := { row := fieldBackUptoRow, standIns := [], harness := (true, "87503be343946627de7d09ddae486054519a458ea2168df26a667cc299aee57d"), looks := false }, kinds := [], alts := [], laidByText := true, laidKinds := [.data, .data, .data, .data, .pinned], laidTests := true, laidLooks := .later }
def FieldBackUptoCardSaid : Prop := Claim7.holds Tryd.pinned (.plain (OpenSpec.upto fieldBackSpec)) fieldBackUptoCard

/-- THE SECOND FORM's CARD OF 'henlaw6.FieldTells'. -/
def fieldTellsUptoCard : Claim7 := { stood := { row := fieldTellsUptoRow, standIns := [], harness := (true, "87503be343946627de7d09ddae486054519a458ea2168df26a667cc299aee57d"), looks := false }, kinds := [], alts := [], laidByText := true, laidKinds := [.data, .data, .data, .data, .pinned], laidTests := true, laidLooks := .later }
def FieldTellsUptoCardSaid : Prop := Claim7.holds Tryd.pinned (.plain (OpenSpec.upto fieldTellsSpec)) fieldTellsUptoCard

/-- THE SECOND FORM's CARD OF 'henlaw6.FieldOrders'. -/
def fieldOrdersUptoCard : Claim7 := { stood := { row := fieldOrdersUptoRow, standIns := [], harness := (true, "87503be343946627de7d09ddae486054519a458ea2168df26a667cc299aee57d"), looks := false }, kinds := [], alts := [], laidByText := true, laidKinds := [.data, .data, .data, .data, .pinned], laidTests := true, laidLooks := .later }
def FieldOrdersUptoCardSaid : Prop := Claim7.holds Tryd.pinned (.plain (OpenSpec.upto fieldOrdersSpec)) fieldOrdersUptoCard

/-- THE SECOND FORM's CARD OF 'henlaw7.CardOrder'. -/
def cardOrderUptoCard : Claim7 := { stood := { row := cardOrderUptoRow, standIns := [], harness := (true, "87503be343946627de7d09ddae486054519a458ea2168df26a667cc299aee57d"), looks := false }, kinds := [], alts := [], laidByText := true, laidKinds := [.data, .data, .data, .data, .pinned], laidTests := true, laidLooks := .later }
def CardOrderUptoCardSaid : Prop := Claim7.holds Tryd.pinned (.plain (OpenSpec.upto cardOrderSpec)) cardOrderUptoCard
end Rows
end Go.Proofs.YtpejlcaoggedfaaDoor
