/-
  BookBytes: the facts of its row, joined.
-/
import Derived.Test.YtfacfdjapjhpeaaGreatDoorGAW
set_option linter.unusedVariables false
set_option linter.unusedSimpArgs false
namespace Go.Proofs.YtfacfdjapjhpeaaGreatDoor.bookBytesLaw
open Go.ChangeShapes Go.WideShapes Go.ChangeAt Go.RowKit

theorem joined : joinedFacts Tryz.pinned.checked.prog 9 Tryz.f9 (OpenSpec.ofChange Rows.bookBytesSpec).bare Rows.bookBytesRow = true := by kernel_rfl
end Go.Proofs.YtfacfdjapjhpeaaGreatDoor.bookBytesLaw
