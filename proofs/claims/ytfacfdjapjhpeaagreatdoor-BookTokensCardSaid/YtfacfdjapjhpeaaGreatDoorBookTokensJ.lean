/-
  BookTokens: the facts of its row, joined.
-/
import Derived.Test.YtfacfdjapjhpeaaGreatDoorGAW
set_option linter.unusedVariables false
set_option linter.unusedSimpArgs false
namespace Go.Proofs.YtfacfdjapjhpeaaGreatDoor.bookTokensLaw
open Go.ChangeShapes Go.WideShapes Go.ChangeAt Go.RowKit

theorem joined : joinedFacts Tryz.pinned.checked.prog 4 Tryz.f4 (OpenSpec.ofChange Rows.bookTokensSpec).bare Rows.bookTokensRow = true := by kernel_rfl
end Go.Proofs.YtfacfdjapjhpeaaGreatDoor.bookTokensLaw
