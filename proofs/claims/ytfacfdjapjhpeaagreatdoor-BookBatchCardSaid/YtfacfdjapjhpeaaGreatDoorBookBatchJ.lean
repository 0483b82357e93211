/-
  BookBatch: the facts of its row, joined.
-/
import Derived.Test.YtfacfdjapjhpeaaGreatDoorRows
import Derived.JoinedOf
set_option linter.unusedVariables false
set_option linter.unusedSimpArgs false
namespace Go.Proofs.YtfacfdjapjhpeaaGreatDoor.bookBatchLaw

theorem joined : joinedFacts Tryz.pinned.checked.prog 6 Tryz.f6 (OpenSpec.ofChange Rows.bookBatchSpec).bare Rows.bookBatchRow = true := by kernel_rfl
end Go.Proofs.YtfacfdjapjhpeaaGreatDoor.bookBatchLaw
