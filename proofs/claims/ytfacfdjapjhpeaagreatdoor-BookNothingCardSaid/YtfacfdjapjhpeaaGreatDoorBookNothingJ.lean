/-
  BookNothing: the facts of its row, joined.
-/
import Derived.Test.YtfacfdjapjhpeaaGreatDoorRows
import Derived.JoinedOf
set_option linter.unusedVariables false
set_option linter.unusedSimpArgs false
namespace Go.Proofs.YtfacfdjapjhpeaaGreatDoor.bookNothingLaw

theorem joined : joinedFacts Tryz.pinned.checked.prog 8 Tryz.f8 (OpenSpec.ofChange Rows.bookNothingSpec).bare Rows.bookNothingRow = true := by kernel_rfl
end Go.Proofs.YtfacfdjapjhpeaaGreatDoor.bookNothingLaw
