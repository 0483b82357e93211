/-
  From the row's list to what the walks over texts ask.
-/
import Derived.Test.YtdnmeffglpmlaaaDoorMailC
import Derived.Test.YtdnmeffglpmlaaaDoorCards
import Derived.Test.YtdnmeffglpmlaaaDoorTie
import Derived.ProofKit
import Derived.OpenShut
import Derived.ShutString
import Derived.ChangeOld
import Derived.Deep.Slices
import Derived.Deep.Fields
import Derived.Deep.DeepHandedRow
import Derived.Lib.LaidU8T
namespace Go.Proofs.YtdnmeffglpmlaaaDoor
open Go.ChangeShapes Go.WideShapes Go.ChangeAt Go.RowKit

theorem ownT : ownKnob Tryd.prog.godebug = none := by kernel_rfl
theorem laidOutT : laidOutB Tryd.prog = true := by kernel_rfl
theorem firstIs : (Rows.laid_unicode_utf8_first : DataW Unit) = Lib.firstData := by kernel_rfl
theorem accIs : (Rows.laid_unicode_utf8_acceptRanges : DataW Unit) = Lib.acceptData := by kernel_rfl
theorem tbl_of {W : World} (h : laidMetH Tryd.prog [("unicode/utf8.acceptRanges", Rows.laid_unicode_utf8_acceptRanges), ("unicode/utf8.first", Rows.laid_unicode_utf8_first)] W) (hs : W.ShapedOpen Tryd.prog) : Tbl W := by
  have h' : laidMet Tryd.prog [("unicode/utf8.acceptRanges", Rows.laid_unicode_utf8_acceptRanges), ("unicode/utf8.first", Rows.laid_unicode_utf8_first)] W := h
  rw [firstIs, accIs] at h'
  exact ⟨utf8Tabs_of_readsT (U8Types.of196 lays196) ⟨by kernel_rfl, by kernel_rfl, by kernel_rfl, by kernel_rfl, by kernel_rfl, by kernel_rfl, by kernel_rfl⟩ (Lib.laidMet.reads h' (.tail _ (.head _))) (Lib.laidMet.reads h' (.head _)), laysM144.s1_3 W hs⟩

/-- A listed table's cells. -/
def arrT (d : DataW Unit) : Array Value := match d with
  | .agg l => (l.flatMap fun
    | .lit x => [x.value]
    | .agg k => k.map fun | .lit x => x.value | _ => undef
    | _ => []).toArray
  | _ => #[]
def putT (d : DataW Unit) : Obj → Obj
  | .cells _ t frozen => .cells (arrT d) t frozen
  | o => o
noncomputable def laidWorldT (os : Os) : World :=
  { World.holding Tryd.prog os ⟨#[], #[], []⟩ with heap := ((World.holding Tryd.prog os ⟨#[], #[], []⟩).heap.modify 0 (putT Rows.laid_unicode_utf8_first)).modify 1 (putT Rows.laid_unicode_utf8_acceptRanges) }

end Go.Proofs.YtdnmeffglpmlaaaDoor
