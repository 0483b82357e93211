/-
  Days: the law of the day behind a day.
-/
import Derived.Test.YtdnmeffglpmlaaaDoorDayQ
namespace Go.Proofs.YtdnmeffglpmlaaaDoor
open Go.RowKit Go.Sort

theorem count_is (y m d n : Int) (h : countV y m d = n) (w : World) : Calls Tryd.prog 19 #[.agg #[.int .i64 y, .int .i64 m, .int .i64 d]] w fun e w' => e = .returned (.int .i64 n) ∧ Below w.heap.size w w' := h ▸ count_calls y m d w

end Go.Proofs.YtdnmeffglpmlaaaDoor
