/-
  Days: the law of the day behind a day.
-/
import Derived.Test.YtdnmeffglpmlaaaDoorDayNext_no
import Derived.Test.YtdnmeffglpmlaaaDoorDayNext_0
import Derived.Test.YtdnmeffglpmlaaaDoorDayNext_a
import Derived.Test.YtdnmeffglpmlaaaDoorDayNext_b
import Derived.Test.YtdnmeffglpmlaaaDoorDayNext_c
import Derived.Test.YtdnmeffglpmlaaaDoorDayNext_d
namespace Go.Proofs.YtdnmeffglpmlaaaDoor
open Go.RowKit Go.Sort


theorem daynext_calls (y m d : Int) (w : World) (ht : Tab w) : Calls Tryd.prog 5 #[.agg #[.int .i64 y, .int .i64 m, .int .i64 d]] w fun e w' => e = .returned (.bool true) ∧ Below w.heap.size w w' := by
  rcases Bool.eq_false_or_eq_true (mayB y m d) with h1 | h1
  · by_cases hy : y = 0
    · subst hy; exact daynext_0 m d w ht h1
    · rcases Bool.eq_false_or_eq_true (mayB y m (d + 1)) with h2 | h2
      · exact daynext_a y m d w ht hy h1 h2
      · rcases Bool.eq_false_or_eq_true (mayB y (m + 1) 1) with h3 | h3
        · exact daynext_b y m d w ht hy h1 h2 h3
        · rcases Bool.eq_false_or_eq_true (mayB (y + 1) 1 1) with h4 | h4
          · exact daynext_c y m d w ht hy h1 h2 h3 h4
          · obtain ⟨rfl, rfl, rfl⟩ := next_d y m d hy h1 h2 h3 h4
            exact daynext_d w ht h1 h2 h3 h4
  · exact daynext_no y m d w ht h1

end Go.Proofs.YtdnmeffglpmlaaaDoor
