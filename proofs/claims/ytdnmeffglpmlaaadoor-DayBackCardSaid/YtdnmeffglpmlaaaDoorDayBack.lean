/-
  Days: the law of what is shown and parsed.
-/
import Derived.Test.YtdnmeffglpmlaaaDoorDayBack_long
import Derived.Test.YtdnmeffglpmlaaaDoorDayBack_0no
import Derived.Test.YtdnmeffglpmlaaaDoorDayBack_0y0
import Derived.Test.YtdnmeffglpmlaaaDoorDayBack_0yy
import Derived.Test.YtdnmeffglpmlaaaDoorDayBack_1no
import Derived.Test.YtdnmeffglpmlaaaDoorDayBack_1y0
import Derived.Test.YtdnmeffglpmlaaaDoorDayBack_1yy
import Derived.Laws.StructEq
namespace Go.Proofs.YtdnmeffglpmlaaaDoor
open Go.RowKit


theorem dayback_calls (y m d : Int) (s : ByteArray) (hm : s.size ≤ maxLen) (w : World) (ht : Tab w) : Calls Tryd.prog 4 #[.agg #[.int .i64 y, .int .i64 m, .int .i64 d], .string s] w fun e w' => e = .returned (.bool true) ∧ Below w.heap.size w w' := by
  by_cases hl : 60 < s.size
  · exact dayback_long y m d s w ht hl hm
  · have hl' : s.size ≤ 60 := by omega
    have key : ∃ v, ∃ yx mx dx, Ans s yx mx dx v ∧ ∀ W, Tab W → Calls Tryd.prog 11 #[.string s] W fun e w' => e = .returned v ∧ Below W.heap.size W w' := parse_fix s hl'
    obtain ⟨v, yx, mx, dx, ha, hps⟩ := key
    rcases ha with ⟨hmx, hsx, rfl⟩ | ⟨_, rfl⟩
    · have hb := bs_eq _ _ hsx
      rcases Bool.eq_false_or_eq_true (mayB y m d) with h | h
      · by_cases hy : y = 0
        · exact dayback_0y0 y m d s w ht hl' yx mx dx hmx hb hps h hy
        · exact dayback_0yy y m d s w ht hl' yx mx dx hmx hb hps h hy
      · exact dayback_0no y m d s w ht hl' yx mx dx hmx hb hps h
    · rcases Bool.eq_false_or_eq_true (mayB y m d) with h | h
      · by_cases hy : y = 0
        · exact dayback_1y0 y m d s w ht hl' hps h hy
        · exact dayback_1yy y m d s w ht hl' hps h hy
      · exact dayback_1no y m d s w ht hl' hps h

end Go.Proofs.YtdnmeffglpmlaaaDoor
