/-
  Days: the law of when a day comes again.
-/
import Derived.Test.YtdnmeffglpmlaaaDoorDayV
import Derived.Test.YtdnmeffglpmlaaaDoorDayUntil_1
import Derived.Test.YtdnmeffglpmlaaaDoorDayUntil_2
import Derived.Test.YtdnmeffglpmlaaaDoorDayUntil_3
import Derived.Test.YtdnmeffglpmlaaaDoorDayUntil_C
import Derived.Test.YtdnmeffglpmlaaaDoorDayUntil_A1
import Derived.Test.YtdnmeffglpmlaaaDoorDayUntil_A2
import Derived.Test.YtdnmeffglpmlaaaDoorDayUntil_B11
import Derived.Test.YtdnmeffglpmlaaaDoorDayUntil_B12
import Derived.Test.YtdnmeffglpmlaaaDoorDayUntil_B21
import Derived.Test.YtdnmeffglpmlaaaDoorDayUntil_B22
import Derived.Lib.QuietBelow
import Derived.IntWalk
namespace Go.Proofs.YtdnmeffglpmlaaaDoor
open Go.RowKit Go.Sort


theorem wrap_in (n : Int) (h0 : 0 ≤ n) (h1 : n ≤ 366) : IntKind.i64.wrap n = n := IntWalk.i64_in n (by omega)

theorem dayuntil_calls (y m d ty tm td : Int) (w : World) (ht : Tab w) : Calls Tryd.prog 6 #[.agg #[.int .i64 y, .int .i64 m, .int .i64 d], .agg #[.int .i64 ty, .int .i64 tm, .int .i64 td]] w fun e w' => e = .returned (.bool true) ∧ Below w.heap.size w w' := by
  rcases Bool.eq_false_or_eq_true (mayB y m d) with h1 | h1
  · rcases Bool.eq_false_or_eq_true (mayB ty tm td) with h2 | h2
    · by_cases hy : ty = 0
      · subst hy; exact dayuntil_3 y m d tm td w ht h1 h2
      · obtain ⟨c1, c2, _⟩ := (mayB_iff ty tm td).1 h2
        by_cases hle : countV ty tm td ≤ uy ty m d
        · obtain ⟨e, e0, e1⟩ := until_A y m d ty tm td h1 h2 hy hle
          rcases Bool.eq_false_or_eq_true (mayB ty m d) with h3 | h3
          · rw [show uy ty m d = countV ty m d by unfold uy; rw [if_pos h3]] at e e0 e1 hle
            exact dayuntil_A1 y m d ty tm td _ _ _ w ht h1 h2 (by omega) c2 e e0 e1 rfl h3 rfl hle (wrap_in _ e0 e1)
          · rw [show uy ty m d = countV ty 3 1 by unfold uy; rw [if_neg (by rw [h3]; exact Bool.false_ne_true)]] at e e0 e1 hle
            exact dayuntil_A2 y m d ty tm td _ _ _ w ht h1 h2 (by omega) c2 e e0 e1 rfl h3 rfl hle (wrap_in _ e0 e1)
        · by_cases h9 : ty + 1 ≤ 9999
          · obtain ⟨e, e0, e1⟩ := until_B y m d ty tm td h1 h2 hy hle h9
            have u1 : ∀ z, mayB z m d = true → uy z m d = countV z m d := fun z h => by unfold uy; rw [if_pos h]
            have u2 : ∀ z, mayB z m d = false → uy z m d = countV z 3 1 := fun z h => by unfold uy; rw [if_neg (by rw [h]; exact Bool.false_ne_true)]
            rcases Bool.eq_false_or_eq_true (mayB ty m d) with h3 | h3
            · rw [u1 ty h3] at hle
              rcases Bool.eq_false_or_eq_true (mayB (ty + 1) m d) with h4 | h4
              · rw [u1 _ h4] at e e0 e1
                exact dayuntil_B11 y m d ty tm td _ _ _ _ w ht h1 h2 (by omega) h9 e e0 e1 rfl h3 h4 rfl rfl (decide_eq_false hle) (wrap_in _ e0 e1)
              · rw [u2 _ h4] at e e0 e1
                exact dayuntil_B12 y m d ty tm td _ _ _ _ w ht h1 h2 (by omega) h9 e e0 e1 rfl h3 h4 rfl rfl (decide_eq_false hle) (wrap_in _ e0 e1)
            · rw [u2 ty h3] at hle
              rcases Bool.eq_false_or_eq_true (mayB (ty + 1) m d) with h4 | h4
              · rw [u1 _ h4] at e e0 e1
                exact dayuntil_B21 y m d ty tm td _ _ _ _ w ht h1 h2 (by omega) h9 e e0 e1 rfl h3 h4 rfl rfl (decide_eq_false hle) (wrap_in _ e0 e1)
              · rw [u2 _ h4] at e e0 e1
                exact dayuntil_B22 y m d ty tm td _ _ _ _ w ht h1 h2 (by omega) h9 e e0 e1 rfl h3 h4 rfl rfl (decide_eq_false hle) (wrap_in _ e0 e1)
          · obtain ⟨e, rfl⟩ := until_C y m d ty tm td h1 h2 hy hle h9
            exact dayuntil_C y m d tm td w ht h1 h2 e
    · exact dayuntil_2 y m d ty tm td w ht h1 h2
  · exact dayuntil_1 y m d ty tm td w ht h1

end Go.Proofs.YtdnmeffglpmlaaaDoor
