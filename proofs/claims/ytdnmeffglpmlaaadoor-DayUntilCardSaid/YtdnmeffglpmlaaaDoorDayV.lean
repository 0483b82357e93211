/-
  Days: when a day comes again, in plain numbers.
-/
import Derived.Test.YtdnmeffglpmlaaaDoorDayU
namespace Go.Proofs.YtdnmeffglpmlaaaDoor
open Go.RowKit

theorem until_is (y m d ty tm td n : Int) (h : untilV y m d ty tm td = n) (w : World) : Calls Tryd.prog 21 #[.agg #[.int .i64 y, .int .i64 m, .int .i64 d], .agg #[.int .i64 ty, .int .i64 tm, .int .i64 td]] w fun e w' => e = .returned (.int .i64 n) ∧ Below w.heap.size w w' := h ▸ until_calls y m d ty tm td w

theorem until_1 (y m d ty tm td : Int) (h : mayB y m d = false) : untilV y m d ty tm td = -1 := by
  unfold untilV; rw [if_neg (fun hx => by rw [h] at hx; exact Bool.noConfusion hx.1)]
theorem until_2 (y m d ty tm td : Int) (h : mayB ty tm td = false) : untilV y m d ty tm td = -1 := by
  unfold untilV; rw [if_neg (fun hx => by rw [h] at hx; exact Bool.noConfusion hx.2.1)]
theorem until_3 (y m d tm td : Int) : untilV y m d 0 tm td = -1 := by
  unfold untilV; rw [if_neg (fun hx => hx.2.2 rfl)]

section
variable (y m d ty tm td : Int) (h1 : mayB y m d = true) (h2 : mayB ty tm td = true) (hy : ty ≠ 0)
include h1 h2 hy
theorem until_A (h : countV ty tm td ≤ uy ty m d) : untilV y m d ty tm td = uy ty m d - countV ty tm td ∧ 0 ≤ uy ty m d - countV ty tm td ∧ uy ty m d - countV ty tm td ≤ 366 := by
  obtain ⟨c1, c2, _⟩ := (mayB_iff ty tm td).1 h2
  have e := countV_in ty tm td (by omega) h2
  have u := uy_in ty m d (by omega) c2
  have n := yb_next ty (by omega) c2
  have l := lp_bd ty
  refine ⟨?_, by omega, by omega⟩
  unfold untilV
  rw [if_pos ⟨h1, h2, hy⟩, if_pos h]
theorem until_B (h : ¬ countV ty tm td ≤ uy ty m d) (h9 : ty + 1 ≤ 9999) : untilV y m d ty tm td = uy (ty + 1) m d - countV ty tm td ∧ 0 ≤ uy (ty + 1) m d - countV ty tm td ∧ uy (ty + 1) m d - countV ty tm td ≤ 366 := by
  obtain ⟨c1, c2, _⟩ := (mayB_iff ty tm td).1 h2
  have e := countV_in ty tm td (by omega) h2
  have u := uy_in (ty + 1) m d (by omega) h9
  have df := uy_diff y ty m d h1 (by omega) h9
  refine ⟨?_, by omega, by omega⟩
  unfold untilV
  rw [if_pos ⟨h1, h2, hy⟩, if_neg h, if_pos ⟨h9, by omega⟩]
theorem until_C (h : ¬ countV ty tm td ≤ uy ty m d) (h9 : ¬ ty + 1 ≤ 9999) : untilV y m d ty tm td = -1 ∧ ty = 9999 := by
  obtain ⟨c1, c2, _⟩ := (mayB_iff ty tm td).1 h2
  refine ⟨?_, by omega⟩
  unfold untilV
  rw [if_pos ⟨h1, h2, hy⟩, if_neg h, if_neg (fun hx => h9 hx.1)]
end

end Go.Proofs.YtdnmeffglpmlaaaDoor
