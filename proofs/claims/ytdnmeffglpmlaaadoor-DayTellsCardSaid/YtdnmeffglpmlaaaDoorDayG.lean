/-
  Days: what the chapter's examples fix.
-/
import Derived.Test.YtdnmeffglpmlaaaDoorDayF
namespace Go.Proofs.YtdnmeffglpmlaaaDoor
open Go.RowKit

theorem num_calls (s : ByteArray) (n : Int) (h : s.size ≤ 10) (hn : numV s.data.toList 0 = n) (w : World) : Calls Tryd.prog 34 #[.string s] w fun e w' => e = .returned (.int .i64 n) ∧ w = w' := by
  subst hn; exact number_calls s h w

def s1 : ByteArray := ⟨#[50, 48, 50, 54, 45, 48, 50, 45, 50, 57]⟩
def s2 : ByteArray := ⟨#[45, 45, 49, 50, 45, 50, 53]⟩

theorem parse_s1 (w : World) (ht : Tab w) : Calls Tryd.prog 11 #[.string ⟨#[50, 48, 50, 54, 45, 48, 50, 45, 50, 57]⟩] w fun e w' => e = .returned (.tuple #[.agg #[.int .i64 0, .int .i64 0, .int .i64 0], .int .i64 1]) ∧ Below w.heap.size w w' := by
  refine (parse_10 s1 rfl 2026 2 29 (num_calls _ _ (by decide) (by decide)) (num_calls _ _ (by decide) (by decide)) (num_calls _ _ (by decide) (by decide)) w ht).mono ?_
  rintro e w' ⟨v, rfl, hv, hb⟩
  rcases hv with ⟨hm, _⟩ | ⟨_, rfl⟩
  · exact absurd hm (by decide)
  · exact ⟨rfl, hb⟩
theorem parse_s2 (w : World) (ht : Tab w) : Calls Tryd.prog 11 #[.string ⟨#[45, 45, 49, 50, 45, 50, 53]⟩] w fun e w' => e = .returned (.tuple #[.agg #[.int .i64 0, .int .i64 12, .int .i64 25], .int .i64 0]) ∧ Below w.heap.size w w' := by
  refine (parse_7 s2 rfl 12 25 (num_calls _ _ (by decide) (by decide)) (num_calls _ _ (by decide) (by decide)) w ht).mono ?_
  rintro e w' ⟨v, rfl, hv, hb⟩
  rcases hv with ⟨_, _, rfl⟩ | ⟨hm, _⟩
  · exact ⟨rfl, hb⟩
  · exact absurd (by decide) hm

theorem until_ex : untilV 0 12 25 2026 12 24 = 1 := by decide
theorem leap_ex : leap 2024 = true := by decide

theorem first_calls (w : World) (ht : Tab w) : Calls Tryd.prog 10 #[] w fun e w' => e = .returned (.bool true) ∧ Below w.heap.size w w' := by
  have HT := hd ht
  clear ht
  go_enter Tryd.func10, Tryd.ntmps10
  go_wp2_with fail
  refine (parse_s1 _ HT.o).mono ?_
  rintro e w1 ⟨rfl, hb1⟩
  go_wp2_with fail
  have HB1 : Below w.heap.size w (w1.alloc (.cells #[.int .i64 0, .int .i64 0, .int .i64 0] 23)) := hb1.alloc hb1.size _
  refine (parse_s2 _ (HT.o.below HB1)).mono ?_
  rintro e w2 ⟨rfl, hb2⟩
  have HB2 := HB1.trans (hb2.mono HB1.size)
  go_wp2_with fail
  refine (until_calls 0 12 25 2026 12 24 _).mono ?_
  rintro e w3 ⟨rfl, hb3⟩
  rw [until_ex]
  have HB3 : Below w.heap.size w w3 := (HB2.alloc HB2.size (.cells #[.int .i64 0, .int .i64 12, .int .i64 25] 23)).trans (hb3.mono (by have := HB2.size; simp; omega))
  go_wp2_with fail
  refine (leap_calls 2024 _).mono ?_
  rintro e w4 ⟨rfl, rfl⟩
  rw [leap_ex]
  go_wp2
  go_ret
  exact ⟨rfl, HB3⟩

end Go.Proofs.YtdnmeffglpmlaaaDoor
