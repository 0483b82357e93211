/-
  Days: the law of when a day comes again.
-/
import Derived.Test.YtdnmeffglpmlaaaDoorDayV
import Derived.Lib.QuietBelow
import Derived.IntWalk
namespace Go.Proofs.YtdnmeffglpmlaaaDoor
open Go.RowKit Go.Sort

set_option maxRecDepth 100000 in
set_option maxHeartbeats 2000000 in
theorem dayuntil_2 (y m d ty tm td : Int) (w : World) (ht : Tab w) (h1 : mayB y m d = true) (h2 : mayB ty tm td = false) : Calls Tryd.prog 6 #[.agg #[.int .i64 y, .int .i64 m, .int .i64 d], .agg #[.int .i64 ty, .int .i64 tm, .int .i64 td]] w fun e w' => e = .returned (.bool true) ∧ Below w.heap.size w w' := by
  have HT := hd ht
  clear ht
  have Hh1 := hd h1
  clear h1
  have Hh2 := hd h2
  clear h2
  obtain ⟨X, hX⟩ : ∃ X, X = (w.alloc (.cells #[.int .i64 y, .int .i64 m, .int .i64 d] 23)).alloc (.cells #[.int .i64 ty, .int .i64 tm, .int .i64 td] 23) := ⟨_, rfl⟩
  have HC := hd (fun W (hb : Below X.heap.size X W) => two_cells w W 23 #[.int .i64 y, .int .i64 m, .int .i64 d] #[.int .i64 ty, .int .i64 tm, .int .i64 td] (by rw [← hX]; exact hb))
  have HW := hd (fun W (hb : Below X.heap.size X W) => two_below w W (.cells #[.int .i64 y, .int .i64 m, .int .i64 d] 23) (.cells #[.int .i64 ty, .int .i64 tm, .int .i64 td] 23) (by rw [← hX]; exact hb))
  have HS := hd (show X.heap.size = w.heap.size + 2 by rw [hX]; simp)
  have hx := hd hX
  clear hX
  go_enter Tryd.func6, Tryd.ntmps6
  go_wp2_with fail
  rw [← hx.o]
  refine (first_calls X (HT.o.below (HW.o X (Below.refl _ X)))).mono ?_
  rintro e w1 ⟨rfl, hb1⟩
  have HB1 := hd hb1
  obtain ⟨k1, k2⟩ := HC.o _ HB1.o
  have a0 := k1.at_ 0 rfl
  have a1 := k1.at_ 1 rfl
  have a2 := k1.at_ 2 rfl
  have b0 := k2.at_ 0 rfl
  have b1 := k2.at_ 1 rfl
  have b2 := k2.at_ 2 rfl
  clear k1 k2
  go_wp2_with fail
  clear a0 a1 a2 b0 b1 b2
  refine (until_is y m d ty tm td _ (until_2 y m d ty tm td Hh2.o) _).mono ?_
  rintro e w2 ⟨rfl, hb2⟩
  have HB2 := hd (HB1.o.trans (hb2.mono HB1.o.size))
  obtain ⟨k1, k2⟩ := HC.o _ HB2.o
  have a0 := k1.at_ 0 rfl
  have a1 := k1.at_ 1 rfl
  have a2 := k1.at_ 2 rfl
  have b0 := k2.at_ 0 rfl
  have b1 := k2.at_ 1 rfl
  have b2 := k2.at_ 2 rfl
  clear k1 k2
  go_wp2_with fail
  clear a0 a1 a2 b0 b1 b2
  refine (may_calls y m d _).mono ?_
  rintro e w3 ⟨rfl, hb3⟩
  rw [Hh1.o]
  have HB3 := hd (HB2.o.trans (hb3.mono HB2.o.size))
  obtain ⟨k1, k2⟩ := HC.o _ HB3.o
  have a0 := k1.at_ 0 rfl
  have a1 := k1.at_ 1 rfl
  have a2 := k1.at_ 2 rfl
  have b0 := k2.at_ 0 rfl
  have b1 := k2.at_ 1 rfl
  have b2 := k2.at_ 2 rfl
  clear k1 k2
  go_wp2_with fail
  clear a0 a1 a2 b0 b1 b2
  refine (may_calls ty tm td _).mono ?_
  rintro e w4 ⟨rfl, hb4⟩
  rw [Hh2.o]
  have HB4 := hd (HB3.o.trans (hb4.mono HB3.o.size))
  go_wp2
  go_ret
  exact ⟨rfl, HW.o _ HB4.o⟩

end Go.Proofs.YtdnmeffglpmlaaaDoor
