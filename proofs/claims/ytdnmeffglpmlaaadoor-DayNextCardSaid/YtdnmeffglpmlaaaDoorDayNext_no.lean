/-
  Days: the law of the day behind a day.
-/
import Derived.Test.YtdnmeffglpmlaaaDoorDayR
import Derived.Lib.QuietBelow
import Derived.IntWalk
namespace Go.Proofs.YtdnmeffglpmlaaaDoor
open Go.RowKit Go.Sort


set_option maxRecDepth 100000 in
set_option maxHeartbeats 2000000 in
theorem daynext_no (y m d : Int) (w : World) (ht : Tab w) (h1 : mayB y m d = false) : Calls Tryd.prog 5 #[.agg #[.int .i64 y, .int .i64 m, .int .i64 d]] w fun e w' => e = .returned (.bool true) ∧ Below w.heap.size w w' := by
  have HT := hd ht
  clear ht
  obtain ⟨X, hX⟩ : ∃ X, X = w.alloc (.cells #[.int .i64 y, .int .i64 m, .int .i64 d] 23) := ⟨_, rfl⟩
  have HX := hd (hX ▸ Blk.new w 23 #[.int .i64 y, .int .i64 m, .int .i64 d] : Blk X w.heap.size 23 #[.int .i64 y, .int .i64 m, .int .i64 d])
  have HW := hd (hX ▸ (Below.refl _ w).alloc (Nat.le_refl _) _ : Below w.heap.size w X)
  have HS := hd (show X.heap.size = w.heap.size + 1 by rw [hX]; simp)
  have hx := hd hX
  clear hX
  have Hh1 := hd h1
  clear h1
  go_enter Tryd.func5, Tryd.ntmps5
  go_wp2_with fail
  rw [← hx.o]
  refine (first_calls X (HT.o.below HW.o)).mono ?_
  rintro e w1 ⟨rfl, hb1⟩
  have ka := HX.o.below hb1 (by rw [HS.o]; omega)
  have a0 := ka.at_ 0 rfl
  have a1 := ka.at_ 1 rfl
  have a2 := ka.at_ 2 rfl
  go_wp2_with fail
  refine (may_calls y m d _).mono ?_
  rintro e w2 ⟨rfl, hb2⟩
  rw [Hh1.o]
  have hb12 := hb1.trans (hb2.mono hb1.size)
  have kb := HX.o.below hb12 (by rw [HS.o]; omega)
  have b0 := kb.at_ 0 rfl
  have b1 := kb.at_ 1 rfl
  have b2 := kb.at_ 2 rfl
  clear ka kb
  go_wp2_with fail
  refine (count_is y m d _ (countV_no y m d Hh1.o) _).mono ?_
  rintro e w3 ⟨rfl, hb3⟩
  go_wp2
  go_ret
  exact ⟨rfl, HW.o.trans ((hb12.trans (hb3.mono hb12.size)).mono HW.o.size)⟩

end Go.Proofs.YtdnmeffglpmlaaaDoor
