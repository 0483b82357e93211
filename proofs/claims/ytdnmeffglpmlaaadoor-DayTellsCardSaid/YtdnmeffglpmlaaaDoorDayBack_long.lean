/-
  Days: the law of what is shown and parsed.
-/
import Derived.Test.YtdnmeffglpmlaaaDoorDayW
import Derived.Laws.StructEq
namespace Go.Proofs.YtdnmeffglpmlaaaDoor
open Go.RowKit

theorem date_self (a b c : Int) (W : World) : (binOp .eql 23 (.agg #[.int .i64 a, .int .i64 b, .int .i64 c]) (.agg #[.int .i64 a, .int .i64 b, .int .i64 c])).run Tryd.prog W = .ok (.bool true) W := by
  have u3 := Tryd.underlying3
  have a3 := Tryd.isAgg3
  have z3 := Tryd.sizeOf3
  have hS : Tryd.prog.underlying 23 = some (.struct (Tryd.prog.fieldsOf 23)) := by kernel_rfl
  have hp : Tryd.prog.stoodInHeld 23 = false := by kernel_rfl
  rw [run_eql_struct, show (10000 : Nat) = 9999 + 1 from rfl, run_equalIn_agg W 9999 23 _ _ hS hp]
  simp only [Program.fieldsOf, Tryd.underlying23]
  go_simp

theorem show_any (y m d : Int) (w : World) (ht : Tab w) : Calls Tryd.prog 17 #[.agg #[.int .i64 y, .int .i64 m, .int .i64 d]] w fun e w' => e = .returned (.string (bs (showL y m d))) ∧ Below w.heap.size w w' := by
  rcases Bool.eq_false_or_eq_true (mayB y m d) with h | h
  · exact show_yes y m d w h ht
  · rw [show showL y m d = [] by unfold showL; rw [if_neg (by rw [h]; exact Bool.false_ne_true)]]; exact show_no y m d w h

set_option maxRecDepth 100000 in
set_option maxHeartbeats 2000000 in
theorem dayback_long (y m d : Int) (s : ByteArray) (w : World) (ht : Tab w) (hl : 60 < s.size) (hm : s.size ≤ maxLen) : Calls Tryd.prog 4 #[.agg #[.int .i64 y, .int .i64 m, .int .i64 d], .string s] w fun e w' => e = .returned (.bool true) ∧ Below w.heap.size w w' := by
  have hm' : s.size ≤ 9223372036854775807 := by unfold maxLen at hm; omega
  have HT := hd ht
  clear ht
  obtain ⟨X, hX⟩ : ∃ X, X = w.alloc (.cells #[.int .i64 y, .int .i64 m, .int .i64 d] 23) := ⟨_, rfl⟩
  have HX := hd (hX ▸ Blk.new w 23 #[.int .i64 y, .int .i64 m, .int .i64 d] : Blk X w.heap.size 23 #[.int .i64 y, .int .i64 m, .int .i64 d])
  have HW := hd (hX ▸ (Below.refl _ w).alloc (Nat.le_refl _) _ : Below w.heap.size w X)
  have HS := hd (show X.heap.size = w.heap.size + 1 by rw [hX]; simp)
  have hx := hd hX
  clear hX
  go_enter Tryd.func4, Tryd.ntmps4
  go_wp2_with fail
  rw [← hx.o]
  refine (first_calls X (HT.o.below HW.o)).mono ?_
  rintro e w1 ⟨rfl, hb1⟩
  have HB1 := hd hb1
  go_wp2_with fail
  refine (first_calls w1 ((HT.o.below HW.o).below HB1.o)).mono ?_
  rintro e w2 ⟨rfl, hb2⟩
  have HB2 := hd (HB1.o.trans (hb2.mono HB1.o.size))
  go_wp2
  go_ret
  exact ⟨rfl, HW.o.trans (HB2.o.mono HW.o.size)⟩

end Go.Proofs.YtdnmeffglpmlaaaDoor
