/-
  Days: the law of the day behind a day.
-/
import Derived.Test.YtdnmeffglpmlaaaDoorDayR
import Derived.Lib.QuietBelow
import Derived.IntWalk
namespace Go.Proofs.YtdnmeffglpmlaaaDoor
open Go.RowKit Go.Sort


set_option maxRecDepth 100000 in
set_option maxHeartbeats 2000000 in
theorem daynext_a (y m d : Int) (w : World) (ht : Tab w) (hy : y ≠ 0) (h1 : mayB y m d = true) (h2 : mayB y m (d + 1) = true) : Calls Tryd.prog 5 #[.agg #[.int .i64 y, .int .i64 m, .int .i64 d]] w fun e w' => e = .returned (.bool true) ∧ Below w.heap.size w w' := by
  have HT := hd ht
  clear ht
  obtain ⟨X, hX⟩ : ∃ X, X = w.alloc (.cells #[.int .i64 y, .int .i64 m, .int .i64 d] 23) := ⟨_, rfl⟩
  have HX := hd (hX ▸ Blk.new w 23 #[.int .i64 y, .int .i64 m, .int .i64 d] : Blk X w.heap.size 23 #[.int .i64 y, .int .i64 m, .int .i64 d])
  have HW := hd (hX ▸ (Below.refl _ w).alloc (Nat.le_refl _) _ : Below w.heap.size w X)
  have HS := hd (show X.heap.size = w.heap.size + 1 by rw [hX]; simp)
  have hx := hd hX
  clear hX
  obtain ⟨c1, c2, c3, c4, c5, c6⟩ := (mayB_iff y m d).1 h1
  have c7 : d ≤ 31 := by have := dm_bd y m; omega
  clear c6
  have hne : (y == 0) = false := by simpa using hy
  have hpos := countV_pos y m d hy h1
  have hcb := (countV_bd y m d).2
  have CD := hd (count_calls y m d)
  have hnx := next_a y m d hy h1 h2
  obtain ⟨b, hbn⟩ : ∃ b, countV y m d = b := ⟨_, rfl⟩
  rw [hbn] at hpos hcb CD
  rw [hbn] at hnx
  have CN := hd (count_is y m (d + 1) _ hnx)
  clear hnx
  clear hbn hy
  have Hh1 := hd h1
  clear h1
  have Hh2 := hd h2
  clear h2
  go_enter Tryd.func5, Tryd.ntmps5
  go_wp2_with fail
  rw [← hx.o]
  refine (first_calls X (HT.o.below HW.o)).mono ?_
  rintro e w1 ⟨rfl, hb1⟩
  have ka := HX.o.below hb1 (by rw [HS.o]; omega)
  have a0 := ka.at_ 0 rfl
  have a1 := ka.at_ 1 rfl
  have a2 := ka.at_ 2 rfl
  go_wp2_with fail
  refine (may_calls y m d _).mono ?_
  rintro e w2 ⟨rfl, hb2⟩
  rw [Hh1.o]
  have hb12 := hb1.trans (hb2.mono hb1.size)
  clear ka a0 a1 a2
  have kb := HX.o.below hb12 (by rw [HS.o]; omega)
  have b0 := kb.at_ 0 rfl
  have b1 := kb.at_ 1 rfl
  have b2 := kb.at_ 2 rfl
  clear kb
  have hsx : X.heap.size ≤ w2.heap.size := hb12.size
  obtain ⟨g, hg⟩ : ∃ g, g = w2.heap.size := ⟨_, rfl⟩
  go_wp2_with fail
  clear b0 b1 b2
  rw [← hg]
  have HG := hd hg
  clear hg
  obtain ⟨Y, hY⟩ : ∃ Y, Y = w2.alloc (.cells #[.int .i64 y, .int .i64 m, .int .i64 (d + 1)] 23) := ⟨_, rfl⟩
  rw [← hY]
  have HN := hd (hY ▸ Blk.new_ w2 g HG.o 23 #[.int .i64 y, .int .i64 m, .int .i64 (d + 1)] : Blk Y g 23 #[.int .i64 y, .int .i64 m, .int .i64 (d + 1)])
  have HY := hd (hY ▸ hb12.alloc hb12.size _ : Below X.heap.size X Y)
  clear hY
  refine (may_calls y m (d + 1) _).mono ?_
  rintro e w3 ⟨rfl, hb3⟩
  rw [Hh2.o]
  have HB3 := hd (HY.o.trans (hb3.mono HY.o.size))
  have KN3 := hd (HN.o.below hb3 (Blk.lt HN.o))
  have kn := KN3.o
  have n0 := kn.at_ 0 rfl
  have n1 := kn.at_ 1 rfl
  have n2 := kn.at_ 2 rfl
  clear kn
  go_wp2_with fail
  clear n0 n1 n2
  refine (may_calls y m (d + 1) _).mono ?_
  rintro e w4 ⟨rfl, hb4⟩
  rw [Hh2.o]
  have HB4 := hd (HB3.o.trans (hb4.mono HB3.o.size))
  have KN4 := hd (KN3.o.below hb4 (Blk.lt KN3.o))
  have kn := KN4.o
  have n0 := kn.at_ 0 rfl
  have n1 := kn.at_ 1 rfl
  have n2 := kn.at_ 2 rfl
  clear kn
  go_wp2_with fail
  clear n0 n1 n2
  refine (may_calls y m (d + 1) _).mono ?_
  rintro e w5 ⟨rfl, hb5⟩
  rw [Hh2.o]
  have HB5 := hd (HB4.o.trans (hb5.mono HB4.o.size))
  have KN5 := hd (KN4.o.below hb5 (Blk.lt KN4.o))
  have ka := HX.o.below HB5.o (by rw [HS.o]; omega)
  have a0 := ka.at_ 0 rfl
  have a1 := ka.at_ 1 rfl
  have a2 := ka.at_ 2 rfl
  have kn := KN5.o
  have n0 := kn.at_ 0 rfl
  have n1 := kn.at_ 1 rfl
  have n2 := kn.at_ 2 rfl
  clear ka kn
  go_wp2_with fail
  have q1 := cell_regrown a0
  have q2 := cell_regrown a1
  have q3 := cell_regrown a2
  have q4 := cell_regrown n0
  have q5 := cell_regrown n1
  have q6 := cell_regrown n2
  have D1 := hd (fun dd os => Calls.regrown_of (CD.o (grow (redrawn w5 dd) os)))
  have D2 := hd (fun dd os => Calls.regrown_of (CN.o (grow (redrawn w5 dd) os)))
  have hwr := IntWalk.i64_in (b + 1) (by omega)
  refine wp_region_quiet_below (by kernel_rfl) (by kernel_rfl) ?_
  go_big_quiet_step (exact D2.o _ _)
  go_big_quiet_step (exact D2.o _ _)
  repeat (go_big_quiet_step (exact D1.o _ _))
  refine wpQuiet_nil ?_
  intro _ hw'
  obtain ⟨⟨dq, osq⟩, hw''⟩ := hw'
  subst hw''
  go_wp2
  go_ret
  exact ⟨rfl, HW.o.trans ((HB5.o.trans ((below_regrown w5 dq osq).mono HB5.o.size)).mono HW.o.size)⟩

end Go.Proofs.YtdnmeffglpmlaaaDoor
