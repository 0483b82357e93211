/-
  Days: the law of when a day comes again.
-/
import Derived.Test.YtdnmeffglpmlaaaDoorDayV
import Derived.Lib.QuietBelow
import Derived.IntWalk
namespace Go.Proofs.YtdnmeffglpmlaaaDoor
open Go.RowKit Go.Sort

set_option maxRecDepth 100000 in
set_option maxHeartbeats 2000000 in
theorem dayuntil_B21 (y m d ty tm td n f u v : Int) (w : World) (ht : Tab w) (h1 : mayB y m d = true) (h2 : mayB ty tm td = true) (c1 : 1 ≤ ty) (c2 : ty + 1 ≤ 9999) (hn : untilV y m d ty tm td = n) (n0 : 0 ≤ n) (n1 : n ≤ 366) (hf : countV ty tm td = f) (h3 : mayB ty m d = false) (h4 : mayB (ty + 1) m d = true) (hu : countV ty 3 1 = u) (hu1 : countV (ty + 1) m d = v) (hle : decide (f ≤ u) = false) (hwr : IntKind.i64.wrap (v - f) = n) : Calls Tryd.prog 6 #[.agg #[.int .i64 y, .int .i64 m, .int .i64 d], .agg #[.int .i64 ty, .int .i64 tm, .int .i64 td]] w fun e w' => e = .returned (.bool true) ∧ Below w.heap.size w w' := by
  have HT := hd ht
  clear ht
  have Hh1 := hd h1
  clear h1
  have Hh2 := hd h2
  clear h2
  have Hhn := hd hn
  clear hn
  have Hh3 := hd h3
  clear h3
  have Hh4 := hd h4
  clear h4
  have Hhu := hd hu
  clear hu
  have Hhu1 := hd hu1
  clear hu1
  have Hhf := hd hf
  clear hf
  have Hhwr := hd hwr
  clear hwr
  obtain ⟨X, hX⟩ : ∃ X, X = (w.alloc (.cells #[.int .i64 y, .int .i64 m, .int .i64 d] 23)).alloc (.cells #[.int .i64 ty, .int .i64 tm, .int .i64 td] 23) := ⟨_, rfl⟩
  have HC := hd (fun W (hb : Below X.heap.size X W) => two_cells w W 23 #[.int .i64 y, .int .i64 m, .int .i64 d] #[.int .i64 ty, .int .i64 tm, .int .i64 td] (by rw [← hX]; exact hb))
  have HW := hd (fun W (hb : Below X.heap.size X W) => two_below w W (.cells #[.int .i64 y, .int .i64 m, .int .i64 d] 23) (.cells #[.int .i64 ty, .int .i64 tm, .int .i64 td] 23) (by rw [← hX]; exact hb))
  have HS := hd (show X.heap.size = w.heap.size + 2 by rw [hX]; simp)
  have hx := hd hX
  clear hX
  have CN := hd (count_is ty 3 1 u Hhu.o)
  have CV := hd (count_is (ty + 1) m d v Hhu1.o)
  have CT := hd (count_is ty tm td f Hhf.o)
  have hne : (ty == 0) = false := by simp; omega
  go_enter Tryd.func6, Tryd.ntmps6
  go_wp2_with fail
  rw [← hx.o]
  refine (first_calls X (HT.o.below (HW.o X (Below.refl _ X)))).mono ?_
  rintro e w1 ⟨rfl, hb1⟩
  have HB1 := hd hb1
  obtain ⟨k1, k2⟩ := HC.o _ HB1.o
  have a0 := k1.at_ 0 rfl
  have a1 := k1.at_ 1 rfl
  have a2 := k1.at_ 2 rfl
  have b0 := k2.at_ 0 rfl
  have b1 := k2.at_ 1 rfl
  have b2 := k2.at_ 2 rfl
  clear k1 k2
  go_wp2_with fail
  clear a0 a1 a2 b0 b1 b2
  refine (until_is y m d ty tm td n Hhn.o _).mono ?_
  rintro e w2 ⟨rfl, hb2⟩
  have HB2 := hd (HB1.o.trans (hb2.mono HB1.o.size))
  obtain ⟨k1, k2⟩ := HC.o _ HB2.o
  have a0 := k1.at_ 0 rfl
  have a1 := k1.at_ 1 rfl
  have a2 := k1.at_ 2 rfl
  have b0 := k2.at_ 0 rfl
  have b1 := k2.at_ 1 rfl
  have b2 := k2.at_ 2 rfl
  clear k1 k2
  go_wp2_with fail
  clear a0 a1 a2 b0 b1 b2
  refine (may_calls y m d _).mono ?_
  rintro e w3 ⟨rfl, hb3⟩
  rw [Hh1.o]
  have HB3 := hd (HB2.o.trans (hb3.mono HB2.o.size))
  obtain ⟨k1, k2⟩ := HC.o _ HB3.o
  have a0 := k1.at_ 0 rfl
  have a1 := k1.at_ 1 rfl
  have a2 := k1.at_ 2 rfl
  have b0 := k2.at_ 0 rfl
  have b1 := k2.at_ 1 rfl
  have b2 := k2.at_ 2 rfl
  clear k1 k2
  go_wp2_with fail
  clear a0 a1 a2 b0 b1 b2
  refine (may_calls ty tm td _).mono ?_
  rintro e w4 ⟨rfl, hb4⟩
  rw [Hh2.o]
  have HB4 := hd (HB3.o.trans (hb4.mono HB3.o.size))
  obtain ⟨k1, k2⟩ := HC.o _ HB4.o
  have a0 := k1.at_ 0 rfl
  have a1 := k1.at_ 1 rfl
  have a2 := k1.at_ 2 rfl
  have b0 := k2.at_ 0 rfl
  have b1 := k2.at_ 1 rfl
  have b2 := k2.at_ 2 rfl
  clear k1 k2
  have hsx0 : X.heap.size ≤ w4.heap.size := HB4.o.size
  obtain ⟨g0, hg0⟩ : ∃ g, g = w4.heap.size := ⟨_, rfl⟩
  go_wp2_with fail
  clear a0 a1 a2 b0 b1 b2
  rw [← hg0]
  have HG0 := hd (show X.heap.size ≤ g0 by omega)
  obtain ⟨Y0, hY⟩ : ∃ Y, Y = w4.alloc (.cells #[.int .i64 ty, .int .i64 m, .int .i64 d] 23) := ⟨_, rfl⟩
  rw [← hY]
  have HN0 := hd (hY ▸ Blk.new_ w4 g0 hg0 23 #[.int .i64 ty, .int .i64 m, .int .i64 d] : Blk Y0 g0 23 #[.int .i64 ty, .int .i64 m, .int .i64 d])
  have HY0 := hd (hY ▸ HB4.o.alloc HB4.o.size _ : Below X.heap.size X Y0)
  clear hY hg0 hsx0
  refine (may_calls ty m d _).mono ?_
  rintro e w5 ⟨rfl, hb5⟩
  rw [Hh3.o]
  have HB5 := hd (HY0.o.trans (hb5.mono HY0.o.size))
  have KN5 := hd (HN0.o.below hb5 (Blk.lt HN0.o))
  obtain ⟨k1, k2⟩ := HC.o _ HB5.o
  have a0 := k1.at_ 0 rfl
  have a1 := k1.at_ 1 rfl
  have a2 := k1.at_ 2 rfl
  have b0 := k2.at_ 0 rfl
  have b1 := k2.at_ 1 rfl
  have b2 := k2.at_ 2 rfl
  clear k1 k2
  have kn := KN5.o
  have n0 := kn.at_ 0 rfl
  have n1 := kn.at_ 1 rfl
  have n2 := kn.at_ 2 rfl
  have nf0 := kn.frozen 0
  have nf1 := kn.frozen 1
  have nf2 := kn.frozen 2
  have nl := kn.lt
  clear kn
  have e1 : ¬ w.heap.size = g0 := by have := HG0.o; have := HS.o; omega
  have e2 : ¬ g0 = w.heap.size := fun h => e1 h.symm
  have e3 : ¬ w.heap.size + 1 = g0 := by have := HG0.o; have := HS.o; omega
  have e4 : ¬ g0 = w.heap.size + 1 := fun h => e3 h.symm
  go_wp2_with fail
  clear a0 a1 a2 b0 b1 b2
  clear n0 n1 n2 nf0 nf1 nf2 nl e1 e2 e3 e4
  obtain ⟨w6, hZ⟩ : ∃ Z, Z = ((w5.setCell ⟨g0, 0, none⟩ (.int .i64 ty)).setCell ⟨g0, 1, none⟩ (.int .i64 3)).setCell ⟨g0, 2, none⟩ (.int .i64 1) := ⟨_, rfl⟩
  rw [← hZ]
  have KN6 := hd (hZ ▸ ((KN5.o.set_ 0 (.int .i64 ty)).set_ 1 (.int .i64 3)).set_ 2 (.int .i64 1) : Blk w6 g0 23 #[.int .i64 ty, .int .i64 3, .int .i64 1])
  have HB6 := hd (hZ ▸ ((HB5.o.setCell (by have := HG0.o; show _ ≤ g0; omega) _).setCell (by have := HG0.o; show _ ≤ g0; omega) _).setCell (by have := HG0.o; show _ ≤ g0; omega) _ : Below X.heap.size X w6)
  clear hZ
  obtain ⟨k1, k2⟩ := HC.o _ HB6.o
  have b0 := k2.at_ 0 rfl
  have b1 := k2.at_ 1 rfl
  have b2 := k2.at_ 2 rfl
  clear k1 k2
  have kn := KN6.o
  have n0 := kn.at_ 0 rfl
  have n1 := kn.at_ 1 rfl
  have n2 := kn.at_ 2 rfl
  clear kn
  have q1 := cell_regrown b0
  have q2 := cell_regrown b1
  have q3 := cell_regrown b2
  have q4 := cell_regrown n0
  have q5 := cell_regrown n1
  have q6 := cell_regrown n2
  have E1 := hd (fun dd os => Calls.regrown_of (CN.o (grow (redrawn w6 dd) os)))
  have E2 := hd (fun dd os => Calls.regrown_of (CT.o (grow (redrawn w6 dd) os)))
  refine wp_region_quiet_below (by kernel_rfl) (by kernel_rfl) ?_
  go_big_quiet_step (exact E1.o _ _)
  go_big_quiet_step (exact E1.o _ _)
  repeat (go_big_quiet_step (exact E2.o _ _))
  refine wpQuiet_nil ?_
  intro w7 hw'
  have hb7 : Below w6.heap.size w6 w7 := by obtain ⟨pp, hw''⟩ := hw'; subst hw''; exact below_regrown _ _ _
  clear hw' b0 b1 b2 n0 n1 n2 q1 q2 q3 q4 q5 q6 E1 E2
  have HB7 := hd (HB6.o.trans (hb7.mono HB6.o.size))
  obtain ⟨k1, k2⟩ := HC.o _ HB7.o
  have a0 := k1.at_ 0 rfl
  have a1 := k1.at_ 1 rfl
  have a2 := k1.at_ 2 rfl
  have b0 := k2.at_ 0 rfl
  have b1 := k2.at_ 1 rfl
  have b2 := k2.at_ 2 rfl
  clear k1 k2
  have hsx1 : X.heap.size ≤ w7.heap.size := HB7.o.size
  obtain ⟨g1, hg1⟩ : ∃ g, g = w7.heap.size := ⟨_, rfl⟩
  go_wp2_with fail
  clear a0 a1 a2 b0 b1 b2
  rw [← hg1]
  have HG1 := hd (show X.heap.size ≤ g1 by omega)
  obtain ⟨Y1, hY⟩ : ∃ Y, Y = w7.alloc (.cells #[.int .i64 (ty + 1), .int .i64 m, .int .i64 d] 23) := ⟨_, rfl⟩
  rw [← hY]
  have HN1 := hd (hY ▸ Blk.new_ w7 g1 hg1 23 #[.int .i64 (ty + 1), .int .i64 m, .int .i64 d] : Blk Y1 g1 23 #[.int .i64 (ty + 1), .int .i64 m, .int .i64 d])
  have HY1 := hd (hY ▸ HB7.o.alloc HB7.o.size _ : Below X.heap.size X Y1)
  clear hY hg1 hsx1
  refine (may_calls (ty + 1) m d _).mono ?_
  rintro e w8 ⟨rfl, hb8⟩
  rw [Hh4.o]
  have HB8 := hd (HY1.o.trans (hb8.mono HY1.o.size))
  have KN8 := hd (HN1.o.below hb8 (Blk.lt HN1.o))
  go_wp2_with fail
  have hwr := Hhwr.o
  obtain ⟨k1, k2⟩ := HC.o _ HB8.o
  have b0 := k2.at_ 0 rfl
  have b1 := k2.at_ 1 rfl
  have b2 := k2.at_ 2 rfl
  clear k1 k2
  have kn := KN8.o
  have n0 := kn.at_ 0 rfl
  have n1 := kn.at_ 1 rfl
  have n2 := kn.at_ 2 rfl
  clear kn
  have q1 := cell_regrown b0
  have q2 := cell_regrown b1
  have q3 := cell_regrown b2
  have q4 := cell_regrown n0
  have q5 := cell_regrown n1
  have q6 := cell_regrown n2
  have E1 := hd (fun dd os => Calls.regrown_of (CV.o (grow (redrawn w8 dd) os)))
  have E2 := hd (fun dd os => Calls.regrown_of (CT.o (grow (redrawn w8 dd) os)))
  refine wp_region_quiet_below (by kernel_rfl) (by kernel_rfl) ?_
  go_big_quiet_step (exact E1.o _ _)
  go_big_quiet_step (exact E1.o _ _)
  go_big_quiet_step (exact E1.o _ _)
  repeat (go_big_quiet_step (exact E2.o _ _))
  refine wpQuiet_nil ?_
  intro w10 hw'
  have hb10 : Below w8.heap.size w8 w10 := by obtain ⟨pp, hw''⟩ := hw'; subst hw''; exact below_regrown _ _ _
  clear hw' b0 b1 b2 n0 n1 n2 q1 q2 q3 q4 q5 q6 E1 E2
  have HB10 := hd (HB8.o.trans (hb10.mono HB8.o.size))
  go_wp2
  go_ret
  exact ⟨rfl, HW.o _ HB10.o⟩

end Go.Proofs.YtdnmeffglpmlaaaDoor
