/-
  Days: the law of the day behind a day.
-/
import Derived.Test.YtdnmeffglpmlaaaDoorDayR
import Derived.Lib.QuietBelow
import Derived.IntWalk
namespace Go.Proofs.YtdnmeffglpmlaaaDoor
open Go.RowKit Go.Sort


set_option maxRecDepth 100000 in
set_option maxHeartbeats 2000000 in
theorem daynext_d (w : World) (ht : Tab w) (h1 : mayB 9999 12 31 = true) (h2 : mayB 9999 12 32 = false) (h3 : mayB 9999 13 1 = false) (h4 : mayB 10000 1 1 = false) : Calls Tryd.prog 5 #[.agg #[.int .i64 9999, .int .i64 12, .int .i64 31]] w fun e w' => e = .returned (.bool true) ∧ Below w.heap.size w w' := by
  have HT := hd ht
  clear ht
  obtain ⟨X, hX⟩ : ∃ X, X = w.alloc (.cells #[.int .i64 9999, .int .i64 12, .int .i64 31] 23) := ⟨_, rfl⟩
  have HX := hd (hX ▸ Blk.new w 23 #[.int .i64 9999, .int .i64 12, .int .i64 31] : Blk X w.heap.size 23 #[.int .i64 9999, .int .i64 12, .int .i64 31])
  have HW := hd (hX ▸ (Below.refl _ w).alloc (Nat.le_refl _) _ : Below w.heap.size w X)
  have HS := hd (show X.heap.size = w.heap.size + 1 by rw [hX]; simp)
  have hx := hd hX
  clear hX
  have Hh1 := hd h1
  clear h1
  have Hh2 := hd h2
  clear h2
  have Hh3 := hd h3
  clear h3
  have Hh4 := hd h4
  clear h4
  go_enter Tryd.func5, Tryd.ntmps5
  go_wp2_with fail
  rw [← hx.o]
  refine (first_calls X (HT.o.below HW.o)).mono ?_
  rintro e w1 ⟨rfl, hb1⟩
  have ka := HX.o.below hb1 (by rw [HS.o]; omega)
  have a0 := ka.at_ 0 rfl
  have a1 := ka.at_ 1 rfl
  have a2 := ka.at_ 2 rfl
  go_wp2_with fail
  refine (may_calls 9999 12 31 _).mono ?_
  rintro e w2 ⟨rfl, hb2⟩
  rw [Hh1.o]
  have hb12 := hb1.trans (hb2.mono hb1.size)
  clear ka a0 a1 a2
  have kb := HX.o.below hb12 (by rw [HS.o]; omega)
  have b0 := kb.at_ 0 rfl
  have b1 := kb.at_ 1 rfl
  have b2 := kb.at_ 2 rfl
  clear kb
  have hsx : X.heap.size ≤ w2.heap.size := hb12.size
  obtain ⟨g, hg⟩ : ∃ g, g = w2.heap.size := ⟨_, rfl⟩
  go_wp2_with fail
  clear b0 b1 b2
  rw [← hg]
  have HG := hd hg
  clear hg
  obtain ⟨Y, hY⟩ : ∃ Y, Y = w2.alloc (.cells #[.int .i64 9999, .int .i64 12, .int .i64 32] 23) := ⟨_, rfl⟩
  rw [← hY]
  have HN := hd (hY ▸ Blk.new_ w2 g HG.o 23 #[.int .i64 9999, .int .i64 12, .int .i64 32] : Blk Y g 23 #[.int .i64 9999, .int .i64 12, .int .i64 32])
  have HY := hd (hY ▸ hb12.alloc hb12.size _ : Below X.heap.size X Y)
  clear hY
  refine (may_calls 9999 12 32 _).mono ?_
  rintro e w3 ⟨rfl, hb3⟩
  rw [Hh2.o]
  have HB3 := hd (HY.o.trans (hb3.mono HY.o.size))
  have KN3 := hd (HN.o.below hb3 (Blk.lt HN.o))
  have ka := HX.o.below HB3.o (by rw [HS.o]; omega)
  have a0 := ka.at_ 0 rfl
  have a1 := ka.at_ 1 rfl
  have a2 := ka.at_ 2 rfl
  have kn := KN3.o
  have n0 := kn.at_ 0 rfl
  have n1 := kn.at_ 1 rfl
  have n2 := kn.at_ 2 rfl
  have nf0 := kn.frozen 0
  have nf1 := kn.frozen 1
  have nf2 := kn.frozen 2
  have nl := kn.lt
  clear ka kn
  have hgw : ¬ w.heap.size = g := by have := HG.o; have := HS.o; omega
  have hgw' : ¬ g = w.heap.size := fun h => hgw h.symm
  go_wp2_with fail
  clear a0 a1 a2 n0 n1 n2 nf0 nf1 nf2 nl hgw hgw'
  obtain ⟨Z3, hZ⟩ : ∃ Z, Z = ((w3.setCell ⟨g, 0, none⟩ (.int .i64 9999)).setCell ⟨g, 1, none⟩ (.int .i64 13)).setCell ⟨g, 2, none⟩ (.int .i64 1) := ⟨_, rfl⟩
  rw [← hZ]
  have KZ3 := hd (hZ ▸ ((KN3.o.set_ 0 (.int .i64 9999)).set_ 1 (.int .i64 13)).set_ 2 (.int .i64 1) : Blk Z3 g 23 #[.int .i64 9999, .int .i64 13, .int .i64 1])
  have HZ3 := hd (hZ ▸ ((HB3.o.setCell (by have := HG.o; show _ ≤ g; omega) _).setCell (by have := HG.o; show _ ≤ g; omega) _).setCell (by have := HG.o; show _ ≤ g; omega) _ : Below X.heap.size X Z3)
  clear hZ
  refine (may_calls 9999 13 1 _).mono ?_
  rintro e w4 ⟨rfl, hb4⟩
  rw [Hh3.o]
  have HB4 := hd (HZ3.o.trans (hb4.mono HZ3.o.size))
  have KN4 := hd (KZ3.o.below hb4 (Blk.lt KZ3.o))
  have ka := HX.o.below HB4.o (by rw [HS.o]; omega)
  have a0 := ka.at_ 0 rfl
  have a1 := ka.at_ 1 rfl
  have a2 := ka.at_ 2 rfl
  have kn := KN4.o
  have n0 := kn.at_ 0 rfl
  have n1 := kn.at_ 1 rfl
  have n2 := kn.at_ 2 rfl
  have nf0 := kn.frozen 0
  have nf1 := kn.frozen 1
  have nf2 := kn.frozen 2
  have nl := kn.lt
  clear ka kn
  have hgw : ¬ w.heap.size = g := by have := HG.o; have := HS.o; omega
  have hgw' : ¬ g = w.heap.size := fun h => hgw h.symm
  go_wp2_with fail
  clear a0 a1 a2 n0 n1 n2 nf0 nf1 nf2 nl hgw hgw'
  obtain ⟨Z4, hZ⟩ : ∃ Z, Z = ((w4.setCell ⟨g, 0, none⟩ (.int .i64 10000)).setCell ⟨g, 1, none⟩ (.int .i64 1)).setCell ⟨g, 2, none⟩ (.int .i64 1) := ⟨_, rfl⟩
  rw [← hZ]
  have KZ4 := hd (hZ ▸ ((KN4.o.set_ 0 (.int .i64 10000)).set_ 1 (.int .i64 1)).set_ 2 (.int .i64 1) : Blk Z4 g 23 #[.int .i64 10000, .int .i64 1, .int .i64 1])
  have HZ4 := hd (hZ ▸ ((HB4.o.setCell (by have := HG.o; show _ ≤ g; omega) _).setCell (by have := HG.o; show _ ≤ g; omega) _).setCell (by have := HG.o; show _ ≤ g; omega) _ : Below X.heap.size X Z4)
  clear hZ
  refine (may_calls 10000 1 1 _).mono ?_
  rintro e w5 ⟨rfl, hb5⟩
  rw [Hh4.o]
  have HB5 := hd (HZ4.o.trans (hb5.mono HZ4.o.size))
  have KN5 := hd (KZ4.o.below hb5 (Blk.lt KZ4.o))
  have ka := HX.o.below HB5.o (by rw [HS.o]; omega)
  have a0 := ka.at_ 0 rfl
  have a1 := ka.at_ 1 rfl
  have a2 := ka.at_ 2 rfl
  clear ka
  go_wp2_with fail
  refine (count_is 9999 12 31 _ next_e _).mono ?_
  rintro e w6 ⟨rfl, hb6⟩
  go_wp2
  go_ret
  exact ⟨rfl, HW.o.trans ((HB5.o.trans (hb6.mono HB5.o.size)).mono HW.o.size)⟩

end Go.Proofs.YtdnmeffglpmlaaaDoor
