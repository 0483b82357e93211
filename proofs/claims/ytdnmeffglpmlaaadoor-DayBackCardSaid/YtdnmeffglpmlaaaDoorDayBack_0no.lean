/-
  Days: the law of what is shown and parsed.
-/
import Derived.Test.YtdnmeffglpmlaaaDoorDayBack_long
import Derived.Laws.StructEq
namespace Go.Proofs.YtdnmeffglpmlaaaDoor
open Go.RowKit

set_option maxRecDepth 100000 in
set_option maxHeartbeats 2000000 in
theorem dayback_0no (y m d : Int) (s : ByteArray) (w : World) (ht : Tab w) (hl : s.size ≤ 60) (yx mx dx : Int) (hmx : mayB yx mx dx = true) (hsx : bs (showL yx mx dx) = s) (hps : ∀ W, Tab W → Calls Tryd.prog 11 #[.string s] W fun e w' => e = .returned (dateV yx mx dx 0) ∧ Below W.heap.size W w') (hmd : mayB y m d = false) : Calls Tryd.prog 4 #[.agg #[.int .i64 y, .int .i64 m, .int .i64 d], .string s] w fun e w' => e = .returned (.bool true) ∧ Below w.heap.size w w' := by
  have HT := hd ht
  clear ht
  have Hhps := hd hps
  clear hps
  have Hhmd := hd hmd
  clear hmd
  have Hhmx := hd hmx
  clear hmx
  have Hhsx := hd hsx
  clear hsx
  have HMD := Hhmd
  have hs64 : s.size ≤ 9223372036854775807 := by omega
  obtain ⟨X, hX⟩ : ∃ X, X = w.alloc (.cells #[.int .i64 y, .int .i64 m, .int .i64 d] 23) := ⟨_, rfl⟩
  have HX := hd (hX ▸ Blk.new w 23 #[.int .i64 y, .int .i64 m, .int .i64 d] : Blk X w.heap.size 23 #[.int .i64 y, .int .i64 m, .int .i64 d])
  have HW := hd (hX ▸ (Below.refl _ w).alloc (Nat.le_refl _) _ : Below w.heap.size w X)
  have HS := hd (show X.heap.size = w.heap.size + 1 by rw [hX]; simp)
  have hx := hd hX
  clear hX
  go_enter Tryd.func4, Tryd.ntmps4
  go_wp2_with fail
  rw [← hx.o]
  refine (first_calls X (HT.o.below HW.o)).mono ?_
  rintro e w1 ⟨rfl, hb1⟩
  have HB1 := hd hb1
  go_wp2_with fail
  refine (Hhps.o w1 ((HT.o.below HW.o).below HB1.o)).mono ?_
  rintro e w2 ⟨rfl, hb2⟩
  have HB2 := hd (HB1.o.trans (hb2.mono HB1.o.size))
  unfold dateV
  obtain ⟨g0, hg0⟩ : ∃ g, g = w2.heap.size := ⟨_, rfl⟩
  go_wp2_with fail
  rw [← hg0]
  obtain ⟨Y0, hY⟩ : ∃ Y, Y = w2.alloc (.cells #[.int .i64 yx, .int .i64 mx, .int .i64 dx] 23) := ⟨_, rfl⟩
  rw [← hY]
  have KN0 := hd (hY ▸ Blk.new_ w2 g0 hg0 23 #[.int .i64 yx, .int .i64 mx, .int .i64 dx] : Blk Y0 g0 23 #[.int .i64 yx, .int .i64 mx, .int .i64 dx])
  have HBY0 := hd (hY ▸ HB2.o.alloc HB2.o.size _ : Below X.heap.size X Y0)
  clear hY hg0
  refine (may_calls yx mx dx _).mono ?_
  rintro e w3 ⟨rfl, hb3⟩
  rw [Hhmx.o]
  have HB3 := hd (HBY0.o.trans (hb3.mono HBY0.o.size))
  have KN3 := hd (KN0.o.below hb3 (Blk.lt KN0.o))
  have kn := KN3.o
  have n0 := kn.at_ 0 rfl
  have n1 := kn.at_ 1 rfl
  have n2 := kn.at_ 2 rfl
  clear kn
  go_wp2_with fail
  clear n0 n1 n2
  refine (show_yes yx mx dx _ Hhmx.o ((HT.o.below HW.o).below HB3.o)).mono ?_
  rintro e w4 ⟨rfl, hb4⟩
  have HB4 := hd (HB3.o.trans (hb4.mono HB3.o.size))
  rw [Hhsx.o]
  have k := HX.o.below HB4.o (by rw [HS.o]; omega)
  have hlk := k.lt
  have a0 := k.at_ 0 rfl
  have a1 := k.at_ 1 rfl
  have a2 := k.at_ 2 rfl
  clear k
  go_wp2_with fail
  clear a0 a1 a2 hlk
  refine (show_no y m d _ HMD.o).mono ?_
  rintro e w5 ⟨rfl, hb5⟩
  rw [show bs [] = ⟨#[]⟩ from rfl]
  have HB5 := hd (HB4.o.trans (hb5.mono HB4.o.size))
  have k := HX.o.below HB5.o (by rw [HS.o]; omega)
  have hlk := k.lt
  have a0 := k.at_ 0 rfl
  have a1 := k.at_ 1 rfl
  have a2 := k.at_ 2 rfl
  clear k
  go_wp2_with fail
  clear a0 a1 a2 hlk
  refine (may_calls y m d _).mono ?_
  rintro e w6 ⟨rfl, hb6⟩
  rw [HMD.o]
  have HB6 := hd (HB5.o.trans (hb6.mono HB5.o.size))
  go_wp2
  go_ret
  exact ⟨rfl, HW.o.trans (HB6.o.mono HW.o.size)⟩

end Go.Proofs.YtdnmeffglpmlaaaDoor
