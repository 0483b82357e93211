/-
  Days: the law of what the two sides tell.
-/
import Derived.Test.YtdnmeffglpmlaaaDoorTellE
import Derived.Test.YtdnmeffglpmlaaaDoorDayBack_long
namespace Go.Proofs.YtdnmeffglpmlaaaDoor
open Go.RowKit Go.Sort

theorem same_below {P : Program} {f : Nat} {args : Array Value} {w : World} {v : Value} (h : Calls P f args w fun e w' => e = .returned v ∧ w = w') : Calls P f args w fun e w' => e = .returned v ∧ Below w.heap.size w w' := h.mono fun _ _ ⟨a, b⟩ => ⟨a, b ▸ Below.refl _ _⟩

set_option maxRecDepth 100000 in
set_option maxHeartbeats 2000000 in
theorem tells_long (y m d ty tm td : Int) (s : ByteArray) (n : Int) (w : World) (ht : Tab w) (hl : 60 < s.size) (hm : s.size ≤ maxLen) : Calls Tryd.prog 3 #[.agg #[.int .i64 y, .int .i64 m, .int .i64 d], .agg #[.int .i64 ty, .int .i64 tm, .int .i64 td], .string s, .int .i64 n] w fun e w' => e = .returned (.bool true) ∧ Below w.heap.size w w' := by
  have hm' : s.size ≤ 9223372036854775807 := by unfold maxLen at hm; omega
  have HT := hd ht
  clear ht
  obtain ⟨X, hX⟩ : ∃ X, X = (w.alloc (.cells #[.int .i64 y, .int .i64 m, .int .i64 d] 23)).alloc (.cells #[.int .i64 ty, .int .i64 tm, .int .i64 td] 23) := ⟨_, rfl⟩
  have HW := hd (hX ▸ ((Below.refl _ w).alloc (Nat.le_refl _) _).alloc (by simp) _ : Below w.heap.size w X)
  have hx := hd hX
  clear hX
  go_enter Tryd.func3, Tryd.ntmps3
  go_wp2_with fail
  rw [← hx.o]
  refine (first_calls X (HT.o.below HW.o)).mono ?_
  rintro e w1 ⟨rfl, hb1⟩
  have HB1 := hd hb1
  go_wp2_with fail
  refine (first_calls w1 ((HT.o.below HW.o).below HB1.o)).mono ?_
  rintro e w2 ⟨rfl, hb2⟩
  have HB2 := hd (HB1.o.trans (hb2.mono HB1.o.size))
  go_wp2
  go_ret
  exact ⟨rfl, HW.o.trans (HB2.o.mono HW.o.size)⟩

set_option maxRecDepth 100000 in
set_option maxHeartbeats 4000000 in
theorem tells_short (y m d ty tm td : Int) (s : ByteArray) (n : Int) (w : World) (ht : Tab w) (hl : s.size ≤ 60) : Calls Tryd.prog 3 #[.agg #[.int .i64 y, .int .i64 m, .int .i64 d], .agg #[.int .i64 ty, .int .i64 tm, .int .i64 td], .string s, .int .i64 n] w fun e w' => e = .returned (.bool true) ∧ Below w.heap.size w w' := by
  have HT := hd ht
  clear ht
  have HC := hd (fun W => two_cells w W 23 #[.int .i64 y, .int .i64 m, .int .i64 d] #[.int .i64 ty, .int .i64 tm, .int .i64 td])
  obtain ⟨X, hX⟩ : ∃ X, X = (w.alloc (.cells #[.int .i64 y, .int .i64 m, .int .i64 d] 23)).alloc (.cells #[.int .i64 ty, .int .i64 tm, .int .i64 td] 23) := ⟨_, rfl⟩
  rw [← hX] at HC
  have HW := hd (hX ▸ ((Below.refl _ w).alloc (Nat.le_refl _) _).alloc (by simp) _ : Below w.heap.size w X)
  have hx := hd hX
  clear hX
  obtain ⟨ay, am, ad, k, hp, hr⟩ := parse_both s hl
  have HP := hd hp
  have HR := hd hr
  clear hp hr
  go_enter Tryd.func3, Tryd.ntmps3
  go_wp2_with fail
  rw [← hx.o]
  refine (first_calls X (HT.o.below HW.o)).mono ?_
  rintro e w1 ⟨rfl, hb1⟩
  have HB1 := hd hb1
  clear hb1
  go_wp2_with fail
  refine (HP.o w1 ((HT.o.below HW.o).below HB1.o)).mono ?_
  rintro e w2 ⟨rfl, hb2⟩
  unfold dateV
  have HB2 := hd (HB1.o.trans (hb2.mono HB1.o.size))
  clear hb2
  go_wp2_with fail
  obtain ⟨g, hg⟩ : ∃ g, g = w2.heap.size := ⟨_, rfl⟩
  rw [← hg]
  obtain ⟨Y, hY⟩ : ∃ Y, Y = w2.alloc (.cells #[.int .i64 ay, .int .i64 am, .int .i64 ad] 23) := ⟨_, rfl⟩
  rw [← hY]
  have KY := hd (hY ▸ Blk.new_ w2 g hg 23 #[.int .i64 ay, .int .i64 am, .int .i64 ad] : Blk Y g 23 #[.int .i64 ay, .int .i64 am, .int .i64 ad])
  have HB3 := hd (hY ▸ HB2.o.alloc HB2.o.size _ : Below X.heap.size X Y)
  clear hY hg
  refine (HR.o Y).mono ?_
  rintro e w3 ⟨rfl, hb4⟩
  unfold dateV
  have K3 := hd (KY.o.below hb4 (Blk.lt KY.o))
  have HB4 := hd (HB3.o.trans (hb4.mono HB3.o.size))
  clear hb4
  obtain ⟨g2, hg2⟩ : ∃ g, g = w3.heap.size := ⟨_, rfl⟩
  obtain ⟨Z, hZ⟩ : ∃ Z, Z = w3.alloc (.cells #[.int .i64 ay, .int .i64 am, .int .i64 ad] 23) := ⟨_, rfl⟩
  have KZ := hd (hZ ▸ Blk.new_ w3 g2 hg2 23 #[.int .i64 ay, .int .i64 am, .int .i64 ad] : Blk Z g2 23 #[.int .i64 ay, .int .i64 am, .int .i64 ad])
  have KZ1 := hd (hZ ▸ K3.o.alloc _ : Blk Z g 23 #[.int .i64 ay, .int .i64 am, .int .i64 ad])
  have HB5 := hd (hZ ▸ HB4.o.alloc HB4.o.size _ : Below X.heap.size X Z)
  have hZ' := hd hZ
  have hg2' := hd hg2
  clear hZ hg2
  go_wp2_with fail
  rw [← hg2'.o, ← hZ'.o]
  have TZ := hd ((HT.o.below HW.o).below HB5.o)
  obtain ⟨k1, k2⟩ := HC.o Z HB5.o
  have a0 := cell_regrown (k1.at_ 0 rfl)
  have a1 := cell_regrown (k1.at_ 1 rfl)
  have a2 := cell_regrown (k1.at_ 2 rfl)
  have b0 := cell_regrown (k2.at_ 0 rfl)
  have b1 := cell_regrown (k2.at_ 1 rfl)
  have b2 := cell_regrown (k2.at_ 2 rfl)
  clear k1 k2
  have c0 := cell_regrown (KZ1.o.at_ 0 rfl)
  have c1 := cell_regrown (KZ1.o.at_ 1 rfl)
  have c2 := cell_regrown (KZ1.o.at_ 2 rfl)
  have d0 := cell_regrown (KZ.o.at_ 0 rfl)
  have d1 := cell_regrown (KZ.o.at_ 1 rfl)
  have d2 := cell_regrown (KZ.o.at_ 2 rfl)
  have hde := date_self ay am ad
  obtain ⟨lp, hlp⟩ : ∃ b, leap n = b := ⟨_, rfl⟩
  obtain ⟨mb, hmb⟩ : ∃ b, mayB y m d = b := ⟨_, rfl⟩
  obtain ⟨sl, hsl⟩ : ∃ b, bs (showL y m d) = b := ⟨_, rfl⟩
  obtain ⟨cv, hcv⟩ : ∃ b, countV y m d = b := ⟨_, rfl⟩
  obtain ⟨uv, huv⟩ : ∃ b, untilV y m d ty tm td = b := ⟨_, rfl⟩
  have F1 := hd (fun dd os => Calls.regrown_of (hlp ▸ same_below (leap_calls n (grow (redrawn Z dd) os))))
  have F2 := hd (fun dd os => Calls.regrown_of (hlp ▸ same_below (rleap_calls n (grow (redrawn Z dd) os))))
  have F3 := hd (fun dd os => Calls.regrown_of (hmb ▸ may_calls y m d (grow (redrawn Z dd) os)))
  have F4 := hd (fun dd os => Calls.regrown_of (hmb ▸ rmay_calls y m d (grow (redrawn Z dd) os)))
  have F5 := hd (fun dd os => Calls.regrown_of (hsl ▸ show_any y m d (grow (redrawn Z dd) os) (TZ.o.below (below_regrown Z dd os))))
  have F6 := hd (fun dd os => Calls.regrown_of (hsl ▸ rshow_calls y m d (grow (redrawn Z dd) os)))
  have F7 := hd (fun dd os => Calls.regrown_of (hcv ▸ count_calls y m d (grow (redrawn Z dd) os)))
  have F8 := hd (fun dd os => Calls.regrown_of (hcv ▸ rcount_calls y m d (grow (redrawn Z dd) os)))
  have F9 := hd (fun dd os => Calls.regrown_of (huv ▸ until_calls y m d ty tm td (grow (redrawn Z dd) os)))
  have F10 := hd (fun dd os => Calls.regrown_of (huv ▸ runtil_calls y m d ty tm td (grow (redrawn Z dd) os)))
  clear hlp hmb hsl hcv huv
  refine wp_region_quiet_below (by kernel_rfl) (by kernel_rfl) ?_
  repeat (go_big_quiet_step (first
    | (go_at_call 13; exact F1.o _ _)
    | (go_at_call 14; exact F2.o _ _)
    | (go_at_call 15; exact F3.o _ _)
    | (go_at_call 16; exact F4.o _ _)
    | (go_at_call 17; exact F5.o _ _)
    | (go_at_call 18; exact F6.o _ _)
    | (go_at_call 19; exact F7.o _ _)
    | (go_at_call 20; exact F8.o _ _)
    | (go_at_call 21; exact F9.o _ _)
    | (go_at_call 22; exact F10.o _ _)))
  refine wpQuiet_nil ?_
  intro _ hw'
  obtain ⟨⟨dq, osq⟩, hw''⟩ := hw'
  subst hw''
  go_wp2
  go_ret
  exact ⟨rfl, HW.o.trans ((HB5.o.trans ((below_regrown Z dq osq).mono HB5.o.size)).mono HW.o.size)⟩

theorem tells_calls (y m d ty tm td : Int) (s : ByteArray) (n : Int) (hm : s.size ≤ maxLen) (w : World) (ht : Tab w) : Calls Tryd.prog 3 #[.agg #[.int .i64 y, .int .i64 m, .int .i64 d], .agg #[.int .i64 ty, .int .i64 tm, .int .i64 td], .string s, .int .i64 n] w fun e w' => e = .returned (.bool true) ∧ Below w.heap.size w w' := by
  by_cases h : 60 < s.size
  · exact tells_long y m d ty tm td s n w ht h hm
  · exact tells_short y m d ty tm td s n w ht (by omega)

end Go.Proofs.YtdnmeffglpmlaaaDoor
