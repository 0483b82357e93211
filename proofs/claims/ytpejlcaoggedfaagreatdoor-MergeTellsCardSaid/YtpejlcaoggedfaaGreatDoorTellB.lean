/-
  The reference's days: what may be; a date's text.
-/
import Derived.Test.YtpejlcaoggedfaaGreatDoorTellA
set_option linter.unusedVariables false
set_option linter.unusedSimpArgs false
namespace Go.Proofs.YtpejlcaoggedfaaGreatDoor
open Go.RowKit Go.Sort

set_option maxHeartbeats 400000 in
theorem rmay_calls (y m d : Int) (w : World) : Calls Tryz.prog 115 #[.agg #[.int .i64 y, .int .i64 m, .int .i64 d]] w fun e w' => e = .returned (.bool (mayB y m d)) ∧ Below w.heap.size w w' := by
  by_cases hh : 0 ≤ y ∧ y ≤ 9999 ∧ 1 ≤ m ∧ m ≤ 12 ∧ 1 ≤ d
  · obtain ⟨c1, c2, c3, c4, c5⟩ := hh
    have e1 : mayB y m d = decide (d ≤ dm y m) := by simp [mayB, c1, c2, c3, c4, c5]
    rw [e1]
    clear e1
    obtain ⟨X, hX⟩ : ∃ X, X = w.alloc (.cells #[.int .i64 y, .int .i64 m, .int .i64 d] 62) := ⟨_, rfl⟩
    have HX := hd (hX ▸ Blk.new w 62 #[.int .i64 y, .int .i64 m, .int .i64 d] : Blk X w.heap.size 62 #[.int .i64 y, .int .i64 m, .int .i64 d])
    have HW := hd (hX ▸ (Below.refl _ w).alloc (Nat.le_refl _) _ : Below w.heap.size w X)
    have hx := hd hX
    clear hX
    have D1 := hd (fun dd os => Calls.regrown_of (month_calls y m c3 c4 (grow (redrawn X dd) os)))
    have q1 := cell_regrown (HX.o.at_ 0 rfl)
    have q2 := cell_regrown (HX.o.at_ 1 rfl)
    have q3 := cell_regrown (HX.o.at_ 2 rfl)
    go_enter Tryz.func115, Tryz.ntmps115
    go_wp2_with fail
    rw [← hx.o]
    refine wp_region_quiet_below (by kernel_rfl) (by kernel_rfl) ?_
    repeat (go_big_quiet_step (exact D1.o _ _))
    refine wpQuiet_nil ?_
    intro _ hw'
    obtain ⟨⟨dq, osq⟩, hw''⟩ := hw'
    subst hw''
    go_wp2
    go_ret
    exact ⟨rfl, HW.o.trans ((below_regrown X dq osq).mono HW.o.size)⟩
  · have e1 : mayB y m d = false := by
      cases h : mayB y m d with
      | false => rfl
      | true => rw [mayB_iff] at h; omega
    rw [e1]
    clear e1
    have hc : y < 0 ∨ (0 ≤ y ∧ 9999 < y) ∨ (0 ≤ y ∧ y ≤ 9999 ∧ m < 1) ∨ (0 ≤ y ∧ y ≤ 9999 ∧ 1 ≤ m ∧ 12 < m) ∨ (0 ≤ y ∧ y ≤ 9999 ∧ 1 ≤ m ∧ m ≤ 12 ∧ d < 1) := by omega
    clear hh
    rcases hc with c1 | ⟨c1, c2⟩ | ⟨c1, c2, c3⟩ | ⟨c1, c2, c3, c4⟩ | ⟨c1, c2, c3, c4, c5⟩
    · have b : decide (0 ≤ y) = false := by simp; omega
      go_enter Tryz.func115, Tryz.ntmps115
      go_wp2_with fail
      go_quiet (fail)
      go_wp2
      go_ret
      exact ⟨rfl, bdrewN ((Below.refl _ _).alloc (Nat.le_refl _) _) _⟩
    · have b : decide (y ≤ 9999) = false := by simp; omega
      go_enter Tryz.func115, Tryz.ntmps115
      go_wp2_with fail
      go_quiet (fail)
      go_wp2
      go_ret
      exact ⟨rfl, bdrewN ((Below.refl _ _).alloc (Nat.le_refl _) _) _⟩
    · have b : decide (1 ≤ m) = false := by simp; omega
      go_enter Tryz.func115, Tryz.ntmps115
      go_wp2_with fail
      go_quiet (fail)
      go_wp2
      go_ret
      exact ⟨rfl, bdrewN ((Below.refl _ _).alloc (Nat.le_refl _) _) _⟩
    · have b : decide (m ≤ 12) = false := by simp; omega
      go_enter Tryz.func115, Tryz.ntmps115
      go_wp2_with fail
      go_quiet (fail)
      go_wp2
      go_ret
      exact ⟨rfl, bdrewN ((Below.refl _ _).alloc (Nat.le_refl _) _) _⟩
    · have b : decide (1 ≤ d) = false := by simp; omega
      go_enter Tryz.func115, Tryz.ntmps115
      go_wp2_with fail
      go_quiet (fail)
      go_wp2
      go_ret
      exact ⟨rfl, bdrewN ((Below.refl _ _).alloc (Nat.le_refl _) _) _⟩

theorem rshow_no (y m d : Int) (w : World) (hm : mayB y m d = false) : Calls Tryz.prog 98 #[.agg #[.int .i64 y, .int .i64 m, .int .i64 d]] w fun e w' => e = .returned (.string (bs [])) ∧ Below w.heap.size w w' := by
  have HM := hd hm
  clear hm
  go_enter Tryz.func98, Tryz.ntmps98
  go_wp2_with fail
  refine (rmay_calls y m d _).mono ?_
  rintro e w' ⟨rfl, hb⟩
  rw [HM.o]
  go_wp2
  go_ret
  exact ⟨rfl, ((Below.refl _ w).alloc (Nat.le_refl _) _).trans (hb.mono (by simp))⟩

theorem bs_app (a b : List UInt8) : bs a ++ bs b = bs (a ++ b) := by
  apply ByteArray.ext; simp [bs]

set_option maxHeartbeats 800000 in
theorem rshow_yes (y m d : Int) (w : World) (hm : mayB y m d = true) : Calls Tryz.prog 98 #[.agg #[.int .i64 y, .int .i64 m, .int .i64 d]] w fun e w' => e = .returned (.string (bs (showL y m d))) ∧ Below w.heap.size w w' := by
  have hdm := dm_bd y m
  have hb := (mayB_iff y m d).1 hm
  obtain ⟨c1, c2, c3, c4, c5, c6⟩ := hb
  have c7 : d ≤ 31 := by omega
  clear c6 hdm
  have HM := hd hm
  clear hm
  have hcell : ∀ W, Below (w.alloc (.cells #[.int .i64 y, .int .i64 m, .int .i64 d] 62)).heap.size (w.alloc (.cells #[.int .i64 y, .int .i64 m, .int .i64 d] 62)) W → Blk W w.heap.size 62 #[.int .i64 y, .int .i64 m, .int .i64 d] := fun W hb => (Blk.new w _ _).below hb (by simp)
  have HC := hd hcell
  clear hcell
  have z1 : (bs (sh2 m.toNat)).size = 2 := rfl
  have z2 : (bs (sh2 d.toNat)).size = 2 := rfl
  have z3 : (bs (sh2 y.toNat)).size = 2 := rfl
  have z4 : (bs (sh2 (y / 100).toNat)).size = 2 := rfl
  have z5 : (bs (sh4 y.toNat)).size = 4 := rfl
  by_cases hy : y = 0
  · subst hy
    go_enter Tryz.func98, Tryz.ntmps98
    go_wp2_with fail
    refine (rmay_calls 0 m d _).mono ?_
    rintro e w1 ⟨rfl, hb⟩
    rw [HM.o]
    have hk := HC.o w1 hb
    have h0 := hk.at_ 0 rfl
    have h1 := hk.at_ 1 rfl
    have h2 := hk.at_ 2 rfl
    clear hk
    go_wp2_with fail
    have q1 := cell_regrown h1
    have q2 := cell_regrown h2
    refine wp_region_quiet_below (by kernel_rfl) (by kernel_rfl) ?_
    repeat (go_big_quiet_step (refine Calls.regrown_of (two_calls _ (by omega) (by omega) _)))
    refine wpQuiet_nil ?_
    intro _ hw'
    obtain ⟨⟨dq, osq⟩, hw''⟩ := hw'
    subst hw''
    go_wp2
    go_ret
    refine ⟨ret_val (congrArg Value.string (ba_ext ?_)), ?_⟩
    · simp [showL, HM.o, bs_data]
    · exact ((Below.refl _ w).alloc (Nat.le_refl _) _).trans ((hb.trans ((below_regrown w1 dq osq).mono hb.size)).mono (by simp))
  · have hne : (y != 0) = true := by simpa using hy
    have HY := hd hy
    clear hy
    go_enter Tryz.func98, Tryz.ntmps98
    go_wp2_with fail
    refine (rmay_calls y m d _).mono ?_
    rintro e w1 ⟨rfl, hb⟩
    rw [HM.o]
    have hk := HC.o w1 hb
    have h0 := hk.at_ 0 rfl
    clear hk
    go_wp2_with fail
    have q0 := cell_regrown h0
    refine wp_region_quiet_below (by kernel_rfl) (by kernel_rfl) ?_
    repeat (go_big_quiet_step (refine Calls.regrown_of (two_calls _ (by omega) (by omega) _)))
    refine wpQuiet_nil ?_
    intro w2 hw'
    have hb2 : Below w1.heap.size w1 w2 := by
      obtain ⟨⟨dq, osq⟩, hw''⟩ := hw'
      subst hw''
      exact below_regrown w1 dq osq
    clear hw' q0 h0
    have e4 : bs (sh2 (y / 100).toNat) ++ bs (sh2 y.toNat) = bs (sh4 y.toNat) := by
      rw [bs_app, sh4, show (y / 100).toNat = y.toNat / 100 by omega]
    rw [e4]
    clear e4
    have hb3 := hb.trans (hb2.mono hb.size)
    have hk := HC.o w2 hb3
    have h1 := hk.at_ 1 rfl
    have h2 := hk.at_ 2 rfl
    clear hk
    have q1 := cell_regrown h1
    have q2 := cell_regrown h2
    go_wp2_with fail
    refine wp_region_quiet_below (by kernel_rfl) (by kernel_rfl) ?_
    repeat (go_big_quiet_step (refine Calls.regrown_of (two_calls _ (by omega) (by omega) _)))
    refine wpQuiet_nil ?_
    intro _ hw'
    obtain ⟨⟨dq, osq⟩, hw''⟩ := hw'
    subst hw''
    go_wp2
    go_ret
    refine ⟨ret_val (congrArg Value.string (ba_ext ?_)), ?_⟩
    · simp [showL, HM.o, HY.o, bs_data]
    · exact ((Below.refl _ w).alloc (Nat.le_refl _) _).trans ((hb3.trans ((below_regrown w2 dq osq).mono hb3.size)).mono (by simp))

theorem rshow_calls (y m d : Int) (w : World) : Calls Tryz.prog 98 #[.agg #[.int .i64 y, .int .i64 m, .int .i64 d]] w fun e w' => e = .returned (.string (bs (showL y m d))) ∧ Below w.heap.size w w' := by
  rcases Bool.eq_false_or_eq_true (mayB y m d) with h | h
  · exact rshow_yes y m d w h
  · have := rshow_no y m d w h
    unfold showL
    rw [if_neg (by simp [h])]
    exact this

end Go.Proofs.YtpejlcaoggedfaaGreatDoor
