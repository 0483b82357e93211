/-
  The reference's days: the number of a day; in how many days a day comes again.
-/
import Derived.Test.YtdnmeffglpmlaaaDoorTellB
import Derived.Test.YtdnmeffglpmlaaaDoorDayF
namespace Go.Proofs.YtdnmeffglpmlaaaDoor
open Go.RowKit Go.Sort

theorem rcount_no (y m d : Int) (w : World) (hm : mayB y m d = false) : Calls Tryd.prog 20 #[.agg #[.int .i64 y, .int .i64 m, .int .i64 d]] w fun e w' => e = .returned (.int .i64 (-1)) ∧ Below w.heap.size w w' := by
  have HM := hd hm
  clear hm
  go_enter Tryd.func20, Tryd.ntmps20
  go_wp2_with fail
  refine (rmay_calls y m d _).mono ?_
  rintro e w' ⟨rfl, hb⟩
  rw [HM.o]
  go_wp2
  go_ret
  exact ⟨rfl, ((Below.refl _ w).alloc (Nat.le_refl _) _).trans (hb.mono (by simp))⟩

theorem rcount_0 (m d : Int) (w : World) (hm : mayB 0 m d = true) : Calls Tryd.prog 20 #[.agg #[.int .i64 0, .int .i64 m, .int .i64 d]] w fun e w' => e = .returned (.int .i64 (-1)) ∧ Below w.heap.size w w' := by
  have HM := hd hm
  clear hm
  have HC := hd (fun W (hb : Below (w.alloc (.cells #[.int .i64 0, .int .i64 m, .int .i64 d] 23)).heap.size (w.alloc (.cells #[.int .i64 0, .int .i64 m, .int .i64 d] 23)) W) => (Blk.new w 23 #[.int .i64 0, .int .i64 m, .int .i64 d]).below hb (by simp))
  go_enter Tryd.func20, Tryd.ntmps20
  go_wp2_with fail
  refine (rmay_calls 0 m d _).mono ?_
  rintro e w' ⟨rfl, hb⟩
  rw [HM.o]
  have h0 := (HC.o w' hb).at_ 0 rfl
  go_wp2
  go_ret
  exact ⟨rfl, ((Below.refl _ w).alloc (Nat.le_refl _) _).trans (hb.mono (by simp))⟩

set_option maxHeartbeats 800000 in
theorem rcount_yes (y m d : Int) (w : World) (hm : mayB y m d = true) (hy : y ≠ 0) : Calls Tryd.prog 20 #[.agg #[.int .i64 y, .int .i64 m, .int .i64 d]] w fun e w' => e = .returned (.int .i64 (yb y + sm y (m - 1).toNat + d - 1)) ∧ Below w.heap.size w w' := by
  have hdm := dm_bd y m
  obtain ⟨c1, c2, c3, c4, c5, c6⟩ := (mayB_iff y m d).1 hm
  have c7 : d ≤ 31 := by omega
  have c8 : 1 ≤ y := by omega
  clear c6 hdm c1
  have hne : (y == 0) = false := by simpa using hy
  clear hy
  have HM := hd hm
  clear hm
  obtain ⟨v, hv⟩ : ∃ v, yb y + sm y (m - 1).toNat + d - 1 = v := ⟨_, rfl⟩
  rw [hv]
  have HV := hd hv
  clear hv
  have HC := hd (fun W (hb : Below (w.alloc (.cells #[.int .i64 y, .int .i64 m, .int .i64 d] 23)).heap.size (w.alloc (.cells #[.int .i64 y, .int .i64 m, .int .i64 d] 23)) W) => (Blk.new w 23 #[.int .i64 y, .int .i64 m, .int .i64 d]).below hb (by simp))
  go_enter Tryd.func20, Tryd.ntmps20
  go_wp2_with fail
  refine (rmay_calls y m d _).mono ?_
  rintro e w1 ⟨rfl, hb⟩
  rw [HM.o]
  have hk := HC.o w1 hb
  have h0 := hk.at_ 0 rfl
  have h1 := hk.at_ 1 rfl
  have h2 := hk.at_ 2 rfl
  clear hk
  have hyb : 0 ≤ yb y ∧ yb y ≤ 4000000 := by unfold yb; omega
  obtain ⟨hy0, hy1⟩ := hyb
  go_wp2_with fail
  obtain ⟨wo, rfl⟩ : ∃ wo : World, wo = w1 := ⟨_, rfl⟩
  have HB := hd hb
  clear hb h0 h1 h2
  go_loopw [4, 5] (fun a b wr => Below wo.heap.size wo wr ∧ ∃ i : Nat, b = .int .i64 ((i : Int) + 1) ∧ (i : Int) + 1 ≤ m ∧ ∃ x : Int, a = .int .i64 (yb y + x) ∧ 0 ≤ x ∧ x ≤ 31 * i ∧ Hd (x = sm y i)) (fun _ b _ => 20 - (intOf b).toNat)
  case atStart => exact ⟨Below.refl _ _, 0, rfl, by omega, 0, congrArg (Value.int .i64) (by unfold yb; omega), by omega, by omega, hd rfl⟩
  case round =>
    obtain ⟨hbr, i, rfl, hi, x, rfl, hx0, hx1, hx⟩ := hrel
    have hbw := HB.o.trans (hbr.mono HB.o.size)
    have hk := HC.o wr hbw
    have h0 := hk.at_ 0 rfl
    have h1 := hk.at_ 1 rfl
    have h2 := hk.at_ 2 rfl
    clear hk
    by_cases hlt : (i : Int) + 1 < m
    · have hdm := dm_bd y ((i : Int) + 1)
      go_wp2_with fail
      refine (month_calls y ((i : Int) + 1) (by omega) (by omega) _).mono ?_
      rintro e w' ⟨rfl, hbm⟩
      obtain ⟨q, hq⟩ : ∃ q, dm y ((i : Int) + 1) = q := ⟨_, rfl⟩
      rw [hq] at hdm ⊢
      have HQ := hd hq
      clear hq
      go_wp2_with fail
      go_roundw
      case rel =>
        refine ⟨hbr.trans (hbm.mono hbr.size), i + 1, by simp, by omega, x + q, by rw [Int.add_assoc], by omega, by omega, ?_⟩
        show x + q = sm y (i + 1)
        rw [sm, HQ.o, hx.o]
      case measure =>
        show 20 - ((i : Int) + 1 + 1).toNat < 20 - ((i : Int) + 1).toNat
        omega
    · have hie : m = (i : Int) + 1 := by omega
      subst hie
      go_wp2_with fail
      go_ret
      refine ⟨ret_int ?_, ((Below.refl _ w).alloc (Nat.le_refl _) _).trans (hbw.mono (by simp))⟩
      have := HV.o
      rw [show (i : Int) + 1 - 1 = i by omega, Int.toNat_natCast, ← hx.o] at this
      omega

theorem rcount_calls (y m d : Int) (w : World) : Calls Tryd.prog 20 #[.agg #[.int .i64 y, .int .i64 m, .int .i64 d]] w fun e w' => e = .returned (.int .i64 (countV y m d)) ∧ Below w.heap.size w w' := by
  unfold countV
  by_cases hm : mayB y m d = true
  · by_cases hy : y = 0
    · subst hy
      rw [if_neg (by simp)]
      exact rcount_0 m d w hm
    · rw [if_pos ⟨hm, hy⟩]
      exact rcount_yes y m d w hm hy
  · rw [if_neg (by simp [hm])]
    exact rcount_no y m d w (by simpa using hm)

/-- A day that may be in some year may be in another one, but for February's last. -/
theorem feb_not (y m d yy : Int) (h : mayB y m d = true) (h0 : 1 ≤ yy) (h1 : yy ≤ 9999) (hn : ¬ (m = 2 ∧ d = 29)) : mayB yy m d = true := by
  rw [mayB_iff] at h ⊢
  obtain ⟨a1, a2, a3, a4, a5, a6⟩ := h
  refine ⟨by omega, h1, a3, a4, a5, ?_⟩
  unfold dm at a6 ⊢
  split
  · next h => rw [if_pos h] at a6; exact a6
  · next h =>
    rw [if_neg h] at a6
    split
    · next h2 => rw [if_pos h2] at a6; split at a6 <;> split <;> omega
    · next h2 => rw [if_neg h2] at a6; exact a6
theorem feb_leap (y m d yy : Int) (h : mayB y m d = true) (h0 : 1 ≤ yy) (h1 : yy ≤ 9999) (hm : m = 2) (hd : d = 29) : mayB yy m d = leap yy := by
  subst hm hd
  cases hl : leap yy with
  | true => rw [mayB_iff]; refine ⟨by omega, h1, by omega, by omega, by omega, ?_⟩; simp [dm, hl]
  | false =>
    cases hb : mayB yy 2 29 with
    | false => rfl
    | true => rw [mayB_iff] at hb; have := hb.2.2.2.2.2; unfold dm at this; rw [if_neg (by omega), if_pos rfl, if_neg (by rw [hl]; rintro (h | h); omega; cases h)] at this; omega

theorem runtil_no1 (y m d ty tm td : Int) (w : World) (hm : mayB y m d = false) : Calls Tryd.prog 22 #[.agg #[.int .i64 y, .int .i64 m, .int .i64 d], .agg #[.int .i64 ty, .int .i64 tm, .int .i64 td]] w fun e w' => e = .returned (.int .i64 (-1)) ∧ Below w.heap.size w w' := by
  have HM := hd hm
  clear hm
  have HW := hd (fun W => two_below w W (.cells #[.int .i64 y, .int .i64 m, .int .i64 d] 23) (.cells #[.int .i64 ty, .int .i64 tm, .int .i64 td] 23))
  go_enter Tryd.func22, Tryd.ntmps22
  go_wp2_with fail
  refine (rmay_calls y m d _).mono ?_
  rintro e w' ⟨rfl, hb⟩
  rw [HM.o]
  go_wp2
  go_ret
  exact ⟨rfl, HW.o w' hb⟩

theorem runtil_no2 (y m d ty tm td : Int) (w : World) (hm : mayB y m d = true) (hm2 : mayB ty tm td = false) : Calls Tryd.prog 22 #[.agg #[.int .i64 y, .int .i64 m, .int .i64 d], .agg #[.int .i64 ty, .int .i64 tm, .int .i64 td]] w fun e w' => e = .returned (.int .i64 (-1)) ∧ Below w.heap.size w w' := by
  have HM := hd hm
  have HM2 := hd hm2
  clear hm hm2
  have HC := hd (fun W => two_cells w W 23 #[.int .i64 y, .int .i64 m, .int .i64 d] #[.int .i64 ty, .int .i64 tm, .int .i64 td])
  have HW := hd (fun W => two_below w W (.cells #[.int .i64 y, .int .i64 m, .int .i64 d] 23) (.cells #[.int .i64 ty, .int .i64 tm, .int .i64 td] 23))
  go_enter Tryd.func22, Tryd.ntmps22
  go_wp2_with fail
  refine (rmay_calls y m d _).mono ?_
  rintro e w1 ⟨rfl, hb⟩
  rw [HM.o]
  obtain ⟨k1, k2⟩ := HC.o w1 hb
  have b0 := k2.at_ 0 rfl
  have b1 := k2.at_ 1 rfl
  have b2 := k2.at_ 2 rfl
  clear k1 k2
  go_wp2_with fail
  refine (rmay_calls ty tm td _).mono ?_
  rintro e w2 ⟨rfl, hb2⟩
  rw [HM2.o]
  go_wp2
  go_ret
  exact ⟨rfl, HW.o _ (hb.trans (hb2.mono hb.size))⟩

theorem runtil_no3 (y m d tm td : Int) (w : World) (hm : mayB y m d = true) (hm2 : mayB 0 tm td = true) : Calls Tryd.prog 22 #[.agg #[.int .i64 y, .int .i64 m, .int .i64 d], .agg #[.int .i64 0, .int .i64 tm, .int .i64 td]] w fun e w' => e = .returned (.int .i64 (-1)) ∧ Below w.heap.size w w' := by
  have HM := hd hm
  have HM2 := hd hm2
  clear hm hm2
  have HC := hd (fun W => two_cells w W 23 #[.int .i64 y, .int .i64 m, .int .i64 d] #[.int .i64 0, .int .i64 tm, .int .i64 td])
  have HW := hd (fun W => two_below w W (.cells #[.int .i64 y, .int .i64 m, .int .i64 d] 23) (.cells #[.int .i64 0, .int .i64 tm, .int .i64 td] 23))
  go_enter Tryd.func22, Tryd.ntmps22
  go_wp2_with fail
  refine (rmay_calls y m d _).mono ?_
  rintro e w1 ⟨rfl, hb⟩
  rw [HM.o]
  obtain ⟨k1, k2⟩ := HC.o w1 hb
  have b0 := k2.at_ 0 rfl
  have b1 := k2.at_ 1 rfl
  have b2 := k2.at_ 2 rfl
  clear k1 k2
  go_wp2_with fail
  refine (rmay_calls 0 tm td _).mono ?_
  rintro e w2 ⟨rfl, hb2⟩
  rw [HM2.o]
  have hb3 := hb.trans (hb2.mono hb.size)
  obtain ⟨k1, k2⟩ := HC.o w2 hb3
  have b0 := k2.at_ 0 rfl
  clear k1 k2
  go_wp2
  go_ret
  exact ⟨rfl, HW.o _ hb3⟩

set_option maxRecDepth 100000 in
set_option maxHeartbeats 2000000 in
theorem runtil_yes (y m d ty tm td : Int) (w : World) (hm : mayB y m d = true) (hm2 : mayB ty tm td = true) (hy : ty ≠ 0) : Calls Tryd.prog 22 #[.agg #[.int .i64 y, .int .i64 m, .int .i64 d], .agg #[.int .i64 ty, .int .i64 tm, .int .i64 td]] w fun e w' => e = .returned (.int .i64 (untilV y m d ty tm td)) ∧ Below w.heap.size w w' := by
  obtain ⟨v, hv⟩ : ∃ v, untilV y m d ty tm td = v := ⟨_, rfl⟩
  rw [hv]
  unfold untilV at hv
  rw [if_pos ⟨hm, hm2, hy⟩] at hv
  obtain ⟨c1, c2, _, _, _, _⟩ := (mayB_iff ty tm td).1 hm2
  have c3 : 1 ≤ ty := by omega
  have hne : (ty == 0) = false := by simpa using hy
  have hfb := countV_bd ty tm td
  have F := hd (rcount_calls ty tm td)
  obtain ⟨f, hf⟩ : ∃ f, countV ty tm td = f := ⟨_, rfl⟩
  rw [hf] at hv hfb F
  obtain ⟨hf0, hf1⟩ := hfb
  clear hf hy c1
  have HV := hd hv
  have HM := hd hm
  have HM2 := hd hm2
  clear hm hm2 hv
  have HC := hd (fun W => two_cells w W 23 #[.int .i64 y, .int .i64 m, .int .i64 d] #[.int .i64 ty, .int .i64 tm, .int .i64 td])
  have HW := hd (fun W => two_below w W (.cells #[.int .i64 y, .int .i64 m, .int .i64 d] 23) (.cells #[.int .i64 ty, .int .i64 tm, .int .i64 td] 23))
  go_enter Tryd.func22, Tryd.ntmps22
  go_wp2_with fail
  refine (rmay_calls y m d _).mono ?_
  rintro e w1 ⟨rfl, hb⟩
  rw [HM.o]
  obtain ⟨k1, k2⟩ := HC.o w1 hb
  have b0 := k2.at_ 0 rfl
  have b1 := k2.at_ 1 rfl
  have b2 := k2.at_ 2 rfl
  clear k1 k2
  go_wp2_with fail
  refine (rmay_calls ty tm td _).mono ?_
  rintro e w2 ⟨rfl, hb2⟩
  rw [HM2.o]
  have hb3 := hb.trans (hb2.mono hb.size)
  clear hb hb2 b0 b1 b2
  obtain ⟨k1, k2⟩ := HC.o w2 hb3
  have b0 := k2.at_ 0 rfl
  have b1 := k2.at_ 1 rfl
  have b2 := k2.at_ 2 rfl
  clear k1 k2
  clear b1 b2
  go_wp2_with fail
  clear b0
  obtain ⟨wo, rfl⟩ : ∃ wo : World, wo = w2 := ⟨_, rfl⟩
  have HB := hd hb3
  clear hb3
  go_loopw [5] (fun s wr => Below wo.heap.size wo wr ∧ ∃ yy : Int, s = .int .i64 yy ∧ ty ≤ yy ∧ yy ≤ ty + 2 ∧ Hd ((ty < yy → uy ty m d < f) ∧ (ty + 1 < yy → uy (ty + 1) m d < f))) (fun s _ => (ty + 2 - intOf s).toNat)
  case atStart => exact ⟨Below.refl _ _, ty, rfl, by omega, by omega, hd ⟨fun h => absurd h (by omega), fun h => absurd h (by omega)⟩⟩
  case round =>
    obtain ⟨hbr, yy, rfl, hy0, hy1, hh⟩ := hrel
    have hbw := HB.o.trans (hbr.mono HB.o.size)
    obtain ⟨k1, k2⟩ := HC.o wr hbw
    have a1 := k1.at_ 1 rfl
    have a2 := k1.at_ 2 rfl
    have b0 := k2.at_ 0 rfl
    have hl1 := k1.lt
    have hl2 := k2.lt
    clear k1 k2
    by_cases ht2 : yy ≤ ty + 1
    · by_cases ht : yy ≤ 9999
      · by_cases hm2 : m = 2
        · have hm2b : (m == 2) = true := by simpa using hm2
          by_cases hd29 : d = 29
          · have hd29b : (d == 29) = true := by simpa using hd29
            have hL : mayB yy m d = leap yy := feb_leap y m d yy HM.o (by omega) ht hm2 hd29
            clear hm2 hd29
            go_wp2_with fail
            refine (rleap_calls yy _).mono ?_
            rintro e wq ⟨rfl, rfl⟩
            cases hl : leap yy with
            | true =>
              go_wp2_with fail
              obtain ⟨wx, hwx⟩ : ∃ W, W = wr.alloc (.cells #[.int .i64 yy, .int .i64 m, .int .i64 d] 23) := ⟨_, rfl⟩
              rw [← hwx]
              have kx : Blk wx wr.heap.size 23 #[.int .i64 yy, .int .i64 m, .int .i64 d] := by rw [hwx]; exact Blk.new wr _ _
              have hbx : Below wr.heap.size wr wx := by rw [hwx]; exact (Below.refl _ _).alloc (Nat.le_refl _) _
              clear hwx
              have x0 := cell_regrown (kx.at_ 0 rfl)
              have x1 := cell_regrown (kx.at_ 1 rfl)
              have x2 := cell_regrown (kx.at_ 2 rfl)
              have hbxw := hbw.trans (hbx.mono hbw.size)
              obtain ⟨_, kt⟩ := HC.o wx hbxw
              have t0 := cell_regrown (kt.at_ 0 rfl)
              have t1 := cell_regrown (kt.at_ 1 rfl)
              have t2 := cell_regrown (kt.at_ 2 rfl)
              clear kt kx
              have D1 := rcount_calls yy m d
              obtain ⟨n, hn⟩ : ∃ n, countV yy m d = n := ⟨_, rfl⟩
              have hnb := countV_bd yy m d
              rw [hn] at hnb
              simp only [hn] at D1
              have D1' := hd (fun dd os => Calls.regrown_of (D1 (grow (redrawn wx dd) os)))
              have D2' := hd (fun dd os => Calls.regrown_of (F.o (grow (redrawn wx dd) os)))
              have hun : uy yy m d = n := by rw [← hn]; unfold uy; rw [if_pos (hL.trans hl)]
              have HN := hd hun
              clear hun hn D1
              obtain ⟨hn0, hn1⟩ := hnb
              have hwr := IntWalk.i64_in (n - f) (by omega)
              refine wp_region_quiet_below (by kernel_rfl) (by kernel_rfl) ?_
              go_big_quiet_step (exact D1'.o _ _)
              go_big_quiet_step (exact D1'.o _ _)
              repeat (go_big_quiet_step (exact D2'.o _ _))
              refine wpQuiet_nil ?_
              intro wb hw'
              have hbb : Below wx.heap.size wx wb := by
                obtain ⟨⟨dq, osq⟩, hw''⟩ := hw'
                subst hw''
                exact below_regrown wx dq osq
              clear hw' x0 x1 x2 t0 t1 t2 hwr
              have HBB : Below wr.heap.size wr wb := hbx.trans (hbb.mono hbx.size)
              by_cases hc : f ≤ n
              · go_wp2_with fail
                go_ret
                refine ⟨ret_int ?_, HW.o _ (hbw.trans (HBB.mono hbw.size))⟩
                have hv := HV.o
                have hun := HN.o
                by_cases hyt : yy = ty
                · subst hyt
                  rw [hun, if_pos hc] at hv
                  exact hv
                · have hyt1 : yy = ty + 1 := by omega
                  subst hyt1
                  rw [hun, if_neg (by have := hh.o.1 (by omega); omega), if_pos ⟨ht, hc⟩] at hv
                  exact hv
              · go_wp2_with fail
                go_roundw
                case rel =>
                  refine ⟨hbr.trans (HBB.mono hbr.size), yy + 1, rfl, by omega, by omega, hd ⟨fun h1 => ?_, fun h1 => ?_⟩⟩
                  · by_cases hyt : yy = ty
                    · subst hyt; rw [HN.o]; omega
                    · exact hh.o.1 (by omega)
                  · have hyt : yy = ty + 1 := by omega
                    subst hyt; rw [HN.o]; omega
                case measure =>
                  show (ty + 2 - (yy + 1)).toNat < (ty + 2 - yy).toNat
                  omega
            | false =>
              go_wp2_with fail
              obtain ⟨wx, hwx⟩ : ∃ W, W = wr.alloc (.cells #[.int .i64 yy, .int .i64 3, .int .i64 1] 23) := ⟨_, rfl⟩
              rw [← hwx]
              have kx : Blk wx wr.heap.size 23 #[.int .i64 yy, .int .i64 3, .int .i64 1] := by rw [hwx]; exact Blk.new wr _ _
              have hbx : Below wr.heap.size wr wx := by rw [hwx]; exact (Below.refl _ _).alloc (Nat.le_refl _) _
              clear hwx
              have x0 := cell_regrown (kx.at_ 0 rfl)
              have x1 := cell_regrown (kx.at_ 1 rfl)
              have x2 := cell_regrown (kx.at_ 2 rfl)
              have hbxw := hbw.trans (hbx.mono hbw.size)
              obtain ⟨_, kt⟩ := HC.o wx hbxw
              have t0 := cell_regrown (kt.at_ 0 rfl)
              have t1 := cell_regrown (kt.at_ 1 rfl)
              have t2 := cell_regrown (kt.at_ 2 rfl)
              clear kt kx
              have D1 := rcount_calls yy 3 1
              obtain ⟨n, hn⟩ : ∃ n, countV yy 3 1 = n := ⟨_, rfl⟩
              have hnb := countV_bd yy 3 1
              rw [hn] at hnb
              simp only [hn] at D1
              have D1' := hd (fun dd os => Calls.regrown_of (D1 (grow (redrawn wx dd) os)))
              have D2' := hd (fun dd os => Calls.regrown_of (F.o (grow (redrawn wx dd) os)))
              have hun : uy yy m d = n := by rw [← hn]; unfold uy; rw [if_neg (by rw [hL, hl]; exact Bool.false_ne_true)]
              have HN := hd hun
              clear hun hn D1
              obtain ⟨hn0, hn1⟩ := hnb
              have hwr := IntWalk.i64_in (n - f) (by omega)
              refine wp_region_quiet_below (by kernel_rfl) (by kernel_rfl) ?_
              go_big_quiet_step (exact D1'.o _ _)
              go_big_quiet_step (exact D1'.o _ _)
              repeat (go_big_quiet_step (exact D2'.o _ _))
              refine wpQuiet_nil ?_
              intro wb hw'
              have hbb : Below wx.heap.size wx wb := by
                obtain ⟨⟨dq, osq⟩, hw''⟩ := hw'
                subst hw''
                exact below_regrown wx dq osq
              clear hw' x0 x1 x2 t0 t1 t2 hwr
              have HBB : Below wr.heap.size wr wb := hbx.trans (hbb.mono hbx.size)
              by_cases hc : f ≤ n
              · go_wp2_with fail
                go_ret
                refine ⟨ret_int ?_, HW.o _ (hbw.trans (HBB.mono hbw.size))⟩
                have hv := HV.o
                have hun := HN.o
                by_cases hyt : yy = ty
                · subst hyt
                  rw [hun, if_pos hc] at hv
                  exact hv
                · have hyt1 : yy = ty + 1 := by omega
                  subst hyt1
                  rw [hun, if_neg (by have := hh.o.1 (by omega); omega), if_pos ⟨ht, hc⟩] at hv
                  exact hv
              · go_wp2_with fail
                go_roundw
                case rel =>
                  refine ⟨hbr.trans (HBB.mono hbr.size), yy + 1, rfl, by omega, by omega, hd ⟨fun h1 => ?_, fun h1 => ?_⟩⟩
                  · by_cases hyt : yy = ty
                    · subst hyt; rw [HN.o]; omega
                    · exact hh.o.1 (by omega)
                  · have hyt : yy = ty + 1 := by omega
                    subst hyt; rw [HN.o]; omega
                case measure =>
                  show (ty + 2 - (yy + 1)).toNat < (ty + 2 - yy).toNat
                  omega
          · have hd29b : (d == 29) = false := by simpa using hd29
            have hL := hd (feb_not y m d yy HM.o (by omega) ht (fun h => hd29 h.2))
            clear hm2 hd29
            go_wp2_with fail
            obtain ⟨wx, hwx⟩ : ∃ W, W = wr.alloc (.cells #[.int .i64 yy, .int .i64 m, .int .i64 d] 23) := ⟨_, rfl⟩
            rw [← hwx]
            have kx : Blk wx wr.heap.size 23 #[.int .i64 yy, .int .i64 m, .int .i64 d] := by rw [hwx]; exact Blk.new wr _ _
            have hbx : Below wr.heap.size wr wx := by rw [hwx]; exact (Below.refl _ _).alloc (Nat.le_refl _) _
            clear hwx
            have x0 := cell_regrown (kx.at_ 0 rfl)
            have x1 := cell_regrown (kx.at_ 1 rfl)
            have x2 := cell_regrown (kx.at_ 2 rfl)
            have hbxw := hbw.trans (hbx.mono hbw.size)
            obtain ⟨_, kt⟩ := HC.o wx hbxw
            have t0 := cell_regrown (kt.at_ 0 rfl)
            have t1 := cell_regrown (kt.at_ 1 rfl)
            have t2 := cell_regrown (kt.at_ 2 rfl)
            clear kt kx
            have D1 := rcount_calls yy m d
            obtain ⟨n, hn⟩ : ∃ n, countV yy m d = n := ⟨_, rfl⟩
            have hnb := countV_bd yy m d
            rw [hn] at hnb
            simp only [hn] at D1
            have D1' := hd (fun dd os => Calls.regrown_of (D1 (grow (redrawn wx dd) os)))
            have D2' := hd (fun dd os => Calls.regrown_of (F.o (grow (redrawn wx dd) os)))
            have hun : uy yy m d = n := by rw [← hn]; unfold uy; rw [if_pos hL.o]
            have HN := hd hun
            clear hun hn D1
            obtain ⟨hn0, hn1⟩ := hnb
            have hwr := IntWalk.i64_in (n - f) (by omega)
            refine wp_region_quiet_below (by kernel_rfl) (by kernel_rfl) ?_
            go_big_quiet_step (exact D1'.o _ _)
            go_big_quiet_step (exact D1'.o _ _)
            repeat (go_big_quiet_step (exact D2'.o _ _))
            refine wpQuiet_nil ?_
            intro wb hw'
            have hbb : Below wx.heap.size wx wb := by
              obtain ⟨⟨dq, osq⟩, hw''⟩ := hw'
              subst hw''
              exact below_regrown wx dq osq
            clear hw' x0 x1 x2 t0 t1 t2 hwr
            have HBB : Below wr.heap.size wr wb := hbx.trans (hbb.mono hbx.size)
            by_cases hc : f ≤ n
            · go_wp2_with fail
              go_ret
              refine ⟨ret_int ?_, HW.o _ (hbw.trans (HBB.mono hbw.size))⟩
              have hv := HV.o
              have hun := HN.o
              by_cases hyt : yy = ty
              · subst hyt
                rw [hun, if_pos hc] at hv
                exact hv
              · have hyt1 : yy = ty + 1 := by omega
                subst hyt1
                rw [hun, if_neg (by have := hh.o.1 (by omega); omega), if_pos ⟨ht, hc⟩] at hv
                exact hv
            · go_wp2_with fail
              go_roundw
              case rel =>
                refine ⟨hbr.trans (HBB.mono hbr.size), yy + 1, rfl, by omega, by omega, hd ⟨fun h1 => ?_, fun h1 => ?_⟩⟩
                · by_cases hyt : yy = ty
                  · subst hyt; rw [HN.o]; omega
                  · exact hh.o.1 (by omega)
                · have hyt : yy = ty + 1 := by omega
                  subst hyt; rw [HN.o]; omega
              case measure =>
                show (ty + 2 - (yy + 1)).toNat < (ty + 2 - yy).toNat
                omega
        · have hm2b : (m == 2) = false := by simpa using hm2
          have hL := hd (feb_not y m d yy HM.o (by omega) ht (fun h => hm2 h.1))
          clear hm2
          go_wp2_with fail
          obtain ⟨wx, hwx⟩ : ∃ W, W = wr.alloc (.cells #[.int .i64 yy, .int .i64 m, .int .i64 d] 23) := ⟨_, rfl⟩
          rw [← hwx]
          have kx : Blk wx wr.heap.size 23 #[.int .i64 yy, .int .i64 m, .int .i64 d] := by rw [hwx]; exact Blk.new wr _ _
          have hbx : Below wr.heap.size wr wx := by rw [hwx]; exact (Below.refl _ _).alloc (Nat.le_refl _) _
          clear hwx
          have x0 := cell_regrown (kx.at_ 0 rfl)
          have x1 := cell_regrown (kx.at_ 1 rfl)
          have x2 := cell_regrown (kx.at_ 2 rfl)
          have hbxw := hbw.trans (hbx.mono hbw.size)
          obtain ⟨_, kt⟩ := HC.o wx hbxw
          have t0 := cell_regrown (kt.at_ 0 rfl)
          have t1 := cell_regrown (kt.at_ 1 rfl)
          have t2 := cell_regrown (kt.at_ 2 rfl)
          clear kt kx
          have D1 := rcount_calls yy m d
          obtain ⟨n, hn⟩ : ∃ n, countV yy m d = n := ⟨_, rfl⟩
          have hnb := countV_bd yy m d
          rw [hn] at hnb
          simp only [hn] at D1
          have D1' := hd (fun dd os => Calls.regrown_of (D1 (grow (redrawn wx dd) os)))
          have D2' := hd (fun dd os => Calls.regrown_of (F.o (grow (redrawn wx dd) os)))
          have hun : uy yy m d = n := by rw [← hn]; unfold uy; rw [if_pos hL.o]
          have HN := hd hun
          clear hun hn D1
          obtain ⟨hn0, hn1⟩ := hnb
          have hwr := IntWalk.i64_in (n - f) (by omega)
          refine wp_region_quiet_below (by kernel_rfl) (by kernel_rfl) ?_
          go_big_quiet_step (exact D1'.o _ _)
          go_big_quiet_step (exact D1'.o _ _)
          repeat (go_big_quiet_step (exact D2'.o _ _))
          refine wpQuiet_nil ?_
          intro wb hw'
          have hbb : Below wx.heap.size wx wb := by
            obtain ⟨⟨dq, osq⟩, hw''⟩ := hw'
            subst hw''
            exact below_regrown wx dq osq
          clear hw' x0 x1 x2 t0 t1 t2 hwr
          have HBB : Below wr.heap.size wr wb := hbx.trans (hbb.mono hbx.size)
          by_cases hc : f ≤ n
          · go_wp2_with fail
            go_ret
            refine ⟨ret_int ?_, HW.o _ (hbw.trans (HBB.mono hbw.size))⟩
            have hv := HV.o
            have hun := HN.o
            by_cases hyt : yy = ty
            · subst hyt
              rw [hun, if_pos hc] at hv
              exact hv
            · have hyt1 : yy = ty + 1 := by omega
              subst hyt1
              rw [hun, if_neg (by have := hh.o.1 (by omega); omega), if_pos ⟨ht, hc⟩] at hv
              exact hv
          · go_wp2_with fail
            go_roundw
            case rel =>
              refine ⟨hbr.trans (HBB.mono hbr.size), yy + 1, rfl, by omega, by omega, hd ⟨fun h1 => ?_, fun h1 => ?_⟩⟩
              · by_cases hyt : yy = ty
                · subst hyt; rw [HN.o]; omega
                · exact hh.o.1 (by omega)
              · have hyt : yy = ty + 1 := by omega
                subst hyt; rw [HN.o]; omega
            case measure =>
              show (ty + 2 - (yy + 1)).toNat < (ty + 2 - yy).toNat
              omega
      · go_wp2_with fail
        go_ret
        refine ⟨ret_int ?_, HW.o _ hbw⟩
        have hv := HV.o
        rw [if_neg (by have := hh.o.1 (by omega); omega), if_neg (fun hx => by have := hh.o.2 (by omega); omega)] at hv
        exact hv
    · go_wp2_with fail
      go_ret
      refine ⟨ret_int ?_, HW.o _ hbw⟩
      have hv := HV.o
      rw [if_neg (by have := hh.o.1 (by omega); omega), if_neg (fun hx => by have := hh.o.2 (by omega); omega)] at hv
      exact hv

theorem runtil_calls (y m d ty tm td : Int) (w : World) : Calls Tryd.prog 22 #[.agg #[.int .i64 y, .int .i64 m, .int .i64 d], .agg #[.int .i64 ty, .int .i64 tm, .int .i64 td]] w fun e w' => e = .returned (.int .i64 (untilV y m d ty tm td)) ∧ Below w.heap.size w w' := by
  rcases Bool.eq_false_or_eq_true (mayB y m d) with h1 | h1
  · rcases Bool.eq_false_or_eq_true (mayB ty tm td) with h2 | h2
    · by_cases hy : ty = 0
      · subst hy
        rw [show untilV y m d 0 tm td = -1 by unfold untilV; rw [if_neg (by simp)]]
        exact runtil_no3 y m d tm td w h1 h2
      · exact runtil_yes y m d ty tm td w h1 h2 hy
    · rw [show untilV y m d ty tm td = -1 by unfold untilV; rw [if_neg (by simp [h2])]]
      exact runtil_no2 y m d ty tm td w h1 h2
  · rw [show untilV y m d ty tm td = -1 by unfold untilV; rw [if_neg (by simp [h1])]]
    exact runtil_no1 y m d ty tm td w h1

end Go.Proofs.YtdnmeffglpmlaaaDoor
