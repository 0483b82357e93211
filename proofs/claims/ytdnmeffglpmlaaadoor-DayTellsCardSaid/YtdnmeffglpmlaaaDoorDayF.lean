/-
  Days: in how many days a day comes again.
-/
import Derived.Test.YtdnmeffglpmlaaaDoorDayE
namespace Go.Proofs.YtdnmeffglpmlaaaDoor
open Go.RowKit

theorem count_calls (y m d : Int) (w : World) : Calls Tryd.prog 19 #[.agg #[.int .i64 y, .int .i64 m, .int .i64 d]] w fun e w' => e = .returned (.int .i64 (countV y m d)) ∧ Below w.heap.size w w' := by
  unfold countV
  by_cases hm : mayB y m d = true
  · by_cases hy : y = 0
    · subst hy
      rw [if_neg (by simp)]
      exact count_0 m d w hm
    · rw [if_pos ⟨hm, hy⟩]
      exact count_yes y m d w hm hy
  · rw [if_neg (by simp [hm])]
    exact count_no y m d w (by simpa using hm)

theorem sm_bd (y : Int) (k : Nat) : 28 * (k : Int) ≤ sm y k ∧ sm y k ≤ 31 * k := by
  induction k with
  | zero => simp [sm]
  | succ k ih => have := dm_bd y ((k : Int) + 1); rw [sm]; omega
theorem countV_bd (y m d : Int) : -1 ≤ countV y m d ∧ countV y m d ≤ 4000000 := by
  unfold countV
  split
  · next h =>
    obtain ⟨hm, hy⟩ := h
    obtain ⟨c1, c2, c3, c4, c5, c6⟩ := (mayB_iff y m d).1 hm
    have hdm := dm_bd y m
    have h1 := sm_bd y (m - 1).toNat
    unfold yb
    omega
  · omega

/-- The number of a month's day in a year; of March's first where it is none. -/
def uy (y m d : Int) : Int := if mayB y m d = true then countV y m d else countV y 3 1
theorem uy_bd (y m d : Int) : -1 ≤ uy y m d ∧ uy y m d ≤ 4000000 := by unfold uy; split <;> exact countV_bd _ _ _

/-- In how many days a day comes again. -/
def untilV (y m d ty tm td : Int) : Int :=
  if mayB y m d = true ∧ mayB ty tm td = true ∧ ty ≠ 0 then
    (if countV ty tm td ≤ uy ty m d then uy ty m d - countV ty tm td
     else if ty + 1 ≤ 9999 ∧ countV ty tm td ≤ uy (ty + 1) m d then uy (ty + 1) m d - countV ty tm td else -1)
  else -1

theorem until_no1 (y m d ty tm td : Int) (w : World) (hm : mayB y m d = false) : Calls Tryd.prog 21 #[.agg #[.int .i64 y, .int .i64 m, .int .i64 d], .agg #[.int .i64 ty, .int .i64 tm, .int .i64 td]] w fun e w' => e = .returned (.int .i64 (-1)) ∧ Below w.heap.size w w' := by
  have HM := hd hm
  clear hm
  have HW := hd (fun W => two_below w W (.cells #[.int .i64 y, .int .i64 m, .int .i64 d] 23) (.cells #[.int .i64 ty, .int .i64 tm, .int .i64 td] 23))
  go_enter Tryd.func21, Tryd.ntmps21
  go_wp2_with fail
  refine (may_calls y m d _).mono ?_
  rintro e w' ⟨rfl, hb⟩
  rw [HM.o]
  go_wp2
  go_ret
  exact ⟨rfl, HW.o w' hb⟩

theorem until_no2 (y m d ty tm td : Int) (w : World) (hm : mayB y m d = true) (hm2 : mayB ty tm td = false) : Calls Tryd.prog 21 #[.agg #[.int .i64 y, .int .i64 m, .int .i64 d], .agg #[.int .i64 ty, .int .i64 tm, .int .i64 td]] w fun e w' => e = .returned (.int .i64 (-1)) ∧ Below w.heap.size w w' := by
  have HM := hd hm
  have HM2 := hd hm2
  clear hm hm2
  have HC := hd (fun W => two_cells w W 23 #[.int .i64 y, .int .i64 m, .int .i64 d] #[.int .i64 ty, .int .i64 tm, .int .i64 td])
  have HW := hd (fun W => two_below w W (.cells #[.int .i64 y, .int .i64 m, .int .i64 d] 23) (.cells #[.int .i64 ty, .int .i64 tm, .int .i64 td] 23))
  go_enter Tryd.func21, Tryd.ntmps21
  go_wp2_with fail
  refine (may_calls y m d _).mono ?_
  rintro e w1 ⟨rfl, hb⟩
  rw [HM.o]
  obtain ⟨k1, k2⟩ := HC.o w1 hb
  have b0 := k2.at_ 0 rfl
  have b1 := k2.at_ 1 rfl
  have b2 := k2.at_ 2 rfl
  clear k1 k2
  go_wp2_with fail
  refine (may_calls ty tm td _).mono ?_
  rintro e w2 ⟨rfl, hb2⟩
  rw [HM2.o]
  go_wp2
  go_ret
  exact ⟨rfl, HW.o _ (hb.trans (hb2.mono hb.size))⟩

theorem until_no3 (y m d tm td : Int) (w : World) (hm : mayB y m d = true) (hm2 : mayB 0 tm td = true) : Calls Tryd.prog 21 #[.agg #[.int .i64 y, .int .i64 m, .int .i64 d], .agg #[.int .i64 0, .int .i64 tm, .int .i64 td]] w fun e w' => e = .returned (.int .i64 (-1)) ∧ Below w.heap.size w w' := by
  have HM := hd hm
  have HM2 := hd hm2
  clear hm hm2
  have HC := hd (fun W => two_cells w W 23 #[.int .i64 y, .int .i64 m, .int .i64 d] #[.int .i64 0, .int .i64 tm, .int .i64 td])
  have HW := hd (fun W => two_below w W (.cells #[.int .i64 y, .int .i64 m, .int .i64 d] 23) (.cells #[.int .i64 0, .int .i64 tm, .int .i64 td] 23))
  go_enter Tryd.func21, Tryd.ntmps21
  go_wp2_with fail
  refine (may_calls y m d _).mono ?_
  rintro e w1 ⟨rfl, hb⟩
  rw [HM.o]
  obtain ⟨k1, k2⟩ := HC.o w1 hb
  have b0 := k2.at_ 0 rfl
  have b1 := k2.at_ 1 rfl
  have b2 := k2.at_ 2 rfl
  clear k1 k2
  go_wp2_with fail
  refine (may_calls 0 tm td _).mono ?_
  rintro e w2 ⟨rfl, hb2⟩
  rw [HM2.o]
  have hb3 := hb.trans (hb2.mono hb.size)
  obtain ⟨k1, k2⟩ := HC.o w2 hb3
  have b0 := k2.at_ 0 rfl
  clear k1 k2
  go_wp2
  go_ret
  exact ⟨rfl, HW.o _ hb3⟩

theorem mayB_31 (y : Int) (h0 : 0 ≤ y) (h1 : y ≤ 9999) : mayB y 3 1 = true := by
  rw [mayB_iff]
  have := dm_bd y 3
  omega

set_option maxRecDepth 100000 in
set_option maxHeartbeats 2000000 in
theorem until_yes (y m d ty tm td : Int) (w : World) (hm : mayB y m d = true) (hm2 : mayB ty tm td = true) (hy : ty ≠ 0) : Calls Tryd.prog 21 #[.agg #[.int .i64 y, .int .i64 m, .int .i64 d], .agg #[.int .i64 ty, .int .i64 tm, .int .i64 td]] w fun e w' => e = .returned (.int .i64 (untilV y m d ty tm td)) ∧ Below w.heap.size w w' := by
  obtain ⟨v, hv⟩ : ∃ v, untilV y m d ty tm td = v := ⟨_, rfl⟩
  rw [hv]
  unfold untilV at hv
  rw [if_pos ⟨hm, hm2, hy⟩] at hv
  obtain ⟨c1, c2, _, _, _, _⟩ := (mayB_iff ty tm td).1 hm2
  have c3 : 1 ≤ ty := by omega
  have hne : (ty == 0) = false := by simpa using hy
  have hfb := countV_bd ty tm td
  have F := hd (count_calls ty tm td)
  obtain ⟨f, hf⟩ : ∃ f, countV ty tm td = f := ⟨_, rfl⟩
  rw [hf] at hv hfb F
  obtain ⟨hf0, hf1⟩ := hfb
  clear hf hy c1
  have HV := hd hv
  have HM := hd hm
  have HM2 := hd hm2
  clear hm hm2 hv
  have HC := hd (fun W => two_cells w W 23 #[.int .i64 y, .int .i64 m, .int .i64 d] #[.int .i64 ty, .int .i64 tm, .int .i64 td])
  have HW := hd (fun W => two_below w W (.cells #[.int .i64 y, .int .i64 m, .int .i64 d] 23) (.cells #[.int .i64 ty, .int .i64 tm, .int .i64 td] 23))
  go_enter Tryd.func21, Tryd.ntmps21
  go_wp2_with fail
  refine (may_calls y m d _).mono ?_
  rintro e w1 ⟨rfl, hb⟩
  rw [HM.o]
  obtain ⟨k1, k2⟩ := HC.o w1 hb
  have b0 := k2.at_ 0 rfl
  have b1 := k2.at_ 1 rfl
  have b2 := k2.at_ 2 rfl
  clear k1 k2
  go_wp2_with fail
  refine (may_calls ty tm td _).mono ?_
  rintro e w2 ⟨rfl, hb2⟩
  rw [HM2.o]
  have hb3 := hb.trans (hb2.mono hb.size)
  clear hb hb2 b0 b1 b2
  obtain ⟨k1, k2⟩ := HC.o w2 hb3
  have b0 := k2.at_ 0 rfl
  have b1 := k2.at_ 1 rfl
  have b2 := k2.at_ 2 rfl
  clear k1 k2
  go_wp2_with fail
  refine (F.o _).mono ?_
  rintro e w3 ⟨rfl, hb4⟩
  have hb5 := hb3.trans (hb4.mono hb3.size)
  clear hb3 hb4 b0 b1 b2
  obtain ⟨k1, k2⟩ := HC.o w3 hb5
  have b0 := k2.at_ 0 rfl
  clear k1 k2
  go_wp2_with fail
  clear b0
  obtain ⟨wo, rfl⟩ : ∃ wo : World, wo = w3 := ⟨_, rfl⟩
  have HB := hd hb5
  clear hb5
  go_loopw [6] (fun s wr => Below wo.heap.size wo wr ∧ ∃ yy : Int, s = .int .i64 yy ∧ ty ≤ yy ∧ yy ≤ ty + 2 ∧ Hd ((ty < yy → uy ty m d < f) ∧ (ty + 1 < yy → uy (ty + 1) m d < f))) (fun s _ => (ty + 2 - intOf s).toNat)
  case atStart => exact ⟨Below.refl _ _, ty, rfl, by omega, by omega, hd ⟨fun h => absurd h (by omega), fun h => absurd h (by omega)⟩⟩
  case round =>
    obtain ⟨hbr, yy, rfl, hy0, hy1, hh⟩ := hrel
    have hbw := HB.o.trans (hbr.mono HB.o.size)
    obtain ⟨k1, k2⟩ := HC.o wr hbw
    have a1 := k1.at_ 1 rfl
    have a2 := k1.at_ 2 rfl
    have b0 := k2.at_ 0 rfl
    have hl1 := k1.lt
    have hl2 := k2.lt
    clear k1 k2
    by_cases ht : yy ≤ 9999
    · by_cases ht2 : yy ≤ ty + 1
      · have HX := hd (fun (c : Array Value) W (hb : Below (wr.alloc (.cells c 23)).heap.size (wr.alloc (.cells c 23)) W) => (Blk.new wr 23 c).below hb (by simp))
        go_wp2_with fail
        refine (may_calls yy m d _).mono ?_
        rintro e wa ⟨rfl, hba⟩
        rcases Bool.eq_false_or_eq_true (mayB yy m d) with hmy | hmy
        · have HMy := hd hmy
          clear hmy
          rw [HMy.o]
          have hk := HX.o _ wa hba
          have x0 := hk.at_ 0 rfl
          have x1 := hk.at_ 1 rfl
          have x2 := hk.at_ 2 rfl
          clear hk
          go_wp2_with fail
          refine (count_calls yy m d _).mono ?_
          rintro e wb ⟨rfl, hbb⟩
          have HBB : Below wr.heap.size wr wb := ((Below.refl _ wr).alloc (Nat.le_refl _) _).trans ((hba.trans (hbb.mono hba.size)).mono (by simp))
          obtain ⟨n, hn⟩ : ∃ n, countV yy m d = n := ⟨_, rfl⟩
          have hnb := countV_bd yy m d
          rw [hn] at hnb ⊢
          have hun : uy yy m d = n := by rw [← hn]; unfold uy; rw [if_pos HMy.o]
          have HN := hd hun
          clear hun hn
          obtain ⟨hn0, hn1⟩ := hnb
          by_cases hc : f ≤ n
          · go_wp2_with fail
            go_ret
            refine ⟨ret_int ?_, HW.o _ (hbw.trans (HBB.mono hbw.size))⟩
            have hv := HV.o
            have hun := HN.o
            by_cases hyt : yy = ty
            · subst hyt
              rw [hun, if_pos hc] at hv
              exact hv
            · have hyt1 : yy = ty + 1 := by omega
              subst hyt1
              rw [hun, if_neg (by have := hh.o.1 (by omega); omega), if_pos ⟨ht, hc⟩] at hv
              exact hv
          · go_wp2_with fail
            go_roundw
            case rel =>
              refine ⟨hbr.trans (HBB.mono hbr.size), yy + 1, rfl, by omega, by omega, hd ⟨fun h1 => ?_, fun h1 => ?_⟩⟩
              · by_cases hyt : yy = ty
                · subst hyt; rw [HN.o]; omega
                · exact hh.o.1 (by omega)
              · have hyt : yy = ty + 1 := by omega
                subst hyt; rw [HN.o]; omega
            case measure =>
              show (ty + 2 - (yy + 1)).toNat < (ty + 2 - yy).toNat
              omega
        · have HMy := hd hmy
          clear hmy
          rw [HMy.o]
          have hk := HX.o _ wa hba
          have x0 := hk.at_ 0 rfl
          have x1 := hk.at_ 1 rfl
          have x2 := hk.at_ 2 rfl
          have f0 := hk.frozen 0
          have f1 := hk.frozen 1
          have f2 := hk.frozen 2
          have hlx := hk.lt
          clear hk
          go_wp2_with fail
          refine (count_calls yy 3 1 _).mono ?_
          rintro e wb ⟨rfl, hbb⟩
          have HBA : Below wr.heap.size wr wa := ((Below.refl _ wr).alloc (Nat.le_refl _) _).trans (hba.mono (by simp))
          have HBB : Below wr.heap.size wr wb := ((HBA.setCell (Nat.le_refl _) _).setCell (Nat.le_refl _) _).trans (hbb.mono (by simpa [size_setCell] using HBA.size))
          obtain ⟨n, hn⟩ : ∃ n, countV yy 3 1 = n := ⟨_, rfl⟩
          have hnb := countV_bd yy 3 1
          rw [hn] at hnb ⊢
          have hun : uy yy m d = n := by rw [← hn]; unfold uy; rw [if_neg (by rw [HMy.o]; exact Bool.false_ne_true)]
          have HN := hd hun
          clear hun hn
          obtain ⟨hn0, hn1⟩ := hnb
          by_cases hc : f ≤ n
          · go_wp2_with fail
            go_ret
            refine ⟨ret_int ?_, HW.o _ (hbw.trans (HBB.mono hbw.size))⟩
            have hv := HV.o
            have hun := HN.o
            by_cases hyt : yy = ty
            · subst hyt
              rw [hun, if_pos hc] at hv
              exact hv
            · have hyt1 : yy = ty + 1 := by omega
              subst hyt1
              rw [hun, if_neg (by have := hh.o.1 (by omega); omega), if_pos ⟨ht, hc⟩] at hv
              exact hv
          · go_wp2_with fail
            go_roundw
            case rel =>
              refine ⟨hbr.trans (HBB.mono hbr.size), yy + 1, rfl, by omega, by omega, hd ⟨fun h1 => ?_, fun h1 => ?_⟩⟩
              · by_cases hyt : yy = ty
                · subst hyt; rw [HN.o]; omega
                · exact hh.o.1 (by omega)
              · have hyt : yy = ty + 1 := by omega
                subst hyt; rw [HN.o]; omega
            case measure =>
              show (ty + 2 - (yy + 1)).toNat < (ty + 2 - yy).toNat
              omega
      · go_wp2_with fail
        go_ret
        refine ⟨ret_int ?_, HW.o _ hbw⟩
        have hv := HV.o
        rw [if_neg (by have := hh.o.1 (by omega); omega), if_neg (by have := hh.o.2 (by omega); omega)] at hv
        exact hv
    · go_wp2_with fail
      go_ret
      refine ⟨ret_int ?_, HW.o _ hbw⟩
      have hv := HV.o
      rw [if_neg (by have := hh.o.1 (by omega); omega), if_neg (fun hx => by have := hh.o.2 (by omega); omega)] at hv
      exact hv

theorem until_calls (y m d ty tm td : Int) (w : World) : Calls Tryd.prog 21 #[.agg #[.int .i64 y, .int .i64 m, .int .i64 d], .agg #[.int .i64 ty, .int .i64 tm, .int .i64 td]] w fun e w' => e = .returned (.int .i64 (untilV y m d ty tm td)) ∧ Below w.heap.size w w' := by
  by_cases hm : mayB y m d = true
  · by_cases hm2 : mayB ty tm td = true
    · by_cases hy : ty = 0
      · subst hy
        rw [show untilV y m d 0 tm td = -1 by unfold untilV; rw [if_neg (by simp)]]
        exact until_no3 y m d tm td w hm hm2
      · exact until_yes y m d ty tm td w hm hm2 hy
    · rw [show untilV y m d ty tm td = -1 by unfold untilV; rw [if_neg (fun h => hm2 h.2.1)]]
      exact until_no2 y m d ty tm td w hm (by simpa using hm2)
  · rw [show untilV y m d ty tm td = -1 by unfold untilV; rw [if_neg (fun h => hm h.1)]]
    exact until_no1 y m d ty tm td w (by simpa using hm)

end Go.Proofs.YtdnmeffglpmlaaaDoor
