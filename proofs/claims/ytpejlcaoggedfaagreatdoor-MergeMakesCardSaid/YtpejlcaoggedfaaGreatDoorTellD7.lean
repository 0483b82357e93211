/-
  The reference's days: the date of a text of so many signs.
-/
import Derived.Test.YtpejlcaoggedfaaGreatDoorTellD
set_option linter.unusedVariables false
set_option linter.unusedSimpArgs false
namespace Go.Proofs.YtpejlcaoggedfaaGreatDoor
open Go.RowKit Go.Sort

set_option maxRecDepth 100000 in
set_option maxHeartbeats 2000000 in
theorem rparse_7 (s : ByteArray) (hz : s.size = 7) (y m d : Int) (hp : pdF 7 0 s.data.toList (0, 0, 0) = (y, m, d)) (w : World) : Calls Tryz.prog 66 #[.string s] w fun e w' => ∃ v, e = .returned v ∧ Ans s y m d v ∧ Below w.heap.size w w' := by
  have HP := hd hp
  clear hp
  have HZ := hd hz
  have HC := hd (fun W => two_cells w W 62 #[.int .i64 0, .int .i64 0, .int .i64 0] #[.int .i64 0, .int .i64 0, .int .i64 0])
  have HW := hd (fun W => two_below w W (.cells #[.int .i64 0, .int .i64 0, .int .i64 0] 62) (.cells #[.int .i64 0, .int .i64 0, .int .i64 0] 62))
  go_enter Tryz.func66, Tryz.ntmps66
  go_wp2_with fail
  obtain ⟨wo, hwo⟩ : ∃ W, W = (w.alloc (.cells #[.int .i64 0, .int .i64 0, .int .i64 0] 62)).alloc (.cells #[.int .i64 0, .int .i64 0, .int .i64 0] 62) := ⟨_, rfl⟩
  rw [← hwo]
  have kk : Blk wo w.heap.size 62 #[.int .i64 0, .int .i64 0, .int .i64 0] ∧ Blk wo (w.heap.size + 1) 62 #[.int .i64 0, .int .i64 0, .int .i64 0] := by rw [hwo]; exact HC.o _ (Below.refl _ _)
  have hbo : Below w.heap.size w wo := by rw [hwo]; exact HW.o _ (Below.refl _ _)
  have KK := hd kk
  have HBO := hd hbo
  clear hwo kk hbo
  go_loopw [5] (fun a wr => Below w.heap.size w wr ∧ Blk wr w.heap.size 62 #[.int .i64 0, .int .i64 0, .int .i64 0] ∧ ∃ k : Nat, a = .int .i64 k ∧ k ≤ 7 ∧ ∃ x1 x2 x3 : Int, Blk wr (w.heap.size + 1) 62 #[.int .i64 x1, .int .i64 x2, .int .i64 x3] ∧ 0 ≤ x1 ∧ x1 < 10 ^ k ∧ 0 ≤ x2 ∧ x2 < 10 ^ k ∧ 0 ≤ x3 ∧ x3 < 10 ^ k ∧ Hd (pdF 7 k (s.data.toList.drop k) (x1, x2, x3) = (y, m, d))) (fun a _ => 7 - (intOf a).toNat)
  case atStart => exact ⟨HBO.o, KK.o.1, 0, rfl, by omega, 0, 0, 0, KK.o.2, by omega, by simp, by omega, by simp, by omega, by simp, HP⟩
  case round =>
    obtain ⟨hbr, k1, k, rfl, hk, x1, x2, x3, k2, b1, b2, b3, b4, b5, b6, hh⟩ := hrel
    have a0 := k2.at_ 0 rfl
    have a1 := k2.at_ 1 rfl
    have a2 := k2.at_ 2 rfl
    have f0 := k2.frozen 0
    have f1 := k2.frozen 1
    have f2 := k2.frozen 2
    have r0 := k1.at_ 0 rfl
    have r1 := k1.at_ 1 rfl
    have r2 := k1.at_ 2 rfl
    have g0 := k1.frozen 0
    have g1 := k1.frozen 1
    have g2 := k1.frozen 2
    have hl := k2.lt
    have hl1 := k1.lt
    by_cases hlt : k < 7
    · have hp : (10:Int) ^ k ≤ 10 ^ 9 := by exact_mod_cast Nat.pow_le_pow_right (by omega : 0 < 10) (by omega : k ≤ 9)
      have hps : (10:Int) ^ (k + 1) = 10 * 10 ^ k := by rw [Int.pow_succ]; omega
      obtain ⟨p, hpp⟩ : ∃ p : Int, p = 10 ^ k := ⟨_, rfl⟩
      rw [← hpp] at b2 b4 b6 hp hps
      have HPS := hd hps
      clear hps hpp
      have hls : k < s.size := by omega
      have hx := pdF_at s k hls (x1, x2, x3) (y, m, d) (by rw [HZ.o]; exact hh.o)
      rw [HZ.o] at hx
      have HX := hd hx
      clear hx
      have hc0 : (0 : Int) ≤ s[k].toNat := by omega
      have hc1 : (s[k].toNat : Int) < 256 := by have := UInt8.toNat_lt s[k]; omega
      by_cases hA : (s[k].toNat : Int) < 48
      · go_wp2_with fail
        go_roundw
        case rel =>
          refine ⟨hbr, k1, k + 1, by simp, by omega, x1, x2, x3, k2, by omega, by rw [HPS.o]; omega, by omega, by rw [HPS.o]; omega, by omega, by rw [HPS.o]; omega, ?_⟩
          have e : stp 7 k s[k].toNat (x1, x2, x3) = (x1, x2, x3) := by unfold stp; rw [if_pos (by omega)]
          have := HX.o
          rw [e] at this
          exact hd this
        case measure =>
          show 7 - ((k : Int) + 1).toNat < 7 - (k : Int).toNat
          omega
      · by_cases hB : (57 : Int) < s[k].toNat
        · go_wp2_with fail
          go_roundw
          case rel =>
            refine ⟨hbr, k1, k + 1, by simp, by omega, x1, x2, x3, k2, by omega, by rw [HPS.o]; omega, by omega, by rw [HPS.o]; omega, by omega, by rw [HPS.o]; omega, ?_⟩
            have e : stp 7 k s[k].toNat (x1, x2, x3) = (x1, x2, x3) := by unfold stp; rw [if_pos (by omega)]
            have := HX.o
            rw [e] at this
            exact hd this
          case measure =>
            show 7 - ((k : Int) + 1).toNat < 7 - (k : Int).toNat
            omega
        · by_cases q1 : k < 1
          · go_wp2_with fail
            go_roundw
            case rel =>
              refine ⟨hbr.setCell (by show _ ≤ w.heap.size + 1; omega) _, k1.far (by show ¬ w.heap.size = w.heap.size + 1; omega) _, k + 1, by simp, by omega, 10 * x1 + ((s[k].toNat : Int) - 48), x2, x3, k2.set_ 0 _, by omega, by rw [HPS.o]; omega, by omega, by rw [HPS.o]; omega, by omega, by rw [HPS.o]; omega, ?_⟩
              have e : stp 7 k s[k].toNat (x1, x2, x3) = (10 * x1 + ((s[k].toNat : Int) - 48), x2, x3) := by unfold stp; rw [if_neg (by omega), if_pos (by omega)]
              have := HX.o
              rw [e] at this
              exact hd this
            case measure =>
              show 7 - ((k : Int) + 1).toNat < 7 - (k : Int).toNat
              omega
          · by_cases q2 : k = 2
            · have n1 : ((k : Int) == 2) = true := by simp; omega
              have q2a : k ≤ 2 := by omega
              have q2b : 2 ≤ k := by omega
              clear q2
              go_wp2_with fail
              go_roundw
              case rel =>
                refine ⟨hbr.setCell (by show _ ≤ w.heap.size + 1; omega) _, k1.far (by show ¬ w.heap.size = w.heap.size + 1; omega) _, k + 1, by simp, by omega, x1, 10 * x2 + ((s[k].toNat : Int) - 48), x3, k2.set_ 1 _, by omega, by rw [HPS.o]; omega, by omega, by rw [HPS.o]; omega, by omega, by rw [HPS.o]; omega, ?_⟩
                have e : stp 7 k s[k].toNat (x1, x2, x3) = (x1, 10 * x2 + ((s[k].toNat : Int) - 48), x3) := by unfold stp; rw [if_neg (by omega), if_neg (by omega), if_pos (by omega)]
                have := HX.o
                rw [e] at this
                exact hd this
              case measure =>
                show 7 - ((k : Int) + 1).toNat < 7 - (k : Int).toNat
                omega
            · have n1 : ((k : Int) == 2) = false := by simp; omega
              by_cases q3 : k = 3
              · have n2 : ((k : Int) == 3) = true := by simp; omega
                have q2a : k ≤ 3 := by omega
                have q2b : 3 ≤ k := by omega
                clear q3
                go_wp2_with fail
                go_roundw
                case rel =>
                  refine ⟨hbr.setCell (by show _ ≤ w.heap.size + 1; omega) _, k1.far (by show ¬ w.heap.size = w.heap.size + 1; omega) _, k + 1, by simp, by omega, x1, 10 * x2 + ((s[k].toNat : Int) - 48), x3, k2.set_ 1 _, by omega, by rw [HPS.o]; omega, by omega, by rw [HPS.o]; omega, by omega, by rw [HPS.o]; omega, ?_⟩
                  have e : stp 7 k s[k].toNat (x1, x2, x3) = (x1, 10 * x2 + ((s[k].toNat : Int) - 48), x3) := by unfold stp; rw [if_neg (by omega), if_neg (by omega), if_pos (by omega)]
                  have := HX.o
                  rw [e] at this
                  exact hd this
                case measure =>
                  show 7 - ((k : Int) + 1).toNat < 7 - (k : Int).toNat
                  omega
              · have n2 : ((k : Int) == 3) = false := by simp; omega
                by_cases q4 : 5 ≤ k
                · go_wp2_with fail
                  go_roundw
                  case rel =>
                    refine ⟨hbr.setCell (by show _ ≤ w.heap.size + 1; omega) _, k1.far (by show ¬ w.heap.size = w.heap.size + 1; omega) _, k + 1, by simp, by omega, x1, x2, 10 * x3 + ((s[k].toNat : Int) - 48), k2.set_ 2 _, by omega, by rw [HPS.o]; omega, by omega, by rw [HPS.o]; omega, by omega, by rw [HPS.o]; omega, ?_⟩
                    have e : stp 7 k s[k].toNat (x1, x2, x3) = (x1, x2, 10 * x3 + ((s[k].toNat : Int) - 48)) := by unfold stp; rw [if_neg (by omega), if_neg (by omega), if_neg (by omega), if_pos (by omega)]
                    have := HX.o
                    rw [e] at this
                    exact hd this
                  case measure =>
                    show 7 - ((k : Int) + 1).toNat < 7 - (k : Int).toNat
                    omega
                · go_wp2_with fail
                  go_roundw
                  case rel =>
                    refine ⟨hbr, k1, k + 1, by simp, by omega, x1, x2, x3, k2, by omega, by rw [HPS.o]; omega, by omega, by rw [HPS.o]; omega, by omega, by rw [HPS.o]; omega, ?_⟩
                    have e : stp 7 k s[k].toNat (x1, x2, x3) = (x1, x2, x3) := by unfold stp; rw [if_neg (by omega), if_neg (by omega), if_neg (by omega), if_neg (by omega)]
                    have := HX.o
                    rw [e] at this
                    exact hd this
                  case measure =>
                    show 7 - ((k : Int) + 1).toNat < 7 - (k : Int).toNat
                    omega
    · have hke : k = 7 := by omega
      subst hke
      have hfin := hh.o
      rw [show List.drop 7 s.data.toList = [] from by have := drop_all s; rwa [HZ.o] at this, pdF] at hfin
      simp only [Prod.mk.injEq] at hfin
      obtain ⟨rfl, rfl, rfl⟩ := hfin
      clear b1 b2 b3 b4 b5 b6
      go_wp2_with fail
      refine (rshow_calls x1 x2 x3 wr).mono ?_
      rintro e w2 ⟨rfl, hb2⟩
      have hbw := hbr.trans (hb2.mono hbr.size)
      have k3 := k1.below hb2 hl1
      have k4 := k2.below hb2 hl
      clear a0 a1 a2 f0 f1 f2 r0 r1 r2 g0 g1 g2 hl hl1 k1 k2
      have a0 := k4.at_ 0 rfl
      have a1 := k4.at_ 1 rfl
      have a2 := k4.at_ 2 rfl
      have r0 := k3.at_ 0 rfl
      have r1 := k3.at_ 1 rfl
      have r2 := k3.at_ 2 rfl
      have g0 := k3.frozen 0
      have g1 := k3.frozen 1
      have g2 := k3.frozen 2
      have hl := k4.lt
      have hl1 := k3.lt
      have K1 := hd k3
      clear k3 k4
      by_cases hq : showL x1 x2 x3 = s.data.toList
      · have hm : mayB x1 x2 x3 = true := by
          rcases Bool.eq_false_or_eq_true (mayB x1 x2 x3) with h | h
          · exact h
          · exfalso
            unfold showL at hq
            rw [if_neg (by simp [h])] at hq
            have := congrArg List.length hq
            simp [HZ.o] at this
        have HQ := hd hq
        have HM := hd hm
        clear hq hm
        rw [bs_eq _ _ HQ.o]
        go_wp2
        (try simp only [Exit.inBlock, Exit.then])
        refine bodyPost_ret (res_cell_tmp rfl _ _ _ _ _ _ _ rfl (((K1.o.set_ 0 _).set_ 1 _).set_ 2 _) rfl rfl rfl) rfl ⟨_, rfl, ?_, ?_⟩
        · exact .inl ⟨HM.o, HQ.o, rfl⟩
        · exact (((hbw.setCell (Nat.le_refl _) _).setCell (Nat.le_refl _) _).setCell (Nat.le_refl _) _)
      · have hne := str_ne _ s hq
        have HQ := hd hq
        clear hq
        go_wp2
        (try simp only [Exit.inBlock, Exit.then])
        refine bodyPost_ret (res_cell_tmp rfl _ _ _ _ _ _ _ rfl (((K1.o.set_ 0 _).set_ 1 _).set_ 2 _) rfl rfl rfl) rfl ⟨_, rfl, ?_, ?_⟩
        · exact .inr ⟨fun h => HQ.o h.2, rfl⟩
        · exact (((hbw.setCell (Nat.le_refl _) _).setCell (Nat.le_refl _) _).setCell (Nat.le_refl _) _)

end Go.Proofs.YtpejlcaoggedfaaGreatDoor
