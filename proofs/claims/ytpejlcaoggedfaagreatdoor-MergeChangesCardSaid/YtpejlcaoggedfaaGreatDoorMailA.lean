/-
  Mail: classes of signs, local parts, labels.
-/
import Derived.Test.YtpejlcaoggedfaaGreatDoorTxtB
import Derived.Test.YtpejlcaoggedfaaGreatDoorProg
import Derived.BigQuiet
import Derived.Deep.QuietTactic
import Derived.WalkLawsBesides
set_option linter.unusedVariables false
set_option linter.unusedSimpArgs false
namespace Go.Proofs.YtpejlcaoggedfaaGreatDoor
open Go.RowKit

theorem retB {a b : Bool} (h : a = b) : Ending.returned (.bool a) = .returned (.bool b) := by rw [h]
theorem low_calls (c : Int) (w : World) : Calls Tryz.prog 137 #[.int .u8 c] w fun e w' => e = .returned (.bool (decide (97 ≤ c) && decide (c ≤ 122))) ∧ w = w' := by
  go_enter Tryz.func137, Tryz.ntmps137
  go_wp2
  all_goals (go_ret; exact ⟨retB (by simp [*] <;> omega), rfl⟩)
theorem up_calls (c : Int) (w : World) : Calls Tryz.prog 113 #[.int .u8 c] w fun e w' => e = .returned (.bool (decide (65 ≤ c) && decide (c ≤ 90))) ∧ w = w' := by
  go_enter Tryz.func113, Tryz.ntmps113
  go_wp2
  all_goals (go_ret; exact ⟨retB (by simp [*] <;> omega), rfl⟩)
theorem digit_calls (c : Int) (w : World) : Calls Tryz.prog 112 #[.int .u8 c] w fun e w' => e = .returned (.bool (decide (48 ≤ c) && decide (c ≤ 57))) ∧ w = w' := by
  go_enter Tryz.func112, Tryz.ntmps112
  go_wp2
  all_goals (go_ret; exact ⟨retB (by simp [*] <;> omega), rfl⟩)


set_option maxHeartbeats 2000000 in
theorem isLabel_calls (s : ByteArray) (hs : s.size ≤ 1000000000) (w : World) : Calls Tryz.prog 124 #[.string s] w fun e w' => e = .returned (.bool (labB s.data.toList)) ∧ w = w' := by
  have hl : s.data.toList.length = s.size := by simp
  obtain ⟨v, hv⟩ : ∃ v, labB s.data.toList = v := ⟨_, rfl⟩
  rw [hv]
  have HF := hd (fun h => hv.symm.trans (labB_f h) : ¬ LabP s.data.toList → v = false)
  have HT := hd (fun h => hv.symm.trans (labB_t h) : LabP s.data.toList → v = true)
  clear hv
  have HL := hd hl
  clear hl
  by_cases c1 : s.size < 1
  · go_enter Tryz.func124, Tryz.ntmps124
    go_wp2
    go_ret
    exact ⟨retB (HF.o (fun h => by have := h.1; rw [HL.o] at this; omega)).symm, rfl⟩
  by_cases c2 : 20 < s.size
  · go_enter Tryz.func124, Tryz.ntmps124
    go_wp2
    go_ret
    exact ⟨retB (HF.o (fun h => by have := h.2.1; rw [HL.o] at this; omega)).symm, rfl⟩
  have c3 : 0 < s.size := by omega
  have c4 : s.size - 1 < s.size := by omega
  have B0 := hd (bt_self s 0 c3)
  have B1 := hd (bt_self s (s.size - 1) c4)
  by_cases c5 : s[0].toNat = 45
  · have n5 : ((s[0].toNat : Int) == 45) = true := by simp; omega
    have H5 := hd c5
    clear c5
    go_enter Tryz.func124, Tryz.ntmps124
    go_wp2
    go_ret
    exact ⟨retB (HF.o (fun h => h.2.2.1 (B0.o.trans H5.o))).symm, rfl⟩
  have n5 : ((s[0].toNat : Int) == 45) = false := by simp; omega
  by_cases c6 : s[s.size - 1].toNat = 45
  · have n6 : ((s[s.size - 1].toNat : Int) == 45) = true := by simp; omega
    have H6 := hd c6
    clear c6 c5
    go_enter Tryz.func124, Tryz.ntmps124
    go_wp2
    go_ret
    exact ⟨retB (HF.o (fun h => h.2.2.2.1 (by rw [HL.o]; exact B1.o.trans H6.o))).symm, rfl⟩
  have n6 : ((s[s.size - 1].toNat : Int) == 45) = false := by simp; omega
  have H5 := hd c5
  have H6 := hd c6
  clear c5 c6
  go_enter Tryz.func124, Tryz.ntmps124
  go_wp2
  go_loop [28] (fun i => ∃ k : Nat, i = .int .i64 k ∧ k ≤ s.size ∧ Hd (∀ j, j < k → labC (bt s.data.toList j))) (fun i => s.size - (intOf i).toNat)
  case atStart => exact ⟨0, rfl, Nat.zero_le _, fun j hj => absurd hj (Nat.not_lt_zero _)⟩
  case round =>
    obtain ⟨k, rfl, hk, hh⟩ := hrel
    by_cases hlt : k < s.size
    · have BK := hd (bt_self s k hlt)
      by_cases hc : labC s[k].toNat
      · have HN : Hd (∀ j, j < k + 1 → labC (bt s.data.toList j)) := fun j hj => by
          by_cases e : j = k
          · subst e; rw [BK.o]; exact hc
          · exact hh.o j (by omega)
        unfold labC at hc
        go_wp2
        all_goals
          go_round
          case rel => exact ⟨k + 1, by go_num, by omega, HN⟩
          case measure => simp [intOf]; omega
      · have HV := hd (HF.o (fun h => hc (by rw [← BK.o]; exact h.2.2.2.2 k (by rw [HL.o]; exact hlt))))
        unfold labC at hc
        have n45 : ((s[k].toNat : Int) != 45) = true := by simp; omega
        go_wp2
        all_goals first
          | (exfalso; omega)
          | (exfalso; simp only [bne_iff_ne, ne_eq, beq_iff_eq, bne_eq_false_iff_eq, beq_eq_false_iff_ne, bne_self_eq_false, Bool.false_eq_true] at *; omega)
          | (go_ret; exact ⟨retB HV.o.symm, rfl⟩)
    · have : k = s.size := by omega
      subst this
      go_wp2
      go_ret
      exact ⟨retB (HT.o ⟨by rw [HL.o]; omega, by rw [HL.o]; omega, by rw [B0.o]; exact H5.o, by rw [HL.o, B1.o]; exact H6.o, fun i hi => hh.o i (by rw [HL.o] at hi; exact hi)⟩).symm, rfl⟩

set_option maxHeartbeats 2000000 in
theorem rlocal_calls (s : ByteArray) (hs : s.size ≤ 1000000000) (w : World) : Calls Tryz.prog 128 #[.string s] w fun e w' => e = .returned (.bool (locB s.data.toList)) ∧ w = w' := by
  have hl : s.data.toList.length = s.size := by simp
  obtain ⟨v, hv⟩ : ∃ v, locB s.data.toList = v := ⟨_, rfl⟩
  rw [hv]
  have HF := hd (fun h => hv.symm.trans (locB_f h) : ¬ LocP s.data.toList → v = false)
  have HT := hd (fun h => hv.symm.trans (locB_t h) : LocP s.data.toList → v = true)
  clear hv
  have HL := hd hl
  clear hl
  by_cases c1 : s.size < 1
  · go_enter Tryz.func128, Tryz.ntmps128
    go_wp2
    go_ret
    exact ⟨retB (HF.o (fun h => by have := h.1; rw [HL.o] at this; omega)).symm, rfl⟩
  by_cases c2 : 32 < s.size
  · go_enter Tryz.func128, Tryz.ntmps128
    go_wp2
    go_ret
    exact ⟨retB (HF.o (fun h => by have := h.2.1; rw [HL.o] at this; omega)).symm, rfl⟩
  have c3 : 0 < s.size := by omega
  have c4 : s.size - 1 < s.size := by omega
  have B0 := hd (bt_self s 0 c3)
  have B1 := hd (bt_self s (s.size - 1) c4)
  by_cases c5 : s[0].toNat = 46
  · have n5 : ((s[0].toNat : Int) == 46) = true := by simp; omega
    have H5 := hd c5
    clear c5
    go_enter Tryz.func128, Tryz.ntmps128
    go_wp2
    go_ret
    exact ⟨retB (HF.o (fun h => h.2.2.1 (B0.o.trans H5.o))).symm, rfl⟩
  have n5 : ((s[0].toNat : Int) == 46) = false := by simp; omega
  by_cases c6 : s[s.size - 1].toNat = 46
  · have n6 : ((s[s.size - 1].toNat : Int) == 46) = true := by simp; omega
    have H6 := hd c6
    clear c6 c5
    go_enter Tryz.func128, Tryz.ntmps128
    go_wp2
    go_ret
    exact ⟨retB (HF.o (fun h => h.2.2.2.1 (by rw [HL.o]; exact B1.o.trans H6.o))).symm, rfl⟩
  have n6 : ((s[s.size - 1].toNat : Int) == 46) = false := by simp; omega
  have H5 := hd c5
  have H6 := hd c6
  clear c5 c6
  go_enter Tryz.func128, Tryz.ntmps128
  go_wp2
  go_loop [3] (fun i => ∃ k : Nat, i = .int .i64 k ∧ k ≤ s.size ∧ Hd ((∀ j, j < k → locC (bt s.data.toList j)) ∧ ∀ j, j + 1 < k → ¬ (bt s.data.toList j = 46 ∧ bt s.data.toList (j + 1) = 46))) (fun i => s.size - (intOf i).toNat)
  case atStart => exact ⟨0, rfl, Nat.zero_le _, fun j hj => absurd hj (Nat.not_lt_zero _), fun j hj => absurd hj (Nat.not_lt_zero _)⟩
  case round =>
    obtain ⟨k, rfl, hk, hh⟩ := hrel
    by_cases hlt : k < s.size
    · have BK := hd (bt_self s k hlt)
      have hlt0 : (0 : Int) ≤ (k : Int) := by omega
      by_cases hc : locC s[k].toNat
      · by_cases hd46 : s[k].toNat = 46
        · have n7 : ((s[k].toNat : Int) == 46) = true := by simp; omega
          have n8 : ((s[k].toNat : Int) != 46) = false := by simp; omega
          have hk1 : 1 ≤ k := by
            rcases Nat.eq_zero_or_pos k with rfl | h
            · exact absurd hd46 H5.o
            · exact h
          have hlt1 : k - 1 < s.size := by omega
          have BK1 := hd (bt_self s (k - 1) hlt1)
          have hki : (k : Int) - 1 = ((k - 1 : Nat) : Int) := by omega
          by_cases hp : s[k - 1].toNat = 46
          · have n9 : ((s[k - 1].toNat : Int) == 46) = true := by simp; omega
            have HV := hd (HF.o (fun h => h.2.2.2.2.1 ⟨k - 1, by rw [HL.o]; omega, BK1.o.trans hp, by rw [show k - 1 + 1 = k by omega]; exact BK.o.trans hd46⟩))
            clear hd46 hp hc
            go_wp2_with (first | (go_at_call 137; refine (low_calls _ _).mono ?_; rintro e w' ⟨rfl, rfl⟩) | (go_at_call 113; refine (up_calls _ _).mono ?_; rintro e w' ⟨rfl, rfl⟩) | (go_at_call 112; refine (digit_calls _ _).mono ?_; rintro e w' ⟨rfl, rfl⟩))
            all_goals first
              | (exfalso; omega)
              | (exfalso; simp only [bne_iff_ne, ne_eq, beq_iff_eq, bne_eq_false_iff_eq, beq_eq_false_iff_ne, bne_self_eq_false, Bool.false_eq_true] at *; omega)
              | (go_ret; exact ⟨retB HV.o.symm, rfl⟩)
          · have n9 : ((s[k - 1].toNat : Int) == 46) = false := by simp; omega
            have HN : Hd ((∀ j, j < k + 1 → locC (bt s.data.toList j)) ∧ ∀ j, j + 1 < k + 1 → ¬ (bt s.data.toList j = 46 ∧ bt s.data.toList (j + 1) = 46)) := by
              refine ⟨fun j hj => ?_, fun j hj hx => ?_⟩
              · by_cases e : j = k
                · subst e; rw [BK.o]; exact hc
                · exact hh.o.1 j (by omega)
              · by_cases e : j + 1 = k
                · obtain rfl : j = k - 1 := by omega
                  exact hp (BK1.o.symm.trans hx.1)
                · exact hh.o.2 j (by omega) hx
            clear hd46 hp hc
            go_wp2_with (first | (go_at_call 137; refine (low_calls _ _).mono ?_; rintro e w' ⟨rfl, rfl⟩) | (go_at_call 113; refine (up_calls _ _).mono ?_; rintro e w' ⟨rfl, rfl⟩) | (go_at_call 112; refine (digit_calls _ _).mono ?_; rintro e w' ⟨rfl, rfl⟩))
            all_goals first
              | (exfalso; omega)
              | (exfalso; simp only [bne_iff_ne, ne_eq, beq_iff_eq, bne_eq_false_iff_eq, beq_eq_false_iff_ne, bne_self_eq_false, Bool.false_eq_true] at *; omega)
              | (go_round
                 case rel => exact ⟨k + 1, by go_num, by omega, HN⟩
                 case measure => simp [intOf]; omega)
        · have n7 : ((s[k].toNat : Int) == 46) = false := by simp; omega
          have n8 : ((s[k].toNat : Int) != 46) = true := by simp; omega
          have HN : Hd ((∀ j, j < k + 1 → locC (bt s.data.toList j)) ∧ ∀ j, j + 1 < k + 1 → ¬ (bt s.data.toList j = 46 ∧ bt s.data.toList (j + 1) = 46)) := by
            refine ⟨fun j hj => ?_, fun j hj hx => ?_⟩
            · by_cases e : j = k
              · subst e; rw [BK.o]; exact hc
              · exact hh.o.1 j (by omega)
            · by_cases e : j + 1 = k
              · subst e; exact hd46 (BK.o.symm.trans hx.2)
              · exact hh.o.2 j (by omega) hx
          unfold locC at hc
          go_wp2_with (first | (go_at_call 137; refine (low_calls _ _).mono ?_; rintro e w' ⟨rfl, rfl⟩) | (go_at_call 113; refine (up_calls _ _).mono ?_; rintro e w' ⟨rfl, rfl⟩) | (go_at_call 112; refine (digit_calls _ _).mono ?_; rintro e w' ⟨rfl, rfl⟩))
          all_goals first
            | (exfalso; omega)
            | (exfalso; simp only [bne_iff_ne, ne_eq, beq_iff_eq, bne_eq_false_iff_eq, beq_eq_false_iff_ne, bne_self_eq_false, Bool.false_eq_true] at *; omega)
            | (go_round
               case rel => exact ⟨k + 1, by go_num, by omega, HN⟩
               case measure => simp [intOf]; omega)
      · have HV := hd (HF.o (fun h => hc (by rw [← BK.o]; exact h.2.2.2.2.2 k (by rw [HL.o]; exact hlt))))
        unfold locC at hc
        have m46 : ((s[k].toNat : Int) != 46) = true := by simp; omega
        have m95 : ((s[k].toNat : Int) != 95) = true := by simp; omega
        have m43 : ((s[k].toNat : Int) != 43) = true := by simp; omega
        have m45 : ((s[k].toNat : Int) != 45) = true := by simp; omega
        go_wp2_with (first | (go_at_call 137; refine (low_calls _ _).mono ?_; rintro e w' ⟨rfl, rfl⟩) | (go_at_call 113; refine (up_calls _ _).mono ?_; rintro e w' ⟨rfl, rfl⟩) | (go_at_call 112; refine (digit_calls _ _).mono ?_; rintro e w' ⟨rfl, rfl⟩))
        all_goals first
          | (exfalso; omega)
          | (exfalso; simp only [bne_iff_ne, ne_eq, beq_iff_eq, bne_eq_false_iff_eq, beq_eq_false_iff_ne, bne_self_eq_false, Bool.false_eq_true] at *; omega)
          | (go_ret; exact ⟨retB HV.o.symm, rfl⟩)
    · have : k = s.size := by omega
      subst this
      go_wp2
      go_ret
      exact ⟨retB (HT.o ⟨by rw [HL.o]; omega, by rw [HL.o]; omega, by rw [B0.o]; exact H5.o, by rw [HL.o, B1.o]; exact H6.o, fun ⟨j, h1, h2, h3⟩ => hh.o.2 j (by rw [HL.o] at h1; exact h1) ⟨h2, h3⟩, fun i hi => hh.o.1 i (by rw [HL.o] at hi; exact hi)⟩).symm, rfl⟩

end Go.Proofs.YtpejlcaoggedfaaGreatDoor
