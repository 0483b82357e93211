/-
  The program's local parts.
-/
import Derived.Test.YtpejlcaoggedfaaGreatDoorMailC
set_option linter.unusedVariables false
set_option linter.unusedSimpArgs false
namespace Go.Proofs.YtpejlcaoggedfaaGreatDoor
open Go.RowKit

theorem contains_calls (s : ByteArray) (hs : s.size ≤ 1000000000) (w : World) (ht : Tbl w) : Calls Tryz.prog 134 #[.string s, .string ⟨#[46, 46]⟩] w fun e w' => e = .returned (.bool (Lib.contains s.data.toList [46, 46])) ∧ w = w' := by
  obtain ⟨m, hm⟩ := ht.2
  exact (Any.strings_Contains { laysM144 with } s ⟨#[46, 46]⟩ m w (by omega) hm).mono fun _ _ ⟨a, b⟩ => ⟨a, b.symm⟩

set_option maxHeartbeats 4000000 in
theorem isLocal_calls (s : ByteArray) (hs : s.size ≤ 1000000000) (w : World) (ht : Tbl w) : Calls Tryz.prog 122 #[.string s] w fun e w' => e = .returned (.bool (locB s.data.toList)) ∧ w = w' := by
  have hl : s.data.toList.length = s.size := by simp
  obtain ⟨v, hv⟩ : ∃ v, locB s.data.toList = v := ⟨_, rfl⟩
  rw [hv]
  have HF := hd (fun h => hv.symm.trans (locB_f h) : ¬ LocP s.data.toList → v = false)
  have HT := hd (fun h => hv.symm.trans (locB_t h) : LocP s.data.toList → v = true)
  clear hv
  have HL := hd hl
  clear hl
  by_cases c1 : s.size < 1
  · go_enter Tryz.func122, Tryz.ntmps122
    go_wp2
    go_ret
    exact ⟨retB (HF.o (fun h => by have := h.1; rw [HL.o] at this; omega)).symm, rfl⟩
  by_cases c2 : 32 < s.size
  · go_enter Tryz.func122, Tryz.ntmps122
    go_wp2
    go_ret
    exact ⟨retB (HF.o (fun h => by have := h.2.1; rw [HL.o] at this; omega)).symm, rfl⟩
  have c3 : 0 < s.size := by omega
  have c4 : s.size - 1 < s.size := by omega
  have B0 := hd (bt_self s 0 c3)
  have B1 := hd (bt_self s (s.size - 1) c4)
  by_cases c5 : s[0].toNat = 46
  · have n5 : ((s[0].toNat : Int) == 46) = true := by simp; omega
    have H5 := hd c5
    clear c5
    go_enter Tryz.func122, Tryz.ntmps122
    go_wp2
    go_ret
    exact ⟨retB (HF.o (fun h => h.2.2.1 (B0.o.trans H5.o))).symm, rfl⟩
  have n5 : ((s[0].toNat : Int) == 46) = false := by simp; omega
  by_cases c6 : s[s.size - 1].toNat = 46
  · have n6 : ((s[s.size - 1].toNat : Int) == 46) = true := by simp; omega
    have H6 := hd c6
    clear c6 c5
    go_enter Tryz.func122, Tryz.ntmps122
    go_wp2
    go_ret
    exact ⟨retB (HF.o (fun h => h.2.2.2.1 (by rw [HL.o]; exact B1.o.trans H6.o))).symm, rfl⟩
  have n6 : ((s[s.size - 1].toNat : Int) == 46) = false := by simp; omega
  have H5 := hd c5
  have H6 := hd c6
  clear c5 c6
  have hcall := contains_calls s hs w ht
  by_cases c7 : dd s.data.toList
  · rw [(contains_dd _).2 c7] at hcall
    have HV := hd (HF.o (fun h => h.2.2.2.2.1 c7))
    have HC := hd hcall
    clear hcall c7
    go_enter Tryz.func122, Tryz.ntmps122
    go_wp2_with (go_at_call 134; refine HC.o.mono ?_; rintro e w' ⟨rfl, rfl⟩)
    go_ret
    exact ⟨retB HV.o.symm, rfl⟩
  · rw [show Lib.contains s.data.toList [46, 46] = false by
      cases hx : Lib.contains s.data.toList [46, 46] with
      | false => rfl
      | true => exact absurd ((contains_dd _).1 hx) c7] at hcall
    have H7 := hd c7
    have HC := hd hcall
    clear hcall c7
    go_enter Tryz.func122, Tryz.ntmps122
    go_wp2_with (go_at_call 134; refine HC.o.mono ?_; rintro e w' ⟨rfl, rfl⟩)
    go_loop [33] (fun i => ∃ k : Nat, i = .int .i64 k ∧ k ≤ s.size ∧ Hd (∀ j, j < k → locC (bt s.data.toList j))) (fun i => s.size - (intOf i).toNat)
    case atStart => exact ⟨0, rfl, Nat.zero_le _, fun j hj => absurd hj (Nat.not_lt_zero _)⟩
    case round =>
      obtain ⟨k, rfl, hk, hh⟩ := hrel
      by_cases hlt : k < s.size
      · have BK := hd (bt_self s k hlt)
        by_cases hc : locC s[k].toNat
        · have HN : Hd (∀ j, j < k + 1 → locC (bt s.data.toList j)) := fun j hj => by
            by_cases e : j = k
            · subst e; rw [BK.o]; exact hc
            · exact hh.o j (by omega)
          unfold locC at hc
          go_wp2
          all_goals first
            | (exfalso; omega)
            | (exfalso; simp only [bne_iff_ne, ne_eq, beq_iff_eq, bne_eq_false_iff_eq, beq_eq_false_iff_ne, bne_self_eq_false, Bool.false_eq_true, Bool.not_eq_false', Bool.not_eq_true', decide_eq_true_eq, decide_eq_false_iff_not] at *; omega)
            | (go_round
               case rel => exact ⟨k + 1, by go_num, by omega, HN⟩
               case measure => simp [intOf]; omega)
        · have HV := hd (HF.o (fun h => hc (by rw [← BK.o]; exact h.2.2.2.2.2 k (by rw [HL.o]; exact hlt))))
          unfold locC at hc
          have m46 : ((s[k].toNat : Int) != 46) = true := by simp; omega
          have m95 : ((s[k].toNat : Int) != 95) = true := by simp; omega
          have m43 : ((s[k].toNat : Int) != 43) = true := by simp; omega
          have m45 : ((s[k].toNat : Int) != 45) = true := by simp; omega
          go_wp2
          all_goals first
            | (exfalso; omega)
            | (exfalso; simp only [bne_iff_ne, ne_eq, beq_iff_eq, bne_eq_false_iff_eq, beq_eq_false_iff_ne, bne_self_eq_false, Bool.false_eq_true, Bool.not_eq_false', Bool.not_eq_true', decide_eq_true_eq, decide_eq_false_iff_not] at *; omega)
            | (go_ret; exact ⟨retB HV.o.symm, rfl⟩)
      · have : k = s.size := by omega
        subst this
        go_wp2
        go_ret
        exact ⟨retB (HT.o ⟨by rw [HL.o]; omega, by rw [HL.o]; omega, by rw [B0.o]; exact H5.o, by rw [HL.o, B1.o]; exact H6.o, H7.o, fun i hi => hh.o i (by rw [HL.o] at hi; exact hi)⟩).symm, rfl⟩

end Go.Proofs.YtpejlcaoggedfaaGreatDoor
