/-
  Telephone numbers: what is one, on both sides.
-/
import Derived.Test.YtpejlcaoggedfaaGreatDoorTelP
import Derived.Test.YtpejlcaoggedfaaGreatDoorLayTel
set_option linter.unusedVariables false
set_option linter.unusedSimpArgs false
namespace Go.Proofs.YtpejlcaoggedfaaGreatDoor
open Go.RowKit

theorem trim_calls (s : ByteArray) (w : World) : Calls Tryz.prog 121 #[.string s, .string ⟨#[43]⟩] w fun e w' => e = .returned (.string (bs (telR s.data.toList))) ∧ w = w' := by
  refine (Any.strings_TrimPrefix lays101 s ⟨#[43]⟩ w).mono ?_
  rintro e w' ⟨rfl, rfl⟩
  refine ⟨?_, rfl⟩
  congr 2
  show bs _ = bs _
  congr 1
  unfold Lib.trimPrefix telR
  generalize s.data.toList = l
  show (if Lib.hasPrefix l [43] then l.drop 1 else l) = _
  cases l with
  | nil => simp [Lib.hasPrefix]
  | cons b t =>
    by_cases hb : b = 43
    · subst hb
      rw [if_pos (by simp [Lib.hasPrefix]), if_pos ⟨by simp, by rw [bt_zero]; rfl⟩]
    · rw [if_neg (by simpa [Lib.hasPrefix] using fun e : 43 = b => hb e.symm), if_neg (fun h => hb (UInt8.toNat_inj.1 (by have := h.2; rw [bt_zero] at this; exact this)))]

def rowV (l : List UInt8) : List UInt8 × Bool → Prop := fun p => (TelP l ∧ p = (telR l, true)) ∨ (¬ TelP l ∧ p = ([], false))
structure RowE (l : List UInt8) (e : Ending) : Prop where
  o : ∃ p, rowV l p ∧ e = .returned (.tuple #[.string (bs p.1), .bool p.2])

set_option maxHeartbeats 1000000 in
theorem row_calls (s : ByteArray) (hs : s.size ≤ 1000000000) (w : World) : Calls Tryz.prog 100 #[.string s] w fun e w' => RowE s.data.toList e ∧ w = w' := by
  have C1 := hd (trim_calls s)
  obtain ⟨R, hR⟩ : ∃ R, telR s.data.toList = R := ⟨_, rfl⟩
  rw [hR] at C1
  have hz : (bs R).size = R.length := bs_size R
  have hle : R.length ≤ s.size := by
    have : s.data.toList.length = s.size := by simp
    rw [← hR, ← this]
    unfold telR
    split
    · rw [List.length_drop]; omega
    · exact Nat.le_refl _
  have HTel := hd (show TelP s.data.toList ↔ 3 ≤ R.length ∧ R.length ≤ 15 ∧ ∀ i, i < R.length → 48 ≤ bt R i ∧ bt R i ≤ 57 by unfold TelP; rw [hR])
  have HYES := hd (fun h : TelP s.data.toList => (⟨⟨_, .inl ⟨h, rfl⟩, by rw [hR]⟩⟩ : RowE s.data.toList (Ending.returned (.tuple #[.string (bs R), .bool true]))))
  have HNO := hd (fun h : ¬ TelP s.data.toList => (⟨⟨_, .inr ⟨h, rfl⟩, rfl⟩⟩ : RowE s.data.toList (Ending.returned (.tuple #[.string (bs []), .bool false]))))
  clear hR
  have HZ := hd hz
  clear hz
  by_cases c1 : (bs R).size < 3
  · have HX := hd (HNO.o (fun h => by have := (HTel.o.1 h).1; rw [HZ.o] at c1; omega))
    go_enter Tryz.func100, Tryz.ntmps100
    go_wp2_with fail
    refine (C1.o w).mono ?_
    rintro e w1 ⟨rfl, rfl⟩
    go_wp2_with fail
    go_ret2
    exact ⟨HX.o, rfl⟩
  by_cases c2 : 15 < (bs R).size
  · have HX := hd (HNO.o (fun h => by have := (HTel.o.1 h).2.1; rw [HZ.o] at c2; omega))
    go_enter Tryz.func100, Tryz.ntmps100
    go_wp2_with fail
    refine (C1.o w).mono ?_
    rintro e w1 ⟨rfl, rfl⟩
    go_wp2_with fail
    go_ret2
    exact ⟨HX.o, rfl⟩
  go_enter Tryz.func100, Tryz.ntmps100
  go_wp2_with fail
  refine (C1.o w).mono ?_
  rintro e w1 ⟨rfl, rfl⟩
  go_wp2_with fail
  go_loop [18, 5, 2, 3] (fun i _ _ _ => ∃ k : Nat, i = .int .i64 k ∧ k ≤ (bs R).size ∧ Hd (∀ j, j < k → 48 ≤ bt R j ∧ bt R j ≤ 57)) (fun i _ _ _ => (bs R).size - (intOf i).toNat)
  case atStart => exact ⟨0, rfl, Nat.zero_le _, fun j hj => absurd hj (Nat.not_lt_zero _)⟩
  case round =>
    obtain ⟨k, rfl, hk, hh⟩ := hrel
    have hki : (0 : Int) ≤ (k : Int) := by omega
    by_cases hlt : k < (bs R).size
    · have BK := hd (bt_self (bs R) k hlt)
      rw [bs_data] at BK
      by_cases hc : 48 ≤ (bs R)[k].toNat ∧ (bs R)[k].toNat ≤ 57
      · have HN : Hd (∀ j, j < k + 1 → 48 ≤ bt R j ∧ bt R j ≤ 57) := fun j hj => by
          by_cases e : j = k
          · subst e; rw [BK.o]; exact hc
          · exact hh.o j (by omega)
        obtain ⟨h1, h2⟩ := hc
        go_wp2
        go_round
        case rel => exact ⟨k + 1, by go_num, by omega, HN⟩
        case measure => simp [intOf]; omega
      · have HX := hd (HNO.o (fun h => hc (by rw [← BK.o]; exact (HTel.o.1 h).2.2 k (by rw [← HZ.o]; exact hlt))))
        by_cases h1 : (bs R)[k].toNat < 48
        · clear hc
          go_wp2
          go_ret2
          exact ⟨HX.o, rfl⟩
        · have h2 : 57 < (bs R)[k].toNat := by omega
          clear hc
          go_wp2
          go_ret2
          exact ⟨HX.o, rfl⟩
    · have HX := hd (HYES.o (HTel.o.2 ⟨by rw [← HZ.o]; omega, by rw [← HZ.o]; omega, fun j hj => hh.o j (by rw [← HZ.o] at hj; omega)⟩))
      go_wp2
      go_ret2
      exact ⟨HX.o, rfl⟩

theorem istel_calls (s : ByteArray) (hs : s.size ≤ 1000000000) (w : World) : Calls Tryz.prog 75 #[.string s] w fun e w' => e = .returned (.bool (telB s.data.toList)) ∧ w = w' := by
  have C1 := hd (row_calls s hs)
  go_enter Tryz.func75, Tryz.ntmps75
  go_wp2_with fail
  refine (C1.o w).mono ?_
  rintro e w1 ⟨⟨p, hp, rfl⟩, rfl⟩
  have HP := hd (show p.2 = telB s.data.toList by
    rcases hp with ⟨h, rfl⟩ | ⟨h, rfl⟩
    · exact (telB_t h).symm
    · exact (telB_f h).symm)
  clear hp
  go_wp2_with fail
  go_ret
  exact ⟨retB HP.o, rfl⟩

set_option maxHeartbeats 1000000 in
theorem ristel_calls (s : ByteArray) (hs : s.size ≤ 1000000000) (w : World) : Calls Tryz.prog 95 #[.string s] w fun e w' => e = .returned (.bool (telB s.data.toList)) ∧ w = w' := by
  have hl : s.data.toList.length = s.size := by simp
  have HL := hd hl
  clear hl
  obtain ⟨v, hv⟩ : ∃ v, telB s.data.toList = v := ⟨_, rfl⟩
  rw [hv]
  have HF := hd (fun h => hv.symm.trans (telB_f h) : ¬ TelP s.data.toList → v = false)
  have HT := hd (fun h => hv.symm.trans (telB_t h) : TelP s.data.toList → v = true)
  clear hv
  have key : ∀ (t : ByteArray), t.data.toList = telR s.data.toList → Hd (TelP s.data.toList ↔ 3 ≤ t.size ∧ t.size ≤ 15 ∧ ∀ i, i < t.size → 48 ≤ bt t.data.toList i ∧ bt t.data.toList i ≤ 57) := by
    intro t ht
    have : t.data.toList.length = t.size := by simp
    unfold TelP
    rw [← ht, this]
    exact hd Iff.rfl
  by_cases c0 : s.size = 0
  · have HX := hd (key s (by unfold telR; rw [if_neg (by rw [HL.o]; omega)]))
    have HV := hd (HF.o (fun h => by have := (HX.o.o.1 h).1; omega))
    clear key
    go_enter Tryz.func95, Tryz.ntmps95
    go_wp2
    go_loop [3, 2] (fun i _ => ∃ k : Nat, i = .int .i64 k ∧ k ≤ s.size) (fun i _ => s.size - (intOf i).toNat)
    case atStart => exact ⟨0, rfl, Nat.zero_le _⟩
    case round =>
      obtain ⟨k, rfl, hk⟩ := hrel
      go_wp2
      all_goals first
        | (exfalso; omega)
        | (go_ret; exact ⟨retB (by first | exact HV.o.symm | (rw [HV.o]; simp; omega)), rfl⟩)
  · have c0' : 0 < s.size := by omega
    have B0 := hd (bt_self s 0 c0')
    by_cases c1 : s[0].toNat = 43
    · have n1 : ((s[0].toNat : Int) == 43) = true := by simp; omega
      have HX := hd (key (s.extract 1 s.size) (by
        unfold telR
        rw [if_pos ⟨by rw [HL.o]; exact c0', B0.o.trans c1⟩, ext_data]
        exact List.take_of_length_le (by rw [List.length_drop, HL.o]; exact Nat.le_refl _)))
      clear key c1
      have hze : (s.extract 1 s.size).size = s.size - 1 := by rw [ByteArray.size_extract]; omega
      go_enter Tryz.func95, Tryz.ntmps95
      go_wp2
      generalize s.extract 1 s.size = t at *
      go_loop [3, 2] (fun i _ => ∃ k : Nat, i = .int .i64 k ∧ k ≤ t.size ∧ Hd (∀ j, j < k → 48 ≤ bt t.data.toList j ∧ bt t.data.toList j ≤ 57)) (fun i _ => t.size - (intOf i).toNat)
      case atStart => exact ⟨0, rfl, Nat.zero_le _, fun j hj => absurd hj (Nat.not_lt_zero _)⟩
      case round =>
        obtain ⟨k, rfl, hk, hh⟩ := hrel
        have hki : (0 : Int) ≤ (k : Int) := by omega
        by_cases hlt : k < t.size
        · have BK := hd (bt_self t k hlt)
          by_cases hc : 48 ≤ t[k].toNat ∧ t[k].toNat ≤ 57
          · have HN : Hd (∀ j, j < k + 1 → 48 ≤ bt t.data.toList j ∧ bt t.data.toList j ≤ 57) := fun j hj => by
              by_cases e : j = k
              · subst e; rw [BK.o]; exact hc
              · exact hh.o j (by omega)
            have d1 : (decide ((48 : Int) ≤ (t[k].toNat : Int)) && decide ((t[k].toNat : Int) ≤ 57)) = true := by simp; omega
            clear hc
            go_wp2_with (go_at_call 112; refine (digit_calls _ _).mono ?_; rintro e w' ⟨rfl, rfl⟩)
            go_round
            case rel => exact ⟨k + 1, by go_num, by omega, HN⟩
            case measure => simp [intOf]; omega
          · have HV := hd (HF.o (fun h => hc (by rw [← BK.o]; exact (HX.o.o.1 h).2.2 k hlt)))
            have d1 : (decide ((48 : Int) ≤ (t[k].toNat : Int)) && decide ((t[k].toNat : Int) ≤ 57)) = false := by
              rw [Bool.eq_false_iff]; simp; omega
            clear hc
            go_wp2_with (go_at_call 112; refine (digit_calls _ _).mono ?_; rintro e w' ⟨rfl, rfl⟩)
            go_ret
            exact ⟨retB (by first | exact HV.o.symm | (rw [HV.o]; simp; omega)), rfl⟩
        · have hke : k = t.size := by omega
          subst hke
          clear hk hlt hki
          by_cases c3 : 3 ≤ t.size
          · by_cases c15 : t.size ≤ 15
            · have HV := hd (HT.o (HX.o.o.2 ⟨c3, c15, fun j hj => hh.o j hj⟩))
              go_wp2
              go_ret
              exact ⟨retB (by first | exact HV.o.symm | (rw [HV.o]; simp; omega)), rfl⟩
            · have HV := hd (HF.o (fun h => c15 (HX.o.o.1 h).2.1))
              go_wp2
              go_ret
              exact ⟨retB (by first | exact HV.o.symm | (rw [HV.o]; simp; omega)), rfl⟩
          · have HV := hd (HF.o (fun h => c3 (HX.o.o.1 h).1))
            go_wp2
            go_ret
            exact ⟨retB (by first | exact HV.o.symm | (rw [HV.o]; simp; omega)), rfl⟩
    · have n1 : ((s[0].toNat : Int) == 43) = false := by simp; omega
      have HX := hd (key s (by unfold telR; rw [if_neg (fun h => c1 (B0.o.symm.trans h.2))]))
      clear key c1
      go_enter Tryz.func95, Tryz.ntmps95
      go_wp2
      go_loop [3, 2] (fun i _ => ∃ k : Nat, i = .int .i64 k ∧ k ≤ s.size ∧ Hd (∀ j, j < k → 48 ≤ bt s.data.toList j ∧ bt s.data.toList j ≤ 57)) (fun i _ => s.size - (intOf i).toNat)
      case atStart => exact ⟨0, rfl, Nat.zero_le _, fun j hj => absurd hj (Nat.not_lt_zero _)⟩
      case round =>
        obtain ⟨k, rfl, hk, hh⟩ := hrel
        have hki : (0 : Int) ≤ (k : Int) := by omega
        by_cases hlt : k < s.size
        · have BK := hd (bt_self s k hlt)
          by_cases hc : 48 ≤ s[k].toNat ∧ s[k].toNat ≤ 57
          · have HN : Hd (∀ j, j < k + 1 → 48 ≤ bt s.data.toList j ∧ bt s.data.toList j ≤ 57) := fun j hj => by
              by_cases e : j = k
              · subst e; rw [BK.o]; exact hc
              · exact hh.o j (by omega)
            have d1 : (decide ((48 : Int) ≤ (s[k].toNat : Int)) && decide ((s[k].toNat : Int) ≤ 57)) = true := by simp; omega
            clear hc
            go_wp2_with (go_at_call 112; refine (digit_calls _ _).mono ?_; rintro e w' ⟨rfl, rfl⟩)
            go_round
            case rel => exact ⟨k + 1, by go_num, by omega, HN⟩
            case measure => simp [intOf]; omega
          · have HV := hd (HF.o (fun h => hc (by rw [← BK.o]; exact (HX.o.o.1 h).2.2 k hlt)))
            have d1 : (decide ((48 : Int) ≤ (s[k].toNat : Int)) && decide ((s[k].toNat : Int) ≤ 57)) = false := by
              rw [Bool.eq_false_iff]; simp; omega
            clear hc
            go_wp2_with (go_at_call 112; refine (digit_calls _ _).mono ?_; rintro e w' ⟨rfl, rfl⟩)
            go_ret
            exact ⟨retB (by first | exact HV.o.symm | (rw [HV.o]; simp; omega)), rfl⟩
        · have hke : k = s.size := by omega
          subst hke
          clear hk hlt hki
          by_cases c3 : 3 ≤ s.size
          · by_cases c15 : s.size ≤ 15
            · have HV := hd (HT.o (HX.o.o.2 ⟨c3, c15, fun j hj => hh.o j hj⟩))
              go_wp2
              go_ret
              exact ⟨retB (by first | exact HV.o.symm | (rw [HV.o]; simp; omega)), rfl⟩
            · have HV := hd (HF.o (fun h => c15 (HX.o.o.1 h).2.1))
              go_wp2
              go_ret
              exact ⟨retB (by first | exact HV.o.symm | (rw [HV.o]; simp; omega)), rfl⟩
          · have HV := hd (HF.o (fun h => c3 (HX.o.o.1 h).1))
            go_wp2
            go_ret
            exact ⟨retB (by first | exact HV.o.symm | (rw [HV.o]; simp; omega)), rfl⟩

end Go.Proofs.YtpejlcaoggedfaaGreatDoor
