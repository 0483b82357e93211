/-
  The shelf's contracts at this program, in plain words: what the kit's own laying commands write for it, pasted by a program.
-/
import Derived.Shelf.Strings.Prefix
import Derived.Shelf.LaysM
import Derived.Test.YtogjokofmfpmgaaGreatDoorProg
import Derived.Test.YtogjokofmfpmgaaGreatDoorGAD
import Derived.Test.YtogjokofmfpmgaaGreatDoorGAA
import Derived.Shelf.Strconv.Itoa3
import Derived.BigQuiet
import Derived.Deep.QuietTactic
import Derived.StillTailTactics
import Derived.WalkLawsBesides
import Derived.Lib.LaidTab
import Derived.Test.YtogjokofmfpmgaaGreatDoorBytesOrd
set_option linter.unusedVariables false
set_option linter.unusedSimpArgs false
namespace Go.Proofs.YtogjokofmfpmgaaGreatDoor
open Go.Shelf
def lays101_ren : Go.Shelf.Ren := ⟨fun | 101 => 191 | 208 => 199 | 206 => 203 | n => n, fun | 9 => 9 | 4 => 4 | 3 => 3 | n => n, fun | n => n⟩
theorem lays101 : Go.Proofs.Lays.n101 Tryz.prog lays101_ren := {
  mixed := by kernel_rfl
  f101 := Tryz.func191.trans (congrArg some (by kernel_rfl))
  f206 := Tryz.func203.trans (congrArg some (by kernel_rfl))
  f208 := Tryz.func199.trans (congrArg some (by kernel_rfl))
  t3 := Tryz.underlying3
  a3 := Tryz.isAgg3
  z3 := Tryz.sizeOf3
  v3 := Tryz.zeroValue3
  t4 := Tryz.underlying4
  a4 := Tryz.isAgg4
  z4 := Tryz.sizeOf4
  v4 := Tryz.zeroValue4
  t9 := Tryz.underlying9
  a9 := Tryz.isAgg9
  z9 := Tryz.sizeOf9
  v9 := Tryz.zeroValue9 }
end Go.Proofs.YtogjokofmfpmgaaGreatDoor
namespace Go.Proofs.YtogjokofmfpmgaaGreatDoor
open Go.RowKit

theorem trim_calls (s : ByteArray) (w : World) : Calls Tryz.prog 191 #[.string s, .string ⟨#[43]⟩] w fun e w' => e = .returned (.string (bs (telR s.data.toList))) ∧ w = w' := by
  refine (Any.strings_TrimPrefix lays101 s ⟨#[43]⟩ w).mono ?_
  rintro e w' ⟨rfl, rfl⟩
  refine ⟨?_, rfl⟩
  congr 2
  show bs _ = bs _
  congr 1
  unfold Lib.trimPrefix telR
  generalize s.data.toList = l
  show (if Lib.hasPrefix l [43] then l.drop 1 else l) = _
  cases l with
  | nil => simp [Lib.hasPrefix]
  | cons b t =>
    by_cases hb : b = 43
    · subst hb
      rw [if_pos (by simp [Lib.hasPrefix]), if_pos ⟨by simp, by rw [bt_zero]; rfl⟩]
    · rw [if_neg (by simpa [Lib.hasPrefix] using fun e : 43 = b => hb e.symm), if_neg (fun h => hb (UInt8.toNat_inj.1 (by have := h.2; rw [bt_zero] at this; exact this)))]

def rowV (l : List UInt8) : List UInt8 × Bool → Prop := fun p => (TelP l ∧ p = (telR l, true)) ∨ (¬ TelP l ∧ p = ([], false))
structure RowE (l : List UInt8) (e : Ending) : Prop where
  o : ∃ p, rowV l p ∧ e = .returned (.tuple #[.string (bs p.1), .bool p.2])

set_option maxHeartbeats 1000000 in
theorem row_calls (s : ByteArray) (hs : s.size ≤ 1000000000) (w : World) : Calls Tryz.prog 177 #[.string s] w fun e w' => RowE s.data.toList e ∧ w = w' := by
  have C1 := hd (trim_calls s)
  obtain ⟨R, hR⟩ : ∃ R, telR s.data.toList = R := ⟨_, rfl⟩
  rw [hR] at C1
  have hz : (bs R).size = R.length := bs_size R
  have hle : R.length ≤ s.size := by
    have : s.data.toList.length = s.size := by simp
    rw [← hR, ← this]
    unfold telR
    split
    · rw [List.length_drop]; omega
    · exact Nat.le_refl _
  have HTel := hd (show TelP s.data.toList ↔ 3 ≤ R.length ∧ R.length ≤ 15 ∧ ∀ i, i < R.length → 48 ≤ bt R i ∧ bt R i ≤ 57 by unfold TelP; rw [hR])
  have HYES := hd (fun h : TelP s.data.toList => (⟨⟨_, .inl ⟨h, rfl⟩, by rw [hR]⟩⟩ : RowE s.data.toList (Ending.returned (.tuple #[.string (bs R), .bool true]))))
  have HNO := hd (fun h : ¬ TelP s.data.toList => (⟨⟨_, .inr ⟨h, rfl⟩, rfl⟩⟩ : RowE s.data.toList (Ending.returned (.tuple #[.string (bs []), .bool false]))))
  clear hR
  have HZ := hd hz
  clear hz
  by_cases c1 : (bs R).size < 3
  · have HX := hd (HNO.o (fun h => by have := (HTel.o.1 h).1; rw [HZ.o] at c1; omega))
    go_enter Tryz.func177, Tryz.ntmps177
    go_wp2_with fail
    refine (C1.o w).mono ?_
    rintro e w1 ⟨rfl, rfl⟩
    go_wp2_with fail
    go_ret2
    exact ⟨HX.o, rfl⟩
  by_cases c2 : 15 < (bs R).size
  · have HX := hd (HNO.o (fun h => by have := (HTel.o.1 h).2.1; rw [HZ.o] at c2; omega))
    go_enter Tryz.func177, Tryz.ntmps177
    go_wp2_with fail
    refine (C1.o w).mono ?_
    rintro e w1 ⟨rfl, rfl⟩
    go_wp2_with fail
    go_ret2
    exact ⟨HX.o, rfl⟩
  go_enter Tryz.func177, Tryz.ntmps177
  go_wp2_with fail
  refine (C1.o w).mono ?_
  rintro e w1 ⟨rfl, rfl⟩
  go_wp2_with fail
  go_loop [18, 5, 2, 3] (fun i _ _ _ => ∃ k : Nat, i = .int .i64 k ∧ k ≤ (bs R).size ∧ Hd (∀ j, j < k → 48 ≤ bt R j ∧ bt R j ≤ 57)) (fun i _ _ _ => (bs R).size - (intOf i).toNat)
  case atStart => exact ⟨0, rfl, Nat.zero_le _, fun j hj => absurd hj (Nat.not_lt_zero _)⟩
  case round =>
    obtain ⟨k, rfl, hk, hh⟩ := hrel
    have hki : (0 : Int) ≤ (k : Int) := by omega
    by_cases hlt : k < (bs R).size
    · have BK := hd (bt_self (bs R) k hlt)
      rw [bs_data] at BK
      by_cases hc : 48 ≤ (bs R)[k].toNat ∧ (bs R)[k].toNat ≤ 57
      · have HN : Hd (∀ j, j < k + 1 → 48 ≤ bt R j ∧ bt R j ≤ 57) := fun j hj => by
          by_cases e : j = k
          · subst e; rw [BK.o]; exact hc
          · exact hh.o j (by omega)
        obtain ⟨h1, h2⟩ := hc
        go_wp2
        go_round
        case rel => exact ⟨k + 1, by go_num, by omega, HN⟩
        case measure => simp [intOf]; omega
      · have HX := hd (HNO.o (fun h => hc (by rw [← BK.o]; exact (HTel.o.1 h).2.2 k (by rw [← HZ.o]; exact hlt))))
        by_cases h1 : (bs R)[k].toNat < 48
        · clear hc
          go_wp2
          go_ret2
          exact ⟨HX.o, rfl⟩
        · have h2 : 57 < (bs R)[k].toNat := by omega
          clear hc
          go_wp2
          go_ret2
          exact ⟨HX.o, rfl⟩
    · have HX := hd (HYES.o (HTel.o.2 ⟨by rw [← HZ.o]; omega, by rw [← HZ.o]; omega, fun j hj => hh.o j (by rw [← HZ.o] at hj; omega)⟩))
      go_wp2
      go_ret2
      exact ⟨HX.o, rfl⟩

theorem istel_calls (s : ByteArray) (hs : s.size ≤ 1000000000) (w : World) : Calls Tryz.prog 155 #[.string s] w fun e w' => e = .returned (.bool (telB s.data.toList)) ∧ w = w' := by
  have C1 := hd (row_calls s hs)
  go_enter Tryz.func155, Tryz.ntmps155
  go_wp2_with fail
  refine (C1.o w).mono ?_
  rintro e w1 ⟨⟨p, hp, rfl⟩, rfl⟩
  have HP := hd (show p.2 = telB s.data.toList by
    rcases hp with ⟨h, rfl⟩ | ⟨h, rfl⟩
    · exact (telB_t h).symm
    · exact (telB_f h).symm)
  clear hp
  go_wp2_with fail
  go_ret
  exact ⟨retB HP.o, rfl⟩

set_option maxHeartbeats 1000000 in
theorem ristel_calls (s : ByteArray) (hs : s.size ≤ 1000000000) (w : World) : Calls Tryz.prog 148 #[.string s] w fun e w' => e = .returned (.bool (telB s.data.toList)) ∧ w = w' := by
  have hl : s.data.toList.length = s.size := by simp
  have HL := hd hl
  clear hl
  obtain ⟨v, hv⟩ : ∃ v, telB s.data.toList = v := ⟨_, rfl⟩
  rw [hv]
  have HF := hd (fun h => hv.symm.trans (telB_f h) : ¬ TelP s.data.toList → v = false)
  have HT := hd (fun h => hv.symm.trans (telB_t h) : TelP s.data.toList → v = true)
  clear hv
  have key : ∀ (t : ByteArray), t.data.toList = telR s.data.toList → Hd (TelP s.data.toList ↔ 3 ≤ t.size ∧ t.size ≤ 15 ∧ ∀ i, i < t.size → 48 ≤ bt t.data.toList i ∧ bt t.data.toList i ≤ 57) := by
    intro t ht
    have : t.data.toList.length = t.size := by simp
    unfold TelP
    rw [← ht, this]
    exact hd Iff.rfl
  by_cases c0 : s.size = 0
  · have HX := hd (key s (by unfold telR; rw [if_neg (by rw [HL.o]; omega)]))
    have HV := hd (HF.o (fun h => by have := (HX.o.o.1 h).1; omega))
    clear key
    go_enter Tryz.func148, Tryz.ntmps148
    go_wp2
    go_loop [3, 2] (fun i _ => ∃ k : Nat, i = .int .i64 k ∧ k ≤ s.size) (fun i _ => s.size - (intOf i).toNat)
    case atStart => exact ⟨0, rfl, Nat.zero_le _⟩
    case round =>
      obtain ⟨k, rfl, hk⟩ := hrel
      go_wp2
      all_goals first
        | (exfalso; omega)
        | (go_ret; exact ⟨retB (by first | exact HV.o.symm | (rw [HV.o]; simp; omega)), rfl⟩)
  · have c0' : 0 < s.size := by omega
    have B0 := hd (bt_self s 0 c0')
    by_cases c1 : s[0].toNat = 43
    · have n1 : ((s[0].toNat : Int) == 43) = true := by simp; omega
      have HX := hd (key (s.extract 1 s.size) (by
        unfold telR
        rw [if_pos ⟨by rw [HL.o]; exact c0', B0.o.trans c1⟩, ext_data]
        exact List.take_of_length_le (by rw [List.length_drop, HL.o]; exact Nat.le_refl _)))
      clear key c1
      have hze : (s.extract 1 s.size).size = s.size - 1 := by rw [ByteArray.size_extract]; omega
      go_enter Tryz.func148, Tryz.ntmps148
      go_wp2
      generalize s.extract 1 s.size = t at *
      go_loop [3, 2] (fun i _ => ∃ k : Nat, i = .int .i64 k ∧ k ≤ t.size ∧ Hd (∀ j, j < k → 48 ≤ bt t.data.toList j ∧ bt t.data.toList j ≤ 57)) (fun i _ => t.size - (intOf i).toNat)
      case atStart => exact ⟨0, rfl, Nat.zero_le _, fun j hj => absurd hj (Nat.not_lt_zero _)⟩
      case round =>
        obtain ⟨k, rfl, hk, hh⟩ := hrel
        have hki : (0 : Int) ≤ (k : Int) := by omega
        by_cases hlt : k < t.size
        · have BK := hd (bt_self t k hlt)
          by_cases hc : 48 ≤ t[k].toNat ∧ t[k].toNat ≤ 57
          · have HN : Hd (∀ j, j < k + 1 → 48 ≤ bt t.data.toList j ∧ bt t.data.toList j ≤ 57) := fun j hj => by
              by_cases e : j = k
              · subst e; rw [BK.o]; exact hc
              · exact hh.o j (by omega)
            have d1 : (decide ((48 : Int) ≤ (t[k].toNat : Int)) && decide ((t[k].toNat : Int) ≤ 57)) = true := by simp; omega
            clear hc
            go_wp2_with (go_at_call 91; refine (digit_calls _ _).mono ?_; rintro e w' ⟨rfl, rfl⟩)
            go_round
            case rel => exact ⟨k + 1, by go_num, by omega, HN⟩
            case measure => simp [intOf]; omega
          · have HV := hd (HF.o (fun h => hc (by rw [← BK.o]; exact (HX.o.o.1 h).2.2 k hlt)))
            have d1 : (decide ((48 : Int) ≤ (t[k].toNat : Int)) && decide ((t[k].toNat : Int) ≤ 57)) = false := by
              rw [Bool.eq_false_iff]; simp; omega
            clear hc
            go_wp2_with (go_at_call 91; refine (digit_calls _ _).mono ?_; rintro e w' ⟨rfl, rfl⟩)
            go_ret
            exact ⟨retB (by first | exact HV.o.symm | (rw [HV.o]; simp; omega)), rfl⟩
        · have hke : k = t.size := by omega
          subst hke
          clear hk hlt hki
          by_cases c3 : 3 ≤ t.size
          · by_cases c15 : t.size ≤ 15
            · have HV := hd (HT.o (HX.o.o.2 ⟨c3, c15, fun j hj => hh.o j hj⟩))
              go_wp2
              go_ret
              exact ⟨retB (by first | exact HV.o.symm | (rw [HV.o]; simp; omega)), rfl⟩
            · have HV := hd (HF.o (fun h => c15 (HX.o.o.1 h).2.1))
              go_wp2
              go_ret
              exact ⟨retB (by first | exact HV.o.symm | (rw [HV.o]; simp; omega)), rfl⟩
          · have HV := hd (HF.o (fun h => c3 (HX.o.o.1 h).1))
            go_wp2
            go_ret
            exact ⟨retB (by first | exact HV.o.symm | (rw [HV.o]; simp; omega)), rfl⟩
    · have n1 : ((s[0].toNat : Int) == 43) = false := by simp; omega
      have HX := hd (key s (by unfold telR; rw [if_neg (fun h => c1 (B0.o.symm.trans h.2))]))
      clear key c1
      go_enter Tryz.func148, Tryz.ntmps148
      go_wp2
      go_loop [3, 2] (fun i _ => ∃ k : Nat, i = .int .i64 k ∧ k ≤ s.size ∧ Hd (∀ j, j < k → 48 ≤ bt s.data.toList j ∧ bt s.data.toList j ≤ 57)) (fun i _ => s.size - (intOf i).toNat)
      case atStart => exact ⟨0, rfl, Nat.zero_le _, fun j hj => absurd hj (Nat.not_lt_zero _)⟩
      case round =>
        obtain ⟨k, rfl, hk, hh⟩ := hrel
        have hki : (0 : Int) ≤ (k : Int) := by omega
        by_cases hlt : k < s.size
        · have BK := hd (bt_self s k hlt)
          by_cases hc : 48 ≤ s[k].toNat ∧ s[k].toNat ≤ 57
          · have HN : Hd (∀ j, j < k + 1 → 48 ≤ bt s.data.toList j ∧ bt s.data.toList j ≤ 57) := fun j hj => by
              by_cases e : j = k
              · subst e; rw [BK.o]; exact hc
              · exact hh.o j (by omega)
            have d1 : (decide ((48 : Int) ≤ (s[k].toNat : Int)) && decide ((s[k].toNat : Int) ≤ 57)) = true := by simp; omega
            clear hc
            go_wp2_with (go_at_call 91; refine (digit_calls _ _).mono ?_; rintro e w' ⟨rfl, rfl⟩)
            go_round
            case rel => exact ⟨k + 1, by go_num, by omega, HN⟩
            case measure => simp [intOf]; omega
          · have HV := hd (HF.o (fun h => hc (by rw [← BK.o]; exact (HX.o.o.1 h).2.2 k hlt)))
            have d1 : (decide ((48 : Int) ≤ (s[k].toNat : Int)) && decide ((s[k].toNat : Int) ≤ 57)) = false := by
              rw [Bool.eq_false_iff]; simp; omega
            clear hc
            go_wp2_with (go_at_call 91; refine (digit_calls _ _).mono ?_; rintro e w' ⟨rfl, rfl⟩)
            go_ret
            exact ⟨retB (by first | exact HV.o.symm | (rw [HV.o]; simp; omega)), rfl⟩
        · have hke : k = s.size := by omega
          subst hke
          clear hk hlt hki
          by_cases c3 : 3 ≤ s.size
          · by_cases c15 : s.size ≤ 15
            · have HV := hd (HT.o (HX.o.o.2 ⟨c3, c15, fun j hj => hh.o j hj⟩))
              go_wp2
              go_ret
              exact ⟨retB (by first | exact HV.o.symm | (rw [HV.o]; simp; omega)), rfl⟩
            · have HV := hd (HF.o (fun h => c15 (HX.o.o.1 h).2.1))
              go_wp2
              go_ret
              exact ⟨retB (by first | exact HV.o.symm | (rw [HV.o]; simp; omega)), rfl⟩
          · have HV := hd (HF.o (fun h => c3 (HX.o.o.1 h).1))
            go_wp2
            go_ret
            exact ⟨retB (by first | exact HV.o.symm | (rw [HV.o]; simp; omega)), rfl⟩

end Go.Proofs.YtogjokofmfpmgaaGreatDoor
namespace Go.Proofs.YtogjokofmfpmgaaGreatDoor
open Go.RowKit

theorem telC_f {c : UInt8} (h : c.toNat = 32 ∨ c.toNat = 45 ∨ c.toNat = 46 ∨ c.toNat = 47 ∨ c.toNat = 40 ∨ c.toNat = 41) : telC c = false := by
  simp only [telC, decide_eq_false_iff_not]; omega
theorem telC_t {c : UInt8} (h : ¬ (c.toNat = 32 ∨ c.toNat = 45 ∨ c.toNat = 46 ∨ c.toNat = 47 ∨ c.toNat = 40 ∨ c.toNat = 41)) : telC c = true := by
  simp only [telC, decide_eq_true_eq]; omega

set_option maxRecDepth 100000 in
set_option maxHeartbeats 4000000 in
theorem telcan_calls (s : ByteArray) (hs : s.size ≤ 1000000) (w : World) (ht : Tbl w) : Calls Tryz.prog 140 #[.string s] w fun e w' => e = .returned (.tuple #[.string (bs (telT s.data.toList)), .int .i64 (telE s.data.toList)]) ∧ Below w.heap.size w w' := by
  have C1 := hd (clean_calls s hs w ht)
  clear ht
  obtain ⟨i0, hi, hz0, hz1, hz2⟩ := info_parts u8Info
  obtain ⟨V, hV⟩ : ∃ V, telT s.data.toList = V := ⟨_, rfl⟩
  obtain ⟨F, hF⟩ : ∃ F, telE s.data.toList = F := ⟨_, rfl⟩
  rw [hV, hF]
  have HR := hd (⟨hV.symm, hF.symm⟩ : V = telT s.data.toList ∧ F = telE s.data.toList)
  clear hV hF
  have hl := cleanT_len s.data.toList
  have R1 := hd (fun h : cleanE s.data.toList ≠ 0 => tel_e h)
  have R2 := hd (fun (h : cleanE s.data.toList = 0) k => tel_yes h k)
  have R3 := hd (fun (h : cleanE s.data.toList = 0) k => tel_no h k)
  obtain ⟨T, hT⟩ : ∃ T, cleanT s.data.toList = T := ⟨_, rfl⟩
  obtain ⟨E, hE⟩ : ∃ E, cleanE s.data.toList = E := ⟨_, rfl⟩
  rw [hT, hE] at C1 R2 R3
  rw [hE] at R1
  rw [hT] at hl
  clear hT hE
  by_cases hE0 : E = 0
  · subst hE0
    have hz : (bs T).size = T.length := bs_size T
    have HZ := hd hz
    have hs64 : (bs T).size ≤ 64 := by omega
    clear hz
    go_enter Tryz.func140, Tryz.ntmps140
    go_wp2_with fail
    refine C1.o.mono ?_
    rintro e w1 ⟨rfl, hb1⟩
    have HB1 := hd hb1
    clear hb1
    go_wp2_with fail
    go_loopw [6, 18, 7] (fun out i _ wr => ∃ (k : Nat) (A : Option Addr) (c m : Nat) (O : List UInt8), i = .int .i64 k ∧ k ≤ (bs T).size ∧ out = .slice A m c ∧ m ≤ k ∧ Hd (telD (T.take k) = O) ∧ Hd (O.length = m) ∧ Hd (m = 0 → A = none ∧ c = 0) ∧ Row wr (From w.heap.size) 5 1 A m c (enc8 O) ∧ Below w.heap.size w wr) (fun _ i _ _ => (bs T).size - (intOf i).toNat)
    case atStart => exact ⟨0, none, 0, 0, [], rfl, Nat.zero_le _, rfl, Nat.le_refl _, rfl, rfl, fun _ => ⟨rfl, rfl⟩, Row.nil _ _ _ _, HB1.o⟩
    case round =>
      obtain ⟨k, A, c, m, O, rfl, hk, rfl, hm, HO, HM, H0, hr, hbe⟩ := hrel
      have hsz := hbe.size
      have hki : (0 : Int) ≤ (k : Int) := by omega
      by_cases hlt : k < (bs T).size
      · have hlT : k < T.length := by rw [← HZ.o]; exact hlt
        have ec : (bs T)[k] = T[k] := by show T.toArray[k]'(by simpa using hlT) = T[k]; exact List.getElem_toArray _
        have HC := hd ec
        by_cases hc : (bs T)[k].toNat = 32 ∨ (bs T)[k].toNat = 45 ∨ (bs T)[k].toNat = 46 ∨ (bs T)[k].toNat = 47 ∨ (bs T)[k].toNat = 40 ∨ (bs T)[k].toNat = 41
        · have HN := hd (show telD (T.take (k + 1)) = O by rw [telD_skip T k hlT (by rw [← ec]; exact telC_f hc)]; exact HO.o)
          clear ec
          rcases hc with hc | hc | hc | hc | hc | hc
          all_goals
            (first | (have n1 : (((bs T)[k].toNat : Int) == 32) = true := by simp; omega) | (have n1 : (((bs T)[k].toNat : Int) == 32) = false := by simp; omega)
             first | (have n2 : (((bs T)[k].toNat : Int) == 45) = true := by simp; omega) | (have n2 : (((bs T)[k].toNat : Int) == 45) = false := by simp; omega)
             first | (have n3 : (((bs T)[k].toNat : Int) == 46) = true := by simp; omega) | (have n3 : (((bs T)[k].toNat : Int) == 46) = false := by simp; omega)
             first | (have n4 : (((bs T)[k].toNat : Int) == 47) = true := by simp; omega) | (have n4 : (((bs T)[k].toNat : Int) == 47) = false := by simp; omega)
             first | (have n5 : (((bs T)[k].toNat : Int) == 40) = true := by simp; omega) | (have n5 : (((bs T)[k].toNat : Int) == 40) = false := by simp; omega)
             first | (have n6 : (((bs T)[k].toNat : Int) == 41) = true := by simp; omega) | (have n6 : (((bs T)[k].toNat : Int) == 41) = false := by simp; omega)
             clear hc
             go_wp2_with fail
             go_roundw
             case rel => exact ⟨k + 1, A, c, m, O, by go_num, by omega, rfl, by omega, HN, HM, H0, hr, hbe⟩
             case measure => simp [intOf]; omega)
        · have HN := hd (show telD (T.take (k + 1)) = O ++ [(bs T)[k]] by rw [telD_put T k hlT (by rw [← ec]; exact telC_t hc), HO.o, ec])
          clear ec
          have n1 : (((bs T)[k].toNat : Int) == 32) = false := by simp; omega
          have n2 : (((bs T)[k].toNat : Int) == 45) = false := by simp; omega
          have n3 : (((bs T)[k].toNat : Int) == 46) = false := by simp; omega
          have n4 : (((bs T)[k].toNat : Int) == 47) = false := by simp; omega
          have n5 : (((bs T)[k].toNat : Int) == 40) = false := by simp; omega
          have n6 : (((bs T)[k].toNat : Int) == 41) = false := by simp; omega
          clear hc
          go_wp2_with (at_builtin; go_loud (refine wpList_append_row rfl _ _ 27 rfl (Of A) 5 i0 (.int .u8 0) 1 1 Tryz.underlying27 hi hz0 hz1 hz2 rfl A m c (enc8 O) rfl (hr.own_.alloc _) ⟨_, 0, none⟩ 1 1 [.int .u8 ((bs T)[k].toNat : Int)] rfl rfl (cells_at (Blk.new_ _ _ (by simp) _ _) rfl) (by simp [Value.oneCell']) (by omega) (by unfold maxLen; omega) (by omega) ?_; intro A2 c2 w2 hown2 hchg2))
          go_roundw
          case rel =>
            refine ⟨k + 1, A2, c2, m + 1, O ++ [(bs T)[k]], by go_num, by omega, rfl, by omega, HN, hd (by rw [List.length_append, HM.o]; rfl), hd (fun h => by omega), ?_, ?_⟩
            · rw [enc8_snoc]
              refine hown2.mono fun q hq => ?_
              rcases hq with hq | hq
              · exact hr.of_sub q hq
              · simp at hq; show w.heap.size ≤ q; omega
            · exact hbe.trans ((((Chg.refl (From w.heap.size) wr).alloc _).trans hchg2 (fun q hq => .inl (hr.of_sub q hq))).below (fun _ h => h) hsz)
          case measure => simp [intOf]; omega
      · have hke : k = (bs T).size := by omega
        subst hke
        clear hk
        have hfold : T.take (bs T).size = T := List.take_of_length_le (by rw [HZ.o]; exact Nat.le_refl _)
        rw [hfold] at HO
        clear hfold
        have hv : ∃ s', s' = bs O ∧ (convert 27 9 (.slice A m c)).run Tryz.prog wr = .ok (.string s') wr := by
          refine ⟨_, rfl, ?_⟩
          by_cases hm0 : m = 0
          · obtain ⟨rfl, rfl⟩ := H0.o hm0
            subst hm0
            have : O = [] := List.eq_nil_of_length_eq_zero HM.o
            subst this
            exact run_convert_bytes_nil wr 27 5 Tryz.underlying27 Tryz.underlying5 0 0 9 Tryz.underlying9
          · obtain ⟨g, rfl, _, hg, hmc, hcm, hcell, _⟩ := hr.at_ (by omega)
            have hv := run_convert_bytes_back (P := Tryz.prog) wr 27 9 5 ⟨g, 0, none⟩ c O Tryz.underlying27 Tryz.underlying5 Tryz.underlying9 (fun j hj => by
              have := hcell j _ (enc8_get O j hj)
              rw [bt_list O j hj] at this
              have hp : (⟨g, 0, none⟩ : Addr).add j = ⟨g, j, none⟩ := by unfold Addr.add; split <;> simp_all
              rw [hp]; exact this)
            rw [HM.o] at hv
            exact hv
        obtain ⟨s', hs', hv⟩ := hv
        have hIS := istel_calls (bs O) (by rw [bs_size, HM.o]; omega)
        rw [bs_data] at hIS
        rw [← hs'] at hIS
        have HS := hd hs'
        clear hs'
        by_cases hA : TelP O
        · rw [telB_t hA] at hIS
          have HX := hd (R2.o trivial (by rw [HO.o]; exact hA))
          have HIS := hd hIS
          clear hIS hA
          go_wp2_with fail
          refine (HIS.o _).mono ?_
          rintro e w3 ⟨rfl, rfl⟩
          go_wp2_with fail
          go_ret2
          exact ⟨retTE (by rw [HS.o, HR.o.1, HX.o.1, HO.o]) (by rw [HR.o.2, HX.o.2]), hbe⟩
        · rw [telB_f hA] at hIS
          have HX := hd (R3.o trivial (by rw [HO.o]; exact hA))
          have HIS := hd hIS
          clear hIS hA
          go_wp2_with fail
          refine (HIS.o _).mono ?_
          rintro e w3 ⟨rfl, rfl⟩
          go_wp2_with fail
          go_ret2
          exact ⟨retTE (by rw [HR.o.1, HX.o.1]; rfl) (by rw [HR.o.2, HX.o.2]), hbe⟩
  · have n0 : (E != 0) = true := by simpa using hE0
    have H0 := hd (R1.o hE0)
    clear hE0
    go_enter Tryz.func140, Tryz.ntmps140
    go_wp2_with fail
    refine C1.o.mono ?_
    rintro e w1 ⟨rfl, hb1⟩
    go_wp2_with fail
    go_ret2
    exact ⟨retTE (by rw [HR.o.1, H0.o.1]; rfl) (by rw [HR.o.2, H0.o.2]), hb1⟩

theorem ext_one (T : List UInt8) (k : Nat) (h : k < T.length) : (bs T).extract k (k + 1) = bs [T[k]] := by
  apply ByteArray.ext
  apply Array.ext'
  rw [ext_data, bs_data, bs_data, Nat.add_sub_cancel_left, List.drop_eq_getElem_cons h]
  rfl
theorem tbs_app (a b : List UInt8) : bs a ++ bs b = bs (a ++ b) := by
  apply ByteArray.ext
  simp [bs]

set_option maxRecDepth 100000 in
set_option maxHeartbeats 4000000 in
theorem rtel_calls (s : ByteArray) (hs : s.size ≤ 1000000) (w : World) : Calls Tryz.prog 130 #[.string s] w fun e w' => e = .returned (.tuple #[.string (bs (telT s.data.toList)), .int .i64 (telE s.data.toList)]) ∧ Below w.heap.size w w' := by
  have C1 := hd (rclean_calls s hs w)
  obtain ⟨V, hV⟩ : ∃ V, telT s.data.toList = V := ⟨_, rfl⟩
  obtain ⟨F, hF⟩ : ∃ F, telE s.data.toList = F := ⟨_, rfl⟩
  rw [hV, hF]
  have HR := hd (⟨hV.symm, hF.symm⟩ : V = telT s.data.toList ∧ F = telE s.data.toList)
  clear hV hF
  have hl := cleanT_len s.data.toList
  have R1 := hd (fun h : cleanE s.data.toList ≠ 0 => tel_e h)
  have R2 := hd (fun (h : cleanE s.data.toList = 0) k => tel_yes h k)
  have R3 := hd (fun (h : cleanE s.data.toList = 0) k => tel_no h k)
  obtain ⟨T, hT⟩ : ∃ T, cleanT s.data.toList = T := ⟨_, rfl⟩
  obtain ⟨E, hE⟩ : ∃ E, cleanE s.data.toList = E := ⟨_, rfl⟩
  rw [hT, hE] at C1 R2 R3
  rw [hE] at R1
  rw [hT] at hl
  clear hT hE
  by_cases hE0 : E = 0
  · subst hE0
    have hz : (bs T).size = T.length := bs_size T
    have HZ := hd hz
    have hs64 : (bs T).size ≤ 64 := by omega
    clear hz
    go_enter Tryz.func130, Tryz.ntmps130
    go_wp2_with fail
    refine C1.o.mono ?_
    rintro e w1 ⟨rfl, hb1⟩
    have HB1 := hd hb1
    clear hb1
    go_wp2_with fail
    go_loop [6, 7] (fun out i => ∃ (k : Nat) (t : ByteArray), i = .int .i64 k ∧ k ≤ (bs T).size ∧ out = .string t ∧ t.size ≤ k ∧ Hd (t = bs (telD (T.take k)))) (fun _ i => (bs T).size - (intOf i).toNat)
    case atStart => exact ⟨0, _, rfl, Nat.zero_le _, rfl, Nat.le_refl _, rfl⟩
    case round =>
      obtain ⟨k, t, rfl, hk, rfl, hm, HO⟩ := hrel
      have hki : (0 : Int) ≤ (k : Int) := by omega
      by_cases hlt : k < (bs T).size
      · have hlT : k < T.length := by rw [← HZ.o]; exact hlt
        have ec : (bs T)[k] = T[k] := by show T.toArray[k]'(by simpa using hlT) = T[k]; exact List.getElem_toArray _
        by_cases hc : (bs T)[k].toNat = 32 ∨ (bs T)[k].toNat = 45 ∨ (bs T)[k].toNat = 46 ∨ (bs T)[k].toNat = 47 ∨ (bs T)[k].toNat = 40 ∨ (bs T)[k].toNat = 41
        · have HN := hd (show t = bs (telD (T.take (k + 1))) by rw [telD_skip T k hlT (by rw [← ec]; exact telC_f hc)]; exact HO.o)
          clear ec
          rcases hc with hc | hc | hc | hc | hc | hc
          all_goals
            (first | (have n1 : (((bs T)[k].toNat : Int) == 32) = true := by simp; omega) | (have n1 : (((bs T)[k].toNat : Int) == 32) = false := by simp; omega)
             first | (have n2 : (((bs T)[k].toNat : Int) == 45) = true := by simp; omega) | (have n2 : (((bs T)[k].toNat : Int) == 45) = false := by simp; omega)
             first | (have n3 : (((bs T)[k].toNat : Int) == 46) = true := by simp; omega) | (have n3 : (((bs T)[k].toNat : Int) == 46) = false := by simp; omega)
             first | (have n4 : (((bs T)[k].toNat : Int) == 47) = true := by simp; omega) | (have n4 : (((bs T)[k].toNat : Int) == 47) = false := by simp; omega)
             first | (have n5 : (((bs T)[k].toNat : Int) == 40) = true := by simp; omega) | (have n5 : (((bs T)[k].toNat : Int) == 40) = false := by simp; omega)
             first | (have n6 : (((bs T)[k].toNat : Int) == 41) = true := by simp; omega) | (have n6 : (((bs T)[k].toNat : Int) == 41) = false := by simp; omega)
             clear hc
             go_wp2_with fail
             go_round
             case rel => exact ⟨k + 1, t, by go_num, by omega, rfl, by omega, HN⟩
             case measure => simp [intOf]; omega)
        · have hx : ((bs T).extract k (k + 1)).size = 1 := by rw [ext_one T k hlT, bs_size]; rfl
          have HN := hd (show t ++ (bs T).extract k (k + 1) = bs (telD (T.take (k + 1))) by rw [telD_put T k hlT (by rw [← ec]; exact telC_t hc), HO.o, ext_one T k hlT, tbs_app])
          have hy : (t ++ (bs T).extract k (k + 1)).size = t.size + 1 := by rw [ByteArray.size_append, hx]
          clear ec
          have n1 : (((bs T)[k].toNat : Int) == 32) = false := by simp; omega
          have n2 : (((bs T)[k].toNat : Int) == 45) = false := by simp; omega
          have n3 : (((bs T)[k].toNat : Int) == 46) = false := by simp; omega
          have n4 : (((bs T)[k].toNat : Int) == 47) = false := by simp; omega
          have n5 : (((bs T)[k].toNat : Int) == 40) = false := by simp; omega
          have n6 : (((bs T)[k].toNat : Int) == 41) = false := by simp; omega
          clear hc
          go_wp2_with fail
          go_round
          case rel => exact ⟨k + 1, _, by go_num, by omega, rfl, by omega, HN⟩
          case measure => simp [intOf]; omega
      · have hke : k = (bs T).size := by omega
        subst hke
        clear hk
        have hfold : T.take (bs T).size = T := List.take_of_length_le (by rw [HZ.o]; exact Nat.le_refl _)
        rw [hfold] at HO
        clear hfold
        have hIS := ristel_calls t (by omega)
        have hd1 : t.data.toList = telD T := by rw [HO.o]; rfl
        rw [hd1] at hIS
        clear hd1
        by_cases hA : TelP (telD T)
        · rw [telB_t hA] at hIS
          have HX := hd (R2.o trivial hA)
          have HIS := hd hIS
          clear hIS hA
          go_wp2_with fail
          refine (HIS.o _).mono ?_
          rintro e w3 ⟨rfl, rfl⟩
          go_wp2_with fail
          go_ret2
          exact ⟨retTE (by rw [HR.o.1, HX.o.1, HO.o]) (by rw [HR.o.2, HX.o.2]), HB1.o⟩
        · rw [telB_f hA] at hIS
          have HX := hd (R3.o trivial hA)
          have HIS := hd hIS
          clear hIS hA
          go_wp2_with fail
          refine (HIS.o _).mono ?_
          rintro e w3 ⟨rfl, rfl⟩
          go_wp2_with fail
          go_ret2
          exact ⟨retTE (by rw [HR.o.1, HX.o.1]; rfl) (by rw [HR.o.2, HX.o.2]), HB1.o⟩
  · have n0 : (E != 0) = true := by simpa using hE0
    have H0 := hd (R1.o hE0)
    clear hE0
    go_enter Tryz.func130, Tryz.ntmps130
    go_wp2_with fail
    refine C1.o.mono ?_
    rintro e w1 ⟨rfl, hb1⟩
    go_wp2_with fail
    go_ret2
    exact ⟨retTE (by rw [HR.o.1, H0.o.1]; rfl) (by rw [HR.o.2, H0.o.2]), hb1⟩

end Go.Proofs.YtogjokofmfpmgaaGreatDoor
namespace Go.Proofs.YtogjokofmfpmgaaGreatDoor

def leap (y : Int) : Bool := decide (1 ≤ y) && decide (y ≤ 9999) && (y % 4 == 0) && (!(y % 100 == 0) || (y % 400 == 0))
def dm (y m : Int) : Int := if m = 4 ∨ m = 6 ∨ m = 9 ∨ m = 11 then 30 else if m = 2 then (if y = 0 ∨ leap y = true then 29 else 28) else 31
def mayB (y m d : Int) : Bool := decide (0 ≤ y ∧ y ≤ 9999 ∧ 1 ≤ m ∧ m ≤ 12 ∧ 1 ≤ d ∧ d ≤ dm y m)

theorem mayB_iff (y m d : Int) : mayB y m d = true ↔ 0 ≤ y ∧ y ≤ 9999 ∧ 1 ≤ m ∧ m ≤ 12 ∧ 1 ≤ d ∧ d ≤ dm y m := by simp [mayB]
theorem dm_bd (y m : Int) : 28 ≤ dm y m ∧ dm y m ≤ 31 := by
  unfold dm
  split
  · omega
  · split
    · split <;> omega
    · omega
end Go.Proofs.YtogjokofmfpmgaaGreatDoor
namespace Go.Proofs.YtogjokofmfpmgaaGreatDoor
open Go.Shelf
def laysM171_ren : Go.Shelf.Ren := ⟨fun | 171 => 196 | 243 => 202 | 246 => 207 | 283 => 211 | 284 => 212 | 285 => 213 | 286 => 214 | 129 => 172 | 317 => 216 | 318 => 217 | 319 => 218 | 320 => 219 | 337 => 220 | 338 => 221 | n => n, fun | 3 => 3 | 9 => 9 | 2 => 2 | 4 => 4 | 171 => 215 | 0 => 0 | 53 => 126 | 37 => 27 | 5 => 5 | 173 => 217 | 212 => 220 | 51 => 171 | 20 => 20 | 213 => 221 | 46 => 110 | 232 => 222 | 233 => 223 | n => n, fun | 17 => 3 | 18 => 4 | 19 => 5 | n => n⟩
theorem laysM171 : Go.Proofs.LaysM.n171 Tryz.prog laysM171_ren := {
  mixed := by kernel_rfl
  f129 := Tryz.func172.trans (congrArg some (by kernel_rfl))
  f171 := Tryz.func196.trans (congrArg some (by kernel_rfl))
  f243 := Tryz.func202.trans (congrArg some (by kernel_rfl))
  f246 := Tryz.func207.trans (congrArg some (by kernel_rfl))
  f283 := Tryz.func211.trans (congrArg some (by kernel_rfl))
  f284 := Tryz.func212.trans (congrArg some (by kernel_rfl))
  f285 := Tryz.func213.trans (congrArg some (by kernel_rfl))
  f286 := Tryz.func214.trans (congrArg some (by kernel_rfl))
  f317 := Tryz.func216.trans (congrArg some (by kernel_rfl))
  f318 := Tryz.func217.trans (congrArg some (by kernel_rfl))
  f319 := Tryz.func218.trans (congrArg some (by kernel_rfl))
  f320 := Tryz.func219.trans (congrArg some (by kernel_rfl))
  f337 := Tryz.func220.trans (congrArg some (by kernel_rfl))
  f338 := Tryz.func221.trans (congrArg some (by kernel_rfl))
  t0 := Tryz.underlying0
  a0 := Tryz.isAgg0
  z0 := Tryz.sizeOf0
  v0 := Tryz.zeroValue0
  t2 := Tryz.underlying2
  a2 := Tryz.isAgg2
  z2 := Tryz.sizeOf2
  v2 := Tryz.zeroValue2
  t3 := Tryz.underlying3
  a3 := Tryz.isAgg3
  z3 := Tryz.sizeOf3
  v3 := Tryz.zeroValue3
  t4 := Tryz.underlying4
  a4 := Tryz.isAgg4
  z4 := Tryz.sizeOf4
  v4 := Tryz.zeroValue4
  t5 := Tryz.underlying5
  a5 := Tryz.isAgg5
  z5 := Tryz.sizeOf5
  v5 := Tryz.zeroValue5
  t9 := Tryz.underlying9
  a9 := Tryz.isAgg9
  z9 := Tryz.sizeOf9
  v9 := Tryz.zeroValue9
  t20 := Tryz.underlying20
  a20 := Tryz.isAgg20
  z20 := Tryz.sizeOf20
  v20 := Tryz.zeroValue20
  t37 := Tryz.underlying27
  a37 := Tryz.isAgg27
  z37 := Tryz.sizeOf27
  v37 := Tryz.zeroValue27
  t46 := Tryz.underlying110
  a46 := Tryz.isAgg110
  z46 := Tryz.sizeOf110
  v46 := Tryz.zeroValue110
  t51 := Tryz.underlying171
  a51 := Tryz.isAgg171
  z51 := Tryz.sizeOf171
  v51 := Tryz.zeroValue171
  t53 := Tryz.underlying126
  a53 := Tryz.isAgg126
  z53 := Tryz.sizeOf126
  v53 := Tryz.zeroValue126
  t171 := Tryz.underlying215
  a171 := Tryz.isAgg215
  z171 := Tryz.sizeOf215
  v171 := Tryz.zeroValue215
  t173 := Tryz.underlying217
  a173 := Tryz.isAgg217
  z173 := Tryz.sizeOf217
  v173 := Tryz.zeroValue217
  t212 := Tryz.underlying220
  a212 := Tryz.isAgg220
  z212 := Tryz.sizeOf220
  v212 := Tryz.zeroValue220
  t213 := Tryz.underlying221
  a213 := Tryz.isAgg221
  z213 := Tryz.sizeOf221
  t232 := Tryz.underlying222
  a232 := Tryz.isAgg222
  z232 := Tryz.sizeOf222
  v232 := Tryz.zeroValue222
  t233 := Tryz.underlying223
  a233 := Tryz.isAgg223
  z233 := Tryz.sizeOf223
  v233 := Tryz.zeroValue223
  g17 := by kernel_rfl
  g18 := by kernel_rfl
  g19 := by kernel_rfl
  i0 := by kernel_rfl
  i2 := by kernel_rfl
  i3 := by kernel_rfl
  i4 := by kernel_rfl
  i5 := by kernel_rfl
  i9 := by kernel_rfl
  i20 := by kernel_rfl
  i37 := by kernel_rfl
  i46 := by kernel_rfl
  i51 := by kernel_rfl
  i53 := by kernel_rfl
  i171 := by kernel_rfl
  i173 := by kernel_rfl
  i212 := by kernel_rfl
  i232 := by kernel_rfl
  i233 := by kernel_rfl
  m17 := by kernel_rfl
  m18 := by kernel_rfl
  m19 := by kernel_rfl }
def lays171_ren : Go.Shelf.Ren := ⟨fun | 171 => 196 | 243 => 202 | 246 => 207 | 283 => 211 | 284 => 212 | 285 => 213 | 286 => 214 | 129 => 172 | 317 => 216 | 318 => 217 | 319 => 218 | 320 => 219 | 337 => 220 | 338 => 221 | n => n, fun | 3 => 3 | 9 => 9 | 2 => 2 | 4 => 4 | 171 => 215 | 0 => 0 | 53 => 126 | 37 => 27 | 5 => 5 | 173 => 217 | 212 => 220 | 51 => 171 | 20 => 20 | 213 => 221 | 46 => 110 | 232 => 222 | 233 => 223 | n => n, fun | 17 => 3 | 18 => 4 | 19 => 5 | n => n⟩
theorem lays171 : Go.Proofs.Lays.n171 Tryz.prog lays171_ren := {
  mixed := by kernel_rfl
  f129 := Tryz.func172.trans (congrArg some (by kernel_rfl))
  f171 := Tryz.func196.trans (congrArg some (by kernel_rfl))
  f243 := Tryz.func202.trans (congrArg some (by kernel_rfl))
  f246 := Tryz.func207.trans (congrArg some (by kernel_rfl))
  f283 := Tryz.func211.trans (congrArg some (by kernel_rfl))
  f284 := Tryz.func212.trans (congrArg some (by kernel_rfl))
  f285 := Tryz.func213.trans (congrArg some (by kernel_rfl))
  f286 := Tryz.func214.trans (congrArg some (by kernel_rfl))
  f317 := Tryz.func216.trans (congrArg some (by kernel_rfl))
  f318 := Tryz.func217.trans (congrArg some (by kernel_rfl))
  f319 := Tryz.func218.trans (congrArg some (by kernel_rfl))
  f320 := Tryz.func219.trans (congrArg some (by kernel_rfl))
  f337 := Tryz.func220.trans (congrArg some (by kernel_rfl))
  f338 := Tryz.func221.trans (congrArg some (by kernel_rfl))
  t0 := Tryz.underlying0
  a0 := Tryz.isAgg0
  z0 := Tryz.sizeOf0
  v0 := Tryz.zeroValue0
  t2 := Tryz.underlying2
  a2 := Tryz.isAgg2
  z2 := Tryz.sizeOf2
  v2 := Tryz.zeroValue2
  t3 := Tryz.underlying3
  a3 := Tryz.isAgg3
  z3 := Tryz.sizeOf3
  v3 := Tryz.zeroValue3
  t4 := Tryz.underlying4
  a4 := Tryz.isAgg4
  z4 := Tryz.sizeOf4
  v4 := Tryz.zeroValue4
  t5 := Tryz.underlying5
  a5 := Tryz.isAgg5
  z5 := Tryz.sizeOf5
  v5 := Tryz.zeroValue5
  t9 := Tryz.underlying9
  a9 := Tryz.isAgg9
  z9 := Tryz.sizeOf9
  v9 := Tryz.zeroValue9
  t20 := Tryz.underlying20
  a20 := Tryz.isAgg20
  z20 := Tryz.sizeOf20
  v20 := Tryz.zeroValue20
  t37 := Tryz.underlying27
  a37 := Tryz.isAgg27
  z37 := Tryz.sizeOf27
  v37 := Tryz.zeroValue27
  t46 := Tryz.underlying110
  a46 := Tryz.isAgg110
  z46 := Tryz.sizeOf110
  v46 := Tryz.zeroValue110
  t51 := Tryz.underlying171
  a51 := Tryz.isAgg171
  z51 := Tryz.sizeOf171
  v51 := Tryz.zeroValue171
  t53 := Tryz.underlying126
  a53 := Tryz.isAgg126
  z53 := Tryz.sizeOf126
  v53 := Tryz.zeroValue126
  t171 := Tryz.underlying215
  a171 := Tryz.isAgg215
  z171 := Tryz.sizeOf215
  v171 := Tryz.zeroValue215
  t173 := Tryz.underlying217
  a173 := Tryz.isAgg217
  z173 := Tryz.sizeOf217
  v173 := Tryz.zeroValue217
  t212 := Tryz.underlying220
  a212 := Tryz.isAgg220
  z212 := Tryz.sizeOf220
  v212 := Tryz.zeroValue220
  t213 := Tryz.underlying221
  a213 := Tryz.isAgg221
  z213 := Tryz.sizeOf221
  t232 := Tryz.underlying222
  a232 := Tryz.isAgg222
  z232 := Tryz.sizeOf222
  v232 := Tryz.zeroValue222
  t233 := Tryz.underlying223
  a233 := Tryz.isAgg223
  z233 := Tryz.sizeOf223
  v233 := Tryz.zeroValue223
  g17 := by kernel_rfl
  g18 := by kernel_rfl
  g19 := by kernel_rfl }
end Go.Proofs.YtogjokofmfpmgaaGreatDoor
namespace Go.Proofs.YtogjokofmfpmgaaGreatDoor
open Go.RowKit

set_option maxHeartbeats 400000 in
theorem leap_calls (y : Int) (w : World) : Calls Tryz.prog 195 #[.int .i64 y] w fun e w' => e = .returned (.bool (leap y)) ∧ w = w' := by
  by_cases c1 : 1 ≤ y
  · by_cases c2 : y ≤ 9999
    · by_cases c3 : y % 4 = 0
      · have b3 : (y % 4 == 0) = true := by simpa using c3
        by_cases c4 : y % 100 = 0
        · have b4 : (y % 100 == 0) = true := by simpa using c4
          have b4' : (y % 100 != 0) = false := by simpa using c4
          by_cases c5 : y % 400 = 0
          · have b5 : (y % 400 == 0) = true := by simpa using c5
            have e1 : leap y = true := by simp [leap, c1, c2, c3, c5]
            rw [e1]
            clear c3 c4 c5 e1
            go_enter Tryz.func195, Tryz.ntmps195
            go_wp2
            go_ret
            exact ⟨rfl, rfl⟩
          · have b5 : (y % 400 == 0) = false := by simpa using c5
            have e1 : leap y = false := by simp [leap, c1, c2, c3, c4, c5]
            rw [e1]
            clear c3 c4 c5 e1
            go_enter Tryz.func195, Tryz.ntmps195
            go_wp2
            go_ret
            exact ⟨rfl, rfl⟩
        · have b4' : (y % 100 != 0) = true := by simpa using c4
          have e1 : leap y = true := by simp [leap, c1, c2, c3, c4]
          rw [e1]
          clear c3 c4 e1
          go_enter Tryz.func195, Tryz.ntmps195
          go_wp2
          go_ret
          exact ⟨rfl, rfl⟩
      · have b3 : (y % 4 == 0) = false := by simpa using c3
        have e1 : leap y = false := by simp [leap, c1, c2, c3]
        rw [e1]
        clear c3 e1
        go_enter Tryz.func195, Tryz.ntmps195
        go_wp2
        go_ret
        exact ⟨rfl, rfl⟩
    · have e1 : leap y = false := by simp [leap, c1, c2]
      rw [e1]
      clear e1
      go_enter Tryz.func195, Tryz.ntmps195
      go_wp2
      go_ret
      exact ⟨rfl, rfl⟩
  · have e1 : leap y = false := by simp [leap, c1]
    rw [e1]
    clear e1
    go_enter Tryz.func195, Tryz.ntmps195
    go_wp2
    go_ret
    exact ⟨rfl, rfl⟩

set_option maxHeartbeats 400000 in
theorem days_calls (y m : Int) (w : World) : Calls Tryz.prog 181 #[.int .i64 y, .int .i64 m] w fun e w' => e = .returned (.int .i64 (dm y m)) ∧ w = w' := by
  by_cases c0 : m = 4 ∨ m = 6 ∨ m = 9 ∨ m = 11
  · have e1 : dm y m = 30 := by simp [dm, c0]
    rw [e1]
    clear e1
    rcases c0 with rfl | rfl | rfl | rfl
    all_goals
      go_enter Tryz.func181, Tryz.ntmps181
      go_wp2
      go_ret
      exact ⟨rfl, rfl⟩
  · have n4 : (m == 4) = false := by simp; omega
    have n6 : (m == 6) = false := by simp; omega
    have n9 : (m == 9) = false := by simp; omega
    have n11 : (m == 11) = false := by simp; omega
    by_cases c1 : m = 2
    · subst c1
      by_cases c2 : y = 0
      · subst c2
        have e1 : dm 0 2 = 29 := by simp [dm]
        rw [e1]
        clear e1 c0 n4 n6 n9 n11
        go_enter Tryz.func181, Tryz.ntmps181
        go_wp2
        go_ret
        exact ⟨rfl, rfl⟩
      · have b2 : (y == 0) = false := by simpa using c2
        cases hl : leap y with
        | true =>
          have e1 : dm y 2 = 29 := by simp [dm, hl]
          rw [e1]
          have HL := hd hl
          clear e1 c0 n4 n6 n9 n11 c2 hl
          go_enter Tryz.func181, Tryz.ntmps181
          go_wp2_with fail
          refine (leap_calls y w).mono ?_
          rintro e w' ⟨rfl, rfl⟩
          rw [HL.o]
          go_wp2
          go_ret
          exact ⟨rfl, rfl⟩
        | false =>
          have e1 : dm y 2 = 28 := by simp [dm, hl, c2]
          rw [e1]
          have HL := hd hl
          clear e1 c0 n4 n6 n9 n11 c2 hl
          go_enter Tryz.func181, Tryz.ntmps181
          go_wp2_with fail
          refine (leap_calls y w).mono ?_
          rintro e w' ⟨rfl, rfl⟩
          rw [HL.o]
          go_wp2
          go_ret
          exact ⟨rfl, rfl⟩
    · have n2 : (m == 2) = false := by simpa using c1
      have e1 : dm y m = 31 := by simp [dm, c0, c1]
      rw [e1]
      clear e1 c0 c1
      go_enter Tryz.func181, Tryz.ntmps181
      go_wp2
      go_ret
      exact ⟨rfl, rfl⟩

set_option maxHeartbeats 400000 in
theorem may_calls (y m d : Int) (w : World) : Calls Tryz.prog 161 #[.agg #[.int .i64 y, .int .i64 m, .int .i64 d]] w fun e w' => e = .returned (.bool (mayB y m d)) ∧ Below w.heap.size w w' := by
  by_cases hh : 0 ≤ y ∧ y ≤ 9999 ∧ 1 ≤ m ∧ m ≤ 12 ∧ 1 ≤ d
  · obtain ⟨c1, c2, c3, c4, c5⟩ := hh
    have e1 : mayB y m d = decide (d ≤ dm y m) := by simp [mayB, c1, c2, c3, c4, c5]
    rw [e1]
    clear e1
    go_enter Tryz.func161, Tryz.ntmps161
    go_wp2_with fail
    go_quiet ((go_at_call 181; exact q1 (days_calls y m _)))
    go_wp2
    go_ret
    exact ⟨rfl, bdrewN ((Below.refl _ _).alloc (Nat.le_refl _) _) _⟩
  · have e1 : mayB y m d = false := by
      cases h : mayB y m d with
      | false => rfl
      | true => rw [mayB_iff] at h; omega
    rw [e1]
    clear e1
    have hc : y < 0 ∨ (0 ≤ y ∧ 9999 < y) ∨ (0 ≤ y ∧ y ≤ 9999 ∧ m < 1) ∨ (0 ≤ y ∧ y ≤ 9999 ∧ 1 ≤ m ∧ 12 < m) ∨ (0 ≤ y ∧ y ≤ 9999 ∧ 1 ≤ m ∧ m ≤ 12 ∧ d < 1) := by omega
    clear hh
    rcases hc with c1 | ⟨c1, c2⟩ | ⟨c1, c2, c3⟩ | ⟨c1, c2, c3, c4⟩ | ⟨c1, c2, c3, c4, c5⟩
    · have b : decide (0 ≤ y) = false := by simp; omega
      go_enter Tryz.func161, Tryz.ntmps161
      go_wp2_with fail
      go_quiet (fail)
      go_wp2
      go_ret
      exact ⟨rfl, bdrewN ((Below.refl _ _).alloc (Nat.le_refl _) _) _⟩
    · have b : decide (y ≤ 9999) = false := by simp; omega
      go_enter Tryz.func161, Tryz.ntmps161
      go_wp2_with fail
      go_quiet (fail)
      go_wp2
      go_ret
      exact ⟨rfl, bdrewN ((Below.refl _ _).alloc (Nat.le_refl _) _) _⟩
    · have b : decide (1 ≤ m) = false := by simp; omega
      go_enter Tryz.func161, Tryz.ntmps161
      go_wp2_with fail
      go_quiet (fail)
      go_wp2
      go_ret
      exact ⟨rfl, bdrewN ((Below.refl _ _).alloc (Nat.le_refl _) _) _⟩
    · have b : decide (m ≤ 12) = false := by simp; omega
      go_enter Tryz.func161, Tryz.ntmps161
      go_wp2_with fail
      go_quiet (fail)
      go_wp2
      go_ret
      exact ⟨rfl, bdrewN ((Below.refl _ _).alloc (Nat.le_refl _) _) _⟩
    · have b : decide (1 ≤ d) = false := by simp; omega
      go_enter Tryz.func161, Tryz.ntmps161
      go_wp2_with fail
      go_quiet (fail)
      go_wp2
      go_ret
      exact ⟨rfl, bdrewN ((Below.refl _ _).alloc (Nat.le_refl _) _) _⟩

/-- The table that strconv reads. -/
def Tab (w : World) : Prop := Lib.TabIs Tryz.prog w "internal/strconv.uint64pow10" .u64 Lib.pow10Tab

theorem itoa_calls (n : Int) (h0 : -9223372036854775808 ≤ n) (h1 : n ≤ 9223372036854775807) (w : World) (ht : Tab w) :
    Calls Tryz.prog 196 #[.int .i64 n] w fun e w' => e = .returned (.string ⟨(Lib.itoa n).toArray⟩) ∧ Below w.heap.size w w' := by
  refine (Any.strconv_Itoa laysM171 n h0 h1 w ht).mono ?_
  rintro e w' ⟨rfl, k, os, rfl⟩
  exact ⟨rfl, rfl, rfl, rfl, by simp [Go.Sort.grow], fun i hi => by rw [Go.Sort.heap_grow_old _ _ (by simpa using hi)]; rfl⟩
theorem itoa_small (n : Nat) (hn : n < 100) (w : World) :
    Calls Tryz.prog 196 #[.int .i64 n] w fun e w' => e = .returned (.string ⟨(Lib.decDigits n).toArray⟩) ∧ w = w' :=
  (Any.strconv_Itoa_small lays171 n hn w).mono fun _ _ ⟨he, hw⟩ => ⟨he, hw.symm⟩

def pad (k : Nat) (l : List UInt8) : List UInt8 := List.replicate (k - l.length) 48 ++ l

theorem digits_calls (n : Int) (k : Nat) (hk : k ≤ 4) (l : List UInt8) (hl : l.length ≤ 20) (w : World) (R : World → Prop) (h : Calls Tryz.prog 196 #[.int .i64 n] w fun e w' => e = .returned (.string ⟨l.toArray⟩) ∧ R w') :
    Calls Tryz.prog 182 #[.int .i64 n, .int .i64 k] w fun e w' => e = .returned (.string (bs (pad k l))) ∧ R w' := by
  go_enter Tryz.func182, Tryz.ntmps182
  go_wp2_with fail
  refine h.mono ?_
  rintro e w' ⟨rfl, hR⟩
  have HR := hd hR
  clear hR h
  go_wp2_with fail
  go_loop [5] (fun s => ∃ b : ByteArray, s = .string b ∧ b.size ≤ 24 ∧ Hd (∃ j, b.data.toList = List.replicate j 48 ++ l ∧ (j = 0 ∨ j + l.length ≤ k))) (fun s => match s with | .string b => k - b.size | _ => 0)
  case atStart => exact ⟨_, rfl, by simpa [ByteArray.size] using (by omega : l.length ≤ 24), 0, by simp, .inl rfl⟩
  case round =>
    obtain ⟨b, rfl, hb, hh⟩ := hrel
    by_cases hlt : b.size < k
    · go_wp2_with fail
      go_round
      case rel =>
        obtain ⟨j, hj, hjk⟩ := hh.o
        have hsz : ((⟨#[48]⟩ : ByteArray) ++ b).size = b.size + 1 := by rw [ba_size, ba_app, ba_size]; simp
        refine ⟨_, rfl, by omega, j + 1, ?_, .inr ?_⟩
        · rw [ba_app, hj, List.replicate_succ]; rfl
        · rw [ba_size, hj] at hlt; simp at hlt; omega
      case measure =>
        have hsz : ((⟨#[48]⟩ : ByteArray) ++ b).size = b.size + 1 := by rw [ba_size, ba_app, ba_size]; simp
        show k - _ < k - b.size
        omega
    · go_wp2_with fail
      go_ret
      refine ⟨ret_val (a := .string b) (congrArg Value.string (ba_ext ?_)), HR.o⟩
      obtain ⟨j, hj, hjk⟩ := hh.o
      show b.data.toList = pad k l
      rw [hj, pad]
      have : j = k - l.length := by rw [ba_size, hj] at hlt; simp at hlt; omega
      rw [this]

theorem dig_lt (n : Nat) (hn : n < 10) : Lib.decDigits n = [UInt8.ofNat (48 + n)] := by rw [Lib.decDigits]; simp [hn]
theorem dig_ge (n : Nat) (hn : 10 ≤ n) : Lib.decDigits n = Lib.decDigits (n / 10) ++ [UInt8.ofNat (48 + n % 10)] := by
  rw [Lib.decDigits]; simp [show ¬ n < 10 by omega]
def sh2 (n : Nat) : List UInt8 := [UInt8.ofNat (48 + n / 10 % 10), UInt8.ofNat (48 + n % 10)]
def sh4 (n : Nat) : List UInt8 := sh2 (n / 100) ++ sh2 n
theorem pad2 (n : Nat) (hn : n < 100) : pad 2 (Lib.decDigits n) = sh2 n := by
  by_cases h : n < 10
  · rw [dig_lt n h, sh2, show n / 10 % 10 = 0 by omega, show n % 10 = n by omega]; rfl
  · rw [dig_ge n (by omega), dig_lt (n / 10) (by omega), sh2, show n / 10 % 10 = n / 10 by omega]; rfl
theorem pad4 (n : Nat) (hn : n < 10000) : pad 4 (Lib.decDigits n) = sh4 n := by
  unfold sh4 sh2
  by_cases h : n < 10
  · rw [dig_lt n h, show n / 100 / 10 % 10 = 0 by omega, show n / 100 % 10 = 0 by omega, show n / 10 % 10 = 0 by omega, show n % 10 = n by omega]; rfl
  · rw [dig_ge n (by omega)]
    by_cases h2 : n < 100
    · rw [dig_lt (n / 10) (by omega), show n / 100 / 10 % 10 = 0 by omega, show n / 100 % 10 = 0 by omega, show n / 10 % 10 = n / 10 by omega]; rfl
    · rw [dig_ge (n / 10) (by omega)]
      by_cases h3 : n < 1000
      · rw [dig_lt (n / 10 / 10) (by omega), show n / 100 / 10 % 10 = 0 by omega, show n / 100 % 10 = n / 10 / 10 by omega]; rfl
      · rw [dig_ge (n / 10 / 10) (by omega), dig_lt (n / 10 / 10 / 10) (by omega), show n / 100 / 10 % 10 = n / 10 / 10 / 10 by omega, show n / 100 % 10 = n / 10 / 10 % 10 by omega]; rfl
theorem len4 (n : Nat) (hn : n < 10000) : (Lib.decDigits n).length ≤ 4 := by
  have := congrArg List.length (pad4 n hn)
  simp [pad, sh4, sh2] at this
  omega

theorem digits2 (n : Int) (h0 : 0 ≤ n) (h1 : n < 100) (w : World) :
    Calls Tryz.prog 182 #[.int .i64 n, .int .i64 2] w fun e w' => e = .returned (.string (bs (sh2 n.toNat))) ∧ w = w' := by
  obtain ⟨m, rfl⟩ := Int.eq_ofNat_of_zero_le h0
  rw [Int.toNat_natCast, ← pad2 m (by omega)]
  exact digits_calls m 2 (by omega) _ (by have := len4 m (by omega); omega) w (fun w' => w = w') (itoa_small m (by omega) w)

theorem digits4 (n : Int) (h0 : 0 ≤ n) (h1 : n ≤ 9999) (w : World) (ht : Tab w) :
    Calls Tryz.prog 182 #[.int .i64 n, .int .i64 4] w fun e w' => e = .returned (.string (bs (sh4 n.toNat))) ∧ Below w.heap.size w w' := by
  obtain ⟨m, rfl⟩ := Int.eq_ofNat_of_zero_le h0
  rw [Int.toNat_natCast, ← pad4 m (by omega)]
  have hi := itoa_calls (m : Int) (by omega) (by omega) w ht
  rw [show Lib.itoa (m : Int) = Lib.decDigits m by simp [Lib.itoa]] at hi
  exact digits_calls m 4 (by omega) _ (by have := len4 m (by omega); omega) w (fun w' => Below w.heap.size w w') hi

end Go.Proofs.YtogjokofmfpmgaaGreatDoor
namespace Go.Proofs.YtogjokofmfpmgaaGreatDoor
open Go.RowKit

/-- A date's text. -/
def showL (y m d : Int) : List UInt8 := if mayB y m d = true then (if y = 0 then [45] else sh4 y.toNat) ++ 45 :: (sh2 m.toNat ++ 45 :: sh2 d.toNat) else []

theorem Tab.below {w w' : World} (h : Tab w) (hb : Below w.heap.size w w') : Tab w' := by
  unfold Tab Lib.TabIs at *
  obtain ⟨g, hg⟩ : ∃ g, Tryz.prog.globalNamed "internal/strconv.uint64pow10" = some g := by
    cases hgn : Tryz.prog.globalNamed "internal/strconv.uint64pow10" with
    | none => simp [World.var?, hgn] at h
    | some g => exact ⟨g, rfl⟩
  simp only [World.var?, hg, Option.bind_some] at h ⊢
  rw [hb.block g ?_]
  · exact h
  · rcases Nat.lt_or_ge g w.heap.size with hlt | hge
    · exact hlt
    · simp [Array.getElem?_eq_none hge] at h

set_option maxHeartbeats 800000 in
theorem show_yes (y m d : Int) (w : World) (hm : mayB y m d = true) (ht : Tab w) : Calls Tryz.prog 162 #[.agg #[.int .i64 y, .int .i64 m, .int .i64 d]] w fun e w' => e = .returned (.string (bs (showL y m d))) ∧ Below w.heap.size w w' := by
  have hdm := dm_bd y m
  have hb := (mayB_iff y m d).1 hm
  obtain ⟨c1, c2, c3, c4, c5, c6⟩ := hb
  have c7 : d ≤ 31 := by omega
  clear c6 hdm
  have HM := hd hm
  clear hm
  have HT := hd ht
  clear ht
  have hcell : ∀ W, Below (w.alloc (.cells #[.int .i64 y, .int .i64 m, .int .i64 d] 158)).heap.size (w.alloc (.cells #[.int .i64 y, .int .i64 m, .int .i64 d] 158)) W → Blk W w.heap.size 158 #[.int .i64 y, .int .i64 m, .int .i64 d] := fun W hb => (Blk.new w _ _).below hb (by simp)
  have HC := hd hcell
  clear hcell
  have z1 : (bs (sh2 m.toNat)).size = 2 := rfl
  have z2 : (bs (sh2 d.toNat)).size = 2 := rfl
  have z3 : (bs (sh4 y.toNat)).size = 4 := rfl
  by_cases hy : y = 0
  · subst hy
    go_enter Tryz.func162, Tryz.ntmps162
    go_wp2_with fail
    refine (may_calls 0 m d _).mono ?_
    rintro e w1 ⟨rfl, hb⟩
    rw [HM.o]
    have hk := HC.o w1 hb
    have h0 := hk.at_ 0 rfl
    have h1 := hk.at_ 1 rfl
    have h2 := hk.at_ 2 rfl
    clear hk
    go_wp2_with fail
    go_quiet ((go_at_call 182; exact q1 (digits2 _ (by omega) (by omega) _)))
    go_wp2
    go_ret
    refine ⟨ret_val (congrArg Value.string (ba_ext ?_)), ?_⟩
    · simp [showL, HM.o, bs_data]
    · exact ((Below.refl _ w).alloc (Nat.le_refl _) _).trans ((bdrewN hb _).mono (by simp))
  · have hne : (y != 0) = true := by simpa using hy
    have HY := hd hy
    clear hy
    go_enter Tryz.func162, Tryz.ntmps162
    go_wp2_with fail
    refine (may_calls y m d _).mono ?_
    rintro e w1 ⟨rfl, hb⟩
    rw [HM.o]
    have hk := HC.o w1 hb
    have h0 := hk.at_ 0 rfl
    clear hk
    have hbw : Below w.heap.size w w1 := ((Below.refl _ w).alloc (Nat.le_refl _) _).trans (hb.mono (by simp))
    go_wp2_with fail
    refine (digits4 y c1 c2 w1 (HT.o.below hbw)).mono ?_
    rintro e w2 ⟨rfl, hb2⟩
    have hk := HC.o w2 (hb.trans (hb2.mono hb.size))
    have h1 := hk.at_ 1 rfl
    have h2 := hk.at_ 2 rfl
    clear hk
    go_wp2_with fail
    go_quiet ((go_at_call 182; exact q1 (digits2 _ (by omega) (by omega) _)))
    go_wp2
    go_ret
    refine ⟨ret_val (congrArg Value.string (ba_ext ?_)), ?_⟩
    · simp [showL, HM.o, HY.o, bs_data]
    · exact hbw.trans ((bdrewN hb2 _).mono hbw.size)

end Go.Proofs.YtogjokofmfpmgaaGreatDoor
namespace Go.Proofs.YtogjokofmfpmgaaGreatDoor
open Go.RowKit Go.Lib

structure Fld where
  k : Int
  l : Int
  v : List UInt8
deriving DecidableEq
def noFld : Fld := ⟨0, 0, []⟩
theorem fld_ext {f g : Fld} (h1 : f.k = g.k) (h2 : f.l = g.l) (h3 : f.v = g.v) : f = g := by
  cases f; cases g; simp at *; exact ⟨h1, h2, h3⟩
def fldV (f : Fld) : Value := .agg #[.int .i64 f.k, .int .i64 f.l, .string (bs f.v)]
def LessP (f g : Fld) : Prop := f.k < g.k ∨ (f.k = g.k ∧ (f.l < g.l ∨ (f.l = g.l ∧ compareBytes f.v g.v < 0)))
instance (f g : Fld) : Decidable (LessP f g) := by unfold LessP; infer_instance
def lessF (f g : Fld) : Bool := decide (LessP f g)
theorem less_irr (f : Fld) : ¬ LessP f f := by
  rintro (h | ⟨_, h | ⟨_, h⟩⟩)
  · omega
  · omega
  · rw [cmp_self] at h; omega
theorem less_trans {f g h : Fld} (h1 : LessP f g) (h2 : LessP g h) : LessP f h := by
  rcases h1 with h1 | ⟨e1, h1 | ⟨d1, h1⟩⟩ <;> rcases h2 with h2 | ⟨e2, h2 | ⟨d2, h2⟩⟩
  · left; omega
  · left; omega
  · left; omega
  · left; omega
  · right; exact ⟨by omega, .inl (by omega)⟩
  · right; exact ⟨by omega, .inl (by omega)⟩
  · left; omega
  · right; exact ⟨by omega, .inl (by omega)⟩
  · right; exact ⟨by omega, .inr ⟨by omega, cmp_trans h1 h2⟩⟩
theorem less_asym {f g : Fld} (h : LessP f g) : ¬ LessP g f := fun k => less_irr f (less_trans h k)
theorem less_tot {f g : Fld} (h : f ≠ g) : LessP f g ∨ LessP g f := by
  by_cases h1 : f.k < g.k
  · exact .inl (.inl h1)
  · by_cases h2 : g.k < f.k
    · exact .inr (.inl h2)
    · have e1 : f.k = g.k := by omega
      by_cases h3 : f.l < g.l
      · exact .inl (.inr ⟨e1, .inl h3⟩)
      · by_cases h4 : g.l < f.l
        · exact .inr (.inr ⟨e1.symm, .inl h4⟩)
        · have e2 : f.l = g.l := by omega
          have hv : f.v ≠ g.v := fun e => h (fld_ext e1 e2 e)
          by_cases h5 : compareBytes f.v g.v < 0
          · exact .inl (.inr ⟨e1, .inr ⟨e2, h5⟩⟩)
          · exact .inr (.inr ⟨e1.symm, .inr ⟨e2.symm, cmp_not h5 hv⟩⟩)
theorem less_not {f g : Fld} (h : ¬ LessP f g) (hn : f ≠ g) : LessP g f := (less_tot hn).resolve_left h


end Go.Proofs.YtogjokofmfpmgaaGreatDoor
