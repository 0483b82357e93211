/-
  Sums of frames, the program's and the reference's.
-/
import Derived.Test.YtogjokofmfpmgaaGreatDoorGAI
import Derived.Test.YtogjokofmfpmgaaGreatDoorGAA
import Derived.Test.YtogjokofmfpmgaaGreatDoorGAJ
import Derived.BigQuiet
import Derived.Deep.QuietTactic
import Derived.Laws.BitsLemmas
import Derived.WalkLawsBesides
import Derived.StillTailTactics
set_option linter.unusedVariables false
set_option linter.unusedSimpArgs false
namespace Go.Proofs.YtogjokofmfpmgaaGreatDoor
open Go.RowKit

theorem orI (a x : Int) (h0 : 0 ≤ a) (h1 : a < 2 ^ 40) (h2 : 0 ≤ x) (h3 : x < 256) : bits .or .i64 (a * 256) x = a * 256 + x := by
  obtain ⟨a, rfl⟩ := Int.eq_ofNat_of_zero_le h0
  obtain ⟨x, rfl⟩ := Int.eq_ofNat_of_zero_le h2
  have key : (BitVec.ofInt 64 ((a : Int) * 256) ||| BitVec.ofInt 64 (x : Int)).toNat = a * 256 + x := by
    rw [BitVec.toNat_or, BitVec.toNat_ofInt, BitVec.toNat_ofInt]
    rw [show (((a : Int) * 256) % ((2 ^ 64 : Nat) : Int)).toNat = a * 256 by omega, show ((x : Int) % ((2 ^ 64 : Nat) : Int)).toNat = x by omega]
    have := Nat.two_pow_add_eq_or_of_lt (i := 8) (b := x) (by omega) a
    rw [show a * 256 = 2 ^ 8 * a by omega, ← this]
  show IntKind.i64.wrap ((BitVec.ofInt 64 ((a : Int) * 256) ||| BitVec.ofInt 64 (x : Int)).toNat : Nat) = _
  rw [key, IntKind.wrap_i64]
  omega
theorem andN (x y : Nat) (h : x ≤ 9223372036854775807) (e : x % 256 = y) : bits .and .i64 (x : Int) 255 = (y : Int) := by
  rw [and255 _ (by omega) (by omega), ← e]
  omega

set_option maxHeartbeats 4000000 in
theorem sum_calls (k : Nat) (s : ByteArray) (hk : k < 256) (hs : s.size ≤ 1000000000) (w : World) : Calls Tryz.prog 82 #[.int .i64 k, .string s] w fun e w' => e = .returned (.int .i64 (sumF k s.data.toList : Nat)) ∧ w = w' := by
  obtain ⟨a0, ha0⟩ : ∃ a0, (1 + k) % 256 = a0 := ⟨_, rfl⟩
  have hal : a0 < 256 := by omega
  have e0 : bits .and .i64 (k : Int) 255 = (k : Int) := andN k k (by omega) (by omega)
  have e1 : bits .and .i64 (1 + (k : Int)) 255 = (a0 : Int) := by have := andN (1 + k) a0 (by omega) ha0; push_cast at this; exact this
  have e2 : bits .and .i64 (a0 : Int) 255 = (a0 : Int) := andN a0 a0 (by omega) (by omega)
  have HA := hd (show fsum k (s.data.toList.take 0) = (a0, a0) by show fst0 k = _; unfold fst0; rw [ha0])
  clear ha0
  go_enter Tryz.func82, Tryz.ntmps82
  go_wp2
  go_loop [19, 7, 5, 6] (fun i _ a b => ∃ (j x y : Nat), i = .int .i64 j ∧ a = .int .i64 x ∧ b = .int .i64 y ∧ j ≤ s.size ∧ x < 256 ∧ y < 256 ∧ Hd (fsum k (s.data.toList.take j) = (x, y))) (fun i _ _ _ => s.size - (intOf i).toNat)
  case atStart => exact ⟨0, a0, a0, rfl, rfl, rfl, Nat.zero_le _, hal, hal, HA⟩
  case round =>
    obtain ⟨j, x, y, rfl, rfl, rfl, hj, hx, hy, HF⟩ := hrel
    clear e0 e1 e2
    by_cases hlt : j < s.size
    · have hji : (j : Int) < (s.size : Int) := by omega
      have hj0 : (0 : Int) ≤ (j : Int) := by omega
      obtain ⟨x2, hx2⟩ : ∃ x2, (x + s[j].toNat) % 256 = x2 := ⟨_, rfl⟩
      obtain ⟨y2, hy2⟩ : ∃ y2, (y + x2) % 256 = y2 := ⟨_, rfl⟩
      have hc := s[j].toNat_lt
      have f1 : bits .and .i64 ((x : Int) + (s[j].toNat : Int)) 255 = (x2 : Int) := by have := andN (x + s[j].toNat) x2 (by omega) hx2; push_cast at this; exact this
      have f2 : bits .and .i64 ((y : Int) + (x2 : Int)) 255 = (y2 : Int) := by have := andN (y + x2) y2 (by omega) hy2; push_cast at this; exact this
      have hxl : x2 < 256 := by omega
      have hyl : y2 < 256 := by omega
      have HN := hd (show fsum k (s.data.toList.take (j + 1)) = (x2, y2) by
        rw [fsum_take k _ j (by simpa using hlt), HF.o, fstep]
        rw [show s.data.toList[j]'(by simpa using hlt) = s[j] from rfl]
        simp only [hx2, hy2])
      clear hx2 hy2
      go_wp2
      go_round
      case rel => exact ⟨j + 1, x2, y2, by go_num, rfl, rfl, by omega, hxl, hyl, HN⟩
      case measure => simp [intOf]; omega
    · obtain rfl : j = s.size := by omega
      have g : bits .or .i64 ((y : Int) * 256) (x : Int) = (y : Int) * 256 + (x : Int) := orI _ _ (by omega) (by omega) (by omega) (by omega)
      have HV := hd (show ((sumF k s.data.toList : Nat) : Int) = (y : Int) * 256 + (x : Int) by
        have h := HF.o
        rw [List.take_of_length_le (by simp)] at h
        unfold sumF
        rw [h]; show ((y * 256 + x : Nat) : Int) = _; omega)
      go_wp2
      go_ret
      exact ⟨ret_int HV.o.symm, rfl⟩

set_option maxHeartbeats 4000000 in
theorem rsum_calls (k : Nat) (s : ByteArray) (hk : k < 256) (hs : s.size ≤ 1000000000) (w : World) : Calls Tryz.prog 99 #[.int .i64 k, .string s] w fun e w' => e = .returned (.int .i64 (sumF k s.data.toList : Nat)) ∧ w = w' := by
  obtain ⟨a0, ha0⟩ : ∃ a0, (1 + k) % 256 = a0 := ⟨_, rfl⟩
  have hal : a0 < 256 := by omega
  have e0 : bits .and .i64 (k : Int) 255 = (k : Int) := andN k k (by omega) (by omega)
  have e1 : (1 + (k : Int)).tmod 256 = (a0 : Int) := by rw [Int.tmod_eq_emod_of_nonneg (by omega)]; omega
  have HA := hd (show fsum k (s.data.toList.take 0) = (a0, a0) by show fst0 k = _; unfold fst0; rw [ha0])
  clear ha0
  go_enter Tryz.func99, Tryz.ntmps99
  go_wp2
  go_loop [7, 5, 6] (fun i a b => ∃ (j x y : Nat), i = .int .i64 j ∧ a = .int .i64 x ∧ b = .int .i64 y ∧ j ≤ s.size ∧ x < 256 ∧ y < 256 ∧ Hd (fsum k (s.data.toList.take j) = (x, y))) (fun i _ _ => s.size - (intOf i).toNat)
  case atStart => exact ⟨0, a0, a0, rfl, by first | rfl | (congr 1; omega), by first | rfl | (congr 1; omega), Nat.zero_le _, hal, hal, HA⟩
  case round =>
    obtain ⟨j, x, y, rfl, rfl, rfl, hj, hx, hy, HF⟩ := hrel
    clear e0 e1
    by_cases hlt : j < s.size
    · have hji : (j : Int) < (s.size : Int) := by omega
      have hj0 : (0 : Int) ≤ (j : Int) := by omega
      obtain ⟨x2, hx2⟩ : ∃ x2, (x + s[j].toNat) % 256 = x2 := ⟨_, rfl⟩
      obtain ⟨y2, hy2⟩ : ∃ y2, (y + x2) % 256 = y2 := ⟨_, rfl⟩
      have hc := s[j].toNat_lt
      have f1 : ((x : Int) + (s[j].toNat : Int)).tmod 256 = (x2 : Int) := by rw [Int.tmod_eq_emod_of_nonneg (by omega)]; omega
      have f2 : ((y : Int) + (x2 : Int)).tmod 256 = (y2 : Int) := by rw [Int.tmod_eq_emod_of_nonneg (by omega)]; omega
      have hxl : x2 < 256 := by omega
      have hyl : y2 < 256 := by omega
      have HN := hd (show fsum k (s.data.toList.take (j + 1)) = (x2, y2) by
        rw [fsum_take k _ j (by simpa using hlt), HF.o, fstep]
        rw [show s.data.toList[j]'(by simpa using hlt) = s[j] from rfl]
        simp only [hx2, hy2])
      clear hx2 hy2
      go_wp2
      go_round
      case rel => exact ⟨j + 1, x2, y2, by go_num, rfl, rfl, by omega, hxl, hyl, HN⟩
      case measure => simp [intOf]; omega
    · obtain rfl : j = s.size := by omega
      have HV := hd (show ((sumF k s.data.toList : Nat) : Int) = 256 * (y : Int) + (x : Int) by
        have h := HF.o
        rw [List.take_of_length_le (by simp)] at h
        unfold sumF
        rw [h]; show ((y * 256 + x : Nat) : Int) = _; omega)
      go_wp2
      go_ret
      exact ⟨ret_int HV.o.symm, rfl⟩
end Go.Proofs.YtogjokofmfpmgaaGreatDoor
namespace Go.Proofs.YtogjokofmfpmgaaGreatDoor
open Go.RowKit

theorem orU (a x : Int) (h0 : 0 ≤ a) (h1 : a < 2 ^ 56) (h2 : 0 ≤ x) (h3 : x < 256) : bits .or .u64 (a * 256) x = a * 256 + x := by
  obtain ⟨a, rfl⟩ := Int.eq_ofNat_of_zero_le h0
  obtain ⟨x, rfl⟩ := Int.eq_ofNat_of_zero_le h2
  have key : (BitVec.ofInt 64 ((a : Int) * 256) ||| BitVec.ofInt 64 (x : Int)).toNat = a * 256 + x := by
    rw [BitVec.toNat_or, BitVec.toNat_ofInt, BitVec.toNat_ofInt]
    rw [show (((a : Int) * 256) % ((2 ^ 64 : Nat) : Int)).toNat = a * 256 by omega, show ((x : Int) % ((2 ^ 64 : Nat) : Int)).toNat = x by omega]
    have := Nat.two_pow_add_eq_or_of_lt (i := 8) (b := x) (by omega) a
    rw [show a * 256 = 2 ^ 8 * a by omega, ← this]
  show IntKind.u64.wrap ((BitVec.ofInt 64 ((a : Int) * 256) ||| BitVec.ofInt 64 (x : Int)).toNat : Nat) = _
  rw [key]
  show (((a * 256 + x : Nat) : Int)) % (18446744073709551616 : Int) = _
  omega

/-- What 'number' tells of the place at. -/
inductive NumR (l : List UInt8) (k : Nat) (e : Ending) : Prop
  | no (x : Int) : x = 14 ∨ x = 1 → numAt (l.drop k) = none → e = .returned (.tuple #[.int .i64 0, .int .i64 0, .int .i64 x]) → NumR l k e
  | yes (v : Int) (q : Nat) : numAt (l.drop k) = some (v, l.drop q) → k < q → q ≤ l.length → e = .returned (.tuple #[.int .i64 v, .int .i64 q, .int .i64 0]) → NumR l k e

theorem drop_at {l : List UInt8} {k : Nat} (h : k < l.length) : l.drop k = l[k] :: l.drop (k + 1) := List.drop_eq_getElem_cons h
theorem num_nil {l : List UInt8} {k : Nat} (h : l.length ≤ k) : numAt (l.drop k) = none := by rw [List.drop_of_length_le h]; rfl
theorem num_one {l : List UInt8} {k : Nat} (h : k < l.length) (h2 : l[k].toNat ≤ 247) : numAt (l.drop k) = some ((l[k].toNat : Int), l.drop (k + 1)) := by
  rw [drop_at h]
  unfold numAt
  simp only
  rw [if_pos h2]
theorem num_short {l : List UInt8} {k : Nat} (h : k < l.length) (h2 : 247 < l[k].toNat) (h3 : l.length - k - 1 < l[k].toNat - 247) : numAt (l.drop k) = none := by
  rw [drop_at h]
  unfold numAt
  simp only
  rw [if_neg (by omega), if_pos (by rw [List.length_drop]; omega)]
theorem num_long {l : List UInt8} {k : Nat} (h : k < l.length) (h2 : 247 < l[k].toNat) (h3 : ¬ l.length - k - 1 < l[k].toNat - 247) :
    numAt (l.drop k) = if (l.drop (k + 1)).headD 0 = 0 ∨ val ((l.drop (k + 1)).take (l[k].toNat - 247)) ≤ 247 ∨ 2 ^ 63 ≤ val ((l.drop (k + 1)).take (l[k].toNat - 247)) then none
      else some ((val ((l.drop (k + 1)).take (l[k].toNat - 247)) : Int), l.drop (k + 1 + (l[k].toNat - 247))) := by
  rw [drop_at h]
  unfold numAt
  simp only
  rw [if_neg (by omega), if_neg (by rw [List.length_drop]; omega)]
  split
  · rfl
  · rw [List.drop_drop]

set_option maxRecDepth 100000 in
set_option maxHeartbeats 4000000 in
theorem pnumber_calls (w : World) (g : Nat) (A : Option Addr) (n c : Nat) (l : List UInt8) (k k0 : Nat) (e0 : Int) (hb : Blk w g 113 #[.slice A n c, .int .i64 k0, .int .i64 e0]) (hr : Rds w A n 1 (u8E l)) (hnc : n ≤ c) (hn : n = l.length) (hs : n ≤ 1000000) (hk : k ≤ n) :
    Calls Tryz.prog 84 #[.pointer (some ⟨g, 0, none⟩), .int .i64 k] w fun e w' => NumR l k e ∧ w = w' := by
  have b0 := hb.at_ 0 rfl
  have HN := hd hn
  by_cases h1 : n ≤ k
  · have HV := hd (num_nil (l := l) (k := k) (by rw [← hn]; exact h1))
    clear hr hn hb
    go_enter Tryz.func84, Tryz.ntmps84
    go_wp2
    go_ret3
    exact ⟨.no 14 (.inl rfl) HV.o rfl, rfl⟩
  have hkn : k < n := by omega
  have hkl : k < l.length := by omega
  obtain ⟨g1, o1, rfl, hg1, hc⟩ := hr.at_ (by omega)
  have c0 : w.cell? ⟨g1, o1 + k, none⟩ = some (.int .u8 l[k].toNat) := hc k _ (u8E_at l k hkl)
  have hf := l[k].toNat_lt
  by_cases h2 : l[k].toNat ≤ 247
  · have HV := hd (num_one hkl h2)
    obtain ⟨f, hfe⟩ : ∃ f, l[k].toNat = f := ⟨_, rfl⟩
    rw [hfe] at HV c0 h2
    have h2i : decide ((f : Int) ≤ 247) = true := by simp; omega
    clear hr hn hb hc hfe hf
    go_enter Tryz.func84, Tryz.ntmps84
    go_wp2
    go_ret3
    exact ⟨.yes f (k + 1) HV.o (by omega) (by rw [← HN.o]; omega) rfl, rfl⟩
  by_cases h3 : n - k - 1 < l[k].toNat - 247
  · have HV := hd (num_short hkl (by omega) (by rw [← hn]; exact h3))
    obtain ⟨f, hfe⟩ : ∃ f, l[k].toNat = f := ⟨_, rfl⟩
    rw [hfe] at c0 h2 h3 hf
    have h2i : decide ((f : Int) ≤ 247) = false := by simp; omega
    have h3i : decide ((n : Int) - k - 1 < (f : Int) - 247) = true := by simp; omega
    clear hr hn hb hc hfe
    go_enter Tryz.func84, Tryz.ntmps84
    go_wp2
    go_ret3
    exact ⟨.no 14 (.inl rfl) HV.o rfl, rfl⟩
  have HV := hd (num_long hkl (by omega) (by rw [← hn]; exact h3))
  have hc1 : w.cell? ⟨g1, o1 + (k + 1), none⟩ = some (.int .u8 ((l.drop (k + 1)).headD 0).toNat) := by
    have hk1 : k + 1 < l.length := by omega
    rw [drop_at hk1]
    exact hc (k + 1) _ (u8E_at l (k + 1) hk1)
  obtain ⟨f, hfe⟩ : ∃ f, l[k].toNat = f := ⟨_, rfl⟩
  rw [hfe] at HV c0 h2 h3 hf
  have h2i : decide ((f : Int) ≤ 247) = false := by simp; omega
  have h3i : decide ((n : Int) - k - 1 < (f : Int) - 247) = false := by simp; omega
  obtain ⟨m, rfl⟩ : ∃ m, f = m + 247 := ⟨f - 247, by omega⟩
  rw [Nat.add_sub_cancel] at HV h3
  have hm8 : m ≤ 8 := by omega
  have HC := hd (show ∀ j, j < m → ∃ x : UInt8, val ((l.drop (k + 1)).take (j + 1)) = val ((l.drop (k + 1)).take j) * 256 + x.toNat ∧ w.cell? ⟨g1, o1 + (k + 1) + j, none⟩ = some (.int .u8 x.toNat) from fun j hj => by
    have hj1 : k + 1 + j < l.length := by omega
    have hj2 : j < (l.drop (k + 1)).length := by rw [List.length_drop]; omega
    refine ⟨l[k + 1 + j], ?_, ?_⟩
    · rw [val_take hj2, List.getElem_drop]
    · rw [Nat.add_assoc]
      exact hc (k + 1 + j) _ (u8E_at l (k + 1 + j) hj1))
  have HVL := hd (show ∀ j, j ≤ m → val ((l.drop (k + 1)).take j) < 256 ^ j from fun j hj => val_lt (by rw [List.length_take, List.length_drop]; omega))
  obtain ⟨L, hL⟩ : ∃ L, l.drop (k + 1) = L := ⟨_, rfl⟩
  rw [hL] at HC HVL HV hc1
  obtain ⟨hd0, hhd⟩ : ∃ x, L.headD 0 = x := ⟨_, rfl⟩
  rw [hhd] at HV hc1
  have hmi : ((m + 247 : Nat) : Int) - 247 = (m : Int) := by omega
  clear hr hn hb hc hfe hL hhd hkl
  go_enter Tryz.func84, Tryz.ntmps84
  go_wp2_with fail
  go_loop [56, 11, 9] (fun i _ u => ∃ (j : Nat) (x : Int), i = .int .i64 j ∧ j ≤ m ∧ u = .int .u64 x ∧ Hd (x = (val (L.take j) : Int))) (fun i _ _ => m - (intOf i).toNat)
  case atStart => exact ⟨0, 0, rfl, by omega, rfl, hd rfl⟩
  case round =>
    obtain ⟨j, x, rfl, hj, rfl, HX⟩ := hrel
    by_cases hlt : j < m
    · obtain ⟨y, HY, hcell⟩ := HC.o j hlt
      have hx0 : 0 ≤ x := by rw [HX.o]; omega
      have hx56 : x < 72057594037927936 := by
        have h1 := HVL.o j hj
        have h2 : 256 ^ j ≤ 256 ^ 7 := Nat.pow_le_pow_right (by decide) (by omega)
        rw [HX.o]
        have h3 : (256 : Nat) ^ 7 = 72057594037927936 := by decide
        omega
      have hy := y.toNat_lt
      have HOR := hd (orU x (y.toNat : Int) hx0 (by omega) (by omega) (by omega))
      have HYY := hd HY
      clear HY
      have hjm : j < k + 1 + m - (k + 1) := by omega
      have hji : (j : Int) < (m : Int) := by omega
      go_wp2
      go_round
      case rel => exact ⟨j + 1, x * 256 + (y.toNat : Int), by go_num, by omega, by first | rfl | (rw [HOR.o]), hd (by rw [HYY.o, HX.o]; push_cast; rfl)⟩
      case measure => simp [intOf]; omega
    · obtain rfl : j = m := by omega
      have hvl := HVL.o j (Nat.le_refl _)
      have hvl8 : val (L.take j) < 18446744073709551616 := by
        have h2 : 256 ^ j ≤ 256 ^ 8 := Nat.pow_le_pow_right (by decide) (by omega)
        have h3 : (256 : Nat) ^ 8 = 18446744073709551616 := by decide
        omega
      obtain ⟨v, hv⟩ : ∃ v, val (L.take j) = v := ⟨_, rfl⟩
      rw [hv] at HX HV
      obtain rfl : x = (v : Int) := HX.o
      have hz := hd0.toNat_lt
      have hki : (k : Int) < (n : Int) := by omega
      have hki2 : (k : Int) + 1 < (n : Int) := by omega
      have hki3 : k + 1 < n := by omega
      by_cases g1 : hd0.toNat = 0
      · have t1 : ((hd0.toNat : Int) == 0) = true := by simp; omega
        have HV2 := hd (HV.o.trans (if_pos (.inl (UInt8.toNat_inj.1 g1))))
        clear g1 hv HV hvl HVL
        go_wp2
        go_ret3
        exact ⟨.no 1 (.inr rfl) HV2.o rfl, rfl⟩
      · have t1 : ((hd0.toNat : Int) == 0) = false := by simp; omega
        have g1' : ¬ hd0 = 0 := fun e => g1 (by rw [e]; rfl)
        by_cases g2 : v ≤ 247
        · have t2 : decide ((v : Int) ≤ 247) = true := by simp; omega
          have HV2 := hd (HV.o.trans (if_pos (.inr (.inl g2))))
          clear g1 g1' hv HV hvl HVL
          go_wp2
          go_ret3
          exact ⟨.no 1 (.inr rfl) HV2.o rfl, rfl⟩
        · have t2 : decide ((v : Int) ≤ 247) = false := by simp; omega
          by_cases g3 : 9223372036854775808 ≤ v
          · have t3 : decide ((9223372036854775808 : Int) ≤ (v : Int)) = true := by simp; omega
            have HV2 := hd (HV.o.trans (if_pos (.inr (.inr (by have : (2 : Nat) ^ 63 = 9223372036854775808 := by decide
                                                               omega)))))
            clear g1 g1' hv HV hvl HVL
            go_wp2
            go_ret3
            exact ⟨.no 1 (.inr rfl) HV2.o rfl, rfl⟩
          · have t3 : decide ((9223372036854775808 : Int) ≤ (v : Int)) = false := by simp; omega
            have HV2 := hd (HV.o.trans (if_neg (fun h => by
              have : (2 : Nat) ^ 63 = 9223372036854775808 := by decide
              rcases h with h | h | h
              · exact g1' h
              · exact g2 h
              · omega)))
            clear g1 g1' hv HV hvl HVL
            go_wp2
            go_ret3
            exact ⟨.yes v (k + 1 + j) HV2.o (by omega) (by rw [← HN.o]; omega) rfl, rfl⟩

/-- The number that stands next, of what is left; and what is left behind it. -/
def numS (st : Option (List UInt8)) : Option (List UInt8) := (st.bind numAt).map Prod.snd
def textS (most : Nat) (st : Option (List UInt8)) : Option (List UInt8) := (st.bind (textAt most)).map Prod.snd
/-- A number that was read: right, if all went well. -/
def NumOk (st : Option (List UInt8)) (v : Int) : Prop := 0 ≤ v ∧ v ≤ 9223372036854775807 ∧ ∀ p, st.bind numAt = some p → v = p.1
def TextOk (most : Nat) (st : Option (List UInt8)) (s : ByteArray) : Prop := s.size ≤ most ∧ ∀ p, st.bind (textAt most) = some p → s.data.toList = p.1
theorem numAt_bd {l : List UInt8} {p : Int × List UInt8} (h : numAt l = some p) : 0 ≤ p.1 ∧ p.1 ≤ 9223372036854775807 := by
  obtain ⟨_, h2, h3⟩ := numAt_some (n := p.1) (r := p.2) h
  exact ⟨h2, by omega⟩
theorem chg_one (w : World) (g i : Nat) (u : Value) : Chg (One g) w (w.setCell ⟨g, i, none⟩ u) := (Chg.refl (One g) w).setCell (p := ⟨g, i, none⟩) (.inl rfl) u

set_option maxRecDepth 100000 in
set_option maxHeartbeats 4000000 in
theorem pNum_calls (w : World) (g : Nat) (l : List UInt8) (st : Option (List UInt8)) (h : PkR w g l st) (hl : l.length ≤ 1000000) :
    Calls Tryz.prog 56 #[.pointer (some ⟨g, 0, none⟩)] w fun e w' => ∃ v, e = .returned (.int .i64 v) ∧ NumOk st v ∧ PkR w' g l (numS st) ∧ Chg (One g) w w' := by
  obtain ⟨A, n, c, k, e, hb, hr, hn, hk, hst⟩ := h.o
  have HB := hd hb
  have HR := hd hr
  have HN := hd hn
  have hns : Hd (∀ a, A = some a → a.block ≠ g) := hd (fun a ha => hr.ne_blk hb (by decide) a ha)
  have b1 := hb.at_ 1 rfl
  have b2 := hb.at_ 2 rfl
  have f1 := hb.frozen 1
  have f2 := hb.frozen 2
  have hlt := hb.lt
  rcases hst with ⟨rfl, rfl⟩ | ⟨he, rfl⟩
  · have C1 := hd (pnumber_calls w g A n c l k k 0 hb hr.rds hr.cap.1 hn (by omega) hk)
    clear hb hr hn
    go_enter Tryz.func56, Tryz.ntmps56
    go_wp2_with fail
    refine C1.o.mono ?_
    rintro e w1 ⟨hh, rfl⟩
    rcases hh with ⟨x, hx, hv, rfl⟩ | ⟨v, q, hv, hq, hq2, rfl⟩
    · have HV := hd hv
      have hx0 : (x != 0) = true := by rcases hx with rfl | rfl <;> rfl
      have HX := hd hx
      clear hv hx
      go_wp2
      go_ret
      refine ⟨0, rfl, ⟨by decide, by decide, fun p hp => ?_⟩, ⟨⟨A, n, c, k, x, HB.o.set_ 2 _, HR.o.far (fun a ha => hns.o a ha) _, HN.o, hk, .inr ⟨?_, ?_⟩⟩⟩, chg_one _ _ _ _⟩
      · rw [Option.bind_some, HV.o] at hp; cases hp
      · rcases HX.o with rfl | rfl <;> decide
      · rw [numS, Option.bind_some, HV.o]; rfl
    · have HV := hd hv
      have hbd := numAt_bd hv
      rw [← HN.o] at hq2
      clear hv
      go_wp2
      go_ret
      refine ⟨v, rfl, ⟨hbd.1, hbd.2, fun p hp => ?_⟩, ⟨⟨A, n, c, q, 0, HB.o.set_ 1 _, HR.o.far (fun a ha => hns.o a ha) _, HN.o, hq2, .inl ⟨rfl, ?_⟩⟩⟩, chg_one _ _ _ _⟩
      · rw [Option.bind_some, HV.o] at hp; injection hp with hp; rw [← hp]
      · rw [numS, Option.bind_some, HV.o]; rfl
  · have he0 : (e != 0) = true := by simpa using he
    have HE := hd he
    clear hb hr hn he
    go_enter Tryz.func56, Tryz.ntmps56
    go_wp2
    go_ret
    exact ⟨0, rfl, ⟨by decide, by decide, fun p hp => by cases hp⟩, ⟨⟨A, n, c, k, e, HB.o, HR.o, HN.o, hk, .inr ⟨HE.o, rfl⟩⟩⟩, Chg.refl _ _⟩

theorem perr_calls (w : World) (g : Nat) (l : List UInt8) (st : Option (List UInt8)) (h : PkR w g l st) :
    Calls Tryz.prog 58 #[.pointer (some ⟨g, 0, none⟩)] w fun e w' => ∃ x : Int, e = .returned (.int .i64 x) ∧ (x = 0 ↔ st ≠ none) ∧ w = w' := by
  obtain ⟨A, n, c, k, e, hb, hr, hn, hk, hst⟩ := h.o
  have b2 := hb.at_ 2 rfl
  have HS := hd hst
  clear hb hr hn hst
  go_enter Tryz.func58, Tryz.ntmps58
  go_wp2
  go_ret
  refine ⟨e, rfl, ?_, rfl⟩
  rcases HS.o with ⟨rfl, rfl⟩ | ⟨h1, rfl⟩
  · simp
  · simp [h1]

theorem pleft_calls (w : World) (g : Nat) (l r : List UInt8) (h : PkR w g l (some r)) (hl : l.length ≤ 1000000) :
    Calls Tryz.prog 59 #[.pointer (some ⟨g, 0, none⟩)] w fun e w' => e = .returned (.int .i64 r.length) ∧ Below w.heap.size w w' := by
  obtain ⟨A, n, c, k, e, hb, hr, hn, hk, hst⟩ := h.o
  have b0 := hb.at_ 0 rfl
  have b1 := hb.at_ 1 rfl
  have HR : Hd ((n : Int) - (k : Int) = (r.length : Int)) := hd (by
    rcases hst with ⟨_, h1⟩ | ⟨_, h1⟩
    · injection h1 with h1
      rw [h1, List.length_drop]; omega
    · cases h1)
  have hn6 : n ≤ 1000000 := by omega
  clear hb hr hn hst
  go_enter Tryz.func59, Tryz.ntmps59
  go_wp2_with fail
  go_quiet (fail)
  go_wp2
  go_ret
  exact ⟨ret_int HR.o, bdrewN (Below.refl _ _) _⟩

end Go.Proofs.YtogjokofmfpmgaaGreatDoor
namespace Go.Proofs.YtogjokofmfpmgaaGreatDoor
open Go.RowKit

theorem textAt_none {most : Nat} {l : List UInt8} (h : numAt l = none) : textAt most l = none := by unfold textAt; rw [h]
theorem textAt_long {most : Nat} {l r : List UInt8} {v : Int} (h : numAt l = some (v, r)) (h2 : (r.length : Int) < v ∨ (most : Int) < v) : textAt most l = none := by
  unfold textAt; rw [h]; simp only; rw [if_pos h2]
theorem textAt_take {most : Nat} {l r : List UInt8} {v : Int} (h : numAt l = some (v, r)) (h2 : ¬ ((r.length : Int) < v ∨ (most : Int) < v)) : textAt most l = some (r.take v.toNat, r.drop v.toNat) := by
  unfold textAt; rw [h]; simp only; rw [if_neg h2]

set_option maxRecDepth 100000 in
set_option maxHeartbeats 4000000 in
theorem pText_calls (w : World) (g : Nat) (l : List UInt8) (st : Option (List UInt8)) (most : Nat) (h : PkR w g l st) (hl : l.length ≤ 1000000) (hm : most ≤ 1000000) :
    Calls Tryz.prog 83 #[.pointer (some ⟨g, 0, none⟩), .int .i64 most] w fun e w' => ∃ s, e = .returned (.string s) ∧ TextOk most st s ∧ PkR w' g l (textS most st) ∧ Chg (One g) w w' := by
  obtain ⟨A, n, c, k, e, hb, hr, hn, hk, hst⟩ := h.o
  have HB := hd hb
  have HR := hd hr
  have HN := hd hn
  have hns : Hd (∀ a, A = some a → a.block ≠ g) := hd (fun a ha => hr.ne_blk hb (by decide) a ha)
  have b0 := hb.at_ 0 rfl
  have b1 := hb.at_ 1 rfl
  have b2 := hb.at_ 2 rfl
  have f1 := hb.frozen 1
  have f2 := hb.frozen 2
  have hlt := hb.lt
  rcases hst with ⟨rfl, rfl⟩ | ⟨he, rfl⟩
  · have C1 := hd (pnumber_calls w g A n c l k k 0 hb hr.rds hr.cap.1 hn (by omega) hk)
    have hcap := hr.cap.1
    have hnl : n ≤ 1000000 := by omega
    clear hb hr hn
    go_enter Tryz.func83, Tryz.ntmps83
    go_wp2_with fail
    refine C1.o.mono ?_
    rintro e w1 ⟨hh, rfl⟩
    rcases hh with ⟨x, hx, hv, rfl⟩ | ⟨v, q, hv, hq, hq2, rfl⟩
    · have HV := hd (textAt_none (most := most) hv)
      have hx0 : (x != 0) = true := by rcases hx with rfl | rfl <;> rfl
      have HX := hd hx
      clear hv hx
      go_wp2
      go_ret
      refine ⟨⟨#[]⟩, rfl, ⟨Nat.zero_le _, fun p hp => ?_⟩, ⟨⟨A, n, c, k, x, HB.o.set_ 2 _, HR.o.far (fun a ha => hns.o a ha) _, HN.o, hk, .inr ⟨?_, ?_⟩⟩⟩, chg_one _ _ _ _⟩
      · rw [Option.bind_some, HV.o] at hp; cases hp
      · rcases HX.o with rfl | rfl <;> decide
      · rw [textS, Option.bind_some, HV.o]; rfl
    · have hbd := numAt_bd hv
      have hql : (l.drop q).length = n - q := by rw [List.length_drop, HN.o]
      rw [← HN.o] at hq2
      have hqi : (q : Int) ≤ (n : Int) := by omega
      by_cases h1 : (n : Int) - q < v
      · have HV := hd (textAt_long (most := most) hv (.inl (by rw [hql]; omega)))
        have h1i : decide ((n : Int) - q < v) = true := by simpa using h1
        clear hv hql hbd
        go_wp2
        go_ret
        refine ⟨⟨#[]⟩, rfl, ⟨Nat.zero_le _, fun p hp => ?_⟩, ⟨⟨A, n, c, k, 14, HB.o.set_ 2 _, HR.o.far (fun a ha => hns.o a ha) _, HN.o, hk, .inr ⟨by decide, ?_⟩⟩⟩, chg_one _ _ _ _⟩
        · rw [Option.bind_some, HV.o] at hp; cases hp
        · rw [textS, Option.bind_some, HV.o]; rfl
      · have h1i : decide ((n : Int) - q < v) = false := by simpa using h1
        by_cases h2 : (most : Int) < v
        · have HV := hd (textAt_long (most := most) hv (.inr h2))
          have h2i : decide ((most : Int) < v) = true := by simpa using h2
          clear hv hql hbd
          go_wp2
          go_ret
          refine ⟨⟨#[]⟩, rfl, ⟨Nat.zero_le _, fun p hp => ?_⟩, ⟨⟨A, n, c, k, 2, HB.o.set_ 2 _, HR.o.far (fun a ha => hns.o a ha) _, HN.o, hk, .inr ⟨by decide, ?_⟩⟩⟩, chg_one _ _ _ _⟩
          · rw [Option.bind_some, HV.o] at hp; cases hp
          · rw [textS, Option.bind_some, HV.o]; rfl
        · have h2i : decide ((most : Int) < v) = false := by simpa using h2
          have HV := hd (textAt_take (most := most) hv (fun h => h.elim (fun h => by rw [hql] at h; omega) h2))
          obtain ⟨m, rfl⟩ : ∃ m : Nat, v = m := ⟨v.toNat, by omega⟩
          have hmq : q + m ≤ n := by omega
          have hmm : m ≤ most := by omega
          have hmd : decide (most < m) = false := by simp; omega
          obtain ⟨t, ht⟩ : ∃ t, q + m = t := ⟨_, rfl⟩
          rw [ht] at hmq
          obtain ⟨g1, o1, hA, hg1, hcl⟩ := HR.o.rds.at_ (by omega : 0 < n)
          subst hA
          have hgg : g1 ≠ g := hns.o _ rfl
          obtain ⟨w2, hw2⟩ : ∃ w2, w2 = w.setCell ⟨g, 1, none⟩ (.int .i64 (t : Int)) := ⟨_, rfl⟩
          have hB2 : Blk w2 g 113 #[.slice (some ⟨g1, o1, none⟩) n c, .int .i64 (t : Int), .int .i64 0] := by rw [hw2]; exact HB.o.set_ 1 _
          have hR2 : Row w2 (Of (some ⟨g1, o1, none⟩)) 5 1 (some ⟨g1, o1, none⟩) n c (u8E l) := by rw [hw2]; exact HR.o.far (fun a ha => hns.o a ha) _
          have hCh := hd (show Chg (One g) w w2 by rw [hw2]; exact chg_one _ _ _ _)
          have HW2 := hd hw2
          have d0 := hB2.at_ 0 rfl
          have d1 := hB2.at_ 1 rfl
          have HB2 := hd hB2
          have HR2 := hd hR2
          have hcell := fun j (hj : q + j < n) => show w2.cell? ⟨g1, o1 + (q + j), none⟩ = _ from by
            obtain ⟨g3, o3, hA3, _, hc3⟩ := HR2.o.rds.at_ (by omega : 0 < n)
            injection hA3 with hA3
            injection hA3 with e1 e2
            subst e1 e2
            exact hc3 (q + j) _ (u8E_at l (q + j) (by rw [← HN.o]; exact hj))
          have hrd : ∀ B, (0 < m → B = some ⟨g1, o1 + q, none⟩) → Rds w2 B m 1 (u8E ((l.drop q).take m)) := fun B hB => ⟨by rw [u8E_len, List.length_take, hql]; omega, fun h0 => ⟨g1, o1 + q, hB h0, by have := hR2.lt rfl; exact this, fun j u hu => by
            have hj : j < ((l.drop q).take m).length := by
              have := (List.getElem?_eq_some_iff.1 hu).1
              rwa [u8E_len] at this
            have hj2 : j < m ∧ q + j < n := by rw [List.length_take, hql] at hj; omega
            rw [u8E_at _ j hj] at hu
            rw [Nat.add_assoc, hcell j hj2.2, ← hu, List.getElem_take, List.getElem_drop]⟩⟩
          have hcv := fun B (hB : 0 < m → B = some ⟨g1, o1 + q, none⟩) c' k' => conv_back (P := Tryz.prog) (w2.drewN k') 27 9 5 Tryz.underlying27 Tryz.underlying5 Tryz.underlying9 B m c' ((l.drop q).take m) (by rw [List.length_take, hql]; omega) ((hrd B hB).drewN k')
          have hfin : Hd (PkR w2 g l (textS most (some (l.drop k)))) := hd ⟨⟨some ⟨g1, o1, none⟩, n, c, t, 0, hB2, hR2, HN.o, hmq, .inl ⟨rfl, by rw [textS, Option.bind_some, HV.o, Int.toNat_natCast]; show some _ = _; rw [List.drop_drop, ht]⟩⟩⟩
          have hts : Hd (TextOk most (some (l.drop k)) (bs ((l.drop q).take m))) := hd ⟨by rw [bs_size, List.length_take, hql]; omega, fun p hp => by rw [Option.bind_some, HV.o] at hp; injection hp with hp; rw [← hp]; rfl⟩
          have hsum : (q : Int) + (m : Int) = (t : Int) := by omega
          have hqm : (q : Int) ≤ (t : Int) := by omega
          obtain ⟨b, hbb⟩ : ∃ b, bs ((l.drop q).take m) = b := ⟨_, rfl⟩
          rw [hbb] at hcv hts
          clear hv hql hcl hrd hcell hB2 hR2 hbb hw2
          have htq : t - q = m := by omega
          have htn : (t : Int) ≤ (n : Int) := by omega
          by_cases hcq : c = q
          · have hm0 : m = 0 := by omega
            subst hm0
            obtain rfl : q = t := by omega
            have hcv0 := hcv (some ⟨g1, o1, none⟩) (fun h => by omega)
            clear hcv ht htq hsum
            go_wp2_with fail
            rw [← HW2.o]
            go_quiet (fail)
            go_wp2
            go_ret
            exact ⟨b, rfl, hts.o, hfin.o.chg ((Chg.refl Non _).drewN nq) (fun _ h => h.elim), hCh.o.drewN nq⟩
          · have hcv0 := hcv (some ⟨g1, o1 + q, none⟩) (fun _ => rfl)
            clear hcv ht
            go_wp2_with fail
            rw [← HW2.o]
            go_quiet (fail)
            go_wp2
            go_ret
            exact ⟨b, rfl, hts.o, hfin.o.chg ((Chg.refl Non _).drewN nq) (fun _ h => h.elim), hCh.o.drewN nq⟩
  · have he0 : (e != 0) = true := by simpa using he
    have HE := hd he
    clear hb hr hn he
    go_enter Tryz.func83, Tryz.ntmps83
    go_wp2
    go_ret
    exact ⟨⟨#[]⟩, rfl, ⟨Nat.zero_le _, fun p hp => by cases hp⟩, ⟨⟨A, n, c, k, e, HB.o, HR.o, HN.o, hk, .inr ⟨HE.o, rfl⟩⟩⟩, Chg.refl _ _⟩

end Go.Proofs.YtogjokofmfpmgaaGreatDoor
namespace Go.Proofs.YtogjokofmfpmgaaGreatDoor
open Go.RowKit

/-- What Next hands back. -/
def nextV (l : List UInt8) : Value := .tuple #[.agg #[.int .i64 (if frE l = 0 then frK l else 0 : Nat), .string (bs (if frE l = 0 then frB l else []))], .int .i64 (if frE l = 0 then frN l else 0 : Nat), .int .i64 (frE l)]
theorem nextV_no {l : List UInt8} {x : Int} (h : frE l = x) (hx : x ≠ 0) : nextV l = .tuple #[.agg #[.int .i64 0, .string ⟨#[]⟩], .int .i64 0, .int .i64 x] := by
  unfold nextV
  rw [h, if_neg hx, if_neg hx, if_neg hx]; rfl
theorem nextV_ok {l : List UInt8} (h : frE l = 0) : nextV l = .tuple #[.agg #[.int .i64 (frK l : Nat), .string (bs (frB l))], .int .i64 (frN l : Nat), .int .i64 0] := by
  unfold nextV
  rw [h, if_pos rfl, if_pos rfl, if_pos rfl]
theorem set2 {w : World} {g : Nat} {t : TypeId} {c0 c1 v0 v1 : Value} (h : Blk w g t #[c0, c1]) : Blk ((w.setCell ⟨g, 0, none⟩ v0).setCell ⟨g, 1, none⟩ v1) g t #[v0, v1] := by
  have h0 : Blk (w.setCell ⟨g, 0, none⟩ v0) g t #[v0, c1] := by simpa using h.set_ 0 v0
  simpa using h0.set_ 1 v1
theorem bel2 {a w : World} {g : Nat} {v0 v1 : Value} (h : Below g a w) : Below g a ((w.setCell ⟨g, 0, none⟩ v0).setCell ⟨g, 1, none⟩ v1) :=
  (h.setCell (p := ⟨g, 0, none⟩) (Nat.le_refl _) v0).setCell (p := ⟨g, 1, none⟩) (Nat.le_refl _) v1
theorem res_cell2 {P : Program} {fn : Func} {p u v : Tmp} {ty : TypeId} (h : fn.results = #[.cell p ty, .tmp u, .tmp v]) (tmps : Array Value) (w : World) (g : Nat) (t : TypeId) (cs : Array Value) (fr : Nat × Nat) (d : TypeDesc)
    (hp : tmps.getD p undef = .pointer (some ⟨g, 0, none⟩)) (hg : w.heap[g]? = some (.cells cs t fr))
    (hu : P.underlying ty = some d) (hd : (match d with | .struct _ | .array _ _ => true | _ => false) = true) (hi : (P.info? ty).map (·.size) = some cs.size) :
    (results fn tmps).run P w = .ok (.tuple #[.agg cs, tmps.getD u undef, tmps.getD v undef]) w := by
  have hq : (results fn tmps).run P w = ((asAddr (tmps.getD p undef)).run P w).andThen fun a w₁ => ((loadVar ty a).run P w₁).andThen fun x w₂ => .ok (.tuple #[x, tmps.getD u undef, tmps.getD v undef]) w₂ := by
    simp only [results, h]
    simp [Sem.run_bind, Result.andThen]
  rw [hq, hp]
  simp [asAddr, run_loadVar_row w g t ty cs fr d hg hu hd hi, Result.andThen]
theorem cell_far2 {w : World} {g g1 o : Nat} (h : g1 ≠ g) {a b : Value} : ((w.setCell ⟨g, 0, none⟩ a).setCell ⟨g, 1, none⟩ b).cell? ⟨g1, o, none⟩ = w.cell? ⟨g1, o, none⟩ :=
  World.cell?_of_block (w := w) (a := ⟨g1, o, none⟩) ((Below.heap_setCell _ ⟨g, 1, none⟩ b g1 h).trans (Below.heap_setCell _ ⟨g, 0, none⟩ a g1 h))
theorem belN {a w : World} {g k : Nat} (h : Below g a w) : Below g a (w.drewN k) := ⟨h.os, h.tape, h.output, h.size, h.block⟩
set_option maxRecDepth 100000 in
theorem res_fr {tmps : Array Value} {w : World} {g : Nat} {v0 v1 : Value} (hp : tmps.getD 2 undef = .pointer (some ⟨g, 0, none⟩)) (hb : Blk w g 75 #[v0, v1]) :
    (results Tryz.f96 tmps).run Tryz.prog w = .ok (.tuple #[.agg #[v0, v1], tmps.getD 3 undef, tmps.getD 4 undef]) w := res_cell2 rfl tmps w g 75 _ (0, 0) _ hp hb rfl rfl rfl
theorem orJ (a x : Nat) (h1 : a < 256) (h3 : x < 256) : bits .or .i64 ((a : Int) * 65536) ((x : Int) * 256) = ((a * 65536 + x * 256 : Nat) : Int) := by
  have key : (BitVec.ofInt 64 ((a : Int) * 65536) ||| BitVec.ofInt 64 ((x : Int) * 256)).toNat = a * 65536 + x * 256 := by
    rw [BitVec.toNat_or, BitVec.toNat_ofInt, BitVec.toNat_ofInt]
    rw [show (((a : Int) * 65536) % ((2 ^ 64 : Nat) : Int)).toNat = a * 65536 by omega, show (((x : Int) * 256) % ((2 ^ 64 : Nat) : Int)).toNat = x * 256 by omega]
    have := Nat.two_pow_add_eq_or_of_lt (i := 16) (b := x * 256) (by omega) a
    rw [show a * 65536 = 2 ^ 16 * a by omega, ← this]
  show IntKind.i64.wrap ((BitVec.ofInt 64 ((a : Int) * 65536) ||| BitVec.ofInt 64 ((x : Int) * 256)).toNat : Nat) = _
  rw [key, IntKind.wrap_i64]
  omega
theorem orK (a x c : Nat) (h1 : a < 256) (h2 : x < 256) (h3 : c < 256) : bits .or .i64 ((a * 65536 + x * 256 : Nat) : Int) (c : Int) = ((a * 65536 + x * 256 + c : Nat) : Int) := by
  have := orI ((a * 256 + x : Nat) : Int) (c : Int) (by omega) (by omega) (by omega) (by omega)
  rw [show ((a * 65536 + x * 256 : Nat) : Int) = ((a * 256 + x : Nat) : Int) * 256 by omega, this]
  omega
theorem at8_get {l : List UInt8} {i : Nat} (h : i < l.length) : at8 l i = l[i].toNat := by
  unfold at8
  rw [List.getD_eq_getElem?_getD, List.getElem?_eq_getElem h]; rfl

set_option maxRecDepth 100000 in
set_option maxHeartbeats 4000000 in
theorem next_calls (w : World) (A : Option Addr) (n c : Nat) (l : List UInt8) (hn : n = l.length) (hr : Rds w A n 1 (u8E l)) (hnc : n ≤ c) (hs : n ≤ 1000000) :
    Calls Tryz.prog 96 #[.slice A n c] w fun e w' => e = .returned (nextV l) ∧ Below w.heap.size w w' := by
  obtain ⟨w0, hw0⟩ : ∃ w0, w0 = w.alloc (.cells #[.int .i64 0, .string ⟨#[]⟩] 75) := ⟨_, rfl⟩
  have HZ0 := hd (show Blk w0 w.heap.size 75 #[.int .i64 0, .string ⟨#[]⟩] by rw [hw0]; exact Blk.new _ _ _)
  have HB0 := hd (show Below w.heap.size w w0 by rw [hw0]; exact (Below.refl _ w).alloc (Nat.le_refl _) _)
  have hr0 : Rds w0 A n 1 (u8E l) := by rw [hw0]; exact hr.alloc _
  have HW0 := hd hw0
  have hz0 := HZ0.o.lt
  have z0 : w0.cell? ⟨w.heap.size, 0, none⟩ = some (.int .i64 0) := HZ0.o.at_ 0 rfl
  have z1 : w0.cell? ⟨w.heap.size, 1, none⟩ = some (.string ⟨#[]⟩) := HZ0.o.at_ 1 rfl
  have f0 := HZ0.o.frozen 0
  have f1 := HZ0.o.frozen 1
  have HN := hd hn
  clear hw0
  by_cases c1 : n < 3
  · have HV := hd (nextV_no (l := l) (x := 14) (by unfold frE; rw [if_pos (by omega)]) (by decide))
    clear hn hr0 hr
    go_enter Tryz.func96, Tryz.ntmps96
    go_upto_region 1 with (fail)
    rw [← HW0.o]
    go_wp2
    (try simp only [Exit.inBlock, Exit.then])
    refine bodyPost_ret (res_fr rfl (set2 HZ0.o)) rfl ?_
    exact ⟨rfl.trans (congrArg Ending.returned HV.o).symm, bel2 HB0.o⟩
  have c1' : 3 ≤ l.length := by omega
  obtain ⟨g1, o1, rfl, hgl, _⟩ := hr.at_ (by omega)
  obtain ⟨g3, o3, hA3, hg1, hc⟩ := hr0.at_ (by omega)
  injection hA3 with hA3
  injection hA3 with ea eb
  subst ea eb
  clear hr
  have hgw : g1 ≠ w.heap.size := Nat.ne_of_lt hgl
  have hcell : ∀ j (h : j < l.length), w0.cell? ⟨g1, o1 + j, none⟩ = some (.int .u8 (at8 l j)) := fun j h => by rw [at8_get h]; exact hc j _ (u8E_at l j h)
  have k0 := hcell 0 (by omega)
  have k1 := hcell 1 (by omega)
  have k2 := hcell 2 (by omega)
  rw [Nat.add_zero] at k0
  have a0 := at8_lt l 0
  have a1 := at8_lt l 1
  have a2 := at8_lt l 2
  have e1 := orJ (at8 l 0) (at8 l 1) a0 a1
  have e2 := orK (at8 l 0) (at8 l 1) (at8 l 2) a0 a1 a2
  have hz : at8 l 0 * 65536 + at8 l 1 * 256 + at8 l 2 = sizeF l := rfl
  rw [hz] at e2
  have hzl : sizeF l ≤ 16777215 := by unfold sizeF; omega
  obtain ⟨m, hm⟩ : ∃ m, at8 l 0 * 65536 + at8 l 1 * 256 = m := ⟨_, rfl⟩
  rw [hm] at e1 e2
  clear hz hm
  by_cases c2 : 20000 < sizeF l
  · have HV := hd (nextV_no (l := l) (x := 2) (by unfold frE; rw [if_neg (by omega), if_pos c2]) (by decide))
    have c2i : decide ((20000 : Int) < (sizeF l : Int)) = true := by simp; omega
    generalize at8 l 0 = y0 at *
    generalize at8 l 1 = y1 at *
    generalize at8 l 2 = y2 at *
    generalize sizeF l = z at *
    clear hn hr0 hc hcell
    go_enter Tryz.func96, Tryz.ntmps96
    go_upto_region 1 with (fail)
    rw [← HW0.o]
    go_upto_region 3 with (fail)
    go_quiet (fail)
    go_wp2
    (try simp only [Exit.inBlock, Exit.then])
    refine bodyPost_ret (res_fr rfl (set2 (HZ0.o.drewN _))) rfl ?_
    exact ⟨rfl.trans (congrArg Ending.returned HV.o).symm, bel2 (belN HB0.o)⟩
  have c2i : decide ((20000 : Int) < (sizeF l : Int)) = false := by simp; omega
  by_cases c3 : n < sizeF l + 6
  · have HV := hd (nextV_no (l := l) (x := 14) (by unfold frE; rw [if_neg (by omega), if_neg c2, if_pos (by omega)]) (by decide))
    generalize at8 l 0 = y0 at *
    generalize at8 l 1 = y1 at *
    generalize at8 l 2 = y2 at *
    generalize sizeF l = z at *
    clear hn hr0 hc hcell
    go_enter Tryz.func96, Tryz.ntmps96
    go_upto_region 1 with (fail)
    rw [← HW0.o]
    go_upto_region 3 with (fail)
    go_quiet (fail)
    go_wp2
    (try simp only [Exit.inBlock, Exit.then])
    refine bodyPost_ret (res_fr rfl (set2 (HZ0.o.drewN _))) rfl ?_
    exact ⟨rfl.trans (congrArg Ending.returned HV.o).symm, bel2 (belN HB0.o)⟩
  have c3i : ¬ (n : Int) < (sizeF l : Int) + 6 := by omega
  have k3 := hcell 3 (by omega)
  have kA := hcell (sizeF l + 4) (by omega)
  have kB := hcell (sizeF l + 5) (by omega)
  have b3 := at8_lt l 3
  have bA := at8_lt l (sizeF l + 4)
  have bB := at8_lt l (sizeF l + 5)
  have e3 := orI (at8 l (sizeF l + 4)) (at8 l (sizeF l + 5)) (by omega) (by omega) (by omega) (by omega)
  have hcp : 0 < c - 4 := by omega
  have hfl : (frB l).length = sizeF l := by unfold frB; rw [List.length_take, List.length_drop]; omega
  have hrd : ∀ k', Rds (w0.drewN k') (some ⟨g1, o1 + 4, none⟩) (sizeF l) 1 (u8E (frB l)) := fun k' => by
    have h0 : Rds w0 (some ⟨g1, o1 + 4, none⟩) (sizeF l) 1 (u8E (frB l)) := ⟨by rw [u8E_len, hfl]; omega, fun h0 => ⟨g1, o1 + 4, rfl, hg1, fun j u hu => by
      have hj : j < (frB l).length := by
        have := (List.getElem?_eq_some_iff.1 hu).1
        rwa [u8E_len] at this
      rw [u8E_at _ j hj] at hu
      have hg : (frB l)[j] = l[4 + j] := by simp only [frB, List.getElem_take, List.getElem_drop]
      rw [Nat.add_assoc, hcell (4 + j) (by omega), at8_get (by omega), ← hu, hg]⟩⟩
    exact h0.drewN _
  have HFS := hd (show sumF (at8 l 3) (frB l) = at8 l (sizeF l + 4) * 256 + at8 l (sizeF l + 5) → nextV l = .tuple #[.agg #[.int .i64 (at8 l 3 : Nat), .string (bs (frB l))], .int .i64 (sizeF l + 6 : Nat), .int .i64 0] from fun h => by
    rw [nextV_ok (by unfold frE; rw [if_neg (by omega), if_neg c2, if_neg (by omega), if_pos (show frSum l from h)])]; rfl)
  have HFN := hd (show ¬ sumF (at8 l 3) (frB l) = at8 l (sizeF l + 4) * 256 + at8 l (sizeF l + 5) → nextV l = .tuple #[.agg #[.int .i64 0, .string ⟨#[]⟩], .int .i64 0, .int .i64 1] from fun h =>
    nextV_no (by unfold frE; rw [if_neg (by omega), if_neg c2, if_neg (by omega), if_neg (show ¬ frSum l from h)]) (by decide))
  have hcv := fun c' k' => conv_back (P := Tryz.prog) (w0.drewN k') 27 9 5 Tryz.underlying27 Tryz.underlying5 Tryz.underlying9 (some ⟨g1, o1 + 4, none⟩) (sizeF l) c' (frB l) hfl.symm (hrd k')
  generalize hz : sizeF l = z at *
  obtain ⟨bdy, hbd⟩ : ∃ bdy, bs (frB l) = bdy := ⟨_, rfl⟩
  have hbs : bdy.size ≤ 1000000000 := by rw [← hbd, bs_size, hfl]; omega
  have hbl : bdy.data.toList = frB l := by rw [← hbd, bs_data]
  rw [hbd] at HFS
  rw [hbd] at hcv
  generalize at8 l 0 = y0 at *
  generalize at8 l 1 = y1 at *
  generalize at8 l 2 = y2 at *
  generalize at8 l 3 = y3 at *
  generalize at8 l (z + 4) = yA at *
  generalize at8 l (z + 5) = yB at *
  clear hn hr0 hc hcell hrd hbd hfl
  go_enter Tryz.func96, Tryz.ntmps96
  go_upto_region 1 with (fail)
  rw [← HW0.o]
  go_upto_region 3 with (fail)
  go_quiet (fail)
  go_upto_region 9 with (fail)
  obtain ⟨W1, hW1⟩ : ∃ W1, w0.drewN nq = W1 := ⟨_, rfl⟩
  have k3' : W1.cell? ⟨g1, o1 + 3, none⟩ = some (.int .u8 y3) := by rw [← hW1]; exact k3
  have kA' : W1.cell? ⟨g1, o1 + (z + 4), none⟩ = some (.int .u8 yA) := by rw [← hW1]; exact kA
  have kB' : W1.cell? ⟨g1, o1 + (z + 5), none⟩ = some (.int .u8 yB) := by rw [← hW1]; exact kB
  have HZ1 := hd (show Blk W1 w.heap.size 75 #[.int .i64 0, .string ⟨#[]⟩] by rw [← hW1]; exact HZ0.o.drewN _)
  rw [hW1]
  have tok1 : True := trivial
  have n3 : (3 : Int) < (n : Int) := by omega
  have n3' : (0 : Int) ≤ 3 := by decide
  have w4 : IntKind.i64.wrap (4 + (z : Int)) = 4 + (z : Int) := by rw [IntKind.wrap_i64]; omega
  have n4 : (4 : Int) ≤ 4 + (z : Int) := by omega
  have n5 : 4 + (z : Int) ≤ (c : Int) := by omega
  have nc : ¬ c = 4 := by omega
  have nz : (4 + (z : Int)).toNat - 4 = z := by omega
  have w3 : IntKind.i64.wrap (y3 : Int) = (y3 : Int) := by rw [IntKind.wrap_i64]; omega
  have hcv1 : Sem.run Tryz.prog (convert 27 9 (Value.slice (some ⟨g1, o1 + 4, none⟩) z (c - 4))) W1.drew = Result.ok (Value.string bdy) W1.drew := by rw [← hW1]; exact hcv (c - 4) (nq + 1)
  clear hcv
  obtain ⟨W2, hW2⟩ : ∃ W2, W2 = (W1.drew.setCell ⟨w.heap.size, 0, none⟩ (.int .i64 (y3 : Int))).setCell ⟨w.heap.size, 1, none⟩ (.string bdy) := ⟨_, rfl⟩
  have hz2 : Blk W2 w.heap.size 75 #[.int .i64 (y3 : Int), .string bdy] := by rw [hW2]; exact set2 HZ1.o.drew
  have HBB := hd (show Below w.heap.size w W2 by rw [hW2, ← hW1]; exact bel2 (belN (k := nq + 1) HB0.o))
  obtain ⟨zA, hzA⟩ : ∃ zA, zA = z + 4 := ⟨_, rfl⟩
  obtain ⟨zB, hzB⟩ : ∃ zB, zB = z + 5 := ⟨_, rfl⟩
  have kA2 : W2.cell? ⟨g1, o1 + zA, none⟩ = some (.int .u8 yA) := by rw [hW2, hzA, cell_far2 hgw]; exact kA'
  have kB2 : W2.cell? ⟨g1, o1 + zB, none⟩ = some (.int .u8 yB) := by rw [hW2, hzB, cell_far2 hgw]; exact kB'
  have j0 : W2.cell? ⟨w.heap.size, 0, none⟩ = some (.int .i64 (y3 : Int)) := hz2.at_ 0 rfl
  have j1 : W2.cell? ⟨w.heap.size, 1, none⟩ = some (.string bdy) := hz2.at_ 1 rfl
  have q0 := hz2.frozen 0
  have q1 := hz2.frozen 1
  have HZ2 := hd hz2
  have HW2 := hd hW2
  have HSM := hd (fun W => (sum_calls y3 bdy b3 hbs W).mono (fun e w' (h : _ ∧ W = w') => And.intro h.1 h.2.symm))
  obtain ⟨sv, hsv⟩ : ∃ sv, sumF y3 bdy.data.toList = sv := ⟨_, rfl⟩
  rw [hsv] at HSM
  rw [← hbl, hsv] at HFS HFN
  clear hbl
  have w5 : IntKind.i64.wrap ((z : Int) + 6 - 2) = (zA : Int) := by rw [IntKind.wrap_i64]; omega
  have w6 : IntKind.i64.wrap ((z : Int) + 6 - 1) = (zB : Int) := by rw [IntKind.wrap_i64]; omega
  have lA : (zA : Int) < (n : Int) := by omega
  have lB : (zB : Int) < (n : Int) := by omega
  have HSV := hd hsv
  have HYA := hd (show yA < 256 ∧ yB < 256 from ⟨bA, bB⟩)
  have HHZ := hd hz
  clear hz2 hW2 hzA hzB kA' kB' kA kB k3 hsv hW1 k0 k1 k2 z0 z1 hz c3 c2 c3i
  go_still_tail 10, (by kernel_rfl)
  repeat still_step
  try refine wpStill_nil ?_
  change wpList _ _ _ _ _ W1.drew
  obtain ⟨V, hV⟩ : ∃ V, V = W1.drew := ⟨_, rfl⟩
  rw [← hV]
  rw [← hV] at HW2
  have y0' : V.cell? ⟨w.heap.size, 0, none⟩ = some (.int .i64 0) := by rw [hV]; exact HZ1.o.at_ 0 rfl
  have y1' : V.cell? ⟨w.heap.size, 1, none⟩ = some (.string ⟨#[]⟩) := by rw [hV]; exact HZ1.o.at_ 1 rfl
  have t0 : V.frozen? ⟨w.heap.size, 0, none⟩ = false := by rw [hV]; exact HZ1.o.frozen 0
  have t1 : V.frozen? ⟨w.heap.size, 1, none⟩ = false := by rw [hV]; exact HZ1.o.frozen 1
  clear hcv1 k3' n3 n3' w4 n4 n5 nc nz w3 hV
  go_upto_region 10 with (fail)
  rw [← HW2.o]
  go_quiet ((go_at_call 82; exact Calls.quiet_of_same (HSM.o _)))
  by_cases hf : sv = yA * 256 + yB
  · have nb : ((sv : Int) != (yA : Int) * 256 + (yB : Int)) = false := by simp; omega
    have HV := hd (HFS.o hf)
    clear HFS HFN hf
    go_wp2
    (try simp only [Exit.inBlock, Exit.then])
    refine bodyPost_ret (res_fr rfl (set2 (HZ2.o.drewN _))) rfl ?_
    exact ⟨rfl.trans (congrArg Ending.returned HV.o).symm, bel2 (belN HBB.o)⟩
  · have nb : ((sv : Int) != (yA : Int) * 256 + (yB : Int)) = true := by simp; omega
    have HV := hd (HFN.o hf)
    clear HFS HFN hf
    go_wp2
    (try simp only [Exit.inBlock, Exit.then])
    refine bodyPost_ret (res_fr rfl (set2 (HZ2.o.drewN _))) rfl ?_
    exact ⟨rfl.trans (congrArg Ending.returned HV.o).symm, bel2 (belN HBB.o)⟩
end Go.Proofs.YtogjokofmfpmgaaGreatDoor
namespace Go.Proofs.YtogjokofmfpmgaaGreatDoor
open Go.RowKit

end Go.Proofs.YtogjokofmfpmgaaGreatDoor
namespace Go.Proofs.YtogjokofmfpmgaaGreatDoor
open Go.RowKit

/-- A frame that is put. -/
structure PutR (w : World) (L : List UInt8) (e : Ending) (w' : World) : Prop where
  o : ∃ (A : Option Addr) (m c : Nat), e = .returned (.tuple #[.slice A m c, .int .i64 0]) ∧ m = L.length ∧ Row w' (From w.heap.size) 5 1 A m c (u8E L) ∧ Below w.heap.size w w'
theorem u8_lit (x : Nat) : Value.int .u8 ((UInt8.ofNat x).toNat : Int) = .int .u8 ((x : Int) % 256) := by rw [ofNat_toNat]; rfl
theorem frame_cells (l b : List UInt8) (k : Nat) (hk : k ≤ 255) (hb : b.length ≤ 20000) : u8E (l ++ frameB k b) = ((u8E l ++ [.int .u8 ((b.length : Int) / 65536), .int .u8 ((b.length : Int) / 256), .int .u8 ((b.length : Int) % 256), .int .u8 (k : Int)]) ++ u8E b) ++ [.int .u8 ((sumF k b : Int) / 256), .int .u8 ((sumF k b : Int) % 256)] := by
  have h := fsum_lt k b
  have e1 : ((sumF k b : Nat) : Int) / 256 = ((fsum k b).2 : Int) % 256 := by unfold sumF; omega
  have e2 : ((sumF k b : Nat) : Int) % 256 = ((fsum k b).1 : Int) % 256 := by unfold sumF; omega
  have e3 : (k : Int) = (k : Int) % 256 := by omega
  have e4 : ((b.length : Nat) : Int) / 65536 = ((b.length / 65536 : Nat) : Int) % 256 := by omega
  have e5 : ((b.length : Nat) : Int) / 256 = ((b.length / 256 : Nat) : Int) % 256 := by omega
  rw [e1, e2, e3, e4, e5]
  unfold frameB
  simp only [u8E_app, List.append_assoc]
  show _ ++ ([Value.int .u8 _, Value.int .u8 _, Value.int .u8 _, Value.int .u8 _] ++ (u8E b ++ [Value.int .u8 _, Value.int .u8 _])) = _
  rw [u8_lit, u8_lit, u8_lit, u8_lit, u8_lit, u8_lit]
theorem rds_0 (w : World) (A : Option Addr) : Rds w A 0 1 (u8E []) := ⟨rfl, fun h => by omega⟩

set_option maxRecDepth 100000 in
set_option maxHeartbeats 4000000 in
theorem rput_yes (w : World) (A : Option Addr) (n c : Nat) (l : List UInt8) (k : Nat) (b : ByteArray) (hn : n = l.length) (hr : Rds w A n 1 (u8E l)) (hnb : n ≤ 1000000) (hk : k ≤ 255) (hb : b.size ≤ 20000) :
    Calls Tryz.prog 94 #[.slice A n c, .agg #[.int .i64 k, .string b]] w fun e w' => PutR w (l ++ frameB k b.data.toList) e w' := by
  obtain ⟨i0, hi, hz0, hz1, hz2⟩ := info_parts pkInfo
  obtain ⟨w0, hw0⟩ : ∃ w0, w0 = w.alloc (.cells #[.int .i64 k, .string b] 107) := ⟨_, rfl⟩
  have HZ0 := hd (show Blk w0 w.heap.size 107 #[.int .i64 k, .string b] by rw [hw0]; exact Blk.new _ _ _)
  have HB0 := hd (show Below w.heap.size w w0 by rw [hw0]; exact (Below.refl _ w).alloc (Nat.le_refl _) _)
  have HW0 := hd hw0
  have HR := hd (hr.below HB0.o)
  have HN := hd hn
  have z0 : w0.cell? ⟨w.heap.size, 0, none⟩ = some (.int .i64 k) := HZ0.o.at_ 0 rfl
  have z1 : w0.cell? ⟨w.heap.size, 1, none⟩ = some (.string b) := HZ0.o.at_ 1 rfl
  have d1 : decide ((k : Int) < 0) = false := by simp
  have d2 : decide ((255 : Int) < (k : Int)) = false := by simp; omega
  have d3 : decide ((20000 : Int) < (b.size : Int)) = false := by simp; omega
  have hbl : b.data.toList.length = b.size := by simp
  have HFC := hd (frame_cells l b.data.toList k hk (by rw [hbl]; exact hb))
  have hsl : sumF k b.data.toList < 65536 := by have := fsum_lt k b.data.toList; unfold sumF; omega
  have CS := hd (fun W => rsum_calls k b (by omega) (by omega) W)
  rw [hbl] at HFC
  generalize sumF k b.data.toList = sm at *
  have HBL := hd hbl
  have hl0 := HZ0.o.lt
  clear hw0 hr hn hbl
  go_enter Tryz.func94, Tryz.ntmps94
  go_upto_region 1 with (fail)
  rw [← HW0.o]
  go_upto_region 6 with (fail)
  clear d1 d2 d3
  have HR1 := hd (row_zero (w := w0) (B := w0.heap.size) (Nat.le_refl _) 5)
  have HB1 := hd (show Below w0.heap.size w0 (w0.alloc (.cells #[] 5)) from (Below.refl _ _).alloc (Nat.le_refl _) _)
  have HL1 := hd (HR.o.below HB1.o)
  have hs1 := HB1.o.size
  go_upto_region 7 with (at_builtin; refine wpList_append_rowG rfl _ _ 27 rfl (From w0.heap.size) 5 i0 (.int .u8 0) 1 1 Tryz.underlying27 hi hz0 hz1 hz2 rfl _ 0 0 [] rfl HR1.o A n c (u8E l) rfl HL1.o (u8E_one _) (by unfold maxLen; omega) (by omega) ?_; intro A2 c2 w2 hown hchg; have HR2 := hd (show Row w2 (From w0.heap.size) 5 1 A2 n c2 (u8E l) by simpa using hown.mono (fun q hq => hq.elim id (fun hq => Nat.le_trans hs1 hq))); have HB2 := hd (HB1.o.trans (hchg.below (fun _ h => h) hs1)); clear hown hchg HR1 HL1; simp only [Nat.zero_add])
  have hz2b := HZ0.o.below HB2.o hl0
  have y0 := hz2b.at_ 0 (v := .int .i64 k) rfl
  have hs2 := HB2.o.size
  clear z0 z1 hz2b
  go_upto_region 8 with (at_builtin; refine wpList_append_row rfl _ _ 27 rfl (From w0.heap.size) 5 i0 (.int .u8 0) 1 1 Tryz.underlying27 hi hz0 hz1 hz2 rfl A2 n c2 (u8E l) rfl (HR2.o.alloc _) ⟨_, 0, none⟩ 4 4 [.int .u8 _, .int .u8 _, .int .u8 _, .int .u8 _] rfl rfl (cells_at8 (Blk.new_ _ _ (by simp) _ _) rfl) (by simp [Value.oneCell']) (by omega) (by unfold maxLen; omega) (by omega) ?_; intro A3 c3 w3 hown hchg; have HR3 := hd (hown.mono (fun q hq => show From w0.heap.size q from hq.elim id (fun hq => by simp at hq; show w0.heap.size ≤ q; omega))); have HB3 := hd (HB2.o.trans (((Chg.refl (From w0.heap.size) w2).alloc _).trans hchg (fun q hq => .inl hq) |>.below (fun _ h => h) hs2)); clear hown hchg HR2)
  have hz3b := HZ0.o.below HB3.o hl0
  have z0 := hz3b.at_ 0 (v := .int .i64 k) rfl
  have z1 := hz3b.at_ 1 (v := .string b) rfl
  have hs3 := HB3.o.size
  clear y0 hz3b
  go_upto_region 9 with (at_builtin; refine wpList_append_str rfl _ _ 27 9 rfl (From w0.heap.size) 5 i0 (.int .u8 0) 1 Tryz.underlying27 Tryz.underlying9 hi hz0 hz1 hz2 rfl A3 _ c3 _ rfl HR3.o b rfl (by unfold maxLen; omega) (by omega) ?_; intro A4 c4 w4 hown hchg; have HR4 := hd (hown.mono (fun q hq => show From w0.heap.size q from hq.elim id (fun hq => Nat.le_trans hs3 hq))); have HB4 := hd (HB3.o.trans (hchg.below (fun _ h => h) hs3)); clear hown hchg HR3)
  have hz4b := HZ0.o.below HB4.o hl0
  have y0 := hz4b.at_ 0 (v := .int .i64 k) rfl
  have y1 := hz4b.at_ 1 (v := .string b) rfl
  have hs4 := HB4.o.size
  clear z0 z1 hz4b
  go_upto_region 10 with (go_at_call 99; refine (CS.o _).mono ?_; rintro e w' ⟨rfl, rfl⟩)
  go_wp2_with (at_builtin; refine wpList_append_row rfl _ _ 27 rfl (From w0.heap.size) 5 i0 (.int .u8 0) 1 1 Tryz.underlying27 hi hz0 hz1 hz2 rfl A4 _ c4 _ rfl (HR4.o.alloc _) ⟨_, 0, none⟩ 2 2 [.int .u8 _, .int .u8 _] rfl rfl (cells_at8 (Blk.new_ _ _ (by simp) _ _) rfl) (by simp [Value.oneCell']) (by omega) (by unfold maxLen; omega) (by omega) ?_; intro A5 c5 w5 hown hchg; have HR5 := hd (hown.mono (fun q hq => show From w0.heap.size q from hq.elim id (fun hq => by simp at hq; show w0.heap.size ≤ q; omega))); have HB5 := hd (HB4.o.trans (((Chg.refl (From w0.heap.size) w4).alloc _).trans hchg (fun q hq => .inl hq) |>.below (fun _ h => h) hs4)); clear hown hchg HR4)
  go_ret2
  refine ⟨⟨A5, _, c5, rfl, by rw [List.length_append, frameB_len, HBL.o, ← HN.o]; omega, ?_, HB0.o.trans (HB5.o.mono HB0.o.size)⟩⟩
  have h5 := HR5.o
  rw [show bits .and .i64 ((b.size : Int) / 256) 255 % 256 = (b.size : Int) / 256 by rw [and255 _ (by omega) (by omega)]; omega, show bits .and .i64 (b.size : Int) 255 % 256 = (b.size : Int) % 256 by rw [and255 _ (by omega) (by omega)]; omega, show bits .and .i64 (sm : Int) 255 % 256 = (sm : Int) % 256 by rw [and255 _ (by omega) (by omega)]; omega] at h5
  rw [HFC.o]
  exact h5.mono (fun q hq => Nat.le_trans HB0.o.size hq)
end Go.Proofs.YtogjokofmfpmgaaGreatDoor
