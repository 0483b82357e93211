/-
  Days: leap years, months, what may be, numbers shown.
-/
import Derived.Test.YtpejlcaoggedfaaGreatDoorDayP
import Derived.Test.YtpejlcaoggedfaaGreatDoorProg
import Derived.Test.YtpejlcaoggedfaaGreatDoorLayItoa
import Derived.BigQuiet
import Derived.Deep.QuietTactic
import Derived.StillTailTactics
import Derived.WalkLawsBesides
import Derived.Lib.LaidTab
set_option linter.unusedVariables false
set_option linter.unusedSimpArgs false
namespace Go.Proofs.YtpejlcaoggedfaaGreatDoor
open Go.RowKit

set_option maxHeartbeats 400000 in
theorem leap_calls (y : Int) (w : World) : Calls Tryz.prog 125 #[.int .i64 y] w fun e w' => e = .returned (.bool (leap y)) ∧ w = w' := by
  by_cases c1 : 1 ≤ y
  · by_cases c2 : y ≤ 9999
    · by_cases c3 : y % 4 = 0
      · have b3 : (y % 4 == 0) = true := by simpa using c3
        by_cases c4 : y % 100 = 0
        · have b4 : (y % 100 == 0) = true := by simpa using c4
          have b4' : (y % 100 != 0) = false := by simpa using c4
          by_cases c5 : y % 400 = 0
          · have b5 : (y % 400 == 0) = true := by simpa using c5
            have e1 : leap y = true := by simp [leap, c1, c2, c3, c5]
            rw [e1]
            clear c3 c4 c5 e1
            go_enter Tryz.func125, Tryz.ntmps125
            go_wp2
            go_ret
            exact ⟨rfl, rfl⟩
          · have b5 : (y % 400 == 0) = false := by simpa using c5
            have e1 : leap y = false := by simp [leap, c1, c2, c3, c4, c5]
            rw [e1]
            clear c3 c4 c5 e1
            go_enter Tryz.func125, Tryz.ntmps125
            go_wp2
            go_ret
            exact ⟨rfl, rfl⟩
        · have b4' : (y % 100 != 0) = true := by simpa using c4
          have e1 : leap y = true := by simp [leap, c1, c2, c3, c4]
          rw [e1]
          clear c3 c4 e1
          go_enter Tryz.func125, Tryz.ntmps125
          go_wp2
          go_ret
          exact ⟨rfl, rfl⟩
      · have b3 : (y % 4 == 0) = false := by simpa using c3
        have e1 : leap y = false := by simp [leap, c1, c2, c3]
        rw [e1]
        clear c3 e1
        go_enter Tryz.func125, Tryz.ntmps125
        go_wp2
        go_ret
        exact ⟨rfl, rfl⟩
    · have e1 : leap y = false := by simp [leap, c1, c2]
      rw [e1]
      clear e1
      go_enter Tryz.func125, Tryz.ntmps125
      go_wp2
      go_ret
      exact ⟨rfl, rfl⟩
  · have e1 : leap y = false := by simp [leap, c1]
    rw [e1]
    clear e1
    go_enter Tryz.func125, Tryz.ntmps125
    go_wp2
    go_ret
    exact ⟨rfl, rfl⟩

set_option maxHeartbeats 400000 in
theorem days_calls (y m : Int) (w : World) : Calls Tryz.prog 104 #[.int .i64 y, .int .i64 m] w fun e w' => e = .returned (.int .i64 (dm y m)) ∧ w = w' := by
  by_cases c0 : m = 4 ∨ m = 6 ∨ m = 9 ∨ m = 11
  · have e1 : dm y m = 30 := by simp [dm, c0]
    rw [e1]
    clear e1
    rcases c0 with rfl | rfl | rfl | rfl
    all_goals
      go_enter Tryz.func104, Tryz.ntmps104
      go_wp2
      go_ret
      exact ⟨rfl, rfl⟩
  · have n4 : (m == 4) = false := by simp; omega
    have n6 : (m == 6) = false := by simp; omega
    have n9 : (m == 9) = false := by simp; omega
    have n11 : (m == 11) = false := by simp; omega
    by_cases c1 : m = 2
    · subst c1
      by_cases c2 : y = 0
      · subst c2
        have e1 : dm 0 2 = 29 := by simp [dm]
        rw [e1]
        clear e1 c0 n4 n6 n9 n11
        go_enter Tryz.func104, Tryz.ntmps104
        go_wp2
        go_ret
        exact ⟨rfl, rfl⟩
      · have b2 : (y == 0) = false := by simpa using c2
        cases hl : leap y with
        | true =>
          have e1 : dm y 2 = 29 := by simp [dm, hl]
          rw [e1]
          have HL := hd hl
          clear e1 c0 n4 n6 n9 n11 c2 hl
          go_enter Tryz.func104, Tryz.ntmps104
          go_wp2_with fail
          refine (leap_calls y w).mono ?_
          rintro e w' ⟨rfl, rfl⟩
          rw [HL.o]
          go_wp2
          go_ret
          exact ⟨rfl, rfl⟩
        | false =>
          have e1 : dm y 2 = 28 := by simp [dm, hl, c2]
          rw [e1]
          have HL := hd hl
          clear e1 c0 n4 n6 n9 n11 c2 hl
          go_enter Tryz.func104, Tryz.ntmps104
          go_wp2_with fail
          refine (leap_calls y w).mono ?_
          rintro e w' ⟨rfl, rfl⟩
          rw [HL.o]
          go_wp2
          go_ret
          exact ⟨rfl, rfl⟩
    · have n2 : (m == 2) = false := by simpa using c1
      have e1 : dm y m = 31 := by simp [dm, c0, c1]
      rw [e1]
      clear e1 c0 c1
      go_enter Tryz.func104, Tryz.ntmps104
      go_wp2
      go_ret
      exact ⟨rfl, rfl⟩

set_option maxHeartbeats 400000 in
theorem may_calls (y m d : Int) (w : World) : Calls Tryz.prog 81 #[.agg #[.int .i64 y, .int .i64 m, .int .i64 d]] w fun e w' => e = .returned (.bool (mayB y m d)) ∧ Below w.heap.size w w' := by
  by_cases hh : 0 ≤ y ∧ y ≤ 9999 ∧ 1 ≤ m ∧ m ≤ 12 ∧ 1 ≤ d
  · obtain ⟨c1, c2, c3, c4, c5⟩ := hh
    have e1 : mayB y m d = decide (d ≤ dm y m) := by simp [mayB, c1, c2, c3, c4, c5]
    rw [e1]
    clear e1
    go_enter Tryz.func81, Tryz.ntmps81
    go_wp2_with fail
    go_quiet ((go_at_call 104; exact q1 (days_calls y m _)))
    go_wp2
    go_ret
    exact ⟨rfl, bdrewN ((Below.refl _ _).alloc (Nat.le_refl _) _) _⟩
  · have e1 : mayB y m d = false := by
      cases h : mayB y m d with
      | false => rfl
      | true => rw [mayB_iff] at h; omega
    rw [e1]
    clear e1
    have hc : y < 0 ∨ (0 ≤ y ∧ 9999 < y) ∨ (0 ≤ y ∧ y ≤ 9999 ∧ m < 1) ∨ (0 ≤ y ∧ y ≤ 9999 ∧ 1 ≤ m ∧ 12 < m) ∨ (0 ≤ y ∧ y ≤ 9999 ∧ 1 ≤ m ∧ m ≤ 12 ∧ d < 1) := by omega
    clear hh
    rcases hc with c1 | ⟨c1, c2⟩ | ⟨c1, c2, c3⟩ | ⟨c1, c2, c3, c4⟩ | ⟨c1, c2, c3, c4, c5⟩
    · have b : decide (0 ≤ y) = false := by simp; omega
      go_enter Tryz.func81, Tryz.ntmps81
      go_wp2_with fail
      go_quiet (fail)
      go_wp2
      go_ret
      exact ⟨rfl, bdrewN ((Below.refl _ _).alloc (Nat.le_refl _) _) _⟩
    · have b : decide (y ≤ 9999) = false := by simp; omega
      go_enter Tryz.func81, Tryz.ntmps81
      go_wp2_with fail
      go_quiet (fail)
      go_wp2
      go_ret
      exact ⟨rfl, bdrewN ((Below.refl _ _).alloc (Nat.le_refl _) _) _⟩
    · have b : decide (1 ≤ m) = false := by simp; omega
      go_enter Tryz.func81, Tryz.ntmps81
      go_wp2_with fail
      go_quiet (fail)
      go_wp2
      go_ret
      exact ⟨rfl, bdrewN ((Below.refl _ _).alloc (Nat.le_refl _) _) _⟩
    · have b : decide (m ≤ 12) = false := by simp; omega
      go_enter Tryz.func81, Tryz.ntmps81
      go_wp2_with fail
      go_quiet (fail)
      go_wp2
      go_ret
      exact ⟨rfl, bdrewN ((Below.refl _ _).alloc (Nat.le_refl _) _) _⟩
    · have b : decide (1 ≤ d) = false := by simp; omega
      go_enter Tryz.func81, Tryz.ntmps81
      go_wp2_with fail
      go_quiet (fail)
      go_wp2
      go_ret
      exact ⟨rfl, bdrewN ((Below.refl _ _).alloc (Nat.le_refl _) _) _⟩

/-- The table that strconv reads. -/
def Tab (w : World) : Prop := Lib.TabIs Tryz.prog w "internal/strconv.uint64pow10" .u64 Lib.pow10Tab

theorem itoa_calls (n : Int) (h0 : -9223372036854775808 ≤ n) (h1 : n ≤ 9223372036854775807) (w : World) (ht : Tab w) :
    Calls Tryz.prog 126 #[.int .i64 n] w fun e w' => e = .returned (.string ⟨(Lib.itoa n).toArray⟩) ∧ Below w.heap.size w w' := by
  refine (Any.strconv_Itoa laysM171 n h0 h1 w ht).mono ?_
  rintro e w' ⟨rfl, k, os, rfl⟩
  exact ⟨rfl, rfl, rfl, rfl, by simp [Go.Sort.grow], fun i hi => by rw [Go.Sort.heap_grow_old _ _ (by simpa using hi)]; rfl⟩
theorem itoa_small (n : Nat) (hn : n < 100) (w : World) :
    Calls Tryz.prog 126 #[.int .i64 n] w fun e w' => e = .returned (.string ⟨(Lib.decDigits n).toArray⟩) ∧ w = w' :=
  (Any.strconv_Itoa_small lays171 n hn w).mono fun _ _ ⟨he, hw⟩ => ⟨he, hw.symm⟩

def pad (k : Nat) (l : List UInt8) : List UInt8 := List.replicate (k - l.length) 48 ++ l

theorem digits_calls (n : Int) (k : Nat) (hk : k ≤ 4) (l : List UInt8) (hl : l.length ≤ 20) (w : World) (R : World → Prop) (h : Calls Tryz.prog 126 #[.int .i64 n] w fun e w' => e = .returned (.string ⟨l.toArray⟩) ∧ R w') :
    Calls Tryz.prog 105 #[.int .i64 n, .int .i64 k] w fun e w' => e = .returned (.string (bs (pad k l))) ∧ R w' := by
  go_enter Tryz.func105, Tryz.ntmps105
  go_wp2_with fail
  refine h.mono ?_
  rintro e w' ⟨rfl, hR⟩
  have HR := hd hR
  clear hR h
  go_wp2_with fail
  go_loop [5] (fun s => ∃ b : ByteArray, s = .string b ∧ b.size ≤ 24 ∧ Hd (∃ j, b.data.toList = List.replicate j 48 ++ l ∧ (j = 0 ∨ j + l.length ≤ k))) (fun s => match s with | .string b => k - b.size | _ => 0)
  case atStart => exact ⟨_, rfl, by simpa [ByteArray.size] using (by omega : l.length ≤ 24), 0, by simp, .inl rfl⟩
  case round =>
    obtain ⟨b, rfl, hb, hh⟩ := hrel
    by_cases hlt : b.size < k
    · go_wp2_with fail
      go_round
      case rel =>
        obtain ⟨j, hj, hjk⟩ := hh.o
        have hsz : ((⟨#[48]⟩ : ByteArray) ++ b).size = b.size + 1 := by rw [ba_size, ba_app, ba_size]; simp
        refine ⟨_, rfl, by omega, j + 1, ?_, .inr ?_⟩
        · rw [ba_app, hj, List.replicate_succ]; rfl
        · rw [ba_size, hj] at hlt; simp at hlt; omega
      case measure =>
        have hsz : ((⟨#[48]⟩ : ByteArray) ++ b).size = b.size + 1 := by rw [ba_size, ba_app, ba_size]; simp
        show k - _ < k - b.size
        omega
    · go_wp2_with fail
      go_ret
      refine ⟨ret_val (a := .string b) (congrArg Value.string (ba_ext ?_)), HR.o⟩
      obtain ⟨j, hj, hjk⟩ := hh.o
      show b.data.toList = pad k l
      rw [hj, pad]
      have : j = k - l.length := by rw [ba_size, hj] at hlt; simp at hlt; omega
      rw [this]

theorem dig_lt (n : Nat) (hn : n < 10) : Lib.decDigits n = [UInt8.ofNat (48 + n)] := by rw [Lib.decDigits]; simp [hn]
theorem dig_ge (n : Nat) (hn : 10 ≤ n) : Lib.decDigits n = Lib.decDigits (n / 10) ++ [UInt8.ofNat (48 + n % 10)] := by
  rw [Lib.decDigits]; simp [show ¬ n < 10 by omega]
def sh2 (n : Nat) : List UInt8 := [UInt8.ofNat (48 + n / 10 % 10), UInt8.ofNat (48 + n % 10)]
def sh4 (n : Nat) : List UInt8 := sh2 (n / 100) ++ sh2 n
theorem pad2 (n : Nat) (hn : n < 100) : pad 2 (Lib.decDigits n) = sh2 n := by
  by_cases h : n < 10
  · rw [dig_lt n h, sh2, show n / 10 % 10 = 0 by omega, show n % 10 = n by omega]; rfl
  · rw [dig_ge n (by omega), dig_lt (n / 10) (by omega), sh2, show n / 10 % 10 = n / 10 by omega]; rfl
theorem pad4 (n : Nat) (hn : n < 10000) : pad 4 (Lib.decDigits n) = sh4 n := by
  unfold sh4 sh2
  by_cases h : n < 10
  · rw [dig_lt n h, show n / 100 / 10 % 10 = 0 by omega, show n / 100 % 10 = 0 by omega, show n / 10 % 10 = 0 by omega, show n % 10 = n by omega]; rfl
  · rw [dig_ge n (by omega)]
    by_cases h2 : n < 100
    · rw [dig_lt (n / 10) (by omega), show n / 100 / 10 % 10 = 0 by omega, show n / 100 % 10 = 0 by omega, show n / 10 % 10 = n / 10 by omega]; rfl
    · rw [dig_ge (n / 10) (by omega)]
      by_cases h3 : n < 1000
      · rw [dig_lt (n / 10 / 10) (by omega), show n / 100 / 10 % 10 = 0 by omega, show n / 100 % 10 = n / 10 / 10 by omega]; rfl
      · rw [dig_ge (n / 10 / 10) (by omega), dig_lt (n / 10 / 10 / 10) (by omega), show n / 100 / 10 % 10 = n / 10 / 10 / 10 by omega, show n / 100 % 10 = n / 10 / 10 % 10 by omega]; rfl
theorem len4 (n : Nat) (hn : n < 10000) : (Lib.decDigits n).length ≤ 4 := by
  have := congrArg List.length (pad4 n hn)
  simp [pad, sh4, sh2] at this
  omega

theorem digits2 (n : Int) (h0 : 0 ≤ n) (h1 : n < 100) (w : World) :
    Calls Tryz.prog 105 #[.int .i64 n, .int .i64 2] w fun e w' => e = .returned (.string (bs (sh2 n.toNat))) ∧ w = w' := by
  obtain ⟨m, rfl⟩ := Int.eq_ofNat_of_zero_le h0
  rw [Int.toNat_natCast, ← pad2 m (by omega)]
  exact digits_calls m 2 (by omega) _ (by have := len4 m (by omega); omega) w (fun w' => w = w') (itoa_small m (by omega) w)

theorem digits4 (n : Int) (h0 : 0 ≤ n) (h1 : n ≤ 9999) (w : World) (ht : Tab w) :
    Calls Tryz.prog 105 #[.int .i64 n, .int .i64 4] w fun e w' => e = .returned (.string (bs (sh4 n.toNat))) ∧ Below w.heap.size w w' := by
  obtain ⟨m, rfl⟩ := Int.eq_ofNat_of_zero_le h0
  rw [Int.toNat_natCast, ← pad4 m (by omega)]
  have hi := itoa_calls (m : Int) (by omega) (by omega) w ht
  rw [show Lib.itoa (m : Int) = Lib.decDigits m by simp [Lib.itoa]] at hi
  exact digits_calls m 4 (by omega) _ (by have := len4 m (by omega); omega) w (fun w' => Below w.heap.size w w') hi

end Go.Proofs.YtpejlcaoggedfaaGreatDoor
