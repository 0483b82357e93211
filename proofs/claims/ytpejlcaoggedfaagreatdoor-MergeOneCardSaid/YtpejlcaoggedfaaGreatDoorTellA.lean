/-
  The reference's days: leap years, months, what may be.
-/
import Derived.Test.YtpejlcaoggedfaaGreatDoorDayB
import Derived.Lib.QuietBelow
import Derived.IntWalk
import Derived.Laws.BytesArg
set_option linter.unusedVariables false
set_option linter.unusedSimpArgs false
namespace Go.Proofs.YtpejlcaoggedfaaGreatDoor
open Go.RowKit Go.Sort

set_option maxHeartbeats 400000 in
theorem rleap_calls (y : Int) (w : World) : Calls Tryz.prog 138 #[.int .i64 y] w fun e w' => e = .returned (.bool (leap y)) ∧ w = w' := by
  by_cases c1 : 1 ≤ y
  · by_cases c2 : y ≤ 9999
    · by_cases c3 : y % 4 = 0
      · have b3 : (y % 4 == 0) = true := by simpa using c3
        by_cases c4 : y % 100 = 0
        · have b4 : (y % 100 == 0) = true := by simpa using c4
          have b4' : (y % 100 != 0) = false := by simpa using c4
          by_cases c5 : y % 400 = 0
          · have b5 : (y % 400 == 0) = true := by simpa using c5
            have e1 : leap y = true := by simp [leap, c1, c2, c3, c5]
            rw [e1]
            clear c3 c4 c5 e1
            go_enter Tryz.func138, Tryz.ntmps138
            go_wp2
            go_ret
            exact ⟨rfl, rfl⟩
          · have b5 : (y % 400 == 0) = false := by simpa using c5
            have e1 : leap y = false := by simp [leap, c1, c2, c3, c4, c5]
            rw [e1]
            clear c3 c4 c5 e1
            go_enter Tryz.func138, Tryz.ntmps138
            go_wp2
            go_ret
            exact ⟨rfl, rfl⟩
        · have b4' : (y % 100 != 0) = true := by simpa using c4
          have e1 : leap y = true := by simp [leap, c1, c2, c3, c4]
          rw [e1]
          clear c3 c4 e1
          go_enter Tryz.func138, Tryz.ntmps138
          go_wp2
          go_ret
          exact ⟨rfl, rfl⟩
      · have b3 : (y % 4 == 0) = false := by simpa using c3
        have e1 : leap y = false := by simp [leap, c1, c2, c3]
        rw [e1]
        clear c3 e1
        go_enter Tryz.func138, Tryz.ntmps138
        go_wp2
        go_ret
        exact ⟨rfl, rfl⟩
    · have e1 : leap y = false := by simp [leap, c1, c2]
      rw [e1]
      clear e1
      go_enter Tryz.func138, Tryz.ntmps138
      go_wp2
      go_ret
      exact ⟨rfl, rfl⟩
  · have e1 : leap y = false := by simp [leap, c1]
    rw [e1]
    clear e1
    go_enter Tryz.func138, Tryz.ntmps138
    go_wp2
    go_ret
    exact ⟨rfl, rfl⟩


theorem two_calls (n : Int) (h0 : 0 ≤ n) (h1 : n ≤ 9999) (w : World) : Calls Tryz.prog 116 #[.int .i64 n] w fun e w' => e = .returned (.string (bs (sh2 n.toNat))) ∧ Below w.heap.size w w' := by
  have hc : (convert 70 9 (.slice (some ⟨w.heap.size, 0, none⟩) 2 2)).run Tryz.prog (w.alloc (.cells #[.int .u8 (48 + n / 10 % 10), .int .u8 (48 + n % 10)] 5)) = .ok (.string (bs (sh2 n.toNat))) (w.alloc (.cells #[.int .u8 (48 + n / 10 % 10), .int .u8 (48 + n % 10)] 5)) := by
    rw [run_convert_bytes_arg _ 70 5 Tryz.underlying70 Tryz.underlying5 w.heap.size 0 2 2 [48 + n / 10 % 10, 48 + n % 10] rfl ?_ 9 Tryz.underlying9]
    · congr 2
      have e1 : (48 + n / 10 % 10).toNat = 48 + n.toNat / 10 % 10 := by omega
      have e2 : (48 + n % 10).toNat = 48 + n.toNat % 10 := by omega
      simp [strOfNums, bs, sh2, e1, e2]
    · intro i hi
      have hb := Blk.new w 5 #[.int .u8 (48 + n / 10 % 10), .int .u8 (48 + n % 10)]
      match i, hi with
      | 0, _ => exact hb.at_ 0 rfl
      | 1, _ => exact hb.at_ 1 rfl
  go_enter Tryz.func116, Tryz.ntmps116
  go_wp2
  go_ret
  exact ⟨rfl, (Below.refl _ w).alloc (Nat.le_refl _) _⟩

set_option maxHeartbeats 4000000 in
theorem month_calls (y m : Int) (h0 : 1 ≤ m) (h1 : m ≤ 12) (w : World) : Calls Tryz.prog 130 #[.int .i64 y, .int .i64 m] w fun e w' => e = .returned (.int .i64 (dm y m)) ∧ Below w.heap.size w w' := by
  by_cases hm : m = 2
  · subst hm
    cases hl : decide (y = 0 ∨ leap y = true) with
    | true =>
      have hl' : y = 0 ∨ leap y = true := by simpa using hl
      have e1 : dm y 2 = 29 := by simp [dm, hl']
      rw [e1]
      clear e1 hl
      by_cases hy : y = 0
      · subst hy
        clear hl'
        go_enter Tryz.func130, Tryz.ntmps130
        go_wp2
        go_ret
        exact ⟨rfl, (Below.refl _ w).alloc (Nat.le_refl _) _⟩
      · have hle := hl'.resolve_left hy
        have hne : (y == 0) = false := by simpa using hy
        have HL := hd hle
        clear hl' hle
        go_enter Tryz.func130, Tryz.ntmps130
        go_wp2_with fail
        refine (rleap_calls y _).mono ?_
        rintro e w' ⟨rfl, rfl⟩
        rw [HL.o]
        go_wp2
        go_ret
        exact ⟨rfl, (Below.refl _ w).alloc (Nat.le_refl _) _⟩
    | false =>
      have hl' : ¬ (y = 0 ∨ leap y = true) := by simpa using hl
      have e1 : dm y 2 = 28 := by unfold dm; rw [if_neg (by omega), if_pos rfl, if_neg hl']
      rw [e1]
      have hne : (y == 0) = false := by simpa using fun h => hl' (.inl h)
      have HL := hd (show leap y = false by simpa using fun h => hl' (.inr h))
      clear e1 hl hl'
      go_enter Tryz.func130, Tryz.ntmps130
      go_wp2_with fail
      refine (rleap_calls y _).mono ?_
      rintro e w' ⟨rfl, rfl⟩
      rw [HL.o]
      go_wp2
      go_ret
      exact ⟨rfl, (Below.refl _ w).alloc (Nat.le_refl _) _⟩
  · have hc : m = 1 ∨ m = 3 ∨ m = 4 ∨ m = 5 ∨ m = 6 ∨ m = 7 ∨ m = 8 ∨ m = 9 ∨ m = 10 ∨ m = 11 ∨ m = 12 := by omega
    clear hm
    rcases hc with rfl | rfl | rfl | rfl | rfl | rfl | rfl | rfl | rfl | rfl | rfl
    all_goals
      simp only [dm]
      go_enter Tryz.func130, Tryz.ntmps130
      go_wp2
      go_ret
      exact ⟨rfl, (Below.refl _ w).alloc (Nat.le_refl _) _⟩

end Go.Proofs.YtpejlcaoggedfaaGreatDoor
