/-
  Days, in plain numbers: what the walks compute.
-/
import Derived.Test.YtpejlcaoggedfaaGreatDoorBase
set_option linter.unusedVariables false
set_option linter.unusedSimpArgs false
namespace Go.Proofs.YtpejlcaoggedfaaGreatDoor

def leap (y : Int) : Bool := decide (1 ≤ y) && decide (y ≤ 9999) && (y % 4 == 0) && (!(y % 100 == 0) || (y % 400 == 0))
def dm (y m : Int) : Int := if m = 4 ∨ m = 6 ∨ m = 9 ∨ m = 11 then 30 else if m = 2 then (if y = 0 ∨ leap y = true then 29 else 28) else 31
def mayB (y m d : Int) : Bool := decide (0 ≤ y ∧ y ≤ 9999 ∧ 1 ≤ m ∧ m ≤ 12 ∧ 1 ≤ d ∧ d ≤ dm y m)

theorem mayB_iff (y m d : Int) : mayB y m d = true ↔ 0 ≤ y ∧ y ≤ 9999 ∧ 1 ≤ m ∧ m ≤ 12 ∧ 1 ≤ d ∧ d ≤ dm y m := by simp [mayB]
theorem dm_bd (y m : Int) : 28 ≤ dm y m ∧ dm y m ≤ 31 := by
  unfold dm
  split
  · omega
  · split
    · split <;> omega
    · omega
theorem leap_iff (y : Int) : leap y = true ↔ 1 ≤ y ∧ y ≤ 9999 ∧ y % 4 = 0 ∧ (y % 100 ≠ 0 ∨ y % 400 = 0) := by
  simp [leap, and_assoc]

end Go.Proofs.YtpejlcaoggedfaaGreatDoor
