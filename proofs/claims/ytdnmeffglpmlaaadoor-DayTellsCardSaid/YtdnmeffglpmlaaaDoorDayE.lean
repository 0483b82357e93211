/-
  Days: the number of a day.
-/
import Derived.Test.YtdnmeffglpmlaaaDoorDayD
namespace Go.Proofs.YtdnmeffglpmlaaaDoor
open Go.RowKit

/-- The days of the first months. -/
def sm (y : Int) : Nat → Int
  | 0 => 0
  | k + 1 => sm y k + dm y ((k : Int) + 1)
/-- The days of the years ahead. -/
def yb (y : Int) : Int := (y - 1) * 365 + (y - 1) / 4 - (y - 1) / 100 + (y - 1) / 400
/-- The number of a day. -/
def countV (y m d : Int) : Int := if mayB y m d = true ∧ y ≠ 0 then yb y + sm y (m - 1).toNat + d - 1 else -1

theorem count_no (y m d : Int) (w : World) (hm : mayB y m d = false) : Calls Tryd.prog 19 #[.agg #[.int .i64 y, .int .i64 m, .int .i64 d]] w fun e w' => e = .returned (.int .i64 (-1)) ∧ Below w.heap.size w w' := by
  have HM := hd hm
  clear hm
  go_enter Tryd.func19, Tryd.ntmps19
  go_wp2_with fail
  refine (may_calls y m d _).mono ?_
  rintro e w' ⟨rfl, hb⟩
  rw [HM.o]
  go_wp2
  go_ret
  exact ⟨rfl, ((Below.refl _ w).alloc (Nat.le_refl _) _).trans (hb.mono (by simp))⟩

theorem count_0 (m d : Int) (w : World) (hm : mayB 0 m d = true) : Calls Tryd.prog 19 #[.agg #[.int .i64 0, .int .i64 m, .int .i64 d]] w fun e w' => e = .returned (.int .i64 (-1)) ∧ Below w.heap.size w w' := by
  have HM := hd hm
  clear hm
  have HC := hd (fun W (hb : Below (w.alloc (.cells #[.int .i64 0, .int .i64 m, .int .i64 d] 23)).heap.size (w.alloc (.cells #[.int .i64 0, .int .i64 m, .int .i64 d] 23)) W) => (Blk.new w 23 #[.int .i64 0, .int .i64 m, .int .i64 d]).below hb (by simp))
  go_enter Tryd.func19, Tryd.ntmps19
  go_wp2_with fail
  refine (may_calls 0 m d _).mono ?_
  rintro e w' ⟨rfl, hb⟩
  rw [HM.o]
  have h0 := (HC.o w' hb).at_ 0 rfl
  go_wp2
  go_ret
  exact ⟨rfl, ((Below.refl _ w).alloc (Nat.le_refl _) _).trans (hb.mono (by simp))⟩

set_option maxHeartbeats 800000 in
theorem count_yes (y m d : Int) (w : World) (hm : mayB y m d = true) (hy : y ≠ 0) : Calls Tryd.prog 19 #[.agg #[.int .i64 y, .int .i64 m, .int .i64 d]] w fun e w' => e = .returned (.int .i64 (yb y + sm y (m - 1).toNat + d - 1)) ∧ Below w.heap.size w w' := by
  have hdm := dm_bd y m
  obtain ⟨c1, c2, c3, c4, c5, c6⟩ := (mayB_iff y m d).1 hm
  have c7 : d ≤ 31 := by omega
  have c8 : 1 ≤ y := by omega
  clear c6 hdm c1
  have hne : (y == 0) = false := by simpa using hy
  clear hy
  have HM := hd hm
  clear hm
  obtain ⟨v, hv⟩ : ∃ v, yb y + sm y (m - 1).toNat + d - 1 = v := ⟨_, rfl⟩
  rw [hv]
  have HV := hd hv
  clear hv
  have HC := hd (fun W (hb : Below (w.alloc (.cells #[.int .i64 y, .int .i64 m, .int .i64 d] 23)).heap.size (w.alloc (.cells #[.int .i64 y, .int .i64 m, .int .i64 d] 23)) W) => (Blk.new w 23 #[.int .i64 y, .int .i64 m, .int .i64 d]).below hb (by simp))
  go_enter Tryd.func19, Tryd.ntmps19
  go_wp2_with fail
  refine (may_calls y m d _).mono ?_
  rintro e w1 ⟨rfl, hb⟩
  rw [HM.o]
  have hk := HC.o w1 hb
  have h0 := hk.at_ 0 rfl
  have h1 := hk.at_ 1 rfl
  have h2 := hk.at_ 2 rfl
  clear hk
  have hyb : 0 ≤ yb y ∧ yb y ≤ 4000000 := by unfold yb; omega
  obtain ⟨hy0, hy1⟩ := hyb
  go_wp2_with fail
  go_loop [4, 5] (fun a b => ∃ i : Nat, b = .int .i64 ((i : Int) + 1) ∧ (i : Int) + 1 ≤ m ∧ ∃ x : Int, a = .int .i64 (yb y + x) ∧ 0 ≤ x ∧ x ≤ 31 * i ∧ Hd (x = sm y i)) (fun _ b => 20 - (intOf b).toNat)
  case atStart => exact ⟨0, rfl, by omega, 0, by simp [yb], by omega, by omega, hd rfl⟩
  case round =>
    obtain ⟨i, rfl, hi, x, rfl, hx0, hx1, hx⟩ := hrel
    by_cases hlt : (i : Int) + 1 < m
    · have hdm := dm_bd y ((i : Int) + 1)
      go_wp2_with fail
      refine (days_calls y ((i : Int) + 1) _).mono ?_
      rintro e w' ⟨rfl, rfl⟩
      obtain ⟨q, hq⟩ : ∃ q, dm y ((i : Int) + 1) = q := ⟨_, rfl⟩
      rw [hq] at hdm ⊢
      have HQ := hd hq
      clear hq
      go_wp2_with fail
      go_round
      case rel =>
        refine ⟨i + 1, by simp, by omega, x + q, by rw [Int.add_assoc], by omega, by omega, ?_⟩
        show x + q = sm y (i + 1)
        rw [sm, HQ.o, hx.o]
      case measure =>
        show 20 - ((i : Int) + 1 + 1).toNat < 20 - ((i : Int) + 1).toNat
        omega
    · have hie : m = (i : Int) + 1 := by omega
      subst hie
      go_wp2_with fail
      go_ret
      refine ⟨ret_int ?_, ((Below.refl _ w).alloc (Nat.le_refl _) _).trans (hb.mono (by simp))⟩
      have := HV.o
      rw [show (i : Int) + 1 - 1 = i by omega, Int.toNat_natCast, ← hx.o] at this
      omega

end Go.Proofs.YtdnmeffglpmlaaaDoor
