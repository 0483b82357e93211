/-
  Days, in plain numbers: the day behind a day.
-/
import Derived.Test.YtdnmeffglpmlaaaDoorDayG
namespace Go.Proofs.YtdnmeffglpmlaaaDoor

theorem next_a (y m d : Int) (hy : y ≠ 0) (h : mayB y m d = true) (h2 : mayB y m (d + 1) = true) : countV y m (d + 1) = countV y m d + 1 := by
  unfold countV
  rw [if_pos ⟨h2, hy⟩, if_pos ⟨h, hy⟩]; omega
theorem next_b (y m d : Int) (hy : y ≠ 0) (h : mayB y m d = true) (h2 : mayB y m (d + 1) = false) (h3 : mayB y (m + 1) 1 = true) : countV y (m + 1) 1 = countV y m d + 1 := by
  unfold countV
  rw [if_pos ⟨h3, hy⟩, if_pos ⟨h, hy⟩]
  obtain ⟨c1, c2, c3, c4, c5, c6⟩ := (mayB_iff y m d).1 h
  have hd : d = dm y m := by
    rcases Int.lt_or_le d (dm y m) with hlt | hge
    · rw [(mayB_iff y m (d + 1)).2 ⟨c1, c2, c3, c4, by omega, by omega⟩] at h2; cases h2
    · omega
  obtain ⟨k, hk⟩ : ∃ k : Nat, m = (k : Int) + 1 := ⟨(m - 1).toNat, by omega⟩
  subst hk
  rw [show ((k : Int) + 1 + 1 - 1).toNat = k + 1 by omega, show ((k : Int) + 1 - 1).toNat = k by omega, sm, ← hd]
  omega
theorem sm_11 (y : Int) (hy : y ≠ 0) : sm y 11 = if leap y = true then 335 else 334 := by
  simp [sm, dm, hy]
  split <;> rfl
theorem next_c (y m d : Int) (hy : y ≠ 0) (h : mayB y m d = true) (h2 : mayB y m (d + 1) = false) (h3 : mayB y (m + 1) 1 = false) (h4 : mayB (y + 1) 1 1 = true) : countV (y + 1) 1 1 = countV y m d + 1 := by
  obtain ⟨c1, c2, c3, c4, c5, c6⟩ := (mayB_iff y m d).1 h
  have hd : d = dm y m := by
    rcases Int.lt_or_le d (dm y m) with hlt | hge
    · rw [(mayB_iff y m (d + 1)).2 ⟨c1, c2, c3, c4, by omega, by omega⟩] at h2; cases h2
    · omega
  have hm : m = 12 := by
    rcases Int.lt_or_le m 12 with hlt | hge
    · have := dm_bd y (m + 1)
      rw [(mayB_iff y (m + 1) 1).2 ⟨c1, c2, by omega, by omega, by omega, by omega⟩] at h3; cases h3
    · omega
  subst hm
  have hd31 : d = 31 := by rw [hd]; simp [dm]
  subst hd31
  unfold countV
  have h40 := (mayB_iff (y + 1) 1 1).1 h4
  rw [if_pos ⟨h4, by omega⟩, if_pos ⟨h, hy⟩]
  rw [show ((12 : Int) - 1).toNat = 11 from rfl, sm_11 y hy, show ((1 : Int) - 1).toNat = 0 from rfl]
  simp only [sm]
  by_cases hl : leap y = true
  · rw [if_pos hl]
    rw [leap_iff] at hl
    unfold yb
    omega
  · rw [if_neg hl]
    rw [leap_iff] at hl
    unfold yb
    omega
theorem next_d (y m d : Int) (hy : y ≠ 0) (h : mayB y m d = true) (h2 : mayB y m (d + 1) = false) (h3 : mayB y (m + 1) 1 = false) (h4 : mayB (y + 1) 1 1 = false) : y = 9999 ∧ m = 12 ∧ d = 31 := by
  obtain ⟨c1, c2, c3, c4, c5, c6⟩ := (mayB_iff y m d).1 h
  have hd : d = dm y m := by
    rcases Int.lt_or_le d (dm y m) with hlt | hge
    · rw [(mayB_iff y m (d + 1)).2 ⟨c1, c2, c3, c4, by omega, by omega⟩] at h2; cases h2
    · omega
  have hm : m = 12 := by
    rcases Int.lt_or_le m 12 with hlt | hge
    · have := dm_bd y (m + 1)
      rw [(mayB_iff y (m + 1) 1).2 ⟨c1, c2, by omega, by omega, by omega, by omega⟩] at h3; cases h3
    · omega
  subst hm
  refine ⟨?_, rfl, by rw [hd]; simp [dm]⟩
  rcases Int.lt_or_le y 9999 with hlt | hge
  · have := dm_bd (y + 1) 1
    rw [(mayB_iff (y + 1) 1 1).2 ⟨by omega, by omega, by omega, by omega, by omega, by omega⟩] at h4; cases h4
  · omega
theorem next_e : countV 9999 12 31 = 3652058 := by decide
theorem countV_no (y m d : Int) (h : mayB y m d = false) : countV y m d = -1 := by unfold countV; rw [if_neg (by rw [h]; exact fun h => Bool.noConfusion h.1)]
theorem countV_0 (m d : Int) : countV 0 m d = -1 := by unfold countV; rw [if_neg (fun h => h.2 rfl)]
theorem countV_pos (y m d : Int) (hy : y ≠ 0) (h : mayB y m d = true) : 0 ≤ countV y m d := by
  unfold countV
  rw [if_pos ⟨h, hy⟩]
  obtain ⟨c1, c2, c3, c4, c5, c6⟩ := (mayB_iff y m d).1 h
  have h1 := sm_bd y (m - 1).toNat
  unfold yb
  omega


end Go.Proofs.YtdnmeffglpmlaaaDoor
