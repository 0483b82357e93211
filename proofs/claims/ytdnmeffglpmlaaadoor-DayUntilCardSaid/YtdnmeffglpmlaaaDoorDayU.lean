/-
  Days, in plain numbers: when a day comes again.
-/
import Derived.Test.YtdnmeffglpmlaaaDoorDayR
namespace Go.Proofs.YtdnmeffglpmlaaaDoor

def lp (y : Int) : Int := if leap y = true then 1 else 0
theorem lp_bd (y : Int) : 0 ≤ lp y ∧ lp y ≤ 1 := by unfold lp; split <;> omega
theorem yb_next (y : Int) (h0 : 1 ≤ y) (h1 : y ≤ 9999) : yb (y + 1) = yb y + 365 + lp y := by
  unfold lp
  by_cases hl : leap y = true
  · rw [if_pos hl]; rw [leap_iff] at hl; unfold yb; omega
  · rw [if_neg hl]; rw [leap_iff] at hl; unfold yb; omega

theorem dm_2 (y : Int) (hy : y ≠ 0) : dm y 2 = 28 + lp y := by
  simp [dm, lp, hy]; split <;> rfl
/-- The days ahead of a month, of a year that does not leap. -/
def sn : Nat → Int
  | 0 => 0 | 1 => 31 | 2 => 59 | 3 => 90 | 4 => 120 | 5 => 151 | 6 => 181 | 7 => 212 | 8 => 243 | 9 => 273 | 10 => 304 | 11 => 334 | _ => 365
theorem sm_eq (y : Int) (hy : y ≠ 0) (k : Nat) (hk : k ≤ 12) : sm y k = sn k + if 2 ≤ k then lp y else 0 := by
  have h2 := dm_2 y hy
  have e : ∀ j : Nat, j ≤ 11 → sm y (j + 1) = sm y j + dm y ((j : Int) + 1) := fun j _ => rfl
  have d1 : dm y 1 = 31 := by simp [dm]
  have d3 : dm y 3 = 31 := by simp [dm]
  have d4 : dm y 4 = 30 := by simp [dm]
  have d5 : dm y 5 = 31 := by simp [dm]
  have d6 : dm y 6 = 30 := by simp [dm]
  have d7 : dm y 7 = 31 := by simp [dm]
  have d8 : dm y 8 = 31 := by simp [dm]
  have d9 : dm y 9 = 30 := by simp [dm]
  have d10 : dm y 10 = 31 := by simp [dm]
  have d11 : dm y 11 = 30 := by simp [dm]
  have d12 : dm y 12 = 31 := by simp [dm]
  have s0 : sm y 0 = 0 := rfl
  have s1 : sm y 1 = 31 := by rw [e 0 (by omega), s0]; exact (by omega : (0 : Int) + dm y 1 = 31)
  have s2 : sm y 2 = 59 + lp y := by have : sm y 2 = sm y 1 + dm y 2 := e 1 (by omega); omega
  have s3 : sm y 3 = 90 + lp y := by have : sm y 3 = sm y 2 + dm y 3 := e 2 (by omega); omega
  have s4 : sm y 4 = 120 + lp y := by have : sm y 4 = sm y 3 + dm y 4 := e 3 (by omega); omega
  have s5 : sm y 5 = 151 + lp y := by have : sm y 5 = sm y 4 + dm y 5 := e 4 (by omega); omega
  have s6 : sm y 6 = 181 + lp y := by have : sm y 6 = sm y 5 + dm y 6 := e 5 (by omega); omega
  have s7 : sm y 7 = 212 + lp y := by have : sm y 7 = sm y 6 + dm y 7 := e 6 (by omega); omega
  have s8 : sm y 8 = 243 + lp y := by have : sm y 8 = sm y 7 + dm y 8 := e 7 (by omega); omega
  have s9 : sm y 9 = 273 + lp y := by have : sm y 9 = sm y 8 + dm y 9 := e 8 (by omega); omega
  have s10 : sm y 10 = 304 + lp y := by have : sm y 10 = sm y 9 + dm y 10 := e 9 (by omega); omega
  have s11 : sm y 11 = 334 + lp y := by have : sm y 11 = sm y 10 + dm y 11 := e 10 (by omega); omega
  have s12 : sm y 12 = 365 + lp y := by have : sm y 12 = sm y 11 + dm y 12 := e 11 (by omega); omega
  clear e
  match k, hk with
  | 0, _ => simp [sn, s0]
  | 1, _ => simp [sn, s1]
  | 2, _ => simpa [sn] using s2
  | 3, _ => simpa [sn] using s3
  | 4, _ => simpa [sn] using s4
  | 5, _ => simpa [sn] using s5
  | 6, _ => simpa [sn] using s6
  | 7, _ => simpa [sn] using s7
  | 8, _ => simpa [sn] using s8
  | 9, _ => simpa [sn] using s9
  | 10, _ => simpa [sn] using s10
  | 11, _ => simpa [sn] using s11
  | 12, _ => simpa [sn] using s12
  | k + 13, h => omega

theorem sn_next (k : Nat) (hk : k ≤ 11) : sn k + 28 ≤ sn (k + 1) ∧ sn (k + 1) ≤ 365 := by
  match k, hk with
  | 0, _ | 1, _ | 2, _ | 3, _ | 4, _ | 5, _ | 6, _ | 7, _ | 8, _ | 9, _ | 10, _ | 11, _ => decide
  | k + 12, h => omega

/-- A day of a year lies between two years' first days. -/
theorem countV_in (y m d : Int) (hy : 1 ≤ y) (h : mayB y m d = true) : yb y ≤ countV y m d ∧ countV y m d < yb (y + 1) := by
  obtain ⟨c1, c2, c3, c4, c5, c6⟩ := (mayB_iff y m d).1 h
  unfold countV
  rw [if_pos ⟨h, by omega⟩, yb_next y hy c2]
  obtain ⟨k, rfl⟩ : ∃ k : Nat, m = (k : Int) + 1 := ⟨(m - 1).toNat, by omega⟩
  rw [show ((k : Int) + 1 - 1).toNat = k by omega]
  have h1 : sm y (k + 1) = sm y k + dm y ((k : Int) + 1) := rfl
  have h2 := sm_eq y (by omega) (k + 1) (by omega)
  have h3 := sn_next k (by omega)
  have h4 := sm_bd y k
  have h5 := lp_bd y
  split at h2 <;> omega

theorem mar1 (y : Int) (h0 : 1 ≤ y) (h1 : y ≤ 9999) : countV y 3 1 = yb y + 59 + lp y := by
  unfold countV
  rw [if_pos ⟨mayB_31 y (by omega) h1, by omega⟩, show ((3 : Int) - 1).toNat = 2 from rfl, sm_eq y (by omega) 2 (by omega)]
  simp [sn]
  omega

/-- A month's day: as many days on, from one year to the next, as a year has, or one more. -/
theorem uy_in (y m d : Int) (hy : 1 ≤ y) (h1 : y ≤ 9999) : yb y ≤ uy y m d ∧ uy y m d < yb (y + 1) := by
  unfold uy
  split
  · next h => exact countV_in y m d hy h
  · exact countV_in y 3 1 hy (mayB_31 y (by omega) h1)

theorem uy_diff (y0 y m d : Int) (hd : mayB y0 m d = true) (hy : 1 ≤ y) (h1 : y + 1 ≤ 9999) : uy (y + 1) m d ≤ uy y m d + 366 := by
  obtain ⟨_, _, c3, c4, c5, c6⟩ := (mayB_iff y0 m d).1 hd
  have hn := yb_next y hy (by omega)
  have l0 := lp_bd y
  have l1 := lp_bd (y + 1)
  by_cases hm : m = 2
  · subst hm
    by_cases hd29 : d = 29
    · subst hd29
      have key : ∀ z, 1 ≤ z → z ≤ 9999 → uy z 2 29 = yb z + 59 := by
        intro z hz hz1
        have hm1 := mar1 z hz hz1
        have h2 := dm_2 z (by omega)
        unfold uy
        by_cases hl : leap z = true
        · have e : lp z = 1 := by simp [lp, hl]
          have hb : mayB z 2 29 = true := (mayB_iff z 2 29).2 ⟨by omega, hz1, by omega, by omega, by omega, by omega⟩
          rw [if_pos hb]
          unfold countV
          rw [if_pos ⟨hb, by omega⟩, show ((2 : Int) - 1).toNat = 1 from rfl, sm_eq z (by omega) 1 (by omega)]
          simp [sn]; omega
        · have e : lp z = 0 := by simp [lp, hl]
          rw [if_neg (fun hb => by have := (mayB_iff z 2 29).1 hb; omega), hm1]
          omega
      rw [key y hy (by omega), key (y + 1) (by omega) h1]
      omega
    · have key : ∀ z, 1 ≤ z → z ≤ 9999 → d ≤ 29 → uy z 2 d = yb z + 31 + d - 1 := by
        intro z hz hz1 hd'
        have h2 := dm_2 z (by omega)
        have l2 := lp_bd z
        have hb : mayB z 2 d = true := (mayB_iff z 2 d).2 ⟨by omega, hz1, by omega, by omega, c5, by omega⟩
        unfold uy countV
        rw [if_pos hb, if_pos ⟨hb, by omega⟩, show ((2 : Int) - 1).toNat = 1 from rfl, sm_eq z (by omega) 1 (by omega)]
        simp [sn]
      have hd' : d ≤ 29 := by
        by_cases hz : y0 = 0
        · subst hz; simp [dm] at c6; exact c6
        · have := dm_2 y0 hz; have := lp_bd y0; omega
      rw [key y hy (by omega) hd', key (y + 1) (by omega) h1 hd']
      omega
  · have hdm : ∀ z, dm z m = dm y0 m := by intro z; unfold dm; simp [hm]
    obtain ⟨k, rfl⟩ : ∃ k : Nat, m = (k : Int) + 1 := ⟨(m - 1).toNat, by omega⟩
    have key : ∀ z, 1 ≤ z → z ≤ 9999 → uy z ((k : Int) + 1) d = yb z + (sn k + if 2 ≤ k then lp z else 0) + d - 1 := by
      intro z hz hz1
      have hb : mayB z ((k : Int) + 1) d = true := (mayB_iff z _ d).2 ⟨by omega, hz1, c3, c4, c5, by rw [hdm z]; exact c6⟩
      unfold uy countV
      rw [if_pos hb, if_pos ⟨hb, by omega⟩, show ((k : Int) + 1 - 1).toNat = k by omega, sm_eq z (by omega) k (by omega)]
    rw [key y hy (by omega), key (y + 1) (by omega) h1]
    split <;> omega

end Go.Proofs.YtdnmeffglpmlaaaDoor
