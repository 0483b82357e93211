/-
  Days: the number of some digits.
-/
import Derived.Test.YtpejlcaoggedfaaGreatDoorDayB
set_option linter.unusedVariables false
set_option linter.unusedSimpArgs false
namespace Go.Proofs.YtpejlcaoggedfaaGreatDoor
open Go.RowKit

/-- The number of some digits, from a number on. -/
def numV : List UInt8 → Int → Int
  | [], n => n
  | c :: t, n => if c < 48 ∨ 57 < c then -1 else numV t (n * 10 + (c.toNat - 48))

theorem numV_at (s : ByteArray) (i : Nat) (hi : i < s.size) (n v : Int) (h : numV (s.data.toList.drop i) n = v) :
    (48 ≤ s[i].toNat ∧ s[i].toNat ≤ 57 ∧ numV (s.data.toList.drop (i + 1)) (n * 10 + ((s[i].toNat : Int) - 48)) = v) ∨ (s[i].toNat < 48 ∧ v = -1) ∨ (57 < s[i].toNat ∧ v = -1) := by
  have hl : i < s.data.toList.length := by simpa using hi
  have e : s.data.toList.drop i = s[i] :: s.data.toList.drop (i + 1) := by rw [List.drop_eq_getElem_cons hl]; rfl
  rw [e, numV] at h
  split at h
  · next hc =>
    rcases hc with hc | hc
    · exact .inr (.inl ⟨by have := UInt8.lt_iff_toNat_lt.1 hc; simpa using this, h.symm⟩)
    · exact .inr (.inr ⟨by have := UInt8.lt_iff_toNat_lt.1 hc; simpa using this, h.symm⟩)
  · next hc =>
    refine .inl ⟨?_, ?_, h⟩
    · apply Nat.le_of_not_lt; intro hh; exact hc (.inl (UInt8.lt_iff_toNat_lt.2 (by simpa using hh)))
    · apply Nat.le_of_not_lt; intro hh; exact hc (.inr (UInt8.lt_iff_toNat_lt.2 (by simpa using hh)))

theorem drop_all (s : ByteArray) : s.data.toList.drop s.size = [] := List.drop_of_length_le (by rw [Array.length_toList]; exact Nat.le_refl _)

theorem number_calls (s : ByteArray) (h : s.size ≤ 10) (w : World) : Calls Tryz.prog 80 #[.string s] w fun e w' => e = .returned (.int .i64 (numV s.data.toList 0)) ∧ w = w' := by
  obtain ⟨v, hv⟩ : ∃ v, numV s.data.toList 0 = v := ⟨_, rfl⟩
  rw [hv]
  have HV := hd hv
  clear hv
  have hs : s.size ≤ 9223372036854775807 := by omega
  go_enter Tryz.func80, Tryz.ntmps80
  go_wp2_with fail
  go_loop [2, 3, 4, 7] (fun a b c d => a = .int .i64 0 ∧ ∃ i : Nat, d = .int .i64 i ∧ i ≤ s.size ∧ ∃ n : Int, b = .int .i64 n ∧ 0 ≤ n ∧ n < 10 ^ i ∧ Hd (numV (s.data.toList.drop i) n = v)) (fun _ _ _ d => s.size - (intOf d).toNat)
  case atStart => exact ⟨rfl, 0, rfl, by omega, 0, rfl, by omega, by simp, HV⟩
  case round =>
    obtain ⟨rfl, i, rfl, hi, n, rfl, hn0, hn1, hh⟩ := hrel
    by_cases hlt : i < s.size
    · have hp : (10:Int) ^ i ≤ 10 ^ 9 := by exact_mod_cast Nat.pow_le_pow_right (by omega : 0 < 10) (by omega : i ≤ 9)
      have hn : n < 1000000000 := by omega
      clear hp
      rcases numV_at s i hlt n v hh.o with ⟨ha, hb, hx⟩ | ⟨ha, rfl⟩ | ⟨ha, rfl⟩
      · have HX := hd hx
        clear hx
        go_wp2_with fail
        go_round
        case rel =>
          refine ⟨rfl, i + 1, by simp, by omega, _, rfl, by omega, ?_, HX⟩
          rw [Int.pow_succ]; omega
        case measure =>
          show s.size - ((i : Int) + 1).toNat < s.size - (i : Int).toNat
          omega
      · go_wp2_with fail
        go_ret
        exact ⟨rfl, rfl⟩
      · go_wp2_with fail
        go_ret
        exact ⟨rfl, rfl⟩
    · have hie : i = s.size := by omega
      subst hie
      have hx := hh.o
      rw [drop_all] at hx
      simp only [numV] at hx
      subst hx
      go_wp2_with fail
      go_ret
      exact ⟨rfl, rfl⟩

end Go.Proofs.YtpejlcaoggedfaaGreatDoor
