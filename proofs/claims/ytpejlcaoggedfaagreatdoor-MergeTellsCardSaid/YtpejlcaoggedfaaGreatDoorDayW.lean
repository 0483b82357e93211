/-
  Days: what is shown is parsed.
-/
import Derived.Test.YtpejlcaoggedfaaGreatDoorDayD
set_option linter.unusedVariables false
set_option linter.unusedSimpArgs false
namespace Go.Proofs.YtpejlcaoggedfaaGreatDoor
open Go.RowKit

theorem num_calls (s : ByteArray) (n : Int) (h : s.size ≤ 10) (hn : numV s.data.toList 0 = n) (w : World) : Calls Tryz.prog 80 #[.string s] w fun e w' => e = .returned (.int .i64 n) ∧ w = w' := by
  subst hn; exact number_calls s h w

theorem ext_list (s : ByteArray) (a b : Nat) : (s.extract a b).data.toList = (s.data.toList.drop a).take (b - a) := by
  rw [ByteArray.data_extract, Array.toList_extract]

theorem dig_no (n : Nat) (hn : n < 10) (x : Int) (t : List UInt8) : numV (UInt8.ofNat (48 + n) :: t) x = numV t (x * 10 + n) := by
  have h : (UInt8.ofNat (48 + n)).toNat = 48 + n := by simp; omega
  have h1 : ¬ (UInt8.ofNat (48 + n) < 48 ∨ 57 < UInt8.ofNat (48 + n)) := by
    rw [UInt8.lt_iff_toNat_lt, UInt8.lt_iff_toNat_lt, h]
    simp; omega
  rw [numV, if_neg h1, h]
  congr 1
  omega
theorem num_sh2 (n : Nat) (hn : n < 100) (x : Int) (t : List UInt8) : numV (sh2 n ++ t) x = numV t (x * 100 + n) := by
  show numV (UInt8.ofNat (48 + n / 10 % 10) :: UInt8.ofNat (48 + n % 10) :: t) x = _
  rw [dig_no _ (by omega), dig_no _ (by omega)]
  congr 1
  omega

theorem shown_0 (m d : Int) (h : mayB 0 m d = true) : showL 0 m d = 45 :: 45 :: (sh2 m.toNat ++ 45 :: sh2 d.toNat) := by
  unfold showL; rw [if_pos h, if_pos rfl]; rfl
theorem shown_y (y m d : Int) (hy : y ≠ 0) (h : mayB y m d = true) : showL y m d = sh4 y.toNat ++ 45 :: (sh2 m.toNat ++ 45 :: sh2 d.toNat) := by
  unfold showL; rw [if_pos h, if_neg hy]

theorem parse_shown (y m d : Int) (h : mayB y m d = true) (w : World) (ht : Tab w) : Calls Tryz.prog 56 #[.string (bs (showL y m d))] w fun e w' => e = .returned (dateV y m d 0) ∧ Below w.heap.size w w' := by
  obtain ⟨c1, c2, c3, c4, c5, c6⟩ := (mayB_iff y m d).1 h
  have c7 : d ≤ 31 := by have := dm_bd y m; omega
  have em : ((m.toNat : Nat) : Int) = m := by omega
  have ed : ((d.toNat : Nat) : Int) = d := by omega
  have fin : ∀ v, Ans (bs (showL y m d)) y m d v → v = dateV y m d 0 := by
    intro v hv
    rcases hv with ⟨_, _, rfl⟩ | ⟨hm, _⟩
    · rfl
    · exact absurd ⟨h, rfl⟩ hm
  by_cases hy : y = 0
  · subst hy
    have hs := shown_0 m d h
    have n1 : numV ((bs (showL 0 m d)).extract 2 4).data.toList 0 = m := by
      rw [ext_list, show (bs (showL 0 m d)).data.toList = showL 0 m d from rfl, hs]
      show numV (sh2 m.toNat ++ []) 0 = m
      rw [num_sh2 _ (by omega)]; show 0 * 100 + (m.toNat : Int) = m; omega
    have n2 : numV ((bs (showL 0 m d)).extract 5 7).data.toList 0 = d := by
      rw [ext_list, show (bs (showL 0 m d)).data.toList = showL 0 m d from rfl, hs]
      show numV (sh2 d.toNat ++ []) 0 = d
      rw [num_sh2 _ (by omega)]; show 0 * 100 + (d.toNat : Int) = d; omega
    have hz : (bs (showL 0 m d)).size = 7 := by rw [hs]; rfl
    refine (parse_7 _ hz m d (num_calls _ _ (by have := ext_size (bs (showL 0 m d)) 2 4; omega) n1) (num_calls _ _ (by have := ext_size (bs (showL 0 m d)) 5 7; omega) n2) w ht).mono ?_
    rintro e w' ⟨v, rfl, hv, hb⟩
    exact ⟨by rw [fin v hv], hb⟩
  · have hs := shown_y y m d hy h
    have n0 : numV ((bs (showL y m d)).extract 0 4).data.toList 0 = y := by
      rw [ext_list, show (bs (showL y m d)).data.toList = showL y m d from rfl, hs]
      show numV (sh2 (y.toNat / 100) ++ (sh2 y.toNat ++ [])) 0 = y
      rw [num_sh2 _ (by omega)]
      have e2 : sh2 y.toNat = sh2 (y.toNat % 100) := by unfold sh2; rw [show y.toNat % 100 / 10 % 10 = y.toNat / 10 % 10 by omega, show y.toNat % 100 % 10 = y.toNat % 10 by omega]
      rw [e2, num_sh2 _ (by omega)]
      show (0 * 100 + ((y.toNat / 100 : Nat) : Int)) * 100 + ((y.toNat % 100 : Nat) : Int) = y
      omega
    have n1 : numV ((bs (showL y m d)).extract 5 7).data.toList 0 = m := by
      rw [ext_list, show (bs (showL y m d)).data.toList = showL y m d from rfl, hs]
      show numV (sh2 m.toNat ++ []) 0 = m
      rw [num_sh2 _ (by omega)]; show 0 * 100 + (m.toNat : Int) = m; omega
    have n2 : numV ((bs (showL y m d)).extract 8 10).data.toList 0 = d := by
      rw [ext_list, show (bs (showL y m d)).data.toList = showL y m d from rfl, hs]
      show numV (sh2 d.toNat ++ []) 0 = d
      rw [num_sh2 _ (by omega)]; show 0 * 100 + (d.toNat : Int) = d; omega
    have hz : (bs (showL y m d)).size = 10 := by rw [hs]; rfl
    refine (parse_10 _ hz y m d (num_calls _ _ (by have := ext_size (bs (showL y m d)) 0 4; omega) n0) (num_calls _ _ (by have := ext_size (bs (showL y m d)) 5 7; omega) n1) (num_calls _ _ (by have := ext_size (bs (showL y m d)) 8 10; omega) n2) w ht).mono ?_
    rintro e w' ⟨v, rfl, hv, hb⟩
    exact ⟨by rw [fin v hv], hb⟩

/-- A text's date, or none. -/
theorem parse_any (s : ByteArray) (hs : s.size ≤ 64) (w : World) (ht : Tab w) : Calls Tryz.prog 56 #[.string s] w fun e w' => ∃ y m d, ∃ v, e = .returned v ∧ Ans s y m d v ∧ Below w.heap.size w w' := by
  by_cases h7 : s.size = 7
  · exact (parse_7 s h7 _ _ (num_calls _ _ (by have := ext_size s 2 4; omega) rfl) (num_calls _ _ (by have := ext_size s 5 7; omega) rfl) w ht).mono fun e w' ⟨v, h⟩ => ⟨_, _, _, v, h⟩
  · by_cases h10 : s.size = 10
    · exact (parse_10 s h10 _ _ _ (num_calls _ _ (by have := ext_size s 0 4; omega) rfl) (num_calls _ _ (by have := ext_size s 5 7; omega) rfl) (num_calls _ _ (by have := ext_size s 8 10; omega) rfl) w ht).mono fun e w' ⟨v, h⟩ => ⟨_, _, _, v, h⟩
    · exact (parse_else s hs h7 h10 w ht).mono fun e w' ⟨v, h⟩ => ⟨_, _, _, v, h⟩

theorem Ans.fix {s : ByteArray} {y m d : Int} {v v' : Value} (h : Ans s y m d v) (h' : Ans s y m d v') : v' = v := by
  rcases h with ⟨a, b, rfl⟩ | ⟨a, rfl⟩ <;> rcases h' with ⟨c, e, rfl⟩ | ⟨c, rfl⟩
  · rfl
  · exact absurd ⟨a, b⟩ c
  · exact absurd ⟨c, e⟩ a
  · rfl
/-- What a text answers, in every world. -/
theorem parse_fix (s : ByteArray) (hs : s.size ≤ 64) : ∃ v, ∃ yx mx dx, Ans s yx mx dx v ∧ ∀ W, Tab W → Calls Tryz.prog 56 #[.string s] W fun e w' => e = .returned v ∧ Below W.heap.size W w' := by
  have pick : ∀ y m d : Int, ∃ v, Ans s y m d v := by
    intro y m d
    by_cases h : mayB y m d = true ∧ showL y m d = s.data.toList
    · exact ⟨_, .inl ⟨h.1, h.2, rfl⟩⟩
    · exact ⟨_, .inr ⟨h, rfl⟩⟩
  by_cases h7 : s.size = 7
  · obtain ⟨v, hv⟩ := pick 0 (numV (s.extract 2 4).data.toList 0) (numV (s.extract 5 7).data.toList 0)
    exact ⟨v, _, _, _, hv, fun W hW => (parse_7 s h7 _ _ (num_calls _ _ (by have := ext_size s 2 4; omega) rfl) (num_calls _ _ (by have := ext_size s 5 7; omega) rfl) W hW).mono fun e w' ⟨v', h1, h2, h3⟩ => ⟨by rw [h1, hv.fix h2], h3⟩⟩
  · by_cases h10 : s.size = 10
    · obtain ⟨v, hv⟩ := pick (numV (s.extract 0 4).data.toList 0) (numV (s.extract 5 7).data.toList 0) (numV (s.extract 8 10).data.toList 0)
      exact ⟨v, _, _, _, hv, fun W hW => (parse_10 s h10 _ _ _ (num_calls _ _ (by have := ext_size s 0 4; omega) rfl) (num_calls _ _ (by have := ext_size s 5 7; omega) rfl) (num_calls _ _ (by have := ext_size s 8 10; omega) rfl) W hW).mono fun e w' ⟨v', h1, h2, h3⟩ => ⟨by rw [h1, hv.fix h2], h3⟩⟩
    · obtain ⟨v, hv⟩ := pick 0 0 0
      exact ⟨v, _, _, _, hv, fun W hW => (parse_else s hs h7 h10 W hW).mono fun e w' ⟨v', h1, h2, h3⟩ => ⟨by rw [h1, hv.fix h2], h3⟩⟩

end Go.Proofs.YtpejlcaoggedfaaGreatDoor
