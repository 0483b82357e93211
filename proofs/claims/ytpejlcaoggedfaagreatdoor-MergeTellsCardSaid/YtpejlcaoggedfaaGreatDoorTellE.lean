/-
  The reference's days: what a text answers, on both sides.
-/
import Derived.Test.YtpejlcaoggedfaaGreatDoorTellD7
import Derived.Test.YtpejlcaoggedfaaGreatDoorTellD10
set_option linter.unusedVariables false
set_option linter.unusedSimpArgs false
namespace Go.Proofs.YtpejlcaoggedfaaGreatDoor
open Go.RowKit Go.Sort

theorem ofn (a : Nat) (h : a < 10) : (UInt8.ofNat (48 + a)).toNat = 48 + a := by
  rw [UInt8.toNat_ofNat']; omega
theorem stp_y (len i a : Nat) (ha : a < 10) (t : Int × Int × Int) (hi : (i : Int) < len - 6) : stp len i (48 + a) t = (10 * t.1 + a, t.2.1, t.2.2) := by
  unfold stp; rw [if_neg (by omega), if_pos hi]; simp; omega
theorem stp_m (len i a : Nat) (ha : a < 10) (t : Int × Int × Int) (h0 : ¬ (i : Int) < len - 6) (hi : (i : Int) = len - 5 ∨ (i : Int) = len - 4) : stp len i (48 + a) t = (t.1, 10 * t.2.1 + a, t.2.2) := by
  unfold stp; rw [if_neg (by omega), if_neg h0, if_pos hi]; simp; omega
theorem stp_d (len i a : Nat) (ha : a < 10) (t : Int × Int × Int) (hi : (len : Int) - 2 ≤ i) : stp len i (48 + a) t = (t.1, t.2.1, 10 * t.2.2 + a) := by
  unfold stp; rw [if_neg (by omega), if_neg (by omega), if_neg (by omega), if_pos hi]; simp; omega
theorem stp_n (len i : Nat) (t : Int × Int × Int) : stp len i 45 t = t := by
  unfold stp; rw [if_pos (by omega)]

theorem pd_0 (m d : Int) (h : mayB 0 m d = true) : pdF 7 0 (showL 0 m d) (0, 0, 0) = (0, m, d) := by
  obtain ⟨c1, c2, c3, c4, c5, c6⟩ := (mayB_iff 0 m d).1 h
  have := dm_bd 0 m
  rw [shown_0 m d h]
  simp only [sh2, List.cons_append, List.nil_append, pdF]
  rw [show (45 : UInt8).toNat = 45 from rfl, ofn _ (by omega), stp_d 7 _ _ (by omega) _ (by decide), ofn _ (by omega), stp_d 7 _ _ (by omega) _ (by decide), stp_n, ofn _ (by omega), stp_m 7 _ _ (by omega) _ (by decide) (by decide), ofn _ (by omega), stp_m 7 _ _ (by omega) _ (by decide) (by decide), stp_n, stp_n]
  simp only [Prod.mk.injEq]
  refine ⟨trivial, by omega, by omega⟩
theorem pd_y (y m d : Int) (hy : y ≠ 0) (h : mayB y m d = true) : pdF 10 0 (showL y m d) (0, 0, 0) = (y, m, d) := by
  obtain ⟨c1, c2, c3, c4, c5, c6⟩ := (mayB_iff y m d).1 h
  have := dm_bd y m
  rw [shown_y y m d hy h]
  simp only [sh2, sh4, List.cons_append, List.nil_append, pdF]
  rw [show (45 : UInt8).toNat = 45 from rfl, ofn _ (by omega), stp_d 10 _ _ (by omega) _ (by decide), ofn _ (by omega), stp_d 10 _ _ (by omega) _ (by decide), stp_n, ofn _ (by omega), stp_m 10 _ _ (by omega) _ (by decide) (by decide), ofn _ (by omega), stp_m 10 _ _ (by omega) _ (by decide) (by decide), stp_n, ofn _ (by omega), stp_y 10 _ _ (by omega) _ (by decide), ofn _ (by omega), stp_y 10 _ _ (by omega) _ (by decide), ofn _ (by omega), stp_y 10 _ _ (by omega) _ (by decide), ofn _ (by omega), stp_y 10 _ _ (by omega) _ (by decide)]
  simp only [Prod.mk.injEq]
  omega

set_option maxRecDepth 100000 in
theorem rparse_else (s : ByteArray) (h5 : s.size ≤ 64) (h7 : ¬ s.size = 7) (h10 : ¬ s.size = 10) (w : World) : Calls Tryz.prog 66 #[.string s] w fun e w' => e = .returned (dateV 0 0 0 1) ∧ Below w.heap.size w w' := by
  have a1 : ((s.size : Int) != 10) = true := by simp; omega
  have a2 : ((s.size : Int) != 7) = true := by simp; omega
  have HC := hd (two_cells w _ 62 #[.int .i64 0, .int .i64 0, .int .i64 0] #[.int .i64 0, .int .i64 0, .int .i64 0] (Below.refl _ _))
  have HW := hd (two_below w _ (.cells #[.int .i64 0, .int .i64 0, .int .i64 0] 62) (.cells #[.int .i64 0, .int .i64 0, .int .i64 0] 62) (Below.refl _ _))
  go_enter Tryz.func66, Tryz.ntmps66
  go_wp2
  (try simp only [Exit.inBlock, Exit.then])
  refine bodyPost_ret (res_cell_tmp rfl _ _ w.heap.size 62 #[.int .i64 0, .int .i64 0, .int .i64 0] _ _ rfl HC.o.1 rfl rfl rfl) rfl ⟨rfl, HW.o⟩

theorem parse_else_v (s : ByteArray) (h7 : ¬ s.size = 7) (h10 : ¬ s.size = 10) (v : Value) (h : Ans s 0 0 0 v) : v = dateV 0 0 0 1 := by
  rcases h with ⟨h, _, _⟩ | ⟨_, h⟩
  · exact absurd h (by decide)
  · exact h

/-- Both answer alike. -/
theorem parse_both (s : ByteArray) (hs : s.size ≤ 64) : ∃ y m d k : Int, ((k = 0 ∧ ∃ y m d, mayB y m d = true ∧ showL y m d = s.data.toList) ∨ (k = 1 ∧ ¬ ∃ y m d, mayB y m d = true ∧ showL y m d = s.data.toList)) ∧ (∀ W, Tab W → Calls Tryz.prog 56 #[.string s] W fun e w' => e = .returned (dateV y m d k) ∧ Below W.heap.size W w') ∧
    (∀ W, Calls Tryz.prog 66 #[.string s] W fun e w' => e = .returned (dateV y m d k) ∧ Below W.heap.size W w') := by
  by_cases hex : ∃ y m d, mayB y m d = true ∧ showL y m d = s.data.toList
  · obtain ⟨y, m, d, hm, hsh⟩ := hex
    refine ⟨y, m, d, 0, .inl ⟨rfl, y, m, d, hm, hsh⟩, fun W hW => ?_, fun W => ?_⟩
    · have := parse_shown y m d hm W hW
      rwa [bs_eq _ _ hsh] at this
    · have hz : s.size = (showL y m d).length := by rw [hsh]; simp
      by_cases hy : y = 0
      · subst hy
        have h7 : s.size = 7 := by rw [hz, shown_0 m d hm]; rfl
        refine (rparse_7 s h7 0 m d (by rw [← hsh]; exact pd_0 m d hm) W).mono ?_
        rintro e w' ⟨v, rfl, hv, hb⟩
        rcases hv with ⟨_, _, rfl⟩ | ⟨hn, _⟩
        · exact ⟨rfl, hb⟩
        · exact absurd ⟨hm, hsh⟩ hn
      · have h10 : s.size = 10 := by rw [hz, shown_y y m d hy hm]; rfl
        refine (rparse_10 s h10 y m d (by rw [← hsh]; exact pd_y y m d hy hm) W).mono ?_
        rintro e w' ⟨v, rfl, hv, hb⟩
        rcases hv with ⟨_, _, rfl⟩ | ⟨hn, _⟩
        · exact ⟨rfl, hb⟩
        · exact absurd ⟨hm, hsh⟩ hn
  · refine ⟨0, 0, 0, 1, .inr ⟨rfl, hex⟩, fun W hW => ?_, fun W => ?_⟩
    · obtain ⟨v, y, m, d, hv, hc⟩ := parse_fix s hs
      rcases hv with ⟨h1, h2, _⟩ | ⟨_, rfl⟩
      · exact absurd ⟨y, m, d, h1, h2⟩ hex
      · exact hc W hW
    · by_cases h7 : s.size = 7
      · refine (rparse_7 s h7 _ _ _ rfl W).mono ?_
        rintro e w' ⟨v, rfl, hv, hb⟩
        rcases hv with ⟨h1, h2, _⟩ | ⟨_, rfl⟩
        · exact absurd ⟨_, _, _, h1, h2⟩ hex
        · exact ⟨rfl, hb⟩
      · by_cases h10 : s.size = 10
        · refine (rparse_10 s h10 _ _ _ rfl W).mono ?_
          rintro e w' ⟨v, rfl, hv, hb⟩
          rcases hv with ⟨h1, h2, _⟩ | ⟨_, rfl⟩
          · exact absurd ⟨_, _, _, h1, h2⟩ hex
          · exact ⟨rfl, hb⟩
        · exact rparse_else s hs h7 h10 W

end Go.Proofs.YtpejlcaoggedfaaGreatDoor
