/-
  Texts, in plain lists of bytes: cut, split, blanks, addresses.
-/
import Derived.Test.YtogjokofmfpmgaaGreatDoorGAA
import Derived.Test.YtogjokofmfpmgaaGreatDoorProg
import Derived.BigQuiet
import Derived.Deep.QuietTactic
import Derived.WalkLawsBesides
import Derived.Handy
import Derived.Laws.BitsLemmas
import Derived.Laws.IdiomStrings
import Derived.Laws.BytesArg
set_option linter.unusedVariables false
set_option linter.unusedSimpArgs false
namespace Go.Proofs.YtogjokofmfpmgaaGreatDoor
open Go.Lib

open Classical in
noncomputable def domB (l : List UInt8) : Bool := decide (DomP l)
theorem domB_t {l : List UInt8} (h : DomP l) : domB l = true := by simp [domB, h]
theorem domB_f {l : List UInt8} (h : ¬ DomP l) : domB l = false := by simp [domB, h]

theorem loc_no_at {l : List UInt8} (h : LocP l) : (64 : UInt8) ∉ l := by
  intro hm
  obtain ⟨i, hi, e⟩ := mem_bt hm
  have := h.2.2.2.2.2 i hi
  rw [e] at this
  revert this
  decide
/-- An address, by whichever @. -/
theorem addr_of_parts {a b : List UInt8} (h : (a ++ 64 :: b).length ≤ 64) (ha : LocP a) (hb : DomP b) : AddrP (a ++ 64 :: b) ∧ bef 64 (a ++ 64 :: b) = a ∧ aft 64 (a ++ 64 :: b) = b := by
  obtain ⟨e1, e2⟩ := bef_app 64 a b (loc_no_at ha)
  exact ⟨⟨h, by simp, by rw [e1]; exact ha, by rw [e2]; exact hb⟩, e1, e2⟩

end Go.Proofs.YtogjokofmfpmgaaGreatDoor
namespace Go.Proofs.YtogjokofmfpmgaaGreatDoor
open Go.RowKit

theorem low_calls (c : Int) (w : World) : Calls Tryz.prog 90 #[.int .u8 c] w fun e w' => e = .returned (.bool (decide (97 ≤ c) && decide (c ≤ 122))) ∧ w = w' := by
  go_enter Tryz.func90, Tryz.ntmps90
  go_wp2
  all_goals (go_ret; exact ⟨retB (by simp [*] <;> omega), rfl⟩)
theorem up_calls (c : Int) (w : World) : Calls Tryz.prog 92 #[.int .u8 c] w fun e w' => e = .returned (.bool (decide (65 ≤ c) && decide (c ≤ 90))) ∧ w = w' := by
  go_enter Tryz.func92, Tryz.ntmps92
  go_wp2
  all_goals (go_ret; exact ⟨retB (by simp [*] <;> omega), rfl⟩)
theorem digit_calls (c : Int) (w : World) : Calls Tryz.prog 91 #[.int .u8 c] w fun e w' => e = .returned (.bool (decide (48 ≤ c) && decide (c ≤ 57))) ∧ w = w' := by
  go_enter Tryz.func91, Tryz.ntmps91
  go_wp2
  all_goals (go_ret; exact ⟨retB (by simp [*] <;> omega), rfl⟩)


set_option maxHeartbeats 2000000 in
theorem rlocal_calls (s : ByteArray) (hs : s.size ≤ 1000000000) (w : World) : Calls Tryz.prog 188 #[.string s] w fun e w' => e = .returned (.bool (locB s.data.toList)) ∧ w = w' := by
  have hl : s.data.toList.length = s.size := by simp
  obtain ⟨v, hv⟩ : ∃ v, locB s.data.toList = v := ⟨_, rfl⟩
  rw [hv]
  have HF := hd (fun h => hv.symm.trans (locB_f h) : ¬ LocP s.data.toList → v = false)
  have HT := hd (fun h => hv.symm.trans (locB_t h) : LocP s.data.toList → v = true)
  clear hv
  have HL := hd hl
  clear hl
  by_cases c1 : s.size < 1
  · go_enter Tryz.func188, Tryz.ntmps188
    go_wp2
    go_ret
    exact ⟨retB (HF.o (fun h => by have := h.1; rw [HL.o] at this; omega)).symm, rfl⟩
  by_cases c2 : 32 < s.size
  · go_enter Tryz.func188, Tryz.ntmps188
    go_wp2
    go_ret
    exact ⟨retB (HF.o (fun h => by have := h.2.1; rw [HL.o] at this; omega)).symm, rfl⟩
  have c3 : 0 < s.size := by omega
  have c4 : s.size - 1 < s.size := by omega
  have B0 := hd (bt_self s 0 c3)
  have B1 := hd (bt_self s (s.size - 1) c4)
  by_cases c5 : s[0].toNat = 46
  · have n5 : ((s[0].toNat : Int) == 46) = true := by simp; omega
    have H5 := hd c5
    clear c5
    go_enter Tryz.func188, Tryz.ntmps188
    go_wp2
    go_ret
    exact ⟨retB (HF.o (fun h => h.2.2.1 (B0.o.trans H5.o))).symm, rfl⟩
  have n5 : ((s[0].toNat : Int) == 46) = false := by simp; omega
  by_cases c6 : s[s.size - 1].toNat = 46
  · have n6 : ((s[s.size - 1].toNat : Int) == 46) = true := by simp; omega
    have H6 := hd c6
    clear c6 c5
    go_enter Tryz.func188, Tryz.ntmps188
    go_wp2
    go_ret
    exact ⟨retB (HF.o (fun h => h.2.2.2.1 (by rw [HL.o]; exact B1.o.trans H6.o))).symm, rfl⟩
  have n6 : ((s[s.size - 1].toNat : Int) == 46) = false := by simp; omega
  have H5 := hd c5
  have H6 := hd c6
  clear c5 c6
  go_enter Tryz.func188, Tryz.ntmps188
  go_wp2
  go_loop [3] (fun i => ∃ k : Nat, i = .int .i64 k ∧ k ≤ s.size ∧ Hd ((∀ j, j < k → locC (bt s.data.toList j)) ∧ ∀ j, j + 1 < k → ¬ (bt s.data.toList j = 46 ∧ bt s.data.toList (j + 1) = 46))) (fun i => s.size - (intOf i).toNat)
  case atStart => exact ⟨0, rfl, Nat.zero_le _, fun j hj => absurd hj (Nat.not_lt_zero _), fun j hj => absurd hj (Nat.not_lt_zero _)⟩
  case round =>
    obtain ⟨k, rfl, hk, hh⟩ := hrel
    by_cases hlt : k < s.size
    · have BK := hd (bt_self s k hlt)
      have hlt0 : (0 : Int) ≤ (k : Int) := by omega
      by_cases hc : locC s[k].toNat
      · by_cases hd46 : s[k].toNat = 46
        · have n7 : ((s[k].toNat : Int) == 46) = true := by simp; omega
          have n8 : ((s[k].toNat : Int) != 46) = false := by simp; omega
          have hk1 : 1 ≤ k := by
            rcases Nat.eq_zero_or_pos k with rfl | h
            · exact absurd hd46 H5.o
            · exact h
          have hlt1 : k - 1 < s.size := by omega
          have BK1 := hd (bt_self s (k - 1) hlt1)
          have hki : (k : Int) - 1 = ((k - 1 : Nat) : Int) := by omega
          by_cases hp : s[k - 1].toNat = 46
          · have n9 : ((s[k - 1].toNat : Int) == 46) = true := by simp; omega
            have HV := hd (HF.o (fun h => h.2.2.2.2.1 ⟨k - 1, by rw [HL.o]; omega, BK1.o.trans hp, by rw [show k - 1 + 1 = k by omega]; exact BK.o.trans hd46⟩))
            clear hd46 hp hc
            go_wp2_with (first | (go_at_call 90; refine (low_calls _ _).mono ?_; rintro e w' ⟨rfl, rfl⟩) | (go_at_call 92; refine (up_calls _ _).mono ?_; rintro e w' ⟨rfl, rfl⟩) | (go_at_call 91; refine (digit_calls _ _).mono ?_; rintro e w' ⟨rfl, rfl⟩))
            all_goals first
              | (exfalso; omega)
              | (exfalso; simp only [bne_iff_ne, ne_eq, beq_iff_eq, bne_eq_false_iff_eq, beq_eq_false_iff_ne, bne_self_eq_false, Bool.false_eq_true] at *; omega)
              | (go_ret; exact ⟨retB HV.o.symm, rfl⟩)
          · have n9 : ((s[k - 1].toNat : Int) == 46) = false := by simp; omega
            have HN : Hd ((∀ j, j < k + 1 → locC (bt s.data.toList j)) ∧ ∀ j, j + 1 < k + 1 → ¬ (bt s.data.toList j = 46 ∧ bt s.data.toList (j + 1) = 46)) := by
              refine ⟨fun j hj => ?_, fun j hj hx => ?_⟩
              · by_cases e : j = k
                · subst e; rw [BK.o]; exact hc
                · exact hh.o.1 j (by omega)
              · by_cases e : j + 1 = k
                · obtain rfl : j = k - 1 := by omega
                  exact hp (BK1.o.symm.trans hx.1)
                · exact hh.o.2 j (by omega) hx
            clear hd46 hp hc
            go_wp2_with (first | (go_at_call 90; refine (low_calls _ _).mono ?_; rintro e w' ⟨rfl, rfl⟩) | (go_at_call 92; refine (up_calls _ _).mono ?_; rintro e w' ⟨rfl, rfl⟩) | (go_at_call 91; refine (digit_calls _ _).mono ?_; rintro e w' ⟨rfl, rfl⟩))
            all_goals first
              | (exfalso; omega)
              | (exfalso; simp only [bne_iff_ne, ne_eq, beq_iff_eq, bne_eq_false_iff_eq, beq_eq_false_iff_ne, bne_self_eq_false, Bool.false_eq_true] at *; omega)
              | (go_round
                 case rel => exact ⟨k + 1, by go_num, by omega, HN⟩
                 case measure => simp [intOf]; omega)
        · have n7 : ((s[k].toNat : Int) == 46) = false := by simp; omega
          have n8 : ((s[k].toNat : Int) != 46) = true := by simp; omega
          have HN : Hd ((∀ j, j < k + 1 → locC (bt s.data.toList j)) ∧ ∀ j, j + 1 < k + 1 → ¬ (bt s.data.toList j = 46 ∧ bt s.data.toList (j + 1) = 46)) := by
            refine ⟨fun j hj => ?_, fun j hj hx => ?_⟩
            · by_cases e : j = k
              · subst e; rw [BK.o]; exact hc
              · exact hh.o.1 j (by omega)
            · by_cases e : j + 1 = k
              · subst e; exact hd46 (BK.o.symm.trans hx.2)
              · exact hh.o.2 j (by omega) hx
          unfold locC at hc
          go_wp2_with (first | (go_at_call 90; refine (low_calls _ _).mono ?_; rintro e w' ⟨rfl, rfl⟩) | (go_at_call 92; refine (up_calls _ _).mono ?_; rintro e w' ⟨rfl, rfl⟩) | (go_at_call 91; refine (digit_calls _ _).mono ?_; rintro e w' ⟨rfl, rfl⟩))
          all_goals first
            | (exfalso; omega)
            | (exfalso; simp only [bne_iff_ne, ne_eq, beq_iff_eq, bne_eq_false_iff_eq, beq_eq_false_iff_ne, bne_self_eq_false, Bool.false_eq_true] at *; omega)
            | (go_round
               case rel => exact ⟨k + 1, by go_num, by omega, HN⟩
               case measure => simp [intOf]; omega)
      · have HV := hd (HF.o (fun h => hc (by rw [← BK.o]; exact h.2.2.2.2.2 k (by rw [HL.o]; exact hlt))))
        unfold locC at hc
        have m46 : ((s[k].toNat : Int) != 46) = true := by simp; omega
        have m95 : ((s[k].toNat : Int) != 95) = true := by simp; omega
        have m43 : ((s[k].toNat : Int) != 43) = true := by simp; omega
        have m45 : ((s[k].toNat : Int) != 45) = true := by simp; omega
        go_wp2_with (first | (go_at_call 90; refine (low_calls _ _).mono ?_; rintro e w' ⟨rfl, rfl⟩) | (go_at_call 92; refine (up_calls _ _).mono ?_; rintro e w' ⟨rfl, rfl⟩) | (go_at_call 91; refine (digit_calls _ _).mono ?_; rintro e w' ⟨rfl, rfl⟩))
        all_goals first
          | (exfalso; omega)
          | (exfalso; simp only [bne_iff_ne, ne_eq, beq_iff_eq, bne_eq_false_iff_eq, beq_eq_false_iff_ne, bne_self_eq_false, Bool.false_eq_true] at *; omega)
          | (go_ret; exact ⟨retB HV.o.symm, rfl⟩)
    · have : k = s.size := by omega
      subst this
      go_wp2
      go_ret
      exact ⟨retB (HT.o ⟨by rw [HL.o]; omega, by rw [HL.o]; omega, by rw [B0.o]; exact H5.o, by rw [HL.o, B1.o]; exact H6.o, fun ⟨j, h1, h2, h3⟩ => hh.o.2 j (by rw [HL.o] at h1; exact h1) ⟨h2, h3⟩, fun i hi => hh.o.1 i (by rw [HL.o] at hi; exact hi)⟩).symm, rfl⟩

end Go.Proofs.YtogjokofmfpmgaaGreatDoor
namespace Go.Proofs.YtogjokofmfpmgaaGreatDoor
open Go.RowKit

set_option maxRecDepth 1000000 in
theorem and31 : ∀ X : Fin 256, bits .and .u8 ((X.val : Nat) : Int) 31 = ((X.val % 32 : Nat) : Int) := by decide
set_option maxRecDepth 1000000 in
theorem and15 : ∀ X : Fin 256, bits .and .u8 ((X.val : Nat) : Int) 15 = ((X.val % 16 : Nat) : Int) := by decide
set_option maxRecDepth 1000000 in
theorem and7 : ∀ X : Fin 256, bits .and .u8 ((X.val : Nat) : Int) 7 = ((X.val % 8 : Nat) : Int) := by decide
set_option maxRecDepth 1000000 in
theorem and63 : ∀ X : Fin 256, bits .and .u8 ((X.val : Nat) : Int) 63 = ((X.val % 64 : Nat) : Int) := by decide
set_option maxRecDepth 1000000 in
theorem and192 : ∀ X : Fin 256, bits .and .u8 ((X.val : Nat) : Int) 192 = ((X.val / 64 * 64 : Nat) : Int) := by decide
theorem or64 (a x : Nat) (ha : a < 1099511627776) (hx : x < 64) : bits .or .i64 ((a * 64 : Nat) : Int) (x : Int) = ((a * 64 + x : Nat) : Int) := by
  have key : (BitVec.ofInt 64 ((a * 64 : Nat) : Int) ||| BitVec.ofInt 64 (x : Int)).toNat = a * 64 + x := by
    rw [BitVec.toNat_or, BitVec.toNat_ofInt, BitVec.toNat_ofInt]
    rw [show (((a * 64 : Nat) : Int) % ((2 ^ 64 : Nat) : Int)).toNat = a * 64 by omega, show ((x : Int) % ((2 ^ 64 : Nat) : Int)).toNat = x by omega]
    have := Nat.two_pow_add_eq_or_of_lt (i := 6) (b := x) (by omega) a
    rw [show a * 64 = 2 ^ 6 * a by omega, ← this]
  show IntKind.i64.wrap ((BitVec.ofInt 64 ((a * 64 : Nat) : Int) ||| BitVec.ofInt 64 (x : Int)).toNat : Nat) = _
  rw [key, IntKind.wrap_i64]
  omega
theorem or64i (a x : Int) (h0 : 0 ≤ a) (h1 : a < 1099511627776) (h2 : 0 ≤ x) (h3 : x < 64) : bits .or .i64 (a * 64) x = a * 64 + x := by
  obtain ⟨a, rfl⟩ := Int.eq_ofNat_of_zero_le h0
  obtain ⟨x, rfl⟩ := Int.eq_ofNat_of_zero_le h2
  have := or64 a x (by omega) (by omega)
  simpa using this

set_option maxRecDepth 100000 in
set_option maxHeartbeats 2000000 in
theorem sign_a (s : ByteArray) (i : Nat) (hs : s.size ≤ 1000000000) (hi : i < s.size) (h : s[i].toNat < 128) (w : World) : Calls Tryz.prog 151 #[.string s, .int .i64 i] w fun e w' => e = .returned (.int .i64 1) ∧ w = w' := by
  go_enter Tryz.func151, Tryz.ntmps151
  go_wp2
  go_ret
  exact ⟨rfl, rfl⟩
set_option maxRecDepth 100000 in
set_option maxHeartbeats 2000000 in
theorem sign_e (s : ByteArray) (i : Nat) (hs : s.size ≤ 1000000000) (hi : i < s.size) (h : (128 ≤ s[i].toNat ∧ s[i].toNat < 194) ∨ 245 ≤ s[i].toNat) (w : World) : Calls Tryz.prog 151 #[.string s, .int .i64 i] w fun e w' => e = .returned (.int .i64 0) ∧ w = w' := by
  rcases h with ⟨h1, h2⟩ | h1
  all_goals
    go_enter Tryz.func151, Tryz.ntmps151
    go_wp2
    go_ret
    exact ⟨rfl, rfl⟩
set_option maxRecDepth 100000 in
set_option maxHeartbeats 2000000 in
theorem sign_2_short (s : ByteArray) (i : Nat) (hs : s.size ≤ 1000000000) (hi : i < s.size) (h1 : 194 ≤ s[i].toNat) (h2 : s[i].toNat ≤ 223) (h3 : s.size < i + 2) (w : World) : Calls Tryz.prog 151 #[.string s, .int .i64 i] w fun e w' => e = .returned (.int .i64 0) ∧ w = w' := by
  have a0 := and31 ⟨s[i].toNat, UInt8.toNat_lt _⟩
  simp only [] at a0
  go_enter Tryz.func151, Tryz.ntmps151
  go_wp2
  go_ret
  exact ⟨rfl, rfl⟩
set_option maxRecDepth 100000 in
set_option maxHeartbeats 2000000 in
theorem sign_2_bad1 (s : ByteArray) (i : Nat) (hs : s.size ≤ 1000000000) (hi : i < s.size) (h1 : 194 ≤ s[i].toNat) (h2 : s[i].toNat ≤ 223) (h3 : i + 2 ≤ s.size) (b : ¬ s[i + 1].toNat / 64 = 2) (w : World) : Calls Tryz.prog 151 #[.string s, .int .i64 i] w fun e w' => e = .returned (.int .i64 0) ∧ w = w' := by
  have a0 := and31 ⟨s[i].toNat, UInt8.toNat_lt _⟩
  have c1 := and63 ⟨s[i + 1].toNat, UInt8.toNat_lt _⟩
  have d1 := and192 ⟨s[i + 1].toNat, UInt8.toNat_lt _⟩
  simp only [] at a0 c1 d1
  have e1 : ((s[i + 1].toNat : Int) / 64 * 64 != 128) = true := by simp; omega
  clear b
  go_enter Tryz.func151, Tryz.ntmps151
  go_wp2
  go_rounds 1
  go_ret
  exact ⟨rfl, rfl⟩
set_option maxRecDepth 100000 in
set_option maxHeartbeats 2000000 in
theorem sign_2_ok (s : ByteArray) (i : Nat) (hs : s.size ≤ 1000000000) (hi : i < s.size) (h1 : 194 ≤ s[i].toNat) (h2 : s[i].toNat ≤ 223) (h3 : i + 2 ≤ s.size) (g1 : s[i + 1].toNat / 64 = 2) (w : World) : Calls Tryz.prog 151 #[.string s, .int .i64 i] w fun e w' => e = .returned (.int .i64 2) ∧ w = w' := by
  have a0 := and31 ⟨s[i].toNat, UInt8.toNat_lt _⟩
  have c1 := and63 ⟨s[i + 1].toNat, UInt8.toNat_lt _⟩
  have d1 := and192 ⟨s[i + 1].toNat, UInt8.toNat_lt _⟩
  simp only [] at a0 c1 d1
  have e1 : ((s[i + 1].toNat : Int) / 64 * 64 != 128) = false := by simp; omega
  have o1 := or64i ((s[i].toNat : Int) % 32) ((s[i + 1].toNat : Int) % 64) (by omega) (by omega) (by omega) (by omega)
  obtain ⟨v1, hv1⟩ : ∃ v : Int, v = ((s[i].toNat : Int) % 32) * 64 + (s[i + 1].toNat : Int) % 64 := ⟨_, rfl⟩
  rw [← hv1] at o1
  have p1a : 0 ≤ v1 := by omega
  have p1b : v1 < 2097152 := by omega
  have f0 : 128 ≤ v1 := by omega
  have f1 : v1 ≤ 2047 := by omega
  clear hv1
  go_enter Tryz.func151, Tryz.ntmps151
  go_wp2
  go_rounds 2
  go_ret
  exact ⟨rfl, rfl⟩
set_option maxRecDepth 100000 in
set_option maxHeartbeats 2000000 in
theorem sign_3_short (s : ByteArray) (i : Nat) (hs : s.size ≤ 1000000000) (hi : i < s.size) (h1 : 224 ≤ s[i].toNat) (h2 : s[i].toNat ≤ 239) (h3 : s.size < i + 3) (w : World) : Calls Tryz.prog 151 #[.string s, .int .i64 i] w fun e w' => e = .returned (.int .i64 0) ∧ w = w' := by
  have a0 := and15 ⟨s[i].toNat, UInt8.toNat_lt _⟩
  simp only [] at a0
  go_enter Tryz.func151, Tryz.ntmps151
  go_wp2
  go_ret
  exact ⟨rfl, rfl⟩
set_option maxRecDepth 100000 in
set_option maxHeartbeats 2000000 in
theorem sign_3_bad1 (s : ByteArray) (i : Nat) (hs : s.size ≤ 1000000000) (hi : i < s.size) (h1 : 224 ≤ s[i].toNat) (h2 : s[i].toNat ≤ 239) (h3 : i + 3 ≤ s.size) (b : ¬ s[i + 1].toNat / 64 = 2) (w : World) : Calls Tryz.prog 151 #[.string s, .int .i64 i] w fun e w' => e = .returned (.int .i64 0) ∧ w = w' := by
  have a0 := and15 ⟨s[i].toNat, UInt8.toNat_lt _⟩
  have c1 := and63 ⟨s[i + 1].toNat, UInt8.toNat_lt _⟩
  have d1 := and192 ⟨s[i + 1].toNat, UInt8.toNat_lt _⟩
  simp only [] at a0 c1 d1
  have e1 : ((s[i + 1].toNat : Int) / 64 * 64 != 128) = true := by simp; omega
  clear b
  go_enter Tryz.func151, Tryz.ntmps151
  go_wp2
  go_rounds 1
  go_ret
  exact ⟨rfl, rfl⟩
set_option maxRecDepth 100000 in
set_option maxHeartbeats 2000000 in
theorem sign_3_bad2 (s : ByteArray) (i : Nat) (hs : s.size ≤ 1000000000) (hi : i < s.size) (h1 : 224 ≤ s[i].toNat) (h2 : s[i].toNat ≤ 239) (h3 : i + 3 ≤ s.size) (g1 : s[i + 1].toNat / 64 = 2) (b : ¬ s[i + 2].toNat / 64 = 2) (w : World) : Calls Tryz.prog 151 #[.string s, .int .i64 i] w fun e w' => e = .returned (.int .i64 0) ∧ w = w' := by
  have a0 := and15 ⟨s[i].toNat, UInt8.toNat_lt _⟩
  have c1 := and63 ⟨s[i + 1].toNat, UInt8.toNat_lt _⟩
  have d1 := and192 ⟨s[i + 1].toNat, UInt8.toNat_lt _⟩
  have c2 := and63 ⟨s[i + 2].toNat, UInt8.toNat_lt _⟩
  have d2 := and192 ⟨s[i + 2].toNat, UInt8.toNat_lt _⟩
  simp only [] at a0 c1 d1 c2 d2
  have e1 : ((s[i + 1].toNat : Int) / 64 * 64 != 128) = false := by simp; omega
  have e2 : ((s[i + 2].toNat : Int) / 64 * 64 != 128) = true := by simp; omega
  clear b
  have o1 := or64i ((s[i].toNat : Int) % 16) ((s[i + 1].toNat : Int) % 64) (by omega) (by omega) (by omega) (by omega)
  obtain ⟨v1, hv1⟩ : ∃ v : Int, v = ((s[i].toNat : Int) % 16) * 64 + (s[i + 1].toNat : Int) % 64 := ⟨_, rfl⟩
  rw [← hv1] at o1
  have p1a : 0 ≤ v1 := by omega
  have p1b : v1 < 2097152 := by omega
  clear hv1
  go_enter Tryz.func151, Tryz.ntmps151
  go_wp2
  go_rounds 2
  go_ret
  exact ⟨rfl, rfl⟩
set_option maxRecDepth 100000 in
set_option maxHeartbeats 2000000 in
theorem sign_3_low (s : ByteArray) (i : Nat) (hs : s.size ≤ 1000000000) (hi : i < s.size) (h1 : 224 ≤ s[i].toNat) (h2 : s[i].toNat ≤ 239) (h3 : i + 3 ≤ s.size) (g1 : s[i + 1].toNat / 64 = 2) (g2 : s[i + 2].toNat / 64 = 2) (q : (s[i].toNat % 16 * 4096 + s[i + 1].toNat % 64 * 64 + s[i + 2].toNat % 64) < 2048) (w : World) : Calls Tryz.prog 151 #[.string s, .int .i64 i] w fun e w' => e = .returned (.int .i64 0) ∧ w = w' := by
  have a0 := and15 ⟨s[i].toNat, UInt8.toNat_lt _⟩
  have c1 := and63 ⟨s[i + 1].toNat, UInt8.toNat_lt _⟩
  have d1 := and192 ⟨s[i + 1].toNat, UInt8.toNat_lt _⟩
  have c2 := and63 ⟨s[i + 2].toNat, UInt8.toNat_lt _⟩
  have d2 := and192 ⟨s[i + 2].toNat, UInt8.toNat_lt _⟩
  simp only [] at a0 c1 d1 c2 d2
  have e1 : ((s[i + 1].toNat : Int) / 64 * 64 != 128) = false := by simp; omega
  have e2 : ((s[i + 2].toNat : Int) / 64 * 64 != 128) = false := by simp; omega
  have o1 := or64i ((s[i].toNat : Int) % 16) ((s[i + 1].toNat : Int) % 64) (by omega) (by omega) (by omega) (by omega)
  obtain ⟨v1, hv1⟩ : ∃ v : Int, v = ((s[i].toNat : Int) % 16) * 64 + (s[i + 1].toNat : Int) % 64 := ⟨_, rfl⟩
  rw [← hv1] at o1
  have o2 := or64i v1 ((s[i + 2].toNat : Int) % 64) (by omega) (by omega) (by omega) (by omega)
  obtain ⟨v2, hv2⟩ : ∃ v : Int, v = v1 * 64 + (s[i + 2].toNat : Int) % 64 := ⟨_, rfl⟩
  rw [← hv2] at o2
  have p1a : 0 ≤ v1 := by omega
  have p1b : v1 < 2097152 := by omega
  have p2a : 0 ≤ v2 := by omega
  have p2b : v2 < 2097152 := by omega
  have f0 : v2 < 2048 := by omega
  clear hv1 hv2
  go_enter Tryz.func151, Tryz.ntmps151
  go_wp2
  go_rounds 3
  go_ret
  exact ⟨rfl, rfl⟩
set_option maxRecDepth 100000 in
set_option maxHeartbeats 2000000 in
theorem sign_3_sur (s : ByteArray) (i : Nat) (hs : s.size ≤ 1000000000) (hi : i < s.size) (h1 : 224 ≤ s[i].toNat) (h2 : s[i].toNat ≤ 239) (h3 : i + 3 ≤ s.size) (g1 : s[i + 1].toNat / 64 = 2) (g2 : s[i + 2].toNat / 64 = 2) (q1 : 55296 ≤ (s[i].toNat % 16 * 4096 + s[i + 1].toNat % 64 * 64 + s[i + 2].toNat % 64)) (q2 : (s[i].toNat % 16 * 4096 + s[i + 1].toNat % 64 * 64 + s[i + 2].toNat % 64) ≤ 57343) (w : World) : Calls Tryz.prog 151 #[.string s, .int .i64 i] w fun e w' => e = .returned (.int .i64 0) ∧ w = w' := by
  have a0 := and15 ⟨s[i].toNat, UInt8.toNat_lt _⟩
  have c1 := and63 ⟨s[i + 1].toNat, UInt8.toNat_lt _⟩
  have d1 := and192 ⟨s[i + 1].toNat, UInt8.toNat_lt _⟩
  have c2 := and63 ⟨s[i + 2].toNat, UInt8.toNat_lt _⟩
  have d2 := and192 ⟨s[i + 2].toNat, UInt8.toNat_lt _⟩
  simp only [] at a0 c1 d1 c2 d2
  have e1 : ((s[i + 1].toNat : Int) / 64 * 64 != 128) = false := by simp; omega
  have e2 : ((s[i + 2].toNat : Int) / 64 * 64 != 128) = false := by simp; omega
  have o1 := or64i ((s[i].toNat : Int) % 16) ((s[i + 1].toNat : Int) % 64) (by omega) (by omega) (by omega) (by omega)
  obtain ⟨v1, hv1⟩ : ∃ v : Int, v = ((s[i].toNat : Int) % 16) * 64 + (s[i + 1].toNat : Int) % 64 := ⟨_, rfl⟩
  rw [← hv1] at o1
  have o2 := or64i v1 ((s[i + 2].toNat : Int) % 64) (by omega) (by omega) (by omega) (by omega)
  obtain ⟨v2, hv2⟩ : ∃ v : Int, v = v1 * 64 + (s[i + 2].toNat : Int) % 64 := ⟨_, rfl⟩
  rw [← hv2] at o2
  have p1a : 0 ≤ v1 := by omega
  have p1b : v1 < 2097152 := by omega
  have p2a : 0 ≤ v2 := by omega
  have p2b : v2 < 2097152 := by omega
  have f0 : 55296 ≤ v2 := by omega
  have f1 : v2 ≤ 57343 := by omega
  clear hv1 hv2
  go_enter Tryz.func151, Tryz.ntmps151
  go_wp2
  go_rounds 3
  go_ret
  exact ⟨rfl, rfl⟩
set_option maxRecDepth 100000 in
set_option maxHeartbeats 2000000 in
theorem sign_3_ok1 (s : ByteArray) (i : Nat) (hs : s.size ≤ 1000000000) (hi : i < s.size) (h1 : 224 ≤ s[i].toNat) (h2 : s[i].toNat ≤ 239) (h3 : i + 3 ≤ s.size) (g1 : s[i + 1].toNat / 64 = 2) (g2 : s[i + 2].toNat / 64 = 2) (q1 : 2048 ≤ (s[i].toNat % 16 * 4096 + s[i + 1].toNat % 64 * 64 + s[i + 2].toNat % 64)) (q2 : (s[i].toNat % 16 * 4096 + s[i + 1].toNat % 64 * 64 + s[i + 2].toNat % 64) < 55296) (w : World) : Calls Tryz.prog 151 #[.string s, .int .i64 i] w fun e w' => e = .returned (.int .i64 3) ∧ w = w' := by
  have a0 := and15 ⟨s[i].toNat, UInt8.toNat_lt _⟩
  have c1 := and63 ⟨s[i + 1].toNat, UInt8.toNat_lt _⟩
  have d1 := and192 ⟨s[i + 1].toNat, UInt8.toNat_lt _⟩
  have c2 := and63 ⟨s[i + 2].toNat, UInt8.toNat_lt _⟩
  have d2 := and192 ⟨s[i + 2].toNat, UInt8.toNat_lt _⟩
  simp only [] at a0 c1 d1 c2 d2
  have e1 : ((s[i + 1].toNat : Int) / 64 * 64 != 128) = false := by simp; omega
  have e2 : ((s[i + 2].toNat : Int) / 64 * 64 != 128) = false := by simp; omega
  have o1 := or64i ((s[i].toNat : Int) % 16) ((s[i + 1].toNat : Int) % 64) (by omega) (by omega) (by omega) (by omega)
  obtain ⟨v1, hv1⟩ : ∃ v : Int, v = ((s[i].toNat : Int) % 16) * 64 + (s[i + 1].toNat : Int) % 64 := ⟨_, rfl⟩
  rw [← hv1] at o1
  have o2 := or64i v1 ((s[i + 2].toNat : Int) % 64) (by omega) (by omega) (by omega) (by omega)
  obtain ⟨v2, hv2⟩ : ∃ v : Int, v = v1 * 64 + (s[i + 2].toNat : Int) % 64 := ⟨_, rfl⟩
  rw [← hv2] at o2
  have p1a : 0 ≤ v1 := by omega
  have p1b : v1 < 2097152 := by omega
  have p2a : 0 ≤ v2 := by omega
  have p2b : v2 < 2097152 := by omega
  have f0 : 2048 ≤ v2 := by omega
  have f1 : v2 < 55296 := by omega
  clear hv1 hv2
  go_enter Tryz.func151, Tryz.ntmps151
  go_wp2
  go_rounds 3
  go_ret
  exact ⟨rfl, rfl⟩
set_option maxRecDepth 100000 in
set_option maxHeartbeats 2000000 in
theorem sign_3_ok2 (s : ByteArray) (i : Nat) (hs : s.size ≤ 1000000000) (hi : i < s.size) (h1 : 224 ≤ s[i].toNat) (h2 : s[i].toNat ≤ 239) (h3 : i + 3 ≤ s.size) (g1 : s[i + 1].toNat / 64 = 2) (g2 : s[i + 2].toNat / 64 = 2) (q1 : 57343 < (s[i].toNat % 16 * 4096 + s[i + 1].toNat % 64 * 64 + s[i + 2].toNat % 64)) (w : World) : Calls Tryz.prog 151 #[.string s, .int .i64 i] w fun e w' => e = .returned (.int .i64 3) ∧ w = w' := by
  have a0 := and15 ⟨s[i].toNat, UInt8.toNat_lt _⟩
  have c1 := and63 ⟨s[i + 1].toNat, UInt8.toNat_lt _⟩
  have d1 := and192 ⟨s[i + 1].toNat, UInt8.toNat_lt _⟩
  have c2 := and63 ⟨s[i + 2].toNat, UInt8.toNat_lt _⟩
  have d2 := and192 ⟨s[i + 2].toNat, UInt8.toNat_lt _⟩
  simp only [] at a0 c1 d1 c2 d2
  have e1 : ((s[i + 1].toNat : Int) / 64 * 64 != 128) = false := by simp; omega
  have e2 : ((s[i + 2].toNat : Int) / 64 * 64 != 128) = false := by simp; omega
  have o1 := or64i ((s[i].toNat : Int) % 16) ((s[i + 1].toNat : Int) % 64) (by omega) (by omega) (by omega) (by omega)
  obtain ⟨v1, hv1⟩ : ∃ v : Int, v = ((s[i].toNat : Int) % 16) * 64 + (s[i + 1].toNat : Int) % 64 := ⟨_, rfl⟩
  rw [← hv1] at o1
  have o2 := or64i v1 ((s[i + 2].toNat : Int) % 64) (by omega) (by omega) (by omega) (by omega)
  obtain ⟨v2, hv2⟩ : ∃ v : Int, v = v1 * 64 + (s[i + 2].toNat : Int) % 64 := ⟨_, rfl⟩
  rw [← hv2] at o2
  have p1a : 0 ≤ v1 := by omega
  have p1b : v1 < 2097152 := by omega
  have p2a : 0 ≤ v2 := by omega
  have p2b : v2 < 2097152 := by omega
  have f0 : 57343 < v2 := by omega
  have f1 : v2 ≤ 65535 := by omega
  clear hv1 hv2
  go_enter Tryz.func151, Tryz.ntmps151
  go_wp2
  go_rounds 3
  go_ret
  exact ⟨rfl, rfl⟩
set_option maxRecDepth 100000 in
set_option maxHeartbeats 2000000 in
theorem sign_4_short (s : ByteArray) (i : Nat) (hs : s.size ≤ 1000000000) (hi : i < s.size) (h1 : 240 ≤ s[i].toNat) (h2 : s[i].toNat ≤ 244) (h3 : s.size < i + 4) (w : World) : Calls Tryz.prog 151 #[.string s, .int .i64 i] w fun e w' => e = .returned (.int .i64 0) ∧ w = w' := by
  have a0 := and7 ⟨s[i].toNat, UInt8.toNat_lt _⟩
  simp only [] at a0
  go_enter Tryz.func151, Tryz.ntmps151
  go_wp2
  go_ret
  exact ⟨rfl, rfl⟩
set_option maxRecDepth 100000 in
set_option maxHeartbeats 2000000 in
theorem sign_4_bad1 (s : ByteArray) (i : Nat) (hs : s.size ≤ 1000000000) (hi : i < s.size) (h1 : 240 ≤ s[i].toNat) (h2 : s[i].toNat ≤ 244) (h3 : i + 4 ≤ s.size) (b : ¬ s[i + 1].toNat / 64 = 2) (w : World) : Calls Tryz.prog 151 #[.string s, .int .i64 i] w fun e w' => e = .returned (.int .i64 0) ∧ w = w' := by
  have a0 := and7 ⟨s[i].toNat, UInt8.toNat_lt _⟩
  have c1 := and63 ⟨s[i + 1].toNat, UInt8.toNat_lt _⟩
  have d1 := and192 ⟨s[i + 1].toNat, UInt8.toNat_lt _⟩
  simp only [] at a0 c1 d1
  have e1 : ((s[i + 1].toNat : Int) / 64 * 64 != 128) = true := by simp; omega
  clear b
  go_enter Tryz.func151, Tryz.ntmps151
  go_wp2
  go_rounds 1
  go_ret
  exact ⟨rfl, rfl⟩
set_option maxRecDepth 100000 in
set_option maxHeartbeats 2000000 in
theorem sign_4_bad2 (s : ByteArray) (i : Nat) (hs : s.size ≤ 1000000000) (hi : i < s.size) (h1 : 240 ≤ s[i].toNat) (h2 : s[i].toNat ≤ 244) (h3 : i + 4 ≤ s.size) (g1 : s[i + 1].toNat / 64 = 2) (b : ¬ s[i + 2].toNat / 64 = 2) (w : World) : Calls Tryz.prog 151 #[.string s, .int .i64 i] w fun e w' => e = .returned (.int .i64 0) ∧ w = w' := by
  have a0 := and7 ⟨s[i].toNat, UInt8.toNat_lt _⟩
  have c1 := and63 ⟨s[i + 1].toNat, UInt8.toNat_lt _⟩
  have d1 := and192 ⟨s[i + 1].toNat, UInt8.toNat_lt _⟩
  have c2 := and63 ⟨s[i + 2].toNat, UInt8.toNat_lt _⟩
  have d2 := and192 ⟨s[i + 2].toNat, UInt8.toNat_lt _⟩
  simp only [] at a0 c1 d1 c2 d2
  have e1 : ((s[i + 1].toNat : Int) / 64 * 64 != 128) = false := by simp; omega
  have e2 : ((s[i + 2].toNat : Int) / 64 * 64 != 128) = true := by simp; omega
  clear b
  have o1 := or64i ((s[i].toNat : Int) % 8) ((s[i + 1].toNat : Int) % 64) (by omega) (by omega) (by omega) (by omega)
  obtain ⟨v1, hv1⟩ : ∃ v : Int, v = ((s[i].toNat : Int) % 8) * 64 + (s[i + 1].toNat : Int) % 64 := ⟨_, rfl⟩
  rw [← hv1] at o1
  have p1a : 0 ≤ v1 := by omega
  have p1b : v1 < 2097152 := by omega
  clear hv1
  go_enter Tryz.func151, Tryz.ntmps151
  go_wp2
  go_rounds 2
  go_ret
  exact ⟨rfl, rfl⟩
set_option maxRecDepth 100000 in
set_option maxHeartbeats 2000000 in
theorem sign_4_bad3 (s : ByteArray) (i : Nat) (hs : s.size ≤ 1000000000) (hi : i < s.size) (h1 : 240 ≤ s[i].toNat) (h2 : s[i].toNat ≤ 244) (h3 : i + 4 ≤ s.size) (g1 : s[i + 1].toNat / 64 = 2) (g2 : s[i + 2].toNat / 64 = 2) (b : ¬ s[i + 3].toNat / 64 = 2) (w : World) : Calls Tryz.prog 151 #[.string s, .int .i64 i] w fun e w' => e = .returned (.int .i64 0) ∧ w = w' := by
  have a0 := and7 ⟨s[i].toNat, UInt8.toNat_lt _⟩
  have c1 := and63 ⟨s[i + 1].toNat, UInt8.toNat_lt _⟩
  have d1 := and192 ⟨s[i + 1].toNat, UInt8.toNat_lt _⟩
  have c2 := and63 ⟨s[i + 2].toNat, UInt8.toNat_lt _⟩
  have d2 := and192 ⟨s[i + 2].toNat, UInt8.toNat_lt _⟩
  have c3 := and63 ⟨s[i + 3].toNat, UInt8.toNat_lt _⟩
  have d3 := and192 ⟨s[i + 3].toNat, UInt8.toNat_lt _⟩
  simp only [] at a0 c1 d1 c2 d2 c3 d3
  have e1 : ((s[i + 1].toNat : Int) / 64 * 64 != 128) = false := by simp; omega
  have e2 : ((s[i + 2].toNat : Int) / 64 * 64 != 128) = false := by simp; omega
  have e3 : ((s[i + 3].toNat : Int) / 64 * 64 != 128) = true := by simp; omega
  clear b
  have o1 := or64i ((s[i].toNat : Int) % 8) ((s[i + 1].toNat : Int) % 64) (by omega) (by omega) (by omega) (by omega)
  obtain ⟨v1, hv1⟩ : ∃ v : Int, v = ((s[i].toNat : Int) % 8) * 64 + (s[i + 1].toNat : Int) % 64 := ⟨_, rfl⟩
  rw [← hv1] at o1
  have o2 := or64i v1 ((s[i + 2].toNat : Int) % 64) (by omega) (by omega) (by omega) (by omega)
  obtain ⟨v2, hv2⟩ : ∃ v : Int, v = v1 * 64 + (s[i + 2].toNat : Int) % 64 := ⟨_, rfl⟩
  rw [← hv2] at o2
  have p1a : 0 ≤ v1 := by omega
  have p1b : v1 < 2097152 := by omega
  have p2a : 0 ≤ v2 := by omega
  have p2b : v2 < 2097152 := by omega
  clear hv1 hv2
  go_enter Tryz.func151, Tryz.ntmps151
  go_wp2
  go_rounds 3
  go_ret
  exact ⟨rfl, rfl⟩
set_option maxRecDepth 100000 in
set_option maxHeartbeats 2000000 in
theorem sign_4_low (s : ByteArray) (i : Nat) (hs : s.size ≤ 1000000000) (hi : i < s.size) (h1 : 240 ≤ s[i].toNat) (h2 : s[i].toNat ≤ 244) (h3 : i + 4 ≤ s.size) (g1 : s[i + 1].toNat / 64 = 2) (g2 : s[i + 2].toNat / 64 = 2) (g3 : s[i + 3].toNat / 64 = 2) (q : (s[i].toNat % 8 * 262144 + s[i + 1].toNat % 64 * 4096 + s[i + 2].toNat % 64 * 64 + s[i + 3].toNat % 64) < 65536) (w : World) : Calls Tryz.prog 151 #[.string s, .int .i64 i] w fun e w' => e = .returned (.int .i64 0) ∧ w = w' := by
  have a0 := and7 ⟨s[i].toNat, UInt8.toNat_lt _⟩
  have c1 := and63 ⟨s[i + 1].toNat, UInt8.toNat_lt _⟩
  have d1 := and192 ⟨s[i + 1].toNat, UInt8.toNat_lt _⟩
  have c2 := and63 ⟨s[i + 2].toNat, UInt8.toNat_lt _⟩
  have d2 := and192 ⟨s[i + 2].toNat, UInt8.toNat_lt _⟩
  have c3 := and63 ⟨s[i + 3].toNat, UInt8.toNat_lt _⟩
  have d3 := and192 ⟨s[i + 3].toNat, UInt8.toNat_lt _⟩
  simp only [] at a0 c1 d1 c2 d2 c3 d3
  have e1 : ((s[i + 1].toNat : Int) / 64 * 64 != 128) = false := by simp; omega
  have e2 : ((s[i + 2].toNat : Int) / 64 * 64 != 128) = false := by simp; omega
  have e3 : ((s[i + 3].toNat : Int) / 64 * 64 != 128) = false := by simp; omega
  have o1 := or64i ((s[i].toNat : Int) % 8) ((s[i + 1].toNat : Int) % 64) (by omega) (by omega) (by omega) (by omega)
  obtain ⟨v1, hv1⟩ : ∃ v : Int, v = ((s[i].toNat : Int) % 8) * 64 + (s[i + 1].toNat : Int) % 64 := ⟨_, rfl⟩
  rw [← hv1] at o1
  have o2 := or64i v1 ((s[i + 2].toNat : Int) % 64) (by omega) (by omega) (by omega) (by omega)
  obtain ⟨v2, hv2⟩ : ∃ v : Int, v = v1 * 64 + (s[i + 2].toNat : Int) % 64 := ⟨_, rfl⟩
  rw [← hv2] at o2
  have o3 := or64i v2 ((s[i + 3].toNat : Int) % 64) (by omega) (by omega) (by omega) (by omega)
  obtain ⟨v3, hv3⟩ : ∃ v : Int, v = v2 * 64 + (s[i + 3].toNat : Int) % 64 := ⟨_, rfl⟩
  rw [← hv3] at o3
  have p1a : 0 ≤ v1 := by omega
  have p1b : v1 < 2097152 := by omega
  have p2a : 0 ≤ v2 := by omega
  have p2b : v2 < 2097152 := by omega
  have p3a : 0 ≤ v3 := by omega
  have p3b : v3 < 2097152 := by omega
  have f0 : v3 < 65536 := by omega
  clear hv1 hv2 hv3
  go_enter Tryz.func151, Tryz.ntmps151
  go_wp2
  go_rounds 4
  go_ret
  exact ⟨rfl, rfl⟩
set_option maxRecDepth 100000 in
set_option maxHeartbeats 2000000 in
theorem sign_4_high (s : ByteArray) (i : Nat) (hs : s.size ≤ 1000000000) (hi : i < s.size) (h1 : 240 ≤ s[i].toNat) (h2 : s[i].toNat ≤ 244) (h3 : i + 4 ≤ s.size) (g1 : s[i + 1].toNat / 64 = 2) (g2 : s[i + 2].toNat / 64 = 2) (g3 : s[i + 3].toNat / 64 = 2) (q : 1114111 < (s[i].toNat % 8 * 262144 + s[i + 1].toNat % 64 * 4096 + s[i + 2].toNat % 64 * 64 + s[i + 3].toNat % 64)) (w : World) : Calls Tryz.prog 151 #[.string s, .int .i64 i] w fun e w' => e = .returned (.int .i64 0) ∧ w = w' := by
  have a0 := and7 ⟨s[i].toNat, UInt8.toNat_lt _⟩
  have c1 := and63 ⟨s[i + 1].toNat, UInt8.toNat_lt _⟩
  have d1 := and192 ⟨s[i + 1].toNat, UInt8.toNat_lt _⟩
  have c2 := and63 ⟨s[i + 2].toNat, UInt8.toNat_lt _⟩
  have d2 := and192 ⟨s[i + 2].toNat, UInt8.toNat_lt _⟩
  have c3 := and63 ⟨s[i + 3].toNat, UInt8.toNat_lt _⟩
  have d3 := and192 ⟨s[i + 3].toNat, UInt8.toNat_lt _⟩
  simp only [] at a0 c1 d1 c2 d2 c3 d3
  have e1 : ((s[i + 1].toNat : Int) / 64 * 64 != 128) = false := by simp; omega
  have e2 : ((s[i + 2].toNat : Int) / 64 * 64 != 128) = false := by simp; omega
  have e3 : ((s[i + 3].toNat : Int) / 64 * 64 != 128) = false := by simp; omega
  have o1 := or64i ((s[i].toNat : Int) % 8) ((s[i + 1].toNat : Int) % 64) (by omega) (by omega) (by omega) (by omega)
  obtain ⟨v1, hv1⟩ : ∃ v : Int, v = ((s[i].toNat : Int) % 8) * 64 + (s[i + 1].toNat : Int) % 64 := ⟨_, rfl⟩
  rw [← hv1] at o1
  have o2 := or64i v1 ((s[i + 2].toNat : Int) % 64) (by omega) (by omega) (by omega) (by omega)
  obtain ⟨v2, hv2⟩ : ∃ v : Int, v = v1 * 64 + (s[i + 2].toNat : Int) % 64 := ⟨_, rfl⟩
  rw [← hv2] at o2
  have o3 := or64i v2 ((s[i + 3].toNat : Int) % 64) (by omega) (by omega) (by omega) (by omega)
  obtain ⟨v3, hv3⟩ : ∃ v : Int, v = v2 * 64 + (s[i + 3].toNat : Int) % 64 := ⟨_, rfl⟩
  rw [← hv3] at o3
  have p1a : 0 ≤ v1 := by omega
  have p1b : v1 < 2097152 := by omega
  have p2a : 0 ≤ v2 := by omega
  have p2b : v2 < 2097152 := by omega
  have p3a : 0 ≤ v3 := by omega
  have p3b : v3 < 2097152 := by omega
  have f0 : 1114111 < v3 := by omega
  clear hv1 hv2 hv3
  go_enter Tryz.func151, Tryz.ntmps151
  go_wp2
  go_rounds 4
  go_ret
  exact ⟨rfl, rfl⟩
set_option maxRecDepth 100000 in
set_option maxHeartbeats 2000000 in
theorem sign_4_ok (s : ByteArray) (i : Nat) (hs : s.size ≤ 1000000000) (hi : i < s.size) (h1 : 240 ≤ s[i].toNat) (h2 : s[i].toNat ≤ 244) (h3 : i + 4 ≤ s.size) (g1 : s[i + 1].toNat / 64 = 2) (g2 : s[i + 2].toNat / 64 = 2) (g3 : s[i + 3].toNat / 64 = 2) (q1 : 65536 ≤ (s[i].toNat % 8 * 262144 + s[i + 1].toNat % 64 * 4096 + s[i + 2].toNat % 64 * 64 + s[i + 3].toNat % 64)) (q2 : (s[i].toNat % 8 * 262144 + s[i + 1].toNat % 64 * 4096 + s[i + 2].toNat % 64 * 64 + s[i + 3].toNat % 64) ≤ 1114111) (w : World) : Calls Tryz.prog 151 #[.string s, .int .i64 i] w fun e w' => e = .returned (.int .i64 4) ∧ w = w' := by
  have a0 := and7 ⟨s[i].toNat, UInt8.toNat_lt _⟩
  have c1 := and63 ⟨s[i + 1].toNat, UInt8.toNat_lt _⟩
  have d1 := and192 ⟨s[i + 1].toNat, UInt8.toNat_lt _⟩
  have c2 := and63 ⟨s[i + 2].toNat, UInt8.toNat_lt _⟩
  have d2 := and192 ⟨s[i + 2].toNat, UInt8.toNat_lt _⟩
  have c3 := and63 ⟨s[i + 3].toNat, UInt8.toNat_lt _⟩
  have d3 := and192 ⟨s[i + 3].toNat, UInt8.toNat_lt _⟩
  simp only [] at a0 c1 d1 c2 d2 c3 d3
  have e1 : ((s[i + 1].toNat : Int) / 64 * 64 != 128) = false := by simp; omega
  have e2 : ((s[i + 2].toNat : Int) / 64 * 64 != 128) = false := by simp; omega
  have e3 : ((s[i + 3].toNat : Int) / 64 * 64 != 128) = false := by simp; omega
  have o1 := or64i ((s[i].toNat : Int) % 8) ((s[i + 1].toNat : Int) % 64) (by omega) (by omega) (by omega) (by omega)
  obtain ⟨v1, hv1⟩ : ∃ v : Int, v = ((s[i].toNat : Int) % 8) * 64 + (s[i + 1].toNat : Int) % 64 := ⟨_, rfl⟩
  rw [← hv1] at o1
  have o2 := or64i v1 ((s[i + 2].toNat : Int) % 64) (by omega) (by omega) (by omega) (by omega)
  obtain ⟨v2, hv2⟩ : ∃ v : Int, v = v1 * 64 + (s[i + 2].toNat : Int) % 64 := ⟨_, rfl⟩
  rw [← hv2] at o2
  have o3 := or64i v2 ((s[i + 3].toNat : Int) % 64) (by omega) (by omega) (by omega) (by omega)
  obtain ⟨v3, hv3⟩ : ∃ v : Int, v = v2 * 64 + (s[i + 3].toNat : Int) % 64 := ⟨_, rfl⟩
  rw [← hv3] at o3
  have p1a : 0 ≤ v1 := by omega
  have p1b : v1 < 2097152 := by omega
  have p2a : 0 ≤ v2 := by omega
  have p2b : v2 < 2097152 := by omega
  have p3a : 0 ≤ v3 := by omega
  have p3b : v3 < 2097152 := by omega
  have f0 : 65536 ≤ v3 := by omega
  have f1 : v3 ≤ 1114111 := by omega
  clear hv1 hv2 hv3
  go_enter Tryz.func151, Tryz.ntmps151
  go_wp2
  go_rounds 4
  go_ret
  exact ⟨rfl, rfl⟩

theorem sgn_at (s : ByteArray) (i : Nat) : sgn (s.data.toList.drop i) = signN (s.size - i) (bt s.data.toList i) (bt s.data.toList (i + 1)) (bt s.data.toList (i + 2)) (bt s.data.toList (i + 3)) := by
  unfold sgn
  rw [bt_drop, bt_drop, bt_drop, bt_drop, List.length_drop]
  simp

theorem sign_calls (s : ByteArray) (i : Nat) (hs : s.size ≤ 1000000000) (hi : i < s.size) (w : World) : Calls Tryz.prog 151 #[.string s, .int .i64 i] w fun e w' => e = .returned (.int .i64 (sgn (s.data.toList.drop i))) ∧ w = w' := by
  rw [sgn_at, bt_self s i hi]
  by_cases ca : s[i].toNat < 128
  · rw [show signN (s.size - i) s[i].toNat (bt s.data.toList (i + 1)) (bt s.data.toList (i + 2)) (bt s.data.toList (i + 3)) = 1 by rw [signN, if_pos ca]]
    exact sign_a s i hs hi ca w
  by_cases cb : 194 ≤ s[i].toNat ∧ s[i].toNat ≤ 223
  · by_cases h3 : i + 2 ≤ s.size
    · rw [bt_self s (i + 1) (by omega)]
      by_cases g1 : s[i + 1].toNat / 64 = 2
      · rw [show signN (s.size - i) s[i].toNat s[i + 1].toNat (bt s.data.toList (i + 2)) (bt s.data.toList (i + 3)) = 2 by rw [signN, if_neg ca, if_pos cb, if_pos ⟨by omega, g1⟩]]
        exact sign_2_ok s i hs hi cb.1 cb.2 h3 g1 w
      · rw [show signN (s.size - i) s[i].toNat s[i + 1].toNat (bt s.data.toList (i + 2)) (bt s.data.toList (i + 3)) = 0 by rw [signN, if_neg ca, if_pos cb, if_neg (by omega)]]
        exact sign_2_bad1 s i hs hi cb.1 cb.2 h3 g1 w
    · rw [show signN (s.size - i) s[i].toNat (bt s.data.toList (i + 1)) (bt s.data.toList (i + 2)) (bt s.data.toList (i + 3)) = 0 by rw [signN, if_neg ca, if_pos cb, if_neg (by omega)]]
      exact sign_2_short s i hs hi cb.1 cb.2 (by omega) w
  by_cases cc : 224 ≤ s[i].toNat ∧ s[i].toNat ≤ 239
  · by_cases h3 : i + 3 ≤ s.size
    · rw [bt_self s (i + 1) (by omega), bt_self s (i + 2) (by omega)]
      have e0 : ∀ r, (if (2 < s.size - i ∧ s[i + 1].toNat / 64 = 2 ∧ s[i + 2].toNat / 64 = 2) ∧ ¬ (s[i].toNat % 16 * 4096 + s[i + 1].toNat % 64 * 64 + s[i + 2].toNat % 64 < 2048) ∧ ¬ (55296 ≤ s[i].toNat % 16 * 4096 + s[i + 1].toNat % 64 * 64 + s[i + 2].toNat % 64 ∧ s[i].toNat % 16 * 4096 + s[i + 1].toNat % 64 * 64 + s[i + 2].toNat % 64 ≤ 57343) then 3 else 0) = r → signN (s.size - i) s[i].toNat s[i + 1].toNat s[i + 2].toNat (bt s.data.toList (i + 3)) = r := fun r h => by
        rw [signN, if_neg ca, if_neg cb, if_pos cc]; exact h
      by_cases g1 : s[i + 1].toNat / 64 = 2
      · by_cases g2 : s[i + 2].toNat / 64 = 2
        · by_cases q1 : s[i].toNat % 16 * 4096 + s[i + 1].toNat % 64 * 64 + s[i + 2].toNat % 64 < 2048
          · rw [e0 0 (if_neg (by omega))]; exact sign_3_low s i hs hi cc.1 cc.2 h3 g1 g2 q1 w
          · by_cases q2 : s[i].toNat % 16 * 4096 + s[i + 1].toNat % 64 * 64 + s[i + 2].toNat % 64 < 55296
            · rw [e0 3 (if_pos (by omega))]; exact sign_3_ok1 s i hs hi cc.1 cc.2 h3 g1 g2 (by omega) q2 w
            · by_cases q3 : s[i].toNat % 16 * 4096 + s[i + 1].toNat % 64 * 64 + s[i + 2].toNat % 64 ≤ 57343
              · rw [e0 0 (if_neg (by omega))]; exact sign_3_sur s i hs hi cc.1 cc.2 h3 g1 g2 (by omega) q3 w
              · rw [e0 3 (if_pos (by omega))]; exact sign_3_ok2 s i hs hi cc.1 cc.2 h3 g1 g2 (by omega) w
        · rw [e0 0 (if_neg (by omega))]; exact sign_3_bad2 s i hs hi cc.1 cc.2 h3 g1 g2 w
      · rw [e0 0 (if_neg (by omega))]; exact sign_3_bad1 s i hs hi cc.1 cc.2 h3 g1 w
    · rw [show signN (s.size - i) s[i].toNat (bt s.data.toList (i + 1)) (bt s.data.toList (i + 2)) (bt s.data.toList (i + 3)) = 0 by rw [signN, if_neg ca, if_neg cb, if_pos cc, if_neg (by omega)]]
      exact sign_3_short s i hs hi cc.1 cc.2 (by omega) w
  by_cases cd : 240 ≤ s[i].toNat ∧ s[i].toNat ≤ 244
  · by_cases h3 : i + 4 ≤ s.size
    · rw [bt_self s (i + 1) (by omega), bt_self s (i + 2) (by omega), bt_self s (i + 3) (by omega)]
      have e0 : ∀ r, (if (3 < s.size - i ∧ s[i + 1].toNat / 64 = 2 ∧ s[i + 2].toNat / 64 = 2 ∧ s[i + 3].toNat / 64 = 2) ∧ ¬ (s[i].toNat % 8 * 262144 + s[i + 1].toNat % 64 * 4096 + s[i + 2].toNat % 64 * 64 + s[i + 3].toNat % 64 < 65536) ∧ ¬ (1114111 < s[i].toNat % 8 * 262144 + s[i + 1].toNat % 64 * 4096 + s[i + 2].toNat % 64 * 64 + s[i + 3].toNat % 64) then 4 else 0) = r → signN (s.size - i) s[i].toNat s[i + 1].toNat s[i + 2].toNat s[i + 3].toNat = r := fun r h => by
        rw [signN, if_neg ca, if_neg cb, if_neg cc, if_pos cd]; exact h
      by_cases g1 : s[i + 1].toNat / 64 = 2
      · by_cases g2 : s[i + 2].toNat / 64 = 2
        · by_cases g3 : s[i + 3].toNat / 64 = 2
          · by_cases q1 : s[i].toNat % 8 * 262144 + s[i + 1].toNat % 64 * 4096 + s[i + 2].toNat % 64 * 64 + s[i + 3].toNat % 64 < 65536
            · rw [e0 0 (if_neg (by omega))]; exact sign_4_low s i hs hi cd.1 cd.2 h3 g1 g2 g3 q1 w
            · by_cases q2 : 1114111 < s[i].toNat % 8 * 262144 + s[i + 1].toNat % 64 * 4096 + s[i + 2].toNat % 64 * 64 + s[i + 3].toNat % 64
              · rw [e0 0 (if_neg (by omega))]; exact sign_4_high s i hs hi cd.1 cd.2 h3 g1 g2 g3 q2 w
              · rw [e0 4 (if_pos (by omega))]; exact sign_4_ok s i hs hi cd.1 cd.2 h3 g1 g2 g3 (by omega) (by omega) w
          · rw [e0 0 (if_neg (by omega))]; exact sign_4_bad3 s i hs hi cd.1 cd.2 h3 g1 g2 g3 w
        · rw [e0 0 (if_neg (by omega))]; exact sign_4_bad2 s i hs hi cd.1 cd.2 h3 g1 g2 w
      · rw [e0 0 (if_neg (by omega))]; exact sign_4_bad1 s i hs hi cd.1 cd.2 h3 g1 w
    · rw [show signN (s.size - i) s[i].toNat (bt s.data.toList (i + 1)) (bt s.data.toList (i + 2)) (bt s.data.toList (i + 3)) = 0 by rw [signN, if_neg ca, if_neg cb, if_neg cc, if_pos cd, if_neg (by omega)]]
      exact sign_4_short s i hs hi cd.1 cd.2 (by omega) w
  · rw [show signN (s.size - i) s[i].toNat (bt s.data.toList (i + 1)) (bt s.data.toList (i + 2)) (bt s.data.toList (i + 3)) = 0 by rw [signN, if_neg ca, if_neg cb, if_neg cc, if_neg cd]]
    exact sign_e s i hs hi (by omega) w

end Go.Proofs.YtogjokofmfpmgaaGreatDoor
namespace Go.Proofs.YtogjokofmfpmgaaGreatDoor
open Go.RowKit

section
variable {w w' : World} {g N : Nat} {cs : Array Value}
end
set_option maxHeartbeats 1000000 in
theorem rfold_calls (s : ByteArray) (hs : s.size ≤ 1000000000) (w : World) : Calls Tryz.prog 149 #[.string s] w fun e w' => e = .returned (.string (bs (foldL s.data.toList))) ∧ Below w.heap.size w w' := by
  have hcv := run_bytes_of_string (P := Tryz.prog) w 9 27 5 s Tryz.underlying9 Tryz.underlying27 Tryz.underlying5
  have hge := grownCap_ge w s.size 0 5
  obtain ⟨cap, hcap⟩ : ∃ c, grownCap w s.size 0 5 = c := ⟨_, rfl⟩
  rw [hcap] at hcv hge
  clear hcap
  have hN : (bytesRow s cap).size = cap := bytesRow_size s cap hge
  have hH := bytesRow_holds s cap
  obtain ⟨C, hC⟩ : ∃ C, bytesRow s cap = C := ⟨_, rfl⟩
  rw [hC] at hcv hN hH
  clear hC
  have HL := hd (show s.data.toList.length = s.size by simp)
  have HN := hd hN
  rw [hN] at hcv
  clear hN
  have HH := hd hH
  clear hH
  go_enter Tryz.func149, Tryz.ntmps149
  go_wp2
  obtain ⟨X, hX⟩ : ∃ X, X = (w.alloc (.cells C 5 (cap, cap + 1))).drew := ⟨_, rfl⟩
  rw [← hX]
  have kX : Row8 X w.heap.size C cap := by
    rw [hX]; exact ⟨heap_alloc_new w _, HN.o⟩
  have bX : Below w.heap.size w X := by rw [hX]; exact bdrew ((Below.refl _ w).alloc (Nat.le_refl _) _)
  have KX := hd kX
  have BX := hd bX
  clear hX kX bX hcv
  go_loopw [4] (fun i wr => ∃ (k : Nat) (cs : Array Value), i = .int .i64 k ∧ k ≤ s.size ∧ Row8 wr w.heap.size cs cap ∧ Hd (Holds8 cs (foldK s.data.toList k)) ∧ Below w.heap.size w wr) (fun i _ => s.size - (intOf i).toNat)
  case atStart => exact ⟨0, C, rfl, Nat.zero_le _, KX.o, hd (by rw [foldK_zero]; exact HH.o), BX.o⟩
  case round =>
    obtain ⟨k, cs, rfl, hk, hr, hh, hb⟩ := hrel
    by_cases hlt : k < s.size
    · have hkl : k < s.data.toList.length := by rw [HL.o]; exact hlt
      have hc := hr.at_ k (hh.o k (by rw [foldK_len]; exact hkl))
      rw [foldK_at _ k hkl, bt_self s k hlt] at hc
      have hf := hr.free k (by omega)
      have hlb := hr.lt
      have hki : (0 : Int) ≤ (k : Int) := by omega
      have hkc : k < cap := by omega
      by_cases hu : 65 ≤ s[k].toNat ∧ s[k].toNat ≤ 90
      · have HU := hd (lowU_up s[k] hu)
        obtain ⟨hu1, hu2⟩ := hu
        go_wp2_with (go_at_call 92; refine (up_calls _ _).mono ?_; rintro e w' ⟨rfl, rfl⟩)
        go_roundw
        case rel =>
          refine ⟨k + 1, _, by go_num, by omega, hr.set_ k _, ?_, hb.setCell (Nat.le_refl _) _⟩
          rw [foldK_next _ k hkl]
          exact holds8_set hh.o (by rw [foldK_len, HL.o, hr.2]; omega) k (by rw [foldK_len]; exact hkl) _ _ HU.o.symm
        case measure => simp [intOf]; omega
      · have HU := hd (foldK_same _ k hkl (lowU_no _ hu))
        go_wp2_with (go_at_call 92; refine (up_calls _ _).mono ?_; rintro e w' ⟨rfl, rfl⟩)
        all_goals first
          | (exfalso; omega)
          | (go_roundw
             case rel => exact ⟨k + 1, cs, by go_num, by omega, hr, hd (by rw [HU.o]; exact hh.o), hb⟩
             case measure => simp [intOf]; omega)
    · have hke : k = s.size := by omega
      subst hke
      have hall : foldK s.data.toList s.size = foldL s.data.toList := foldK_all _ _ (by rw [HL.o]; exact Nat.le_refl _)
      have hlen : (foldL s.data.toList).length = s.size := by rw [foldL, List.length_map, HL.o]
      rw [hall] at hh
      have hv := run_convert_bytes_back (P := Tryz.prog) wr 27 9 5 ⟨w.heap.size, 0, none⟩ cap (foldL s.data.toList) Tryz.underlying27 Tryz.underlying5 Tryz.underlying9 (fun j hj => by
        have := hr.at_ j (hh.o j hj)
        rw [bt_list _ j hj] at this
        have hp : (⟨w.heap.size, 0, none⟩ : Addr).add j = ⟨w.heap.size, j, none⟩ := by unfold Addr.add; split <;> simp_all
        rw [hp]; exact this)
      rw [hlen] at hv
      clear hall hlen
      go_wp2
      go_ret
      exact ⟨rfl, hb⟩

end Go.Proofs.YtogjokofmfpmgaaGreatDoor
