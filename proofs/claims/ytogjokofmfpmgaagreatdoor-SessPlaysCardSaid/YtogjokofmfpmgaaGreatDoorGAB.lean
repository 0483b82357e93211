/-
  The reference's sign: how many bytes the sign at a place has.
-/
import Derived.Test.YtogjokofmfpmgaaGreatDoorGAA
import Derived.Handy
import Derived.Laws.BitsLemmas
import Derived.Laws.IdiomStrings
import Derived.Laws.BytesArg
import Derived.Shelf.Strings.Shaped
import Derived.Shelf.Strings.SplitShaped
import Derived.Shelf.Strings.LastIndex
import Derived.Shelf.Unicode.ValidAny
import Derived.Shelf.LaysM
import Derived.Test.YtogjokofmfpmgaaGreatDoorProg
set_option linter.unusedVariables false
set_option linter.unusedSimpArgs false
namespace Go.Proofs.YtogjokofmfpmgaaGreatDoor
open Go.RowKit

set_option maxRecDepth 1000000 in
theorem and31 : ∀ X : Fin 256, bits .and .u8 ((X.val : Nat) : Int) 31 = ((X.val % 32 : Nat) : Int) := by decide
set_option maxRecDepth 1000000 in
theorem and15 : ∀ X : Fin 256, bits .and .u8 ((X.val : Nat) : Int) 15 = ((X.val % 16 : Nat) : Int) := by decide
set_option maxRecDepth 1000000 in
theorem and7 : ∀ X : Fin 256, bits .and .u8 ((X.val : Nat) : Int) 7 = ((X.val % 8 : Nat) : Int) := by decide
set_option maxRecDepth 1000000 in
theorem and63 : ∀ X : Fin 256, bits .and .u8 ((X.val : Nat) : Int) 63 = ((X.val % 64 : Nat) : Int) := by decide
set_option maxRecDepth 1000000 in
theorem and192 : ∀ X : Fin 256, bits .and .u8 ((X.val : Nat) : Int) 192 = ((X.val / 64 * 64 : Nat) : Int) := by decide
theorem or64 (a x : Nat) (ha : a < 1099511627776) (hx : x < 64) : bits .or .i64 ((a * 64 : Nat) : Int) (x : Int) = ((a * 64 + x : Nat) : Int) := by
  have key : (BitVec.ofInt 64 ((a * 64 : Nat) : Int) ||| BitVec.ofInt 64 (x : Int)).toNat = a * 64 + x := by
    rw [BitVec.toNat_or, BitVec.toNat_ofInt, BitVec.toNat_ofInt]
    rw [show (((a * 64 : Nat) : Int) % ((2 ^ 64 : Nat) : Int)).toNat = a * 64 by omega, show ((x : Int) % ((2 ^ 64 : Nat) : Int)).toNat = x by omega]
    have := Nat.two_pow_add_eq_or_of_lt (i := 6) (b := x) (by omega) a
    rw [show a * 64 = 2 ^ 6 * a by omega, ← this]
  show IntKind.i64.wrap ((BitVec.ofInt 64 ((a * 64 : Nat) : Int) ||| BitVec.ofInt 64 (x : Int)).toNat : Nat) = _
  rw [key, IntKind.wrap_i64]
  omega
theorem or64i (a x : Int) (h0 : 0 ≤ a) (h1 : a < 1099511627776) (h2 : 0 ≤ x) (h3 : x < 64) : bits .or .i64 (a * 64) x = a * 64 + x := by
  obtain ⟨a, rfl⟩ := Int.eq_ofNat_of_zero_le h0
  obtain ⟨x, rfl⟩ := Int.eq_ofNat_of_zero_le h2
  have := or64 a x (by omega) (by omega)
  simpa using this

set_option maxRecDepth 100000 in
set_option maxHeartbeats 2000000 in
theorem sign_a (s : ByteArray) (i : Nat) (hs : s.size ≤ 1000000000) (hi : i < s.size) (h : s[i].toNat < 128) (w : World) : Calls Tryz.prog 151 #[.string s, .int .i64 i] w fun e w' => e = .returned (.int .i64 1) ∧ w = w' := by
  go_enter Tryz.func151, Tryz.ntmps151
  go_wp2
  go_ret
  exact ⟨rfl, rfl⟩
set_option maxRecDepth 100000 in
set_option maxHeartbeats 2000000 in
theorem sign_e (s : ByteArray) (i : Nat) (hs : s.size ≤ 1000000000) (hi : i < s.size) (h : (128 ≤ s[i].toNat ∧ s[i].toNat < 194) ∨ 245 ≤ s[i].toNat) (w : World) : Calls Tryz.prog 151 #[.string s, .int .i64 i] w fun e w' => e = .returned (.int .i64 0) ∧ w = w' := by
  rcases h with ⟨h1, h2⟩ | h1
  all_goals
    go_enter Tryz.func151, Tryz.ntmps151
    go_wp2
    go_ret
    exact ⟨rfl, rfl⟩
set_option maxRecDepth 100000 in
set_option maxHeartbeats 2000000 in
theorem sign_2_short (s : ByteArray) (i : Nat) (hs : s.size ≤ 1000000000) (hi : i < s.size) (h1 : 194 ≤ s[i].toNat) (h2 : s[i].toNat ≤ 223) (h3 : s.size < i + 2) (w : World) : Calls Tryz.prog 151 #[.string s, .int .i64 i] w fun e w' => e = .returned (.int .i64 0) ∧ w = w' := by
  have a0 := and31 ⟨s[i].toNat, UInt8.toNat_lt _⟩
  simp only [] at a0
  go_enter Tryz.func151, Tryz.ntmps151
  go_wp2
  go_ret
  exact ⟨rfl, rfl⟩
set_option maxRecDepth 100000 in
set_option maxHeartbeats 2000000 in
theorem sign_2_bad1 (s : ByteArray) (i : Nat) (hs : s.size ≤ 1000000000) (hi : i < s.size) (h1 : 194 ≤ s[i].toNat) (h2 : s[i].toNat ≤ 223) (h3 : i + 2 ≤ s.size) (b : ¬ s[i + 1].toNat / 64 = 2) (w : World) : Calls Tryz.prog 151 #[.string s, .int .i64 i] w fun e w' => e = .returned (.int .i64 0) ∧ w = w' := by
  have a0 := and31 ⟨s[i].toNat, UInt8.toNat_lt _⟩
  have c1 := and63 ⟨s[i + 1].toNat, UInt8.toNat_lt _⟩
  have d1 := and192 ⟨s[i + 1].toNat, UInt8.toNat_lt _⟩
  simp only [] at a0 c1 d1
  have e1 : ((s[i + 1].toNat : Int) / 64 * 64 != 128) = true := by simp; omega
  clear b
  go_enter Tryz.func151, Tryz.ntmps151
  go_wp2
  go_rounds 1
  go_ret
  exact ⟨rfl, rfl⟩
set_option maxRecDepth 100000 in
set_option maxHeartbeats 2000000 in
theorem sign_2_ok (s : ByteArray) (i : Nat) (hs : s.size ≤ 1000000000) (hi : i < s.size) (h1 : 194 ≤ s[i].toNat) (h2 : s[i].toNat ≤ 223) (h3 : i + 2 ≤ s.size) (g1 : s[i + 1].toNat / 64 = 2) (w : World) : Calls Tryz.prog 151 #[.string s, .int .i64 i] w fun e w' => e = .returned (.int .i64 2) ∧ w = w' := by
  have a0 := and31 ⟨s[i].toNat, UInt8.toNat_lt _⟩
  have c1 := and63 ⟨s[i + 1].toNat, UInt8.toNat_lt _⟩
  have d1 := and192 ⟨s[i + 1].toNat, UInt8.toNat_lt _⟩
  simp only [] at a0 c1 d1
  have e1 : ((s[i + 1].toNat : Int) / 64 * 64 != 128) = false := by simp; omega
  have o1 := or64i ((s[i].toNat : Int) % 32) ((s[i + 1].toNat : Int) % 64) (by omega) (by omega) (by omega) (by omega)
  obtain ⟨v1, hv1⟩ : ∃ v : Int, v = ((s[i].toNat : Int) % 32) * 64 + (s[i + 1].toNat : Int) % 64 := ⟨_, rfl⟩
  rw [← hv1] at o1
  have p1a : 0 ≤ v1 := by omega
  have p1b : v1 < 2097152 := by omega
  have f0 : 128 ≤ v1 := by omega
  have f1 : v1 ≤ 2047 := by omega
  clear hv1
  go_enter Tryz.func151, Tryz.ntmps151
  go_wp2
  go_rounds 2
  go_ret
  exact ⟨rfl, rfl⟩
set_option maxRecDepth 100000 in
set_option maxHeartbeats 2000000 in
theorem sign_3_short (s : ByteArray) (i : Nat) (hs : s.size ≤ 1000000000) (hi : i < s.size) (h1 : 224 ≤ s[i].toNat) (h2 : s[i].toNat ≤ 239) (h3 : s.size < i + 3) (w : World) : Calls Tryz.prog 151 #[.string s, .int .i64 i] w fun e w' => e = .returned (.int .i64 0) ∧ w = w' := by
  have a0 := and15 ⟨s[i].toNat, UInt8.toNat_lt _⟩
  simp only [] at a0
  go_enter Tryz.func151, Tryz.ntmps151
  go_wp2
  go_ret
  exact ⟨rfl, rfl⟩
set_option maxRecDepth 100000 in
set_option maxHeartbeats 2000000 in
theorem sign_3_bad1 (s : ByteArray) (i : Nat) (hs : s.size ≤ 1000000000) (hi : i < s.size) (h1 : 224 ≤ s[i].toNat) (h2 : s[i].toNat ≤ 239) (h3 : i + 3 ≤ s.size) (b : ¬ s[i + 1].toNat / 64 = 2) (w : World) : Calls Tryz.prog 151 #[.string s, .int .i64 i] w fun e w' => e = .returned (.int .i64 0) ∧ w = w' := by
  have a0 := and15 ⟨s[i].toNat, UInt8.toNat_lt _⟩
  have c1 := and63 ⟨s[i + 1].toNat, UInt8.toNat_lt _⟩
  have d1 := and192 ⟨s[i + 1].toNat, UInt8.toNat_lt _⟩
  simp only [] at a0 c1 d1
  have e1 : ((s[i + 1].toNat : Int) / 64 * 64 != 128) = true := by simp; omega
  clear b
  go_enter Tryz.func151, Tryz.ntmps151
  go_wp2
  go_rounds 1
  go_ret
  exact ⟨rfl, rfl⟩
set_option maxRecDepth 100000 in
set_option maxHeartbeats 2000000 in
theorem sign_3_bad2 (s : ByteArray) (i : Nat) (hs : s.size ≤ 1000000000) (hi : i < s.size) (h1 : 224 ≤ s[i].toNat) (h2 : s[i].toNat ≤ 239) (h3 : i + 3 ≤ s.size) (g1 : s[i + 1].toNat / 64 = 2) (b : ¬ s[i + 2].toNat / 64 = 2) (w : World) : Calls Tryz.prog 151 #[.string s, .int .i64 i] w fun e w' => e = .returned (.int .i64 0) ∧ w = w' := by
  have a0 := and15 ⟨s[i].toNat, UInt8.toNat_lt _⟩
  have c1 := and63 ⟨s[i + 1].toNat, UInt8.toNat_lt _⟩
  have d1 := and192 ⟨s[i + 1].toNat, UInt8.toNat_lt _⟩
  have c2 := and63 ⟨s[i + 2].toNat, UInt8.toNat_lt _⟩
  have d2 := and192 ⟨s[i + 2].toNat, UInt8.toNat_lt _⟩
  simp only [] at a0 c1 d1 c2 d2
  have e1 : ((s[i + 1].toNat : Int) / 64 * 64 != 128) = false := by simp; omega
  have e2 : ((s[i + 2].toNat : Int) / 64 * 64 != 128) = true := by simp; omega
  clear b
  have o1 := or64i ((s[i].toNat : Int) % 16) ((s[i + 1].toNat : Int) % 64) (by omega) (by omega) (by omega) (by omega)
  obtain ⟨v1, hv1⟩ : ∃ v : Int, v = ((s[i].toNat : Int) % 16) * 64 + (s[i + 1].toNat : Int) % 64 := ⟨_, rfl⟩
  rw [← hv1] at o1
  have p1a : 0 ≤ v1 := by omega
  have p1b : v1 < 2097152 := by omega
  clear hv1
  go_enter Tryz.func151, Tryz.ntmps151
  go_wp2
  go_rounds 2
  go_ret
  exact ⟨rfl, rfl⟩
set_option maxRecDepth 100000 in
set_option maxHeartbeats 2000000 in
theorem sign_3_low (s : ByteArray) (i : Nat) (hs : s.size ≤ 1000000000) (hi : i < s.size) (h1 : 224 ≤ s[i].toNat) (h2 : s[i].toNat ≤ 239) (h3 : i + 3 ≤ s.size) (g1 : s[i + 1].toNat / 64 = 2) (g2 : s[i + 2].toNat / 64 = 2) (q : (s[i].toNat % 16 * 4096 + s[i + 1].toNat % 64 * 64 + s[i + 2].toNat % 64) < 2048) (w : World) : Calls Tryz.prog 151 #[.string s, .int .i64 i] w fun e w' => e = .returned (.int .i64 0) ∧ w = w' := by
  have a0 := and15 ⟨s[i].toNat, UInt8.toNat_lt _⟩
  have c1 := and63 ⟨s[i + 1].toNat, UInt8.toNat_lt _⟩
  have d1 := and192 ⟨s[i + 1].toNat, UInt8.toNat_lt _⟩
  have c2 := and63 ⟨s[i + 2].toNat, UInt8.toNat_lt _⟩
  have d2 := and192 ⟨s[i + 2].toNat, UInt8.toNat_lt _⟩
  simp only [] at a0 c1 d1 c2 d2
  have e1 : ((s[i + 1].toNat : Int) / 64 * 64 != 128) = false := by simp; omega
  have e2 : ((s[i + 2].toNat : Int) / 64 * 64 != 128) = false := by simp; omega
  have o1 := or64i ((s[i].toNat : Int) % 16) ((s[i + 1].toNat : Int) % 64) (by omega) (by omega) (by omega) (by omega)
  obtain ⟨v1, hv1⟩ : ∃ v : Int, v = ((s[i].toNat : Int) % 16) * 64 + (s[i + 1].toNat : Int) % 64 := ⟨_, rfl⟩
  rw [← hv1] at o1
  have o2 := or64i v1 ((s[i + 2].toNat : Int) % 64) (by omega) (by omega) (by omega) (by omega)
  obtain ⟨v2, hv2⟩ : ∃ v : Int, v = v1 * 64 + (s[i + 2].toNat : Int) % 64 := ⟨_, rfl⟩
  rw [← hv2] at o2
  have p1a : 0 ≤ v1 := by omega
  have p1b : v1 < 2097152 := by omega
  have p2a : 0 ≤ v2 := by omega
  have p2b : v2 < 2097152 := by omega
  have f0 : v2 < 2048 := by omega
  clear hv1 hv2
  go_enter Tryz.func151, Tryz.ntmps151
  go_wp2
  go_rounds 3
  go_ret
  exact ⟨rfl, rfl⟩
set_option maxRecDepth 100000 in
set_option maxHeartbeats 2000000 in
theorem sign_3_sur (s : ByteArray) (i : Nat) (hs : s.size ≤ 1000000000) (hi : i < s.size) (h1 : 224 ≤ s[i].toNat) (h2 : s[i].toNat ≤ 239) (h3 : i + 3 ≤ s.size) (g1 : s[i + 1].toNat / 64 = 2) (g2 : s[i + 2].toNat / 64 = 2) (q1 : 55296 ≤ (s[i].toNat % 16 * 4096 + s[i + 1].toNat % 64 * 64 + s[i + 2].toNat % 64)) (q2 : (s[i].toNat % 16 * 4096 + s[i + 1].toNat % 64 * 64 + s[i + 2].toNat % 64) ≤ 57343) (w : World) : Calls Tryz.prog 151 #[.string s, .int .i64 i] w fun e w' => e = .returned (.int .i64 0) ∧ w = w' := by
  have a0 := and15 ⟨s[i].toNat, UInt8.toNat_lt _⟩
  have c1 := and63 ⟨s[i + 1].toNat, UInt8.toNat_lt _⟩
  have d1 := and192 ⟨s[i + 1].toNat, UInt8.toNat_lt _⟩
  have c2 := and63 ⟨s[i + 2].toNat, UInt8.toNat_lt _⟩
  have d2 := and192 ⟨s[i + 2].toNat, UInt8.toNat_lt _⟩
  simp only [] at a0 c1 d1 c2 d2
  have e1 : ((s[i + 1].toNat : Int) / 64 * 64 != 128) = false := by simp; omega
  have e2 : ((s[i + 2].toNat : Int) / 64 * 64 != 128) = false := by simp; omega
  have o1 := or64i ((s[i].toNat : Int) % 16) ((s[i + 1].toNat : Int) % 64) (by omega) (by omega) (by omega) (by omega)
  obtain ⟨v1, hv1⟩ : ∃ v : Int, v = ((s[i].toNat : Int) % 16) * 64 + (s[i + 1].toNat : Int) % 64 := ⟨_, rfl⟩
  rw [← hv1] at o1
  have o2 := or64i v1 ((s[i + 2].toNat : Int) % 64) (by omega) (by omega) (by omega) (by omega)
  obtain ⟨v2, hv2⟩ : ∃ v : Int, v = v1 * 64 + (s[i + 2].toNat : Int) % 64 := ⟨_, rfl⟩
  rw [← hv2] at o2
  have p1a : 0 ≤ v1 := by omega
  have p1b : v1 < 2097152 := by omega
  have p2a : 0 ≤ v2 := by omega
  have p2b : v2 < 2097152 := by omega
  have f0 : 55296 ≤ v2 := by omega
  have f1 : v2 ≤ 57343 := by omega
  clear hv1 hv2
  go_enter Tryz.func151, Tryz.ntmps151
  go_wp2
  go_rounds 3
  go_ret
  exact ⟨rfl, rfl⟩
set_option maxRecDepth 100000 in
set_option maxHeartbeats 2000000 in
theorem sign_3_ok1 (s : ByteArray) (i : Nat) (hs : s.size ≤ 1000000000) (hi : i < s.size) (h1 : 224 ≤ s[i].toNat) (h2 : s[i].toNat ≤ 239) (h3 : i + 3 ≤ s.size) (g1 : s[i + 1].toNat / 64 = 2) (g2 : s[i + 2].toNat / 64 = 2) (q1 : 2048 ≤ (s[i].toNat % 16 * 4096 + s[i + 1].toNat % 64 * 64 + s[i + 2].toNat % 64)) (q2 : (s[i].toNat % 16 * 4096 + s[i + 1].toNat % 64 * 64 + s[i + 2].toNat % 64) < 55296) (w : World) : Calls Tryz.prog 151 #[.string s, .int .i64 i] w fun e w' => e = .returned (.int .i64 3) ∧ w = w' := by
  have a0 := and15 ⟨s[i].toNat, UInt8.toNat_lt _⟩
  have c1 := and63 ⟨s[i + 1].toNat, UInt8.toNat_lt _⟩
  have d1 := and192 ⟨s[i + 1].toNat, UInt8.toNat_lt _⟩
  have c2 := and63 ⟨s[i + 2].toNat, UInt8.toNat_lt _⟩
  have d2 := and192 ⟨s[i + 2].toNat, UInt8.toNat_lt _⟩
  simp only [] at a0 c1 d1 c2 d2
  have e1 : ((s[i + 1].toNat : Int) / 64 * 64 != 128) = false := by simp; omega
  have e2 : ((s[i + 2].toNat : Int) / 64 * 64 != 128) = false := by simp; omega
  have o1 := or64i ((s[i].toNat : Int) % 16) ((s[i + 1].toNat : Int) % 64) (by omega) (by omega) (by omega) (by omega)
  obtain ⟨v1, hv1⟩ : ∃ v : Int, v = ((s[i].toNat : Int) % 16) * 64 + (s[i + 1].toNat : Int) % 64 := ⟨_, rfl⟩
  rw [← hv1] at o1
  have o2 := or64i v1 ((s[i + 2].toNat : Int) % 64) (by omega) (by omega) (by omega) (by omega)
  obtain ⟨v2, hv2⟩ : ∃ v : Int, v = v1 * 64 + (s[i + 2].toNat : Int) % 64 := ⟨_, rfl⟩
  rw [← hv2] at o2
  have p1a : 0 ≤ v1 := by omega
  have p1b : v1 < 2097152 := by omega
  have p2a : 0 ≤ v2 := by omega
  have p2b : v2 < 2097152 := by omega
  have f0 : 2048 ≤ v2 := by omega
  have f1 : v2 < 55296 := by omega
  clear hv1 hv2
  go_enter Tryz.func151, Tryz.ntmps151
  go_wp2
  go_rounds 3
  go_ret
  exact ⟨rfl, rfl⟩
set_option maxRecDepth 100000 in
set_option maxHeartbeats 2000000 in
theorem sign_3_ok2 (s : ByteArray) (i : Nat) (hs : s.size ≤ 1000000000) (hi : i < s.size) (h1 : 224 ≤ s[i].toNat) (h2 : s[i].toNat ≤ 239) (h3 : i + 3 ≤ s.size) (g1 : s[i + 1].toNat / 64 = 2) (g2 : s[i + 2].toNat / 64 = 2) (q1 : 57343 < (s[i].toNat % 16 * 4096 + s[i + 1].toNat % 64 * 64 + s[i + 2].toNat % 64)) (w : World) : Calls Tryz.prog 151 #[.string s, .int .i64 i] w fun e w' => e = .returned (.int .i64 3) ∧ w = w' := by
  have a0 := and15 ⟨s[i].toNat, UInt8.toNat_lt _⟩
  have c1 := and63 ⟨s[i + 1].toNat, UInt8.toNat_lt _⟩
  have d1 := and192 ⟨s[i + 1].toNat, UInt8.toNat_lt _⟩
  have c2 := and63 ⟨s[i + 2].toNat, UInt8.toNat_lt _⟩
  have d2 := and192 ⟨s[i + 2].toNat, UInt8.toNat_lt _⟩
  simp only [] at a0 c1 d1 c2 d2
  have e1 : ((s[i + 1].toNat : Int) / 64 * 64 != 128) = false := by simp; omega
  have e2 : ((s[i + 2].toNat : Int) / 64 * 64 != 128) = false := by simp; omega
  have o1 := or64i ((s[i].toNat : Int) % 16) ((s[i + 1].toNat : Int) % 64) (by omega) (by omega) (by omega) (by omega)
  obtain ⟨v1, hv1⟩ : ∃ v : Int, v = ((s[i].toNat : Int) % 16) * 64 + (s[i + 1].toNat : Int) % 64 := ⟨_, rfl⟩
  rw [← hv1] at o1
  have o2 := or64i v1 ((s[i + 2].toNat : Int) % 64) (by omega) (by omega) (by omega) (by omega)
  obtain ⟨v2, hv2⟩ : ∃ v : Int, v = v1 * 64 + (s[i + 2].toNat : Int) % 64 := ⟨_, rfl⟩
  rw [← hv2] at o2
  have p1a : 0 ≤ v1 := by omega
  have p1b : v1 < 2097152 := by omega
  have p2a : 0 ≤ v2 := by omega
  have p2b : v2 < 2097152 := by omega
  have f0 : 57343 < v2 := by omega
  have f1 : v2 ≤ 65535 := by omega
  clear hv1 hv2
  go_enter Tryz.func151, Tryz.ntmps151
  go_wp2
  go_rounds 3
  go_ret
  exact ⟨rfl, rfl⟩
set_option maxRecDepth 100000 in
set_option maxHeartbeats 2000000 in
theorem sign_4_short (s : ByteArray) (i : Nat) (hs : s.size ≤ 1000000000) (hi : i < s.size) (h1 : 240 ≤ s[i].toNat) (h2 : s[i].toNat ≤ 244) (h3 : s.size < i + 4) (w : World) : Calls Tryz.prog 151 #[.string s, .int .i64 i] w fun e w' => e = .returned (.int .i64 0) ∧ w = w' := by
  have a0 := and7 ⟨s[i].toNat, UInt8.toNat_lt _⟩
  simp only [] at a0
  go_enter Tryz.func151, Tryz.ntmps151
  go_wp2
  go_ret
  exact ⟨rfl, rfl⟩
set_option maxRecDepth 100000 in
set_option maxHeartbeats 2000000 in
theorem sign_4_bad1 (s : ByteArray) (i : Nat) (hs : s.size ≤ 1000000000) (hi : i < s.size) (h1 : 240 ≤ s[i].toNat) (h2 : s[i].toNat ≤ 244) (h3 : i + 4 ≤ s.size) (b : ¬ s[i + 1].toNat / 64 = 2) (w : World) : Calls Tryz.prog 151 #[.string s, .int .i64 i] w fun e w' => e = .returned (.int .i64 0) ∧ w = w' := by
  have a0 := and7 ⟨s[i].toNat, UInt8.toNat_lt _⟩
  have c1 := and63 ⟨s[i + 1].toNat, UInt8.toNat_lt _⟩
  have d1 := and192 ⟨s[i + 1].toNat, UInt8.toNat_lt _⟩
  simp only [] at a0 c1 d1
  have e1 : ((s[i + 1].toNat : Int) / 64 * 64 != 128) = true := by simp; omega
  clear b
  go_enter Tryz.func151, Tryz.ntmps151
  go_wp2
  go_rounds 1
  go_ret
  exact ⟨rfl, rfl⟩
set_option maxRecDepth 100000 in
set_option maxHeartbeats 2000000 in
theorem sign_4_bad2 (s : ByteArray) (i : Nat) (hs : s.size ≤ 1000000000) (hi : i < s.size) (h1 : 240 ≤ s[i].toNat) (h2 : s[i].toNat ≤ 244) (h3 : i + 4 ≤ s.size) (g1 : s[i + 1].toNat / 64 = 2) (b : ¬ s[i + 2].toNat / 64 = 2) (w : World) : Calls Tryz.prog 151 #[.string s, .int .i64 i] w fun e w' => e = .returned (.int .i64 0) ∧ w = w' := by
  have a0 := and7 ⟨s[i].toNat, UInt8.toNat_lt _⟩
  have c1 := and63 ⟨s[i + 1].toNat, UInt8.toNat_lt _⟩
  have d1 := and192 ⟨s[i + 1].toNat, UInt8.toNat_lt _⟩
  have c2 := and63 ⟨s[i + 2].toNat, UInt8.toNat_lt _⟩
  have d2 := and192 ⟨s[i + 2].toNat, UInt8.toNat_lt _⟩
  simp only [] at a0 c1 d1 c2 d2
  have e1 : ((s[i + 1].toNat : Int) / 64 * 64 != 128) = false := by simp; omega
  have e2 : ((s[i + 2].toNat : Int) / 64 * 64 != 128) = true := by simp; omega
  clear b
  have o1 := or64i ((s[i].toNat : Int) % 8) ((s[i + 1].toNat : Int) % 64) (by omega) (by omega) (by omega) (by omega)
  obtain ⟨v1, hv1⟩ : ∃ v : Int, v = ((s[i].toNat : Int) % 8) * 64 + (s[i + 1].toNat : Int) % 64 := ⟨_, rfl⟩
  rw [← hv1] at o1
  have p1a : 0 ≤ v1 := by omega
  have p1b : v1 < 2097152 := by omega
  clear hv1
  go_enter Tryz.func151, Tryz.ntmps151
  go_wp2
  go_rounds 2
  go_ret
  exact ⟨rfl, rfl⟩
set_option maxRecDepth 100000 in
set_option maxHeartbeats 2000000 in
theorem sign_4_bad3 (s : ByteArray) (i : Nat) (hs : s.size ≤ 1000000000) (hi : i < s.size) (h1 : 240 ≤ s[i].toNat) (h2 : s[i].toNat ≤ 244) (h3 : i + 4 ≤ s.size) (g1 : s[i + 1].toNat / 64 = 2) (g2 : s[i + 2].toNat / 64 = 2) (b : ¬ s[i + 3].toNat / 64 = 2) (w : World) : Calls Tryz.prog 151 #[.string s, .int .i64 i] w fun e w' => e = .returned (.int .i64 0) ∧ w = w' := by
  have a0 := and7 ⟨s[i].toNat, UInt8.toNat_lt _⟩
  have c1 := and63 ⟨s[i + 1].toNat, UInt8.toNat_lt _⟩
  have d1 := and192 ⟨s[i + 1].toNat, UInt8.toNat_lt _⟩
  have c2 := and63 ⟨s[i + 2].toNat, UInt8.toNat_lt _⟩
  have d2 := and192 ⟨s[i + 2].toNat, UInt8.toNat_lt _⟩
  have c3 := and63 ⟨s[i + 3].toNat, UInt8.toNat_lt _⟩
  have d3 := and192 ⟨s[i + 3].toNat, UInt8.toNat_lt _⟩
  simp only [] at a0 c1 d1 c2 d2 c3 d3
  have e1 : ((s[i + 1].toNat : Int) / 64 * 64 != 128) = false := by simp; omega
  have e2 : ((s[i + 2].toNat : Int) / 64 * 64 != 128) = false := by simp; omega
  have e3 : ((s[i + 3].toNat : Int) / 64 * 64 != 128) = true := by simp; omega
  clear b
  have o1 := or64i ((s[i].toNat : Int) % 8) ((s[i + 1].toNat : Int) % 64) (by omega) (by omega) (by omega) (by omega)
  obtain ⟨v1, hv1⟩ : ∃ v : Int, v = ((s[i].toNat : Int) % 8) * 64 + (s[i + 1].toNat : Int) % 64 := ⟨_, rfl⟩
  rw [← hv1] at o1
  have o2 := or64i v1 ((s[i + 2].toNat : Int) % 64) (by omega) (by omega) (by omega) (by omega)
  obtain ⟨v2, hv2⟩ : ∃ v : Int, v = v1 * 64 + (s[i + 2].toNat : Int) % 64 := ⟨_, rfl⟩
  rw [← hv2] at o2
  have p1a : 0 ≤ v1 := by omega
  have p1b : v1 < 2097152 := by omega
  have p2a : 0 ≤ v2 := by omega
  have p2b : v2 < 2097152 := by omega
  clear hv1 hv2
  go_enter Tryz.func151, Tryz.ntmps151
  go_wp2
  go_rounds 3
  go_ret
  exact ⟨rfl, rfl⟩
set_option maxRecDepth 100000 in
set_option maxHeartbeats 2000000 in
theorem sign_4_low (s : ByteArray) (i : Nat) (hs : s.size ≤ 1000000000) (hi : i < s.size) (h1 : 240 ≤ s[i].toNat) (h2 : s[i].toNat ≤ 244) (h3 : i + 4 ≤ s.size) (g1 : s[i + 1].toNat / 64 = 2) (g2 : s[i + 2].toNat / 64 = 2) (g3 : s[i + 3].toNat / 64 = 2) (q : (s[i].toNat % 8 * 262144 + s[i + 1].toNat % 64 * 4096 + s[i + 2].toNat % 64 * 64 + s[i + 3].toNat % 64) < 65536) (w : World) : Calls Tryz.prog 151 #[.string s, .int .i64 i] w fun e w' => e = .returned (.int .i64 0) ∧ w = w' := by
  have a0 := and7 ⟨s[i].toNat, UInt8.toNat_lt _⟩
  have c1 := and63 ⟨s[i + 1].toNat, UInt8.toNat_lt _⟩
  have d1 := and192 ⟨s[i + 1].toNat, UInt8.toNat_lt _⟩
  have c2 := and63 ⟨s[i + 2].toNat, UInt8.toNat_lt _⟩
  have d2 := and192 ⟨s[i + 2].toNat, UInt8.toNat_lt _⟩
  have c3 := and63 ⟨s[i + 3].toNat, UInt8.toNat_lt _⟩
  have d3 := and192 ⟨s[i + 3].toNat, UInt8.toNat_lt _⟩
  simp only [] at a0 c1 d1 c2 d2 c3 d3
  have e1 : ((s[i + 1].toNat : Int) / 64 * 64 != 128) = false := by simp; omega
  have e2 : ((s[i + 2].toNat : Int) / 64 * 64 != 128) = false := by simp; omega
  have e3 : ((s[i + 3].toNat : Int) / 64 * 64 != 128) = false := by simp; omega
  have o1 := or64i ((s[i].toNat : Int) % 8) ((s[i + 1].toNat : Int) % 64) (by omega) (by omega) (by omega) (by omega)
  obtain ⟨v1, hv1⟩ : ∃ v : Int, v = ((s[i].toNat : Int) % 8) * 64 + (s[i + 1].toNat : Int) % 64 := ⟨_, rfl⟩
  rw [← hv1] at o1
  have o2 := or64i v1 ((s[i + 2].toNat : Int) % 64) (by omega) (by omega) (by omega) (by omega)
  obtain ⟨v2, hv2⟩ : ∃ v : Int, v = v1 * 64 + (s[i + 2].toNat : Int) % 64 := ⟨_, rfl⟩
  rw [← hv2] at o2
  have o3 := or64i v2 ((s[i + 3].toNat : Int) % 64) (by omega) (by omega) (by omega) (by omega)
  obtain ⟨v3, hv3⟩ : ∃ v : Int, v = v2 * 64 + (s[i + 3].toNat : Int) % 64 := ⟨_, rfl⟩
  rw [← hv3] at o3
  have p1a : 0 ≤ v1 := by omega
  have p1b : v1 < 2097152 := by omega
  have p2a : 0 ≤ v2 := by omega
  have p2b : v2 < 2097152 := by omega
  have p3a : 0 ≤ v3 := by omega
  have p3b : v3 < 2097152 := by omega
  have f0 : v3 < 65536 := by omega
  clear hv1 hv2 hv3
  go_enter Tryz.func151, Tryz.ntmps151
  go_wp2
  go_rounds 4
  go_ret
  exact ⟨rfl, rfl⟩
set_option maxRecDepth 100000 in
set_option maxHeartbeats 2000000 in
theorem sign_4_high (s : ByteArray) (i : Nat) (hs : s.size ≤ 1000000000) (hi : i < s.size) (h1 : 240 ≤ s[i].toNat) (h2 : s[i].toNat ≤ 244) (h3 : i + 4 ≤ s.size) (g1 : s[i + 1].toNat / 64 = 2) (g2 : s[i + 2].toNat / 64 = 2) (g3 : s[i + 3].toNat / 64 = 2) (q : 1114111 < (s[i].toNat % 8 * 262144 + s[i + 1].toNat % 64 * 4096 + s[i + 2].toNat % 64 * 64 + s[i + 3].toNat % 64)) (w : World) : Calls Tryz.prog 151 #[.string s, .int .i64 i] w fun e w' => e = .returned (.int .i64 0) ∧ w = w' := by
  have a0 := and7 ⟨s[i].toNat, UInt8.toNat_lt _⟩
  have c1 := and63 ⟨s[i + 1].toNat, UInt8.toNat_lt _⟩
  have d1 := and192 ⟨s[i + 1].toNat, UInt8.toNat_lt _⟩
  have c2 := and63 ⟨s[i + 2].toNat, UInt8.toNat_lt _⟩
  have d2 := and192 ⟨s[i + 2].toNat, UInt8.toNat_lt _⟩
  have c3 := and63 ⟨s[i + 3].toNat, UInt8.toNat_lt _⟩
  have d3 := and192 ⟨s[i + 3].toNat, UInt8.toNat_lt _⟩
  simp only [] at a0 c1 d1 c2 d2 c3 d3
  have e1 : ((s[i + 1].toNat : Int) / 64 * 64 != 128) = false := by simp; omega
  have e2 : ((s[i + 2].toNat : Int) / 64 * 64 != 128) = false := by simp; omega
  have e3 : ((s[i + 3].toNat : Int) / 64 * 64 != 128) = false := by simp; omega
  have o1 := or64i ((s[i].toNat : Int) % 8) ((s[i + 1].toNat : Int) % 64) (by omega) (by omega) (by omega) (by omega)
  obtain ⟨v1, hv1⟩ : ∃ v : Int, v = ((s[i].toNat : Int) % 8) * 64 + (s[i + 1].toNat : Int) % 64 := ⟨_, rfl⟩
  rw [← hv1] at o1
  have o2 := or64i v1 ((s[i + 2].toNat : Int) % 64) (by omega) (by omega) (by omega) (by omega)
  obtain ⟨v2, hv2⟩ : ∃ v : Int, v = v1 * 64 + (s[i + 2].toNat : Int) % 64 := ⟨_, rfl⟩
  rw [← hv2] at o2
  have o3 := or64i v2 ((s[i + 3].toNat : Int) % 64) (by omega) (by omega) (by omega) (by omega)
  obtain ⟨v3, hv3⟩ : ∃ v : Int, v = v2 * 64 + (s[i + 3].toNat : Int) % 64 := ⟨_, rfl⟩
  rw [← hv3] at o3
  have p1a : 0 ≤ v1 := by omega
  have p1b : v1 < 2097152 := by omega
  have p2a : 0 ≤ v2 := by omega
  have p2b : v2 < 2097152 := by omega
  have p3a : 0 ≤ v3 := by omega
  have p3b : v3 < 2097152 := by omega
  have f0 : 1114111 < v3 := by omega
  clear hv1 hv2 hv3
  go_enter Tryz.func151, Tryz.ntmps151
  go_wp2
  go_rounds 4
  go_ret
  exact ⟨rfl, rfl⟩
set_option maxRecDepth 100000 in
set_option maxHeartbeats 2000000 in
theorem sign_4_ok (s : ByteArray) (i : Nat) (hs : s.size ≤ 1000000000) (hi : i < s.size) (h1 : 240 ≤ s[i].toNat) (h2 : s[i].toNat ≤ 244) (h3 : i + 4 ≤ s.size) (g1 : s[i + 1].toNat / 64 = 2) (g2 : s[i + 2].toNat / 64 = 2) (g3 : s[i + 3].toNat / 64 = 2) (q1 : 65536 ≤ (s[i].toNat % 8 * 262144 + s[i + 1].toNat % 64 * 4096 + s[i + 2].toNat % 64 * 64 + s[i + 3].toNat % 64)) (q2 : (s[i].toNat % 8 * 262144 + s[i + 1].toNat % 64 * 4096 + s[i + 2].toNat % 64 * 64 + s[i + 3].toNat % 64) ≤ 1114111) (w : World) : Calls Tryz.prog 151 #[.string s, .int .i64 i] w fun e w' => e = .returned (.int .i64 4) ∧ w = w' := by
  have a0 := and7 ⟨s[i].toNat, UInt8.toNat_lt _⟩
  have c1 := and63 ⟨s[i + 1].toNat, UInt8.toNat_lt _⟩
  have d1 := and192 ⟨s[i + 1].toNat, UInt8.toNat_lt _⟩
  have c2 := and63 ⟨s[i + 2].toNat, UInt8.toNat_lt _⟩
  have d2 := and192 ⟨s[i + 2].toNat, UInt8.toNat_lt _⟩
  have c3 := and63 ⟨s[i + 3].toNat, UInt8.toNat_lt _⟩
  have d3 := and192 ⟨s[i + 3].toNat, UInt8.toNat_lt _⟩
  simp only [] at a0 c1 d1 c2 d2 c3 d3
  have e1 : ((s[i + 1].toNat : Int) / 64 * 64 != 128) = false := by simp; omega
  have e2 : ((s[i + 2].toNat : Int) / 64 * 64 != 128) = false := by simp; omega
  have e3 : ((s[i + 3].toNat : Int) / 64 * 64 != 128) = false := by simp; omega
  have o1 := or64i ((s[i].toNat : Int) % 8) ((s[i + 1].toNat : Int) % 64) (by omega) (by omega) (by omega) (by omega)
  obtain ⟨v1, hv1⟩ : ∃ v : Int, v = ((s[i].toNat : Int) % 8) * 64 + (s[i + 1].toNat : Int) % 64 := ⟨_, rfl⟩
  rw [← hv1] at o1
  have o2 := or64i v1 ((s[i + 2].toNat : Int) % 64) (by omega) (by omega) (by omega) (by omega)
  obtain ⟨v2, hv2⟩ : ∃ v : Int, v = v1 * 64 + (s[i + 2].toNat : Int) % 64 := ⟨_, rfl⟩
  rw [← hv2] at o2
  have o3 := or64i v2 ((s[i + 3].toNat : Int) % 64) (by omega) (by omega) (by omega) (by omega)
  obtain ⟨v3, hv3⟩ : ∃ v : Int, v = v2 * 64 + (s[i + 3].toNat : Int) % 64 := ⟨_, rfl⟩
  rw [← hv3] at o3
  have p1a : 0 ≤ v1 := by omega
  have p1b : v1 < 2097152 := by omega
  have p2a : 0 ≤ v2 := by omega
  have p2b : v2 < 2097152 := by omega
  have p3a : 0 ≤ v3 := by omega
  have p3b : v3 < 2097152 := by omega
  have f0 : 65536 ≤ v3 := by omega
  have f1 : v3 ≤ 1114111 := by omega
  clear hv1 hv2 hv3
  go_enter Tryz.func151, Tryz.ntmps151
  go_wp2
  go_rounds 4
  go_ret
  exact ⟨rfl, rfl⟩

theorem sgn_at (s : ByteArray) (i : Nat) : sgn (s.data.toList.drop i) = signN (s.size - i) (bt s.data.toList i) (bt s.data.toList (i + 1)) (bt s.data.toList (i + 2)) (bt s.data.toList (i + 3)) := by
  unfold sgn
  rw [bt_drop, bt_drop, bt_drop, bt_drop, List.length_drop]
  simp

theorem sign_calls (s : ByteArray) (i : Nat) (hs : s.size ≤ 1000000000) (hi : i < s.size) (w : World) : Calls Tryz.prog 151 #[.string s, .int .i64 i] w fun e w' => e = .returned (.int .i64 (sgn (s.data.toList.drop i))) ∧ w = w' := by
  rw [sgn_at, bt_self s i hi]
  by_cases ca : s[i].toNat < 128
  · rw [show signN (s.size - i) s[i].toNat (bt s.data.toList (i + 1)) (bt s.data.toList (i + 2)) (bt s.data.toList (i + 3)) = 1 by rw [signN, if_pos ca]]
    exact sign_a s i hs hi ca w
  by_cases cb : 194 ≤ s[i].toNat ∧ s[i].toNat ≤ 223
  · by_cases h3 : i + 2 ≤ s.size
    · rw [bt_self s (i + 1) (by omega)]
      by_cases g1 : s[i + 1].toNat / 64 = 2
      · rw [show signN (s.size - i) s[i].toNat s[i + 1].toNat (bt s.data.toList (i + 2)) (bt s.data.toList (i + 3)) = 2 by rw [signN, if_neg ca, if_pos cb, if_pos ⟨by omega, g1⟩]]
        exact sign_2_ok s i hs hi cb.1 cb.2 h3 g1 w
      · rw [show signN (s.size - i) s[i].toNat s[i + 1].toNat (bt s.data.toList (i + 2)) (bt s.data.toList (i + 3)) = 0 by rw [signN, if_neg ca, if_pos cb, if_neg (by omega)]]
        exact sign_2_bad1 s i hs hi cb.1 cb.2 h3 g1 w
    · rw [show signN (s.size - i) s[i].toNat (bt s.data.toList (i + 1)) (bt s.data.toList (i + 2)) (bt s.data.toList (i + 3)) = 0 by rw [signN, if_neg ca, if_pos cb, if_neg (by omega)]]
      exact sign_2_short s i hs hi cb.1 cb.2 (by omega) w
  by_cases cc : 224 ≤ s[i].toNat ∧ s[i].toNat ≤ 239
  · by_cases h3 : i + 3 ≤ s.size
    · rw [bt_self s (i + 1) (by omega), bt_self s (i + 2) (by omega)]
      have e0 : ∀ r, (if (2 < s.size - i ∧ s[i + 1].toNat / 64 = 2 ∧ s[i + 2].toNat / 64 = 2) ∧ ¬ (s[i].toNat % 16 * 4096 + s[i + 1].toNat % 64 * 64 + s[i + 2].toNat % 64 < 2048) ∧ ¬ (55296 ≤ s[i].toNat % 16 * 4096 + s[i + 1].toNat % 64 * 64 + s[i + 2].toNat % 64 ∧ s[i].toNat % 16 * 4096 + s[i + 1].toNat % 64 * 64 + s[i + 2].toNat % 64 ≤ 57343) then 3 else 0) = r → signN (s.size - i) s[i].toNat s[i + 1].toNat s[i + 2].toNat (bt s.data.toList (i + 3)) = r := fun r h => by
        rw [signN, if_neg ca, if_neg cb, if_pos cc]; exact h
      by_cases g1 : s[i + 1].toNat / 64 = 2
      · by_cases g2 : s[i + 2].toNat / 64 = 2
        · by_cases q1 : s[i].toNat % 16 * 4096 + s[i + 1].toNat % 64 * 64 + s[i + 2].toNat % 64 < 2048
          · rw [e0 0 (if_neg (by omega))]; exact sign_3_low s i hs hi cc.1 cc.2 h3 g1 g2 q1 w
          · by_cases q2 : s[i].toNat % 16 * 4096 + s[i + 1].toNat % 64 * 64 + s[i + 2].toNat % 64 < 55296
            · rw [e0 3 (if_pos (by omega))]; exact sign_3_ok1 s i hs hi cc.1 cc.2 h3 g1 g2 (by omega) q2 w
            · by_cases q3 : s[i].toNat % 16 * 4096 + s[i + 1].toNat % 64 * 64 + s[i + 2].toNat % 64 ≤ 57343
              · rw [e0 0 (if_neg (by omega))]; exact sign_3_sur s i hs hi cc.1 cc.2 h3 g1 g2 (by omega) q3 w
              · rw [e0 3 (if_pos (by omega))]; exact sign_3_ok2 s i hs hi cc.1 cc.2 h3 g1 g2 (by omega) w
        · rw [e0 0 (if_neg (by omega))]; exact sign_3_bad2 s i hs hi cc.1 cc.2 h3 g1 g2 w
      · rw [e0 0 (if_neg (by omega))]; exact sign_3_bad1 s i hs hi cc.1 cc.2 h3 g1 w
    · rw [show signN (s.size - i) s[i].toNat (bt s.data.toList (i + 1)) (bt s.data.toList (i + 2)) (bt s.data.toList (i + 3)) = 0 by rw [signN, if_neg ca, if_neg cb, if_pos cc, if_neg (by omega)]]
      exact sign_3_short s i hs hi cc.1 cc.2 (by omega) w
  by_cases cd : 240 ≤ s[i].toNat ∧ s[i].toNat ≤ 244
  · by_cases h3 : i + 4 ≤ s.size
    · rw [bt_self s (i + 1) (by omega), bt_self s (i + 2) (by omega), bt_self s (i + 3) (by omega)]
      have e0 : ∀ r, (if (3 < s.size - i ∧ s[i + 1].toNat / 64 = 2 ∧ s[i + 2].toNat / 64 = 2 ∧ s[i + 3].toNat / 64 = 2) ∧ ¬ (s[i].toNat % 8 * 262144 + s[i + 1].toNat % 64 * 4096 + s[i + 2].toNat % 64 * 64 + s[i + 3].toNat % 64 < 65536) ∧ ¬ (1114111 < s[i].toNat % 8 * 262144 + s[i + 1].toNat % 64 * 4096 + s[i + 2].toNat % 64 * 64 + s[i + 3].toNat % 64) then 4 else 0) = r → signN (s.size - i) s[i].toNat s[i + 1].toNat s[i + 2].toNat s[i + 3].toNat = r := fun r h => by
        rw [signN, if_neg ca, if_neg cb, if_neg cc, if_pos cd]; exact h
      by_cases g1 : s[i + 1].toNat / 64 = 2
      · by_cases g2 : s[i + 2].toNat / 64 = 2
        · by_cases g3 : s[i + 3].toNat / 64 = 2
          · by_cases q1 : s[i].toNat % 8 * 262144 + s[i + 1].toNat % 64 * 4096 + s[i + 2].toNat % 64 * 64 + s[i + 3].toNat % 64 < 65536
            · rw [e0 0 (if_neg (by omega))]; exact sign_4_low s i hs hi cd.1 cd.2 h3 g1 g2 g3 q1 w
            · by_cases q2 : 1114111 < s[i].toNat % 8 * 262144 + s[i + 1].toNat % 64 * 4096 + s[i + 2].toNat % 64 * 64 + s[i + 3].toNat % 64
              · rw [e0 0 (if_neg (by omega))]; exact sign_4_high s i hs hi cd.1 cd.2 h3 g1 g2 g3 q2 w
              · rw [e0 4 (if_pos (by omega))]; exact sign_4_ok s i hs hi cd.1 cd.2 h3 g1 g2 g3 (by omega) (by omega) w
          · rw [e0 0 (if_neg (by omega))]; exact sign_4_bad3 s i hs hi cd.1 cd.2 h3 g1 g2 g3 w
        · rw [e0 0 (if_neg (by omega))]; exact sign_4_bad2 s i hs hi cd.1 cd.2 h3 g1 g2 w
      · rw [e0 0 (if_neg (by omega))]; exact sign_4_bad1 s i hs hi cd.1 cd.2 h3 g1 w
    · rw [show signN (s.size - i) s[i].toNat (bt s.data.toList (i + 1)) (bt s.data.toList (i + 2)) (bt s.data.toList (i + 3)) = 0 by rw [signN, if_neg ca, if_neg cb, if_neg cc, if_pos cd, if_neg (by omega)]]
      exact sign_4_short s i hs hi cd.1 cd.2 (by omega) w
  · rw [show signN (s.size - i) s[i].toNat (bt s.data.toList (i + 1)) (bt s.data.toList (i + 2)) (bt s.data.toList (i + 3)) = 0 by rw [signN, if_neg ca, if_neg cb, if_neg cc, if_neg cd]]
    exact sign_e s i hs hi (by omega) w

end Go.Proofs.YtogjokofmfpmgaaGreatDoor
namespace Go.Proofs.YtogjokofmfpmgaaGreatDoor
open Go.RowKit

/-- A block with cells that may be written. -/
def Row8 (w : World) (g : Nat) (cs : Array Value) (N : Nat) : Prop := w.heap[g]? = some (.cells cs 5 (N, N + 1)) ∧ cs.size = N
section
variable {w w' : World} {g N : Nat} {cs : Array Value}
theorem Row8.lt (h : Row8 w g cs N) : g < w.heap.size := by
  rcases Nat.lt_or_ge g w.heap.size with hlt | hge
  · exact hlt
  · have := h.1; rw [Array.getElem?_eq_none hge] at this; cases this
theorem Row8.at_ (h : Row8 w g cs N) (i : Nat) {v : Value} (hv : cs[i]? = some v) : w.cell? ⟨g, i, none⟩ = some v := (cell_of_row w g i cs 5 (N, N + 1) h.1).trans hv
theorem Row8.free (h : Row8 w g cs N) (i : Nat) (hi : i < N) : w.frozen? ⟨g, i, none⟩ = false := by
  simp [World.frozen?, h.1]
  omega
theorem Row8.set_ (h : Row8 w g cs N) (i : Nat) (u : Value) : Row8 (w.setCell ⟨g, i, none⟩ u) g (cs.setIfInBounds i u) N := by
  refine ⟨?_, by simp [h.2]⟩
  have := h.1
  simp [World.setCell, Array.getElem?_modify, this]
end
/-- The cells of some bytes. -/
def Holds8 (cs : Array Value) (l : List UInt8) : Prop := ∀ j, j < l.length → cs[j]? = some (.int .u8 (bt l j))
theorem holds8_set {cs : Array Value} {l : List UInt8} (h : Holds8 cs l) (hl : l.length ≤ cs.size) (k : Nat) (hk : k < l.length) (c : UInt8) (n : Int) (hn : n = c.toNat) : Holds8 (cs.setIfInBounds k (.int .u8 n)) (l.set k c) := by
  intro j hj
  simp only [List.length_set] at hj
  subst hn
  by_cases e : j = k
  · subst e
    simp [bt, List.getD_eq_getElem?_getD, hj, show j < cs.size by omega]
  · have := h j hj
    rw [Array.getElem?_setIfInBounds_ne (fun e' => e e'.symm), this]
    simp [bt, List.getD_eq_getElem?_getD, List.getElem?_set, show ¬ k = j from fun e' => e e'.symm]
/-- The first k signs as small ones. -/
def foldK (l : List UInt8) (k : Nat) : List UInt8 := (l.take k).map lowU ++ l.drop k
theorem foldK_len (l : List UInt8) (k : Nat) : (foldK l k).length = l.length := by simp [foldK]; omega
theorem foldK_all (l : List UInt8) (k : Nat) (h : l.length ≤ k) : foldK l k = foldL l := by
  rw [foldK, List.take_of_length_le h, List.drop_of_length_le h, List.append_nil, foldL]
theorem foldK_zero (l : List UInt8) : foldK l 0 = l := by simp [foldK]
theorem foldK_next (l : List UInt8) (k : Nat) (h : k < l.length) : foldK l (k + 1) = (foldK l k).set k (lowU l[k]) := by
  have e : l.drop k = l[k] :: l.drop (k + 1) := List.drop_eq_getElem_cons h
  unfold foldK
  rw [List.take_succ_eq_append_getElem h, e, List.map_append]
  rw [List.set_append_right _ _ (by simp; omega), show k - ((l.take k).map lowU).length = 0 by simp; omega, List.append_assoc]
  rfl
theorem foldK_at (l : List UInt8) (k : Nat) (h : k < l.length) : bt (foldK l k) k = bt l k := by
  unfold foldK bt
  simp only [List.getD_eq_getElem?_getD]
  rw [List.getElem?_append_right (by simp; omega)]
  simp [show k - min k l.length = 0 by omega, h]
theorem foldK_same (l : List UInt8) (k : Nat) (h : k < l.length) (hu : lowU l[k] = l[k]) : foldK l (k + 1) = foldK l k := by
  have e : l.drop k = l[k] :: l.drop (k + 1) := List.drop_eq_getElem_cons h
  rw [foldK_next l k h, hu]
  unfold foldK
  rw [e, List.set_append_right _ _ (by simp; omega), show k - ((l.take k).map lowU).length = 0 by simp; omega]
  rfl
theorem lowU_up (c : UInt8) (h : 65 ≤ c.toNat ∧ c.toNat ≤ 90) : ((lowU c).toNat : Int) = (c.toNat : Int) + 32 := by
  rw [lowU, if_pos h, UInt8.toNat_add, show (32 : UInt8).toNat = 32 from rfl]
  omega
theorem lowU_no (c : UInt8) (h : ¬ (65 ≤ c.toNat ∧ c.toNat ≤ 90)) : lowU c = c := by rw [lowU, if_neg h]

theorem bt_list (l : List UInt8) (j : Nat) (h : j < l.length) : bt l j = l[j].toNat := by simp [bt, List.getD_eq_getElem?_getD, h]
theorem bytesRow_size (s : ByteArray) (n : Nat) (h : s.size ≤ n) : (bytesRow s n).size = n := by
  have : s.data.size = s.size := rfl
  simp [bytesRow]; omega
theorem bytesRow_holds (s : ByteArray) (n : Nat) : Holds8 (bytesRow s n) s.data.toList := by
  intro j hj
  have hj' : j < s.data.size := by simpa using hj
  rw [bt_list _ j hj, bytesRow, Array.getElem?_append_left (by simpa using hj')]
  simp only [Array.getElem?_map, Array.getElem?_eq_getElem hj', Option.map_some, Array.getElem_toList]
theorem bdrew {B : Nat} {a w : World} (h : Below B a w) : Below B a w.drew := ⟨h.os, h.tape, h.output, h.size, h.block⟩

set_option maxHeartbeats 1000000 in
theorem fold_calls (s : ByteArray) (hs : s.size ≤ 1000000000) (w : World) : Calls Tryz.prog 157 #[.string s] w fun e w' => e = .returned (.string (bs (foldL s.data.toList))) ∧ Below w.heap.size w w' := by
  have hcv := run_bytes_of_string (P := Tryz.prog) w 9 27 5 s Tryz.underlying9 Tryz.underlying27 Tryz.underlying5
  have hge := grownCap_ge w s.size 0 5
  obtain ⟨cap, hcap⟩ : ∃ c, grownCap w s.size 0 5 = c := ⟨_, rfl⟩
  rw [hcap] at hcv hge
  clear hcap
  have hN : (bytesRow s cap).size = cap := bytesRow_size s cap hge
  have hH := bytesRow_holds s cap
  obtain ⟨C, hC⟩ : ∃ C, bytesRow s cap = C := ⟨_, rfl⟩
  rw [hC] at hcv hN hH
  clear hC
  have HL := hd (show s.data.toList.length = s.size by simp)
  have HN := hd hN
  rw [hN] at hcv
  clear hN
  have HH := hd hH
  clear hH
  go_enter Tryz.func157, Tryz.ntmps157
  go_wp2
  obtain ⟨X, hX⟩ : ∃ X, X = (w.alloc (.cells C 5 (cap, cap + 1))).drew := ⟨_, rfl⟩
  rw [← hX]
  have kX : Row8 X w.heap.size C cap := by
    rw [hX]; exact ⟨heap_alloc_new w _, HN.o⟩
  have bX : Below w.heap.size w X := by rw [hX]; exact bdrew ((Below.refl _ w).alloc (Nat.le_refl _) _)
  have KX := hd kX
  have BX := hd bX
  clear hX kX bX hcv
  go_loopw [10, 4, 5] (fun i _ _ wr => ∃ (k : Nat) (cs : Array Value), i = .int .i64 k ∧ k ≤ s.size ∧ Row8 wr w.heap.size cs cap ∧ Hd (Holds8 cs (foldK s.data.toList k)) ∧ Below w.heap.size w wr) (fun i _ _ _ => s.size - (intOf i).toNat)
  case atStart => exact ⟨0, C, rfl, Nat.zero_le _, KX.o, hd (by rw [foldK_zero]; exact HH.o), BX.o⟩
  case round =>
    obtain ⟨k, cs, rfl, hk, hr, hh, hb⟩ := hrel
    by_cases hlt : k < s.size
    · have hkl : k < s.data.toList.length := by rw [HL.o]; exact hlt
      have hc := hr.at_ k (hh.o k (by rw [foldK_len]; exact hkl))
      rw [foldK_at _ k hkl, bt_self s k hlt] at hc
      have hf := hr.free k (by omega)
      have hlb := hr.lt
      have hki : (0 : Int) ≤ (k : Int) := by omega
      have hkc : k < cap := by omega
      by_cases hu : 65 ≤ s[k].toNat ∧ s[k].toNat ≤ 90
      · have HU := hd (lowU_up s[k] hu)
        obtain ⟨hu1, hu2⟩ := hu
        go_wp2
        go_roundw
        case rel =>
          refine ⟨k + 1, _, by go_num, by omega, hr.set_ k _, ?_, hb.setCell (Nat.le_refl _) _⟩
          rw [foldK_next _ k hkl]
          exact holds8_set hh.o (by rw [foldK_len, HL.o, hr.2]; omega) k (by rw [foldK_len]; exact hkl) _ _ HU.o.symm
        case measure => simp [intOf]; omega
      · have HU := hd (foldK_same _ k hkl (lowU_no _ hu))
        go_wp2
        all_goals first
          | (exfalso; omega)
          | (go_roundw
             case rel => exact ⟨k + 1, cs, by go_num, by omega, hr, hd (by rw [HU.o]; exact hh.o), hb⟩
             case measure => simp [intOf]; omega)
    · have hke : k = s.size := by omega
      subst hke
      have hall : foldK s.data.toList s.size = foldL s.data.toList := foldK_all _ _ (by rw [HL.o]; exact Nat.le_refl _)
      have hlen : (foldL s.data.toList).length = s.size := by rw [foldL, List.length_map, HL.o]
      rw [hall] at hh
      have hv := run_convert_bytes_back (P := Tryz.prog) wr 27 9 5 ⟨w.heap.size, 0, none⟩ cap (foldL s.data.toList) Tryz.underlying27 Tryz.underlying5 Tryz.underlying9 (fun j hj => by
        have := hr.at_ j (hh.o j hj)
        rw [bt_list _ j hj] at this
        have hp : (⟨w.heap.size, 0, none⟩ : Addr).add j = ⟨w.heap.size, j, none⟩ := by unfold Addr.add; split <;> simp_all
        rw [hp]; exact this)
      rw [hlen] at hv
      clear hall hlen
      go_wp2
      go_ret
      exact ⟨rfl, hb⟩

set_option maxHeartbeats 1000000 in
theorem rfold_calls (s : ByteArray) (hs : s.size ≤ 1000000000) (w : World) : Calls Tryz.prog 149 #[.string s] w fun e w' => e = .returned (.string (bs (foldL s.data.toList))) ∧ Below w.heap.size w w' := by
  have hcv := run_bytes_of_string (P := Tryz.prog) w 9 27 5 s Tryz.underlying9 Tryz.underlying27 Tryz.underlying5
  have hge := grownCap_ge w s.size 0 5
  obtain ⟨cap, hcap⟩ : ∃ c, grownCap w s.size 0 5 = c := ⟨_, rfl⟩
  rw [hcap] at hcv hge
  clear hcap
  have hN : (bytesRow s cap).size = cap := bytesRow_size s cap hge
  have hH := bytesRow_holds s cap
  obtain ⟨C, hC⟩ : ∃ C, bytesRow s cap = C := ⟨_, rfl⟩
  rw [hC] at hcv hN hH
  clear hC
  have HL := hd (show s.data.toList.length = s.size by simp)
  have HN := hd hN
  rw [hN] at hcv
  clear hN
  have HH := hd hH
  clear hH
  go_enter Tryz.func149, Tryz.ntmps149
  go_wp2
  obtain ⟨X, hX⟩ : ∃ X, X = (w.alloc (.cells C 5 (cap, cap + 1))).drew := ⟨_, rfl⟩
  rw [← hX]
  have kX : Row8 X w.heap.size C cap := by
    rw [hX]; exact ⟨heap_alloc_new w _, HN.o⟩
  have bX : Below w.heap.size w X := by rw [hX]; exact bdrew ((Below.refl _ w).alloc (Nat.le_refl _) _)
  have KX := hd kX
  have BX := hd bX
  clear hX kX bX hcv
  go_loopw [4] (fun i wr => ∃ (k : Nat) (cs : Array Value), i = .int .i64 k ∧ k ≤ s.size ∧ Row8 wr w.heap.size cs cap ∧ Hd (Holds8 cs (foldK s.data.toList k)) ∧ Below w.heap.size w wr) (fun i _ => s.size - (intOf i).toNat)
  case atStart => exact ⟨0, C, rfl, Nat.zero_le _, KX.o, hd (by rw [foldK_zero]; exact HH.o), BX.o⟩
  case round =>
    obtain ⟨k, cs, rfl, hk, hr, hh, hb⟩ := hrel
    by_cases hlt : k < s.size
    · have hkl : k < s.data.toList.length := by rw [HL.o]; exact hlt
      have hc := hr.at_ k (hh.o k (by rw [foldK_len]; exact hkl))
      rw [foldK_at _ k hkl, bt_self s k hlt] at hc
      have hf := hr.free k (by omega)
      have hlb := hr.lt
      have hki : (0 : Int) ≤ (k : Int) := by omega
      have hkc : k < cap := by omega
      by_cases hu : 65 ≤ s[k].toNat ∧ s[k].toNat ≤ 90
      · have HU := hd (lowU_up s[k] hu)
        obtain ⟨hu1, hu2⟩ := hu
        go_wp2_with (go_at_call 92; refine (up_calls _ _).mono ?_; rintro e w' ⟨rfl, rfl⟩)
        go_roundw
        case rel =>
          refine ⟨k + 1, _, by go_num, by omega, hr.set_ k _, ?_, hb.setCell (Nat.le_refl _) _⟩
          rw [foldK_next _ k hkl]
          exact holds8_set hh.o (by rw [foldK_len, HL.o, hr.2]; omega) k (by rw [foldK_len]; exact hkl) _ _ HU.o.symm
        case measure => simp [intOf]; omega
      · have HU := hd (foldK_same _ k hkl (lowU_no _ hu))
        go_wp2_with (go_at_call 92; refine (up_calls _ _).mono ?_; rintro e w' ⟨rfl, rfl⟩)
        all_goals first
          | (exfalso; omega)
          | (go_roundw
             case rel => exact ⟨k + 1, cs, by go_num, by omega, hr, hd (by rw [HU.o]; exact hh.o), hb⟩
             case measure => simp [intOf]; omega)
    · have hke : k = s.size := by omega
      subst hke
      have hall : foldK s.data.toList s.size = foldL s.data.toList := foldK_all _ _ (by rw [HL.o]; exact Nat.le_refl _)
      have hlen : (foldL s.data.toList).length = s.size := by rw [foldL, List.length_map, HL.o]
      rw [hall] at hh
      have hv := run_convert_bytes_back (P := Tryz.prog) wr 27 9 5 ⟨w.heap.size, 0, none⟩ cap (foldL s.data.toList) Tryz.underlying27 Tryz.underlying5 Tryz.underlying9 (fun j hj => by
        have := hr.at_ j (hh.o j hj)
        rw [bt_list _ j hj] at this
        have hp : (⟨w.heap.size, 0, none⟩ : Addr).add j = ⟨w.heap.size, j, none⟩ := by unfold Addr.add; split <;> simp_all
        rw [hp]; exact this)
      rw [hlen] at hv
      clear hall hlen
      go_wp2
      go_ret
      exact ⟨rfl, hb⟩

end Go.Proofs.YtogjokofmfpmgaaGreatDoor
namespace Go.Proofs.YtogjokofmfpmgaaGreatDoor
open Go.Shelf
def laysM144_ren : Go.Shelf.Ren := ⟨fun | 144 => 200 | 143 => 204 | 219 => 121 | 217 => 136 | 225 => 137 | 224 => 138 | 267 => 139 | 266 => 153 | 314 => 154 | n => n, fun | 9 => 9 | 4 => 4 | 3 => 3 | 5 => 5 | 46 => 110 | 146 => 172 | 51 => 171 | n => n, fun | 1 => 0 | n => n⟩
theorem laysM144 : Go.Proofs.LaysM.n144 Tryz.prog laysM144_ren := {
  mixed := by kernel_rfl
  f143 := Tryz.func204.trans (congrArg some (by kernel_rfl))
  f144 := Tryz.func200.trans (congrArg some (by kernel_rfl))
  f217 := Tryz.func136.trans (congrArg some (by kernel_rfl))
  f219 := Tryz.func121.trans (congrArg some (by kernel_rfl))
  f224 := Tryz.func138.trans (congrArg some (by kernel_rfl))
  f225 := Tryz.func137.trans (congrArg some (by kernel_rfl))
  f266 := Tryz.func153.trans (congrArg some (by kernel_rfl))
  f267 := Tryz.func139.trans (congrArg some (by kernel_rfl))
  f314 := Tryz.func154.trans (congrArg some (by kernel_rfl))
  t3 := Tryz.underlying3
  a3 := Tryz.isAgg3
  z3 := Tryz.sizeOf3
  v3 := Tryz.zeroValue3
  t4 := Tryz.underlying4
  a4 := Tryz.isAgg4
  z4 := Tryz.sizeOf4
  v4 := Tryz.zeroValue4
  t5 := Tryz.underlying5
  a5 := Tryz.isAgg5
  z5 := Tryz.sizeOf5
  v5 := Tryz.zeroValue5
  t9 := Tryz.underlying9
  a9 := Tryz.isAgg9
  z9 := Tryz.sizeOf9
  v9 := Tryz.zeroValue9
  t46 := Tryz.underlying110
  a46 := Tryz.isAgg110
  z46 := Tryz.sizeOf110
  v46 := Tryz.zeroValue110
  t51 := Tryz.underlying171
  a51 := Tryz.isAgg171
  z51 := Tryz.sizeOf171
  v51 := Tryz.zeroValue171
  t146 := Tryz.underlying172
  a146 := Tryz.isAgg172
  z146 := Tryz.sizeOf172
  v146 := Tryz.zeroValue172
  g1 := by kernel_rfl
  i3 := by kernel_rfl
  i4 := by kernel_rfl
  i5 := by kernel_rfl
  i9 := by kernel_rfl
  i46 := by kernel_rfl
  i51 := by kernel_rfl
  i146 := by kernel_rfl
  m1 := by kernel_rfl
  s1_3 := fun w h => Go.Proofs.cell_of_shapedOpen_int (zero := #[.int .i64 0]) (t := 3) h (of_decide_eq_true (by kernel_rfl)) (by kernel_rfl) rfl (by kernel_rfl) (by kernel_rfl) Tryz.underlying3 }
def laysM145_ren : Go.Shelf.Ren := ⟨fun | 145 => 104 | 220 => 112 | 219 => 121 | 217 => 136 | 225 => 137 | 224 => 138 | 267 => 139 | 266 => 153 | 314 => 154 | n => n, fun | 9 => 9 | 4 => 4 | 59 => 133 | 3 => 3 | 5 => 5 | 46 => 110 | 146 => 172 | 51 => 171 | n => n, fun | 1 => 0 | n => n⟩
theorem laysM145 : Go.Proofs.LaysM.n145 Tryz.prog laysM145_ren := {
  mixed := by kernel_rfl
  f145 := Tryz.func104.trans (congrArg some (by kernel_rfl))
  f217 := Tryz.func136.trans (congrArg some (by kernel_rfl))
  f219 := Tryz.func121.trans (congrArg some (by kernel_rfl))
  f220 := Tryz.func112.trans (congrArg some (by kernel_rfl))
  f224 := Tryz.func138.trans (congrArg some (by kernel_rfl))
  f225 := Tryz.func137.trans (congrArg some (by kernel_rfl))
  f266 := Tryz.func153.trans (congrArg some (by kernel_rfl))
  f267 := Tryz.func139.trans (congrArg some (by kernel_rfl))
  f314 := Tryz.func154.trans (congrArg some (by kernel_rfl))
  t3 := Tryz.underlying3
  a3 := Tryz.isAgg3
  z3 := Tryz.sizeOf3
  v3 := Tryz.zeroValue3
  t4 := Tryz.underlying4
  a4 := Tryz.isAgg4
  z4 := Tryz.sizeOf4
  v4 := Tryz.zeroValue4
  t5 := Tryz.underlying5
  a5 := Tryz.isAgg5
  z5 := Tryz.sizeOf5
  v5 := Tryz.zeroValue5
  t9 := Tryz.underlying9
  a9 := Tryz.isAgg9
  z9 := Tryz.sizeOf9
  v9 := Tryz.zeroValue9
  t46 := Tryz.underlying110
  a46 := Tryz.isAgg110
  z46 := Tryz.sizeOf110
  v46 := Tryz.zeroValue110
  t51 := Tryz.underlying171
  a51 := Tryz.isAgg171
  z51 := Tryz.sizeOf171
  v51 := Tryz.zeroValue171
  t59 := Tryz.underlying133
  a59 := Tryz.isAgg133
  z59 := Tryz.sizeOf133
  v59 := Tryz.zeroValue133
  t146 := Tryz.underlying172
  a146 := Tryz.isAgg172
  z146 := Tryz.sizeOf172
  v146 := Tryz.zeroValue172
  g1 := by kernel_rfl
  i3 := by kernel_rfl
  i4 := by kernel_rfl
  i5 := by kernel_rfl
  i9 := by kernel_rfl
  i46 := by kernel_rfl
  i51 := by kernel_rfl
  i59 := by kernel_rfl
  i146 := by kernel_rfl
  m1 := by kernel_rfl
  s1_3 := fun w h => Go.Proofs.cell_of_shapedOpen_int (zero := #[.int .i64 0]) (t := 3) h (of_decide_eq_true (by kernel_rfl)) (by kernel_rfl) rfl (by kernel_rfl) (by kernel_rfl) Tryz.underlying3 }
def laysM146_ren : Go.Shelf.Ren := ⟨fun | 146 => 193 | 221 => 201 | 268 => 205 | 138 => 206 | 143 => 204 | 195 => 208 | 197 => 209 | 218 => 210 | 219 => 121 | 260 => 215 | 217 => 136 | 225 => 137 | 224 => 138 | 267 => 139 | 266 => 153 | 314 => 154 | n => n, fun | 9 => 9 | 31 => 68 | 3 => 3 | 4 => 4 | 0 => 0 | 105 => 213 | 21 => 21 | 5 => 5 | 46 => 110 | 119 => 191 | 139 => 194 | 138 => 193 | 146 => 172 | 51 => 171 | n => n, fun | 1 => 0 | 3 => 1 | 4 => 2 | n => n⟩
theorem laysM146 : Go.Proofs.LaysM.n146 Tryz.prog laysM146_ren := {
  mixed := by kernel_rfl
  f138 := Tryz.func206.trans (congrArg some (by kernel_rfl))
  f143 := Tryz.func204.trans (congrArg some (by kernel_rfl))
  f146 := Tryz.func193.trans (congrArg some (by kernel_rfl))
  f195 := Tryz.func208.trans (congrArg some (by kernel_rfl))
  f197 := Tryz.func209.trans (congrArg some (by kernel_rfl))
  f217 := Tryz.func136.trans (congrArg some (by kernel_rfl))
  f218 := Tryz.func210.trans (congrArg some (by kernel_rfl))
  f219 := Tryz.func121.trans (congrArg some (by kernel_rfl))
  f221 := Tryz.func201.trans (congrArg some (by kernel_rfl))
  f224 := Tryz.func138.trans (congrArg some (by kernel_rfl))
  f225 := Tryz.func137.trans (congrArg some (by kernel_rfl))
  f260 := Tryz.func215.trans (congrArg some (by kernel_rfl))
  f266 := Tryz.func153.trans (congrArg some (by kernel_rfl))
  f267 := Tryz.func139.trans (congrArg some (by kernel_rfl))
  f268 := Tryz.func205.trans (congrArg some (by kernel_rfl))
  f314 := Tryz.func154.trans (congrArg some (by kernel_rfl))
  t0 := Tryz.underlying0
  a0 := Tryz.isAgg0
  z0 := Tryz.sizeOf0
  v0 := Tryz.zeroValue0
  t3 := Tryz.underlying3
  a3 := Tryz.isAgg3
  z3 := Tryz.sizeOf3
  v3 := Tryz.zeroValue3
  t4 := Tryz.underlying4
  a4 := Tryz.isAgg4
  z4 := Tryz.sizeOf4
  v4 := Tryz.zeroValue4
  t5 := Tryz.underlying5
  a5 := Tryz.isAgg5
  z5 := Tryz.sizeOf5
  v5 := Tryz.zeroValue5
  t9 := Tryz.underlying9
  a9 := Tryz.isAgg9
  z9 := Tryz.sizeOf9
  v9 := Tryz.zeroValue9
  t21 := Tryz.underlying21
  a21 := Tryz.isAgg21
  z21 := Tryz.sizeOf21
  v21 := Tryz.zeroValue21
  t31 := Tryz.underlying68
  a31 := Tryz.isAgg68
  z31 := Tryz.sizeOf68
  v31 := Tryz.zeroValue68
  t46 := Tryz.underlying110
  a46 := Tryz.isAgg110
  z46 := Tryz.sizeOf110
  v46 := Tryz.zeroValue110
  t51 := Tryz.underlying171
  a51 := Tryz.isAgg171
  z51 := Tryz.sizeOf171
  v51 := Tryz.zeroValue171
  t105 := Tryz.underlying213
  a105 := Tryz.isAgg213
  z105 := Tryz.sizeOf213
  v105 := Tryz.zeroValue213
  t119 := Tryz.underlying191
  a119 := Tryz.isAgg191
  z119 := Tryz.sizeOf191
  t138 := Tryz.underlying193
  a138 := Tryz.isAgg193
  z138 := Tryz.sizeOf193
  v138 := Tryz.zeroValue193
  t139 := Tryz.underlying194
  a139 := Tryz.isAgg194
  z139 := Tryz.sizeOf194
  v139 := Tryz.zeroValue194
  t146 := Tryz.underlying172
  a146 := Tryz.isAgg172
  z146 := Tryz.sizeOf172
  v146 := Tryz.zeroValue172
  g1 := by kernel_rfl
  g3 := by kernel_rfl
  g4 := by kernel_rfl
  i0 := by kernel_rfl
  i3 := by kernel_rfl
  i4 := by kernel_rfl
  i5 := by kernel_rfl
  i9 := by kernel_rfl
  i21 := by kernel_rfl
  i31 := by kernel_rfl
  i46 := by kernel_rfl
  i51 := by kernel_rfl
  i105 := by kernel_rfl
  i138 := by kernel_rfl
  i139 := by kernel_rfl
  i146 := by kernel_rfl
  m1 := by kernel_rfl
  s1_3 := fun w h => Go.Proofs.cell_of_shapedOpen_int (zero := #[.int .i64 0]) (t := 3) h (of_decide_eq_true (by kernel_rfl)) (by kernel_rfl) rfl (by kernel_rfl) (by kernel_rfl) Tryz.underlying3
  m3 := by kernel_rfl
  m4 := by kernel_rfl }
def lays149_ren : Go.Shelf.Ren := ⟨fun | 149 => 156 | 222 => 178 | n => n, fun | 9 => 9 | 5 => 5 | 3 => 3 | 4 => 4 | n => n, fun | n => n⟩
theorem lays149 : Go.Proofs.Lays.n149 Tryz.prog lays149_ren := {
  mixed := by kernel_rfl
  f149 := Tryz.func156.trans (congrArg some (by kernel_rfl))
  f222 := Tryz.func178.trans (congrArg some (by kernel_rfl))
  t3 := Tryz.underlying3
  a3 := Tryz.isAgg3
  z3 := Tryz.sizeOf3
  v3 := Tryz.zeroValue3
  t4 := Tryz.underlying4
  a4 := Tryz.isAgg4
  z4 := Tryz.sizeOf4
  v4 := Tryz.zeroValue4
  t5 := Tryz.underlying5
  a5 := Tryz.isAgg5
  z5 := Tryz.sizeOf5
  v5 := Tryz.zeroValue5
  t9 := Tryz.underlying9
  a9 := Tryz.isAgg9
  z9 := Tryz.sizeOf9
  v9 := Tryz.zeroValue9 }
def lays196_ren : Go.Shelf.Ren := ⟨fun | 196 => 159 | 259 => 180 | n => n, fun | 9 => 9 | 4 => 4 | 3 => 3 | 5 => 5 | 12 => 12 | 119 => 191 | 0 => 0 | 46 => 110 | 139 => 194 | 138 => 193 | 53 => 126 | n => n, fun | 3 => 1 | 4 => 2 | n => n⟩
theorem lays196 : Go.Proofs.Lays.n196 Tryz.prog lays196_ren := {
  mixed := by kernel_rfl
  f196 := Tryz.func159.trans (congrArg some (by kernel_rfl))
  f259 := Tryz.func180.trans (congrArg some (by kernel_rfl))
  t0 := Tryz.underlying0
  a0 := Tryz.isAgg0
  z0 := Tryz.sizeOf0
  v0 := Tryz.zeroValue0
  t3 := Tryz.underlying3
  a3 := Tryz.isAgg3
  z3 := Tryz.sizeOf3
  v3 := Tryz.zeroValue3
  t4 := Tryz.underlying4
  a4 := Tryz.isAgg4
  z4 := Tryz.sizeOf4
  v4 := Tryz.zeroValue4
  t5 := Tryz.underlying5
  a5 := Tryz.isAgg5
  z5 := Tryz.sizeOf5
  v5 := Tryz.zeroValue5
  t9 := Tryz.underlying9
  a9 := Tryz.isAgg9
  z9 := Tryz.sizeOf9
  v9 := Tryz.zeroValue9
  t12 := Tryz.underlying12
  a12 := Tryz.isAgg12
  z12 := Tryz.sizeOf12
  v12 := Tryz.zeroValue12
  t46 := Tryz.underlying110
  a46 := Tryz.isAgg110
  z46 := Tryz.sizeOf110
  v46 := Tryz.zeroValue110
  t53 := Tryz.underlying126
  a53 := Tryz.isAgg126
  z53 := Tryz.sizeOf126
  v53 := Tryz.zeroValue126
  t119 := Tryz.underlying191
  a119 := Tryz.isAgg191
  z119 := Tryz.sizeOf191
  t138 := Tryz.underlying193
  a138 := Tryz.isAgg193
  z138 := Tryz.sizeOf193
  v138 := Tryz.zeroValue193
  t139 := Tryz.underlying194
  a139 := Tryz.isAgg194
  z139 := Tryz.sizeOf194
  v139 := Tryz.zeroValue194
  g3 := by kernel_rfl
  g4 := by kernel_rfl }
end Go.Proofs.YtogjokofmfpmgaaGreatDoor
