/-
  The reference's sign: how many bytes the sign at a place has.
-/
import Derived.Test.YtpejlcaoggedfaaGreatDoorMailA
import Derived.Handy
import Derived.Laws.BitsLemmas
set_option linter.unusedVariables false
set_option linter.unusedSimpArgs false
namespace Go.Proofs.YtpejlcaoggedfaaGreatDoor
open Go.RowKit

set_option maxRecDepth 1000000 in
theorem and31 : ∀ X : Fin 256, bits .and .u8 ((X.val : Nat) : Int) 31 = ((X.val % 32 : Nat) : Int) := by decide
set_option maxRecDepth 1000000 in
theorem and15 : ∀ X : Fin 256, bits .and .u8 ((X.val : Nat) : Int) 15 = ((X.val % 16 : Nat) : Int) := by decide
set_option maxRecDepth 1000000 in
theorem and7 : ∀ X : Fin 256, bits .and .u8 ((X.val : Nat) : Int) 7 = ((X.val % 8 : Nat) : Int) := by decide
set_option maxRecDepth 1000000 in
theorem and63 : ∀ X : Fin 256, bits .and .u8 ((X.val : Nat) : Int) 63 = ((X.val % 64 : Nat) : Int) := by decide
set_option maxRecDepth 1000000 in
theorem and192 : ∀ X : Fin 256, bits .and .u8 ((X.val : Nat) : Int) 192 = ((X.val / 64 * 64 : Nat) : Int) := by decide
theorem or64 (a x : Nat) (ha : a < 1099511627776) (hx : x < 64) : bits .or .i64 ((a * 64 : Nat) : Int) (x : Int) = ((a * 64 + x : Nat) : Int) := by
  have key : (BitVec.ofInt 64 ((a * 64 : Nat) : Int) ||| BitVec.ofInt 64 (x : Int)).toNat = a * 64 + x := by
    rw [BitVec.toNat_or, BitVec.toNat_ofInt, BitVec.toNat_ofInt]
    rw [show (((a * 64 : Nat) : Int) % ((2 ^ 64 : Nat) : Int)).toNat = a * 64 by omega, show ((x : Int) % ((2 ^ 64 : Nat) : Int)).toNat = x by omega]
    have := Nat.two_pow_add_eq_or_of_lt (i := 6) (b := x) (by omega) a
    rw [show a * 64 = 2 ^ 6 * a by omega, ← this]
  show IntKind.i64.wrap ((BitVec.ofInt 64 ((a * 64 : Nat) : Int) ||| BitVec.ofInt 64 (x : Int)).toNat : Nat) = _
  rw [key, IntKind.wrap_i64]
  omega
theorem or64i (a x : Int) (h0 : 0 ≤ a) (h1 : a < 1099511627776) (h2 : 0 ≤ x) (h3 : x < 64) : bits .or .i64 (a * 64) x = a * 64 + x := by
  obtain ⟨a, rfl⟩ := Int.eq_ofNat_of_zero_le h0
  obtain ⟨x, rfl⟩ := Int.eq_ofNat_of_zero_le h2
  have := or64 a x (by omega) (by omega)
  simpa using this

set_option maxRecDepth 100000 in
set_option maxHeartbeats 2000000 in
theorem sign_a (s : ByteArray) (i : Nat) (hs : s.size ≤ 1000000000) (hi : i < s.size) (h : s[i].toNat < 128) (w : World) : Calls Tryz.prog 73 #[.string s, .int .i64 i] w fun e w' => e = .returned (.int .i64 1) ∧ w = w' := by
  go_enter Tryz.func73, Tryz.ntmps73
  go_wp2
  go_ret
  exact ⟨rfl, rfl⟩
set_option maxRecDepth 100000 in
set_option maxHeartbeats 2000000 in
theorem sign_e (s : ByteArray) (i : Nat) (hs : s.size ≤ 1000000000) (hi : i < s.size) (h : (128 ≤ s[i].toNat ∧ s[i].toNat < 194) ∨ 245 ≤ s[i].toNat) (w : World) : Calls Tryz.prog 73 #[.string s, .int .i64 i] w fun e w' => e = .returned (.int .i64 0) ∧ w = w' := by
  rcases h with ⟨h1, h2⟩ | h1
  all_goals
    go_enter Tryz.func73, Tryz.ntmps73
    go_wp2
    go_ret
    exact ⟨rfl, rfl⟩
set_option maxRecDepth 100000 in
set_option maxHeartbeats 2000000 in
theorem sign_2_short (s : ByteArray) (i : Nat) (hs : s.size ≤ 1000000000) (hi : i < s.size) (h1 : 194 ≤ s[i].toNat) (h2 : s[i].toNat ≤ 223) (h3 : s.size < i + 2) (w : World) : Calls Tryz.prog 73 #[.string s, .int .i64 i] w fun e w' => e = .returned (.int .i64 0) ∧ w = w' := by
  have a0 := and31 ⟨s[i].toNat, UInt8.toNat_lt _⟩
  simp only [] at a0
  go_enter Tryz.func73, Tryz.ntmps73
  go_wp2
  go_ret
  exact ⟨rfl, rfl⟩
set_option maxRecDepth 100000 in
set_option maxHeartbeats 2000000 in
theorem sign_2_bad1 (s : ByteArray) (i : Nat) (hs : s.size ≤ 1000000000) (hi : i < s.size) (h1 : 194 ≤ s[i].toNat) (h2 : s[i].toNat ≤ 223) (h3 : i + 2 ≤ s.size) (b : ¬ s[i + 1].toNat / 64 = 2) (w : World) : Calls Tryz.prog 73 #[.string s, .int .i64 i] w fun e w' => e = .returned (.int .i64 0) ∧ w = w' := by
  have a0 := and31 ⟨s[i].toNat, UInt8.toNat_lt _⟩
  have c1 := and63 ⟨s[i + 1].toNat, UInt8.toNat_lt _⟩
  have d1 := and192 ⟨s[i + 1].toNat, UInt8.toNat_lt _⟩
  simp only [] at a0 c1 d1
  have e1 : ((s[i + 1].toNat : Int) / 64 * 64 != 128) = true := by simp; omega
  clear b
  go_enter Tryz.func73, Tryz.ntmps73
  go_wp2
  go_rounds 1
  go_ret
  exact ⟨rfl, rfl⟩
set_option maxRecDepth 100000 in
set_option maxHeartbeats 2000000 in
theorem sign_2_ok (s : ByteArray) (i : Nat) (hs : s.size ≤ 1000000000) (hi : i < s.size) (h1 : 194 ≤ s[i].toNat) (h2 : s[i].toNat ≤ 223) (h3 : i + 2 ≤ s.size) (g1 : s[i + 1].toNat / 64 = 2) (w : World) : Calls Tryz.prog 73 #[.string s, .int .i64 i] w fun e w' => e = .returned (.int .i64 2) ∧ w = w' := by
  have a0 := and31 ⟨s[i].toNat, UInt8.toNat_lt _⟩
  have c1 := and63 ⟨s[i + 1].toNat, UInt8.toNat_lt _⟩
  have d1 := and192 ⟨s[i + 1].toNat, UInt8.toNat_lt _⟩
  simp only [] at a0 c1 d1
  have e1 : ((s[i + 1].toNat : Int) / 64 * 64 != 128) = false := by simp; omega
  have o1 := or64i ((s[i].toNat : Int) % 32) ((s[i + 1].toNat : Int) % 64) (by omega) (by omega) (by omega) (by omega)
  obtain ⟨v1, hv1⟩ : ∃ v : Int, v = ((s[i].toNat : Int) % 32) * 64 + (s[i + 1].toNat : Int) % 64 := ⟨_, rfl⟩
  rw [← hv1] at o1
  have p1a : 0 ≤ v1 := by omega
  have p1b : v1 < 2097152 := by omega
  have f0 : 128 ≤ v1 := by omega
  have f1 : v1 ≤ 2047 := by omega
  clear hv1
  go_enter Tryz.func73, Tryz.ntmps73
  go_wp2
  go_rounds 2
  go_ret
  exact ⟨rfl, rfl⟩
set_option maxRecDepth 100000 in
set_option maxHeartbeats 2000000 in
theorem sign_3_short (s : ByteArray) (i : Nat) (hs : s.size ≤ 1000000000) (hi : i < s.size) (h1 : 224 ≤ s[i].toNat) (h2 : s[i].toNat ≤ 239) (h3 : s.size < i + 3) (w : World) : Calls Tryz.prog 73 #[.string s, .int .i64 i] w fun e w' => e = .returned (.int .i64 0) ∧ w = w' := by
  have a0 := and15 ⟨s[i].toNat, UInt8.toNat_lt _⟩
  simp only [] at a0
  go_enter Tryz.func73, Tryz.ntmps73
  go_wp2
  go_ret
  exact ⟨rfl, rfl⟩
set_option maxRecDepth 100000 in
set_option maxHeartbeats 2000000 in
theorem sign_3_bad1 (s : ByteArray) (i : Nat) (hs : s.size ≤ 1000000000) (hi : i < s.size) (h1 : 224 ≤ s[i].toNat) (h2 : s[i].toNat ≤ 239) (h3 : i + 3 ≤ s.size) (b : ¬ s[i + 1].toNat / 64 = 2) (w : World) : Calls Tryz.prog 73 #[.string s, .int .i64 i] w fun e w' => e = .returned (.int .i64 0) ∧ w = w' := by
  have a0 := and15 ⟨s[i].toNat, UInt8.toNat_lt _⟩
  have c1 := and63 ⟨s[i + 1].toNat, UInt8.toNat_lt _⟩
  have d1 := and192 ⟨s[i + 1].toNat, UInt8.toNat_lt _⟩
  simp only [] at a0 c1 d1
  have e1 : ((s[i + 1].toNat : Int) / 64 * 64 != 128) = true := by simp; omega
  clear b
  go_enter Tryz.func73, Tryz.ntmps73
  go_wp2
  go_rounds 1
  go_ret
  exact ⟨rfl, rfl⟩
set_option maxRecDepth 100000 in
set_option maxHeartbeats 2000000 in
theorem sign_3_bad2 (s : ByteArray) (i : Nat) (hs : s.size ≤ 1000000000) (hi : i < s.size) (h1 : 224 ≤ s[i].toNat) (h2 : s[i].toNat ≤ 239) (h3 : i + 3 ≤ s.size) (g1 : s[i + 1].toNat / 64 = 2) (b : ¬ s[i + 2].toNat / 64 = 2) (w : World) : Calls Tryz.prog 73 #[.string s, .int .i64 i] w fun e w' => e = .returned (.int .i64 0) ∧ w = w' := by
  have a0 := and15 ⟨s[i].toNat, UInt8.toNat_lt _⟩
  have c1 := and63 ⟨s[i + 1].toNat, UInt8.toNat_lt _⟩
  have d1 := and192 ⟨s[i + 1].toNat, UInt8.toNat_lt _⟩
  have c2 := and63 ⟨s[i + 2].toNat, UInt8.toNat_lt _⟩
  have d2 := and192 ⟨s[i + 2].toNat, UInt8.toNat_lt _⟩
  simp only [] at a0 c1 d1 c2 d2
  have e1 : ((s[i + 1].toNat : Int) / 64 * 64 != 128) = false := by simp; omega
  have e2 : ((s[i + 2].toNat : Int) / 64 * 64 != 128) = true := by simp; omega
  clear b
  have o1 := or64i ((s[i].toNat : Int) % 16) ((s[i + 1].toNat : Int) % 64) (by omega) (by omega) (by omega) (by omega)
  obtain ⟨v1, hv1⟩ : ∃ v : Int, v = ((s[i].toNat : Int) % 16) * 64 + (s[i + 1].toNat : Int) % 64 := ⟨_, rfl⟩
  rw [← hv1] at o1
  have p1a : 0 ≤ v1 := by omega
  have p1b : v1 < 2097152 := by omega
  clear hv1
  go_enter Tryz.func73, Tryz.ntmps73
  go_wp2
  go_rounds 2
  go_ret
  exact ⟨rfl, rfl⟩
set_option maxRecDepth 100000 in
set_option maxHeartbeats 2000000 in
theorem sign_3_low (s : ByteArray) (i : Nat) (hs : s.size ≤ 1000000000) (hi : i < s.size) (h1 : 224 ≤ s[i].toNat) (h2 : s[i].toNat ≤ 239) (h3 : i + 3 ≤ s.size) (g1 : s[i + 1].toNat / 64 = 2) (g2 : s[i + 2].toNat / 64 = 2) (q : (s[i].toNat % 16 * 4096 + s[i + 1].toNat % 64 * 64 + s[i + 2].toNat % 64) < 2048) (w : World) : Calls Tryz.prog 73 #[.string s, .int .i64 i] w fun e w' => e = .returned (.int .i64 0) ∧ w = w' := by
  have a0 := and15 ⟨s[i].toNat, UInt8.toNat_lt _⟩
  have c1 := and63 ⟨s[i + 1].toNat, UInt8.toNat_lt _⟩
  have d1 := and192 ⟨s[i + 1].toNat, UInt8.toNat_lt _⟩
  have c2 := and63 ⟨s[i + 2].toNat, UInt8.toNat_lt _⟩
  have d2 := and192 ⟨s[i + 2].toNat, UInt8.toNat_lt _⟩
  simp only [] at a0 c1 d1 c2 d2
  have e1 : ((s[i + 1].toNat : Int) / 64 * 64 != 128) = false := by simp; omega
  have e2 : ((s[i + 2].toNat : Int) / 64 * 64 != 128) = false := by simp; omega
  have o1 := or64i ((s[i].toNat : Int) % 16) ((s[i + 1].toNat : Int) % 64) (by omega) (by omega) (by omega) (by omega)
  obtain ⟨v1, hv1⟩ : ∃ v : Int, v = ((s[i].toNat : Int) % 16) * 64 + (s[i + 1].toNat : Int) % 64 := ⟨_, rfl⟩
  rw [← hv1] at o1
  have o2 := or64i v1 ((s[i + 2].toNat : Int) % 64) (by omega) (by omega) (by omega) (by omega)
  obtain ⟨v2, hv2⟩ : ∃ v : Int, v = v1 * 64 + (s[i + 2].toNat : Int) % 64 := ⟨_, rfl⟩
  rw [← hv2] at o2
  have p1a : 0 ≤ v1 := by omega
  have p1b : v1 < 2097152 := by omega
  have p2a : 0 ≤ v2 := by omega
  have p2b : v2 < 2097152 := by omega
  have f0 : v2 < 2048 := by omega
  clear hv1 hv2
  go_enter Tryz.func73, Tryz.ntmps73
  go_wp2
  go_rounds 3
  go_ret
  exact ⟨rfl, rfl⟩
set_option maxRecDepth 100000 in
set_option maxHeartbeats 2000000 in
theorem sign_3_sur (s : ByteArray) (i : Nat) (hs : s.size ≤ 1000000000) (hi : i < s.size) (h1 : 224 ≤ s[i].toNat) (h2 : s[i].toNat ≤ 239) (h3 : i + 3 ≤ s.size) (g1 : s[i + 1].toNat / 64 = 2) (g2 : s[i + 2].toNat / 64 = 2) (q1 : 55296 ≤ (s[i].toNat % 16 * 4096 + s[i + 1].toNat % 64 * 64 + s[i + 2].toNat % 64)) (q2 : (s[i].toNat % 16 * 4096 + s[i + 1].toNat % 64 * 64 + s[i + 2].toNat % 64) ≤ 57343) (w : World) : Calls Tryz.prog 73 #[.string s, .int .i64 i] w fun e w' => e = .returned (.int .i64 0) ∧ w = w' := by
  have a0 := and15 ⟨s[i].toNat, UInt8.toNat_lt _⟩
  have c1 := and63 ⟨s[i + 1].toNat, UInt8.toNat_lt _⟩
  have d1 := and192 ⟨s[i + 1].toNat, UInt8.toNat_lt _⟩
  have c2 := and63 ⟨s[i + 2].toNat, UInt8.toNat_lt _⟩
  have d2 := and192 ⟨s[i + 2].toNat, UInt8.toNat_lt _⟩
  simp only [] at a0 c1 d1 c2 d2
  have e1 : ((s[i + 1].toNat : Int) / 64 * 64 != 128) = false := by simp; omega
  have e2 : ((s[i + 2].toNat : Int) / 64 * 64 != 128) = false := by simp; omega
  have o1 := or64i ((s[i].toNat : Int) % 16) ((s[i + 1].toNat : Int) % 64) (by omega) (by omega) (by omega) (by omega)
  obtain ⟨v1, hv1⟩ : ∃ v : Int, v = ((s[i].toNat : Int) % 16) * 64 + (s[i + 1].toNat : Int) % 64 := ⟨_, rfl⟩
  rw [← hv1] at o1
  have o2 := or64i v1 ((s[i + 2].toNat : Int) % 64) (by omega) (by omega) (by omega) (by omega)
  obtain ⟨v2, hv2⟩ : ∃ v : Int, v = v1 * 64 + (s[i + 2].toNat : Int) % 64 := ⟨_, rfl⟩
  rw [← hv2] at o2
  have p1a : 0 ≤ v1 := by omega
  have p1b : v1 < 2097152 := by omega
  have p2a : 0 ≤ v2 := by omega
  have p2b : v2 < 2097152 := by omega
  have f0 : 55296 ≤ v2 := by omega
  have f1 : v2 ≤ 57343 := by omega
  clear hv1 hv2
  go_enter Tryz.func73, Tryz.ntmps73
  go_wp2
  go_rounds 3
  go_ret
  exact ⟨rfl, rfl⟩
set_option maxRecDepth 100000 in
set_option maxHeartbeats 2000000 in
theorem sign_3_ok1 (s : ByteArray) (i : Nat) (hs : s.size ≤ 1000000000) (hi : i < s.size) (h1 : 224 ≤ s[i].toNat) (h2 : s[i].toNat ≤ 239) (h3 : i + 3 ≤ s.size) (g1 : s[i + 1].toNat / 64 = 2) (g2 : s[i + 2].toNat / 64 = 2) (q1 : 2048 ≤ (s[i].toNat % 16 * 4096 + s[i + 1].toNat % 64 * 64 + s[i + 2].toNat % 64)) (q2 : (s[i].toNat % 16 * 4096 + s[i + 1].toNat % 64 * 64 + s[i + 2].toNat % 64) < 55296) (w : World) : Calls Tryz.prog 73 #[.string s, .int .i64 i] w fun e w' => e = .returned (.int .i64 3) ∧ w = w' := by
  have a0 := and15 ⟨s[i].toNat, UInt8.toNat_lt _⟩
  have c1 := and63 ⟨s[i + 1].toNat, UInt8.toNat_lt _⟩
  have d1 := and192 ⟨s[i + 1].toNat, UInt8.toNat_lt _⟩
  have c2 := and63 ⟨s[i + 2].toNat, UInt8.toNat_lt _⟩
  have d2 := and192 ⟨s[i + 2].toNat, UInt8.toNat_lt _⟩
  simp only [] at a0 c1 d1 c2 d2
  have e1 : ((s[i + 1].toNat : Int) / 64 * 64 != 128) = false := by simp; omega
  have e2 : ((s[i + 2].toNat : Int) / 64 * 64 != 128) = false := by simp; omega
  have o1 := or64i ((s[i].toNat : Int) % 16) ((s[i + 1].toNat : Int) % 64) (by omega) (by omega) (by omega) (by omega)
  obtain ⟨v1, hv1⟩ : ∃ v : Int, v = ((s[i].toNat : Int) % 16) * 64 + (s[i + 1].toNat : Int) % 64 := ⟨_, rfl⟩
  rw [← hv1] at o1
  have o2 := or64i v1 ((s[i + 2].toNat : Int) % 64) (by omega) (by omega) (by omega) (by omega)
  obtain ⟨v2, hv2⟩ : ∃ v : Int, v = v1 * 64 + (s[i + 2].toNat : Int) % 64 := ⟨_, rfl⟩
  rw [← hv2] at o2
  have p1a : 0 ≤ v1 := by omega
  have p1b : v1 < 2097152 := by omega
  have p2a : 0 ≤ v2 := by omega
  have p2b : v2 < 2097152 := by omega
  have f0 : 2048 ≤ v2 := by omega
  have f1 : v2 < 55296 := by omega
  clear hv1 hv2
  go_enter Tryz.func73, Tryz.ntmps73
  go_wp2
  go_rounds 3
  go_ret
  exact ⟨rfl, rfl⟩
set_option maxRecDepth 100000 in
set_option maxHeartbeats 2000000 in
theorem sign_3_ok2 (s : ByteArray) (i : Nat) (hs : s.size ≤ 1000000000) (hi : i < s.size) (h1 : 224 ≤ s[i].toNat) (h2 : s[i].toNat ≤ 239) (h3 : i + 3 ≤ s.size) (g1 : s[i + 1].toNat / 64 = 2) (g2 : s[i + 2].toNat / 64 = 2) (q1 : 57343 < (s[i].toNat % 16 * 4096 + s[i + 1].toNat % 64 * 64 + s[i + 2].toNat % 64)) (w : World) : Calls Tryz.prog 73 #[.string s, .int .i64 i] w fun e w' => e = .returned (.int .i64 3) ∧ w = w' := by
  have a0 := and15 ⟨s[i].toNat, UInt8.toNat_lt _⟩
  have c1 := and63 ⟨s[i + 1].toNat, UInt8.toNat_lt _⟩
  have d1 := and192 ⟨s[i + 1].toNat, UInt8.toNat_lt _⟩
  have c2 := and63 ⟨s[i + 2].toNat, UInt8.toNat_lt _⟩
  have d2 := and192 ⟨s[i + 2].toNat, UInt8.toNat_lt _⟩
  simp only [] at a0 c1 d1 c2 d2
  have e1 : ((s[i + 1].toNat : Int) / 64 * 64 != 128) = false := by simp; omega
  have e2 : ((s[i + 2].toNat : Int) / 64 * 64 != 128) = false := by simp; omega
  have o1 := or64i ((s[i].toNat : Int) % 16) ((s[i + 1].toNat : Int) % 64) (by omega) (by omega) (by omega) (by omega)
  obtain ⟨v1, hv1⟩ : ∃ v : Int, v = ((s[i].toNat : Int) % 16) * 64 + (s[i + 1].toNat : Int) % 64 := ⟨_, rfl⟩
  rw [← hv1] at o1
  have o2 := or64i v1 ((s[i + 2].toNat : Int) % 64) (by omega) (by omega) (by omega) (by omega)
  obtain ⟨v2, hv2⟩ : ∃ v : Int, v = v1 * 64 + (s[i + 2].toNat : Int) % 64 := ⟨_, rfl⟩
  rw [← hv2] at o2
  have p1a : 0 ≤ v1 := by omega
  have p1b : v1 < 2097152 := by omega
  have p2a : 0 ≤ v2 := by omega
  have p2b : v2 < 2097152 := by omega
  have f0 : 57343 < v2 := by omega
  have f1 : v2 ≤ 65535 := by omega
  clear hv1 hv2
  go_enter Tryz.func73, Tryz.ntmps73
  go_wp2
  go_rounds 3
  go_ret
  exact ⟨rfl, rfl⟩
set_option maxRecDepth 100000 in
set_option maxHeartbeats 2000000 in
theorem sign_4_short (s : ByteArray) (i : Nat) (hs : s.size ≤ 1000000000) (hi : i < s.size) (h1 : 240 ≤ s[i].toNat) (h2 : s[i].toNat ≤ 244) (h3 : s.size < i + 4) (w : World) : Calls Tryz.prog 73 #[.string s, .int .i64 i] w fun e w' => e = .returned (.int .i64 0) ∧ w = w' := by
  have a0 := and7 ⟨s[i].toNat, UInt8.toNat_lt _⟩
  simp only [] at a0
  go_enter Tryz.func73, Tryz.ntmps73
  go_wp2
  go_ret
  exact ⟨rfl, rfl⟩
set_option maxRecDepth 100000 in
set_option maxHeartbeats 2000000 in
theorem sign_4_bad1 (s : ByteArray) (i : Nat) (hs : s.size ≤ 1000000000) (hi : i < s.size) (h1 : 240 ≤ s[i].toNat) (h2 : s[i].toNat ≤ 244) (h3 : i + 4 ≤ s.size) (b : ¬ s[i + 1].toNat / 64 = 2) (w : World) : Calls Tryz.prog 73 #[.string s, .int .i64 i] w fun e w' => e = .returned (.int .i64 0) ∧ w = w' := by
  have a0 := and7 ⟨s[i].toNat, UInt8.toNat_lt _⟩
  have c1 := and63 ⟨s[i + 1].toNat, UInt8.toNat_lt _⟩
  have d1 := and192 ⟨s[i + 1].toNat, UInt8.toNat_lt _⟩
  simp only [] at a0 c1 d1
  have e1 : ((s[i + 1].toNat : Int) / 64 * 64 != 128) = true := by simp; omega
  clear b
  go_enter Tryz.func73, Tryz.ntmps73
  go_wp2
  go_rounds 1
  go_ret
  exact ⟨rfl, rfl⟩
set_option maxRecDepth 100000 in
set_option maxHeartbeats 2000000 in
theorem sign_4_bad2 (s : ByteArray) (i : Nat) (hs : s.size ≤ 1000000000) (hi : i < s.size) (h1 : 240 ≤ s[i].toNat) (h2 : s[i].toNat ≤ 244) (h3 : i + 4 ≤ s.size) (g1 : s[i + 1].toNat / 64 = 2) (b : ¬ s[i + 2].toNat / 64 = 2) (w : World) : Calls Tryz.prog 73 #[.string s, .int .i64 i] w fun e w' => e = .returned (.int .i64 0) ∧ w = w' := by
  have a0 := and7 ⟨s[i].toNat, UInt8.toNat_lt _⟩
  have c1 := and63 ⟨s[i + 1].toNat, UInt8.toNat_lt _⟩
  have d1 := and192 ⟨s[i + 1].toNat, UInt8.toNat_lt _⟩
  have c2 := and63 ⟨s[i + 2].toNat, UInt8.toNat_lt _⟩
  have d2 := and192 ⟨s[i + 2].toNat, UInt8.toNat_lt _⟩
  simp only [] at a0 c1 d1 c2 d2
  have e1 : ((s[i + 1].toNat : Int) / 64 * 64 != 128) = false := by simp; omega
  have e2 : ((s[i + 2].toNat : Int) / 64 * 64 != 128) = true := by simp; omega
  clear b
  have o1 := or64i ((s[i].toNat : Int) % 8) ((s[i + 1].toNat : Int) % 64) (by omega) (by omega) (by omega) (by omega)
  obtain ⟨v1, hv1⟩ : ∃ v : Int, v = ((s[i].toNat : Int) % 8) * 64 + (s[i + 1].toNat : Int) % 64 := ⟨_, rfl⟩
  rw [← hv1] at o1
  have p1a : 0 ≤ v1 := by omega
  have p1b : v1 < 2097152 := by omega
  clear hv1
  go_enter Tryz.func73, Tryz.ntmps73
  go_wp2
  go_rounds 2
  go_ret
  exact ⟨rfl, rfl⟩
set_option maxRecDepth 100000 in
set_option maxHeartbeats 2000000 in
theorem sign_4_bad3 (s : ByteArray) (i : Nat) (hs : s.size ≤ 1000000000) (hi : i < s.size) (h1 : 240 ≤ s[i].toNat) (h2 : s[i].toNat ≤ 244) (h3 : i + 4 ≤ s.size) (g1 : s[i + 1].toNat / 64 = 2) (g2 : s[i + 2].toNat / 64 = 2) (b : ¬ s[i + 3].toNat / 64 = 2) (w : World) : Calls Tryz.prog 73 #[.string s, .int .i64 i] w fun e w' => e = .returned (.int .i64 0) ∧ w = w' := by
  have a0 := and7 ⟨s[i].toNat, UInt8.toNat_lt _⟩
  have c1 := and63 ⟨s[i + 1].toNat, UInt8.toNat_lt _⟩
  have d1 := and192 ⟨s[i + 1].toNat, UInt8.toNat_lt _⟩
  have c2 := and63 ⟨s[i + 2].toNat, UInt8.toNat_lt _⟩
  have d2 := and192 ⟨s[i + 2].toNat, UInt8.toNat_lt _⟩
  have c3 := and63 ⟨s[i + 3].toNat, UInt8.toNat_lt _⟩
  have d3 := and192 ⟨s[i + 3].toNat, UInt8.toNat_lt _⟩
  simp only [] at a0 c1 d1 c2 d2 c3 d3
  have e1 : ((s[i + 1].toNat : Int) / 64 * 64 != 128) = false := by simp; omega
  have e2 : ((s[i + 2].toNat : Int) / 64 * 64 != 128) = false := by simp; omega
  have e3 : ((s[i + 3].toNat : Int) / 64 * 64 != 128) = true := by simp; omega
  clear b
  have o1 := or64i ((s[i].toNat : Int) % 8) ((s[i + 1].toNat : Int) % 64) (by omega) (by omega) (by omega) (by omega)
  obtain ⟨v1, hv1⟩ : ∃ v : Int, v = ((s[i].toNat : Int) % 8) * 64 + (s[i + 1].toNat : Int) % 64 := ⟨_, rfl⟩
  rw [← hv1] at o1
  have o2 := or64i v1 ((s[i + 2].toNat : Int) % 64) (by omega) (by omega) (by omega) (by omega)
  obtain ⟨v2, hv2⟩ : ∃ v : Int, v = v1 * 64 + (s[i + 2].toNat : Int) % 64 := ⟨_, rfl⟩
  rw [← hv2] at o2
  have p1a : 0 ≤ v1 := by omega
  have p1b : v1 < 2097152 := by omega
  have p2a : 0 ≤ v2 := by omega
  have p2b : v2 < 2097152 := by omega
  clear hv1 hv2
  go_enter Tryz.func73, Tryz.ntmps73
  go_wp2
  go_rounds 3
  go_ret
  exact ⟨rfl, rfl⟩
set_option maxRecDepth 100000 in
set_option maxHeartbeats 2000000 in
theorem sign_4_low (s : ByteArray) (i : Nat) (hs : s.size ≤ 1000000000) (hi : i < s.size) (h1 : 240 ≤ s[i].toNat) (h2 : s[i].toNat ≤ 244) (h3 : i + 4 ≤ s.size) (g1 : s[i + 1].toNat / 64 = 2) (g2 : s[i + 2].toNat / 64 = 2) (g3 : s[i + 3].toNat / 64 = 2) (q : (s[i].toNat % 8 * 262144 + s[i + 1].toNat % 64 * 4096 + s[i + 2].toNat % 64 * 64 + s[i + 3].toNat % 64) < 65536) (w : World) : Calls Tryz.prog 73 #[.string s, .int .i64 i] w fun e w' => e = .returned (.int .i64 0) ∧ w = w' := by
  have a0 := and7 ⟨s[i].toNat, UInt8.toNat_lt _⟩
  have c1 := and63 ⟨s[i + 1].toNat, UInt8.toNat_lt _⟩
  have d1 := and192 ⟨s[i + 1].toNat, UInt8.toNat_lt _⟩
  have c2 := and63 ⟨s[i + 2].toNat, UInt8.toNat_lt _⟩
  have d2 := and192 ⟨s[i + 2].toNat, UInt8.toNat_lt _⟩
  have c3 := and63 ⟨s[i + 3].toNat, UInt8.toNat_lt _⟩
  have d3 := and192 ⟨s[i + 3].toNat, UInt8.toNat_lt _⟩
  simp only [] at a0 c1 d1 c2 d2 c3 d3
  have e1 : ((s[i + 1].toNat : Int) / 64 * 64 != 128) = false := by simp; omega
  have e2 : ((s[i + 2].toNat : Int) / 64 * 64 != 128) = false := by simp; omega
  have e3 : ((s[i + 3].toNat : Int) / 64 * 64 != 128) = false := by simp; omega
  have o1 := or64i ((s[i].toNat : Int) % 8) ((s[i + 1].toNat : Int) % 64) (by omega) (by omega) (by omega) (by omega)
  obtain ⟨v1, hv1⟩ : ∃ v : Int, v = ((s[i].toNat : Int) % 8) * 64 + (s[i + 1].toNat : Int) % 64 := ⟨_, rfl⟩
  rw [← hv1] at o1
  have o2 := or64i v1 ((s[i + 2].toNat : Int) % 64) (by omega) (by omega) (by omega) (by omega)
  obtain ⟨v2, hv2⟩ : ∃ v : Int, v = v1 * 64 + (s[i + 2].toNat : Int) % 64 := ⟨_, rfl⟩
  rw [← hv2] at o2
  have o3 := or64i v2 ((s[i + 3].toNat : Int) % 64) (by omega) (by omega) (by omega) (by omega)
  obtain ⟨v3, hv3⟩ : ∃ v : Int, v = v2 * 64 + (s[i + 3].toNat : Int) % 64 := ⟨_, rfl⟩
  rw [← hv3] at o3
  have p1a : 0 ≤ v1 := by omega
  have p1b : v1 < 2097152 := by omega
  have p2a : 0 ≤ v2 := by omega
  have p2b : v2 < 2097152 := by omega
  have p3a : 0 ≤ v3 := by omega
  have p3b : v3 < 2097152 := by omega
  have f0 : v3 < 65536 := by omega
  clear hv1 hv2 hv3
  go_enter Tryz.func73, Tryz.ntmps73
  go_wp2
  go_rounds 4
  go_ret
  exact ⟨rfl, rfl⟩
set_option maxRecDepth 100000 in
set_option maxHeartbeats 2000000 in
theorem sign_4_high (s : ByteArray) (i : Nat) (hs : s.size ≤ 1000000000) (hi : i < s.size) (h1 : 240 ≤ s[i].toNat) (h2 : s[i].toNat ≤ 244) (h3 : i + 4 ≤ s.size) (g1 : s[i + 1].toNat / 64 = 2) (g2 : s[i + 2].toNat / 64 = 2) (g3 : s[i + 3].toNat / 64 = 2) (q : 1114111 < (s[i].toNat % 8 * 262144 + s[i + 1].toNat % 64 * 4096 + s[i + 2].toNat % 64 * 64 + s[i + 3].toNat % 64)) (w : World) : Calls Tryz.prog 73 #[.string s, .int .i64 i] w fun e w' => e = .returned (.int .i64 0) ∧ w = w' := by
  have a0 := and7 ⟨s[i].toNat, UInt8.toNat_lt _⟩
  have c1 := and63 ⟨s[i + 1].toNat, UInt8.toNat_lt _⟩
  have d1 := and192 ⟨s[i + 1].toNat, UInt8.toNat_lt _⟩
  have c2 := and63 ⟨s[i + 2].toNat, UInt8.toNat_lt _⟩
  have d2 := and192 ⟨s[i + 2].toNat, UInt8.toNat_lt _⟩
  have c3 := and63 ⟨s[i + 3].toNat, UInt8.toNat_lt _⟩
  have d3 := and192 ⟨s[i + 3].toNat, UInt8.toNat_lt _⟩
  simp only [] at a0 c1 d1 c2 d2 c3 d3
  have e1 : ((s[i + 1].toNat : Int) / 64 * 64 != 128) = false := by simp; omega
  have e2 : ((s[i + 2].toNat : Int) / 64 * 64 != 128) = false := by simp; omega
  have e3 : ((s[i + 3].toNat : Int) / 64 * 64 != 128) = false := by simp; omega
  have o1 := or64i ((s[i].toNat : Int) % 8) ((s[i + 1].toNat : Int) % 64) (by omega) (by omega) (by omega) (by omega)
  obtain ⟨v1, hv1⟩ : ∃ v : Int, v = ((s[i].toNat : Int) % 8) * 64 + (s[i + 1].toNat : Int) % 64 := ⟨_, rfl⟩
  rw [← hv1] at o1
  have o2 := or64i v1 ((s[i + 2].toNat : Int) % 64) (by omega) (by omega) (by omega) (by omega)
  obtain ⟨v2, hv2⟩ : ∃ v : Int, v = v1 * 64 + (s[i + 2].toNat : Int) % 64 := ⟨_, rfl⟩
  rw [← hv2] at o2
  have o3 := or64i v2 ((s[i + 3].toNat : Int) % 64) (by omega) (by omega) (by omega) (by omega)
  obtain ⟨v3, hv3⟩ : ∃ v : Int, v = v2 * 64 + (s[i + 3].toNat : Int) % 64 := ⟨_, rfl⟩
  rw [← hv3] at o3
  have p1a : 0 ≤ v1 := by omega
  have p1b : v1 < 2097152 := by omega
  have p2a : 0 ≤ v2 := by omega
  have p2b : v2 < 2097152 := by omega
  have p3a : 0 ≤ v3 := by omega
  have p3b : v3 < 2097152 := by omega
  have f0 : 1114111 < v3 := by omega
  clear hv1 hv2 hv3
  go_enter Tryz.func73, Tryz.ntmps73
  go_wp2
  go_rounds 4
  go_ret
  exact ⟨rfl, rfl⟩
set_option maxRecDepth 100000 in
set_option maxHeartbeats 2000000 in
theorem sign_4_ok (s : ByteArray) (i : Nat) (hs : s.size ≤ 1000000000) (hi : i < s.size) (h1 : 240 ≤ s[i].toNat) (h2 : s[i].toNat ≤ 244) (h3 : i + 4 ≤ s.size) (g1 : s[i + 1].toNat / 64 = 2) (g2 : s[i + 2].toNat / 64 = 2) (g3 : s[i + 3].toNat / 64 = 2) (q1 : 65536 ≤ (s[i].toNat % 8 * 262144 + s[i + 1].toNat % 64 * 4096 + s[i + 2].toNat % 64 * 64 + s[i + 3].toNat % 64)) (q2 : (s[i].toNat % 8 * 262144 + s[i + 1].toNat % 64 * 4096 + s[i + 2].toNat % 64 * 64 + s[i + 3].toNat % 64) ≤ 1114111) (w : World) : Calls Tryz.prog 73 #[.string s, .int .i64 i] w fun e w' => e = .returned (.int .i64 4) ∧ w = w' := by
  have a0 := and7 ⟨s[i].toNat, UInt8.toNat_lt _⟩
  have c1 := and63 ⟨s[i + 1].toNat, UInt8.toNat_lt _⟩
  have d1 := and192 ⟨s[i + 1].toNat, UInt8.toNat_lt _⟩
  have c2 := and63 ⟨s[i + 2].toNat, UInt8.toNat_lt _⟩
  have d2 := and192 ⟨s[i + 2].toNat, UInt8.toNat_lt _⟩
  have c3 := and63 ⟨s[i + 3].toNat, UInt8.toNat_lt _⟩
  have d3 := and192 ⟨s[i + 3].toNat, UInt8.toNat_lt _⟩
  simp only [] at a0 c1 d1 c2 d2 c3 d3
  have e1 : ((s[i + 1].toNat : Int) / 64 * 64 != 128) = false := by simp; omega
  have e2 : ((s[i + 2].toNat : Int) / 64 * 64 != 128) = false := by simp; omega
  have e3 : ((s[i + 3].toNat : Int) / 64 * 64 != 128) = false := by simp; omega
  have o1 := or64i ((s[i].toNat : Int) % 8) ((s[i + 1].toNat : Int) % 64) (by omega) (by omega) (by omega) (by omega)
  obtain ⟨v1, hv1⟩ : ∃ v : Int, v = ((s[i].toNat : Int) % 8) * 64 + (s[i + 1].toNat : Int) % 64 := ⟨_, rfl⟩
  rw [← hv1] at o1
  have o2 := or64i v1 ((s[i + 2].toNat : Int) % 64) (by omega) (by omega) (by omega) (by omega)
  obtain ⟨v2, hv2⟩ : ∃ v : Int, v = v1 * 64 + (s[i + 2].toNat : Int) % 64 := ⟨_, rfl⟩
  rw [← hv2] at o2
  have o3 := or64i v2 ((s[i + 3].toNat : Int) % 64) (by omega) (by omega) (by omega) (by omega)
  obtain ⟨v3, hv3⟩ : ∃ v : Int, v = v2 * 64 + (s[i + 3].toNat : Int) % 64 := ⟨_, rfl⟩
  rw [← hv3] at o3
  have p1a : 0 ≤ v1 := by omega
  have p1b : v1 < 2097152 := by omega
  have p2a : 0 ≤ v2 := by omega
  have p2b : v2 < 2097152 := by omega
  have p3a : 0 ≤ v3 := by omega
  have p3b : v3 < 2097152 := by omega
  have f0 : 65536 ≤ v3 := by omega
  have f1 : v3 ≤ 1114111 := by omega
  clear hv1 hv2 hv3
  go_enter Tryz.func73, Tryz.ntmps73
  go_wp2
  go_rounds 4
  go_ret
  exact ⟨rfl, rfl⟩

theorem sgn_at (s : ByteArray) (i : Nat) : sgn (s.data.toList.drop i) = signN (s.size - i) (bt s.data.toList i) (bt s.data.toList (i + 1)) (bt s.data.toList (i + 2)) (bt s.data.toList (i + 3)) := by
  unfold sgn
  rw [bt_drop, bt_drop, bt_drop, bt_drop, List.length_drop]
  simp

theorem sign_calls (s : ByteArray) (i : Nat) (hs : s.size ≤ 1000000000) (hi : i < s.size) (w : World) : Calls Tryz.prog 73 #[.string s, .int .i64 i] w fun e w' => e = .returned (.int .i64 (sgn (s.data.toList.drop i))) ∧ w = w' := by
  rw [sgn_at, bt_self s i hi]
  by_cases ca : s[i].toNat < 128
  · rw [show signN (s.size - i) s[i].toNat (bt s.data.toList (i + 1)) (bt s.data.toList (i + 2)) (bt s.data.toList (i + 3)) = 1 by rw [signN, if_pos ca]]
    exact sign_a s i hs hi ca w
  by_cases cb : 194 ≤ s[i].toNat ∧ s[i].toNat ≤ 223
  · by_cases h3 : i + 2 ≤ s.size
    · rw [bt_self s (i + 1) (by omega)]
      by_cases g1 : s[i + 1].toNat / 64 = 2
      · rw [show signN (s.size - i) s[i].toNat s[i + 1].toNat (bt s.data.toList (i + 2)) (bt s.data.toList (i + 3)) = 2 by rw [signN, if_neg ca, if_pos cb, if_pos ⟨by omega, g1⟩]]
        exact sign_2_ok s i hs hi cb.1 cb.2 h3 g1 w
      · rw [show signN (s.size - i) s[i].toNat s[i + 1].toNat (bt s.data.toList (i + 2)) (bt s.data.toList (i + 3)) = 0 by rw [signN, if_neg ca, if_pos cb, if_neg (by omega)]]
        exact sign_2_bad1 s i hs hi cb.1 cb.2 h3 g1 w
    · rw [show signN (s.size - i) s[i].toNat (bt s.data.toList (i + 1)) (bt s.data.toList (i + 2)) (bt s.data.toList (i + 3)) = 0 by rw [signN, if_neg ca, if_pos cb, if_neg (by omega)]]
      exact sign_2_short s i hs hi cb.1 cb.2 (by omega) w
  by_cases cc : 224 ≤ s[i].toNat ∧ s[i].toNat ≤ 239
  · by_cases h3 : i + 3 ≤ s.size
    · rw [bt_self s (i + 1) (by omega), bt_self s (i + 2) (by omega)]
      have e0 : ∀ r, (if (2 < s.size - i ∧ s[i + 1].toNat / 64 = 2 ∧ s[i + 2].toNat / 64 = 2) ∧ ¬ (s[i].toNat % 16 * 4096 + s[i + 1].toNat % 64 * 64 + s[i + 2].toNat % 64 < 2048) ∧ ¬ (55296 ≤ s[i].toNat % 16 * 4096 + s[i + 1].toNat % 64 * 64 + s[i + 2].toNat % 64 ∧ s[i].toNat % 16 * 4096 + s[i + 1].toNat % 64 * 64 + s[i + 2].toNat % 64 ≤ 57343) then 3 else 0) = r → signN (s.size - i) s[i].toNat s[i + 1].toNat s[i + 2].toNat (bt s.data.toList (i + 3)) = r := fun r h => by
        rw [signN, if_neg ca, if_neg cb, if_pos cc]; exact h
      by_cases g1 : s[i + 1].toNat / 64 = 2
      · by_cases g2 : s[i + 2].toNat / 64 = 2
        · by_cases q1 : s[i].toNat % 16 * 4096 + s[i + 1].toNat % 64 * 64 + s[i + 2].toNat % 64 < 2048
          · rw [e0 0 (if_neg (by omega))]; exact sign_3_low s i hs hi cc.1 cc.2 h3 g1 g2 q1 w
          · by_cases q2 : s[i].toNat % 16 * 4096 + s[i + 1].toNat % 64 * 64 + s[i + 2].toNat % 64 < 55296
            · rw [e0 3 (if_pos (by omega))]; exact sign_3_ok1 s i hs hi cc.1 cc.2 h3 g1 g2 (by omega) q2 w
            · by_cases q3 : s[i].toNat % 16 * 4096 + s[i + 1].toNat % 64 * 64 + s[i + 2].toNat % 64 ≤ 57343
              · rw [e0 0 (if_neg (by omega))]; exact sign_3_sur s i hs hi cc.1 cc.2 h3 g1 g2 (by omega) q3 w
              · rw [e0 3 (if_pos (by omega))]; exact sign_3_ok2 s i hs hi cc.1 cc.2 h3 g1 g2 (by omega) w
        · rw [e0 0 (if_neg (by omega))]; exact sign_3_bad2 s i hs hi cc.1 cc.2 h3 g1 g2 w
      · rw [e0 0 (if_neg (by omega))]; exact sign_3_bad1 s i hs hi cc.1 cc.2 h3 g1 w
    · rw [show signN (s.size - i) s[i].toNat (bt s.data.toList (i + 1)) (bt s.data.toList (i + 2)) (bt s.data.toList (i + 3)) = 0 by rw [signN, if_neg ca, if_neg cb, if_pos cc, if_neg (by omega)]]
      exact sign_3_short s i hs hi cc.1 cc.2 (by omega) w
  by_cases cd : 240 ≤ s[i].toNat ∧ s[i].toNat ≤ 244
  · by_cases h3 : i + 4 ≤ s.size
    · rw [bt_self s (i + 1) (by omega), bt_self s (i + 2) (by omega), bt_self s (i + 3) (by omega)]
      have e0 : ∀ r, (if (3 < s.size - i ∧ s[i + 1].toNat / 64 = 2 ∧ s[i + 2].toNat / 64 = 2 ∧ s[i + 3].toNat / 64 = 2) ∧ ¬ (s[i].toNat % 8 * 262144 + s[i + 1].toNat % 64 * 4096 + s[i + 2].toNat % 64 * 64 + s[i + 3].toNat % 64 < 65536) ∧ ¬ (1114111 < s[i].toNat % 8 * 262144 + s[i + 1].toNat % 64 * 4096 + s[i + 2].toNat % 64 * 64 + s[i + 3].toNat % 64) then 4 else 0) = r → signN (s.size - i) s[i].toNat s[i + 1].toNat s[i + 2].toNat s[i + 3].toNat = r := fun r h => by
        rw [signN, if_neg ca, if_neg cb, if_neg cc, if_pos cd]; exact h
      by_cases g1 : s[i + 1].toNat / 64 = 2
      · by_cases g2 : s[i + 2].toNat / 64 = 2
        · by_cases g3 : s[i + 3].toNat / 64 = 2
          · by_cases q1 : s[i].toNat % 8 * 262144 + s[i + 1].toNat % 64 * 4096 + s[i + 2].toNat % 64 * 64 + s[i + 3].toNat % 64 < 65536
            · rw [e0 0 (if_neg (by omega))]; exact sign_4_low s i hs hi cd.1 cd.2 h3 g1 g2 g3 q1 w
            · by_cases q2 : 1114111 < s[i].toNat % 8 * 262144 + s[i + 1].toNat % 64 * 4096 + s[i + 2].toNat % 64 * 64 + s[i + 3].toNat % 64
              · rw [e0 0 (if_neg (by omega))]; exact sign_4_high s i hs hi cd.1 cd.2 h3 g1 g2 g3 q2 w
              · rw [e0 4 (if_pos (by omega))]; exact sign_4_ok s i hs hi cd.1 cd.2 h3 g1 g2 g3 (by omega) (by omega) w
          · rw [e0 0 (if_neg (by omega))]; exact sign_4_bad3 s i hs hi cd.1 cd.2 h3 g1 g2 g3 w
        · rw [e0 0 (if_neg (by omega))]; exact sign_4_bad2 s i hs hi cd.1 cd.2 h3 g1 g2 w
      · rw [e0 0 (if_neg (by omega))]; exact sign_4_bad1 s i hs hi cd.1 cd.2 h3 g1 w
    · rw [show signN (s.size - i) s[i].toNat (bt s.data.toList (i + 1)) (bt s.data.toList (i + 2)) (bt s.data.toList (i + 3)) = 0 by rw [signN, if_neg ca, if_neg cb, if_neg cc, if_pos cd, if_neg (by omega)]]
      exact sign_4_short s i hs hi cd.1 cd.2 (by omega) w
  · rw [show signN (s.size - i) s[i].toNat (bt s.data.toList (i + 1)) (bt s.data.toList (i + 2)) (bt s.data.toList (i + 3)) = 0 by rw [signN, if_neg ca, if_neg cb, if_neg cc, if_neg cd]]
    exact sign_e s i hs hi (by omega) w

end Go.Proofs.YtpejlcaoggedfaaGreatDoor
