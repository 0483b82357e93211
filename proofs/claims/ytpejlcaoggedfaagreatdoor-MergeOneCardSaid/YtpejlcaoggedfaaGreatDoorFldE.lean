/-
  Fields: the canonical field, the reference's, none.
-/
import Derived.Test.YtpejlcaoggedfaaGreatDoorFldC
import Derived.Test.YtpejlcaoggedfaaGreatDoorRowLaw
set_option linter.unusedVariables false
set_option linter.unusedSimpArgs false
namespace Go.Proofs.YtpejlcaoggedfaaGreatDoor
open Go.RowKit

set_option maxRecDepth 100000 in
set_option maxHeartbeats 2000000 in
theorem rcanon_bad (k l : Int) (v : ByteArray) (w : World) (hh : k < 1 ∨ 6 < k ∨ l < 0 ∨ 3 < l ∨ ((l = 1 ∨ l = 2) ∧ k ≠ 3 ∧ k ≠ 4) ∨ (l = 3 ∧ k ≠ 3)) :
    Calls Tryz.prog 38 #[.agg #[.int .i64 k, .int .i64 l, .string v]] w fun e w' => e = .returned (fldR noFld 1) ∧ Below w.heap.size w w' := by
  obtain ⟨X, hX⟩ : ∃ X, X = (w.alloc (.cells #[.int .i64 k, .int .i64 l, .string v] 36)).alloc (.cells #[.int .i64 0, .int .i64 0, .string ⟨#[]⟩] 36) := ⟨_, rfl⟩
  have HC := hd (fun W (hb : Below X.heap.size X W) => two_cell w W 36 #[.int .i64 k, .int .i64 l, .string v] #[.int .i64 0, .int .i64 0, .string ⟨#[]⟩] (by rw [← hX]; exact hb))
  have HW := hd (fun W (hb : Below X.heap.size X W) => two_bel w W (.cells #[.int .i64 k, .int .i64 l, .string v] 36) (.cells #[.int .i64 0, .int .i64 0, .string ⟨#[]⟩] 36) (by rw [← hX]; exact hb))
  have HB0 := hd (Below.refl X.heap.size X)
  have hx := hd hX
  clear hX
  by_cases c1 : k < 1
  · clear hh
    go_enter Tryz.func38, Tryz.ntmps38
    go_wp2_with fail
    rw [← hx.o]
    obtain ⟨k1, k2⟩ := HC.o _ HB0.o
    have a0 := k1.at_ 0 rfl
    have a1 := k1.at_ 1 rfl
    have a2 := k1.at_ 2 rfl
    have f0 := k1.frozen 0
    have f1 := k1.frozen 1
    have f2 := k1.frozen 2
    have b0 := k2.at_ 0 rfl
    have b1 := k2.at_ 1 rfl
    have b2 := k2.at_ 2 rfl
    have g0 := k2.frozen 0
    have g1 := k2.frozen 1
    have g2 := k2.frozen 2
    have hl : w.heap.size < _ := k1.lt
    have hl2 : w.heap.size + 1 < _ := k2.lt
    have K1 := hd k1
    have K2 := hd k2
    clear k1 k2
    go_wp2
    (try simp only [Exit.inBlock, Exit.then])
    refine bodyPost_ret (res_cell rfl _ _ _ _ _ _ _ rfl K2.o rfl rfl rfl) rfl ⟨?_, ?_⟩
    · exact retF (f := noFld) (a := 1) rfl rfl
    · exact (HW.o _ HB0.o)
  by_cases c2 : 6 < k
  · clear hh
    go_enter Tryz.func38, Tryz.ntmps38
    go_wp2_with fail
    rw [← hx.o]
    obtain ⟨k1, k2⟩ := HC.o _ HB0.o
    have a0 := k1.at_ 0 rfl
    have a1 := k1.at_ 1 rfl
    have a2 := k1.at_ 2 rfl
    have f0 := k1.frozen 0
    have f1 := k1.frozen 1
    have f2 := k1.frozen 2
    have b0 := k2.at_ 0 rfl
    have b1 := k2.at_ 1 rfl
    have b2 := k2.at_ 2 rfl
    have g0 := k2.frozen 0
    have g1 := k2.frozen 1
    have g2 := k2.frozen 2
    have hl : w.heap.size < _ := k1.lt
    have hl2 : w.heap.size + 1 < _ := k2.lt
    have K1 := hd k1
    have K2 := hd k2
    clear k1 k2
    go_wp2
    (try simp only [Exit.inBlock, Exit.then])
    refine bodyPost_ret (res_cell rfl _ _ _ _ _ _ _ rfl K2.o rfl rfl rfl) rfl ⟨?_, ?_⟩
    · exact retF (f := noFld) (a := 1) rfl rfl
    · exact (HW.o _ HB0.o)
  by_cases c3 : l < 0
  · clear hh
    go_enter Tryz.func38, Tryz.ntmps38
    go_wp2_with fail
    rw [← hx.o]
    obtain ⟨k1, k2⟩ := HC.o _ HB0.o
    have a0 := k1.at_ 0 rfl
    have a1 := k1.at_ 1 rfl
    have a2 := k1.at_ 2 rfl
    have f0 := k1.frozen 0
    have f1 := k1.frozen 1
    have f2 := k1.frozen 2
    have b0 := k2.at_ 0 rfl
    have b1 := k2.at_ 1 rfl
    have b2 := k2.at_ 2 rfl
    have g0 := k2.frozen 0
    have g1 := k2.frozen 1
    have g2 := k2.frozen 2
    have hl : w.heap.size < _ := k1.lt
    have hl2 : w.heap.size + 1 < _ := k2.lt
    have K1 := hd k1
    have K2 := hd k2
    clear k1 k2
    go_wp2
    (try simp only [Exit.inBlock, Exit.then])
    refine bodyPost_ret (res_cell rfl _ _ _ _ _ _ _ rfl K2.o rfl rfl rfl) rfl ⟨?_, ?_⟩
    · exact retF (f := noFld) (a := 1) rfl rfl
    · exact (HW.o _ HB0.o)
  by_cases c4 : 3 < l
  · clear hh
    go_enter Tryz.func38, Tryz.ntmps38
    go_wp2_with fail
    rw [← hx.o]
    obtain ⟨k1, k2⟩ := HC.o _ HB0.o
    have a0 := k1.at_ 0 rfl
    have a1 := k1.at_ 1 rfl
    have a2 := k1.at_ 2 rfl
    have f0 := k1.frozen 0
    have f1 := k1.frozen 1
    have f2 := k1.frozen 2
    have b0 := k2.at_ 0 rfl
    have b1 := k2.at_ 1 rfl
    have b2 := k2.at_ 2 rfl
    have g0 := k2.frozen 0
    have g1 := k2.frozen 1
    have g2 := k2.frozen 2
    have hl : w.heap.size < _ := k1.lt
    have hl2 : w.heap.size + 1 < _ := k2.lt
    have K1 := hd k1
    have K2 := hd k2
    clear k1 k2
    go_wp2
    (try simp only [Exit.inBlock, Exit.then])
    refine bodyPost_ret (res_cell rfl _ _ _ _ _ _ _ rfl K2.o rfl rfl rfl) rfl ⟨?_, ?_⟩
    · exact retF (f := noFld) (a := 1) rfl rfl
    · exact (HW.o _ HB0.o)
  have n3 : (k != 3) = true := by simp; omega
  by_cases c5 : l = 3
  · clear hh c3 c4
    subst c5
    by_cases c6 : k = 4
    · subst c6
      go_enter Tryz.func38, Tryz.ntmps38
      go_wp2_with fail
      rw [← hx.o]
      obtain ⟨k1, k2⟩ := HC.o _ HB0.o
      have a0 := k1.at_ 0 rfl
      have a1 := k1.at_ 1 rfl
      have a2 := k1.at_ 2 rfl
      have f0 := k1.frozen 0
      have f1 := k1.frozen 1
      have f2 := k1.frozen 2
      have b0 := k2.at_ 0 rfl
      have b1 := k2.at_ 1 rfl
      have b2 := k2.at_ 2 rfl
      have g0 := k2.frozen 0
      have g1 := k2.frozen 1
      have g2 := k2.frozen 2
      have hl : w.heap.size < _ := k1.lt
      have hl2 : w.heap.size + 1 < _ := k2.lt
      have K1 := hd k1
      have K2 := hd k2
      clear k1 k2
      go_wp2
      (try simp only [Exit.inBlock, Exit.then])
      refine bodyPost_ret (res_cell rfl _ _ _ _ _ _ _ rfl K2.o rfl rfl rfl) rfl ⟨?_, ?_⟩
      · exact retF (f := noFld) (a := 1) rfl rfl
      · exact (HW.o _ HB0.o)
    · have n4 : (k != 4) = true := by simpa using c6
      clear c6
      go_enter Tryz.func38, Tryz.ntmps38
      go_wp2_with fail
      rw [← hx.o]
      obtain ⟨k1, k2⟩ := HC.o _ HB0.o
      have a0 := k1.at_ 0 rfl
      have a1 := k1.at_ 1 rfl
      have a2 := k1.at_ 2 rfl
      have f0 := k1.frozen 0
      have f1 := k1.frozen 1
      have f2 := k1.frozen 2
      have b0 := k2.at_ 0 rfl
      have b1 := k2.at_ 1 rfl
      have b2 := k2.at_ 2 rfl
      have g0 := k2.frozen 0
      have g1 := k2.frozen 1
      have g2 := k2.frozen 2
      have hl : w.heap.size < _ := k1.lt
      have hl2 : w.heap.size + 1 < _ := k2.lt
      have K1 := hd k1
      have K2 := hd k2
      clear k1 k2
      go_wp2
      (try simp only [Exit.inBlock, Exit.then])
      refine bodyPost_ret (res_cell rfl _ _ _ _ _ _ _ rfl K2.o rfl rfl rfl) rfl ⟨?_, ?_⟩
      · exact retF (f := noFld) (a := 1) rfl rfl
      · exact (HW.o _ HB0.o)
  have n4 : (k != 4) = true := by simp; omega
  have nl : (l != 0) = true := by simp; omega
  clear hh c5
  go_enter Tryz.func38, Tryz.ntmps38
  go_wp2_with fail
  rw [← hx.o]
  obtain ⟨k1, k2⟩ := HC.o _ HB0.o
  have a0 := k1.at_ 0 rfl
  have a1 := k1.at_ 1 rfl
  have a2 := k1.at_ 2 rfl
  have f0 := k1.frozen 0
  have f1 := k1.frozen 1
  have f2 := k1.frozen 2
  have b0 := k2.at_ 0 rfl
  have b1 := k2.at_ 1 rfl
  have b2 := k2.at_ 2 rfl
  have g0 := k2.frozen 0
  have g1 := k2.frozen 1
  have g2 := k2.frozen 2
  have hl : w.heap.size < _ := k1.lt
  have hl2 : w.heap.size + 1 < _ := k2.lt
  have K1 := hd k1
  have K2 := hd k2
  clear k1 k2
  go_wp2
  (try simp only [Exit.inBlock, Exit.then])
  refine bodyPost_ret (res_cell rfl _ _ _ _ _ _ _ rfl K2.o rfl rfl rfl) rfl ⟨?_, ?_⟩
  · exact retF (f := noFld) (a := 1) rfl rfl
  · exact (HW.o _ HB0.o)

end Go.Proofs.YtpejlcaoggedfaaGreatDoor
