/-
  Fields: the canonical field, the reference's, over what is called.
-/
import Derived.Test.YtogjokofmfpmgaaGreatDoorGAF
import Derived.Test.YtogjokofmfpmgaaGreatDoorGAC
import Derived.Test.YtogjokofmfpmgaaGreatDoorGAE
import Derived.Lib.QuietBelow
import Derived.IntWalk
import Derived.Laws.BytesArg
set_option linter.unusedVariables false
set_option linter.unusedSimpArgs false
namespace Go.Proofs.YtogjokofmfpmgaaGreatDoor
open Go.RowKit

set_option maxRecDepth 100000 in
set_option maxHeartbeats 2000000 in
theorem rcanon_3 (l : Int) (hl : l = 0 ∨ l = 1 ∨ l = 2 ∨ l = 3) (v : ByteArray) (T : List UInt8) (E : Int) (R : Int) (HR : Hd (R = E)) (w : World)
    (H3 : Hd (∀ W, Below w.heap.size w W → Calls Tryz.prog 130 #[.string v] W fun e w' => e = .returned (.tuple #[.string (bs T), .int .i64 E]) ∧ Below W.heap.size W w')) :
    Calls Tryz.prog 118 #[.agg #[.int .i64 3, .int .i64 l, .string v]] w fun e w' => e = .returned (fldR (resF ⟨3, l, T⟩ R) R) ∧ Below w.heap.size w w' := by
  obtain ⟨X, hX⟩ : ∃ X, X = (w.alloc (.cells #[.int .i64 3, .int .i64 l, .string v] 128)).alloc (.cells #[.int .i64 0, .int .i64 0, .string ⟨#[]⟩] 128) := ⟨_, rfl⟩
  have HC := hd (fun W (hb : Below X.heap.size X W) => two_cell w W 128 #[.int .i64 3, .int .i64 l, .string v] #[.int .i64 0, .int .i64 0, .string ⟨#[]⟩] (by rw [← hX]; exact hb))
  have HW := hd (fun W (hb : Below X.heap.size X W) => two_bel w W (.cells #[.int .i64 3, .int .i64 l, .string v] 128) (.cells #[.int .i64 0, .int .i64 0, .string ⟨#[]⟩] 128) (by rw [← hX]; exact hb))
  have HB0 := hd (Below.refl X.heap.size X)
  have hx := hd hX
  clear hX
  rcases hl with rfl | rfl | rfl | rfl
  all_goals
    (by_cases hE : E = 0
     · subst hE
       go_enter Tryz.func118, Tryz.ntmps118
       go_wp2_with fail
       rw [← hx.o]
       obtain ⟨k1, k2⟩ := HC.o _ HB0.o
       have a0 := k1.at_ 0 rfl
       have a1 := k1.at_ 1 rfl
       have a2 := k1.at_ 2 rfl
       have f0 := k1.frozen 0
       have f1 := k1.frozen 1
       have f2 := k1.frozen 2
       have b0 := k2.at_ 0 rfl
       have b1 := k2.at_ 1 rfl
       have b2 := k2.at_ 2 rfl
       have g0 := k2.frozen 0
       have g1 := k2.frozen 1
       have g2 := k2.frozen 2
       have hl : w.heap.size < _ := k1.lt
       have hl2 : w.heap.size + 1 < _ := k2.lt
       have K1 := hd k1
       have K2 := hd k2
       clear k1 k2
       go_wp2_with fail
       refine (H3.o _ (HW.o _ HB0.o)).mono ?_
       rintro e w2 ⟨rfl, hb2⟩
       have HB2 := hd hb2
       clear hb2
       clear a0 a1 a2 f0 f1 f2 b0 b1 b2 g0 g1 g2 hl hl2 K1 K2
       obtain ⟨k1, k2⟩ := HC.o _ HB2.o
       have a0 := k1.at_ 0 rfl
       have a1 := k1.at_ 1 rfl
       have a2 := k1.at_ 2 rfl
       have f0 := k1.frozen 0
       have f1 := k1.frozen 1
       have f2 := k1.frozen 2
       have b0 := k2.at_ 0 rfl
       have b1 := k2.at_ 1 rfl
       have b2 := k2.at_ 2 rfl
       have g0 := k2.frozen 0
       have g1 := k2.frozen 1
       have g2 := k2.frozen 2
       have hl : w.heap.size < _ := k1.lt
       have hl2 : w.heap.size + 1 < _ := k2.lt
       have K1 := hd k1
       have K2 := hd k2
       clear k1 k2
       go_wp2
       (try simp only [Exit.inBlock, Exit.then])
       refine bodyPost_ret (res_cell rfl _ _ _ _ _ _ _ rfl (((K2.o.set_ 0 _).set_ 1 _).set_ 2 _) rfl rfl rfl) rfl ⟨?_, ?_⟩
       · exact retF (f := ⟨3, _, T⟩) (a := 0) (by rw [HR.o, resF_0]) (by rw [HR.o])
       · exact ((((HW.o _ HB2.o).setCell (Nat.le_succ _) _).setCell (Nat.le_succ _) _).setCell (Nat.le_succ _) _)
     · have nE : (E != 0) = true := by simpa using hE
       have eE : (E == 0) = false := by simpa using hE
       have HE := hd hE
       clear hE
       go_enter Tryz.func118, Tryz.ntmps118
       go_wp2_with fail
       rw [← hx.o]
       obtain ⟨k1, k2⟩ := HC.o _ HB0.o
       have a0 := k1.at_ 0 rfl
       have a1 := k1.at_ 1 rfl
       have a2 := k1.at_ 2 rfl
       have f0 := k1.frozen 0
       have f1 := k1.frozen 1
       have f2 := k1.frozen 2
       have b0 := k2.at_ 0 rfl
       have b1 := k2.at_ 1 rfl
       have b2 := k2.at_ 2 rfl
       have g0 := k2.frozen 0
       have g1 := k2.frozen 1
       have g2 := k2.frozen 2
       have hl : w.heap.size < _ := k1.lt
       have hl2 : w.heap.size + 1 < _ := k2.lt
       have K1 := hd k1
       have K2 := hd k2
       clear k1 k2
       go_wp2_with fail
       refine (H3.o _ (HW.o _ HB0.o)).mono ?_
       rintro e w2 ⟨rfl, hb2⟩
       have HB2 := hd hb2
       clear hb2
       clear a0 a1 a2 f0 f1 f2 b0 b1 b2 g0 g1 g2 hl hl2 K1 K2
       obtain ⟨k1, k2⟩ := HC.o _ HB2.o
       have a0 := k1.at_ 0 rfl
       have a1 := k1.at_ 1 rfl
       have a2 := k1.at_ 2 rfl
       have f0 := k1.frozen 0
       have f1 := k1.frozen 1
       have f2 := k1.frozen 2
       have b0 := k2.at_ 0 rfl
       have b1 := k2.at_ 1 rfl
       have b2 := k2.at_ 2 rfl
       have g0 := k2.frozen 0
       have g1 := k2.frozen 1
       have g2 := k2.frozen 2
       have hl : w.heap.size < _ := k1.lt
       have hl2 : w.heap.size + 1 < _ := k2.lt
       have K1 := hd k1
       have K2 := hd k2
       clear k1 k2
       go_wp2
       (try simp only [Exit.inBlock, Exit.then])
       refine bodyPost_ret (res_cell rfl _ _ _ _ _ _ _ rfl (((K2.o.set_ 0 _).set_ 1 _).set_ 2 _) rfl rfl rfl) rfl ⟨?_, ?_⟩
       · exact retF (f := noFld) (a := E) (by rw [HR.o, resF_e _ HE.o]) (by rw [HR.o])
       · exact ((((HW.o _ HB2.o).setCell (Nat.le_succ _) _).setCell (Nat.le_succ _) _).setCell (Nat.le_succ _) _))

set_option maxRecDepth 100000 in
set_option maxHeartbeats 2000000 in
theorem rcanon_4 (l : Int) (hl : l = 0 ∨ l = 1 ∨ l = 2) (v : ByteArray) (T : List UInt8) (E : Int) (R : Int) (HR : Hd (R = E)) (w : World)
    (H3 : Hd (∀ W, Below w.heap.size w W → Calls Tryz.prog 131 #[.string v] W fun e w' => e = .returned (.tuple #[.string (bs T), .int .i64 E]) ∧ Below W.heap.size W w')) :
    Calls Tryz.prog 118 #[.agg #[.int .i64 4, .int .i64 l, .string v]] w fun e w' => e = .returned (fldR (resF ⟨4, l, T⟩ R) R) ∧ Below w.heap.size w w' := by
  obtain ⟨X, hX⟩ : ∃ X, X = (w.alloc (.cells #[.int .i64 4, .int .i64 l, .string v] 128)).alloc (.cells #[.int .i64 0, .int .i64 0, .string ⟨#[]⟩] 128) := ⟨_, rfl⟩
  have HC := hd (fun W (hb : Below X.heap.size X W) => two_cell w W 128 #[.int .i64 4, .int .i64 l, .string v] #[.int .i64 0, .int .i64 0, .string ⟨#[]⟩] (by rw [← hX]; exact hb))
  have HW := hd (fun W (hb : Below X.heap.size X W) => two_bel w W (.cells #[.int .i64 4, .int .i64 l, .string v] 128) (.cells #[.int .i64 0, .int .i64 0, .string ⟨#[]⟩] 128) (by rw [← hX]; exact hb))
  have HB0 := hd (Below.refl X.heap.size X)
  have hx := hd hX
  clear hX
  rcases hl with rfl | rfl | rfl
  all_goals
    (by_cases hE : E = 0
     · subst hE
       go_enter Tryz.func118, Tryz.ntmps118
       go_wp2_with fail
       rw [← hx.o]
       obtain ⟨k1, k2⟩ := HC.o _ HB0.o
       have a0 := k1.at_ 0 rfl
       have a1 := k1.at_ 1 rfl
       have a2 := k1.at_ 2 rfl
       have f0 := k1.frozen 0
       have f1 := k1.frozen 1
       have f2 := k1.frozen 2
       have b0 := k2.at_ 0 rfl
       have b1 := k2.at_ 1 rfl
       have b2 := k2.at_ 2 rfl
       have g0 := k2.frozen 0
       have g1 := k2.frozen 1
       have g2 := k2.frozen 2
       have hl : w.heap.size < _ := k1.lt
       have hl2 : w.heap.size + 1 < _ := k2.lt
       have K1 := hd k1
       have K2 := hd k2
       clear k1 k2
       go_wp2_with fail
       refine (H3.o _ (HW.o _ HB0.o)).mono ?_
       rintro e w2 ⟨rfl, hb2⟩
       have HB2 := hd hb2
       clear hb2
       clear a0 a1 a2 f0 f1 f2 b0 b1 b2 g0 g1 g2 hl hl2 K1 K2
       obtain ⟨k1, k2⟩ := HC.o _ HB2.o
       have a0 := k1.at_ 0 rfl
       have a1 := k1.at_ 1 rfl
       have a2 := k1.at_ 2 rfl
       have f0 := k1.frozen 0
       have f1 := k1.frozen 1
       have f2 := k1.frozen 2
       have b0 := k2.at_ 0 rfl
       have b1 := k2.at_ 1 rfl
       have b2 := k2.at_ 2 rfl
       have g0 := k2.frozen 0
       have g1 := k2.frozen 1
       have g2 := k2.frozen 2
       have hl : w.heap.size < _ := k1.lt
       have hl2 : w.heap.size + 1 < _ := k2.lt
       have K1 := hd k1
       have K2 := hd k2
       clear k1 k2
       go_wp2
       (try simp only [Exit.inBlock, Exit.then])
       refine bodyPost_ret (res_cell rfl _ _ _ _ _ _ _ rfl (((K2.o.set_ 0 _).set_ 1 _).set_ 2 _) rfl rfl rfl) rfl ⟨?_, ?_⟩
       · exact retF (f := ⟨4, _, T⟩) (a := 0) (by rw [HR.o, resF_0]) (by rw [HR.o])
       · exact ((((HW.o _ HB2.o).setCell (Nat.le_succ _) _).setCell (Nat.le_succ _) _).setCell (Nat.le_succ _) _)
     · have nE : (E != 0) = true := by simpa using hE
       have eE : (E == 0) = false := by simpa using hE
       have HE := hd hE
       clear hE
       go_enter Tryz.func118, Tryz.ntmps118
       go_wp2_with fail
       rw [← hx.o]
       obtain ⟨k1, k2⟩ := HC.o _ HB0.o
       have a0 := k1.at_ 0 rfl
       have a1 := k1.at_ 1 rfl
       have a2 := k1.at_ 2 rfl
       have f0 := k1.frozen 0
       have f1 := k1.frozen 1
       have f2 := k1.frozen 2
       have b0 := k2.at_ 0 rfl
       have b1 := k2.at_ 1 rfl
       have b2 := k2.at_ 2 rfl
       have g0 := k2.frozen 0
       have g1 := k2.frozen 1
       have g2 := k2.frozen 2
       have hl : w.heap.size < _ := k1.lt
       have hl2 : w.heap.size + 1 < _ := k2.lt
       have K1 := hd k1
       have K2 := hd k2
       clear k1 k2
       go_wp2_with fail
       refine (H3.o _ (HW.o _ HB0.o)).mono ?_
       rintro e w2 ⟨rfl, hb2⟩
       have HB2 := hd hb2
       clear hb2
       clear a0 a1 a2 f0 f1 f2 b0 b1 b2 g0 g1 g2 hl hl2 K1 K2
       obtain ⟨k1, k2⟩ := HC.o _ HB2.o
       have a0 := k1.at_ 0 rfl
       have a1 := k1.at_ 1 rfl
       have a2 := k1.at_ 2 rfl
       have f0 := k1.frozen 0
       have f1 := k1.frozen 1
       have f2 := k1.frozen 2
       have b0 := k2.at_ 0 rfl
       have b1 := k2.at_ 1 rfl
       have b2 := k2.at_ 2 rfl
       have g0 := k2.frozen 0
       have g1 := k2.frozen 1
       have g2 := k2.frozen 2
       have hl : w.heap.size < _ := k1.lt
       have hl2 : w.heap.size + 1 < _ := k2.lt
       have K1 := hd k1
       have K2 := hd k2
       clear k1 k2
       go_wp2
       (try simp only [Exit.inBlock, Exit.then])
       refine bodyPost_ret (res_cell rfl _ _ _ _ _ _ _ rfl (((K2.o.set_ 0 _).set_ 1 _).set_ 2 _) rfl rfl rfl) rfl ⟨?_, ?_⟩
       · exact retF (f := noFld) (a := E) (by rw [HR.o, resF_e _ HE.o]) (by rw [HR.o])
       · exact ((((HW.o _ HB2.o).setCell (Nat.le_succ _) _).setCell (Nat.le_succ _) _).setCell (Nat.le_succ _) _))

set_option maxRecDepth 100000 in
set_option maxHeartbeats 2000000 in
theorem rcanon_o (k : Int) (h1 : 1 ≤ k) (h6 : k ≤ 6) (h3 : k ≠ 3) (h4 : k ≠ 4) (v : ByteArray) (T : List UInt8) (E : Int) (y m d D : Int) (R : Int) (HR : Hd (R = if E = 0 ∧ k = 5 then D else E)) (w : World)
    (H3 : Hd (∀ W, Below w.heap.size w W → Calls Tryz.prog 132 #[.string v] W fun e w' => e = .returned (.tuple #[.string (bs T), .int .i64 E]) ∧ Below W.heap.size W w'))
    (H4 : Hd (∀ W, Below w.heap.size w W → Calls Tryz.prog 133 #[.string (bs T)] W fun e w' => e = .returned (.tuple #[.agg #[.int .i64 y, .int .i64 m, .int .i64 d], .int .i64 D]) ∧ Below W.heap.size W w')) :
    Calls Tryz.prog 118 #[.agg #[.int .i64 k, .int .i64 0, .string v]] w fun e w' => e = .returned (fldR (resF ⟨k, 0, T⟩ R) R) ∧ Below w.heap.size w w' := by
  obtain ⟨X, hX⟩ : ∃ X, X = (w.alloc (.cells #[.int .i64 k, .int .i64 0, .string v] 128)).alloc (.cells #[.int .i64 0, .int .i64 0, .string ⟨#[]⟩] 128) := ⟨_, rfl⟩
  have HC := hd (fun W (hb : Below X.heap.size X W) => two_cell w W 128 #[.int .i64 k, .int .i64 0, .string v] #[.int .i64 0, .int .i64 0, .string ⟨#[]⟩] (by rw [← hX]; exact hb))
  have HW := hd (fun W (hb : Below X.heap.size X W) => two_bel w W (.cells #[.int .i64 k, .int .i64 0, .string v] 128) (.cells #[.int .i64 0, .int .i64 0, .string ⟨#[]⟩] 128) (by rw [← hX]; exact hb))
  have HB0 := hd (Below.refl X.heap.size X)
  have hx := hd hX
  clear hX
  have n3 : (k == 3) = false := by simpa using h3
  have n4 : (k == 4) = false := by simpa using h4
  have m3 : (k != 3) = true := by simpa using h3
  have m4 : (k != 4) = true := by simpa using h4
  clear h3 h4
  by_cases hE : E = 0
  · subst hE
    by_cases h5 : k = 5
    · subst h5
      rw [if_pos ⟨rfl, rfl⟩] at HR
      by_cases hD : D = 0
      · subst hD
        go_enter Tryz.func118, Tryz.ntmps118
        go_wp2_with fail
        rw [← hx.o]
        obtain ⟨k1, k2⟩ := HC.o _ HB0.o
        have a0 := k1.at_ 0 rfl
        have a1 := k1.at_ 1 rfl
        have a2 := k1.at_ 2 rfl
        have f0 := k1.frozen 0
        have f1 := k1.frozen 1
        have f2 := k1.frozen 2
        have b0 := k2.at_ 0 rfl
        have b1 := k2.at_ 1 rfl
        have b2 := k2.at_ 2 rfl
        have g0 := k2.frozen 0
        have g1 := k2.frozen 1
        have g2 := k2.frozen 2
        have hl : w.heap.size < _ := k1.lt
        have hl2 : w.heap.size + 1 < _ := k2.lt
        have K1 := hd k1
        have K2 := hd k2
        clear k1 k2
        go_wp2_with fail
        refine (H3.o _ (HW.o _ HB0.o)).mono ?_
        rintro e w2 ⟨rfl, hb2⟩
        have HB2 := hd hb2
        clear hb2
        clear a0 a1 a2 f0 f1 f2 b0 b1 b2 g0 g1 g2 hl hl2 K1 K2
        obtain ⟨k1, k2⟩ := HC.o _ HB2.o
        have a0 := k1.at_ 0 rfl
        have a1 := k1.at_ 1 rfl
        have a2 := k1.at_ 2 rfl
        have f0 := k1.frozen 0
        have f1 := k1.frozen 1
        have f2 := k1.frozen 2
        have b0 := k2.at_ 0 rfl
        have b1 := k2.at_ 1 rfl
        have b2 := k2.at_ 2 rfl
        have g0 := k2.frozen 0
        have g1 := k2.frozen 1
        have g2 := k2.frozen 2
        have hl : w.heap.size < _ := k1.lt
        have hl2 : w.heap.size + 1 < _ := k2.lt
        have K1 := hd k1
        have K2 := hd k2
        clear k1 k2
        go_wp2_with fail
        refine (H4.o _ (HW.o _ HB2.o)).mono ?_
        rintro e w3 ⟨rfl, hb3⟩
        have HB3 := hd (HB2.o.trans (hb3.mono HB2.o.size))
        clear hb3
        clear a0 a1 a2 f0 f1 f2 b0 b1 b2 g0 g1 g2 hl hl2 K1 K2
        obtain ⟨k1, k2⟩ := HC.o _ HB3.o
        have a0 := k1.at_ 0 rfl
        have a1 := k1.at_ 1 rfl
        have a2 := k1.at_ 2 rfl
        have f0 := k1.frozen 0
        have f1 := k1.frozen 1
        have f2 := k1.frozen 2
        have b0 := k2.at_ 0 rfl
        have b1 := k2.at_ 1 rfl
        have b2 := k2.at_ 2 rfl
        have g0 := k2.frozen 0
        have g1 := k2.frozen 1
        have g2 := k2.frozen 2
        have hl : w.heap.size < _ := k1.lt
        have hl2 : w.heap.size + 1 < _ := k2.lt
        have K1 := hd k1
        have K2 := hd k2
        clear k1 k2
        go_wp2
        (try simp only [Exit.inBlock, Exit.then])
        refine bodyPost_ret (res_cell rfl _ _ _ _ _ _ _ rfl (((K2.o.set_ 0 _).set_ 1 _).set_ 2 _) rfl rfl rfl) rfl ⟨?_, ?_⟩
        · exact retF (f := ⟨5, 0, T⟩) (a := 0) (by rw [HR.o, resF_0]) (by rw [HR.o])
        · exact ((((HW.o _ HB3.o).setCell (Nat.le_succ _) _).setCell (Nat.le_succ _) _).setCell (Nat.le_succ _) _)
      · have nE : (D != 0) = true := by simpa using hD
        have eE : (D == 0) = false := by simpa using hD
        have HE := hd hD
        clear hD
        go_enter Tryz.func118, Tryz.ntmps118
        go_wp2_with fail
        rw [← hx.o]
        obtain ⟨k1, k2⟩ := HC.o _ HB0.o
        have a0 := k1.at_ 0 rfl
        have a1 := k1.at_ 1 rfl
        have a2 := k1.at_ 2 rfl
        have f0 := k1.frozen 0
        have f1 := k1.frozen 1
        have f2 := k1.frozen 2
        have b0 := k2.at_ 0 rfl
        have b1 := k2.at_ 1 rfl
        have b2 := k2.at_ 2 rfl
        have g0 := k2.frozen 0
        have g1 := k2.frozen 1
        have g2 := k2.frozen 2
        have hl : w.heap.size < _ := k1.lt
        have hl2 : w.heap.size + 1 < _ := k2.lt
        have K1 := hd k1
        have K2 := hd k2
        clear k1 k2
        go_wp2_with fail
        refine (H3.o _ (HW.o _ HB0.o)).mono ?_
        rintro e w2 ⟨rfl, hb2⟩
        have HB2 := hd hb2
        clear hb2
        clear a0 a1 a2 f0 f1 f2 b0 b1 b2 g0 g1 g2 hl hl2 K1 K2
        obtain ⟨k1, k2⟩ := HC.o _ HB2.o
        have a0 := k1.at_ 0 rfl
        have a1 := k1.at_ 1 rfl
        have a2 := k1.at_ 2 rfl
        have f0 := k1.frozen 0
        have f1 := k1.frozen 1
        have f2 := k1.frozen 2
        have b0 := k2.at_ 0 rfl
        have b1 := k2.at_ 1 rfl
        have b2 := k2.at_ 2 rfl
        have g0 := k2.frozen 0
        have g1 := k2.frozen 1
        have g2 := k2.frozen 2
        have hl : w.heap.size < _ := k1.lt
        have hl2 : w.heap.size + 1 < _ := k2.lt
        have K1 := hd k1
        have K2 := hd k2
        clear k1 k2
        go_wp2_with fail
        refine (H4.o _ (HW.o _ HB2.o)).mono ?_
        rintro e w3 ⟨rfl, hb3⟩
        have HB3 := hd (HB2.o.trans (hb3.mono HB2.o.size))
        clear hb3
        clear a0 a1 a2 f0 f1 f2 b0 b1 b2 g0 g1 g2 hl hl2 K1 K2
        obtain ⟨k1, k2⟩ := HC.o _ HB3.o
        have a0 := k1.at_ 0 rfl
        have a1 := k1.at_ 1 rfl
        have a2 := k1.at_ 2 rfl
        have f0 := k1.frozen 0
        have f1 := k1.frozen 1
        have f2 := k1.frozen 2
        have b0 := k2.at_ 0 rfl
        have b1 := k2.at_ 1 rfl
        have b2 := k2.at_ 2 rfl
        have g0 := k2.frozen 0
        have g1 := k2.frozen 1
        have g2 := k2.frozen 2
        have hl : w.heap.size < _ := k1.lt
        have hl2 : w.heap.size + 1 < _ := k2.lt
        have K1 := hd k1
        have K2 := hd k2
        clear k1 k2
        go_wp2
        (try simp only [Exit.inBlock, Exit.then])
        refine bodyPost_ret (res_cell rfl _ _ _ _ _ _ _ rfl (((K2.o.set_ 0 _).set_ 1 _).set_ 2 _) rfl rfl rfl) rfl ⟨?_, ?_⟩
        · exact retF (f := noFld) (a := D) (by rw [HR.o, resF_e _ HE.o]) (by rw [HR.o])
        · exact ((((HW.o _ HB3.o).setCell (Nat.le_succ _) _).setCell (Nat.le_succ _) _).setCell (Nat.le_succ _) _)
    · rw [if_neg (fun h => h5 h.2)] at HR
      have n5 : (k == 5) = false := by simpa using h5
      clear h5 H4
      go_enter Tryz.func118, Tryz.ntmps118
      go_wp2_with fail
      rw [← hx.o]
      obtain ⟨k1, k2⟩ := HC.o _ HB0.o
      have a0 := k1.at_ 0 rfl
      have a1 := k1.at_ 1 rfl
      have a2 := k1.at_ 2 rfl
      have f0 := k1.frozen 0
      have f1 := k1.frozen 1
      have f2 := k1.frozen 2
      have b0 := k2.at_ 0 rfl
      have b1 := k2.at_ 1 rfl
      have b2 := k2.at_ 2 rfl
      have g0 := k2.frozen 0
      have g1 := k2.frozen 1
      have g2 := k2.frozen 2
      have hl : w.heap.size < _ := k1.lt
      have hl2 : w.heap.size + 1 < _ := k2.lt
      have K1 := hd k1
      have K2 := hd k2
      clear k1 k2
      go_wp2_with fail
      refine (H3.o _ (HW.o _ HB0.o)).mono ?_
      rintro e w2 ⟨rfl, hb2⟩
      have HB2 := hd hb2
      clear hb2
      clear a0 a1 a2 f0 f1 f2 b0 b1 b2 g0 g1 g2 hl hl2 K1 K2
      obtain ⟨k1, k2⟩ := HC.o _ HB2.o
      have a0 := k1.at_ 0 rfl
      have a1 := k1.at_ 1 rfl
      have a2 := k1.at_ 2 rfl
      have f0 := k1.frozen 0
      have f1 := k1.frozen 1
      have f2 := k1.frozen 2
      have b0 := k2.at_ 0 rfl
      have b1 := k2.at_ 1 rfl
      have b2 := k2.at_ 2 rfl
      have g0 := k2.frozen 0
      have g1 := k2.frozen 1
      have g2 := k2.frozen 2
      have hl : w.heap.size < _ := k1.lt
      have hl2 : w.heap.size + 1 < _ := k2.lt
      have K1 := hd k1
      have K2 := hd k2
      clear k1 k2
      go_wp2
      (try simp only [Exit.inBlock, Exit.then])
      refine bodyPost_ret (res_cell rfl _ _ _ _ _ _ _ rfl (((K2.o.set_ 0 _).set_ 1 _).set_ 2 _) rfl rfl rfl) rfl ⟨?_, ?_⟩
      · exact retF (f := ⟨k, 0, T⟩) (a := 0) (by rw [HR.o, resF_0]) (by rw [HR.o])
      · exact ((((HW.o _ HB2.o).setCell (Nat.le_succ _) _).setCell (Nat.le_succ _) _).setCell (Nat.le_succ _) _)
  · rw [if_neg (fun h => hE h.1)] at HR
    have nE : (E != 0) = true := by simpa using hE
    have eE : (E == 0) = false := by simpa using hE
    have HE := hd hE
    clear hE H4
    go_enter Tryz.func118, Tryz.ntmps118
    go_wp2_with fail
    rw [← hx.o]
    obtain ⟨k1, k2⟩ := HC.o _ HB0.o
    have a0 := k1.at_ 0 rfl
    have a1 := k1.at_ 1 rfl
    have a2 := k1.at_ 2 rfl
    have f0 := k1.frozen 0
    have f1 := k1.frozen 1
    have f2 := k1.frozen 2
    have b0 := k2.at_ 0 rfl
    have b1 := k2.at_ 1 rfl
    have b2 := k2.at_ 2 rfl
    have g0 := k2.frozen 0
    have g1 := k2.frozen 1
    have g2 := k2.frozen 2
    have hl : w.heap.size < _ := k1.lt
    have hl2 : w.heap.size + 1 < _ := k2.lt
    have K1 := hd k1
    have K2 := hd k2
    clear k1 k2
    go_wp2_with fail
    refine (H3.o _ (HW.o _ HB0.o)).mono ?_
    rintro e w2 ⟨rfl, hb2⟩
    have HB2 := hd hb2
    clear hb2
    clear a0 a1 a2 f0 f1 f2 b0 b1 b2 g0 g1 g2 hl hl2 K1 K2
    obtain ⟨k1, k2⟩ := HC.o _ HB2.o
    have a0 := k1.at_ 0 rfl
    have a1 := k1.at_ 1 rfl
    have a2 := k1.at_ 2 rfl
    have f0 := k1.frozen 0
    have f1 := k1.frozen 1
    have f2 := k1.frozen 2
    have b0 := k2.at_ 0 rfl
    have b1 := k2.at_ 1 rfl
    have b2 := k2.at_ 2 rfl
    have g0 := k2.frozen 0
    have g1 := k2.frozen 1
    have g2 := k2.frozen 2
    have hl : w.heap.size < _ := k1.lt
    have hl2 : w.heap.size + 1 < _ := k2.lt
    have K1 := hd k1
    have K2 := hd k2
    clear k1 k2
    go_wp2
    (try simp only [Exit.inBlock, Exit.then])
    refine bodyPost_ret (res_cell rfl _ _ _ _ _ _ _ rfl (((K2.o.set_ 0 _).set_ 1 _).set_ 2 _) rfl rfl rfl) rfl ⟨?_, ?_⟩
    · exact retF (f := noFld) (a := E) (by rw [HR.o, resF_e _ HE.o]) (by rw [HR.o])
    · exact ((((HW.o _ HB2.o).setCell (Nat.le_succ _) _).setCell (Nat.le_succ _) _).setCell (Nat.le_succ _) _)

end Go.Proofs.YtogjokofmfpmgaaGreatDoor
namespace Go.Proofs.YtogjokofmfpmgaaGreatDoor
open Go.RowKit

set_option maxRecDepth 100000 in
set_option maxHeartbeats 2000000 in
theorem rcanon_bad (k l : Int) (v : ByteArray) (w : World) (hh : k < 1 ∨ 6 < k ∨ l < 0 ∨ 3 < l ∨ ((l = 1 ∨ l = 2) ∧ k ≠ 3 ∧ k ≠ 4) ∨ (l = 3 ∧ k ≠ 3)) :
    Calls Tryz.prog 118 #[.agg #[.int .i64 k, .int .i64 l, .string v]] w fun e w' => e = .returned (fldR noFld 1) ∧ Below w.heap.size w w' := by
  obtain ⟨X, hX⟩ : ∃ X, X = (w.alloc (.cells #[.int .i64 k, .int .i64 l, .string v] 128)).alloc (.cells #[.int .i64 0, .int .i64 0, .string ⟨#[]⟩] 128) := ⟨_, rfl⟩
  have HC := hd (fun W (hb : Below X.heap.size X W) => two_cell w W 128 #[.int .i64 k, .int .i64 l, .string v] #[.int .i64 0, .int .i64 0, .string ⟨#[]⟩] (by rw [← hX]; exact hb))
  have HW := hd (fun W (hb : Below X.heap.size X W) => two_bel w W (.cells #[.int .i64 k, .int .i64 l, .string v] 128) (.cells #[.int .i64 0, .int .i64 0, .string ⟨#[]⟩] 128) (by rw [← hX]; exact hb))
  have HB0 := hd (Below.refl X.heap.size X)
  have hx := hd hX
  clear hX
  by_cases c1 : k < 1
  · clear hh
    go_enter Tryz.func118, Tryz.ntmps118
    go_wp2_with fail
    rw [← hx.o]
    obtain ⟨k1, k2⟩ := HC.o _ HB0.o
    have a0 := k1.at_ 0 rfl
    have a1 := k1.at_ 1 rfl
    have a2 := k1.at_ 2 rfl
    have f0 := k1.frozen 0
    have f1 := k1.frozen 1
    have f2 := k1.frozen 2
    have b0 := k2.at_ 0 rfl
    have b1 := k2.at_ 1 rfl
    have b2 := k2.at_ 2 rfl
    have g0 := k2.frozen 0
    have g1 := k2.frozen 1
    have g2 := k2.frozen 2
    have hl : w.heap.size < _ := k1.lt
    have hl2 : w.heap.size + 1 < _ := k2.lt
    have K1 := hd k1
    have K2 := hd k2
    clear k1 k2
    go_wp2
    (try simp only [Exit.inBlock, Exit.then])
    refine bodyPost_ret (res_cell rfl _ _ _ _ _ _ _ rfl K2.o rfl rfl rfl) rfl ⟨?_, ?_⟩
    · exact retF (f := noFld) (a := 1) rfl rfl
    · exact (HW.o _ HB0.o)
  by_cases c2 : 6 < k
  · clear hh
    go_enter Tryz.func118, Tryz.ntmps118
    go_wp2_with fail
    rw [← hx.o]
    obtain ⟨k1, k2⟩ := HC.o _ HB0.o
    have a0 := k1.at_ 0 rfl
    have a1 := k1.at_ 1 rfl
    have a2 := k1.at_ 2 rfl
    have f0 := k1.frozen 0
    have f1 := k1.frozen 1
    have f2 := k1.frozen 2
    have b0 := k2.at_ 0 rfl
    have b1 := k2.at_ 1 rfl
    have b2 := k2.at_ 2 rfl
    have g0 := k2.frozen 0
    have g1 := k2.frozen 1
    have g2 := k2.frozen 2
    have hl : w.heap.size < _ := k1.lt
    have hl2 : w.heap.size + 1 < _ := k2.lt
    have K1 := hd k1
    have K2 := hd k2
    clear k1 k2
    go_wp2
    (try simp only [Exit.inBlock, Exit.then])
    refine bodyPost_ret (res_cell rfl _ _ _ _ _ _ _ rfl K2.o rfl rfl rfl) rfl ⟨?_, ?_⟩
    · exact retF (f := noFld) (a := 1) rfl rfl
    · exact (HW.o _ HB0.o)
  by_cases c3 : l < 0
  · clear hh
    go_enter Tryz.func118, Tryz.ntmps118
    go_wp2_with fail
    rw [← hx.o]
    obtain ⟨k1, k2⟩ := HC.o _ HB0.o
    have a0 := k1.at_ 0 rfl
    have a1 := k1.at_ 1 rfl
    have a2 := k1.at_ 2 rfl
    have f0 := k1.frozen 0
    have f1 := k1.frozen 1
    have f2 := k1.frozen 2
    have b0 := k2.at_ 0 rfl
    have b1 := k2.at_ 1 rfl
    have b2 := k2.at_ 2 rfl
    have g0 := k2.frozen 0
    have g1 := k2.frozen 1
    have g2 := k2.frozen 2
    have hl : w.heap.size < _ := k1.lt
    have hl2 : w.heap.size + 1 < _ := k2.lt
    have K1 := hd k1
    have K2 := hd k2
    clear k1 k2
    go_wp2
    (try simp only [Exit.inBlock, Exit.then])
    refine bodyPost_ret (res_cell rfl _ _ _ _ _ _ _ rfl K2.o rfl rfl rfl) rfl ⟨?_, ?_⟩
    · exact retF (f := noFld) (a := 1) rfl rfl
    · exact (HW.o _ HB0.o)
  by_cases c4 : 3 < l
  · clear hh
    go_enter Tryz.func118, Tryz.ntmps118
    go_wp2_with fail
    rw [← hx.o]
    obtain ⟨k1, k2⟩ := HC.o _ HB0.o
    have a0 := k1.at_ 0 rfl
    have a1 := k1.at_ 1 rfl
    have a2 := k1.at_ 2 rfl
    have f0 := k1.frozen 0
    have f1 := k1.frozen 1
    have f2 := k1.frozen 2
    have b0 := k2.at_ 0 rfl
    have b1 := k2.at_ 1 rfl
    have b2 := k2.at_ 2 rfl
    have g0 := k2.frozen 0
    have g1 := k2.frozen 1
    have g2 := k2.frozen 2
    have hl : w.heap.size < _ := k1.lt
    have hl2 : w.heap.size + 1 < _ := k2.lt
    have K1 := hd k1
    have K2 := hd k2
    clear k1 k2
    go_wp2
    (try simp only [Exit.inBlock, Exit.then])
    refine bodyPost_ret (res_cell rfl _ _ _ _ _ _ _ rfl K2.o rfl rfl rfl) rfl ⟨?_, ?_⟩
    · exact retF (f := noFld) (a := 1) rfl rfl
    · exact (HW.o _ HB0.o)
  have n3 : (k != 3) = true := by simp; omega
  by_cases c5 : l = 3
  · clear hh c3 c4
    subst c5
    by_cases c6 : k = 4
    · subst c6
      go_enter Tryz.func118, Tryz.ntmps118
      go_wp2_with fail
      rw [← hx.o]
      obtain ⟨k1, k2⟩ := HC.o _ HB0.o
      have a0 := k1.at_ 0 rfl
      have a1 := k1.at_ 1 rfl
      have a2 := k1.at_ 2 rfl
      have f0 := k1.frozen 0
      have f1 := k1.frozen 1
      have f2 := k1.frozen 2
      have b0 := k2.at_ 0 rfl
      have b1 := k2.at_ 1 rfl
      have b2 := k2.at_ 2 rfl
      have g0 := k2.frozen 0
      have g1 := k2.frozen 1
      have g2 := k2.frozen 2
      have hl : w.heap.size < _ := k1.lt
      have hl2 : w.heap.size + 1 < _ := k2.lt
      have K1 := hd k1
      have K2 := hd k2
      clear k1 k2
      go_wp2
      (try simp only [Exit.inBlock, Exit.then])
      refine bodyPost_ret (res_cell rfl _ _ _ _ _ _ _ rfl K2.o rfl rfl rfl) rfl ⟨?_, ?_⟩
      · exact retF (f := noFld) (a := 1) rfl rfl
      · exact (HW.o _ HB0.o)
    · have n4 : (k != 4) = true := by simpa using c6
      clear c6
      go_enter Tryz.func118, Tryz.ntmps118
      go_wp2_with fail
      rw [← hx.o]
      obtain ⟨k1, k2⟩ := HC.o _ HB0.o
      have a0 := k1.at_ 0 rfl
      have a1 := k1.at_ 1 rfl
      have a2 := k1.at_ 2 rfl
      have f0 := k1.frozen 0
      have f1 := k1.frozen 1
      have f2 := k1.frozen 2
      have b0 := k2.at_ 0 rfl
      have b1 := k2.at_ 1 rfl
      have b2 := k2.at_ 2 rfl
      have g0 := k2.frozen 0
      have g1 := k2.frozen 1
      have g2 := k2.frozen 2
      have hl : w.heap.size < _ := k1.lt
      have hl2 : w.heap.size + 1 < _ := k2.lt
      have K1 := hd k1
      have K2 := hd k2
      clear k1 k2
      go_wp2
      (try simp only [Exit.inBlock, Exit.then])
      refine bodyPost_ret (res_cell rfl _ _ _ _ _ _ _ rfl K2.o rfl rfl rfl) rfl ⟨?_, ?_⟩
      · exact retF (f := noFld) (a := 1) rfl rfl
      · exact (HW.o _ HB0.o)
  have n4 : (k != 4) = true := by simp; omega
  have nl : (l != 0) = true := by simp; omega
  clear hh c5
  go_enter Tryz.func118, Tryz.ntmps118
  go_wp2_with fail
  rw [← hx.o]
  obtain ⟨k1, k2⟩ := HC.o _ HB0.o
  have a0 := k1.at_ 0 rfl
  have a1 := k1.at_ 1 rfl
  have a2 := k1.at_ 2 rfl
  have f0 := k1.frozen 0
  have f1 := k1.frozen 1
  have f2 := k1.frozen 2
  have b0 := k2.at_ 0 rfl
  have b1 := k2.at_ 1 rfl
  have b2 := k2.at_ 2 rfl
  have g0 := k2.frozen 0
  have g1 := k2.frozen 1
  have g2 := k2.frozen 2
  have hl : w.heap.size < _ := k1.lt
  have hl2 : w.heap.size + 1 < _ := k2.lt
  have K1 := hd k1
  have K2 := hd k2
  clear k1 k2
  go_wp2
  (try simp only [Exit.inBlock, Exit.then])
  refine bodyPost_ret (res_cell rfl _ _ _ _ _ _ _ rfl K2.o rfl rfl rfl) rfl ⟨?_, ?_⟩
  · exact retF (f := noFld) (a := 1) rfl rfl
  · exact (HW.o _ HB0.o)

end Go.Proofs.YtogjokofmfpmgaaGreatDoor
namespace Go.Proofs.YtogjokofmfpmgaaGreatDoor
open Go.RowKit

theorem bs_toL (l : List UInt8) : (bs l).toList = l := by rw [Lib.toList_data]; rfl
structure EqI (v : Bool) (E : Int) (f g : Fld) : Prop where
  o : v = true ↔ E = 0 ∧ g.k = f.k ∧ g.l = f.l ∧ g.v = f.v
theorem eqF_iff {v : Bool} {E gk gl fk fl : Int} {gv fv : List UInt8} (h : v = decide (E = 0 ∧ (⟨gk, gl, gv⟩ : Fld) = ⟨fk, fl, fv⟩)) : EqI v E ⟨fk, fl, fv⟩ ⟨gk, gl, gv⟩ := ⟨by
  rw [h]; simp⟩

set_option maxHeartbeats 1000000 in
theorem may_of (f g : Fld) (E : Int) (w : World) (C : Hd (∀ W, Below w.heap.size w W → Calls Tryz.prog 123 #[fldV f] W fun e w' => e = .returned (fldR g E) ∧ Below W.heap.size W w')) :
    Calls Tryz.prog 122 #[fldV f] w fun e w' => e = .returned (.bool (decide (E = 0 ∧ g = f))) ∧ Below w.heap.size w w' := by
  obtain ⟨v, hv⟩ : ∃ v, decide (E = 0 ∧ g = f) = v := ⟨_, rfl⟩
  rw [hv]
  obtain ⟨fk, fl, fv⟩ := f
  obtain ⟨gk, gl, gv⟩ := g
  have HV := eqF_iff (E := E) (gk := gk) (gl := gl) (fk := fk) (fl := fl) (gv := gv) (fv := fv) hv.symm
  clear hv
  simp only [fldR, fldV] at C
  change Calls _ _ #[.agg #[.int .i64 fk, .int .i64 fl, .string (bs fv)]] _ _
  have HB0 := hd ((Below.refl w.heap.size w).alloc (Nat.le_refl _) (.cells #[.int .i64 fk, .int .i64 fl, .string (bs fv)] 128))
  have HK := hd (Blk.new w 128 #[.int .i64 fk, .int .i64 fl, .string (bs fv)])
  by_cases hE : E = 0
  · subst hE
    go_enter Tryz.func122, Tryz.ntmps122
    go_wp2_with fail
    refine (C.o _ HB0.o).mono ?_
    rintro e w1 ⟨rfl, hb1⟩
    have k1 := HK.o.below hb1 (by simp)
    have HB1 := hd (HB0.o.trans (hb1.mono HB0.o.size))
    have a0 := k1.at_ 0 rfl
    have a1 := k1.at_ 1 rfl
    have a2 := k1.at_ 2 rfl
    have hl : w.heap.size < w1.heap.size := k1.lt
    clear k1 hb1 HK HB0 C
    go_wp2
    all_goals
      ((try simp only [bs_toL] at *)
       go_ret
       first
         | exact ⟨retBB (HV.o.2 ⟨rfl, by first | rfl | assumption, by first | rfl | assumption, by first | rfl | assumption⟩).symm, HB1.o.alloc HB1.o.size _⟩
         | exact ⟨retBB (Bool.eq_false_iff.2 fun h => by obtain ⟨_, i1, i2, i3⟩ := HV.o.1 h; first | contradiction | (exact absurd i1 (by assumption)) | (exact absurd i2 (by assumption)) | (exact absurd i3 (by assumption))).symm, HB1.o.alloc HB1.o.size _⟩)
  · have n0 : (E == 0) = false := by simpa using hE
    have HX := hd (Bool.eq_false_iff.2 fun h => hE (HV.o.1 h).1)
    clear hE
    go_enter Tryz.func122, Tryz.ntmps122
    go_wp2_with fail
    refine (C.o _ HB0.o).mono ?_
    rintro e w1 ⟨rfl, hb1⟩
    have HB1 := hd (HB0.o.trans (hb1.mono HB0.o.size))
    clear hb1 HK HB0 C
    go_wp2

    go_ret
    exact ⟨retBB HX.o.symm, HB1.o.alloc HB1.o.size _⟩

set_option maxHeartbeats 1000000 in
theorem rmay_of (f g : Fld) (E : Int) (w : World) (C : Hd (∀ W, Below w.heap.size w W → Calls Tryz.prog 118 #[fldV f] W fun e w' => e = .returned (fldR g E) ∧ Below W.heap.size W w')) :
    Calls Tryz.prog 109 #[fldV f] w fun e w' => e = .returned (.bool (decide (E = 0 ∧ g = f))) ∧ Below w.heap.size w w' := by
  obtain ⟨v, hv⟩ : ∃ v, decide (E = 0 ∧ g = f) = v := ⟨_, rfl⟩
  rw [hv]
  obtain ⟨fk, fl, fv⟩ := f
  obtain ⟨gk, gl, gv⟩ := g
  have HV := eqF_iff (E := E) (gk := gk) (gl := gl) (fk := fk) (fl := fl) (gv := gv) (fv := fv) hv.symm
  clear hv
  simp only [fldR, fldV] at C
  change Calls _ _ #[.agg #[.int .i64 fk, .int .i64 fl, .string (bs fv)]] _ _
  have HB0 := hd ((Below.refl w.heap.size w).alloc (Nat.le_refl _) (.cells #[.int .i64 fk, .int .i64 fl, .string (bs fv)] 128))
  have HK := hd (Blk.new w 128 #[.int .i64 fk, .int .i64 fl, .string (bs fv)])
  by_cases hE : E = 0
  · subst hE
    go_enter Tryz.func109, Tryz.ntmps109
    go_wp2_with fail
    refine (C.o _ HB0.o).mono ?_
    rintro e w1 ⟨rfl, hb1⟩
    have k1 := HK.o.below hb1 (by simp)
    have HB1 := hd (HB0.o.trans (hb1.mono HB0.o.size))
    have a0 := k1.at_ 0 rfl
    have a1 := k1.at_ 1 rfl
    have a2 := k1.at_ 2 rfl
    have hl : w.heap.size < w1.heap.size := k1.lt
    clear k1 hb1 HK HB0 C
    go_wp2
    all_goals
      ((try simp only [bs_toL] at *)
       go_ret
       first
         | exact ⟨retBB (HV.o.2 ⟨rfl, by first | rfl | assumption, by first | rfl | assumption, by first | rfl | assumption⟩).symm, HB1.o.alloc HB1.o.size _⟩
         | exact ⟨retBB (Bool.eq_false_iff.2 fun h => by obtain ⟨_, i1, i2, i3⟩ := HV.o.1 h; first | contradiction | (exact absurd i1 (by assumption)) | (exact absurd i2 (by assumption)) | (exact absurd i3 (by assumption))).symm, HB1.o.alloc HB1.o.size _⟩)
  · have n0 : (E == 0) = false := by simpa using hE
    have HX := hd (Bool.eq_false_iff.2 fun h => hE (HV.o.1 h).1)
    clear hE
    go_enter Tryz.func109, Tryz.ntmps109
    go_wp2_with fail
    refine (C.o _ HB0.o).mono ?_
    rintro e w1 ⟨rfl, hb1⟩
    have HB1 := hd (HB0.o.trans (hb1.mono HB0.o.size))
    clear hb1 HK HB0 C
    go_wp2

    go_ret
    exact ⟨retBB HX.o.symm, HB1.o.alloc HB1.o.size _⟩

end Go.Proofs.YtogjokofmfpmgaaGreatDoor
namespace Go.Proofs.YtogjokofmfpmgaaGreatDoor
open Go.RowKit Go.Sort

set_option maxHeartbeats 400000 in
theorem rleap_calls (y : Int) (w : World) : Calls Tryz.prog 198 #[.int .i64 y] w fun e w' => e = .returned (.bool (leap y)) ∧ w = w' := by
  by_cases c1 : 1 ≤ y
  · by_cases c2 : y ≤ 9999
    · by_cases c3 : y % 4 = 0
      · have b3 : (y % 4 == 0) = true := by simpa using c3
        by_cases c4 : y % 100 = 0
        · have b4 : (y % 100 == 0) = true := by simpa using c4
          have b4' : (y % 100 != 0) = false := by simpa using c4
          by_cases c5 : y % 400 = 0
          · have b5 : (y % 400 == 0) = true := by simpa using c5
            have e1 : leap y = true := by simp [leap, c1, c2, c3, c5]
            rw [e1]
            clear c3 c4 c5 e1
            go_enter Tryz.func198, Tryz.ntmps198
            go_wp2
            go_ret
            exact ⟨rfl, rfl⟩
          · have b5 : (y % 400 == 0) = false := by simpa using c5
            have e1 : leap y = false := by simp [leap, c1, c2, c3, c4, c5]
            rw [e1]
            clear c3 c4 c5 e1
            go_enter Tryz.func198, Tryz.ntmps198
            go_wp2
            go_ret
            exact ⟨rfl, rfl⟩
        · have b4' : (y % 100 != 0) = true := by simpa using c4
          have e1 : leap y = true := by simp [leap, c1, c2, c3, c4]
          rw [e1]
          clear c3 c4 e1
          go_enter Tryz.func198, Tryz.ntmps198
          go_wp2
          go_ret
          exact ⟨rfl, rfl⟩
      · have b3 : (y % 4 == 0) = false := by simpa using c3
        have e1 : leap y = false := by simp [leap, c1, c2, c3]
        rw [e1]
        clear c3 e1
        go_enter Tryz.func198, Tryz.ntmps198
        go_wp2
        go_ret
        exact ⟨rfl, rfl⟩
    · have e1 : leap y = false := by simp [leap, c1, c2]
      rw [e1]
      clear e1
      go_enter Tryz.func198, Tryz.ntmps198
      go_wp2
      go_ret
      exact ⟨rfl, rfl⟩
  · have e1 : leap y = false := by simp [leap, c1]
    rw [e1]
    clear e1
    go_enter Tryz.func198, Tryz.ntmps198
    go_wp2
    go_ret
    exact ⟨rfl, rfl⟩


theorem two_calls (n : Int) (h0 : 0 ≤ n) (h1 : n ≤ 9999) (w : World) : Calls Tryz.prog 176 #[.int .i64 n] w fun e w' => e = .returned (.string (bs (sh2 n.toNat))) ∧ Below w.heap.size w w' := by
  have hc : (convert 27 9 (.slice (some ⟨w.heap.size, 0, none⟩) 2 2)).run Tryz.prog (w.alloc (.cells #[.int .u8 (48 + n / 10 % 10), .int .u8 (48 + n % 10)] 5)) = .ok (.string (bs (sh2 n.toNat))) (w.alloc (.cells #[.int .u8 (48 + n / 10 % 10), .int .u8 (48 + n % 10)] 5)) := by
    rw [run_convert_bytes_arg _ 27 5 Tryz.underlying27 Tryz.underlying5 w.heap.size 0 2 2 [48 + n / 10 % 10, 48 + n % 10] rfl ?_ 9 Tryz.underlying9]
    · congr 2
      have e1 : (48 + n / 10 % 10).toNat = 48 + n.toNat / 10 % 10 := by omega
      have e2 : (48 + n % 10).toNat = 48 + n.toNat % 10 := by omega
      simp [strOfNums, bs, sh2, e1, e2]
    · intro i hi
      have hb := Blk.new w 5 #[.int .u8 (48 + n / 10 % 10), .int .u8 (48 + n % 10)]
      match i, hi with
      | 0, _ => exact hb.at_ 0 rfl
      | 1, _ => exact hb.at_ 1 rfl
  go_enter Tryz.func176, Tryz.ntmps176
  go_wp2
  go_ret
  exact ⟨rfl, (Below.refl _ w).alloc (Nat.le_refl _) _⟩

set_option maxHeartbeats 4000000 in
theorem month_calls (y m : Int) (h0 : 1 ≤ m) (h1 : m ≤ 12) (w : World) : Calls Tryz.prog 190 #[.int .i64 y, .int .i64 m] w fun e w' => e = .returned (.int .i64 (dm y m)) ∧ Below w.heap.size w w' := by
  by_cases hm : m = 2
  · subst hm
    cases hl : decide (y = 0 ∨ leap y = true) with
    | true =>
      have hl' : y = 0 ∨ leap y = true := by simpa using hl
      have e1 : dm y 2 = 29 := by simp [dm, hl']
      rw [e1]
      clear e1 hl
      by_cases hy : y = 0
      · subst hy
        clear hl'
        go_enter Tryz.func190, Tryz.ntmps190
        go_wp2
        go_ret
        exact ⟨rfl, (Below.refl _ w).alloc (Nat.le_refl _) _⟩
      · have hle := hl'.resolve_left hy
        have hne : (y == 0) = false := by simpa using hy
        have HL := hd hle
        clear hl' hle
        go_enter Tryz.func190, Tryz.ntmps190
        go_wp2_with fail
        refine (rleap_calls y _).mono ?_
        rintro e w' ⟨rfl, rfl⟩
        rw [HL.o]
        go_wp2
        go_ret
        exact ⟨rfl, (Below.refl _ w).alloc (Nat.le_refl _) _⟩
    | false =>
      have hl' : ¬ (y = 0 ∨ leap y = true) := by simpa using hl
      have e1 : dm y 2 = 28 := by unfold dm; rw [if_neg (by omega), if_pos rfl, if_neg hl']
      rw [e1]
      have hne : (y == 0) = false := by simpa using fun h => hl' (.inl h)
      have HL := hd (show leap y = false by simpa using fun h => hl' (.inr h))
      clear e1 hl hl'
      go_enter Tryz.func190, Tryz.ntmps190
      go_wp2_with fail
      refine (rleap_calls y _).mono ?_
      rintro e w' ⟨rfl, rfl⟩
      rw [HL.o]
      go_wp2
      go_ret
      exact ⟨rfl, (Below.refl _ w).alloc (Nat.le_refl _) _⟩
  · have hc : m = 1 ∨ m = 3 ∨ m = 4 ∨ m = 5 ∨ m = 6 ∨ m = 7 ∨ m = 8 ∨ m = 9 ∨ m = 10 ∨ m = 11 ∨ m = 12 := by omega
    clear hm
    rcases hc with rfl | rfl | rfl | rfl | rfl | rfl | rfl | rfl | rfl | rfl | rfl
    all_goals
      simp only [dm]
      go_enter Tryz.func190, Tryz.ntmps190
      go_wp2
      go_ret
      exact ⟨rfl, (Below.refl _ w).alloc (Nat.le_refl _) _⟩

end Go.Proofs.YtogjokofmfpmgaaGreatDoor
namespace Go.Proofs.YtogjokofmfpmgaaGreatDoor
open Go.RowKit Go.Sort

set_option maxHeartbeats 400000 in
theorem rmay_calls (y m d : Int) (w : World) : Calls Tryz.prog 175 #[.agg #[.int .i64 y, .int .i64 m, .int .i64 d]] w fun e w' => e = .returned (.bool (mayB y m d)) ∧ Below w.heap.size w w' := by
  by_cases hh : 0 ≤ y ∧ y ≤ 9999 ∧ 1 ≤ m ∧ m ≤ 12 ∧ 1 ≤ d
  · obtain ⟨c1, c2, c3, c4, c5⟩ := hh
    have e1 : mayB y m d = decide (d ≤ dm y m) := by simp [mayB, c1, c2, c3, c4, c5]
    rw [e1]
    clear e1
    obtain ⟨X, hX⟩ : ∃ X, X = w.alloc (.cells #[.int .i64 y, .int .i64 m, .int .i64 d] 158) := ⟨_, rfl⟩
    have HX := hd (hX ▸ Blk.new w 158 #[.int .i64 y, .int .i64 m, .int .i64 d] : Blk X w.heap.size 158 #[.int .i64 y, .int .i64 m, .int .i64 d])
    have HW := hd (hX ▸ (Below.refl _ w).alloc (Nat.le_refl _) _ : Below w.heap.size w X)
    have hx := hd hX
    clear hX
    have D1 := hd (fun dd os => Calls.regrown_of (month_calls y m c3 c4 (grow (redrawn X dd) os)))
    have q1 := cell_regrown (HX.o.at_ 0 rfl)
    have q2 := cell_regrown (HX.o.at_ 1 rfl)
    have q3 := cell_regrown (HX.o.at_ 2 rfl)
    go_enter Tryz.func175, Tryz.ntmps175
    go_wp2_with fail
    rw [← hx.o]
    refine wp_region_quiet_below (by kernel_rfl) (by kernel_rfl) ?_
    repeat (go_big_quiet_step (exact D1.o _ _))
    refine wpQuiet_nil ?_
    intro _ hw'
    obtain ⟨⟨dq, osq⟩, hw''⟩ := hw'
    subst hw''
    go_wp2
    go_ret
    exact ⟨rfl, HW.o.trans ((below_regrown X dq osq).mono HW.o.size)⟩
  · have e1 : mayB y m d = false := by
      cases h : mayB y m d with
      | false => rfl
      | true => rw [mayB_iff] at h; omega
    rw [e1]
    clear e1
    have hc : y < 0 ∨ (0 ≤ y ∧ 9999 < y) ∨ (0 ≤ y ∧ y ≤ 9999 ∧ m < 1) ∨ (0 ≤ y ∧ y ≤ 9999 ∧ 1 ≤ m ∧ 12 < m) ∨ (0 ≤ y ∧ y ≤ 9999 ∧ 1 ≤ m ∧ m ≤ 12 ∧ d < 1) := by omega
    clear hh
    rcases hc with c1 | ⟨c1, c2⟩ | ⟨c1, c2, c3⟩ | ⟨c1, c2, c3, c4⟩ | ⟨c1, c2, c3, c4, c5⟩
    · have b : decide (0 ≤ y) = false := by simp; omega
      go_enter Tryz.func175, Tryz.ntmps175
      go_wp2_with fail
      go_quiet (fail)
      go_wp2
      go_ret
      exact ⟨rfl, bdrewN ((Below.refl _ _).alloc (Nat.le_refl _) _) _⟩
    · have b : decide (y ≤ 9999) = false := by simp; omega
      go_enter Tryz.func175, Tryz.ntmps175
      go_wp2_with fail
      go_quiet (fail)
      go_wp2
      go_ret
      exact ⟨rfl, bdrewN ((Below.refl _ _).alloc (Nat.le_refl _) _) _⟩
    · have b : decide (1 ≤ m) = false := by simp; omega
      go_enter Tryz.func175, Tryz.ntmps175
      go_wp2_with fail
      go_quiet (fail)
      go_wp2
      go_ret
      exact ⟨rfl, bdrewN ((Below.refl _ _).alloc (Nat.le_refl _) _) _⟩
    · have b : decide (m ≤ 12) = false := by simp; omega
      go_enter Tryz.func175, Tryz.ntmps175
      go_wp2_with fail
      go_quiet (fail)
      go_wp2
      go_ret
      exact ⟨rfl, bdrewN ((Below.refl _ _).alloc (Nat.le_refl _) _) _⟩
    · have b : decide (1 ≤ d) = false := by simp; omega
      go_enter Tryz.func175, Tryz.ntmps175
      go_wp2_with fail
      go_quiet (fail)
      go_wp2
      go_ret
      exact ⟨rfl, bdrewN ((Below.refl _ _).alloc (Nat.le_refl _) _) _⟩

theorem rshow_no (y m d : Int) (w : World) (hm : mayB y m d = false) : Calls Tryz.prog 152 #[.agg #[.int .i64 y, .int .i64 m, .int .i64 d]] w fun e w' => e = .returned (.string (bs [])) ∧ Below w.heap.size w w' := by
  have HM := hd hm
  clear hm
  go_enter Tryz.func152, Tryz.ntmps152
  go_wp2_with fail
  refine (rmay_calls y m d _).mono ?_
  rintro e w' ⟨rfl, hb⟩
  rw [HM.o]
  go_wp2
  go_ret
  exact ⟨rfl, ((Below.refl _ w).alloc (Nat.le_refl _) _).trans (hb.mono (by simp))⟩

theorem bs_app (a b : List UInt8) : bs a ++ bs b = bs (a ++ b) := by
  apply ByteArray.ext; simp [bs]

set_option maxHeartbeats 800000 in
theorem rshow_yes (y m d : Int) (w : World) (hm : mayB y m d = true) : Calls Tryz.prog 152 #[.agg #[.int .i64 y, .int .i64 m, .int .i64 d]] w fun e w' => e = .returned (.string (bs (showL y m d))) ∧ Below w.heap.size w w' := by
  have hdm := dm_bd y m
  have hb := (mayB_iff y m d).1 hm
  obtain ⟨c1, c2, c3, c4, c5, c6⟩ := hb
  have c7 : d ≤ 31 := by omega
  clear c6 hdm
  have HM := hd hm
  clear hm
  have hcell : ∀ W, Below (w.alloc (.cells #[.int .i64 y, .int .i64 m, .int .i64 d] 158)).heap.size (w.alloc (.cells #[.int .i64 y, .int .i64 m, .int .i64 d] 158)) W → Blk W w.heap.size 158 #[.int .i64 y, .int .i64 m, .int .i64 d] := fun W hb => (Blk.new w _ _).below hb (by simp)
  have HC := hd hcell
  clear hcell
  have z1 : (bs (sh2 m.toNat)).size = 2 := rfl
  have z2 : (bs (sh2 d.toNat)).size = 2 := rfl
  have z3 : (bs (sh2 y.toNat)).size = 2 := rfl
  have z4 : (bs (sh2 (y / 100).toNat)).size = 2 := rfl
  have z5 : (bs (sh4 y.toNat)).size = 4 := rfl
  by_cases hy : y = 0
  · subst hy
    go_enter Tryz.func152, Tryz.ntmps152
    go_wp2_with fail
    refine (rmay_calls 0 m d _).mono ?_
    rintro e w1 ⟨rfl, hb⟩
    rw [HM.o]
    have hk := HC.o w1 hb
    have h0 := hk.at_ 0 rfl
    have h1 := hk.at_ 1 rfl
    have h2 := hk.at_ 2 rfl
    clear hk
    go_wp2_with fail
    have q1 := cell_regrown h1
    have q2 := cell_regrown h2
    refine wp_region_quiet_below (by kernel_rfl) (by kernel_rfl) ?_
    repeat (go_big_quiet_step (refine Calls.regrown_of (two_calls _ (by omega) (by omega) _)))
    refine wpQuiet_nil ?_
    intro _ hw'
    obtain ⟨⟨dq, osq⟩, hw''⟩ := hw'
    subst hw''
    go_wp2
    go_ret
    refine ⟨ret_val (congrArg Value.string (ba_ext ?_)), ?_⟩
    · simp [showL, HM.o, bs_data]
    · exact ((Below.refl _ w).alloc (Nat.le_refl _) _).trans ((hb.trans ((below_regrown w1 dq osq).mono hb.size)).mono (by simp))
  · have hne : (y != 0) = true := by simpa using hy
    have HY := hd hy
    clear hy
    go_enter Tryz.func152, Tryz.ntmps152
    go_wp2_with fail
    refine (rmay_calls y m d _).mono ?_
    rintro e w1 ⟨rfl, hb⟩
    rw [HM.o]
    have hk := HC.o w1 hb
    have h0 := hk.at_ 0 rfl
    clear hk
    go_wp2_with fail
    have q0 := cell_regrown h0
    refine wp_region_quiet_below (by kernel_rfl) (by kernel_rfl) ?_
    repeat (go_big_quiet_step (refine Calls.regrown_of (two_calls _ (by omega) (by omega) _)))
    refine wpQuiet_nil ?_
    intro w2 hw'
    have hb2 : Below w1.heap.size w1 w2 := by
      obtain ⟨⟨dq, osq⟩, hw''⟩ := hw'
      subst hw''
      exact below_regrown w1 dq osq
    clear hw' q0 h0
    have e4 : bs (sh2 (y / 100).toNat) ++ bs (sh2 y.toNat) = bs (sh4 y.toNat) := by
      rw [bs_app, sh4, show (y / 100).toNat = y.toNat / 100 by omega]
    rw [e4]
    clear e4
    have hb3 := hb.trans (hb2.mono hb.size)
    have hk := HC.o w2 hb3
    have h1 := hk.at_ 1 rfl
    have h2 := hk.at_ 2 rfl
    clear hk
    have q1 := cell_regrown h1
    have q2 := cell_regrown h2
    go_wp2_with fail
    refine wp_region_quiet_below (by kernel_rfl) (by kernel_rfl) ?_
    repeat (go_big_quiet_step (refine Calls.regrown_of (two_calls _ (by omega) (by omega) _)))
    refine wpQuiet_nil ?_
    intro _ hw'
    obtain ⟨⟨dq, osq⟩, hw''⟩ := hw'
    subst hw''
    go_wp2
    go_ret
    refine ⟨ret_val (congrArg Value.string (ba_ext ?_)), ?_⟩
    · simp [showL, HM.o, HY.o, bs_data]
    · exact ((Below.refl _ w).alloc (Nat.le_refl _) _).trans ((hb3.trans ((below_regrown w2 dq osq).mono hb3.size)).mono (by simp))

theorem rshow_calls (y m d : Int) (w : World) : Calls Tryz.prog 152 #[.agg #[.int .i64 y, .int .i64 m, .int .i64 d]] w fun e w' => e = .returned (.string (bs (showL y m d))) ∧ Below w.heap.size w w' := by
  rcases Bool.eq_false_or_eq_true (mayB y m d) with h | h
  · exact rshow_yes y m d w h
  · have := rshow_no y m d w h
    unfold showL
    rw [if_neg (by simp [h])]
    exact this

end Go.Proofs.YtogjokofmfpmgaaGreatDoor
namespace Go.Proofs.YtogjokofmfpmgaaGreatDoor
open Go.RowKit

/-- The number of some digits, from a number on. -/
def numV : List UInt8 → Int → Int
  | [], n => n
  | c :: t, n => if c < 48 ∨ 57 < c then -1 else numV t (n * 10 + (c.toNat - 48))

theorem numV_at (s : ByteArray) (i : Nat) (hi : i < s.size) (n v : Int) (h : numV (s.data.toList.drop i) n = v) :
    (48 ≤ s[i].toNat ∧ s[i].toNat ≤ 57 ∧ numV (s.data.toList.drop (i + 1)) (n * 10 + ((s[i].toNat : Int) - 48)) = v) ∨ (s[i].toNat < 48 ∧ v = -1) ∨ (57 < s[i].toNat ∧ v = -1) := by
  have hl : i < s.data.toList.length := by simpa using hi
  have e : s.data.toList.drop i = s[i] :: s.data.toList.drop (i + 1) := by rw [List.drop_eq_getElem_cons hl]; rfl
  rw [e, numV] at h
  split at h
  · next hc =>
    rcases hc with hc | hc
    · exact .inr (.inl ⟨by have := UInt8.lt_iff_toNat_lt.1 hc; simpa using this, h.symm⟩)
    · exact .inr (.inr ⟨by have := UInt8.lt_iff_toNat_lt.1 hc; simpa using this, h.symm⟩)
  · next hc =>
    refine .inl ⟨?_, ?_, h⟩
    · apply Nat.le_of_not_lt; intro hh; exact hc (.inl (UInt8.lt_iff_toNat_lt.2 (by simpa using hh)))
    · apply Nat.le_of_not_lt; intro hh; exact hc (.inr (UInt8.lt_iff_toNat_lt.2 (by simpa using hh)))

theorem drop_all (s : ByteArray) : s.data.toList.drop s.size = [] := List.drop_of_length_le (by rw [Array.length_toList]; exact Nat.le_refl _)

theorem number_calls (s : ByteArray) (h : s.size ≤ 10) (w : World) : Calls Tryz.prog 160 #[.string s] w fun e w' => e = .returned (.int .i64 (numV s.data.toList 0)) ∧ w = w' := by
  obtain ⟨v, hv⟩ : ∃ v, numV s.data.toList 0 = v := ⟨_, rfl⟩
  rw [hv]
  have HV := hd hv
  clear hv
  have hs : s.size ≤ 9223372036854775807 := by omega
  go_enter Tryz.func160, Tryz.ntmps160
  go_wp2_with fail
  go_loop [2, 3, 4, 7] (fun a b c d => a = .int .i64 0 ∧ ∃ i : Nat, d = .int .i64 i ∧ i ≤ s.size ∧ ∃ n : Int, b = .int .i64 n ∧ 0 ≤ n ∧ n < 10 ^ i ∧ Hd (numV (s.data.toList.drop i) n = v)) (fun _ _ _ d => s.size - (intOf d).toNat)
  case atStart => exact ⟨rfl, 0, rfl, by omega, 0, rfl, by omega, by simp, HV⟩
  case round =>
    obtain ⟨rfl, i, rfl, hi, n, rfl, hn0, hn1, hh⟩ := hrel
    by_cases hlt : i < s.size
    · have hp : (10:Int) ^ i ≤ 10 ^ 9 := by exact_mod_cast Nat.pow_le_pow_right (by omega : 0 < 10) (by omega : i ≤ 9)
      have hn : n < 1000000000 := by omega
      clear hp
      rcases numV_at s i hlt n v hh.o with ⟨ha, hb, hx⟩ | ⟨ha, rfl⟩ | ⟨ha, rfl⟩
      · have HX := hd hx
        clear hx
        go_wp2_with fail
        go_round
        case rel =>
          refine ⟨rfl, i + 1, by simp, by omega, _, rfl, by omega, ?_, HX⟩
          rw [Int.pow_succ]; omega
        case measure =>
          show s.size - ((i : Int) + 1).toNat < s.size - (i : Int).toNat
          omega
      · go_wp2_with fail
        go_ret
        exact ⟨rfl, rfl⟩
      · go_wp2_with fail
        go_ret
        exact ⟨rfl, rfl⟩
    · have hie : i = s.size := by omega
      subst hie
      have hx := hh.o
      rw [drop_all] at hx
      simp only [numV] at hx
      subst hx
      go_wp2_with fail
      go_ret
      exact ⟨rfl, rfl⟩

end Go.Proofs.YtogjokofmfpmgaaGreatDoor
