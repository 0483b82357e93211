/-
  Telephone numbers: a text's number, on both sides.
-/
import Derived.Test.YtogjokofmfpmgaaGreatDoorGAC
import Derived.Test.YtogjokofmfpmgaaGreatDoorGRA
import Derived.Test.YtogjokofmfpmgaaGreatDoorGRB
import Derived.Test.YtogjokofmfpmgaaGreatDoorGAE
import Derived.Test.YtogjokofmfpmgaaGreatDoorGAB
import Derived.Test.YtogjokofmfpmgaaGreatDoorGAF
import Derived.Test.YtogjokofmfpmgaaGreatDoorGAD
import Derived.Test.YtogjokofmfpmgaaGreatDoorGAG
import Derived.Test.YtogjokofmfpmgaaGreatDoorBytesOrd
import Derived.Test.YtogjokofmfpmgaaGreatDoorGAA
import Derived.Test.YtogjokofmfpmgaaGreatDoorGAH
set_option linter.unusedVariables false
set_option linter.unusedSimpArgs false
namespace Go.Proofs.YtogjokofmfpmgaaGreatDoor
open Go.RowKit

theorem ext_one (T : List UInt8) (k : Nat) (h : k < T.length) : (bs T).extract k (k + 1) = bs [T[k]] := by
  apply ByteArray.ext
  apply Array.ext'
  rw [ext_data, bs_data, bs_data, Nat.add_sub_cancel_left, List.drop_eq_getElem_cons h]
  rfl
theorem tbs_app (a b : List UInt8) : bs a ++ bs b = bs (a ++ b) := by
  apply ByteArray.ext
  simp [bs]

set_option maxRecDepth 100000 in
set_option maxHeartbeats 4000000 in
theorem rtel_calls (s : ByteArray) (hs : s.size ≤ 1000000) (w : World) : Calls Tryz.prog 130 #[.string s] w fun e w' => e = .returned (.tuple #[.string (bs (telT s.data.toList)), .int .i64 (telE s.data.toList)]) ∧ Below w.heap.size w w' := by
  have C1 := hd (rclean_calls s hs w)
  obtain ⟨V, hV⟩ : ∃ V, telT s.data.toList = V := ⟨_, rfl⟩
  obtain ⟨F, hF⟩ : ∃ F, telE s.data.toList = F := ⟨_, rfl⟩
  rw [hV, hF]
  have HR := hd (⟨hV.symm, hF.symm⟩ : V = telT s.data.toList ∧ F = telE s.data.toList)
  clear hV hF
  have hl := cleanT_len s.data.toList
  have R1 := hd (fun h : cleanE s.data.toList ≠ 0 => tel_e h)
  have R2 := hd (fun (h : cleanE s.data.toList = 0) k => tel_yes h k)
  have R3 := hd (fun (h : cleanE s.data.toList = 0) k => tel_no h k)
  obtain ⟨T, hT⟩ : ∃ T, cleanT s.data.toList = T := ⟨_, rfl⟩
  obtain ⟨E, hE⟩ : ∃ E, cleanE s.data.toList = E := ⟨_, rfl⟩
  rw [hT, hE] at C1 R2 R3
  rw [hE] at R1
  rw [hT] at hl
  clear hT hE
  by_cases hE0 : E = 0
  · subst hE0
    have hz : (bs T).size = T.length := bs_size T
    have HZ := hd hz
    have hs64 : (bs T).size ≤ 64 := by omega
    clear hz
    go_enter Tryz.func130, Tryz.ntmps130
    go_wp2_with fail
    refine C1.o.mono ?_
    rintro e w1 ⟨rfl, hb1⟩
    have HB1 := hd hb1
    clear hb1
    go_wp2_with fail
    go_loop [6, 7] (fun out i => ∃ (k : Nat) (t : ByteArray), i = .int .i64 k ∧ k ≤ (bs T).size ∧ out = .string t ∧ t.size ≤ k ∧ Hd (t = bs (telD (T.take k)))) (fun _ i => (bs T).size - (intOf i).toNat)
    case atStart => exact ⟨0, _, rfl, Nat.zero_le _, rfl, Nat.le_refl _, rfl⟩
    case round =>
      obtain ⟨k, t, rfl, hk, rfl, hm, HO⟩ := hrel
      have hki : (0 : Int) ≤ (k : Int) := by omega
      by_cases hlt : k < (bs T).size
      · have hlT : k < T.length := by rw [← HZ.o]; exact hlt
        have ec : (bs T)[k] = T[k] := by show T.toArray[k]'(by simpa using hlT) = T[k]; exact List.getElem_toArray _
        by_cases hc : (bs T)[k].toNat = 32 ∨ (bs T)[k].toNat = 45 ∨ (bs T)[k].toNat = 46 ∨ (bs T)[k].toNat = 47 ∨ (bs T)[k].toNat = 40 ∨ (bs T)[k].toNat = 41
        · have HN := hd (show t = bs (telD (T.take (k + 1))) by rw [telD_skip T k hlT (by rw [← ec]; exact telC_f hc)]; exact HO.o)
          clear ec
          rcases hc with hc | hc | hc | hc | hc | hc
          all_goals
            (first | (have n1 : (((bs T)[k].toNat : Int) == 32) = true := by simp; omega) | (have n1 : (((bs T)[k].toNat : Int) == 32) = false := by simp; omega)
             first | (have n2 : (((bs T)[k].toNat : Int) == 45) = true := by simp; omega) | (have n2 : (((bs T)[k].toNat : Int) == 45) = false := by simp; omega)
             first | (have n3 : (((bs T)[k].toNat : Int) == 46) = true := by simp; omega) | (have n3 : (((bs T)[k].toNat : Int) == 46) = false := by simp; omega)
             first | (have n4 : (((bs T)[k].toNat : Int) == 47) = true := by simp; omega) | (have n4 : (((bs T)[k].toNat : Int) == 47) = false := by simp; omega)
             first | (have n5 : (((bs T)[k].toNat : Int) == 40) = true := by simp; omega) | (have n5 : (((bs T)[k].toNat : Int) == 40) = false := by simp; omega)
             first | (have n6 : (((bs T)[k].toNat : Int) == 41) = true := by simp; omega) | (have n6 : (((bs T)[k].toNat : Int) == 41) = false := by simp; omega)
             clear hc
             go_wp2_with fail
             go_round
             case rel => exact ⟨k + 1, t, by go_num, by omega, rfl, by omega, HN⟩
             case measure => simp [intOf]; omega)
        · have hx : ((bs T).extract k (k + 1)).size = 1 := by rw [ext_one T k hlT, bs_size]; rfl
          have HN := hd (show t ++ (bs T).extract k (k + 1) = bs (telD (T.take (k + 1))) by rw [telD_put T k hlT (by rw [← ec]; exact telC_t hc), HO.o, ext_one T k hlT, tbs_app])
          have hy : (t ++ (bs T).extract k (k + 1)).size = t.size + 1 := by rw [ByteArray.size_append, hx]
          clear ec
          have n1 : (((bs T)[k].toNat : Int) == 32) = false := by simp; omega
          have n2 : (((bs T)[k].toNat : Int) == 45) = false := by simp; omega
          have n3 : (((bs T)[k].toNat : Int) == 46) = false := by simp; omega
          have n4 : (((bs T)[k].toNat : Int) == 47) = false := by simp; omega
          have n5 : (((bs T)[k].toNat : Int) == 40) = false := by simp; omega
          have n6 : (((bs T)[k].toNat : Int) == 41) = false := by simp; omega
          clear hc
          go_wp2_with fail
          go_round
          case rel => exact ⟨k + 1, _, by go_num, by omega, rfl, by omega, HN⟩
          case measure => simp [intOf]; omega
      · have hke : k = (bs T).size := by omega
        subst hke
        clear hk
        have hfold : T.take (bs T).size = T := List.take_of_length_le (by rw [HZ.o]; exact Nat.le_refl _)
        rw [hfold] at HO
        clear hfold
        have hIS := ristel_calls t (by omega)
        have hd1 : t.data.toList = telD T := by rw [HO.o]; rfl
        rw [hd1] at hIS
        clear hd1
        by_cases hA : TelP (telD T)
        · rw [telB_t hA] at hIS
          have HX := hd (R2.o trivial hA)
          have HIS := hd hIS
          clear hIS hA
          go_wp2_with fail
          refine (HIS.o _).mono ?_
          rintro e w3 ⟨rfl, rfl⟩
          go_wp2_with fail
          go_ret2
          exact ⟨retTE (by rw [HR.o.1, HX.o.1, HO.o]) (by rw [HR.o.2, HX.o.2]), HB1.o⟩
        · rw [telB_f hA] at hIS
          have HX := hd (R3.o trivial hA)
          have HIS := hd hIS
          clear hIS hA
          go_wp2_with fail
          refine (HIS.o _).mono ?_
          rintro e w3 ⟨rfl, rfl⟩
          go_wp2_with fail
          go_ret2
          exact ⟨retTE (by rw [HR.o.1, HX.o.1]; rfl) (by rw [HR.o.2, HX.o.2]), HB1.o⟩
  · have n0 : (E != 0) = true := by simpa using hE0
    have H0 := hd (R1.o hE0)
    clear hE0
    go_enter Tryz.func130, Tryz.ntmps130
    go_wp2_with fail
    refine C1.o.mono ?_
    rintro e w1 ⟨rfl, hb1⟩
    go_wp2_with fail
    go_ret2
    exact ⟨retTE (by rw [HR.o.1, H0.o.1]; rfl) (by rw [HR.o.2, H0.o.2]), hb1⟩

end Go.Proofs.YtogjokofmfpmgaaGreatDoor
namespace Go.Proofs.YtogjokofmfpmgaaGreatDoor
open Go.RowKit

set_option maxRecDepth 100000 in
set_option maxHeartbeats 2000000 in
theorem rcanon_3 (l : Int) (hl : l = 0 ∨ l = 1 ∨ l = 2 ∨ l = 3) (v : ByteArray) (T : List UInt8) (E : Int) (R : Int) (HR : Hd (R = E)) (w : World)
    (H3 : Hd (∀ W, Below w.heap.size w W → Calls Tryz.prog 130 #[.string v] W fun e w' => e = .returned (.tuple #[.string (bs T), .int .i64 E]) ∧ Below W.heap.size W w')) :
    Calls Tryz.prog 118 #[.agg #[.int .i64 3, .int .i64 l, .string v]] w fun e w' => e = .returned (fldR (resF ⟨3, l, T⟩ R) R) ∧ Below w.heap.size w w' := by
  obtain ⟨X, hX⟩ : ∃ X, X = (w.alloc (.cells #[.int .i64 3, .int .i64 l, .string v] 128)).alloc (.cells #[.int .i64 0, .int .i64 0, .string ⟨#[]⟩] 128) := ⟨_, rfl⟩
  have HC := hd (fun W (hb : Below X.heap.size X W) => two_cell w W 128 #[.int .i64 3, .int .i64 l, .string v] #[.int .i64 0, .int .i64 0, .string ⟨#[]⟩] (by rw [← hX]; exact hb))
  have HW := hd (fun W (hb : Below X.heap.size X W) => two_bel w W (.cells #[.int .i64 3, .int .i64 l, .string v] 128) (.cells #[.int .i64 0, .int .i64 0, .string ⟨#[]⟩] 128) (by rw [← hX]; exact hb))
  have HB0 := hd (Below.refl X.heap.size X)
  have hx := hd hX
  clear hX
  rcases hl with rfl | rfl | rfl | rfl
  all_goals
    (by_cases hE : E = 0
     · subst hE
       go_enter Tryz.func118, Tryz.ntmps118
       go_wp2_with fail
       rw [← hx.o]
       obtain ⟨k1, k2⟩ := HC.o _ HB0.o
       have a0 := k1.at_ 0 rfl
       have a1 := k1.at_ 1 rfl
       have a2 := k1.at_ 2 rfl
       have f0 := k1.frozen 0
       have f1 := k1.frozen 1
       have f2 := k1.frozen 2
       have b0 := k2.at_ 0 rfl
       have b1 := k2.at_ 1 rfl
       have b2 := k2.at_ 2 rfl
       have g0 := k2.frozen 0
       have g1 := k2.frozen 1
       have g2 := k2.frozen 2
       have hl : w.heap.size < _ := k1.lt
       have hl2 : w.heap.size + 1 < _ := k2.lt
       have K1 := hd k1
       have K2 := hd k2
       clear k1 k2
       go_wp2_with fail
       refine (H3.o _ (HW.o _ HB0.o)).mono ?_
       rintro e w2 ⟨rfl, hb2⟩
       have HB2 := hd hb2
       clear hb2
       clear a0 a1 a2 f0 f1 f2 b0 b1 b2 g0 g1 g2 hl hl2 K1 K2
       obtain ⟨k1, k2⟩ := HC.o _ HB2.o
       have a0 := k1.at_ 0 rfl
       have a1 := k1.at_ 1 rfl
       have a2 := k1.at_ 2 rfl
       have f0 := k1.frozen 0
       have f1 := k1.frozen 1
       have f2 := k1.frozen 2
       have b0 := k2.at_ 0 rfl
       have b1 := k2.at_ 1 rfl
       have b2 := k2.at_ 2 rfl
       have g0 := k2.frozen 0
       have g1 := k2.frozen 1
       have g2 := k2.frozen 2
       have hl : w.heap.size < _ := k1.lt
       have hl2 : w.heap.size + 1 < _ := k2.lt
       have K1 := hd k1
       have K2 := hd k2
       clear k1 k2
       go_wp2
       (try simp only [Exit.inBlock, Exit.then])
       refine bodyPost_ret (res_cell rfl _ _ _ _ _ _ _ rfl (((K2.o.set_ 0 _).set_ 1 _).set_ 2 _) rfl rfl rfl) rfl ⟨?_, ?_⟩
       · exact retF (f := ⟨3, _, T⟩) (a := 0) (by rw [HR.o, resF_0]) (by rw [HR.o])
       · exact ((((HW.o _ HB2.o).setCell (Nat.le_succ _) _).setCell (Nat.le_succ _) _).setCell (Nat.le_succ _) _)
     · have nE : (E != 0) = true := by simpa using hE
       have eE : (E == 0) = false := by simpa using hE
       have HE := hd hE
       clear hE
       go_enter Tryz.func118, Tryz.ntmps118
       go_wp2_with fail
       rw [← hx.o]
       obtain ⟨k1, k2⟩ := HC.o _ HB0.o
       have a0 := k1.at_ 0 rfl
       have a1 := k1.at_ 1 rfl
       have a2 := k1.at_ 2 rfl
       have f0 := k1.frozen 0
       have f1 := k1.frozen 1
       have f2 := k1.frozen 2
       have b0 := k2.at_ 0 rfl
       have b1 := k2.at_ 1 rfl
       have b2 := k2.at_ 2 rfl
       have g0 := k2.frozen 0
       have g1 := k2.frozen 1
       have g2 := k2.frozen 2
       have hl : w.heap.size < _ := k1.lt
       have hl2 : w.heap.size + 1 < _ := k2.lt
       have K1 := hd k1
       have K2 := hd k2
       clear k1 k2
       go_wp2_with fail
       refine (H3.o _ (HW.o _ HB0.o)).mono ?_
       rintro e w2 ⟨rfl, hb2⟩
       have HB2 := hd hb2
       clear hb2
       clear a0 a1 a2 f0 f1 f2 b0 b1 b2 g0 g1 g2 hl hl2 K1 K2
       obtain ⟨k1, k2⟩ := HC.o _ HB2.o
       have a0 := k1.at_ 0 rfl
       have a1 := k1.at_ 1 rfl
       have a2 := k1.at_ 2 rfl
       have f0 := k1.frozen 0
       have f1 := k1.frozen 1
       have f2 := k1.frozen 2
       have b0 := k2.at_ 0 rfl
       have b1 := k2.at_ 1 rfl
       have b2 := k2.at_ 2 rfl
       have g0 := k2.frozen 0
       have g1 := k2.frozen 1
       have g2 := k2.frozen 2
       have hl : w.heap.size < _ := k1.lt
       have hl2 : w.heap.size + 1 < _ := k2.lt
       have K1 := hd k1
       have K2 := hd k2
       clear k1 k2
       go_wp2
       (try simp only [Exit.inBlock, Exit.then])
       refine bodyPost_ret (res_cell rfl _ _ _ _ _ _ _ rfl (((K2.o.set_ 0 _).set_ 1 _).set_ 2 _) rfl rfl rfl) rfl ⟨?_, ?_⟩
       · exact retF (f := noFld) (a := E) (by rw [HR.o, resF_e _ HE.o]) (by rw [HR.o])
       · exact ((((HW.o _ HB2.o).setCell (Nat.le_succ _) _).setCell (Nat.le_succ _) _).setCell (Nat.le_succ _) _))

set_option maxRecDepth 100000 in
set_option maxHeartbeats 2000000 in
theorem rcanon_4 (l : Int) (hl : l = 0 ∨ l = 1 ∨ l = 2) (v : ByteArray) (T : List UInt8) (E : Int) (R : Int) (HR : Hd (R = E)) (w : World)
    (H3 : Hd (∀ W, Below w.heap.size w W → Calls Tryz.prog 131 #[.string v] W fun e w' => e = .returned (.tuple #[.string (bs T), .int .i64 E]) ∧ Below W.heap.size W w')) :
    Calls Tryz.prog 118 #[.agg #[.int .i64 4, .int .i64 l, .string v]] w fun e w' => e = .returned (fldR (resF ⟨4, l, T⟩ R) R) ∧ Below w.heap.size w w' := by
  obtain ⟨X, hX⟩ : ∃ X, X = (w.alloc (.cells #[.int .i64 4, .int .i64 l, .string v] 128)).alloc (.cells #[.int .i64 0, .int .i64 0, .string ⟨#[]⟩] 128) := ⟨_, rfl⟩
  have HC := hd (fun W (hb : Below X.heap.size X W) => two_cell w W 128 #[.int .i64 4, .int .i64 l, .string v] #[.int .i64 0, .int .i64 0, .string ⟨#[]⟩] (by rw [← hX]; exact hb))
  have HW := hd (fun W (hb : Below X.heap.size X W) => two_bel w W (.cells #[.int .i64 4, .int .i64 l, .string v] 128) (.cells #[.int .i64 0, .int .i64 0, .string ⟨#[]⟩] 128) (by rw [← hX]; exact hb))
  have HB0 := hd (Below.refl X.heap.size X)
  have hx := hd hX
  clear hX
  rcases hl with rfl | rfl | rfl
  all_goals
    (by_cases hE : E = 0
     · subst hE
       go_enter Tryz.func118, Tryz.ntmps118
       go_wp2_with fail
       rw [← hx.o]
       obtain ⟨k1, k2⟩ := HC.o _ HB0.o
       have a0 := k1.at_ 0 rfl
       have a1 := k1.at_ 1 rfl
       have a2 := k1.at_ 2 rfl
       have f0 := k1.frozen 0
       have f1 := k1.frozen 1
       have f2 := k1.frozen 2
       have b0 := k2.at_ 0 rfl
       have b1 := k2.at_ 1 rfl
       have b2 := k2.at_ 2 rfl
       have g0 := k2.frozen 0
       have g1 := k2.frozen 1
       have g2 := k2.frozen 2
       have hl : w.heap.size < _ := k1.lt
       have hl2 : w.heap.size + 1 < _ := k2.lt
       have K1 := hd k1
       have K2 := hd k2
       clear k1 k2
       go_wp2_with fail
       refine (H3.o _ (HW.o _ HB0.o)).mono ?_
       rintro e w2 ⟨rfl, hb2⟩
       have HB2 := hd hb2
       clear hb2
       clear a0 a1 a2 f0 f1 f2 b0 b1 b2 g0 g1 g2 hl hl2 K1 K2
       obtain ⟨k1, k2⟩ := HC.o _ HB2.o
       have a0 := k1.at_ 0 rfl
       have a1 := k1.at_ 1 rfl
       have a2 := k1.at_ 2 rfl
       have f0 := k1.frozen 0
       have f1 := k1.frozen 1
       have f2 := k1.frozen 2
       have b0 := k2.at_ 0 rfl
       have b1 := k2.at_ 1 rfl
       have b2 := k2.at_ 2 rfl
       have g0 := k2.frozen 0
       have g1 := k2.frozen 1
       have g2 := k2.frozen 2
       have hl : w.heap.size < _ := k1.lt
       have hl2 : w.heap.size + 1 < _ := k2.lt
       have K1 := hd k1
       have K2 := hd k2
       clear k1 k2
       go_wp2
       (try simp only [Exit.inBlock, Exit.then])
       refine bodyPost_ret (res_cell rfl _ _ _ _ _ _ _ rfl (((K2.o.set_ 0 _).set_ 1 _).set_ 2 _) rfl rfl rfl) rfl ⟨?_, ?_⟩
       · exact retF (f := ⟨4, _, T⟩) (a := 0) (by rw [HR.o, resF_0]) (by rw [HR.o])
       · exact ((((HW.o _ HB2.o).setCell (Nat.le_succ _) _).setCell (Nat.le_succ _) _).setCell (Nat.le_succ _) _)
     · have nE : (E != 0) = true := by simpa using hE
       have eE : (E == 0) = false := by simpa using hE
       have HE := hd hE
       clear hE
       go_enter Tryz.func118, Tryz.ntmps118
       go_wp2_with fail
       rw [← hx.o]
       obtain ⟨k1, k2⟩ := HC.o _ HB0.o
       have a0 := k1.at_ 0 rfl
       have a1 := k1.at_ 1 rfl
       have a2 := k1.at_ 2 rfl
       have f0 := k1.frozen 0
       have f1 := k1.frozen 1
       have f2 := k1.frozen 2
       have b0 := k2.at_ 0 rfl
       have b1 := k2.at_ 1 rfl
       have b2 := k2.at_ 2 rfl
       have g0 := k2.frozen 0
       have g1 := k2.frozen 1
       have g2 := k2.frozen 2
       have hl : w.heap.size < _ := k1.lt
       have hl2 : w.heap.size + 1 < _ := k2.lt
       have K1 := hd k1
       have K2 := hd k2
       clear k1 k2
       go_wp2_with fail
       refine (H3.o _ (HW.o _ HB0.o)).mono ?_
       rintro e w2 ⟨rfl, hb2⟩
       have HB2 := hd hb2
       clear hb2
       clear a0 a1 a2 f0 f1 f2 b0 b1 b2 g0 g1 g2 hl hl2 K1 K2
       obtain ⟨k1, k2⟩ := HC.o _ HB2.o
       have a0 := k1.at_ 0 rfl
       have a1 := k1.at_ 1 rfl
       have a2 := k1.at_ 2 rfl
       have f0 := k1.frozen 0
       have f1 := k1.frozen 1
       have f2 := k1.frozen 2
       have b0 := k2.at_ 0 rfl
       have b1 := k2.at_ 1 rfl
       have b2 := k2.at_ 2 rfl
       have g0 := k2.frozen 0
       have g1 := k2.frozen 1
       have g2 := k2.frozen 2
       have hl : w.heap.size < _ := k1.lt
       have hl2 : w.heap.size + 1 < _ := k2.lt
       have K1 := hd k1
       have K2 := hd k2
       clear k1 k2
       go_wp2
       (try simp only [Exit.inBlock, Exit.then])
       refine bodyPost_ret (res_cell rfl _ _ _ _ _ _ _ rfl (((K2.o.set_ 0 _).set_ 1 _).set_ 2 _) rfl rfl rfl) rfl ⟨?_, ?_⟩
       · exact retF (f := noFld) (a := E) (by rw [HR.o, resF_e _ HE.o]) (by rw [HR.o])
       · exact ((((HW.o _ HB2.o).setCell (Nat.le_succ _) _).setCell (Nat.le_succ _) _).setCell (Nat.le_succ _) _))

set_option maxRecDepth 100000 in
set_option maxHeartbeats 2000000 in
theorem rcanon_o (k : Int) (h1 : 1 ≤ k) (h6 : k ≤ 6) (h3 : k ≠ 3) (h4 : k ≠ 4) (v : ByteArray) (T : List UInt8) (E : Int) (y m d D : Int) (R : Int) (HR : Hd (R = if E = 0 ∧ k = 5 then D else E)) (w : World)
    (H3 : Hd (∀ W, Below w.heap.size w W → Calls Tryz.prog 132 #[.string v] W fun e w' => e = .returned (.tuple #[.string (bs T), .int .i64 E]) ∧ Below W.heap.size W w'))
    (H4 : Hd (∀ W, Below w.heap.size w W → Calls Tryz.prog 133 #[.string (bs T)] W fun e w' => e = .returned (.tuple #[.agg #[.int .i64 y, .int .i64 m, .int .i64 d], .int .i64 D]) ∧ Below W.heap.size W w')) :
    Calls Tryz.prog 118 #[.agg #[.int .i64 k, .int .i64 0, .string v]] w fun e w' => e = .returned (fldR (resF ⟨k, 0, T⟩ R) R) ∧ Below w.heap.size w w' := by
  obtain ⟨X, hX⟩ : ∃ X, X = (w.alloc (.cells #[.int .i64 k, .int .i64 0, .string v] 128)).alloc (.cells #[.int .i64 0, .int .i64 0, .string ⟨#[]⟩] 128) := ⟨_, rfl⟩
  have HC := hd (fun W (hb : Below X.heap.size X W) => two_cell w W 128 #[.int .i64 k, .int .i64 0, .string v] #[.int .i64 0, .int .i64 0, .string ⟨#[]⟩] (by rw [← hX]; exact hb))
  have HW := hd (fun W (hb : Below X.heap.size X W) => two_bel w W (.cells #[.int .i64 k, .int .i64 0, .string v] 128) (.cells #[.int .i64 0, .int .i64 0, .string ⟨#[]⟩] 128) (by rw [← hX]; exact hb))
  have HB0 := hd (Below.refl X.heap.size X)
  have hx := hd hX
  clear hX
  have n3 : (k == 3) = false := by simpa using h3
  have n4 : (k == 4) = false := by simpa using h4
  have m3 : (k != 3) = true := by simpa using h3
  have m4 : (k != 4) = true := by simpa using h4
  clear h3 h4
  by_cases hE : E = 0
  · subst hE
    by_cases h5 : k = 5
    · subst h5
      rw [if_pos ⟨rfl, rfl⟩] at HR
      by_cases hD : D = 0
      · subst hD
        go_enter Tryz.func118, Tryz.ntmps118
        go_wp2_with fail
        rw [← hx.o]
        obtain ⟨k1, k2⟩ := HC.o _ HB0.o
        have a0 := k1.at_ 0 rfl
        have a1 := k1.at_ 1 rfl
        have a2 := k1.at_ 2 rfl
        have f0 := k1.frozen 0
        have f1 := k1.frozen 1
        have f2 := k1.frozen 2
        have b0 := k2.at_ 0 rfl
        have b1 := k2.at_ 1 rfl
        have b2 := k2.at_ 2 rfl
        have g0 := k2.frozen 0
        have g1 := k2.frozen 1
        have g2 := k2.frozen 2
        have hl : w.heap.size < _ := k1.lt
        have hl2 : w.heap.size + 1 < _ := k2.lt
        have K1 := hd k1
        have K2 := hd k2
        clear k1 k2
        go_wp2_with fail
        refine (H3.o _ (HW.o _ HB0.o)).mono ?_
        rintro e w2 ⟨rfl, hb2⟩
        have HB2 := hd hb2
        clear hb2
        clear a0 a1 a2 f0 f1 f2 b0 b1 b2 g0 g1 g2 hl hl2 K1 K2
        obtain ⟨k1, k2⟩ := HC.o _ HB2.o
        have a0 := k1.at_ 0 rfl
        have a1 := k1.at_ 1 rfl
        have a2 := k1.at_ 2 rfl
        have f0 := k1.frozen 0
        have f1 := k1.frozen 1
        have f2 := k1.frozen 2
        have b0 := k2.at_ 0 rfl
        have b1 := k2.at_ 1 rfl
        have b2 := k2.at_ 2 rfl
        have g0 := k2.frozen 0
        have g1 := k2.frozen 1
        have g2 := k2.frozen 2
        have hl : w.heap.size < _ := k1.lt
        have hl2 : w.heap.size + 1 < _ := k2.lt
        have K1 := hd k1
        have K2 := hd k2
        clear k1 k2
        go_wp2_with fail
        refine (H4.o _ (HW.o _ HB2.o)).mono ?_
        rintro e w3 ⟨rfl, hb3⟩
        have HB3 := hd (HB2.o.trans (hb3.mono HB2.o.size))
        clear hb3
        clear a0 a1 a2 f0 f1 f2 b0 b1 b2 g0 g1 g2 hl hl2 K1 K2
        obtain ⟨k1, k2⟩ := HC.o _ HB3.o
        have a0 := k1.at_ 0 rfl
        have a1 := k1.at_ 1 rfl
        have a2 := k1.at_ 2 rfl
        have f0 := k1.frozen 0
        have f1 := k1.frozen 1
        have f2 := k1.frozen 2
        have b0 := k2.at_ 0 rfl
        have b1 := k2.at_ 1 rfl
        have b2 := k2.at_ 2 rfl
        have g0 := k2.frozen 0
        have g1 := k2.frozen 1
        have g2 := k2.frozen 2
        have hl : w.heap.size < _ := k1.lt
        have hl2 : w.heap.size + 1 < _ := k2.lt
        have K1 := hd k1
        have K2 := hd k2
        clear k1 k2
        go_wp2
        (try simp only [Exit.inBlock, Exit.then])
        refine bodyPost_ret (res_cell rfl _ _ _ _ _ _ _ rfl (((K2.o.set_ 0 _).set_ 1 _).set_ 2 _) rfl rfl rfl) rfl ⟨?_, ?_⟩
        · exact retF (f := ⟨5, 0, T⟩) (a := 0) (by rw [HR.o, resF_0]) (by rw [HR.o])
        · exact ((((HW.o _ HB3.o).setCell (Nat.le_succ _) _).setCell (Nat.le_succ _) _).setCell (Nat.le_succ _) _)
      · have nE : (D != 0) = true := by simpa using hD
        have eE : (D == 0) = false := by simpa using hD
        have HE := hd hD
        clear hD
        go_enter Tryz.func118, Tryz.ntmps118
        go_wp2_with fail
        rw [← hx.o]
        obtain ⟨k1, k2⟩ := HC.o _ HB0.o
        have a0 := k1.at_ 0 rfl
        have a1 := k1.at_ 1 rfl
        have a2 := k1.at_ 2 rfl
        have f0 := k1.frozen 0
        have f1 := k1.frozen 1
        have f2 := k1.frozen 2
        have b0 := k2.at_ 0 rfl
        have b1 := k2.at_ 1 rfl
        have b2 := k2.at_ 2 rfl
        have g0 := k2.frozen 0
        have g1 := k2.frozen 1
        have g2 := k2.frozen 2
        have hl : w.heap.size < _ := k1.lt
        have hl2 : w.heap.size + 1 < _ := k2.lt
        have K1 := hd k1
        have K2 := hd k2
        clear k1 k2
        go_wp2_with fail
        refine (H3.o _ (HW.o _ HB0.o)).mono ?_
        rintro e w2 ⟨rfl, hb2⟩
        have HB2 := hd hb2
        clear hb2
        clear a0 a1 a2 f0 f1 f2 b0 b1 b2 g0 g1 g2 hl hl2 K1 K2
        obtain ⟨k1, k2⟩ := HC.o _ HB2.o
        have a0 := k1.at_ 0 rfl
        have a1 := k1.at_ 1 rfl
        have a2 := k1.at_ 2 rfl
        have f0 := k1.frozen 0
        have f1 := k1.frozen 1
        have f2 := k1.frozen 2
        have b0 := k2.at_ 0 rfl
        have b1 := k2.at_ 1 rfl
        have b2 := k2.at_ 2 rfl
        have g0 := k2.frozen 0
        have g1 := k2.frozen 1
        have g2 := k2.frozen 2
        have hl : w.heap.size < _ := k1.lt
        have hl2 : w.heap.size + 1 < _ := k2.lt
        have K1 := hd k1
        have K2 := hd k2
        clear k1 k2
        go_wp2_with fail
        refine (H4.o _ (HW.o _ HB2.o)).mono ?_
        rintro e w3 ⟨rfl, hb3⟩
        have HB3 := hd (HB2.o.trans (hb3.mono HB2.o.size))
        clear hb3
        clear a0 a1 a2 f0 f1 f2 b0 b1 b2 g0 g1 g2 hl hl2 K1 K2
        obtain ⟨k1, k2⟩ := HC.o _ HB3.o
        have a0 := k1.at_ 0 rfl
        have a1 := k1.at_ 1 rfl
        have a2 := k1.at_ 2 rfl
        have f0 := k1.frozen 0
        have f1 := k1.frozen 1
        have f2 := k1.frozen 2
        have b0 := k2.at_ 0 rfl
        have b1 := k2.at_ 1 rfl
        have b2 := k2.at_ 2 rfl
        have g0 := k2.frozen 0
        have g1 := k2.frozen 1
        have g2 := k2.frozen 2
        have hl : w.heap.size < _ := k1.lt
        have hl2 : w.heap.size + 1 < _ := k2.lt
        have K1 := hd k1
        have K2 := hd k2
        clear k1 k2
        go_wp2
        (try simp only [Exit.inBlock, Exit.then])
        refine bodyPost_ret (res_cell rfl _ _ _ _ _ _ _ rfl (((K2.o.set_ 0 _).set_ 1 _).set_ 2 _) rfl rfl rfl) rfl ⟨?_, ?_⟩
        · exact retF (f := noFld) (a := D) (by rw [HR.o, resF_e _ HE.o]) (by rw [HR.o])
        · exact ((((HW.o _ HB3.o).setCell (Nat.le_succ _) _).setCell (Nat.le_succ _) _).setCell (Nat.le_succ _) _)
    · rw [if_neg (fun h => h5 h.2)] at HR
      have n5 : (k == 5) = false := by simpa using h5
      clear h5 H4
      go_enter Tryz.func118, Tryz.ntmps118
      go_wp2_with fail
      rw [← hx.o]
      obtain ⟨k1, k2⟩ := HC.o _ HB0.o
      have a0 := k1.at_ 0 rfl
      have a1 := k1.at_ 1 rfl
      have a2 := k1.at_ 2 rfl
      have f0 := k1.frozen 0
      have f1 := k1.frozen 1
      have f2 := k1.frozen 2
      have b0 := k2.at_ 0 rfl
      have b1 := k2.at_ 1 rfl
      have b2 := k2.at_ 2 rfl
      have g0 := k2.frozen 0
      have g1 := k2.frozen 1
      have g2 := k2.frozen 2
      have hl : w.heap.size < _ := k1.lt
      have hl2 : w.heap.size + 1 < _ := k2.lt
      have K1 := hd k1
      have K2 := hd k2
      clear k1 k2
      go_wp2_with fail
      refine (H3.o _ (HW.o _ HB0.o)).mono ?_
      rintro e w2 ⟨rfl, hb2⟩
      have HB2 := hd hb2
      clear hb2
      clear a0 a1 a2 f0 f1 f2 b0 b1 b2 g0 g1 g2 hl hl2 K1 K2
      obtain ⟨k1, k2⟩ := HC.o _ HB2.o
      have a0 := k1.at_ 0 rfl
      have a1 := k1.at_ 1 rfl
      have a2 := k1.at_ 2 rfl
      have f0 := k1.frozen 0
      have f1 := k1.frozen 1
      have f2 := k1.frozen 2
      have b0 := k2.at_ 0 rfl
      have b1 := k2.at_ 1 rfl
      have b2 := k2.at_ 2 rfl
      have g0 := k2.frozen 0
      have g1 := k2.frozen 1
      have g2 := k2.frozen 2
      have hl : w.heap.size < _ := k1.lt
      have hl2 : w.heap.size + 1 < _ := k2.lt
      have K1 := hd k1
      have K2 := hd k2
      clear k1 k2
      go_wp2
      (try simp only [Exit.inBlock, Exit.then])
      refine bodyPost_ret (res_cell rfl _ _ _ _ _ _ _ rfl (((K2.o.set_ 0 _).set_ 1 _).set_ 2 _) rfl rfl rfl) rfl ⟨?_, ?_⟩
      · exact retF (f := ⟨k, 0, T⟩) (a := 0) (by rw [HR.o, resF_0]) (by rw [HR.o])
      · exact ((((HW.o _ HB2.o).setCell (Nat.le_succ _) _).setCell (Nat.le_succ _) _).setCell (Nat.le_succ _) _)
  · rw [if_neg (fun h => hE h.1)] at HR
    have nE : (E != 0) = true := by simpa using hE
    have eE : (E == 0) = false := by simpa using hE
    have HE := hd hE
    clear hE H4
    go_enter Tryz.func118, Tryz.ntmps118
    go_wp2_with fail
    rw [← hx.o]
    obtain ⟨k1, k2⟩ := HC.o _ HB0.o
    have a0 := k1.at_ 0 rfl
    have a1 := k1.at_ 1 rfl
    have a2 := k1.at_ 2 rfl
    have f0 := k1.frozen 0
    have f1 := k1.frozen 1
    have f2 := k1.frozen 2
    have b0 := k2.at_ 0 rfl
    have b1 := k2.at_ 1 rfl
    have b2 := k2.at_ 2 rfl
    have g0 := k2.frozen 0
    have g1 := k2.frozen 1
    have g2 := k2.frozen 2
    have hl : w.heap.size < _ := k1.lt
    have hl2 : w.heap.size + 1 < _ := k2.lt
    have K1 := hd k1
    have K2 := hd k2
    clear k1 k2
    go_wp2_with fail
    refine (H3.o _ (HW.o _ HB0.o)).mono ?_
    rintro e w2 ⟨rfl, hb2⟩
    have HB2 := hd hb2
    clear hb2
    clear a0 a1 a2 f0 f1 f2 b0 b1 b2 g0 g1 g2 hl hl2 K1 K2
    obtain ⟨k1, k2⟩ := HC.o _ HB2.o
    have a0 := k1.at_ 0 rfl
    have a1 := k1.at_ 1 rfl
    have a2 := k1.at_ 2 rfl
    have f0 := k1.frozen 0
    have f1 := k1.frozen 1
    have f2 := k1.frozen 2
    have b0 := k2.at_ 0 rfl
    have b1 := k2.at_ 1 rfl
    have b2 := k2.at_ 2 rfl
    have g0 := k2.frozen 0
    have g1 := k2.frozen 1
    have g2 := k2.frozen 2
    have hl : w.heap.size < _ := k1.lt
    have hl2 : w.heap.size + 1 < _ := k2.lt
    have K1 := hd k1
    have K2 := hd k2
    clear k1 k2
    go_wp2
    (try simp only [Exit.inBlock, Exit.then])
    refine bodyPost_ret (res_cell rfl _ _ _ _ _ _ _ rfl (((K2.o.set_ 0 _).set_ 1 _).set_ 2 _) rfl rfl rfl) rfl ⟨?_, ?_⟩
    · exact retF (f := noFld) (a := E) (by rw [HR.o, resF_e _ HE.o]) (by rw [HR.o])
    · exact ((((HW.o _ HB2.o).setCell (Nat.le_succ _) _).setCell (Nat.le_succ _) _).setCell (Nat.le_succ _) _)

end Go.Proofs.YtogjokofmfpmgaaGreatDoor
namespace Go.Proofs.YtogjokofmfpmgaaGreatDoor
open Go.RowKit

set_option maxRecDepth 100000 in
set_option maxHeartbeats 2000000 in
theorem rcanon_bad (k l : Int) (v : ByteArray) (w : World) (hh : k < 1 ∨ 6 < k ∨ l < 0 ∨ 3 < l ∨ ((l = 1 ∨ l = 2) ∧ k ≠ 3 ∧ k ≠ 4) ∨ (l = 3 ∧ k ≠ 3)) :
    Calls Tryz.prog 118 #[.agg #[.int .i64 k, .int .i64 l, .string v]] w fun e w' => e = .returned (fldR noFld 1) ∧ Below w.heap.size w w' := by
  obtain ⟨X, hX⟩ : ∃ X, X = (w.alloc (.cells #[.int .i64 k, .int .i64 l, .string v] 128)).alloc (.cells #[.int .i64 0, .int .i64 0, .string ⟨#[]⟩] 128) := ⟨_, rfl⟩
  have HC := hd (fun W (hb : Below X.heap.size X W) => two_cell w W 128 #[.int .i64 k, .int .i64 l, .string v] #[.int .i64 0, .int .i64 0, .string ⟨#[]⟩] (by rw [← hX]; exact hb))
  have HW := hd (fun W (hb : Below X.heap.size X W) => two_bel w W (.cells #[.int .i64 k, .int .i64 l, .string v] 128) (.cells #[.int .i64 0, .int .i64 0, .string ⟨#[]⟩] 128) (by rw [← hX]; exact hb))
  have HB0 := hd (Below.refl X.heap.size X)
  have hx := hd hX
  clear hX
  by_cases c1 : k < 1
  · clear hh
    go_enter Tryz.func118, Tryz.ntmps118
    go_wp2_with fail
    rw [← hx.o]
    obtain ⟨k1, k2⟩ := HC.o _ HB0.o
    have a0 := k1.at_ 0 rfl
    have a1 := k1.at_ 1 rfl
    have a2 := k1.at_ 2 rfl
    have f0 := k1.frozen 0
    have f1 := k1.frozen 1
    have f2 := k1.frozen 2
    have b0 := k2.at_ 0 rfl
    have b1 := k2.at_ 1 rfl
    have b2 := k2.at_ 2 rfl
    have g0 := k2.frozen 0
    have g1 := k2.frozen 1
    have g2 := k2.frozen 2
    have hl : w.heap.size < _ := k1.lt
    have hl2 : w.heap.size + 1 < _ := k2.lt
    have K1 := hd k1
    have K2 := hd k2
    clear k1 k2
    go_wp2
    (try simp only [Exit.inBlock, Exit.then])
    refine bodyPost_ret (res_cell rfl _ _ _ _ _ _ _ rfl K2.o rfl rfl rfl) rfl ⟨?_, ?_⟩
    · exact retF (f := noFld) (a := 1) rfl rfl
    · exact (HW.o _ HB0.o)
  by_cases c2 : 6 < k
  · clear hh
    go_enter Tryz.func118, Tryz.ntmps118
    go_wp2_with fail
    rw [← hx.o]
    obtain ⟨k1, k2⟩ := HC.o _ HB0.o
    have a0 := k1.at_ 0 rfl
    have a1 := k1.at_ 1 rfl
    have a2 := k1.at_ 2 rfl
    have f0 := k1.frozen 0
    have f1 := k1.frozen 1
    have f2 := k1.frozen 2
    have b0 := k2.at_ 0 rfl
    have b1 := k2.at_ 1 rfl
    have b2 := k2.at_ 2 rfl
    have g0 := k2.frozen 0
    have g1 := k2.frozen 1
    have g2 := k2.frozen 2
    have hl : w.heap.size < _ := k1.lt
    have hl2 : w.heap.size + 1 < _ := k2.lt
    have K1 := hd k1
    have K2 := hd k2
    clear k1 k2
    go_wp2
    (try simp only [Exit.inBlock, Exit.then])
    refine bodyPost_ret (res_cell rfl _ _ _ _ _ _ _ rfl K2.o rfl rfl rfl) rfl ⟨?_, ?_⟩
    · exact retF (f := noFld) (a := 1) rfl rfl
    · exact (HW.o _ HB0.o)
  by_cases c3 : l < 0
  · clear hh
    go_enter Tryz.func118, Tryz.ntmps118
    go_wp2_with fail
    rw [← hx.o]
    obtain ⟨k1, k2⟩ := HC.o _ HB0.o
    have a0 := k1.at_ 0 rfl
    have a1 := k1.at_ 1 rfl
    have a2 := k1.at_ 2 rfl
    have f0 := k1.frozen 0
    have f1 := k1.frozen 1
    have f2 := k1.frozen 2
    have b0 := k2.at_ 0 rfl
    have b1 := k2.at_ 1 rfl
    have b2 := k2.at_ 2 rfl
    have g0 := k2.frozen 0
    have g1 := k2.frozen 1
    have g2 := k2.frozen 2
    have hl : w.heap.size < _ := k1.lt
    have hl2 : w.heap.size + 1 < _ := k2.lt
    have K1 := hd k1
    have K2 := hd k2
    clear k1 k2
    go_wp2
    (try simp only [Exit.inBlock, Exit.then])
    refine bodyPost_ret (res_cell rfl _ _ _ _ _ _ _ rfl K2.o rfl rfl rfl) rfl ⟨?_, ?_⟩
    · exact retF (f := noFld) (a := 1) rfl rfl
    · exact (HW.o _ HB0.o)
  by_cases c4 : 3 < l
  · clear hh
    go_enter Tryz.func118, Tryz.ntmps118
    go_wp2_with fail
    rw [← hx.o]
    obtain ⟨k1, k2⟩ := HC.o _ HB0.o
    have a0 := k1.at_ 0 rfl
    have a1 := k1.at_ 1 rfl
    have a2 := k1.at_ 2 rfl
    have f0 := k1.frozen 0
    have f1 := k1.frozen 1
    have f2 := k1.frozen 2
    have b0 := k2.at_ 0 rfl
    have b1 := k2.at_ 1 rfl
    have b2 := k2.at_ 2 rfl
    have g0 := k2.frozen 0
    have g1 := k2.frozen 1
    have g2 := k2.frozen 2
    have hl : w.heap.size < _ := k1.lt
    have hl2 : w.heap.size + 1 < _ := k2.lt
    have K1 := hd k1
    have K2 := hd k2
    clear k1 k2
    go_wp2
    (try simp only [Exit.inBlock, Exit.then])
    refine bodyPost_ret (res_cell rfl _ _ _ _ _ _ _ rfl K2.o rfl rfl rfl) rfl ⟨?_, ?_⟩
    · exact retF (f := noFld) (a := 1) rfl rfl
    · exact (HW.o _ HB0.o)
  have n3 : (k != 3) = true := by simp; omega
  by_cases c5 : l = 3
  · clear hh c3 c4
    subst c5
    by_cases c6 : k = 4
    · subst c6
      go_enter Tryz.func118, Tryz.ntmps118
      go_wp2_with fail
      rw [← hx.o]
      obtain ⟨k1, k2⟩ := HC.o _ HB0.o
      have a0 := k1.at_ 0 rfl
      have a1 := k1.at_ 1 rfl
      have a2 := k1.at_ 2 rfl
      have f0 := k1.frozen 0
      have f1 := k1.frozen 1
      have f2 := k1.frozen 2
      have b0 := k2.at_ 0 rfl
      have b1 := k2.at_ 1 rfl
      have b2 := k2.at_ 2 rfl
      have g0 := k2.frozen 0
      have g1 := k2.frozen 1
      have g2 := k2.frozen 2
      have hl : w.heap.size < _ := k1.lt
      have hl2 : w.heap.size + 1 < _ := k2.lt
      have K1 := hd k1
      have K2 := hd k2
      clear k1 k2
      go_wp2
      (try simp only [Exit.inBlock, Exit.then])
      refine bodyPost_ret (res_cell rfl _ _ _ _ _ _ _ rfl K2.o rfl rfl rfl) rfl ⟨?_, ?_⟩
      · exact retF (f := noFld) (a := 1) rfl rfl
      · exact (HW.o _ HB0.o)
    · have n4 : (k != 4) = true := by simpa using c6
      clear c6
      go_enter Tryz.func118, Tryz.ntmps118
      go_wp2_with fail
      rw [← hx.o]
      obtain ⟨k1, k2⟩ := HC.o _ HB0.o
      have a0 := k1.at_ 0 rfl
      have a1 := k1.at_ 1 rfl
      have a2 := k1.at_ 2 rfl
      have f0 := k1.frozen 0
      have f1 := k1.frozen 1
      have f2 := k1.frozen 2
      have b0 := k2.at_ 0 rfl
      have b1 := k2.at_ 1 rfl
      have b2 := k2.at_ 2 rfl
      have g0 := k2.frozen 0
      have g1 := k2.frozen 1
      have g2 := k2.frozen 2
      have hl : w.heap.size < _ := k1.lt
      have hl2 : w.heap.size + 1 < _ := k2.lt
      have K1 := hd k1
      have K2 := hd k2
      clear k1 k2
      go_wp2
      (try simp only [Exit.inBlock, Exit.then])
      refine bodyPost_ret (res_cell rfl _ _ _ _ _ _ _ rfl K2.o rfl rfl rfl) rfl ⟨?_, ?_⟩
      · exact retF (f := noFld) (a := 1) rfl rfl
      · exact (HW.o _ HB0.o)
  have n4 : (k != 4) = true := by simp; omega
  have nl : (l != 0) = true := by simp; omega
  clear hh c5
  go_enter Tryz.func118, Tryz.ntmps118
  go_wp2_with fail
  rw [← hx.o]
  obtain ⟨k1, k2⟩ := HC.o _ HB0.o
  have a0 := k1.at_ 0 rfl
  have a1 := k1.at_ 1 rfl
  have a2 := k1.at_ 2 rfl
  have f0 := k1.frozen 0
  have f1 := k1.frozen 1
  have f2 := k1.frozen 2
  have b0 := k2.at_ 0 rfl
  have b1 := k2.at_ 1 rfl
  have b2 := k2.at_ 2 rfl
  have g0 := k2.frozen 0
  have g1 := k2.frozen 1
  have g2 := k2.frozen 2
  have hl : w.heap.size < _ := k1.lt
  have hl2 : w.heap.size + 1 < _ := k2.lt
  have K1 := hd k1
  have K2 := hd k2
  clear k1 k2
  go_wp2
  (try simp only [Exit.inBlock, Exit.then])
  refine bodyPost_ret (res_cell rfl _ _ _ _ _ _ _ rfl K2.o rfl rfl rfl) rfl ⟨?_, ?_⟩
  · exact retF (f := noFld) (a := 1) rfl rfl
  · exact (HW.o _ HB0.o)

end Go.Proofs.YtogjokofmfpmgaaGreatDoor
namespace Go.Proofs.YtogjokofmfpmgaaGreatDoor
open Go.RowKit

set_option maxHeartbeats 1000000 in
theorem rmay_of (f g : Fld) (E : Int) (w : World) (C : Hd (∀ W, Below w.heap.size w W → Calls Tryz.prog 118 #[fldV f] W fun e w' => e = .returned (fldR g E) ∧ Below W.heap.size W w')) :
    Calls Tryz.prog 109 #[fldV f] w fun e w' => e = .returned (.bool (decide (E = 0 ∧ g = f))) ∧ Below w.heap.size w w' := by
  obtain ⟨v, hv⟩ : ∃ v, decide (E = 0 ∧ g = f) = v := ⟨_, rfl⟩
  rw [hv]
  obtain ⟨fk, fl, fv⟩ := f
  obtain ⟨gk, gl, gv⟩ := g
  have HV := eqF_iff (E := E) (gk := gk) (gl := gl) (fk := fk) (fl := fl) (gv := gv) (fv := fv) hv.symm
  clear hv
  simp only [fldR, fldV] at C
  change Calls _ _ #[.agg #[.int .i64 fk, .int .i64 fl, .string (bs fv)]] _ _
  have HB0 := hd ((Below.refl w.heap.size w).alloc (Nat.le_refl _) (.cells #[.int .i64 fk, .int .i64 fl, .string (bs fv)] 128))
  have HK := hd (Blk.new w 128 #[.int .i64 fk, .int .i64 fl, .string (bs fv)])
  by_cases hE : E = 0
  · subst hE
    go_enter Tryz.func109, Tryz.ntmps109
    go_wp2_with fail
    refine (C.o _ HB0.o).mono ?_
    rintro e w1 ⟨rfl, hb1⟩
    have k1 := HK.o.below hb1 (by simp)
    have HB1 := hd (HB0.o.trans (hb1.mono HB0.o.size))
    have a0 := k1.at_ 0 rfl
    have a1 := k1.at_ 1 rfl
    have a2 := k1.at_ 2 rfl
    have hl : w.heap.size < w1.heap.size := k1.lt
    clear k1 hb1 HK HB0 C
    go_wp2
    all_goals
      ((try simp only [bs_toL] at *)
       go_ret
       first
         | exact ⟨retBB (HV.o.2 ⟨rfl, by first | rfl | assumption, by first | rfl | assumption, by first | rfl | assumption⟩).symm, HB1.o.alloc HB1.o.size _⟩
         | exact ⟨retBB (Bool.eq_false_iff.2 fun h => by obtain ⟨_, i1, i2, i3⟩ := HV.o.1 h; first | contradiction | (exact absurd i1 (by assumption)) | (exact absurd i2 (by assumption)) | (exact absurd i3 (by assumption))).symm, HB1.o.alloc HB1.o.size _⟩)
  · have n0 : (E == 0) = false := by simpa using hE
    have HX := hd (Bool.eq_false_iff.2 fun h => hE (HV.o.1 h).1)
    clear hE
    go_enter Tryz.func109, Tryz.ntmps109
    go_wp2_with fail
    refine (C.o _ HB0.o).mono ?_
    rintro e w1 ⟨rfl, hb1⟩
    have HB1 := hd (HB0.o.trans (hb1.mono HB0.o.size))
    clear hb1 HK HB0 C
    go_wp2

    go_ret
    exact ⟨retBB HX.o.symm, HB1.o.alloc HB1.o.size _⟩

end Go.Proofs.YtogjokofmfpmgaaGreatDoor
namespace Go.Proofs.YtogjokofmfpmgaaGreatDoor
open Go.RowKit

theorem rcanon_calls (f : Fld) (hs : f.v.length ≤ 1000000) (w : World) : Calls Tryz.prog 118 #[fldV f] w fun e w' => e = .returned (fldR (fldC f) (fldE f)) ∧ Below w.heap.size w w' := by
  obtain ⟨k, l, v⟩ := f
  have hz : (bs v).size ≤ 1000000 := by rw [bs_size]; exact hs
  rw [fldC_res]
  by_cases hh : okKL k l
  · have hE : fldE ⟨k, l, v⟩ = valE k v := if_pos hh
    obtain ⟨hk, hl⟩ := (okKL_iff k l).1 hh
    by_cases h3 : k = 3
    · subst h3
      have hv : valE 3 v = telE v := rfl
      rw [hE, hv]
      exact rcanon_3 l (by unfold okL at hl; omega) (bs v) (telT v) (telE v) (telE v) rfl w (fun W h => rtel_calls (bs v) hz W)
    by_cases h4 : k = 4
    · subst h4
      have hv : valE 4 v = canE v := rfl
      rw [hE, hv]
      exact rcanon_4 l (by unfold okL at hl; omega) (bs v) (canT v) (canE v) (canE v) rfl w (fun W h => rmail_calls (bs v) hz W)
    · have hl0 : l = 0 := by unfold okL at hl; omega
      subst hl0
      have hT : valT k v = cleanT v := by unfold valT; rw [if_neg h3, if_neg h4]
      have hP : preE k v = cleanE v := by unfold preE; rw [if_neg h3, if_neg h4]
      obtain ⟨y, m, d, _, hp⟩ := parse_day (cleanT v) (cleanT_len v)
      have hv := valE_pre k v
      rw [hT, hP] at hv
      rw [hE]
      show Calls _ _ _ _ fun e w' => e = .returned (fldR (resF ⟨k, 0, valT k v⟩ _) _) ∧ _
      rw [hT]
      exact rcanon_o k hk.1 hk.2 h3 h4 (bs v) (cleanT v) (cleanE v) y m d (dayE (cleanT v)) _ hv w (fun W h => rclean_calls (bs v) hz W) (fun W h => hp W)
  · have hE : fldE ⟨k, l, v⟩ = 1 := if_neg hh
    rw [hE]
    show Calls _ _ _ _ fun e w' => e = .returned (fldR noFld 1) ∧ _
    exact rcanon_bad k l (bs v) w (by unfold okKL at hh; omega)

theorem rfmay_calls (f : Fld) (hs : f.v.length ≤ 1000000) (w : World) : Calls Tryz.prog 109 #[fldV f] w fun e w' => e = .returned (.bool (mayF f)) ∧ Below w.heap.size w w' := by
  have := rmay_of f (fldC f) (fldE f) w (fun W h => rcanon_calls f hs W)
  rwa [mayF_dec] at this

end Go.Proofs.YtogjokofmfpmgaaGreatDoor
namespace Go.Proofs.YtogjokofmfpmgaaGreatDoor
open Go.RowKit

theorem flat_drop {R : Type} (enc : R → List Value) (k : Nat) (hk : ∀ r, (enc r).length = k) : ∀ (l : List R) (i : Nat), (l.flatMap enc).drop (i * k) = (l.drop i).flatMap enc
  | [], i => by simp
  | a :: l, 0 => by simp
  | a :: l, i + 1 => by
    rw [List.flatMap_cons, Nat.add_mul, Nat.one_mul, Nat.add_comm, List.drop_succ_cons, ← flat_drop enc k hk l i]
    rw [List.drop_append, hk, List.drop_of_length_le (by rw [hk]; omega), List.nil_append]
    congr 1
    omega
end Go.Proofs.YtogjokofmfpmgaaGreatDoor
namespace Go.Proofs.YtogjokofmfpmgaaGreatDoor
open Go.RowKit Go.Lib

def pushFull (cap : Int) (l : List (Int × List UInt8)) : Bool := decide ((l.length : Int) = cap)
def Cs.hor (s : Cs) : Int := if pushFull s.cap s.log = true then max s.horizon (s.log.headD (0, [])).1 else s.horizon
end Go.Proofs.YtogjokofmfpmgaaGreatDoor
namespace Go.Proofs.YtogjokofmfpmgaaGreatDoor
open Go.RowKit Go.Lib

theorem rise_take (l : List Fld) (k : Nat) (h : k < l.length) : riseF (l.take (k + 1)) = insF (riseF (l.take k)) l[k] := by
  unfold riseF
  rw [List.take_succ_eq_append_getElem h, List.foldl_append]
  rfl

end Go.Proofs.YtogjokofmfpmgaaGreatDoor
namespace Go.Proofs.YtogjokofmfpmgaaGreatDoor
open Go.RowKit

noncomputable def encR (q : Rq) : List UInt8 := if chk q = 0 then encB q else []

end Go.Proofs.YtogjokofmfpmgaaGreatDoor
namespace Go.Proofs.YtogjokofmfpmgaaGreatDoor
open Go.RowKit

theorem low_t {c : Nat} (h : lowC c) (w : World) : Calls Tryz.prog 90 #[.int .u8 c] w fun e w' => e = .returned (.bool true) ∧ w = w' :=
  (low_calls c w).mono fun e w' ⟨h1, h2⟩ => ⟨by rw [h1, show (decide ((97 : Int) ≤ (c : Int)) && decide ((c : Int) ≤ 122)) = true by have := h.1; have := h.2; simp; omega], h2⟩
theorem low_f {c : Nat} (h : ¬ lowC c) (w : World) : Calls Tryz.prog 90 #[.int .u8 c] w fun e w' => e = .returned (.bool false) ∧ w = w' :=
  (low_calls c w).mono fun e w' ⟨h1, h2⟩ => ⟨by rw [h1, show (decide ((97 : Int) ≤ (c : Int)) && decide ((c : Int) ≤ 122)) = false by unfold lowC at h; simp; omega], h2⟩
def digC (c : Nat) : Prop := 48 ≤ c ∧ c ≤ 57
def upC (c : Nat) : Prop := 65 ≤ c ∧ c ≤ 90
theorem dig_t {c : Nat} (h : digC c) (w : World) : Calls Tryz.prog 91 #[.int .u8 c] w fun e w' => e = .returned (.bool true) ∧ w = w' :=
  (digit_calls c w).mono fun e w' ⟨h1, h2⟩ => ⟨by rw [h1, show (decide ((48 : Int) ≤ (c : Int)) && decide ((c : Int) ≤ 57)) = true by have := h.1; have := h.2; simp; omega], h2⟩
theorem dig_f {c : Nat} (h : ¬ digC c) (w : World) : Calls Tryz.prog 91 #[.int .u8 c] w fun e w' => e = .returned (.bool false) ∧ w = w' :=
  (digit_calls c w).mono fun e w' ⟨h1, h2⟩ => ⟨by rw [h1, show (decide ((48 : Int) ≤ (c : Int)) && decide ((c : Int) ≤ 57)) = false by unfold digC at h; simp; omega], h2⟩
theorem up_t {c : Nat} (h : upC c) (w : World) : Calls Tryz.prog 92 #[.int .u8 c] w fun e w' => e = .returned (.bool true) ∧ w = w' :=
  (up_calls c w).mono fun e w' ⟨h1, h2⟩ => ⟨by rw [h1, show (decide ((65 : Int) ≤ (c : Int)) && decide ((c : Int) ≤ 90)) = true by have := h.1; have := h.2; simp; omega], h2⟩
theorem up_f {c : Nat} (h : ¬ upC c) (w : World) : Calls Tryz.prog 92 #[.int .u8 c] w fun e w' => e = .returned (.bool false) ∧ w = w' :=
  (up_calls c w).mono fun e w' ⟨h1, h2⟩ => ⟨by rw [h1, show (decide ((65 : Int) ≤ (c : Int)) && decide ((c : Int) ≤ 90)) = false by unfold upC at h; simp; omega], h2⟩

set_option maxHeartbeats 4000000 in
theorem rname_calls (s : ByteArray) (hs : s.size ≤ 1000000000) (w : World) : Calls Tryz.prog 69 #[.string s] w fun e w' => e = .returned (.bool (nameB s.data.toList)) ∧ w = w' := by
  obtain ⟨v, hv⟩ : ∃ v, nameB s.data.toList = v := ⟨_, rfl⟩
  rw [hv]
  have HF := hd (fun h => hv.symm.trans (decide_eq_false h) : ¬ NameP s.data.toList → v = false)
  have HT := hd (fun h => hv.symm.trans (decide_eq_true h) : NameP s.data.toList → v = true)
  have HSH := hd (nameP_short s)
  clear hv
  by_cases c1 : s.size < 1
  · have HV := hd (HF.o (HSH.o (.inl c1)))
    go_enter Tryz.func69, Tryz.ntmps69
    go_wp2
    go_ret
    exact ⟨retB HV.o.symm, rfl⟩
  by_cases c2 : 16 < s.size
  · have HV := hd (HF.o (HSH.o (.inr c2)))
    go_enter Tryz.func69, Tryz.ntmps69
    go_wp2
    go_ret
    exact ⟨retB HV.o.symm, rfl⟩
  have c3 : 0 < s.size := by omega
  have c4 : s.size - 1 < s.size := by omega
  have HI := hd (nameP_iff s c3 c4)
  clear HSH
  by_cases c5 : lowC s[0].toNat
  case neg =>
    have HV := hd (HF.o (fun h => c5 (HI.o.1 h).2.1))
    have K0 := hd (fun W => low_f c5 W)
    clear c5
    go_enter Tryz.func69, Tryz.ntmps69
    go_wp2_with (go_at_call 90; refine (K0.o _).mono ?_; rintro e w' ⟨rfl, rfl⟩)
    go_ret
    exact ⟨retB HV.o.symm, rfl⟩
  have K0 := hd (fun W => low_t c5 W)
  by_cases c7 : s[s.size - 1].toNat = 45
  · have HV := hd (HF.o (fun h => (HI.o.1 h).2.2.1 c7))
    have n7 : ((s[s.size - 1].toNat : Int) == 45) = true := by simp; omega
    clear c7 c5
    go_enter Tryz.func69, Tryz.ntmps69
    go_wp2_with (go_at_call 90; refine (K0.o _).mono ?_; rintro e w' ⟨rfl, rfl⟩)
    go_ret
    exact ⟨retB HV.o.symm, rfl⟩
  have n7 : ((s[s.size - 1].toNat : Int) == 45) = false := by simp; omega
  have HLW := hd c5
  have H7 := hd c7
  clear c7 c5
  go_enter Tryz.func69, Tryz.ntmps69
  go_wp2_with (go_at_call 90; refine (K0.o _).mono ?_; rintro e w' ⟨rfl, rfl⟩)
  go_loop [3] (fun i => ∃ k : Nat, i = .int .i64 k ∧ k ≤ s.size ∧ Hd (∀ j, j < k → nameC (bt s.data.toList j))) (fun i => s.size - (intOf i).toNat)
  case atStart => exact ⟨0, rfl, Nat.zero_le _, fun j hj => absurd hj (Nat.not_lt_zero _)⟩
  case round =>
    obtain ⟨k, rfl, hk, hh⟩ := hrel
    by_cases hlt : k < s.size
    · have BK := hd (bt_self s k hlt)
      have hki : (k : Int) < (s.size : Int) := by omega
      have hk0 : (0 : Int) ≤ (k : Int) := by omega
      have HNX := hd (fun (hu : nameC s[k].toNat) => show ∀ j, j < k + 1 → nameC (bt s.data.toList j) from fun j hj => by
        by_cases e : j = k
        · subst e; rw [BK.o]; exact hu
        · exact hh.o j (by omega))
      have HBD := hd (fun (hu : ¬ nameC s[k].toNat) => HF.o (fun h => hu (by rw [← BK.o]; exact (HI.o.1 h).2.2.2 k hlt)))
      by_cases h1 : lowC s[k].toNat
      · have HN := hd (HNX.o (.inl h1))
        have K1 := hd (fun W => low_t h1 W)
        clear h1
        go_wp2_with (go_at_call 90; refine (K1.o _).mono ?_; rintro e w' ⟨rfl, rfl⟩)
        go_round
        case rel => exact ⟨k + 1, by go_num, by omega, HN⟩
        case measure => simp [intOf]; omega
      · have K1 := hd (fun W => low_f h1 W)
        by_cases h2 : digC s[k].toNat
        · have HN := hd (HNX.o (.inr (.inl h2)))
          have K2 := hd (fun W => dig_t h2 W)
          clear h1 h2
          go_wp2_with (first | (go_at_call 90; refine (K1.o _).mono ?_; rintro e w' ⟨rfl, rfl⟩) | (go_at_call 91; refine (K2.o _).mono ?_; rintro e w' ⟨rfl, rfl⟩))
          go_round
          case rel => exact ⟨k + 1, by go_num, by omega, HN⟩
          case measure => simp [intOf]; omega
        · have K2 := hd (fun W => dig_f h2 W)
          by_cases h3 : s[k].toNat = 45
          · have HN := hd (HNX.o (.inr (.inr h3)))
            have nm : ((s[k].toNat : Int) != 45) = false := by simp; omega
            clear h1 h2 h3
            go_wp2_with (first | (go_at_call 90; refine (K1.o _).mono ?_; rintro e w' ⟨rfl, rfl⟩) | (go_at_call 91; refine (K2.o _).mono ?_; rintro e w' ⟨rfl, rfl⟩))
            go_round
            case rel => exact ⟨k + 1, by go_num, by omega, HN⟩
            case measure => simp [intOf]; omega
          · have HV := hd (HBD.o (fun h => by rcases h with h | h | h; exact h1 h; exact h2 h; exact h3 h))
            have nm : ((s[k].toNat : Int) != 45) = true := by simp; omega
            clear h1 h2 h3
            go_wp2_with (first | (go_at_call 90; refine (K1.o _).mono ?_; rintro e w' ⟨rfl, rfl⟩) | (go_at_call 91; refine (K2.o _).mono ?_; rintro e w' ⟨rfl, rfl⟩))
            go_ret
            exact ⟨retB HV.o.symm, rfl⟩
    · obtain rfl : k = s.size := by omega
      have HV := hd (HT.o (HI.o.2 ⟨by omega, HLW.o, H7.o, hh.o⟩))
      go_wp2
      go_ret
      exact ⟨retB HV.o.symm, rfl⟩

set_option maxHeartbeats 4000000 in
theorem ruid_calls (s : ByteArray) (hs : s.size ≤ 1000000000) (w : World) : Calls Tryz.prog 70 #[.string s] w fun e w' => e = .returned (.bool (uidB s.data.toList)) ∧ w = w' := by
  obtain ⟨v, hv⟩ : ∃ v, uidB s.data.toList = v := ⟨_, rfl⟩
  rw [hv]
  have HF := hd (fun h => hv.symm.trans (decide_eq_false h) : ¬ UidP s.data.toList → v = false)
  have HT := hd (fun h => hv.symm.trans (decide_eq_true h) : UidP s.data.toList → v = true)
  have HI := hd (uidP_iff s)
  clear hv
  by_cases c1 : s.size < 1
  · have HV := hd (HF.o (fun h => by have := (HI.o.1 h).1; omega))
    go_enter Tryz.func70, Tryz.ntmps70
    go_wp2
    go_ret
    exact ⟨retB HV.o.symm, rfl⟩
  by_cases c2 : 24 < s.size
  · have HV := hd (HF.o (fun h => by have := (HI.o.1 h).2.1; omega))
    go_enter Tryz.func70, Tryz.ntmps70
    go_wp2
    go_ret
    exact ⟨retB HV.o.symm, rfl⟩
  go_enter Tryz.func70, Tryz.ntmps70
  go_wp2_with fail
  go_loop [3, 4] (fun i _ => ∃ k : Nat, i = .int .i64 k ∧ k ≤ s.size ∧ Hd (∀ j, j < k → uidC (bt s.data.toList j))) (fun i _ => s.size - (intOf i).toNat)
  case atStart => exact ⟨0, rfl, Nat.zero_le _, fun j hj => absurd hj (Nat.not_lt_zero _)⟩
  case round =>
    obtain ⟨k, rfl, hk, hh⟩ := hrel
    by_cases hlt : k < s.size
    · have BK := hd (bt_self s k hlt)
      have hki : (k : Int) < (s.size : Int) := by omega
      have hk0 : (0 : Int) ≤ (k : Int) := by omega
      have HNX := hd (fun (hu : uidC s[k].toNat) => show ∀ j, j < k + 1 → uidC (bt s.data.toList j) from fun j hj => by
        by_cases e : j = k
        · subst e; rw [BK.o]; exact hu
        · exact hh.o j (by omega))
      have HBD := hd (fun (hu : ¬ uidC s[k].toNat) => HF.o (fun h => hu (by rw [← BK.o]; exact (HI.o.1 h).2.2 k hlt)))
      obtain ⟨c, hc⟩ : ∃ c, s[k].toNat = c := ⟨_, rfl⟩
      rw [hc] at HNX HBD
      have hcv : (s[k].toNat : Int) = (c : Int) := by rw [hc]
      by_cases h1 : lowC c
      · have HN := hd (HNX.o (.inl h1))
        have K1 := hd (fun W => low_t h1 W)
        clear h1 hc
        go_wp2_with (go_at_call 90; refine (K1.o _).mono ?_; rintro e w' ⟨rfl, rfl⟩)
        go_round
        case rel => exact ⟨k + 1, by go_num, by omega, HN⟩
        case measure => simp [intOf]; omega
      · have K1 := hd (fun W => low_f h1 W)
        by_cases h2 : upC c
        · have HN := hd (HNX.o (.inr (.inl h2)))
          have K2 := hd (fun W => up_t h2 W)
          clear h1 h2 hc
          go_wp2_with (first | (go_at_call 90; refine (K1.o _).mono ?_; rintro e w' ⟨rfl, rfl⟩) | (go_at_call 92; refine (K2.o _).mono ?_; rintro e w' ⟨rfl, rfl⟩))
          go_round
          case rel => exact ⟨k + 1, by go_num, by omega, HN⟩
          case measure => simp [intOf]; omega
        · have K2 := hd (fun W => up_f h2 W)
          by_cases h3 : digC c
          · have HN := hd (HNX.o (.inr (.inr (.inl h3))))
            have K3 := hd (fun W => dig_t h3 W)
            clear h1 h2 h3 hc
            go_wp2_with (first | (go_at_call 90; refine (K1.o _).mono ?_; rintro e w' ⟨rfl, rfl⟩) | (go_at_call 92; refine (K2.o _).mono ?_; rintro e w' ⟨rfl, rfl⟩) | (go_at_call 91; refine (K3.o _).mono ?_; rintro e w' ⟨rfl, rfl⟩))
            go_round
            case rel => exact ⟨k + 1, by go_num, by omega, HN⟩
            case measure => simp [intOf]; omega
          · have K3 := hd (fun W => dig_f h3 W)
            by_cases h4 : ubC c = true
            · have HN := hd (HNX.o (by
                unfold ubC at h4
                rw [decide_eq_true_iff] at h4
                exact .inr (.inr (.inr h4))))
              unfold ubC at h4
              rw [decide_eq_true_iff] at h4
              clear h1 h2 h3
              rcases h4 with rfl | rfl | rfl | rfl
              all_goals
                clear hc
                go_wp2_with (first | (go_at_call 90; refine (K1.o _).mono ?_; rintro e w' ⟨rfl, rfl⟩) | (go_at_call 92; refine (K2.o _).mono ?_; rintro e w' ⟨rfl, rfl⟩) | (go_at_call 91; refine (K3.o _).mono ?_; rintro e w' ⟨rfl, rfl⟩))
                go_round
                case rel => exact ⟨k + 1, by go_num, by omega, HN⟩
                case measure => simp [intOf]; omega
            · have HV := hd (HBD.o (fun h => by
                rcases h with h | h | h | h
                · exact h1 h
                · exact h2 h
                · exact h3 h
                · exact h4 (by unfold ubC; exact decide_eq_true h)))
              have m45 : ((c : Int) != 45) = true := by simp; intro h; apply h4; unfold ubC; simp; omega
              have m46 : ((c : Int) != 46) = true := by simp; intro h; apply h4; unfold ubC; simp; omega
              have m95 : ((c : Int) != 95) = true := by simp; intro h; apply h4; unfold ubC; simp; omega
              have m64 : ((c : Int) != 64) = true := by simp; intro h; apply h4; unfold ubC; simp; omega
              clear h1 h2 h3 h4 hc
              go_wp2_with (first | (go_at_call 90; refine (K1.o _).mono ?_; rintro e w' ⟨rfl, rfl⟩) | (go_at_call 92; refine (K2.o _).mono ?_; rintro e w' ⟨rfl, rfl⟩) | (go_at_call 91; refine (K3.o _).mono ?_; rintro e w' ⟨rfl, rfl⟩))
              go_ret
              exact ⟨retB HV.o.symm, rfl⟩
    · obtain rfl : k = s.size := by omega
      have HV := hd (HT.o (HI.o.2 ⟨by omega, by omega, hh.o⟩))
      go_wp2
      go_ret
      exact ⟨retB HV.o.symm, rfl⟩

end Go.Proofs.YtogjokofmfpmgaaGreatDoor
