/-
  Fields: the field of a line, the reference's.
-/
import Derived.Test.YtpejlcaoggedfaaDoorFldS
import Derived.Test.YtpejlcaoggedfaaDoorFldQ
set_option linter.unusedVariables false
set_option linter.unusedSimpArgs false
namespace Go.Proofs.YtpejlcaoggedfaaDoor
open Go.RowKit

theorem raw_at {S : List UInt8} {f : Fld} (h : Found S f) : (headL f.k f.l ++ [58]).length ≤ S.length ∧ S.take (headL f.k f.l ++ [58]).length = headL f.k f.l ++ [58] ∧ S.drop (headL f.k f.l ++ [58]).length = f.v := by
  have e : S = (headL f.k f.l ++ [58]) ++ f.v := by rw [← h.2]; simp [rawL]
  rw [e]
  refine ⟨by simp, ?_, ?_⟩
  · rw [List.take_append_of_le_length (Nat.le_refl _), List.take_length]
  · rw [List.drop_append_of_le_length (Nat.le_refl _), List.drop_length, List.nil_append]
theorem found_of {S : List UInt8} {k l : Int} (ht : S.take (headL k l ++ [58]).length = headL k l ++ [58]) (hm : MayF ⟨k, l, S.drop (headL k l ++ [58]).length⟩) : Found S ⟨k, l, S.drop (headL k l ++ [58]).length⟩ := by
  refine ⟨hm, ?_⟩
  have : rawL ⟨k, l, S.drop (headL k l ++ [58]).length⟩ = (headL k l ++ [58]) ++ S.drop (headL k l ++ [58]).length := by simp [rawL]
  rw [this]
  conv => rhs; rw [← List.take_append_drop (headL k l ++ [58]).length S]
  rw [ht]
theorem ext_take (s : ByteArray) (n : Nat) : (s.extract 0 n).data.toList = s.data.toList.take n := by rw [ext_data]; simp
theorem ext_drop (s : ByteArray) (n : Nat) : (s.extract n s.size).data.toList = s.data.toList.drop n := by
  rw [ext_data]
  exact List.take_of_length_le (by rw [List.length_drop]; simp)

theorem retF' {f g : Fld} {v : Value} {e a : Int} (h : fldV f = v) (h1 : f = g) (h2 : a = e) : Ending.returned (.tuple #[v, .int .i64 a]) = .returned (fldR g e) := by
  rw [← h, h1, h2]; rfl

set_option maxRecDepth 100000 in
set_option maxHeartbeats 4000000 in
theorem rfparse_calls (s : ByteArray) (hs : s.size ≤ 1000000) (w : World) : Calls Tryd.prog 13 #[.string s] w fun e w' => e = .returned (fldR (parF s.data.toList) (parE s.data.toList)) ∧ Below w.heap.size w w' := by
  obtain ⟨V, hV⟩ : ∃ V, parF s.data.toList = V := ⟨_, rfl⟩
  obtain ⟨F, hF⟩ : ∃ F, parE s.data.toList = F := ⟨_, rfl⟩
  rw [hV, hF]
  have HY : Hd (∀ f, Found s.data.toList f → V = f ∧ F = 0) := hd (fun f hf => by rw [← hV, ← hF]; exact par_yes hf)
  have HN : Hd ((∀ f, ¬ Found s.data.toList f) → V = noFld ∧ F = 1) := hd (fun h => by rw [← hV, ← hF]; exact par_no h)
  clear hV hF
  have HSL := hd (show s.data.toList.length = s.size by simp)
  obtain ⟨S, hS⟩ : ∃ S, s.data.toList = S := ⟨_, rfl⟩
  have HS := hd hS
  rw [hS] at HY HN HSL
  clear hS
  obtain ⟨X, hX⟩ : ∃ X, X = w.alloc (.cells #[.int .i64 0, .int .i64 0, .string ⟨#[]⟩] 23) := ⟨_, rfl⟩
  have HB0 := hd (show Below w.heap.size w X by rw [hX]; exact (Below.refl _ w).alloc (Nat.le_refl _) _)
  have HK := hd (show Blk X w.heap.size 23 #[.int .i64 0, .int .i64 0, .string ⟨#[]⟩] by rw [hX]; exact Blk.new _ _ _)
  have HX := hd (show X.heap.size = w.heap.size + 1 by rw [hX]; simp)
  have hx := hd hX
  clear hX
  obtain ⟨Y, hY⟩ : ∃ Y, Y = (X.alloc (.cells wordsC 9)).alloc (.cells labelsC 9) := ⟨_, rfl⟩
  have HBY := hd (show Below X.heap.size X Y by rw [hY]; exact twoB _ _ _)
  have HYX := hd (show Y.heap.size = X.heap.size + 2 by rw [hY]; simp)
  have HKW := hd (show Blk Y X.heap.size 9 wordsC by rw [hY]; exact (Blk.new _ _ _).alloc _)
  have HKL := hd (show Blk Y (X.heap.size + 1) 9 labelsC by rw [hY]; exact Blk.new_ _ _ (by simp) _ _)
  have hy := hd hY
  clear hY
  go_enter Tryd.func13, Tryd.ntmps13
  go_wp2_with fail
  rw [← hx.o]
  refine (words_calls X).mono ?_
  rintro e w1 ⟨rfl, rfl⟩
  go_wp2_with fail
  refine (labels_calls _).mono ?_
  rintro e w1 ⟨rfl, rfl⟩
  rw [← hy.o]
  rw [show (X.alloc (.cells wordsC 9)).heap.size = X.heap.size + 1 by simp]
  go_wp2_with fail
  go_loopw [6, 7, 8, 9, 3] (fun k _ _ _ _ wr => ∃ q : Nat, k = .int .i64 q ∧ 1 ≤ q ∧ q ≤ 7 ∧ Hd (From1 S q) ∧ Below Y.heap.size Y wr) (fun k _ _ _ _ _ => 7 - (intOf k).toNat)
  case atStart => exact ⟨1, rfl, by omega, by omega, hd (from1_0 S), Below.refl _ _⟩
  case round =>
    obtain ⟨q, rfl, hq1, hq7, hf, hbe⟩ := hrel
    obtain ⟨wo, rfl⟩ : ∃ wo : World, wo = wr := ⟨_, rfl⟩
    have HBO := hd hbe
    clear hbe
    by_cases hlt : q < 7
    · have hq6 : (q : Int) ≤ 6 := by omega
      have hq6' : decide ((q : Int) ≤ 6) = true := by simpa using hq6
      go_wp2_with fail
      go_loopw [7, 8, 9, 3] (fun l _ _ _ wr => ∃ r : Nat, l = .int .i64 r ∧ r ≤ 4 ∧ Hd (From2 S q r) ∧ Below Y.heap.size Y wr) (fun l _ _ _ _ => 4 - (intOf l).toNat)
      case atStart => exact ⟨0, rfl, by omega, hd (from2_0 hf.o), HBO.o⟩
      case round =>
        obtain ⟨r, rfl, hr4, hg, hbe⟩ := hrel
        obtain ⟨wi, rfl⟩ : ∃ wi : World, wi = wr := ⟨_, rfl⟩
        have HBI := hd hbe
        clear hbe
        by_cases hlt4 : r < 4
        · have hr4' : (r : Int) < 4 := by omega
          have hr4'' : decide ((r : Int) < 4) = true := by simpa using hr4'
          have hq7' : (q : Int) < 7 := by omega
          have hq0 : (0 : Int) ≤ (q : Int) := by omega
          have hr0 : (0 : Int) ≤ (r : Int) := by omega
          have cw := (HKW.o.below HBI.o (by rw [HYX.o]; omega)).at_ q (words_at q hlt)
          have cl := (HKL.o.below HBI.o (by rw [HYX.o]; omega)).at_ r (labels_at r hlt4)
          have hlk := kindL_len q
          have hll := labL_len r
          have hsum : bs (kindL q) ++ bs (labL r) ++ ⟨#[58]⟩ = bs (headL q r ++ [58]) := by
            rw [show (⟨#[58]⟩ : ByteArray) = bs [58] from rfl, bs_app2, bs_app2]; rfl
          have hnl : (headL q r ++ [58]).length ≤ 10 := by simp [headL]; omega
          rw [← bs_size] at hlk hll
          have HNF := hd (fun f (hf : Found S f) (e1 : f.k = q) (e2 : f.l = r) => (by have := raw_at hf; rwa [e1, e2] at this : (headL q r ++ [58]).length ≤ S.length ∧ S.take (headL q r ++ [58]).length = headL q r ++ [58] ∧ S.drop (headL q r ++ [58]).length = f.v))
          have HFO := hd (found_of (S := S) (k := q) (l := r))
          obtain ⟨P, hP⟩ : ∃ P, headL q r ++ [58] = P := ⟨_, rfl⟩
          obtain ⟨n, hn⟩ : ∃ n, P.length = n := ⟨_, rfl⟩
          obtain ⟨K, hK⟩ : ∃ K, bs (kindL q) = K := ⟨_, rfl⟩
          obtain ⟨B, hB⟩ : ∃ B, bs (labL r) = B := ⟨_, rfl⟩
          rw [hP, hn] at HNF HFO
          rw [hP] at hsum hnl
          rw [hn] at hnl
          rw [hK] at cw hsum hlk
          rw [hB] at cl hsum hll
          have zs1 : (K ++ B).size = K.size + B.size := ByteArray.size_append
          have zs2 : (K ++ B ++ ⟨#[58]⟩).size = n := by rw [hsum, bs_size, hn]
          have HP := hd hsum
          clear hsum hP hn hK hB
          by_cases hlen : s.size < n
          · have HN2 := hd (from2_no hg.o (fun f hf e1 e2 => by have := (HNF.o f hf e1 e2).1; rw [HSL.o] at this; omega))
            have hlenI : (s.size : Int) < (n : Int) := by omega
            clear HFO
            go_wp2_with fail
            go_quiet (fail)
            go_wp2
            go_roundw
            case rel => exact ⟨r + 1, by go_num, by omega, HN2, bdrewN HBI.o _⟩
            case measure => simp [intOf]; omega
          · have hlenI : ¬ (s.size : Int) < (n : Int) := by omega
            have hlenI2 : (n : Int) ≤ (s.size : Int) := by omega
            have hn0 : (0 : Int) ≤ (n : Int) := by omega
            have hcmp : ((s.extract 0 n).toList == (K ++ B ++ ⟨#[58]⟩).toList) = decide (S.take n = P) := by
              rw [HP.o, bs_toL, Lib.toList_data, ext_take, HS.o]
              by_cases h : S.take n = P <;> simp [h]
            by_cases he : S.take n = P
            · rw [decide_eq_true he] at hcmp
              have hA : (s.extract n s.size).data.toList = S.drop n := by rw [ext_drop, HS.o]
              have hA2 : bs (S.drop n) = s.extract n s.size := by rw [← hA]; exact bs_self _
              have hAl : (S.drop n).length ≤ 1000000 := by rw [List.length_drop, HSL.o]; omega
              have K3 := hd (rfmay_calls ⟨q, r, S.drop n⟩ hAl)
              simp only [fldV] at K3
              rw [hA2] at K3
              have HA2 := hd hA2
              by_cases hm : MayF ⟨q, r, S.drop n⟩
              · have HFD := hd (HY.o _ (HFO.o he hm))
                rw [mayF_t hm] at K3
                clear he hm HFO HNF hA hA2 hAl
                go_wp2_with fail
                go_quiet (fail)
                obtain ⟨wj, hwj⟩ : ∃ wj, wj = wi.drewN nq := ⟨_, rfl⟩
                have HBJ := hd (show Below Y.heap.size Y wj by rw [hwj]; exact bdrewN HBI.o _)
                rw [← hwj]
                clear hwj cw cl
                have HBA := hd (HBJ.o.alloc HBJ.o.size (.cells #[.int .i64 q, .int .i64 r, .string (s.extract n s.size)] 23))
                have HBOX := hd (Blk.new wj 23 #[.int .i64 q, .int .i64 r, .string (s.extract n s.size)])
                go_wp2_with fail
                refine (K3.o _).mono ?_
                rintro e w2 ⟨rfl, hb2⟩
                have HB2 := hd (HBA.o.trans (hb2.mono HBA.o.size))
                have HBW := hd (HBY.o.trans (HB2.o.mono (by rw [HYX.o]; omega)))
                have k1 := HK.o.below HBW.o (by rw [HX.o]; omega)
                have k2 := HBOX.o.below hb2 (by simp)
                have b0 := k1.at_ 0 rfl
                have b1 := k1.at_ 1 rfl
                have b2 := k1.at_ 2 rfl
                have g0 := k1.frozen 0
                have g1 := k1.frozen 1
                have g2 := k1.frozen 2
                have a0 := k2.at_ 0 rfl
                have a1 := k2.at_ 1 rfl
                have a2 := k2.at_ 2 rfl
                have hl := k1.lt
                have hl2 := k2.lt
                have Q1 := hd k1
                clear k1 k2 hb2
                go_wp2
                (try simp only [Exit.inBlock, Exit.then])
                refine bodyPost_ret (res_cell rfl _ _ _ _ _ _ _ rfl (((Q1.o.set_ 0 _).set_ 1 _).set_ 2 _) rfl rfl rfl) rfl ⟨?_, ?_⟩
                · refine retF' (f := ⟨q, r, S.drop n⟩) ?_ HFD.o.1.symm HFD.o.2.symm
                  show fldV ⟨q, r, S.drop n⟩ = _
                  simp only [fldV, HA2.o]
                  rfl
                · exact ((((HB0.o.trans (HBW.o.mono (by rw [HX.o]; omega))).setCell (Nat.le_refl _) _).setCell (Nat.le_refl _) _).setCell (Nat.le_refl _) _)
              · have HN2 := hd (from2_no hg.o (fun f hf e1 e2 => hm (by
                  have := (HNF.o f hf e1 e2).2.2
                  obtain ⟨fk, fl, fv⟩ := f
                  simp only at e1 e2 this
                  rw [this, ← e1, ← e2]
                  exact hf.1)))
                rw [mayF_f hm] at K3
                clear he hm HFO HNF hA hA2 hAl
                go_wp2_with fail
                go_quiet (fail)
                obtain ⟨wj, hwj⟩ : ∃ wj, wj = wi.drewN nq := ⟨_, rfl⟩
                have HBJ := hd (show Below Y.heap.size Y wj by rw [hwj]; exact bdrewN HBI.o _)
                rw [← hwj]
                clear hwj cw cl
                have HBA := hd (HBJ.o.alloc HBJ.o.size (.cells #[.int .i64 q, .int .i64 r, .string (s.extract n s.size)] 23))
                have HBOX := hd (Blk.new wj 23 #[.int .i64 q, .int .i64 r, .string (s.extract n s.size)])
                go_wp2_with fail
                refine (K3.o _).mono ?_
                rintro e w2 ⟨rfl, hb2⟩
                have HB2 := hd (HBA.o.trans (hb2.mono HBA.o.size))
                clear hb2
                go_wp2
                go_roundw
                case rel => exact ⟨r + 1, by go_num, by omega, HN2, HB2.o⟩
                case measure => simp [intOf]; omega
            · have HN2 := hd (from2_no hg.o (fun f hf e1 e2 => he (HNF.o f hf e1 e2).2.1))
              rw [decide_eq_false he] at hcmp
              clear he HFO HNF
              go_wp2_with fail
              go_quiet (fail)
              go_wp2
              go_roundw
              case rel => exact ⟨r + 1, by go_num, by omega, HN2, bdrewN HBI.o _⟩
              case measure => simp [intOf]; omega
        · have hr : r = 4 := by omega
          subst hr
          have HN2 := hd (from2_up hg.o)
          go_wp2
          go_roundw
          case rel => exact ⟨q + 1, by go_num, by omega, by omega, HN2, HBI.o⟩
          case measure => simp [intOf]; omega
    · have hq : q = 7 := by omega
      subst hq
      have HX2 := hd (HN.o (from1_end hf.o))
      have HBW := hd (HBY.o.trans (HBO.o.mono (by rw [HYX.o]; omega)))
      have k1 := HK.o.below HBW.o (by rw [HX.o]; omega)
      have b0 := k1.at_ 0 rfl
      have b1 := k1.at_ 1 rfl
      have b2 := k1.at_ 2 rfl
      have g0 := k1.frozen 0
      have g1 := k1.frozen 1
      have g2 := k1.frozen 2
      have hl := k1.lt
      have K1 := hd k1
      clear k1
      go_wp2
      (try simp only [Exit.inBlock, Exit.then])
      refine bodyPost_ret (res_cell rfl _ _ _ _ _ _ _ rfl (((K1.o.set_ 0 _).set_ 1 _).set_ 2 _) rfl rfl rfl) rfl ⟨?_, ?_⟩
      · exact retF (f := noFld) (a := 1) HX2.o.1.symm HX2.o.2.symm
      · exact ((((HB0.o.trans (HBW.o.mono (by rw [HX.o]; omega))).setCell (Nat.le_refl _) _).setCell (Nat.le_refl _) _).setCell (Nat.le_refl _) _)

end Go.Proofs.YtpejlcaoggedfaaDoor
