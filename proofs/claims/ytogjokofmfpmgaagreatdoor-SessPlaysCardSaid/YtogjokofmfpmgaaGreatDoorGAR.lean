/-
  Fields: the field of a line, the reference's.
-/
import Derived.Test.YtogjokofmfpmgaaGreatDoorGAP
import Derived.Test.YtogjokofmfpmgaaGreatDoorGAN
import Derived.Test.YtogjokofmfpmgaaGreatDoorGAQ
import Derived.Test.YtogjokofmfpmgaaGreatDoorGAO
import Derived.Test.YtogjokofmfpmgaaGreatDoorGAL
set_option linter.unusedVariables false
set_option linter.unusedSimpArgs false
namespace Go.Proofs.YtogjokofmfpmgaaGreatDoor
open Go.RowKit

theorem raw_at {S : List UInt8} {f : Fld} (h : Found S f) : (headL f.k f.l ++ [58]).length ≤ S.length ∧ S.take (headL f.k f.l ++ [58]).length = headL f.k f.l ++ [58] ∧ S.drop (headL f.k f.l ++ [58]).length = f.v := by
  have e : S = (headL f.k f.l ++ [58]) ++ f.v := by rw [← h.2]; simp [rawL]
  rw [e]
  refine ⟨by simp, ?_, ?_⟩
  · rw [List.take_append_of_le_length (Nat.le_refl _), List.take_length]
  · rw [List.drop_append_of_le_length (Nat.le_refl _), List.drop_length, List.nil_append]
theorem found_of {S : List UInt8} {k l : Int} (ht : S.take (headL k l ++ [58]).length = headL k l ++ [58]) (hm : MayF ⟨k, l, S.drop (headL k l ++ [58]).length⟩) : Found S ⟨k, l, S.drop (headL k l ++ [58]).length⟩ := by
  refine ⟨hm, ?_⟩
  have : rawL ⟨k, l, S.drop (headL k l ++ [58]).length⟩ = (headL k l ++ [58]) ++ S.drop (headL k l ++ [58]).length := by simp [rawL]
  rw [this]
  conv => rhs; rw [← List.take_append_drop (headL k l ++ [58]).length S]
  rw [ht]
theorem ext_take (s : ByteArray) (n : Nat) : (s.extract 0 n).data.toList = s.data.toList.take n := by rw [ext_data]; simp
theorem ext_drop (s : ByteArray) (n : Nat) : (s.extract n s.size).data.toList = s.data.toList.drop n := by
  rw [ext_data]
  exact List.take_of_length_le (by rw [List.length_drop]; simp)

theorem retF' {f g : Fld} {v : Value} {e a : Int} (h : fldV f = v) (h1 : f = g) (h2 : a = e) : Ending.returned (.tuple #[v, .int .i64 a]) = .returned (fldR g e) := by
  rw [← h, h1, h2]; rfl

set_option maxRecDepth 100000 in
set_option maxHeartbeats 4000000 in
theorem rfparse_calls (s : ByteArray) (hs : s.size ≤ 1000000) (w : World) : Calls Tryz.prog 102 #[.string s] w fun e w' => e = .returned (fldR (parF s.data.toList) (parE s.data.toList)) ∧ Below w.heap.size w w' := by
  obtain ⟨V, hV⟩ : ∃ V, parF s.data.toList = V := ⟨_, rfl⟩
  obtain ⟨F, hF⟩ : ∃ F, parE s.data.toList = F := ⟨_, rfl⟩
  rw [hV, hF]
  have HY : Hd (∀ f, Found s.data.toList f → V = f ∧ F = 0) := hd (fun f hf => by rw [← hV, ← hF]; exact par_yes hf)
  have HN : Hd ((∀ f, ¬ Found s.data.toList f) → V = noFld ∧ F = 1) := hd (fun h => by rw [← hV, ← hF]; exact par_no h)
  clear hV hF
  have HSL := hd (show s.data.toList.length = s.size by simp)
  obtain ⟨S, hS⟩ : ∃ S, s.data.toList = S := ⟨_, rfl⟩
  have HS := hd hS
  rw [hS] at HY HN HSL
  clear hS
  obtain ⟨X, hX⟩ : ∃ X, X = w.alloc (.cells #[.int .i64 0, .int .i64 0, .string ⟨#[]⟩] 128) := ⟨_, rfl⟩
  have HB0 := hd (show Below w.heap.size w X by rw [hX]; exact (Below.refl _ w).alloc (Nat.le_refl _) _)
  have HK := hd (show Blk X w.heap.size 128 #[.int .i64 0, .int .i64 0, .string ⟨#[]⟩] by rw [hX]; exact Blk.new _ _ _)
  have HX := hd (show X.heap.size = w.heap.size + 1 by rw [hX]; simp)
  have hx := hd hX
  clear hX
  obtain ⟨Y, hY⟩ : ∃ Y, Y = (X.alloc (.cells wordsC 9)).alloc (.cells labelsC 9) := ⟨_, rfl⟩
  have HBY := hd (show Below X.heap.size X Y by rw [hY]; exact twoB _ _ _)
  have HYX := hd (show Y.heap.size = X.heap.size + 2 by rw [hY]; simp)
  have HKW := hd (show Blk Y X.heap.size 9 wordsC by rw [hY]; exact (Blk.new _ _ _).alloc _)
  have HKL := hd (show Blk Y (X.heap.size + 1) 9 labelsC by rw [hY]; exact Blk.new_ _ _ (by simp) _ _)
  have hy := hd hY
  clear hY
  go_enter Tryz.func102, Tryz.ntmps102
  go_wp2_with fail
  rw [← hx.o]
  refine (words_calls X).mono ?_
  rintro e w1 ⟨rfl, rfl⟩
  go_wp2_with fail
  refine (labels_calls _).mono ?_
  rintro e w1 ⟨rfl, rfl⟩
  rw [← hy.o]
  rw [show (X.alloc (.cells wordsC 9)).heap.size = X.heap.size + 1 by simp]
  go_wp2_with fail
  go_loopw [6, 7, 8, 9, 3] (fun k _ _ _ _ wr => ∃ q : Nat, k = .int .i64 q ∧ 1 ≤ q ∧ q ≤ 7 ∧ Hd (From1 S q) ∧ Below Y.heap.size Y wr) (fun k _ _ _ _ _ => 7 - (intOf k).toNat)
  case atStart => exact ⟨1, rfl, by omega, by omega, hd (from1_0 S), Below.refl _ _⟩
  case round =>
    obtain ⟨q, rfl, hq1, hq7, hf, hbe⟩ := hrel
    obtain ⟨wo, rfl⟩ : ∃ wo : World, wo = wr := ⟨_, rfl⟩
    have HBO := hd hbe
    clear hbe
    by_cases hlt : q < 7
    · have hq6 : (q : Int) ≤ 6 := by omega
      have hq6' : decide ((q : Int) ≤ 6) = true := by simpa using hq6
      go_wp2_with fail
      go_loopw [7, 8, 9, 3] (fun l _ _ _ wr => ∃ r : Nat, l = .int .i64 r ∧ r ≤ 4 ∧ Hd (From2 S q r) ∧ Below Y.heap.size Y wr) (fun l _ _ _ _ => 4 - (intOf l).toNat)
      case atStart => exact ⟨0, rfl, by omega, hd (from2_0 hf.o), HBO.o⟩
      case round =>
        obtain ⟨r, rfl, hr4, hg, hbe⟩ := hrel
        obtain ⟨wi, rfl⟩ : ∃ wi : World, wi = wr := ⟨_, rfl⟩
        have HBI := hd hbe
        clear hbe
        by_cases hlt4 : r < 4
        · have hr4' : (r : Int) < 4 := by omega
          have hr4'' : decide ((r : Int) < 4) = true := by simpa using hr4'
          have hq7' : (q : Int) < 7 := by omega
          have hq0 : (0 : Int) ≤ (q : Int) := by omega
          have hr0 : (0 : Int) ≤ (r : Int) := by omega
          have cw := (HKW.o.below HBI.o (by rw [HYX.o]; omega)).at_ q (words_at q hlt)
          have cl := (HKL.o.below HBI.o (by rw [HYX.o]; omega)).at_ r (labels_at r hlt4)
          have hlk := kindL_len q
          have hll := labL_len r
          have hsum : bs (kindL q) ++ bs (labL r) ++ ⟨#[58]⟩ = bs (headL q r ++ [58]) := by
            rw [show (⟨#[58]⟩ : ByteArray) = bs [58] from rfl, bs_app2, bs_app2]; rfl
          have hnl : (headL q r ++ [58]).length ≤ 10 := by simp [headL]; omega
          rw [← bs_size] at hlk hll
          have HNF := hd (fun f (hf : Found S f) (e1 : f.k = q) (e2 : f.l = r) => (by have := raw_at hf; rwa [e1, e2] at this : (headL q r ++ [58]).length ≤ S.length ∧ S.take (headL q r ++ [58]).length = headL q r ++ [58] ∧ S.drop (headL q r ++ [58]).length = f.v))
          have HFO := hd (found_of (S := S) (k := q) (l := r))
          obtain ⟨P, hP⟩ : ∃ P, headL q r ++ [58] = P := ⟨_, rfl⟩
          obtain ⟨n, hn⟩ : ∃ n, P.length = n := ⟨_, rfl⟩
          obtain ⟨K, hK⟩ : ∃ K, bs (kindL q) = K := ⟨_, rfl⟩
          obtain ⟨B, hB⟩ : ∃ B, bs (labL r) = B := ⟨_, rfl⟩
          rw [hP, hn] at HNF HFO
          rw [hP] at hsum hnl
          rw [hn] at hnl
          rw [hK] at cw hsum hlk
          rw [hB] at cl hsum hll
          have zs1 : (K ++ B).size = K.size + B.size := ByteArray.size_append
          have zs2 : (K ++ B ++ ⟨#[58]⟩).size = n := by rw [hsum, bs_size, hn]
          have HP := hd hsum
          clear hsum hP hn hK hB
          by_cases hlen : s.size < n
          · have HN2 := hd (from2_no hg.o (fun f hf e1 e2 => by have := (HNF.o f hf e1 e2).1; rw [HSL.o] at this; omega))
            have hlenI : (s.size : Int) < (n : Int) := by omega
            clear HFO
            go_wp2_with fail
            go_quiet (fail)
            go_wp2
            go_roundw
            case rel => exact ⟨r + 1, by go_num, by omega, HN2, bdrewN HBI.o _⟩
            case measure => simp [intOf]; omega
          · have hlenI : ¬ (s.size : Int) < (n : Int) := by omega
            have hlenI2 : (n : Int) ≤ (s.size : Int) := by omega
            have hn0 : (0 : Int) ≤ (n : Int) := by omega
            have hcmp : ((s.extract 0 n).toList == (K ++ B ++ ⟨#[58]⟩).toList) = decide (S.take n = P) := by
              rw [HP.o, bs_toL, Lib.toList_data, ext_take, HS.o]
              by_cases h : S.take n = P <;> simp [h]
            by_cases he : S.take n = P
            · rw [decide_eq_true he] at hcmp
              have hA : (s.extract n s.size).data.toList = S.drop n := by rw [ext_drop, HS.o]
              have hA2 : bs (S.drop n) = s.extract n s.size := by rw [← hA]; exact bs_self _
              have hAl : (S.drop n).length ≤ 1000000 := by rw [List.length_drop, HSL.o]; omega
              have K3 := hd (rfmay_calls ⟨q, r, S.drop n⟩ hAl)
              simp only [fldV] at K3
              rw [hA2] at K3
              have HA2 := hd hA2
              by_cases hm : MayF ⟨q, r, S.drop n⟩
              · have HFD := hd (HY.o _ (HFO.o he hm))
                rw [mayF_t hm] at K3
                clear he hm HFO HNF hA hA2 hAl
                go_wp2_with fail
                go_quiet (fail)
                obtain ⟨wj, hwj⟩ : ∃ wj, wj = wi.drewN nq := ⟨_, rfl⟩
                have HBJ := hd (show Below Y.heap.size Y wj by rw [hwj]; exact bdrewN HBI.o _)
                rw [← hwj]
                clear hwj cw cl
                have HBA := hd (HBJ.o.alloc HBJ.o.size (.cells #[.int .i64 q, .int .i64 r, .string (s.extract n s.size)] 128))
                have HBOX := hd (Blk.new wj 128 #[.int .i64 q, .int .i64 r, .string (s.extract n s.size)])
                go_wp2_with fail
                refine (K3.o _).mono ?_
                rintro e w2 ⟨rfl, hb2⟩
                have HB2 := hd (HBA.o.trans (hb2.mono HBA.o.size))
                have HBW := hd (HBY.o.trans (HB2.o.mono (by rw [HYX.o]; omega)))
                have k1 := HK.o.below HBW.o (by rw [HX.o]; omega)
                have k2 := HBOX.o.below hb2 (by simp)
                have b0 := k1.at_ 0 rfl
                have b1 := k1.at_ 1 rfl
                have b2 := k1.at_ 2 rfl
                have g0 := k1.frozen 0
                have g1 := k1.frozen 1
                have g2 := k1.frozen 2
                have a0 := k2.at_ 0 rfl
                have a1 := k2.at_ 1 rfl
                have a2 := k2.at_ 2 rfl
                have hl := k1.lt
                have hl2 := k2.lt
                have Q1 := hd k1
                clear k1 k2 hb2
                go_wp2
                (try simp only [Exit.inBlock, Exit.then])
                refine bodyPost_ret (res_cell rfl _ _ _ _ _ _ _ rfl (((Q1.o.set_ 0 _).set_ 1 _).set_ 2 _) rfl rfl rfl) rfl ⟨?_, ?_⟩
                · refine retF' (f := ⟨q, r, S.drop n⟩) ?_ HFD.o.1.symm HFD.o.2.symm
                  show fldV ⟨q, r, S.drop n⟩ = _
                  simp only [fldV, HA2.o]
                  rfl
                · exact ((((HB0.o.trans (HBW.o.mono (by rw [HX.o]; omega))).setCell (Nat.le_refl _) _).setCell (Nat.le_refl _) _).setCell (Nat.le_refl _) _)
              · have HN2 := hd (from2_no hg.o (fun f hf e1 e2 => hm (by
                  have := (HNF.o f hf e1 e2).2.2
                  obtain ⟨fk, fl, fv⟩ := f
                  simp only at e1 e2 this
                  rw [this, ← e1, ← e2]
                  exact hf.1)))
                rw [mayF_f hm] at K3
                clear he hm HFO HNF hA hA2 hAl
                go_wp2_with fail
                go_quiet (fail)
                obtain ⟨wj, hwj⟩ : ∃ wj, wj = wi.drewN nq := ⟨_, rfl⟩
                have HBJ := hd (show Below Y.heap.size Y wj by rw [hwj]; exact bdrewN HBI.o _)
                rw [← hwj]
                clear hwj cw cl
                have HBA := hd (HBJ.o.alloc HBJ.o.size (.cells #[.int .i64 q, .int .i64 r, .string (s.extract n s.size)] 128))
                have HBOX := hd (Blk.new wj 128 #[.int .i64 q, .int .i64 r, .string (s.extract n s.size)])
                go_wp2_with fail
                refine (K3.o _).mono ?_
                rintro e w2 ⟨rfl, hb2⟩
                have HB2 := hd (HBA.o.trans (hb2.mono HBA.o.size))
                clear hb2
                go_wp2
                go_roundw
                case rel => exact ⟨r + 1, by go_num, by omega, HN2, HB2.o⟩
                case measure => simp [intOf]; omega
            · have HN2 := hd (from2_no hg.o (fun f hf e1 e2 => he (HNF.o f hf e1 e2).2.1))
              rw [decide_eq_false he] at hcmp
              clear he HFO HNF
              go_wp2_with fail
              go_quiet (fail)
              go_wp2
              go_roundw
              case rel => exact ⟨r + 1, by go_num, by omega, HN2, bdrewN HBI.o _⟩
              case measure => simp [intOf]; omega
        · have hr : r = 4 := by omega
          subst hr
          have HN2 := hd (from2_up hg.o)
          go_wp2
          go_roundw
          case rel => exact ⟨q + 1, by go_num, by omega, by omega, HN2, HBI.o⟩
          case measure => simp [intOf]; omega
    · have hq : q = 7 := by omega
      subst hq
      have HX2 := hd (HN.o (from1_end hf.o))
      have HBW := hd (HBY.o.trans (HBO.o.mono (by rw [HYX.o]; omega)))
      have k1 := HK.o.below HBW.o (by rw [HX.o]; omega)
      have b0 := k1.at_ 0 rfl
      have b1 := k1.at_ 1 rfl
      have b2 := k1.at_ 2 rfl
      have g0 := k1.frozen 0
      have g1 := k1.frozen 1
      have g2 := k1.frozen 2
      have hl := k1.lt
      have K1 := hd k1
      clear k1
      go_wp2
      (try simp only [Exit.inBlock, Exit.then])
      refine bodyPost_ret (res_cell rfl _ _ _ _ _ _ _ rfl (((K1.o.set_ 0 _).set_ 1 _).set_ 2 _) rfl rfl rfl) rfl ⟨?_, ?_⟩
      · exact retF (f := noFld) (a := 1) HX2.o.1.symm HX2.o.2.symm
      · exact ((((HB0.o.trans (HBW.o.mono (by rw [HX.o]; omega))).setCell (Nat.le_refl _) _).setCell (Nat.le_refl _) _).setCell (Nat.le_refl _) _)

end Go.Proofs.YtogjokofmfpmgaaGreatDoor
namespace Go.Proofs.YtogjokofmfpmgaaGreatDoor
open Go.RowKit

theorem sofar_next2 {S r a b : List UInt8} {L : List Fld} {f : Fld} (h : Sofar S L r) (hr : r = a ++ 10 :: b) (hf : Found a f) : Sofar S (L ++ [f]) b := by
  refine ⟨fun g hg => ?_, ?_⟩
  · rcases List.mem_append.1 hg with hg | hg
    · exact h.may g hg
    · rw [List.mem_singleton.1 hg]; exact hf.1
  · rw [textL_snoc, found_line hf, h.eq, hr]
    simp
theorem drop_cut (S : List UInt8) (p i : Nat) (hp : p ≤ i) (hi : i < S.length) (h10 : S[i] = 10) : S.drop p = (S.drop p).take (i - p) ++ 10 :: S.drop (i + 1) := by
  conv => lhs; rw [← List.take_append_drop (i - p) (S.drop p), List.drop_drop]
  rw [show p + (i - p) = i by omega, List.drop_eq_getElem_cons hi, h10]
/-- No end of a line between the two. -/
def No10 (S : List UInt8) (p i : Nat) : Prop := (10 : UInt8) ∉ (S.drop p).take (i - p)
theorem no10_self (S : List UInt8) (p : Nat) : No10 S p p := by unfold No10; simp
theorem no10_next {S : List UInt8} {p i : Nat} (h : No10 S p i) (hp : p ≤ i) (hi : i < S.length) (hn : S[i] ≠ 10) : No10 S p (i + 1) := by
  unfold No10 at *
  rw [show i + 1 - p = (i - p) + 1 by omega, List.take_succ_eq_append_getElem (by rw [List.length_drop]; omega)]
  intro hm
  rcases List.mem_append.1 hm with hm | hm
  · exact h hm
  · have := List.mem_singleton.1 hm
    rw [List.getElem_drop] at this
    have e : p + (i - p) = i := by omega
    simp only [e] at this
    exact hn this.symm

set_option maxRecDepth 100000 in
set_option maxHeartbeats 8000000 in
theorem rcparse_calls (s : ByteArray) (hs : s.size ≤ 1000000) (w : World) : Calls Tryz.prog 93 #[.string s] w fun e w' => ParR w s.data.toList e w' := by
  obtain ⟨i0, hi, hz0, hz1, hz2⟩ := info_parts fInfo
  have HSL := hd (show s.data.toList.length = s.size by simp)
  obtain ⟨S, hS⟩ : ∃ S, s.data.toList = S := ⟨_, rfl⟩
  have HS := hd hS
  rw [hS] at HSL ⊢
  clear hS
  by_cases h9 : 900 < s.size
  · have HNO := hd (show ∀ l, ¬ Reads S l from fun l h => by have := (reads_len h).1; rw [HSL.o] at this; omega)
    have h9i : (900 : Int) < (s.size : Int) := by omega
    go_enter Tryz.func93, Tryz.ntmps93
    go_wp2
    go_ret2
    exact ParR.no HNO.o (Below.refl _ _)
  · have h9i : ¬ (900 : Int) < (s.size : Int) := by omega
    go_enter Tryz.func93, Tryz.ntmps93
    go_wp2_with fail
    go_loopw [6, 5, 7, 8, 4, 2, 3] (fun i from_ _ _ out _ _ wr => ∃ (q p : Nat) (L : List Fld) (B : Option Addr) (k d : Nat), i = .int .i64 q ∧ from_ = .int .i64 p ∧ p ≤ q ∧ q ≤ s.size ∧ out = .slice B k d ∧ k ≤ p ∧ Hd (k = L.length) ∧ Hd (No10 S p q) ∧ Hd (Sofar S L (S.drop p)) ∧ Hd (Row wr (From w.heap.size) 128 3 B k d (fsE L)) ∧ Hd (Below w.heap.size w wr)) (fun i _ _ _ _ _ _ _ => s.size - (intOf i).toNat)
    case atStart => exact ⟨0, 0, [], none, 0, 0, rfl, rfl, Nat.le_refl _, Nat.zero_le _, rfl, Nat.le_refl _, hd rfl, hd (no10_self _ _), hd (sofar_0 S), hd (Row.nil _ _ _ _), hd (Below.refl _ _)⟩
    case round =>
      obtain ⟨q, p, L, B, k, d, rfl, rfl, hpq, hqs, rfl, hkp, HK, H10, HSO, HRO, HW⟩ := hrel
      obtain ⟨wi, rfl⟩ : ∃ wi : World, wi = wr := ⟨_, rfl⟩
      by_cases hlt : q < s.size
      · have hlti : decide ((q : Int) < (s.size : Int)) = true := by simp; omega
        have hq0 : (0 : Int) ≤ (q : Int) := by omega
        have hp0 : (0 : Int) ≤ (p : Int) := by omega
        have hpqi : (p : Int) ≤ (q : Int) := by omega
        have hqsi : (q : Int) ≤ (s.size : Int) := by omega
        have hqS : q < S.length := by rw [HSL.o]; exact hlt
        have BQ := bt_self s q hlt
        rw [HS.o, bt_list S q hqS] at BQ
        by_cases h10 : s[q].toNat = 10
        · have n1 : ((s[q].toNat : Int) == 10) = true := by simp; omega
          have hS10 : S[q] = 10 := UInt8.toNat_inj.1 (by rw [BQ]; exact h10)
          have HCUTE := hd (drop_cut S p q hpq hqS hS10)
          have hdat : (s.extract p q).data.toList = (S.drop p).take (q - p) := by rw [ext_data, HS.o]
          have hesz : (s.extract p q).size ≤ 900 := by rw [ByteArray.size_extract]; omega
          have HCUT := hd (fun m (h : Reads S m) => reads_cut HSO.o.may (show S = textL L ++ ((S.drop p).take (q - p) ++ 10 :: S.drop (q + 1)) by rw [← HCUTE.o]; exact HSO.o.eq) H10.o h)
          have HNX := hd (fun f (h : Found ((S.drop p).take (q - p)) f) => sofar_next2 HSO.o HCUTE.o h)
          have C2 := fun W => rfparse_calls (s.extract p q) (by omega) W
          rw [hdat] at C2
          clear BQ h10 hS10 hdat
          rcases par_or ((S.drop p).take (q - p)) with ⟨f, hf, e1, e2⟩ | ⟨hno, e1, e2⟩
          · rw [e1, e2] at C2
            have HSN := hd (HNX.o f hf)
            obtain ⟨fk, fl, fv⟩ := f
            simp only [fldR, fldV] at C2
            have K2 := hd C2
            clear C2 e1 e2 hf HCUT HNX HCUTE
            go_wp2_with fail
            refine (K2.o _).mono ?_
            rintro e w3 ⟨rfl, hb3⟩
            have HW3 := hd (HW.o.trans (hb3.mono HW.o.size))
            have HR3 := hd (HRO.o.below hb3)
            have hsw := HW3.o.size
            clear hb3
            go_wp2_with (at_builtin; go_loud (refine wpList_append_row rfl _ _ 118 rfl (From w.heap.size) 128 i0 (.agg #[.int .i64 0, .int .i64 0, .string ⟨#[]⟩]) 3 32 Tryz.underlying118 hi hz0 hz1 hz2 rfl B k d (fsE L) rfl ((HR3.o.alloc _).alloc _) ⟨_, 0, none⟩ 1 1 [.int .i64 fk, .int .i64 fl, .string (bs fv)] rfl rfl (cells_at (Blk.new_ _ _ (by simp) _ _) rfl) (by simp [Value.oneCell']) (by omega) (by unfold maxLen; omega) (by omega) ?_; intro A2 c2 w4 hown4 hchg4))
            go_roundw
            case rel =>
              refine ⟨q + 1, q + 1, L ++ [⟨fk, fl, fv⟩], A2, k + 1, c2, by go_num, by go_num, by omega, by omega, rfl, by omega, hd (by rw [List.length_append, HK.o]; rfl), hd (no10_self _ _), HSN, hd ?_, hd ?_⟩
              · rw [fsE_snoc]
                exact hown4.mono (fun q hq => by
                  rcases hq with hq | hq
                  · exact hq
                  · simp at hq; show w.heap.size ≤ q; omega)
              · exact HW3.o.trans ((((Chg.refl (From w.heap.size) w3).alloc _).alloc _).trans hchg4 (fun q hq => .inl hq) |>.below (fun _ h => h) hsw)
            case measure => simp [intOf]; omega
          · rw [e1, e2] at C2
            have HNO := hd (show ∀ l, ¬ Reads S l from fun m h => by obtain ⟨f, hf⟩ := HCUT.o m h; exact hno f hf)
            simp only [fldR, fldV, noFld] at C2
            have K2 := hd C2
            clear C2 e1 e2 hno HCUT HNX HCUTE
            go_wp2_with fail
            refine (K2.o _).mono ?_
            rintro e w3 ⟨rfl, hb3⟩
            have HW3 := hd (HW.o.trans (hb3.mono HW.o.size))
            clear hb3
            go_wp2
            go_ret2
            exact ParR.no HNO.o (HW3.o.alloc HW3.o.size _)
        · have n1 : ((s[q].toNat : Int) == 10) = false := by simp; omega
          have HN2 := hd (no10_next H10.o hpq hqS (fun e => h10 (by rw [← BQ, e]; rfl)))
          clear BQ h10
          go_wp2
          go_roundw
          case rel => exact ⟨q + 1, p, L, B, k, d, by go_num, rfl, by omega, by omega, rfl, hkp, HK, HN2, HSO, HRO, HW⟩
          case measure => simp [intOf]; omega
      · have hlti : decide ((q : Int) < (s.size : Int)) = false := by simp; omega
        have hN : (10 : UInt8) ∉ S.drop p := by
          have := H10.o
          unfold No10 at this
          rwa [List.take_of_length_le (by rw [List.length_drop, HSL.o]; omega)] at this
        have HND := hd (fun m (h : Reads S m) => (reads_end HSO.o.may HSO.o.eq hN h).1)
        have HOF := hd (fun (h1 : cardE L = 0) (h2 : cardT L = S) => reads_of HSO.o.may HSO.o.eq h1 h2)
        have C1 := hd (rtext_calls wi B k d L HK.o HRO.o.rds (by omega) (fun f hf => by have := may_len (HSO.o.may f hf); omega))
        have heq : ((bs (cardT L)).toList == s.toList) = decide (cardT L = S) := by rw [bt_eqL, HS.o]
        clear hN
        by_cases hg : cardE L = 0 ∧ cardT L = S
        · have HRD := hd (HOF.o hg.1 hg.2)
          rw [hg.1] at C1
          rw [decide_eq_true hg.2] at heq
          generalize bs (cardT L) = T at C1 heq
          clear hg
          go_wp2_with fail
          refine C1.o.mono ?_
          rintro e w2 ⟨rfl, hb2⟩
          have HR2 := hd (HRO.o.below hb2)
          have HW2 := hd (HW.o.trans (hb2.mono HW.o.size))
          clear hb2
          go_wp2
          go_ret2
          exact ParR.yes HRD.o HK.o HR2.o HW2.o
        · have HNO := hd (show ∀ l, ¬ Reads S l from fun m h => by
            have e := HND.o m h
            subst e
            exact hg (reads_text h))
          by_cases he : cardE L = 0
          · have hne : ¬ cardT L = S := fun h => hg ⟨he, h⟩
            rw [he] at C1
            rw [decide_eq_false hne] at heq
            generalize bs (cardT L) = T at C1 heq
            clear hg he hne
            go_wp2_with fail
            refine C1.o.mono ?_
            rintro e w2 ⟨rfl, hb2⟩
            have HW2 := hd (HW.o.trans (hb2.mono HW.o.size))
            clear hb2
            go_wp2
            go_ret2
            exact ParR.no HNO.o HW2.o
          · have nE : (cardE L != 0) = true := by simpa using he
            generalize cardE L = ce at C1 nE
            generalize bs (cardT L) = T at C1
            clear hg he heq HOF
            go_wp2_with fail
            refine C1.o.mono ?_
            rintro e w2 ⟨rfl, hb2⟩
            have HW2 := hd (HW.o.trans (hb2.mono HW.o.size))
            clear hb2
            go_wp2
            go_ret2
            exact ParR.no HNO.o HW2.o

end Go.Proofs.YtogjokofmfpmgaaGreatDoor
namespace Go.Proofs.YtogjokofmfpmgaaGreatDoor
open Go.RowKit

theorem rcis_calls (s : ByteArray) (hs : s.size ≤ 1000000) (w : World) : Calls Tryz.prog 71 #[.string s] w fun e w' => e = .returned (.bool (decide (crdE s.data.toList = 0))) ∧ Below w.heap.size w w' := by
  have C1 := hd (rcparse_calls s hs w)
  obtain ⟨v, hv⟩ : ∃ v, decide (crdE s.data.toList = 0) = v := ⟨_, rfl⟩
  rw [hv]
  have hve : (crdE s.data.toList == 0) = v := by rw [← hv]; rfl
  have HV := hd hve
  clear hv hve
  go_enter Tryz.func71, Tryz.ntmps71
  go_wp2_with fail
  refine C1.o.mono ?_
  rintro e w1 ⟨⟨B, m, d, rfl, hm, hr, hb1⟩⟩
  have HB1 := hd hb1
  clear hm hr hb1
  go_wp2
  go_ret
  exact ⟨retBB HV.o, HB1.o⟩

end Go.Proofs.YtogjokofmfpmgaaGreatDoor
namespace Go.Proofs.YtogjokofmfpmgaaGreatDoor
open Go.RowKit

theorem kind_all {k : Int} (h : isK k = true) : (k = 1 ∧ hT k = true ∧ hC k = false ∧ hU k = false ∧ hCd k = false ∧ hCn k = false ∧ hO k = false ∧ hTk k = false ∧ hM k = false ∧ hTi k = false) ∨ (k = 2 ∧ hT k = false ∧ hC k = true ∧ hU k = false ∧ hCd k = false ∧ hCn k = false ∧ hO k = false ∧ hTk k = false ∧ hM k = false ∧ hTi k = false) ∨ (k = 3 ∧ hT k = false ∧ hC k = true ∧ hU k = false ∧ hCd k = false ∧ hCn k = false ∧ hO k = false ∧ hTk k = false ∧ hM k = false ∧ hTi k = false) ∨ (k = 4 ∧ hT k = false ∧ hC k = true ∧ hU k = true ∧ hCd k = true ∧ hCn k = true ∧ hO k = false ∧ hTk k = false ∧ hM k = false ∧ hTi k = false) ∨ (k = 5 ∧ hT k = false ∧ hC k = true ∧ hU k = true ∧ hCd k = false ∧ hCn k = true ∧ hO k = false ∧ hTk k = false ∧ hM k = false ∧ hTi k = false) ∨ (k = 6 ∧ hT k = false ∧ hC k = true ∧ hU k = true ∧ hCd k = false ∧ hCn k = false ∧ hO k = false ∧ hTk k = false ∧ hM k = false ∧ hTi k = false) ∨ (k = 7 ∧ hT k = false ∧ hC k = true ∧ hU k = false ∧ hCd k = false ∧ hCn k = false ∧ hO k = true ∧ hTk k = false ∧ hM k = false ∧ hTi k = false) ∨ (k = 8 ∧ hT k = false ∧ hC k = true ∧ hU k = false ∧ hCd k = false ∧ hCn k = false ∧ hO k = false ∧ hTk k = true ∧ hM k = true ∧ hTi k = false) ∨ (k = 9 ∧ hT k = false ∧ hC k = true ∧ hU k = false ∧ hCd k = false ∧ hCn k = false ∧ hO k = false ∧ hTk k = true ∧ hM k = false ∧ hTi k = true) ∨ (k = 10 ∧ hT k = false ∧ hC k = false ∧ hU k = false ∧ hCd k = false ∧ hCn k = false ∧ hO k = false ∧ hTk k = false ∧ hM k = false ∧ hTi k = false) ∨ (k = 11 ∧ hT k = false ∧ hC k = false ∧ hU k = false ∧ hCd k = false ∧ hCn k = false ∧ hO k = false ∧ hTk k = false ∧ hM k = false ∧ hTi k = false) := by
  rcases kind_or h with rfl | rfl | rfl | rfl | rfl | rfl | rfl | rfl | rfl | rfl | rfl
  · exact .inl ⟨rfl, rfl, rfl, rfl, rfl, rfl, rfl, rfl, rfl, rfl⟩
  · exact .inr (.inl ⟨rfl, rfl, rfl, rfl, rfl, rfl, rfl, rfl, rfl, rfl⟩)
  · exact .inr (.inr (.inl ⟨rfl, rfl, rfl, rfl, rfl, rfl, rfl, rfl, rfl, rfl⟩))
  · exact .inr (.inr (.inr (.inl ⟨rfl, rfl, rfl, rfl, rfl, rfl, rfl, rfl, rfl, rfl⟩)))
  · exact .inr (.inr (.inr (.inr (.inl ⟨rfl, rfl, rfl, rfl, rfl, rfl, rfl, rfl, rfl, rfl⟩))))
  · exact .inr (.inr (.inr (.inr (.inr (.inl ⟨rfl, rfl, rfl, rfl, rfl, rfl, rfl, rfl, rfl, rfl⟩)))))
  · exact .inr (.inr (.inr (.inr (.inr (.inr (.inl ⟨rfl, rfl, rfl, rfl, rfl, rfl, rfl, rfl, rfl, rfl⟩))))))
  · exact .inr (.inr (.inr (.inr (.inr (.inr (.inr (.inl ⟨rfl, rfl, rfl, rfl, rfl, rfl, rfl, rfl, rfl, rfl⟩)))))))
  · exact .inr (.inr (.inr (.inr (.inr (.inr (.inr (.inr (.inl ⟨rfl, rfl, rfl, rfl, rfl, rfl, rfl, rfl, rfl, rfl⟩))))))))
  · exact .inr (.inr (.inr (.inr (.inr (.inr (.inr (.inr (.inr (.inl ⟨rfl, rfl, rfl, rfl, rfl, rfl, rfl, rfl, rfl, rfl⟩)))))))))
  · exact .inr (.inr (.inr (.inr (.inr (.inr (.inr (.inr (.inr (.inr (⟨rfl, rfl, rfl, rfl, rfl, rfl, rfl, rfl, rfl, rfl⟩))))))))))
theorem out_parts (q : Rq) : outB q = ((hO q.k && (decide (q.ops.length < 1) || decide (8 < q.ops.length))) || decide (q.tok < 0) || (hM q.k && (decide (q.most < 1) || decide (1000 < q.most))) || decide (q.ticks < 0) || decide (1048576 < q.ticks)) := rfl

set_option maxRecDepth 100000 in
set_option maxHeartbeats 16000000 in
theorem rcheck_in (q : Rq) (A : Option Addr) (c : Nat) (w : World) (hk : isK q.k = true) (hr : Rds w A q.ops.length 5 (opsE q.ops)) (hs : RqS q) :
    Calls Tryz.prog 20 #[reqV q A c] w fun e w' => e = .returned (.int .i64 (chk q)) ∧ Below w.heap.size w w' := by
  have hka := kind_all hk
  have hcd := shapeC hk
  have hsh : (hT q.k = true ∧ hC q.k = false ∧ hU q.k = false) ∨ (hT q.k = false ∧ hC q.k = true ∧ hU q.k = false) ∨ (hT q.k = false ∧ hC q.k = true ∧ hU q.k = true) ∨ (hT q.k = false ∧ hC q.k = false ∧ hU q.k = false) := by
    rcases kind_or hk with h | h | h | h | h | h | h | h | h | h | h <;> rw [h] <;> decide
  have C1 := fun W => rname_calls (bs q.tn) (by rw [bs_size]; have := hs.tn; omega) W
  have C2 := fun W => rname_calls (bs q.col) (by rw [bs_size]; have := hs.col; omega) W
  have C3 := fun W => ruid_calls (bs q.uid) (by rw [bs_size]; have := hs.uid; omega) W
  have C4 := hd (fun o (ho : o ∈ q.ops) W => ruid_calls (bs o.uid) (by rw [bs_size]; have := (hs.op o ho).1; omega) W)
  have C5 := fun W (_ : Below w.heap.size w W) => rcis_calls (bs q.card) (by rw [bs_size]; exact hs.card) W
  have C6 := fun W => crmay_calls W q.ck q.cv
  have C7 := hd (fun o (ho : o ∈ q.ops) W => rcis_calls (bs o.card) (by rw [bs_size]; exact (hs.op o ho).2) W)
  rw [bs_data] at C1 C2 C3 C5
  have HV1 := hd (fun h => chk_s hk h)
  have HV2 := hd (fun h h2 => chk_n hk h h2)
  have HV3 := hd (fun h h2 h3 => chk_f hk h h2 h3)
  have HV4 := hd (fun h h2 h3 => chk_o hk h h2 h3)
  have sab := str_parts q
  have snb := nam_parts q
  have sfb := for_parts q
  have hob := out_parts q
  have hnm := hs.ops
  unfold reqV reqE
  generalize chk q = X0 at *
  generalize strayB q = x1 at *
  generalize namedB q = x2 at *
  generalize formedB q = x3 at *
  generalize outB q = x4 at *
  obtain ⟨k, tn, col, uid, card, ck, cv, ops, tok, most, ticks⟩ := q
  simp only at *
  generalize hT k = h1 at *
  generalize hC k = h2 at *
  generalize hU k = h3 at *
  generalize hCd k = h4 at *
  generalize hCn k = h5 at *
  generalize hO k = h6 at *
  generalize hTk k = h7 at *
  generalize hM k = h8 at *
  generalize hTi k = h9 at *
  change ∀ W, Below w.heap.size w W → Calls Tryz.prog 71 #[.string (bs card)] W fun e w' => e = .returned (.bool (isB card)) ∧ Below W.heap.size W w' at C5
  generalize nameB tn = n1 at *
  generalize nameB col = n2 at *
  generalize uidB uid = n3 at *
  generalize isB card = i4 at *
  generalize mayP ck cv = m5 at *
  obtain ⟨sa, hA⟩ : ∃ sa, strA h1 h2 h3 h4 h5 tn col uid card ck cv = sa := ⟨_, rfl⟩
  obtain ⟨sB, hB⟩ : ∃ sB, strB h6 h7 h8 h9 ops tok most ticks = sB := ⟨_, rfl⟩
  obtain ⟨na, hna⟩ : ∃ na, namA h1 h2 h3 n1 n2 n3 = na := ⟨_, rfl⟩
  obtain ⟨fa, hfa⟩ : ∃ fa, forA h4 h5 i4 m5 = fa := ⟨_, rfl⟩
  have FA := hd (SA.mk_ hA)
  have FZ := SZ.mk_ hB
  rw [hA, hB] at sab
  rw [hna] at snb
  rw [hfa] at sfb
  have SAB := hd (show x1 = ((sa || sB) || strC ops) by rw [sab, Bool.or_assoc])
  have SNB := hd snb
  have SFB := hd sfb
  have HNA := hd hna
  have HFA := hd hfa
  have HKA := hd hka
  have HCD := hd hcd
  have HSH := hd hsh
  replace C1 := hd C1
  replace C2 := hd C2
  replace C3 := hd C3
  replace C5 := hd C5
  replace C6 := hd C6
  obtain ⟨n, hn⟩ : ∃ n, ops.length = n := ⟨_, rfl⟩
  have HN := hd hn
  rw [hn] at hr hnm hob FZ ⊢
  replace FZ := hd FZ
  have HOB := hd hob
  have HR := hd hr
  have hk1 : 1 ≤ k ∧ k ≤ 11 := by unfold isK at hk; simpa using hk
  have hk1a : decide (k < 1) = false := by simp; omega
  have hk1b : decide ((11 : Int) < k) = false := by simp; omega
  clear hA hB hn hr hs hka hcd hsh sab snb sfb hna hfa hob hk
  obtain ⟨X, hX⟩ : ∃ X, X = w.alloc (.cells #[.int .i64 k, .string (bs tn), .string (bs col), .string (bs uid), .string (bs card), .int .i64 ck, .int .i64 cv, .slice A n c, .int .i64 tok, .int .i64 most, .int .i64 ticks] 26) := ⟨_, rfl⟩
  have q1 : Blk X w.heap.size 26 #[.int .i64 k, .string (bs tn), .string (bs col), .string (bs uid), .string (bs card), .int .i64 ck, .int .i64 cv, .slice A n c, .int .i64 tok, .int .i64 most, .int .i64 ticks] := by rw [hX]; exact Blk.new _ _ _
  have HBX := hd (show Below w.heap.size w X by rw [hX]; exact (Below.refl _ w).alloc (Nat.le_refl _) _)
  have r0 := q1.at_ 0 rfl
  have r1 := q1.at_ 1 rfl
  have r2 := q1.at_ 2 rfl
  have r3 := q1.at_ 3 rfl
  have r4 := q1.at_ 4 rfl
  have r5 := q1.at_ 5 rfl
  have r6 := q1.at_ 6 rfl
  have r7 := q1.at_ 7 rfl
  have r8 := q1.at_ 8 rfl
  have r9 := q1.at_ 9 rfl
  have r10 := q1.at_ 10 rfl
  have r8' := r8
  have Q1 := hd q1
  have hl1 := q1.lt
  have HX := hd hX
  clear q1 hX
  go_enter Tryz.func20, Tryz.ntmps20
  go_upto_region 1 with (fail)
  rw [← HX.o]
  go_upto_region 4 with (fail)
  go_cut [0, 4, 5] from 22 to 33 (fun _ s4 s5 wx => s4 = .bool h1 ∧ s5 = .bool h2 ∧ wx = X)
  case first =>
    rcases HKA.o with ⟨rfl, rfl, rfl, rfl, rfl, rfl, rfl, rfl, rfl, rfl⟩ | ⟨rfl, rfl, rfl, rfl, rfl, rfl, rfl, rfl, rfl, rfl⟩ | ⟨rfl, rfl, rfl, rfl, rfl, rfl, rfl, rfl, rfl, rfl⟩ | ⟨rfl, rfl, rfl, rfl, rfl, rfl, rfl, rfl, rfl, rfl⟩ | ⟨rfl, rfl, rfl, rfl, rfl, rfl, rfl, rfl, rfl, rfl⟩ | ⟨rfl, rfl, rfl, rfl, rfl, rfl, rfl, rfl, rfl, rfl⟩ | ⟨rfl, rfl, rfl, rfl, rfl, rfl, rfl, rfl, rfl, rfl⟩ | ⟨rfl, rfl, rfl, rfl, rfl, rfl, rfl, rfl, rfl, rfl⟩ | ⟨rfl, rfl, rfl, rfl, rfl, rfl, rfl, rfl, rfl, rfl⟩ | ⟨rfl, rfl, rfl, rfl, rfl, rfl, rfl, rfl, rfl, rfl⟩ | ⟨rfl, rfl, rfl, rfl, rfl, rfl, rfl, rfl, rfl, rfl⟩
    all_goals
      go_wp2_with fail
      go_meet
      exact ⟨rfl, rfl, rfl⟩
  case rest =>
  obtain ⟨rfl, rfl, hwc⟩ := hcut
  subst hwc
  go_upto_region 5 with (fail)
  go_cut [6, 7, 8] from 34 to 51 (fun s6 s7 s8 wx => s6 = .bool h3 ∧ s7 = .bool h4 ∧ s8 = .bool h5 ∧ wx = wc)
  case first =>
    rcases HKA.o with ⟨rfl, rfl, rfl, rfl, rfl, rfl, rfl, rfl, rfl, rfl⟩ | ⟨rfl, rfl, rfl, rfl, rfl, rfl, rfl, rfl, rfl, rfl⟩ | ⟨rfl, rfl, rfl, rfl, rfl, rfl, rfl, rfl, rfl, rfl⟩ | ⟨rfl, rfl, rfl, rfl, rfl, rfl, rfl, rfl, rfl, rfl⟩ | ⟨rfl, rfl, rfl, rfl, rfl, rfl, rfl, rfl, rfl, rfl⟩ | ⟨rfl, rfl, rfl, rfl, rfl, rfl, rfl, rfl, rfl, rfl⟩ | ⟨rfl, rfl, rfl, rfl, rfl, rfl, rfl, rfl, rfl, rfl⟩ | ⟨rfl, rfl, rfl, rfl, rfl, rfl, rfl, rfl, rfl, rfl⟩ | ⟨rfl, rfl, rfl, rfl, rfl, rfl, rfl, rfl, rfl, rfl⟩ | ⟨rfl, rfl, rfl, rfl, rfl, rfl, rfl, rfl, rfl, rfl⟩ | ⟨rfl, rfl, rfl, rfl, rfl, rfl, rfl, rfl, rfl, rfl⟩
    all_goals
      go_wp2_with fail
      go_meet
      exact ⟨rfl, rfl, rfl, rfl⟩
  case rest =>
  obtain ⟨rfl, rfl, rfl, hwd⟩ := hcut
  obtain rfl := hwd
  go_upto_region 6 with (fail)
  go_cut [9] from 52 to 57 (fun s9 wx => s9 = .bool h7 ∧ wx = wc)
  case first =>
    rcases HKA.o with ⟨rfl, rfl, rfl, rfl, rfl, rfl, rfl, rfl, rfl, rfl⟩ | ⟨rfl, rfl, rfl, rfl, rfl, rfl, rfl, rfl, rfl, rfl⟩ | ⟨rfl, rfl, rfl, rfl, rfl, rfl, rfl, rfl, rfl, rfl⟩ | ⟨rfl, rfl, rfl, rfl, rfl, rfl, rfl, rfl, rfl, rfl⟩ | ⟨rfl, rfl, rfl, rfl, rfl, rfl, rfl, rfl, rfl, rfl⟩ | ⟨rfl, rfl, rfl, rfl, rfl, rfl, rfl, rfl, rfl, rfl⟩ | ⟨rfl, rfl, rfl, rfl, rfl, rfl, rfl, rfl, rfl, rfl⟩ | ⟨rfl, rfl, rfl, rfl, rfl, rfl, rfl, rfl, rfl, rfl⟩ | ⟨rfl, rfl, rfl, rfl, rfl, rfl, rfl, rfl, rfl, rfl⟩ | ⟨rfl, rfl, rfl, rfl, rfl, rfl, rfl, rfl, rfl, rfl⟩ | ⟨rfl, rfl, rfl, rfl, rfl, rfl, rfl, rfl, rfl, rfl⟩
    all_goals
      go_wp2_with fail
      go_meet
      exact ⟨rfl, rfl⟩
  case rest =>
  obtain ⟨rfl, hwd⟩ := hcut
  obtain rfl := hwd
  go_upto_region 7 with (fail)
  simp only [List.append_eq, List.cons_append, List.nil_append]
  go_cut [138] from 58 to 138 (fun s138 wx => s138 = .bool (sa || sB) ∧ wx = wc)
  case first =>
    rcases HKA.o with ⟨rfl, rfl, rfl, rfl, rfl, rfl, rfl, rfl, rfl, rfl⟩ | ⟨rfl, rfl, rfl, rfl, rfl, rfl, rfl, rfl, rfl, rfl⟩ | ⟨rfl, rfl, rfl, rfl, rfl, rfl, rfl, rfl, rfl, rfl⟩ | ⟨rfl, rfl, rfl, rfl, rfl, rfl, rfl, rfl, rfl, rfl⟩ | ⟨rfl, rfl, rfl, rfl, rfl, rfl, rfl, rfl, rfl, rfl⟩ | ⟨rfl, rfl, rfl, rfl, rfl, rfl, rfl, rfl, rfl, rfl⟩ | ⟨rfl, rfl, rfl, rfl, rfl, rfl, rfl, rfl, rfl, rfl⟩ | ⟨rfl, rfl, rfl, rfl, rfl, rfl, rfl, rfl, rfl, rfl⟩ | ⟨rfl, rfl, rfl, rfl, rfl, rfl, rfl, rfl, rfl, rfl⟩ | ⟨rfl, rfl, rfl, rfl, rfl, rfl, rfl, rfl, rfl, rfl⟩ | ⟨rfl, rfl, rfl, rfl, rfl, rfl, rfl, rfl, rfl, rfl⟩
    all_goals as_aux_lemma =>
      go_wp2_with fail
      all_goals
        go_meet
        first
          | exact ⟨vb (by rw [FA.o.a1 rfl (by assumption)]; rfl), rfl⟩
          | exact ⟨vb (by rw [FA.o.a2 rfl (by assumption)]; rfl), rfl⟩
          | exact ⟨vb (by rw [FA.o.a3 rfl (by assumption)]; rfl), rfl⟩
          | exact ⟨vb (by rw [FA.o.a4 rfl (by assumption)]; rfl), rfl⟩
          | exact ⟨vb (by rw [FA.o.a5 rfl (by assumption)]; rfl), rfl⟩
          | exact ⟨vb (by rw [FA.o.a6 rfl (by assumption)]; rfl), rfl⟩
          | exact ⟨vb (by rw [FZ.o.z1 rfl (by first | assumption | omega), Bool.or_true]), rfl⟩
          | exact ⟨vb (by rw [FZ.o.z2 rfl (by assumption), Bool.or_true]), rfl⟩
          | exact ⟨vb (by rw [FZ.o.z3 rfl (by assumption), Bool.or_true]), rfl⟩
          | exact ⟨vb (by rw [FZ.o.z4 rfl (by assumption), Bool.or_true]), rfl⟩
          | exact ⟨vb (by rw [FA.o.a0 (fun h => by first | assumption | cases h) (fun h => by first | assumption | cases h) (fun h => by first | assumption | cases h) (fun h => by first | assumption | cases h) (fun h => by first | exact ⟨by first | assumption | rfl, by first | assumption | rfl⟩ | cases h), FZ.o.zt (fun h => by first | assumption | omega | cases h) (fun h => by first | assumption | rfl | cases h) (fun h => by first | assumption | rfl | cases h) rfl]; rfl), rfl⟩
          | exact ⟨vb (by rw [FA.o.a0 (fun h => by first | assumption | cases h) (fun h => by first | assumption | cases h) (fun h => by first | assumption | cases h) (fun h => by first | assumption | cases h) (fun h => by first | exact ⟨by first | assumption | rfl, by first | assumption | rfl⟩ | cases h), FZ.o.z0 (fun h => by first | assumption | omega | cases h) (fun h => by first | assumption | rfl | cases h) (fun h => by first | assumption | rfl | cases h) (fun h => by first | assumption | cases h)]; rfl), rfl⟩
  case rest =>
  obtain ⟨rfl, hwd⟩ := hcut
  obtain rfl := hwd
  cases hab : (sa || sB) with
  | true =>
    have HV := hd (HV1.o (by rw [SAB.o, hab]; rfl))
    clear hab
    go_wp2
    go_ret
    exact ⟨ret_int HV.o.symm, HBX.o⟩
  | false =>
  have HS2 := hd (show strC ops = x1 by rw [SAB.o, hab]; rfl)
  clear hab FA FZ r8
  go_wp2_with fail
  go_loop [10, 2] (fun i e => ∃ k' : Nat, i = .int .i64 k' ∧ e = .int .i64 0 ∧ k' ≤ n ∧ Hd (strC (ops.take k') = false)) (fun i _ => n - (intOf i).toNat)
  case atStart => exact ⟨0, rfl, rfl, Nat.zero_le _, hd rfl⟩
  case round =>
    obtain ⟨k', rfl, rfl, hk, HV⟩ := hrel
    have hki : (0 : Int) ≤ (k' : Int) := by omega
    by_cases hlt : k' < n
    · have HB := HBX
      have hlti : (k' : Int) < (n : Int) := by omega
      have hkl : k' < ops.length := by rw [HN.o]; exact hlt
      obtain ⟨g, o, rfl, hg, hc⟩ := HR.o.at_ (by omega)
      obtain ⟨x, hx⟩ : ∃ x, ops[k']'hkl = x := ⟨_, rfl⟩
      have HT : Hd (ops.take (k' + 1) = ops.take k' ++ [x]) := hd (by rw [List.take_succ_eq_append_getElem hkl, hx])
      have hmem : x ∈ ops := by rw [← hx]; exact List.getElem_mem hkl
      have HMEM := hd hmem
      have hcell : ∀ j u, j < 5 → (opEnc x)[j]? = some u → wc.cell? ⟨g, o + (k' * 5 + j), none⟩ = some u := fun j u hj hv => (HB.o.cell (p := ⟨g, o + (k' * 5 + j), none⟩) hg).trans (hc _ _ ((opsE_at ops k' hkl j hj).trans (by rw [hx]; exact hv)))
      obtain ⟨xd, xu, xc, xk, xv⟩ := x
      have k0 := hcell 0 _ (by omega) rfl
      have k1 := hcell 1 _ (by omega) rfl
      have k2 := hcell 2 _ (by omega) rfl
      have k3 := hcell 3 _ (by omega) rfl
      have k4 := hcell 4 _ (by omega) rfl
      rw [← Nat.add_assoc] at k0 k1 k2 k3 k4
      rw [Nat.add_zero] at k0
      have HBAD := hd (show (xd && decide (xc ≠ [])) = true → x1 = true from fun h => by
        rw [← HS2.o, strC]
        exact List.any_eq_true.2 ⟨_, HMEM.o, h⟩)
      have HGO := hd (show (xd && decide (xc ≠ [])) = false → strC (ops.take (k' + 1)) = false from fun h => by
        have := HV.o
        unfold strC at *
        rw [HT.o, List.any_append, this]
        simpa using h)
      clear hcell hc hx hkl hmem
      cases xd with
      | false =>
        have HG := hd (HGO.o rfl)
        go_wp2
        go_round
        case rel => exact ⟨k' + 1, by go_num, rfl, by omega, HG⟩
        case measure => simp [intOf]; omega
      | true =>
        by_cases hcc : (bs xc).toList = []
        · have HG := hd (HGO.o (by rw [bs_toL] at hcc; rw [hcc]; rfl))
          have hcc1 : (!(bs xc).toList.isEmpty) = false := by simpa using hcc
          have hcc3 : (bs xc).toList.isEmpty = true := by simpa using hcc
          go_wp2
          exact ⟨⟨k' + 1, by go_num, rfl, by omega, HG⟩, by simp [intOf]; omega⟩
        · have HG := hd (HV1.o (HBAD.o (by rw [bs_toL] at hcc; simpa using hcc)))
          have hcc1 : (!(bs xc).toList.isEmpty) = true := by simpa using hcc
          have hcc2 : ((bs xc).toList != []) = true := by simpa using hcc
          have hcc3 : (bs xc).toList.isEmpty = false := by simpa using hcc
          go_wp2
          go_ret
          exact ⟨ret_int HG.o.symm, HBX.o⟩
    · obtain rfl : k' = n := by omega
      have HE : Hd (x1 = false) := hd (by
        rw [← HS2.o, ← HV.o, List.take_of_length_le (by rw [HN.o]; exact Nat.le_refl _)])
      clear HS2 HV
      obtain ⟨n, rfl⟩ : ∃ n, n = k' := ⟨_, rfl⟩
      go_upto_region 14 with (fail)
      go_cut [10, 185] from 139 to 185 (fun _ s185 wx => s185 = .bool (!na) ∧ wx = wc)
      case first =>
        have hsh : (h1 = true ∧ h2 = false ∧ h3 = false) ∨ (h1 = false ∧ h2 = true ∧ h3 = false) ∨ (h1 = false ∧ h2 = true ∧ h3 = true) ∨ (h1 = false ∧ h2 = false ∧ h3 = false) := HSH.o
        rcases hsh with ⟨rfl, rfl, rfl⟩ | ⟨rfl, rfl, rfl⟩ | ⟨rfl, rfl, rfl⟩ | ⟨rfl, rfl, rfl⟩ <;> cases n1 <;> cases n2 <;> cases n3
        all_goals as_aux_lemma =>
          obtain rfl := HNA.o
          go_wp2_with (first | (go_at_call 69; (with_reducible refine (C1.o _).mono ?_); rintro e w' ⟨rfl, rfl⟩) | (go_at_call 69; (with_reducible refine (C2.o _).mono ?_); rintro e w' ⟨rfl, rfl⟩) | (go_at_call 70; (with_reducible refine (C3.o _).mono ?_); rintro e w' ⟨rfl, rfl⟩))
          go_meet
          exact ⟨rfl, rfl⟩
      case rest =>
      obtain ⟨rfl, hwd⟩ := hcut
      obtain rfl := hwd
      cases na with
      | false =>
        have HV := hd (HV2.o HE.o (by rw [SNB.o]; rfl))
        go_wp2
        go_ret
        exact ⟨ret_int HV.o.symm, HBX.o⟩
      | true =>
      have HS2 := hd (show namC ops = x2 by rw [SNB.o]; rfl)
      clear C1 C2 C3 HNA r1 r2 r3
      go_wp2_with fail
      go_loop [11, 2] (fun i e => ∃ k' : Nat, i = .int .i64 k' ∧ e = .int .i64 0 ∧ k' ≤ n ∧ Hd (namC (ops.take k') = true)) (fun i _ => n - (intOf i).toNat)
      case atStart => exact ⟨0, rfl, rfl, Nat.zero_le _, hd rfl⟩
      case round =>
        obtain ⟨k', rfl, rfl, hk, HV⟩ := hrel
        have hki : (0 : Int) ≤ (k' : Int) := by omega
        by_cases hlt : k' < n
        · have HB := HBX
          have hlti : (k' : Int) < (n : Int) := by omega
          have hkl : k' < ops.length := by rw [HN.o]; exact hlt
          obtain ⟨g, o, rfl, hg, hc⟩ := HR.o.at_ (by omega)
          obtain ⟨x, hx⟩ : ∃ x, ops[k']'hkl = x := ⟨_, rfl⟩
          have HT : Hd (ops.take (k' + 1) = ops.take k' ++ [x]) := hd (by rw [List.take_succ_eq_append_getElem hkl, hx])
          have hmem : x ∈ ops := by rw [← hx]; exact List.getElem_mem hkl
          have HMEM := hd hmem
          have hcell : ∀ j u, j < 5 → (opEnc x)[j]? = some u → wc.cell? ⟨g, o + (k' * 5 + j), none⟩ = some u := fun j u hj hv => (HB.o.cell (p := ⟨g, o + (k' * 5 + j), none⟩) hg).trans (hc _ _ ((opsE_at ops k' hkl j hj).trans (by rw [hx]; exact hv)))
          have K4 := C4.o x hmem
          rw [bs_data] at K4
          obtain ⟨xd, xu, xc, xk, xv⟩ := x
          have k0 := hcell 0 _ (by omega) rfl
          have k1 := hcell 1 _ (by omega) rfl
          have k2 := hcell 2 _ (by omega) rfl
          have k3 := hcell 3 _ (by omega) rfl
          have k4 := hcell 4 _ (by omega) rfl
          rw [← Nat.add_assoc] at k0 k1 k2 k3 k4
          rw [Nat.add_zero] at k0
          have HBAD := hd (show uidB xu = false → x2 = false from fun h => by
            rw [← HS2.o, namC]
            exact List.all_eq_false.2 ⟨_, HMEM.o, by simp [h]⟩)
          have HGO := hd (show uidB xu = true → namC (ops.take (k' + 1)) = true from fun h => by
            have := HV.o
            unfold namC at *
            rw [HT.o, List.all_append, this]
            simpa using h)
          simp only at K4
          generalize uidB xu = ub at *
          replace K4 := hd K4
          clear hcell hc hx hkl hmem
          cases ub with
          | true =>
            have HG := hd (HGO.o (by first | rfl | trivial))
            go_wp2_with (go_at_call 70; refine (K4.o _).mono ?_; rintro e w' ⟨rfl, rfl⟩)
            first
              | exact ⟨⟨k' + 1, by go_num, rfl, by omega, HG⟩, by simp [intOf]; omega⟩
              | (go_round
                 case rel => exact ⟨k' + 1, by go_num, rfl, by omega, HG⟩
                 case measure => simp [intOf]; omega)
              | (go_round
                 case rel => ((repeat apply Exists.intro); exact ⟨⟨k' + 1, by go_num, rfl, by omega, HG⟩, rfl⟩)
                 case measure => simp [intOf]; omega)
          | false =>
            have HG := hd (HV2.o HE.o (HBAD.o (by first | rfl | trivial)))
            go_wp2_with (go_at_call 70; refine (K4.o _).mono ?_; rintro e w' ⟨rfl, rfl⟩)
            go_ret
            exact ⟨ret_int HG.o.symm, HBX.o⟩
        · obtain rfl : k' = n := by omega
          have HE2 : Hd (x2 = true) := hd (by
            rw [← HS2.o, ← HV.o, List.take_of_length_le (by rw [HN.o]; exact Nat.le_refl _)])
          clear HS2 HV C4
          obtain ⟨n, rfl⟩ : ∃ n, n = k' := ⟨_, rfl⟩
          obtain ⟨wy, rfl⟩ : ∃ wy : World, wy = wc := ⟨_, rfl⟩
          go_upto_region 21 with (fail)
          go_cut [11, 216] from 186 to 216 (fun _ s216 wx => s216 = .bool (!fa) ∧ Hd (Below wy.heap.size wy wx))
          case first =>
            have hcd : (h4 = true ∧ h5 = true) ∨ (h4 = false ∧ h5 = true) ∨ (h4 = false ∧ h5 = false) := HCD.o
            rcases hcd with ⟨rfl, rfl⟩ | ⟨rfl, rfl⟩ | ⟨rfl, rfl⟩
            · go_wp2_with fail
              refine (C5.o _ HBX.o).mono ?_
              rintro e w1 ⟨rfl, hb1⟩
              have HB1 := hd hb1
              cases i4 with
              | false =>
                have HF := hd (HFA.o)
                clear hb1
                go_wp2_with fail
                go_meet
                exact ⟨by rw [← HF.o]; cases m5 <;> rfl, HB1⟩
              | true =>
                have r5' := (Q1.o.below hb1 hl1).at_ 5 rfl
                have r6' := (Q1.o.below hb1 hl1).at_ 6 rfl
                clear hb1 r5 r6
                go_wp2_with fail
                refine (C6.o _).mono ?_
                rintro e w2 ⟨rfl, hb2⟩
                have HB2 := hd (HB1.o.trans (hb2.mono HB1.o.size))
                clear hb2
                go_wp2_with fail
                go_meet
                exact ⟨by rw [← HFA.o]; rfl, HB2⟩
            · go_wp2_with fail
              refine (C6.o _).mono ?_
              rintro e w2 ⟨rfl, hb2⟩
              have HB2 := hd hb2
              clear hb2
              go_wp2_with fail
              go_meet
              exact ⟨by rw [← HFA.o]; rfl, HB2⟩
            · go_wp2_with fail
              go_meet
              exact ⟨by rw [← HFA.o]; rfl, hd (Below.refl _ _)⟩
          case rest =>
          obtain ⟨rfl, HBW⟩ := hcut
          clear r4 r5 r6 r7 r9 r10 r8'
          have hq := Q1.o.below HBW.o hl1
          have r7 := hq.at_ 7 rfl
          have HBX2 := hd (HBX.o.trans (HBW.o.mono HBX.o.size))
          cases fa with
          | false =>
            have HV := hd (HV3.o HE.o HE2.o (by rw [SFB.o]; rfl))
            clear hq
            go_wp2
            go_ret
            exact ⟨ret_int HV.o.symm, HBX2.o⟩
          | true =>
          have HS2 := hd (show forC ops = x3 by rw [SFB.o]; rfl)
          have Q2 := hd hq
          have hl2 := hq.lt
          clear C5 C6 HFA hq r7
          go_wp2_with fail
          go_loopw [12, 13, 2] (fun i _ e wr => ∃ k' : Nat, i = .int .i64 k' ∧ e = .int .i64 0 ∧ k' ≤ n ∧ Hd (forC (ops.take k') = true) ∧ Hd (Below w.heap.size w wr) ∧ Hd (Below wc.heap.size wc wr)) (fun i _ _ _ => n - (intOf i).toNat)
          case atStart => exact ⟨0, rfl, rfl, Nat.zero_le _, hd rfl, HBX2, hd (Below.refl _ _)⟩
          case round =>
            obtain ⟨k', rfl, rfl, hk, HV, HB, HBC⟩ := hrel
            have hki : (0 : Int) ≤ (k' : Int) := by omega
            have qr := Q2.o.below HBC.o hl2
            have r7 := qr.at_ 7 rfl
            have r8 := qr.at_ 8 rfl
            have r9 := qr.at_ 9 rfl
            have r10 := qr.at_ 10 rfl
            have hlr := qr.lt
            clear qr
            by_cases hlt : k' < n
            · clear r8 r9 r10
              have hlti : (k' : Int) < (n : Int) := by omega
              have hkl : k' < ops.length := by rw [HN.o]; exact hlt
              obtain ⟨g, o, rfl, hg, hc⟩ := HR.o.at_ (by omega)
              obtain ⟨x, hx⟩ : ∃ x, ops[k']'hkl = x := ⟨_, rfl⟩
              have HT : Hd (ops.take (k' + 1) = ops.take k' ++ [x]) := hd (by rw [List.take_succ_eq_append_getElem hkl, hx])
              have hmem : x ∈ ops := by rw [← hx]; exact List.getElem_mem hkl
              have HMEM := hd hmem
              have hcell : ∀ j u, j < 5 → (opEnc x)[j]? = some u → wr.cell? ⟨g, o + (k' * 5 + j), none⟩ = some u := fun j u hj hv => (HB.o.cell (p := ⟨g, o + (k' * 5 + j), none⟩) hg).trans (hc _ _ ((opsE_at ops k' hkl j hj).trans (by rw [hx]; exact hv)))
              obtain ⟨xd, xu, xc, xk, xv⟩ := x
              have k0 := hcell 0 _ (by omega) rfl
              have k1 := hcell 1 _ (by omega) rfl
              have k2 := hcell 2 _ (by omega) rfl
              have k3 := hcell 3 _ (by omega) rfl
              have k4 := hcell 4 _ (by omega) rfl
              rw [← Nat.add_assoc] at k0 k1 k2 k3 k4
              rw [Nat.add_zero] at k0
              have HA := hd (HB.o.alloc HB.o.size (.cells #[.bool xd, .string (bs xu), .string (bs xc), .int .i64 xk, .int .i64 xv] 43))
              have HAC := hd (HBC.o.alloc HBC.o.size (.cells #[.bool xd, .string (bs xu), .string (bs xc), .int .i64 xk, .int .i64 xv] 43))
              have HBK := hd (Blk.new wr 43 #[.bool xd, .string (bs xu), .string (bs xc), .int .i64 xk, .int .i64 xv])
              have K4 := C7.o _ hmem (wr.alloc (.cells #[.bool xd, .string (bs xu), .string (bs xc), .int .i64 xk, .int .i64 xv] 43))
              rw [bs_data] at K4
              have HBAD := hd (show forO ⟨xd, xu, xc, xk, xv⟩ = false → x3 = false from fun h => by
                rw [← HS2.o, forC]
                exact List.all_eq_false.2 ⟨_, HMEM.o, by simp [h]⟩)
              have HGO := hd (show forO ⟨xd, xu, xc, xk, xv⟩ = true → forC (ops.take (k' + 1)) = true from fun h => by
                have := HV.o
                unfold forC at *
                rw [HT.o, List.all_append, this]
                simpa using h)
              unfold forO at HBAD HGO
              simp only at HBAD HGO
              change Calls Tryz.prog 71 #[.string (bs xc)] (wr.alloc (.cells #[.bool xd, .string (bs xu), .string (bs xc), .int .i64 xk, .int .i64 xv] 43)) fun e w' => e = .returned (.bool (isB xc)) ∧ Below (wr.alloc (.cells #[.bool xd, .string (bs xu), .string (bs xc), .int .i64 xk, .int .i64 xv] 43)).heap.size (wr.alloc (.cells #[.bool xd, .string (bs xu), .string (bs xc), .int .i64 xk, .int .i64 xv] 43)) w' at K4
              generalize isB xc = ib at *
              have K5 := fun W => crmay_calls W xk xv
              generalize mayP xk xv = mb at *
              replace K4 := hd K4
              replace K5 := hd K5
              clear hcell hc hx hkl hmem
              cases xd with
              | true =>
                cases mb with
                | true =>
                  have HG := hd (HGO.o rfl)
                  go_wp2_with fail
                  refine (K5.o _).mono ?_
                  rintro e w2 ⟨rfl, hb2⟩
                  have HB2 := hd (HA.o.trans (hb2.mono HA.o.size))
                  have HB3 := hd (HAC.o.trans (hb2.mono HAC.o.size))
                  clear hb2
                  go_wp2
                  first
                    | exact ⟨⟨k' + 1, by go_num, rfl, by omega, HG, HB2, HB3⟩, by simp [intOf]; omega⟩
                    | (go_roundw
                       case rel => exact ⟨k' + 1, by go_num, rfl, by omega, HG, HB2, HB3⟩
                       case measure => simp [intOf]; omega)
                    | (go_roundw
                       case rel => ((repeat apply Exists.intro); exact ⟨⟨k' + 1, by go_num, rfl, by omega, HG, HB2, HB3⟩, rfl⟩)
                       case measure => simp [intOf]; omega)
                | false =>
                  have HG := hd (HV3.o HE.o HE2.o (HBAD.o rfl))
                  go_wp2_with fail
                  refine (K5.o _).mono ?_
                  rintro e w2 ⟨rfl, hb2⟩
                  have HB2 := hd (HA.o.trans (hb2.mono HA.o.size))
                  clear hb2
                  go_wp2
                  go_ret
                  exact ⟨ret_int HG.o.symm, HB2.o⟩
              | false =>
                cases ib with
                | false =>
                  have HG := hd (HV3.o HE.o HE2.o (HBAD.o rfl))
                  go_wp2_with fail
                  refine K4.o.mono ?_
                  rintro e w2 ⟨rfl, hb2⟩
                  have HB2 := hd (HA.o.trans (hb2.mono HA.o.size))
                  clear hb2
                  go_wp2
                  go_ret
                  exact ⟨ret_int HG.o.symm, HB2.o⟩
                | true =>
                  go_wp2_with fail
                  refine K4.o.mono ?_
                  rintro e w2 ⟨rfl, hb2⟩
                  have HB2 := hd (HA.o.trans (hb2.mono HA.o.size))
                  have HB3 := hd (HAC.o.trans (hb2.mono HAC.o.size))
                  have hx := HBK.o.below hb2 (by simp)
                  have m3 := hx.at_ 3 rfl
                  have m4 := hx.at_ 4 rfl
                  clear hb2 hx
                  go_wp2_with fail
                  refine (K5.o _).mono ?_
                  rintro e w3 ⟨rfl, hb3⟩
                  have HB4 := hd (HB2.o.trans (hb3.mono HB2.o.size))
                  have HB5 := hd (HB3.o.trans (hb3.mono HB3.o.size))
                  clear hb3
                  cases mb with
                  | true =>
                    have HG := hd (HGO.o rfl)
                    go_wp2
                    first
                      | exact ⟨⟨k' + 1, by go_num, rfl, by omega, HG, HB4, HB5⟩, by simp [intOf]; omega⟩
                      | (go_roundw
                         case rel => exact ⟨k' + 1, by go_num, rfl, by omega, HG, HB4, HB5⟩
                         case measure => simp [intOf]; omega)
                      | (go_roundw
                         case rel => ((repeat apply Exists.intro); exact ⟨⟨k' + 1, by go_num, rfl, by omega, HG, HB4, HB5⟩, rfl⟩)
                         case measure => simp [intOf]; omega)
                  | false =>
                    have HG := hd (HV3.o HE.o HE2.o (HBAD.o rfl))
                    go_wp2
                    go_ret
                    exact ⟨ret_int HG.o.symm, HB4.o⟩
            · obtain rfl : k' = n := by omega
              have HE3 : Hd (x3 = true) := hd (by
                rw [← HS2.o, ← HV.o, List.take_of_length_le (by rw [HN.o]; exact Nat.le_refl _)])
              have HVV := hd (HV4.o HE.o HE2.o HE3.o)
              have HNO := hd (show x4 = true → X0 = 12 from fun h => by rw [HVV.o, if_pos h])
              have HYES := hd (show x4 = false → X0 = 0 from fun h => by rw [HVV.o, if_neg (by rw [h]; decide)])
              have HK9 := HKA.o
              clear HS2 HV C7 HV1 HV2 HV3 HV4 HVV
              have hkk : (((k == 7) = true ∧ (k == 8) = false ∧ h6 = true ∧ h8 = false) ∨ ((k == 7) = false ∧ (k == 8) = true ∧ h6 = false ∧ h8 = true) ∨ ((k == 7) = false ∧ (k == 8) = false ∧ h6 = false ∧ h8 = false)) := by
                rcases HK9 with ⟨rfl, rfl, rfl, rfl, rfl, rfl, rfl, rfl, rfl, rfl⟩ | ⟨rfl, rfl, rfl, rfl, rfl, rfl, rfl, rfl, rfl, rfl⟩ | ⟨rfl, rfl, rfl, rfl, rfl, rfl, rfl, rfl, rfl, rfl⟩ | ⟨rfl, rfl, rfl, rfl, rfl, rfl, rfl, rfl, rfl, rfl⟩ | ⟨rfl, rfl, rfl, rfl, rfl, rfl, rfl, rfl, rfl, rfl⟩ | ⟨rfl, rfl, rfl, rfl, rfl, rfl, rfl, rfl, rfl, rfl⟩ | ⟨rfl, rfl, rfl, rfl, rfl, rfl, rfl, rfl, rfl, rfl⟩ | ⟨rfl, rfl, rfl, rfl, rfl, rfl, rfl, rfl, rfl, rfl⟩ | ⟨rfl, rfl, rfl, rfl, rfl, rfl, rfl, rfl, rfl, rfl⟩ | ⟨rfl, rfl, rfl, rfl, rfl, rfl, rfl, rfl, rfl, rfl⟩ | ⟨rfl, rfl, rfl, rfl, rfl, rfl, rfl, rfl, rfl, rfl⟩ <;> simp
              clear HK9
              rcases hkk with ⟨e7, e8, rfl, rfl⟩ | ⟨e7, e8, rfl, rfl⟩ | ⟨e7, e8, rfl, rfl⟩
              all_goals as_aux_lemma =>
                go_wp2
                all_goals first
                  | (exfalso; omega)
                  | (go_ret; exact ⟨ret_int (HNO.o (by rw [HOB.o]; simp; omega)).symm, HB.o⟩)
                  | (go_ret; exact ⟨ret_int (HYES.o (by rw [HOB.o]; simp; omega)).symm, HB.o⟩)

end Go.Proofs.YtogjokofmfpmgaaGreatDoor
namespace Go.Proofs.YtogjokofmfpmgaaGreatDoor
open Go.RowKit

set_option maxRecDepth 100000 in
set_option maxHeartbeats 4000000 in
theorem rcheck_calls (q : Rq) (A : Option Addr) (c : Nat) (w : World) (hr : Rds w A q.ops.length 5 (opsE q.ops)) (hs : RqS q) :
    Calls Tryz.prog 20 #[reqV q A c] w fun e w' => e = .returned (.int .i64 (chk q)) ∧ Below w.heap.size w w' := by
  cases hk : isK q.k with
  | true => exact rcheck_in q A c w hk hr hs
  | false =>
    have HV := hd (chk_12 hk)
    have hor : q.k < 1 ∨ 11 < q.k := by
      unfold isK at hk
      simp at hk
      omega
    clear hk hr hs
    unfold reqV reqE
    generalize chk q = X0 at *
    obtain ⟨k, tn, col, uid, card, ck, cv, ops, tok, most, ticks⟩ := q
    simp only at *
    obtain ⟨X, hX⟩ : ∃ X, X = w.alloc (.cells #[.int .i64 k, .string (bs tn), .string (bs col), .string (bs uid), .string (bs card), .int .i64 ck, .int .i64 cv, .slice A ops.length c, .int .i64 tok, .int .i64 most, .int .i64 ticks] 26) := ⟨_, rfl⟩
    have q1 : Blk X w.heap.size 26 #[.int .i64 k, .string (bs tn), .string (bs col), .string (bs uid), .string (bs card), .int .i64 ck, .int .i64 cv, .slice A ops.length c, .int .i64 tok, .int .i64 most, .int .i64 ticks] := by rw [hX]; exact Blk.new _ _ _
    have HBX := hd (show Below w.heap.size w X by rw [hX]; exact (Below.refl _ w).alloc (Nat.le_refl _) _)
    have r0 := q1.at_ 0 rfl
    have HX := hd hX
    clear q1 hX
    rcases hor with h | h
    · have h1 : decide (k < 1) = true := by simpa using h
      go_enter Tryz.func20, Tryz.ntmps20
      go_upto_region 1 with (fail)
      rw [← HX.o]
      go_wp2
      go_ret
      exact ⟨ret_int HV.o.symm, HBX.o⟩
    · have h1 : decide (k < 1) = false := by simp; omega
      have h2 : decide ((11 : Int) < k) = true := by simpa using h
      go_enter Tryz.func20, Tryz.ntmps20
      go_upto_region 1 with (fail)
      rw [← HX.o]
      go_wp2
      go_ret
      exact ⟨ret_int HV.o.symm, HBX.o⟩
end Go.Proofs.YtogjokofmfpmgaaGreatDoor
