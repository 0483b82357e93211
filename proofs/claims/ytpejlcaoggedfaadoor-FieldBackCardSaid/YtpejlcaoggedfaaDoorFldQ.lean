/-
  Fields: the field of a line, the program's.
-/
import Derived.Test.YtpejlcaoggedfaaDoorFldN
set_option linter.unusedVariables false
set_option linter.unusedSimpArgs false
namespace Go.Proofs.YtpejlcaoggedfaaDoor
open Go.RowKit

theorem bt_eqL (a : List UInt8) (s : ByteArray) : ((bs a).toList == s.toList) = decide (a = s.data.toList) := by
  rw [bs_toL, Lib.toList_data]
  by_cases h : a = s.data.toList <;> simp [h]
theorem bt_eqM (a b : List UInt8) : ((bs a).toList == (bs b).toList) = decide (a = b) := by
  rw [bs_toL, bs_toL]
  by_cases h : a = b <;> simp [h]
/-- What the cut leaves. -/
structure CutIs (S H A : List UInt8) : Prop where
  o : ∀ f, Found S f → headL f.k f.l = H ∧ f.v = A
  n : S = [] → H = []
  la : A.length ≤ S.length
  lh : H.length ≤ S.length
theorem bef_len' (c : UInt8) (l : List UInt8) : (bef c l).length ≤ l.length := (List.takeWhile_sublist _).length_le
theorem cut_is (S : List UInt8) : CutIs S (if 58 ∈ S then bef 58 S else S) (if 58 ∈ S then aft 58 S else []) := by
  by_cases h : (58 : UInt8) ∈ S
  · rw [if_pos h, if_pos h]
    exact ⟨fun f hf => ⟨(found_cut hf).2.1.symm, (found_cut hf).2.2.symm⟩, fun e => (by rw [e] at h; cases h), Nat.le_of_lt (aft_len 58 S h), bef_len' 58 S⟩
  · rw [if_neg h, if_neg h]
    exact ⟨fun f hf => absurd (found_cut hf).1 h, fun e => e, Nat.zero_le _, Nat.le_refl _⟩
theorem line_iff {S H A : List UInt8} (hc : CutIs S H A) {k l : Int} (hk : 1 ≤ k ∧ k ≤ 6) (he : headL k l = H) : lineF ⟨k, l, A⟩ = S ↔ Found S ⟨k, l, A⟩ := by
  constructor
  · intro h
    by_cases hm : MayF ⟨k, l, A⟩
    · exact ⟨hm, by rw [← line_yes hm]; exact h⟩
    · rw [line_no hm] at h
      have := hc.n h.symm
      rw [this] at he
      unfold headL at he
      exact absurd (List.append_eq_nil_iff.1 he).1 (fun e => (kindL_ne k).1 e hk)
  · exact found_line
/-- From which kind, from which label on. -/
def From1 (S : List UInt8) (k : Nat) : Prop := ∀ f, Found S f → (k : Int) ≤ f.k
def From2 (S : List UInt8) (k l : Nat) : Prop := ∀ f, Found S f → (k : Int) ≤ f.k ∧ (f.k = k → (l : Int) ≤ f.l)
theorem from1_0 (S : List UInt8) : From1 S 1 := fun f hf => (may_ok hf.1).1
theorem from2_0 {S : List UInt8} {k : Nat} (h : From1 S k) : From2 S k 0 := fun f hf => ⟨h f hf, fun _ => by have := may_ok hf.1; unfold okKL at this; omega⟩
theorem from2_up {S : List UInt8} {k : Nat} (h : From2 S k 4) : From1 S (k + 1) := fun f hf => by
  have h1 := h f hf
  have h2 := may_ok hf.1
  unfold okKL at h2
  have : f.k ≠ k := fun e => by have := h1.2 e; omega
  have := h1.1
  omega
theorem from1_end {S : List UInt8} (h : From1 S 7) : ∀ f, ¬ Found S f := fun f hf => by
  have h1 := h f hf
  have h2 := may_ok hf.1
  unfold okKL at h2
  omega
theorem from2_no {S : List UInt8} {k l : Nat} (h : From2 S k l) (hn : ∀ f, Found S f → f.k = k → f.l ≠ l) : From2 S k (l + 1) := fun f hf => by
  have h1 := h f hf
  refine ⟨h1.1, fun e => ?_⟩
  have := h1.2 e
  have := hn f hf e
  omega

set_option maxRecDepth 100000 in
set_option maxHeartbeats 4000000 in
theorem fparse_calls (s : ByteArray) (hs : s.size ≤ 1000000) (w : World) (ht : Tbs w) : Calls Tryd.prog 8 #[.string s] w fun e w' => e = .returned (fldR (parF s.data.toList) (parE s.data.toList)) ∧ Below w.heap.size w w' := by
  have hsl : s.data.toList.length = s.size := by simp
  obtain ⟨V, hV⟩ : ∃ V, parF s.data.toList = V := ⟨_, rfl⟩
  obtain ⟨F, hF⟩ : ∃ F, parE s.data.toList = F := ⟨_, rfl⟩
  rw [hV, hF]
  have HY : Hd (∀ f, Found s.data.toList f → V = f ∧ F = 0) := hd (fun f hf => by rw [← hV, ← hF]; exact par_yes hf)
  have HN : Hd ((∀ f, ¬ Found s.data.toList f) → V = noFld ∧ F = 1) := hd (fun h => by rw [← hV, ← hF]; exact par_no h)
  clear hV hF
  have hcut := cut_is s.data.toList
  obtain ⟨S, hS⟩ : ∃ S, s.data.toList = S := ⟨_, rfl⟩
  have HS := hd hS
  have hC := fun W (h : Tbl W) => cutc_calls 58 s (by omega) W h
  rw [hS] at HY HN hcut hC hsl
  clear hS
  have hC' : ∃ H A bb, CutIs S H A ∧ ∀ W, Tbl W → Calls Tryd.prog 21 #[.string s, .string ⟨#[58]⟩] W fun e w' => e = .returned (.tuple #[.string (bs H), .string (bs A), .bool bb]) ∧ Below W.heap.size W w' := by
    by_cases h : (58 : UInt8) ∈ S
    · simp only [if_pos h] at hcut hC
      exact ⟨_, _, _, hcut, hC⟩
    · simp only [if_neg h] at hcut hC
      refine ⟨_, _, false, hcut, fun W hW => (hC W hW).mono ?_⟩
      rintro e w' ⟨rfl, hb⟩
      exact ⟨by rw [← HS.o, bs_self], hb⟩
  clear hC hcut
  obtain ⟨H, A, bb, hcut, hC⟩ := hC'
  have hA : A.length ≤ 1000000 := by have := hcut.la; omega
  have HCI := hd hcut
  have H1 := hd hC
  clear hC hcut
  have HT := hd (fun W (h : Below w.heap.size w W) => ht.below h)
  obtain ⟨X, hX⟩ : ∃ X, X = w.alloc (.cells #[.int .i64 0, .int .i64 0, .string ⟨#[]⟩] 23) := ⟨_, rfl⟩
  have HB0 := hd (show Below w.heap.size w X by rw [hX]; exact (Below.refl _ w).alloc (Nat.le_refl _) _)
  have HK := hd (show Blk X w.heap.size 23 #[.int .i64 0, .int .i64 0, .string ⟨#[]⟩] by rw [hX]; exact Blk.new _ _ _)
  have HX := hd (show X.heap.size = w.heap.size + 1 by rw [hX]; simp)
  have hx := hd hX
  clear hX ht
  go_enter Tryd.func8, Tryd.ntmps8
  go_wp2_with fail
  rw [← hx.o]
  refine (H1.o X (HT.o X HB0.o).1).mono ?_
  rintro e w1 ⟨rfl, hb1⟩
  have HB1 : Hd (Below X.heap.size X w1) := hd hb1
  clear hb1
  go_wp2_with fail
  go_loopw [7, 8, 9, 10, 11, 3] (fun k _ _ _ _ _ wr => ∃ q : Nat, k = .int .i64 q ∧ 1 ≤ q ∧ q ≤ 7 ∧ Hd (From1 S q) ∧ Below X.heap.size X wr) (fun k _ _ _ _ _ _ => 7 - (intOf k).toNat)
  case atStart => exact ⟨1, rfl, by omega, by omega, hd (from1_0 S), HB1.o⟩
  case round =>
    obtain ⟨q, rfl, hq1, hq7, hf, hbe⟩ := hrel
    obtain ⟨wo, rfl⟩ : ∃ wo : World, wo = wr := ⟨_, rfl⟩
    have HBO := hd hbe
    clear hbe
    by_cases hlt : q < 7
    · have hq6 : (q : Int) ≤ 6 := by omega
      have hq6' : decide ((q : Int) ≤ 6) = true := by simpa using hq6
      go_wp2_with fail
      go_loopw [8, 9, 10, 11, 3] (fun l _ _ _ _ wr => ∃ r : Nat, l = .int .i64 r ∧ r ≤ 4 ∧ Hd (From2 S q r) ∧ Below X.heap.size X wr) (fun l _ _ _ _ _ => 4 - (intOf l).toNat)
      case atStart => exact ⟨0, rfl, by omega, hd (from2_0 hf.o), HBO.o⟩
      case round =>
        obtain ⟨r, rfl, hr4, hg, hbe⟩ := hrel
        obtain ⟨wi, rfl⟩ : ∃ wi : World, wi = wr := ⟨_, rfl⟩
        have HBI := hd hbe
        clear hbe
        by_cases hlt4 : r < 4
        · have C1 := label_calls q r wi
          have C2 := kind_calls q wi
          by_cases ho : okL q r
          · rw [show decide (okL (q : Int) r) = true by simp [ho], show labV (q : Int) r = labL r by rw [labV, if_pos ho]] at C1
            have hsum : bs (kindL q) ++ bs (labL r) = bs (headL q r) := bs_app2 _ _
            have hlk := kindL_len q
            have hll := labL_len r
            rw [← bs_size] at hlk hll
            by_cases he : headL q r = H
            · have hne := bt_eqM (headL q r) H
              rw [decide_eq_true he, ← hsum] at hne
              have hkk := ((okKL_iff (q : Int) r).2 ⟨by omega, ho⟩)
              have hli := line_iff HCI.o (k := q) (l := r) (by omega) he
              have K1 := hd C1
              have K2 := hd C2
              have K3 := hd (fline_calls ⟨q, r, A⟩ hA)
              simp only [fldV] at K3
              have hbox := (Blk.new wi 23 #[.int .i64 q, .int .i64 r, .string (bs A)])
              have HBA := hd (HBI.o.alloc HBI.o.size (.cells #[.int .i64 q, .int .i64 r, .string (bs A)] 23))
              have HBOX := hd hbox
              have HTA := hd (HT.o _ (HB0.o.trans (HBA.o.mono (by rw [HX.o]; omega))))
              obtain ⟨L1, hL1⟩ : ∃ L1, lineF ⟨q, r, A⟩ = L1 := ⟨_, rfl⟩
              rw [hL1] at K3 hli
              have heq := bt_eqL L1 s
              rw [HS.o] at heq
              have HLI := hd hli
              clear C1 C2 he ho hsum hli hL1 hbox hkk
              by_cases hfd : L1 = S
              · have HFD := hd (HY.o _ (HLI.o.1 hfd))
                rw [decide_eq_true hfd] at heq
                clear hfd HLI
                go_wp2_with fail
                refine K1.o.mono ?_
                rintro e w2 ⟨rfl, rfl⟩
                go_wp2_with fail
                refine K2.o.mono ?_
                rintro e w2 ⟨rfl, rfl⟩
                go_wp2_with fail
                refine (K3.o _ HTA.o).mono ?_
                rintro e w2 ⟨rfl, hb2⟩
                have HB2 := hd (HBA.o.trans (hb2.mono HBA.o.size))
                have k1 := HK.o.below HB2.o (by rw [HX.o]; omega)
                have k2 := HBOX.o.below hb2 (by simp)
                have b0 := k1.at_ 0 rfl
                have b1 := k1.at_ 1 rfl
                have b2 := k1.at_ 2 rfl
                have g0 := k1.frozen 0
                have g1 := k1.frozen 1
                have g2 := k1.frozen 2
                have a0 := k2.at_ 0 rfl
                have a1 := k2.at_ 1 rfl
                have a2 := k2.at_ 2 rfl
                have hl := k1.lt
                have hl2 := k2.lt
                have Q1 := hd k1
                clear k1 k2 hb2
                go_wp2
                (try simp only [Exit.inBlock, Exit.then])
                refine bodyPost_ret (res_cell rfl _ _ _ _ _ _ _ rfl (((Q1.o.set_ 0 _).set_ 1 _).set_ 2 _) rfl rfl rfl) rfl ⟨?_, ?_⟩
                · exact retF (f := ⟨q, r, A⟩) (a := 0) HFD.o.1.symm HFD.o.2.symm
                · exact ((((HB0.o.trans (HB2.o.mono (by rw [HX.o]; omega))).setCell (Nat.le_refl _) _).setCell (Nat.le_refl _) _).setCell (Nat.le_refl _) _)
              · have HN2 := hd (from2_no hg.o (fun f hf e1 e2 => hfd (HLI.o.2 (by
                  have := (HCI.o.o f hf).2
                  obtain ⟨fk, fl, fv⟩ := f
                  simp only at e1 e2 this
                  rw [e1, e2, this] at hf
                  exact hf))))
                rw [decide_eq_false hfd] at heq
                clear hfd HLI
                go_wp2_with fail
                refine K1.o.mono ?_
                rintro e w2 ⟨rfl, rfl⟩
                go_wp2_with fail
                refine K2.o.mono ?_
                rintro e w2 ⟨rfl, rfl⟩
                go_wp2_with fail
                refine (K3.o _ HTA.o).mono ?_
                rintro e w2 ⟨rfl, hb2⟩
                have HB2 := hd (HBA.o.trans (hb2.mono HBA.o.size))
                clear hb2
                go_wp2
                go_roundw
                case rel => exact ⟨r + 1, by go_num, by omega, HN2, HB2.o⟩
                case measure => simp [intOf]; omega
            · have hne := bt_eqM (headL q r) H
              rw [decide_eq_false he, ← hsum] at hne
              have HN2 := hd (from2_no hg.o (fun f hf e1 e2 => he (by rw [← e1, ← e2]; exact (HCI.o.o f hf).1)))
              have K1 := hd C1
              have K2 := hd C2
              clear C1 C2 he ho hsum
              go_wp2_with fail
              refine K1.o.mono ?_
              rintro e w2 ⟨rfl, rfl⟩
              go_wp2_with fail
              refine K2.o.mono ?_
              rintro e w2 ⟨rfl, rfl⟩
              go_wp2
              go_roundw
              case rel => exact ⟨r + 1, by go_num, by omega, HN2, HBI.o⟩
              case measure => simp [intOf]; omega
          · rw [show decide (okL (q : Int) r) = false by simp [ho]] at C1
            have HN2 := hd (from2_no hg.o (fun f hf e1 e2 => ho (by rw [← e1, ← e2]; exact ((okKL_iff _ _).1 (may_ok hf.1)).2)))
            have K1 := hd C1
            clear C1 C2 ho
            go_wp2_with fail
            refine K1.o.mono ?_
            rintro e w2 ⟨rfl, rfl⟩
            go_wp2
            go_roundw
            case rel => exact ⟨r + 1, by go_num, by omega, HN2, HBI.o⟩
            case measure => simp [intOf]; omega
        · have hr : r = 4 := by omega
          subst hr
          have HN2 := hd (from2_up hg.o)
          go_wp2
          go_roundw
          case rel => exact ⟨q + 1, by go_num, by omega, by omega, HN2, HBI.o⟩
          case measure => simp [intOf]; omega
    · have hq : q = 7 := by omega
      subst hq
      have HX2 := hd (HN.o (from1_end hf.o))
      have k1 := HK.o.below HBO.o (by rw [HX.o]; omega)
      have b0 := k1.at_ 0 rfl
      have b1 := k1.at_ 1 rfl
      have b2 := k1.at_ 2 rfl
      have g0 := k1.frozen 0
      have g1 := k1.frozen 1
      have g2 := k1.frozen 2
      have hl := k1.lt
      have K1 := hd k1
      clear k1
      go_wp2
      (try simp only [Exit.inBlock, Exit.then])
      refine bodyPost_ret (res_cell rfl _ _ _ _ _ _ _ rfl (((K1.o.set_ 0 _).set_ 1 _).set_ 2 _) rfl rfl rfl) rfl ⟨?_, ?_⟩
      · exact retF (f := noFld) (a := 1) HX2.o.1.symm HX2.o.2.symm
      · exact ((((HB0.o.trans (HBO.o.mono (by rw [HX.o]; omega))).setCell (Nat.le_refl _) _).setCell (Nat.le_refl _) _).setCell (Nat.le_refl _) _)

end Go.Proofs.YtpejlcaoggedfaaDoor
