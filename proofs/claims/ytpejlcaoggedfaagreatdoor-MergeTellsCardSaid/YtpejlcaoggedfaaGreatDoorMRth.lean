/-
  The document's Three.
-/
import Derived.Test.YtpejlcaoggedfaaGreatDoorGD
set_option linter.unusedVariables false
set_option linter.unusedSimpArgs false
namespace Go.Proofs.YtpejlcaoggedfaaGreatDoor
open Go.RowKit

theorem mrgR_step {o x y : List Fld} {k : Nat} (h : 1 ≤ k) : mrgR o x y k = mrgR o x y (k - 1) ++ pickR o x y k ∧ mrgN o x y k = mrgN o x y (k - 1) + tornK o x y k := by
  obtain ⟨j, rfl⟩ : ∃ j, k = j + 1 := ⟨k - 1, by omega⟩
  exact ⟨rfl, rfl⟩
def bothT (o x y : List Fld) (k j : Nat) : List Fld := ((x ++ y).take j).filter (fun f => decide (f.k = k ∧ ((f ∈ x ∧ f ∈ y) ∨ f ∉ o)))
theorem bothT_0 (o x y : List Fld) (k : Nat) : bothT o x y k 0 = [] := rfl
theorem bothT_next {o x y : List Fld} {k j : Nat} (h : j < (x ++ y).length) : bothT o x y k (j + 1) = bothT o x y k j ++ (if (x ++ y)[j].k = k ∧ (((x ++ y)[j] ∈ x ∧ (x ++ y)[j] ∈ y) ∨ (x ++ y)[j] ∉ o) then [(x ++ y)[j]] else []) := bothL_take o x y k j h
theorem bothT_all {o x y : List Fld} {k j : Nat} (h : (x ++ y).length ≤ j) : bothT o x y k j = bothL o x y k := by
  unfold bothT bothL
  rw [List.take_of_length_le h]
theorem row_empty' {w : World} {b e sz : Nat} (h : Blk w b e #[]) : Row w (fun q => b ≤ q) e sz (some ⟨b, 0, none⟩) 0 0 [] :=
  Row.of_block h (Nat.le_refl _) (Nat.le_refl _) (by unfold maxLen; omega) (by simp) (by simp) (by simp)
theorem plus_sub' {b x y : Nat} (h : b ≤ x) (h2 : b ≤ y) : ∀ q, Plus (From x) y q → From b q := fun q hq => hq.elim (fun hq => Nat.le_trans h hq) (fun hq => Nat.le_trans h2 hq)
set_option maxRecDepth 100000 in
set_option maxHeartbeats 16000000 in
theorem rthree_calls (so sa sb : ByteArray) (ho : so.size ≤ 1000000) (ha : sa.size ≤ 1000000) (hb : sb.size ≤ 1000000) (w : World) :
    Calls Tryz.prog 30 #[.string so, .string sa, .string sb] w fun e w' => e = .returned (.tuple #[.string (bs (thrT so.data.toList sa.data.toList sb.data.toList)), .int .i64 (thrM so.data.toList sa.data.toList sb.data.toList : Nat), .int .i64 (thrE so.data.toList sa.data.toList sb.data.toList)]) ∧ Below w.heap.size w w' := by
  obtain ⟨i0, hi, hz0, hz1, hz2⟩ := info_parts fInfo
  have P1 := hd (fun W (h : Below w.heap.size w W) => rcparse_calls so ho W)
  have P2 := hd (fun W (h : Below w.heap.size w W) => rcparse_calls sa ha W)
  have P3 := hd (fun W (h : Below w.heap.size w W) => rcparse_calls sb hb W)
  obtain ⟨SO, hSO⟩ : ∃ S, so.data.toList = S := ⟨_, rfl⟩
  obtain ⟨SA, hSA⟩ : ∃ S, sa.data.toList = S := ⟨_, rfl⟩
  obtain ⟨SB, hSB⟩ : ∃ S, sb.data.toList = S := ⟨_, rfl⟩
  rw [hSO] at P1
  rw [hSA] at P2
  rw [hSB] at P3
  rw [hSO, hSA, hSB]
  clear hSO hSA hSB
  have L1 := hd (crd_len SO)
  have L2 := hd (crd_len SA)
  have L3 := hd (crd_len SB)
  have V2 := hd (crd_may SA)
  have V3 := hd (crd_may SB)
  obtain ⟨E1, hE1⟩ : ∃ e, crdE SO = e := ⟨_, rfl⟩
  obtain ⟨E2, hE2⟩ : ∃ e, crdE SA = e := ⟨_, rfl⟩
  obtain ⟨E3, hE3⟩ : ∃ e, crdE SB = e := ⟨_, rfl⟩
  obtain ⟨XO, hXO⟩ : ∃ l, crdF SO = l := ⟨_, rfl⟩
  obtain ⟨XA, hXA⟩ : ∃ l, crdF SA = l := ⟨_, rfl⟩
  obtain ⟨XB, hXB⟩ : ∃ l, crdF SB = l := ⟨_, rfl⟩
  rw [hXO] at L1
  rw [hXA] at L2 V2
  rw [hXB] at L3 V3
  have HKO := hd (fun (h : E1 = 0) => (hXO ▸ crd_ok (hE1.trans h) : CardOk XO))
  have HKA := hd (fun (h : E2 = 0) => (hXA ▸ crd_ok (hE2.trans h) : CardOk XA))
  have HKB := hd (fun (h : E3 = 0) => (hXB ▸ crd_ok (hE3.trans h) : CardOk XB))
  have HE1 := hd hE1
  have HE2 := hd hE2
  have HE3 := hd hE3
  have HXO := hd hXO
  have HXA := hd hXA
  have HXB := hd hXB
  have HNO := hd (fun (h : ¬ (E1 = 0 ∧ E2 = 0 ∧ E3 = 0)) => thr_no (a := SO) (b := SA) (c := SB) (by unfold thrOk; rw [hE1, hE2, hE3]; exact h))
  have HOK := hd (fun (h : E1 = 0 ∧ E2 = 0 ∧ E3 = 0) => (by unfold thrOk; rw [hE1, hE2, hE3]; exact h : thrOk SO SA SB))
  clear hE1 hE2 hE3 hXO hXA hXB
  by_cases h1 : E1 = 0
  case neg =>
    have ne1 : (E1 != 0) = true := by simpa using h1
    have HV := hd (HNO.o (fun h => h1 h.1))
    clear h1 HNO HOK
    go_enter Tryz.func30, Tryz.ntmps30
    go_wp2_with fail
    refine (P1.o _ (Below.refl _ _)).mono ?_
    rintro e w1 ⟨⟨B1, m1, d1, rfl, hm1, hr1, hb1⟩⟩
    rw [HXO.o] at hm1 hr1
    rw [HE1.o]
    have M1 := hd hm1
    have R1 := hd hr1.rds
    have HB1 := hd hb1
    clear hm1 hr1 hb1
    go_wp2_with fail
    refine (P2.o _ HB1.o).mono ?_
    rintro e w2 ⟨⟨B2, m2, d2, rfl, hm2, hr2, hb2⟩⟩
    rw [HXA.o] at hm2 hr2
    rw [HE2.o]
    have M2 := hd hm2
    have R2 := hd hr2.rds
    replace R1 := hd (R1.o.below hb2)
    have HB2 := hd (HB1.o.trans (hb2.mono HB1.o.size))
    clear hm2 hr2 hb2
    go_wp2_with fail
    refine (P3.o _ HB2.o).mono ?_
    rintro e w5 ⟨⟨B3, m3, d3, rfl, hm3, hr3, hb3⟩⟩
    rw [HXB.o] at hm3 hr3
    rw [HE3.o]
    have M3 := hd hm3
    have R3 := hd hr3.rds
    replace R1 := hd (R1.o.below hb3)
    replace R2 := hd (R2.o.below hb3)
    have HB5 := hd (HB2.o.trans (hb3.mono HB2.o.size))
    clear hm3 hr3 hb3
    go_wp2
    go_ret3
    exact ⟨retT3 (by rw [HV.o.1]; rfl) (by rw [HV.o.2.2]; rfl) HV.o.2.1.symm, HB5.o⟩
  by_cases h2 : E2 = 0
  case neg =>
    have ne2 : (E2 != 0) = true := by simpa using h2
    have HV := hd (HNO.o (fun h => h2 h.2.1))
    clear h2 HNO HOK
    subst h1
    go_enter Tryz.func30, Tryz.ntmps30
    go_wp2_with fail
    refine (P1.o _ (Below.refl _ _)).mono ?_
    rintro e w1 ⟨⟨B1, m1, d1, rfl, hm1, hr1, hb1⟩⟩
    rw [HXO.o] at hm1 hr1
    rw [HE1.o]
    have M1 := hd hm1
    have R1 := hd hr1.rds
    have HB1 := hd hb1
    clear hm1 hr1 hb1
    go_wp2_with fail
    refine (P2.o _ HB1.o).mono ?_
    rintro e w2 ⟨⟨B2, m2, d2, rfl, hm2, hr2, hb2⟩⟩
    rw [HXA.o] at hm2 hr2
    rw [HE2.o]
    have M2 := hd hm2
    have R2 := hd hr2.rds
    replace R1 := hd (R1.o.below hb2)
    have HB2 := hd (HB1.o.trans (hb2.mono HB1.o.size))
    clear hm2 hr2 hb2
    go_wp2_with fail
    refine (P3.o _ HB2.o).mono ?_
    rintro e w5 ⟨⟨B3, m3, d3, rfl, hm3, hr3, hb3⟩⟩
    rw [HXB.o] at hm3 hr3
    rw [HE3.o]
    have M3 := hd hm3
    have R3 := hd hr3.rds
    replace R1 := hd (R1.o.below hb3)
    replace R2 := hd (R2.o.below hb3)
    have HB5 := hd (HB2.o.trans (hb3.mono HB2.o.size))
    clear hm3 hr3 hb3
    go_wp2
    go_ret3
    exact ⟨retT3 (by rw [HV.o.1]; rfl) (by rw [HV.o.2.2]; rfl) HV.o.2.1.symm, HB5.o⟩
  by_cases h3 : E3 = 0
  case neg =>
    have ne3 : (E3 != 0) = true := by simpa using h3
    have HV := hd (HNO.o (fun h => h3 h.2.2))
    clear h3 HNO HOK
    subst h1 h2
    go_enter Tryz.func30, Tryz.ntmps30
    go_wp2_with fail
    refine (P1.o _ (Below.refl _ _)).mono ?_
    rintro e w1 ⟨⟨B1, m1, d1, rfl, hm1, hr1, hb1⟩⟩
    rw [HXO.o] at hm1 hr1
    rw [HE1.o]
    have M1 := hd hm1
    have R1 := hd hr1.rds
    have HB1 := hd hb1
    clear hm1 hr1 hb1
    go_wp2_with fail
    refine (P2.o _ HB1.o).mono ?_
    rintro e w2 ⟨⟨B2, m2, d2, rfl, hm2, hr2, hb2⟩⟩
    rw [HXA.o] at hm2 hr2
    rw [HE2.o]
    have M2 := hd hm2
    have R2 := hd hr2.rds
    replace R1 := hd (R1.o.below hb2)
    have HB2 := hd (HB1.o.trans (hb2.mono HB1.o.size))
    clear hm2 hr2 hb2
    go_wp2_with fail
    refine (P3.o _ HB2.o).mono ?_
    rintro e w5 ⟨⟨B3, m3, d3, rfl, hm3, hr3, hb3⟩⟩
    rw [HXB.o] at hm3 hr3
    rw [HE3.o]
    have M3 := hd hm3
    have R3 := hd hr3.rds
    replace R1 := hd (R1.o.below hb3)
    replace R2 := hd (R2.o.below hb3)
    have HB5 := hd (HB2.o.trans (hb3.mono HB2.o.size))
    clear hm3 hr3 hb3
    go_wp2
    go_ret3
    exact ⟨retT3 (by rw [HV.o.1]; rfl) (by rw [HV.o.2.2]; rfl) HV.o.2.1.symm, HB5.o⟩
  have HY := hd (HOK.o ⟨h1, h2, h3⟩)
  have KO := hd (HKO.o h1)
  have KA := hd (HKA.o h2)
  have KB := hd (HKB.o h3)
  clear HKO HKA HKB
  clear HNO HOK
  subst h1 h2 h3
  go_enter Tryz.func30, Tryz.ntmps30
  go_wp2_with fail
  refine (P1.o _ (Below.refl _ _)).mono ?_
  rintro e w1 ⟨⟨B1, m1, d1, rfl, hm1, hr1, hb1⟩⟩
  rw [HXO.o] at hm1 hr1
  rw [HE1.o]
  have M1 := hd hm1
  have R1 := hd hr1.rds
  have HB1 := hd hb1
  clear hm1 hr1 hb1
  go_wp2_with fail
  refine (P2.o _ HB1.o).mono ?_
  rintro e w2 ⟨⟨B2, m2, d2, rfl, hm2, hr2, hb2⟩⟩
  rw [HXA.o] at hm2 hr2
  rw [HE2.o]
  have M2 := hd hm2
  have R2 := hd hr2.rds
  replace R1 := hd (R1.o.below hb2)
  have HB2 := hd (HB1.o.trans (hb2.mono HB1.o.size))
  clear hm2 hr2 hb2
  go_wp2_with fail
  refine (P3.o _ HB2.o).mono ?_
  rintro e w5 ⟨⟨B3, m3, d3, rfl, hm3, hr3, hb3⟩⟩
  rw [HXB.o] at hm3 hr3
  rw [HE3.o]
  have M3 := hd hm3
  have R3 := hd hr3.rds
  replace R1 := hd (R1.o.below hb3)
  replace R2 := hd (R2.o.below hb3)
  have HB5 := hd (HB2.o.trans (hb3.mono HB2.o.size))
  clear hm3 hr3 hb3
  have b1 : m1 ≤ 12 := by rw [M1.o]; exact L1.o
  have b2 : m2 ≤ 12 := by rw [M2.o]; exact L2.o
  have b3 : m3 ≤ 12 := by rw [M3.o]; exact L3.o
  have hw5 := HB5.o.size
  go_wp2_with fail
  go_loopw [17, 18, 19, 20, 21, 22, 15, 16] (fun i _ _ _ _ _ out tn wr => ∃ (k : Nat) (D : Option Addr) (q d : Nat), i = .int .i64 k ∧ 1 ≤ k ∧ k ≤ 7 ∧ out = .slice D q d ∧ q ≤ 24 * (k - 1) ∧ tn = .int .i64 (mrgN XO XA XB (k - 1) : Nat) ∧ Hd (q = (mrgR XO XA XB (k - 1)).length) ∧ Hd (Row wr (From w5.heap.size) 36 3 D q d (fsE (mrgR XO XA XB (k - 1)))) ∧ Hd (Below w5.heap.size w5 wr)) (fun i _ _ _ _ _ _ _ _ => 7 - (intOf i).toNat)
  case atStart => exact ⟨1, none, 0, 0, rfl, Nat.le_refl _, by omega, rfl, Nat.zero_le _, rfl, hd rfl, hd (Row.nil _ _ _ _), hd (Below.refl _ _)⟩
  case round =>
    obtain ⟨k, D, q, d, rfl, hk1, hk7, rfl, hqk, rfl, HQ, HO, HW⟩ := hrel
    obtain ⟨wi, rfl⟩ : ∃ wi : World, wi = wr := ⟨_, rfl⟩
    have HST := hd (mrgR_step (o := XO) (x := XA) (y := XB) hk1)
    by_cases hle : k ≤ 6
    · have hlei : decide ((k : Int) ≤ 6) = true := by simp; omega
      by_cases hmany : Many k
      · have HPM := hd (show pickR XO XA XB k = bothL XO XA XB k by unfold pickR; rw [if_pos hmany])
        have HTM := hd (show tornK XO XA XB k = 0 by unfold tornK; rw [if_pos (.inl hmany)])
        have HS1 := hd (HST.o.1.trans (by rw [HPM.o]))
        have HS2 := hd (HST.o.2.trans (by rw [HTM.o]))
        have hcs : ((k : Int) == 3) = true ∨ (((k : Int) == 3) = false ∧ ((k : Int) == 4) = true) ∨ (((k : Int) == 3) = false ∧ ((k : Int) == 4) = false ∧ ((k : Int) == 6) = true) := by
          rcases hmany with rfl | rfl | rfl
          · exact .inl rfl
          · exact .inr (.inl ⟨rfl, rfl⟩)
          · exact .inr (.inr ⟨rfl, rfl, rfl⟩)
        clear hmany HST HPM HTM
        have HWs := hd HW.o.size
        rcases hcs with h3 | ⟨h3, h4⟩ | ⟨h3, h4, h6⟩
        · go_wp2_with (first
            | (at_builtin; refine wpList_append_rowG rfl _ _ 22 rfl (From wi.heap.size) 36 i0 (.agg #[.int .i64 0, .int .i64 0, .string ⟨#[]⟩]) 3 32 Tryz.underlying22 hi hz0 hz1 hz2 rfl _ 0 0 [] rfl (row_empty' (Blk.new wi _ _)) B2 m2 d2 (fsE XA) rfl ((R2.o.below HW.o).alloc _) (ones_f _) (by unfold maxLen; omega) (by omega) ?_; intro AA ca w6 hown hchg; have HA6 := hd (show Row w6 (From wi.heap.size) 36 3 AA m2 ca (fsE XA) by simpa using hown.mono (plus_sub' (Nat.le_refl _) (by simp))); have HC6 := hd ((((Chg.refl (From wi.heap.size) wi).alloc _).trans hchg (fun q hq => .inl hq)).below (fun _ h => h) (Nat.le_refl _)); have R36 := hd ((R3.o.below HW.o).below HC6.o); have hs6 := HC6.o.size; clear hown hchg; simp only [Nat.zero_add])
            | (at_builtin; refine wpList_append_rowG rfl _ _ 22 rfl (From wi.heap.size) 36 i0 (.agg #[.int .i64 0, .int .i64 0, .string ⟨#[]⟩]) 3 32 Tryz.underlying22 hi hz0 hz1 hz2 rfl AA m2 ca (fsE XA) rfl HA6.o B3 m3 d3 (fsE XB) rfl R36.o (ones_f _) (by unfold maxLen; omega) (by omega) ?_; intro AB cb w7 hown hchg; have HB7 := hd (show Row w7 (From wi.heap.size) 36 3 AB (m2 + m3) cb (fsE (XA ++ XB)) by rw [fsE_app]; exact hown.mono (plus_sub' (Nat.le_refl _) hs6)); have HC7 := hd (HC6.o.trans (hchg.below (fun _ h => h) hs6)); clear hown hchg HA6 R36))
          have hs7 := HC7.o.size
          obtain ⟨OL, hOL⟩ : ∃ OL, mrgR XO XA XB (k - 1) = OL := ⟨_, rfl⟩
          obtain ⟨tn, htn⟩ : ∃ tn, mrgN XO XA XB (k - 1) = tn := ⟨_, rfl⟩
          rw [hOL] at HQ HO HS1
          rw [htn] at HS2 ⊢
          clear hOL htn
          obtain ⟨T, hT⟩ : ∃ T, T = Tt w5.heap.size wi.heap.size w7.heap.size := ⟨_, rfl⟩
          have HTP := hd (show ∀ x, w5.heap.size ≤ x → w7.heap.size ≤ x → ∀ q, Plus T x q → T q from fun x h1 h2 => by rw [hT]; exact tt_plus h1 h2)
          have HTB := hd (show ∀ q, T q → w5.heap.size ≤ q from fun q h => by rw [hT] at h; exact h.1)
          have HRB := hd (fun W (h : Chg T w7 W) => rds_tt HB7.o (by rw [← hT]; exact h))
          have HO7 := hd (show Row w7 T 36 3 D q d (fsE OL) by rw [hT]; exact (row_tt HO.o (Nat.le_refl _)).below HC7.o)
          have HWI := hd (HW.o.trans (HC7.o.mono HWs.o))
          have hw7 : w5.heap.size ≤ w7.heap.size := HWI.o.size
          have MB := hd (show m2 + m3 = (XA ++ XB).length by rw [List.length_append, ← M2.o, ← M3.o])
          have HAX := hd (fun W (h : Chg T w7 W) => R2.o.below (HWI.o.trans (h.below HTB.o hw7)))
          have HBX := hd (fun W (h : Chg T w7 W) => R3.o.below (HWI.o.trans (h.below HTB.o hw7)))
          have HOX := hd (fun W (h : Chg T w7 W) => R1.o.below (HWI.o.trans (h.below HTB.o hw7)))
          obtain ⟨mb, hmb⟩ : ∃ mb, m2 + m3 = mb := ⟨_, rfl⟩
          have bb : mb ≤ 24 := by omega
          rw [hmb] at MB HRB ⊢
          clear hmb HO HC6 HC7 hs6 hs7 hT HB7 HW
          go_wp2_with fail
          go_loopw [19, 15] (fun i out wr => ∃ (j : Nat) (D2 : Option Addr) (q2 d2 : Nat), i = .int .i64 j ∧ j ≤ mb ∧ out = .slice D2 q2 d2 ∧ q2 ≤ q + j ∧ Hd (q2 = (OL ++ bothT XO XA XB k j).length) ∧ Hd (Row wr T 36 3 D2 q2 d2 (fsE (OL ++ bothT XO XA XB k j))) ∧ Hd (Chg T w7 wr)) (fun i _ _ => mb - (intOf i).toNat)
          case atStart => exact ⟨0, D, q, d, rfl, Nat.zero_le _, rfl, Nat.le_refl _, hd (by rw [bothT_0, List.append_nil]; exact HQ.o), hd (by rw [bothT_0, List.append_nil]; exact HO7.o), hd (Chg.refl _ _)⟩
          case round =>
            obtain ⟨j, D2, q2, dd, rfl, hj, rfl, hq2, HQ2, HO2, HC2⟩ := hrel
            obtain ⟨wj, rfl⟩ : ∃ wj : World, wj = wr := ⟨_, rfl⟩
            by_cases hlt : j < mb
            · have hlti : decide ((j : Int) < (mb : Int)) = true := by simp; omega
              have hjl : j < (XA ++ XB).length := by rw [← MB.o]; exact hlt
              have HKT := hd (bothT_next (o := XO) (x := XA) (y := XB) (k := k) hjl)
              obtain ⟨f, hf⟩ : ∃ f, (XA ++ XB)[j]'hjl = f := ⟨_, rfl⟩
              rw [hf] at HKT
              obtain ⟨g, o, rfl, hg, hc⟩ := (HRB.o wj HC2.o).at_ (by omega)
              have hcf : ∀ t u, t < 3 → (fEnc f)[t]? = some u → wj.cell? ⟨g, o + j * 3 + t, none⟩ = some u := fun t u ht hv => by
                rw [Nat.add_assoc]
                exact hc _ _ ((fsE_at (XA ++ XB) j hjl t ht).trans (by rw [hf]; exact hv))
              have c0 := hcf 0 _ (by omega) rfl
              have c1 := hcf 1 _ (by omega) rfl
              have c2 := hcf 2 _ (by omega) rfl
              rw [Nat.add_zero] at c0
              clear hcf hc hf
              by_cases hfk : f.k = (k : Int)
              · have K1 := fun W (h : Chg T w7 W) => has_calls W B2 m2 d2 XA f M2.o (HAX.o W h) (by omega)
                have K2 := fun W (h : Chg T w7 W) => has_calls W B3 m3 d3 XB f M3.o (HBX.o W h) (by omega)
                have K3 := fun W (h : Chg T w7 W) => has_calls W B1 m1 d1 XO f M1.o (HOX.o W h) (by omega)
                obtain ⟨v1, hv1⟩ : ∃ v, decide (f ∈ XA) = v := ⟨_, rfl⟩
                obtain ⟨v2, hv2⟩ : ∃ v, decide (f ∈ XB) = v := ⟨_, rfl⟩
                obtain ⟨v3, hv3⟩ : ∃ v, decide (f ∈ XO) = v := ⟨_, rfl⟩
                rw [hv1] at K1
                rw [hv2] at K2
                rw [hv3] at K3
                have HV1 := hd hv1
                have HV2 := hd hv2
                have HV3 := hd hv3
                have HFK := hd hfk
                have hfe : (f.k == (k : Int)) = true := by simpa using hfk
                obtain ⟨fk, fl, fv⟩ := f
                simp only [fldV] at K1 K2 K3
                replace K1 := hd K1
                replace K2 := hd K2
                replace K3 := hd K3
                clear hv1 hv2 hv3 hfk
                go_wp2_with fail
                refine (K1.o _ HC2.o).mono ?_
                rintro e wk ⟨rfl, hb⟩
                have HC3 := hd (chg_tB HC2.o hb)
                have HO3 := hd (HO2.o.below hb)
                have hg3 := Nat.lt_of_lt_of_le hg hb.size
                have c0' := (hb.cell (p := ⟨g, o + j * 3, none⟩) hg).trans c0
                have c1' := (hb.cell (p := ⟨g, o + j * 3 + 1, none⟩) hg).trans c1
                have c2' := (hb.cell (p := ⟨g, o + j * 3 + 2, none⟩) hg).trans c2
                clear hb c0 c1 c2
                have c0 := c0'
                have c1 := c1'
                have c2 := c2'
                clear c0' c1' c2'
                cases v1 with
                | true =>
                  go_wp2_with fail
                  refine (K2.o _ HC3.o).mono ?_
                  rintro e wl ⟨rfl, hb⟩
                  have HC4 := hd (chg_tB HC3.o hb)
                  have HO4 := hd (HO3.o.below hb)
                  have hg4 := Nat.lt_of_lt_of_le hg3 hb.size
                  have c0' := (hb.cell (p := ⟨g, o + j * 3, none⟩) hg3).trans c0
                  have c1' := (hb.cell (p := ⟨g, o + j * 3 + 1, none⟩) hg3).trans c1
                  have c2' := (hb.cell (p := ⟨g, o + j * 3 + 2, none⟩) hg3).trans c2
                  clear hb c0 c1 c2
                  have c0 := c0'
                  have c1 := c1'
                  have c2 := c2'
                  clear c0' c1' c2'
                  cases v2 with
                  | true =>
                    have HCOND := hd (show fk = (k : Int) ∧ (((⟨fk, fl, fv⟩ : Fld) ∈ XA ∧ (⟨fk, fl, fv⟩ : Fld) ∈ XB) ∨ (⟨fk, fl, fv⟩ : Fld) ∉ XO) from ⟨HFK.o, .inl ⟨of_decide_eq_true HV1.o, of_decide_eq_true HV2.o⟩⟩)
                    have HK1 := hd (HKT.o.trans (by rw [if_pos HCOND.o]))
                    have hsz := HC4.o.size
                    go_wp2_with (at_builtin; refine wpList_append_row rfl _ _ 22 rfl T 36 i0 (.agg #[.int .i64 0, .int .i64 0, .string ⟨#[]⟩]) 3 32 Tryz.underlying22 hi hz0 hz1 hz2 rfl D2 q2 dd (fsE (OL ++ bothT XO XA XB k j)) rfl (HO4.o.alloc _) ⟨_, 0, none⟩ 1 1 [.int .i64 fk, .int .i64 fl, .string (bs fv)] rfl rfl (cells_at (Blk.new_ _ _ (by simp) _ _) rfl) (by simp [Value.oneCell']) (by omega) (by unfold maxLen; omega) (by omega) ?_; intro A2 cc2 w9 hown hchg)
                    go_roundw
                    case rel =>
                      refine ⟨j + 1, A2, q2 + 1, cc2, by go_num, by omega, rfl, by omega, hd ?_, hd ?_, hd ?_⟩
                      · rw [HK1.o, ← List.append_assoc, List.length_append, ← HQ2.o]; rfl
                      · rw [HK1.o, ← List.append_assoc, fsE_snoc]; exact hown.mono (HTP.o _ (by simp; omega) (by simp; omega))
                      · exact chg_tt (HC4.o.alloc _) hchg
                    case measure => simp [intOf]; omega
                  | false =>
                    have HN12 := hd (show ¬ ((⟨fk, fl, fv⟩ : Fld) ∈ XA ∧ (⟨fk, fl, fv⟩ : Fld) ∈ XB) from fun h => of_decide_eq_false HV2.o h.2)
                    go_wp2_with fail
                    refine (K3.o _ HC4.o).mono ?_
                    rintro e wm ⟨rfl, hb⟩
                    have HC5 := hd (chg_tB HC4.o hb)
                    have HO5 := hd (HO4.o.below hb)
                    have hg5 := Nat.lt_of_lt_of_le hg4 hb.size
                    have c0' := (hb.cell (p := ⟨g, o + j * 3, none⟩) hg4).trans c0
                    have c1' := (hb.cell (p := ⟨g, o + j * 3 + 1, none⟩) hg4).trans c1
                    have c2' := (hb.cell (p := ⟨g, o + j * 3 + 2, none⟩) hg4).trans c2
                    clear hb c0 c1 c2
                    have c0 := c0'
                    have c1 := c1'
                    have c2 := c2'
                    clear c0' c1' c2'
                    cases v3 with
                    | true =>
                      have HK1 := hd (HKT.o.trans (by rw [if_neg (fun h => h.2.elim HN12.o (fun h => h (of_decide_eq_true HV3.o))), List.append_nil]))
                      go_wp2
                      go_roundw
                      case rel => exact ⟨j + 1, D2, q2, dd, by go_num, by omega, rfl, by omega, hd (by rw [HK1.o]; exact HQ2.o), hd (by rw [HK1.o]; exact HO5.o), HC5⟩
                      case measure => simp [intOf]; omega
                    | false =>
                      have HCOND := hd (show fk = (k : Int) ∧ (((⟨fk, fl, fv⟩ : Fld) ∈ XA ∧ (⟨fk, fl, fv⟩ : Fld) ∈ XB) ∨ (⟨fk, fl, fv⟩ : Fld) ∉ XO) from ⟨HFK.o, .inr (of_decide_eq_false HV3.o)⟩)
                      have HK1 := hd (HKT.o.trans (by rw [if_pos HCOND.o]))
                      have hsz := HC5.o.size
                      go_wp2_with (at_builtin; refine wpList_append_row rfl _ _ 22 rfl T 36 i0 (.agg #[.int .i64 0, .int .i64 0, .string ⟨#[]⟩]) 3 32 Tryz.underlying22 hi hz0 hz1 hz2 rfl D2 q2 dd (fsE (OL ++ bothT XO XA XB k j)) rfl (HO5.o.alloc _) ⟨_, 0, none⟩ 1 1 [.int .i64 fk, .int .i64 fl, .string (bs fv)] rfl rfl (cells_at (Blk.new_ _ _ (by simp) _ _) rfl) (by simp [Value.oneCell']) (by omega) (by unfold maxLen; omega) (by omega) ?_; intro A2 cc2 w9 hown hchg)
                      go_roundw
                      case rel =>
                        refine ⟨j + 1, A2, q2 + 1, cc2, by go_num, by omega, rfl, by omega, hd ?_, hd ?_, hd ?_⟩
                        · rw [HK1.o, ← List.append_assoc, List.length_append, ← HQ2.o]; rfl
                        · rw [HK1.o, ← List.append_assoc, fsE_snoc]; exact hown.mono (HTP.o _ (by simp; omega) (by simp; omega))
                        · exact chg_tt (HC5.o.alloc _) hchg
                      case measure => simp [intOf]; omega
                | false =>
                  have HN12 := hd (show ¬ ((⟨fk, fl, fv⟩ : Fld) ∈ XA ∧ (⟨fk, fl, fv⟩ : Fld) ∈ XB) from fun h => of_decide_eq_false HV1.o h.1)
                  go_wp2_with fail
                  refine (K3.o _ HC3.o).mono ?_
                  rintro e wm ⟨rfl, hb⟩
                  have HC5 := hd (chg_tB HC3.o hb)
                  have HO5 := hd (HO3.o.below hb)
                  have hg5 := Nat.lt_of_lt_of_le hg3 hb.size
                  have c0' := (hb.cell (p := ⟨g, o + j * 3, none⟩) hg3).trans c0
                  have c1' := (hb.cell (p := ⟨g, o + j * 3 + 1, none⟩) hg3).trans c1
                  have c2' := (hb.cell (p := ⟨g, o + j * 3 + 2, none⟩) hg3).trans c2
                  clear hb c0 c1 c2
                  have c0 := c0'
                  have c1 := c1'
                  have c2 := c2'
                  clear c0' c1' c2'
                  cases v3 with
                  | true =>
                    have HK1 := hd (HKT.o.trans (by rw [if_neg (fun h => h.2.elim HN12.o (fun h => h (of_decide_eq_true HV3.o))), List.append_nil]))
                    go_wp2
                    go_roundw
                    case rel => exact ⟨j + 1, D2, q2, dd, by go_num, by omega, rfl, by omega, hd (by rw [HK1.o]; exact HQ2.o), hd (by rw [HK1.o]; exact HO5.o), HC5⟩
                    case measure => simp [intOf]; omega
                  | false =>
                    have HCOND := hd (show fk = (k : Int) ∧ (((⟨fk, fl, fv⟩ : Fld) ∈ XA ∧ (⟨fk, fl, fv⟩ : Fld) ∈ XB) ∨ (⟨fk, fl, fv⟩ : Fld) ∉ XO) from ⟨HFK.o, .inr (of_decide_eq_false HV3.o)⟩)
                    have HK1 := hd (HKT.o.trans (by rw [if_pos HCOND.o]))
                    have hsz := HC5.o.size
                    go_wp2_with (at_builtin; refine wpList_append_row rfl _ _ 22 rfl T 36 i0 (.agg #[.int .i64 0, .int .i64 0, .string ⟨#[]⟩]) 3 32 Tryz.underlying22 hi hz0 hz1 hz2 rfl D2 q2 dd (fsE (OL ++ bothT XO XA XB k j)) rfl (HO5.o.alloc _) ⟨_, 0, none⟩ 1 1 [.int .i64 fk, .int .i64 fl, .string (bs fv)] rfl rfl (cells_at (Blk.new_ _ _ (by simp) _ _) rfl) (by simp [Value.oneCell']) (by omega) (by unfold maxLen; omega) (by omega) ?_; intro A2 cc2 w9 hown hchg)
                    go_roundw
                    case rel =>
                      refine ⟨j + 1, A2, q2 + 1, cc2, by go_num, by omega, rfl, by omega, hd ?_, hd ?_, hd ?_⟩
                      · rw [HK1.o, ← List.append_assoc, List.length_append, ← HQ2.o]; rfl
                      · rw [HK1.o, ← List.append_assoc, fsE_snoc]; exact hown.mono (HTP.o _ (by simp; omega) (by simp; omega))
                      · exact chg_tt (HC5.o.alloc _) hchg
                    case measure => simp [intOf]; omega
              · have HK1 := hd (HKT.o.trans (by rw [if_neg (fun h => hfk h.1), List.append_nil]))
                have hfe : (f.k == (k : Int)) = false := by simpa using hfk
                clear hfk
                obtain ⟨fk, fl, fv⟩ := f
                go_wp2
                go_roundw
                case rel => exact ⟨j + 1, D2, q2, dd, by go_num, by omega, rfl, by omega, hd (by rw [HK1.o]; exact HQ2.o), hd (by rw [HK1.o]; exact HO2.o), HC2⟩
                case measure => simp [intOf]; omega
            · have hlti : decide ((j : Int) < (mb : Int)) = false := by simp; omega
              have hba := bothT_all (o := XO) (x := XA) (y := XB) (k := k) (j := j) (by rw [← MB.o]; omega)
              rw [hba] at HQ2 HO2
              clear hba
              go_wp2
              go_roundw
              case rel =>
                refine ⟨k + 1, D2, q2, dd, by go_num, by omega, by omega, rfl, by omega, ?_, hd ?_, hd ?_, hd ?_⟩
                · rw [show k + 1 - 1 = k from rfl, HS2.o]; first | rfl | simp
                · rw [show k + 1 - 1 = k from rfl, HS1.o]; exact HQ2.o
                · rw [show k + 1 - 1 = k from rfl, HS1.o]; exact HO2.o.mono (fun q h => HTB.o q h)
                · exact HWI.o.trans (HC2.o.below HTB.o hw7)
              case measure => simp [intOf]; omega
        · go_wp2_with (first
            | (at_builtin; refine wpList_append_rowG rfl _ _ 22 rfl (From wi.heap.size) 36 i0 (.agg #[.int .i64 0, .int .i64 0, .string ⟨#[]⟩]) 3 32 Tryz.underlying22 hi hz0 hz1 hz2 rfl _ 0 0 [] rfl (row_empty' (Blk.new wi _ _)) B2 m2 d2 (fsE XA) rfl ((R2.o.below HW.o).alloc _) (ones_f _) (by unfold maxLen; omega) (by omega) ?_; intro AA ca w6 hown hchg; have HA6 := hd (show Row w6 (From wi.heap.size) 36 3 AA m2 ca (fsE XA) by simpa using hown.mono (plus_sub' (Nat.le_refl _) (by simp))); have HC6 := hd ((((Chg.refl (From wi.heap.size) wi).alloc _).trans hchg (fun q hq => .inl hq)).below (fun _ h => h) (Nat.le_refl _)); have R36 := hd ((R3.o.below HW.o).below HC6.o); have hs6 := HC6.o.size; clear hown hchg; simp only [Nat.zero_add])
            | (at_builtin; refine wpList_append_rowG rfl _ _ 22 rfl (From wi.heap.size) 36 i0 (.agg #[.int .i64 0, .int .i64 0, .string ⟨#[]⟩]) 3 32 Tryz.underlying22 hi hz0 hz1 hz2 rfl AA m2 ca (fsE XA) rfl HA6.o B3 m3 d3 (fsE XB) rfl R36.o (ones_f _) (by unfold maxLen; omega) (by omega) ?_; intro AB cb w7 hown hchg; have HB7 := hd (show Row w7 (From wi.heap.size) 36 3 AB (m2 + m3) cb (fsE (XA ++ XB)) by rw [fsE_app]; exact hown.mono (plus_sub' (Nat.le_refl _) hs6)); have HC7 := hd (HC6.o.trans (hchg.below (fun _ h => h) hs6)); clear hown hchg HA6 R36))
          have hs7 := HC7.o.size
          obtain ⟨OL, hOL⟩ : ∃ OL, mrgR XO XA XB (k - 1) = OL := ⟨_, rfl⟩
          obtain ⟨tn, htn⟩ : ∃ tn, mrgN XO XA XB (k - 1) = tn := ⟨_, rfl⟩
          rw [hOL] at HQ HO HS1
          rw [htn] at HS2 ⊢
          clear hOL htn
          obtain ⟨T, hT⟩ : ∃ T, T = Tt w5.heap.size wi.heap.size w7.heap.size := ⟨_, rfl⟩
          have HTP := hd (show ∀ x, w5.heap.size ≤ x → w7.heap.size ≤ x → ∀ q, Plus T x q → T q from fun x h1 h2 => by rw [hT]; exact tt_plus h1 h2)
          have HTB := hd (show ∀ q, T q → w5.heap.size ≤ q from fun q h => by rw [hT] at h; exact h.1)
          have HRB := hd (fun W (h : Chg T w7 W) => rds_tt HB7.o (by rw [← hT]; exact h))
          have HO7 := hd (show Row w7 T 36 3 D q d (fsE OL) by rw [hT]; exact (row_tt HO.o (Nat.le_refl _)).below HC7.o)
          have HWI := hd (HW.o.trans (HC7.o.mono HWs.o))
          have hw7 : w5.heap.size ≤ w7.heap.size := HWI.o.size
          have MB := hd (show m2 + m3 = (XA ++ XB).length by rw [List.length_append, ← M2.o, ← M3.o])
          have HAX := hd (fun W (h : Chg T w7 W) => R2.o.below (HWI.o.trans (h.below HTB.o hw7)))
          have HBX := hd (fun W (h : Chg T w7 W) => R3.o.below (HWI.o.trans (h.below HTB.o hw7)))
          have HOX := hd (fun W (h : Chg T w7 W) => R1.o.below (HWI.o.trans (h.below HTB.o hw7)))
          obtain ⟨mb, hmb⟩ : ∃ mb, m2 + m3 = mb := ⟨_, rfl⟩
          have bb : mb ≤ 24 := by omega
          rw [hmb] at MB HRB ⊢
          clear hmb HO HC6 HC7 hs6 hs7 hT HB7 HW
          go_wp2_with fail
          go_loopw [19, 15] (fun i out wr => ∃ (j : Nat) (D2 : Option Addr) (q2 d2 : Nat), i = .int .i64 j ∧ j ≤ mb ∧ out = .slice D2 q2 d2 ∧ q2 ≤ q + j ∧ Hd (q2 = (OL ++ bothT XO XA XB k j).length) ∧ Hd (Row wr T 36 3 D2 q2 d2 (fsE (OL ++ bothT XO XA XB k j))) ∧ Hd (Chg T w7 wr)) (fun i _ _ => mb - (intOf i).toNat)
          case atStart => exact ⟨0, D, q, d, rfl, Nat.zero_le _, rfl, Nat.le_refl _, hd (by rw [bothT_0, List.append_nil]; exact HQ.o), hd (by rw [bothT_0, List.append_nil]; exact HO7.o), hd (Chg.refl _ _)⟩
          case round =>
            obtain ⟨j, D2, q2, dd, rfl, hj, rfl, hq2, HQ2, HO2, HC2⟩ := hrel
            obtain ⟨wj, rfl⟩ : ∃ wj : World, wj = wr := ⟨_, rfl⟩
            by_cases hlt : j < mb
            · have hlti : decide ((j : Int) < (mb : Int)) = true := by simp; omega
              have hjl : j < (XA ++ XB).length := by rw [← MB.o]; exact hlt
              have HKT := hd (bothT_next (o := XO) (x := XA) (y := XB) (k := k) hjl)
              obtain ⟨f, hf⟩ : ∃ f, (XA ++ XB)[j]'hjl = f := ⟨_, rfl⟩
              rw [hf] at HKT
              obtain ⟨g, o, rfl, hg, hc⟩ := (HRB.o wj HC2.o).at_ (by omega)
              have hcf : ∀ t u, t < 3 → (fEnc f)[t]? = some u → wj.cell? ⟨g, o + j * 3 + t, none⟩ = some u := fun t u ht hv => by
                rw [Nat.add_assoc]
                exact hc _ _ ((fsE_at (XA ++ XB) j hjl t ht).trans (by rw [hf]; exact hv))
              have c0 := hcf 0 _ (by omega) rfl
              have c1 := hcf 1 _ (by omega) rfl
              have c2 := hcf 2 _ (by omega) rfl
              rw [Nat.add_zero] at c0
              clear hcf hc hf
              by_cases hfk : f.k = (k : Int)
              · have K1 := fun W (h : Chg T w7 W) => has_calls W B2 m2 d2 XA f M2.o (HAX.o W h) (by omega)
                have K2 := fun W (h : Chg T w7 W) => has_calls W B3 m3 d3 XB f M3.o (HBX.o W h) (by omega)
                have K3 := fun W (h : Chg T w7 W) => has_calls W B1 m1 d1 XO f M1.o (HOX.o W h) (by omega)
                obtain ⟨v1, hv1⟩ : ∃ v, decide (f ∈ XA) = v := ⟨_, rfl⟩
                obtain ⟨v2, hv2⟩ : ∃ v, decide (f ∈ XB) = v := ⟨_, rfl⟩
                obtain ⟨v3, hv3⟩ : ∃ v, decide (f ∈ XO) = v := ⟨_, rfl⟩
                rw [hv1] at K1
                rw [hv2] at K2
                rw [hv3] at K3
                have HV1 := hd hv1
                have HV2 := hd hv2
                have HV3 := hd hv3
                have HFK := hd hfk
                have hfe : (f.k == (k : Int)) = true := by simpa using hfk
                obtain ⟨fk, fl, fv⟩ := f
                simp only [fldV] at K1 K2 K3
                replace K1 := hd K1
                replace K2 := hd K2
                replace K3 := hd K3
                clear hv1 hv2 hv3 hfk
                go_wp2_with fail
                refine (K1.o _ HC2.o).mono ?_
                rintro e wk ⟨rfl, hb⟩
                have HC3 := hd (chg_tB HC2.o hb)
                have HO3 := hd (HO2.o.below hb)
                have hg3 := Nat.lt_of_lt_of_le hg hb.size
                have c0' := (hb.cell (p := ⟨g, o + j * 3, none⟩) hg).trans c0
                have c1' := (hb.cell (p := ⟨g, o + j * 3 + 1, none⟩) hg).trans c1
                have c2' := (hb.cell (p := ⟨g, o + j * 3 + 2, none⟩) hg).trans c2
                clear hb c0 c1 c2
                have c0 := c0'
                have c1 := c1'
                have c2 := c2'
                clear c0' c1' c2'
                cases v1 with
                | true =>
                  go_wp2_with fail
                  refine (K2.o _ HC3.o).mono ?_
                  rintro e wl ⟨rfl, hb⟩
                  have HC4 := hd (chg_tB HC3.o hb)
                  have HO4 := hd (HO3.o.below hb)
                  have hg4 := Nat.lt_of_lt_of_le hg3 hb.size
                  have c0' := (hb.cell (p := ⟨g, o + j * 3, none⟩) hg3).trans c0
                  have c1' := (hb.cell (p := ⟨g, o + j * 3 + 1, none⟩) hg3).trans c1
                  have c2' := (hb.cell (p := ⟨g, o + j * 3 + 2, none⟩) hg3).trans c2
                  clear hb c0 c1 c2
                  have c0 := c0'
                  have c1 := c1'
                  have c2 := c2'
                  clear c0' c1' c2'
                  cases v2 with
                  | true =>
                    have HCOND := hd (show fk = (k : Int) ∧ (((⟨fk, fl, fv⟩ : Fld) ∈ XA ∧ (⟨fk, fl, fv⟩ : Fld) ∈ XB) ∨ (⟨fk, fl, fv⟩ : Fld) ∉ XO) from ⟨HFK.o, .inl ⟨of_decide_eq_true HV1.o, of_decide_eq_true HV2.o⟩⟩)
                    have HK1 := hd (HKT.o.trans (by rw [if_pos HCOND.o]))
                    have hsz := HC4.o.size
                    go_wp2_with (at_builtin; refine wpList_append_row rfl _ _ 22 rfl T 36 i0 (.agg #[.int .i64 0, .int .i64 0, .string ⟨#[]⟩]) 3 32 Tryz.underlying22 hi hz0 hz1 hz2 rfl D2 q2 dd (fsE (OL ++ bothT XO XA XB k j)) rfl (HO4.o.alloc _) ⟨_, 0, none⟩ 1 1 [.int .i64 fk, .int .i64 fl, .string (bs fv)] rfl rfl (cells_at (Blk.new_ _ _ (by simp) _ _) rfl) (by simp [Value.oneCell']) (by omega) (by unfold maxLen; omega) (by omega) ?_; intro A2 cc2 w9 hown hchg)
                    go_roundw
                    case rel =>
                      refine ⟨j + 1, A2, q2 + 1, cc2, by go_num, by omega, rfl, by omega, hd ?_, hd ?_, hd ?_⟩
                      · rw [HK1.o, ← List.append_assoc, List.length_append, ← HQ2.o]; rfl
                      · rw [HK1.o, ← List.append_assoc, fsE_snoc]; exact hown.mono (HTP.o _ (by simp; omega) (by simp; omega))
                      · exact chg_tt (HC4.o.alloc _) hchg
                    case measure => simp [intOf]; omega
                  | false =>
                    have HN12 := hd (show ¬ ((⟨fk, fl, fv⟩ : Fld) ∈ XA ∧ (⟨fk, fl, fv⟩ : Fld) ∈ XB) from fun h => of_decide_eq_false HV2.o h.2)
                    go_wp2_with fail
                    refine (K3.o _ HC4.o).mono ?_
                    rintro e wm ⟨rfl, hb⟩
                    have HC5 := hd (chg_tB HC4.o hb)
                    have HO5 := hd (HO4.o.below hb)
                    have hg5 := Nat.lt_of_lt_of_le hg4 hb.size
                    have c0' := (hb.cell (p := ⟨g, o + j * 3, none⟩) hg4).trans c0
                    have c1' := (hb.cell (p := ⟨g, o + j * 3 + 1, none⟩) hg4).trans c1
                    have c2' := (hb.cell (p := ⟨g, o + j * 3 + 2, none⟩) hg4).trans c2
                    clear hb c0 c1 c2
                    have c0 := c0'
                    have c1 := c1'
                    have c2 := c2'
                    clear c0' c1' c2'
                    cases v3 with
                    | true =>
                      have HK1 := hd (HKT.o.trans (by rw [if_neg (fun h => h.2.elim HN12.o (fun h => h (of_decide_eq_true HV3.o))), List.append_nil]))
                      go_wp2
                      go_roundw
                      case rel => exact ⟨j + 1, D2, q2, dd, by go_num, by omega, rfl, by omega, hd (by rw [HK1.o]; exact HQ2.o), hd (by rw [HK1.o]; exact HO5.o), HC5⟩
                      case measure => simp [intOf]; omega
                    | false =>
                      have HCOND := hd (show fk = (k : Int) ∧ (((⟨fk, fl, fv⟩ : Fld) ∈ XA ∧ (⟨fk, fl, fv⟩ : Fld) ∈ XB) ∨ (⟨fk, fl, fv⟩ : Fld) ∉ XO) from ⟨HFK.o, .inr (of_decide_eq_false HV3.o)⟩)
                      have HK1 := hd (HKT.o.trans (by rw [if_pos HCOND.o]))
                      have hsz := HC5.o.size
                      go_wp2_with (at_builtin; refine wpList_append_row rfl _ _ 22 rfl T 36 i0 (.agg #[.int .i64 0, .int .i64 0, .string ⟨#[]⟩]) 3 32 Tryz.underlying22 hi hz0 hz1 hz2 rfl D2 q2 dd (fsE (OL ++ bothT XO XA XB k j)) rfl (HO5.o.alloc _) ⟨_, 0, none⟩ 1 1 [.int .i64 fk, .int .i64 fl, .string (bs fv)] rfl rfl (cells_at (Blk.new_ _ _ (by simp) _ _) rfl) (by simp [Value.oneCell']) (by omega) (by unfold maxLen; omega) (by omega) ?_; intro A2 cc2 w9 hown hchg)
                      go_roundw
                      case rel =>
                        refine ⟨j + 1, A2, q2 + 1, cc2, by go_num, by omega, rfl, by omega, hd ?_, hd ?_, hd ?_⟩
                        · rw [HK1.o, ← List.append_assoc, List.length_append, ← HQ2.o]; rfl
                        · rw [HK1.o, ← List.append_assoc, fsE_snoc]; exact hown.mono (HTP.o _ (by simp; omega) (by simp; omega))
                        · exact chg_tt (HC5.o.alloc _) hchg
                      case measure => simp [intOf]; omega
                | false =>
                  have HN12 := hd (show ¬ ((⟨fk, fl, fv⟩ : Fld) ∈ XA ∧ (⟨fk, fl, fv⟩ : Fld) ∈ XB) from fun h => of_decide_eq_false HV1.o h.1)
                  go_wp2_with fail
                  refine (K3.o _ HC3.o).mono ?_
                  rintro e wm ⟨rfl, hb⟩
                  have HC5 := hd (chg_tB HC3.o hb)
                  have HO5 := hd (HO3.o.below hb)
                  have hg5 := Nat.lt_of_lt_of_le hg3 hb.size
                  have c0' := (hb.cell (p := ⟨g, o + j * 3, none⟩) hg3).trans c0
                  have c1' := (hb.cell (p := ⟨g, o + j * 3 + 1, none⟩) hg3).trans c1
                  have c2' := (hb.cell (p := ⟨g, o + j * 3 + 2, none⟩) hg3).trans c2
                  clear hb c0 c1 c2
                  have c0 := c0'
                  have c1 := c1'
                  have c2 := c2'
                  clear c0' c1' c2'
                  cases v3 with
                  | true =>
                    have HK1 := hd (HKT.o.trans (by rw [if_neg (fun h => h.2.elim HN12.o (fun h => h (of_decide_eq_true HV3.o))), List.append_nil]))
                    go_wp2
                    go_roundw
                    case rel => exact ⟨j + 1, D2, q2, dd, by go_num, by omega, rfl, by omega, hd (by rw [HK1.o]; exact HQ2.o), hd (by rw [HK1.o]; exact HO5.o), HC5⟩
                    case measure => simp [intOf]; omega
                  | false =>
                    have HCOND := hd (show fk = (k : Int) ∧ (((⟨fk, fl, fv⟩ : Fld) ∈ XA ∧ (⟨fk, fl, fv⟩ : Fld) ∈ XB) ∨ (⟨fk, fl, fv⟩ : Fld) ∉ XO) from ⟨HFK.o, .inr (of_decide_eq_false HV3.o)⟩)
                    have HK1 := hd (HKT.o.trans (by rw [if_pos HCOND.o]))
                    have hsz := HC5.o.size
                    go_wp2_with (at_builtin; refine wpList_append_row rfl _ _ 22 rfl T 36 i0 (.agg #[.int .i64 0, .int .i64 0, .string ⟨#[]⟩]) 3 32 Tryz.underlying22 hi hz0 hz1 hz2 rfl D2 q2 dd (fsE (OL ++ bothT XO XA XB k j)) rfl (HO5.o.alloc _) ⟨_, 0, none⟩ 1 1 [.int .i64 fk, .int .i64 fl, .string (bs fv)] rfl rfl (cells_at (Blk.new_ _ _ (by simp) _ _) rfl) (by simp [Value.oneCell']) (by omega) (by unfold maxLen; omega) (by omega) ?_; intro A2 cc2 w9 hown hchg)
                    go_roundw
                    case rel =>
                      refine ⟨j + 1, A2, q2 + 1, cc2, by go_num, by omega, rfl, by omega, hd ?_, hd ?_, hd ?_⟩
                      · rw [HK1.o, ← List.append_assoc, List.length_append, ← HQ2.o]; rfl
                      · rw [HK1.o, ← List.append_assoc, fsE_snoc]; exact hown.mono (HTP.o _ (by simp; omega) (by simp; omega))
                      · exact chg_tt (HC5.o.alloc _) hchg
                    case measure => simp [intOf]; omega
              · have HK1 := hd (HKT.o.trans (by rw [if_neg (fun h => hfk h.1), List.append_nil]))
                have hfe : (f.k == (k : Int)) = false := by simpa using hfk
                clear hfk
                obtain ⟨fk, fl, fv⟩ := f
                go_wp2
                go_roundw
                case rel => exact ⟨j + 1, D2, q2, dd, by go_num, by omega, rfl, by omega, hd (by rw [HK1.o]; exact HQ2.o), hd (by rw [HK1.o]; exact HO2.o), HC2⟩
                case measure => simp [intOf]; omega
            · have hlti : decide ((j : Int) < (mb : Int)) = false := by simp; omega
              have hba := bothT_all (o := XO) (x := XA) (y := XB) (k := k) (j := j) (by rw [← MB.o]; omega)
              rw [hba] at HQ2 HO2
              clear hba
              go_wp2
              go_roundw
              case rel =>
                refine ⟨k + 1, D2, q2, dd, by go_num, by omega, by omega, rfl, by omega, ?_, hd ?_, hd ?_, hd ?_⟩
                · rw [show k + 1 - 1 = k from rfl, HS2.o]; first | rfl | simp
                · rw [show k + 1 - 1 = k from rfl, HS1.o]; exact HQ2.o
                · rw [show k + 1 - 1 = k from rfl, HS1.o]; exact HO2.o.mono (fun q h => HTB.o q h)
                · exact HWI.o.trans (HC2.o.below HTB.o hw7)
              case measure => simp [intOf]; omega
        · go_wp2_with (first
            | (at_builtin; refine wpList_append_rowG rfl _ _ 22 rfl (From wi.heap.size) 36 i0 (.agg #[.int .i64 0, .int .i64 0, .string ⟨#[]⟩]) 3 32 Tryz.underlying22 hi hz0 hz1 hz2 rfl _ 0 0 [] rfl (row_empty' (Blk.new wi _ _)) B2 m2 d2 (fsE XA) rfl ((R2.o.below HW.o).alloc _) (ones_f _) (by unfold maxLen; omega) (by omega) ?_; intro AA ca w6 hown hchg; have HA6 := hd (show Row w6 (From wi.heap.size) 36 3 AA m2 ca (fsE XA) by simpa using hown.mono (plus_sub' (Nat.le_refl _) (by simp))); have HC6 := hd ((((Chg.refl (From wi.heap.size) wi).alloc _).trans hchg (fun q hq => .inl hq)).below (fun _ h => h) (Nat.le_refl _)); have R36 := hd ((R3.o.below HW.o).below HC6.o); have hs6 := HC6.o.size; clear hown hchg; simp only [Nat.zero_add])
            | (at_builtin; refine wpList_append_rowG rfl _ _ 22 rfl (From wi.heap.size) 36 i0 (.agg #[.int .i64 0, .int .i64 0, .string ⟨#[]⟩]) 3 32 Tryz.underlying22 hi hz0 hz1 hz2 rfl AA m2 ca (fsE XA) rfl HA6.o B3 m3 d3 (fsE XB) rfl R36.o (ones_f _) (by unfold maxLen; omega) (by omega) ?_; intro AB cb w7 hown hchg; have HB7 := hd (show Row w7 (From wi.heap.size) 36 3 AB (m2 + m3) cb (fsE (XA ++ XB)) by rw [fsE_app]; exact hown.mono (plus_sub' (Nat.le_refl _) hs6)); have HC7 := hd (HC6.o.trans (hchg.below (fun _ h => h) hs6)); clear hown hchg HA6 R36))
          have hs7 := HC7.o.size
          obtain ⟨OL, hOL⟩ : ∃ OL, mrgR XO XA XB (k - 1) = OL := ⟨_, rfl⟩
          obtain ⟨tn, htn⟩ : ∃ tn, mrgN XO XA XB (k - 1) = tn := ⟨_, rfl⟩
          rw [hOL] at HQ HO HS1
          rw [htn] at HS2 ⊢
          clear hOL htn
          obtain ⟨T, hT⟩ : ∃ T, T = Tt w5.heap.size wi.heap.size w7.heap.size := ⟨_, rfl⟩
          have HTP := hd (show ∀ x, w5.heap.size ≤ x → w7.heap.size ≤ x → ∀ q, Plus T x q → T q from fun x h1 h2 => by rw [hT]; exact tt_plus h1 h2)
          have HTB := hd (show ∀ q, T q → w5.heap.size ≤ q from fun q h => by rw [hT] at h; exact h.1)
          have HRB := hd (fun W (h : Chg T w7 W) => rds_tt HB7.o (by rw [← hT]; exact h))
          have HO7 := hd (show Row w7 T 36 3 D q d (fsE OL) by rw [hT]; exact (row_tt HO.o (Nat.le_refl _)).below HC7.o)
          have HWI := hd (HW.o.trans (HC7.o.mono HWs.o))
          have hw7 : w5.heap.size ≤ w7.heap.size := HWI.o.size
          have MB := hd (show m2 + m3 = (XA ++ XB).length by rw [List.length_append, ← M2.o, ← M3.o])
          have HAX := hd (fun W (h : Chg T w7 W) => R2.o.below (HWI.o.trans (h.below HTB.o hw7)))
          have HBX := hd (fun W (h : Chg T w7 W) => R3.o.below (HWI.o.trans (h.below HTB.o hw7)))
          have HOX := hd (fun W (h : Chg T w7 W) => R1.o.below (HWI.o.trans (h.below HTB.o hw7)))
          obtain ⟨mb, hmb⟩ : ∃ mb, m2 + m3 = mb := ⟨_, rfl⟩
          have bb : mb ≤ 24 := by omega
          rw [hmb] at MB HRB ⊢
          clear hmb HO HC6 HC7 hs6 hs7 hT HB7 HW
          go_wp2_with fail
          go_loopw [19, 15] (fun i out wr => ∃ (j : Nat) (D2 : Option Addr) (q2 d2 : Nat), i = .int .i64 j ∧ j ≤ mb ∧ out = .slice D2 q2 d2 ∧ q2 ≤ q + j ∧ Hd (q2 = (OL ++ bothT XO XA XB k j).length) ∧ Hd (Row wr T 36 3 D2 q2 d2 (fsE (OL ++ bothT XO XA XB k j))) ∧ Hd (Chg T w7 wr)) (fun i _ _ => mb - (intOf i).toNat)
          case atStart => exact ⟨0, D, q, d, rfl, Nat.zero_le _, rfl, Nat.le_refl _, hd (by rw [bothT_0, List.append_nil]; exact HQ.o), hd (by rw [bothT_0, List.append_nil]; exact HO7.o), hd (Chg.refl _ _)⟩
          case round =>
            obtain ⟨j, D2, q2, dd, rfl, hj, rfl, hq2, HQ2, HO2, HC2⟩ := hrel
            obtain ⟨wj, rfl⟩ : ∃ wj : World, wj = wr := ⟨_, rfl⟩
            by_cases hlt : j < mb
            · have hlti : decide ((j : Int) < (mb : Int)) = true := by simp; omega
              have hjl : j < (XA ++ XB).length := by rw [← MB.o]; exact hlt
              have HKT := hd (bothT_next (o := XO) (x := XA) (y := XB) (k := k) hjl)
              obtain ⟨f, hf⟩ : ∃ f, (XA ++ XB)[j]'hjl = f := ⟨_, rfl⟩
              rw [hf] at HKT
              obtain ⟨g, o, rfl, hg, hc⟩ := (HRB.o wj HC2.o).at_ (by omega)
              have hcf : ∀ t u, t < 3 → (fEnc f)[t]? = some u → wj.cell? ⟨g, o + j * 3 + t, none⟩ = some u := fun t u ht hv => by
                rw [Nat.add_assoc]
                exact hc _ _ ((fsE_at (XA ++ XB) j hjl t ht).trans (by rw [hf]; exact hv))
              have c0 := hcf 0 _ (by omega) rfl
              have c1 := hcf 1 _ (by omega) rfl
              have c2 := hcf 2 _ (by omega) rfl
              rw [Nat.add_zero] at c0
              clear hcf hc hf
              by_cases hfk : f.k = (k : Int)
              · have K1 := fun W (h : Chg T w7 W) => has_calls W B2 m2 d2 XA f M2.o (HAX.o W h) (by omega)
                have K2 := fun W (h : Chg T w7 W) => has_calls W B3 m3 d3 XB f M3.o (HBX.o W h) (by omega)
                have K3 := fun W (h : Chg T w7 W) => has_calls W B1 m1 d1 XO f M1.o (HOX.o W h) (by omega)
                obtain ⟨v1, hv1⟩ : ∃ v, decide (f ∈ XA) = v := ⟨_, rfl⟩
                obtain ⟨v2, hv2⟩ : ∃ v, decide (f ∈ XB) = v := ⟨_, rfl⟩
                obtain ⟨v3, hv3⟩ : ∃ v, decide (f ∈ XO) = v := ⟨_, rfl⟩
                rw [hv1] at K1
                rw [hv2] at K2
                rw [hv3] at K3
                have HV1 := hd hv1
                have HV2 := hd hv2
                have HV3 := hd hv3
                have HFK := hd hfk
                have hfe : (f.k == (k : Int)) = true := by simpa using hfk
                obtain ⟨fk, fl, fv⟩ := f
                simp only [fldV] at K1 K2 K3
                replace K1 := hd K1
                replace K2 := hd K2
                replace K3 := hd K3
                clear hv1 hv2 hv3 hfk
                go_wp2_with fail
                refine (K1.o _ HC2.o).mono ?_
                rintro e wk ⟨rfl, hb⟩
                have HC3 := hd (chg_tB HC2.o hb)
                have HO3 := hd (HO2.o.below hb)
                have hg3 := Nat.lt_of_lt_of_le hg hb.size
                have c0' := (hb.cell (p := ⟨g, o + j * 3, none⟩) hg).trans c0
                have c1' := (hb.cell (p := ⟨g, o + j * 3 + 1, none⟩) hg).trans c1
                have c2' := (hb.cell (p := ⟨g, o + j * 3 + 2, none⟩) hg).trans c2
                clear hb c0 c1 c2
                have c0 := c0'
                have c1 := c1'
                have c2 := c2'
                clear c0' c1' c2'
                cases v1 with
                | true =>
                  go_wp2_with fail
                  refine (K2.o _ HC3.o).mono ?_
                  rintro e wl ⟨rfl, hb⟩
                  have HC4 := hd (chg_tB HC3.o hb)
                  have HO4 := hd (HO3.o.below hb)
                  have hg4 := Nat.lt_of_lt_of_le hg3 hb.size
                  have c0' := (hb.cell (p := ⟨g, o + j * 3, none⟩) hg3).trans c0
                  have c1' := (hb.cell (p := ⟨g, o + j * 3 + 1, none⟩) hg3).trans c1
                  have c2' := (hb.cell (p := ⟨g, o + j * 3 + 2, none⟩) hg3).trans c2
                  clear hb c0 c1 c2
                  have c0 := c0'
                  have c1 := c1'
                  have c2 := c2'
                  clear c0' c1' c2'
                  cases v2 with
                  | true =>
                    have HCOND := hd (show fk = (k : Int) ∧ (((⟨fk, fl, fv⟩ : Fld) ∈ XA ∧ (⟨fk, fl, fv⟩ : Fld) ∈ XB) ∨ (⟨fk, fl, fv⟩ : Fld) ∉ XO) from ⟨HFK.o, .inl ⟨of_decide_eq_true HV1.o, of_decide_eq_true HV2.o⟩⟩)
                    have HK1 := hd (HKT.o.trans (by rw [if_pos HCOND.o]))
                    have hsz := HC4.o.size
                    go_wp2_with (at_builtin; refine wpList_append_row rfl _ _ 22 rfl T 36 i0 (.agg #[.int .i64 0, .int .i64 0, .string ⟨#[]⟩]) 3 32 Tryz.underlying22 hi hz0 hz1 hz2 rfl D2 q2 dd (fsE (OL ++ bothT XO XA XB k j)) rfl (HO4.o.alloc _) ⟨_, 0, none⟩ 1 1 [.int .i64 fk, .int .i64 fl, .string (bs fv)] rfl rfl (cells_at (Blk.new_ _ _ (by simp) _ _) rfl) (by simp [Value.oneCell']) (by omega) (by unfold maxLen; omega) (by omega) ?_; intro A2 cc2 w9 hown hchg)
                    go_roundw
                    case rel =>
                      refine ⟨j + 1, A2, q2 + 1, cc2, by go_num, by omega, rfl, by omega, hd ?_, hd ?_, hd ?_⟩
                      · rw [HK1.o, ← List.append_assoc, List.length_append, ← HQ2.o]; rfl
                      · rw [HK1.o, ← List.append_assoc, fsE_snoc]; exact hown.mono (HTP.o _ (by simp; omega) (by simp; omega))
                      · exact chg_tt (HC4.o.alloc _) hchg
                    case measure => simp [intOf]; omega
                  | false =>
                    have HN12 := hd (show ¬ ((⟨fk, fl, fv⟩ : Fld) ∈ XA ∧ (⟨fk, fl, fv⟩ : Fld) ∈ XB) from fun h => of_decide_eq_false HV2.o h.2)
                    go_wp2_with fail
                    refine (K3.o _ HC4.o).mono ?_
                    rintro e wm ⟨rfl, hb⟩
                    have HC5 := hd (chg_tB HC4.o hb)
                    have HO5 := hd (HO4.o.below hb)
                    have hg5 := Nat.lt_of_lt_of_le hg4 hb.size
                    have c0' := (hb.cell (p := ⟨g, o + j * 3, none⟩) hg4).trans c0
                    have c1' := (hb.cell (p := ⟨g, o + j * 3 + 1, none⟩) hg4).trans c1
                    have c2' := (hb.cell (p := ⟨g, o + j * 3 + 2, none⟩) hg4).trans c2
                    clear hb c0 c1 c2
                    have c0 := c0'
                    have c1 := c1'
                    have c2 := c2'
                    clear c0' c1' c2'
                    cases v3 with
                    | true =>
                      have HK1 := hd (HKT.o.trans (by rw [if_neg (fun h => h.2.elim HN12.o (fun h => h (of_decide_eq_true HV3.o))), List.append_nil]))
                      go_wp2
                      go_roundw
                      case rel => exact ⟨j + 1, D2, q2, dd, by go_num, by omega, rfl, by omega, hd (by rw [HK1.o]; exact HQ2.o), hd (by rw [HK1.o]; exact HO5.o), HC5⟩
                      case measure => simp [intOf]; omega
                    | false =>
                      have HCOND := hd (show fk = (k : Int) ∧ (((⟨fk, fl, fv⟩ : Fld) ∈ XA ∧ (⟨fk, fl, fv⟩ : Fld) ∈ XB) ∨ (⟨fk, fl, fv⟩ : Fld) ∉ XO) from ⟨HFK.o, .inr (of_decide_eq_false HV3.o)⟩)
                      have HK1 := hd (HKT.o.trans (by rw [if_pos HCOND.o]))
                      have hsz := HC5.o.size
                      go_wp2_with (at_builtin; refine wpList_append_row rfl _ _ 22 rfl T 36 i0 (.agg #[.int .i64 0, .int .i64 0, .string ⟨#[]⟩]) 3 32 Tryz.underlying22 hi hz0 hz1 hz2 rfl D2 q2 dd (fsE (OL ++ bothT XO XA XB k j)) rfl (HO5.o.alloc _) ⟨_, 0, none⟩ 1 1 [.int .i64 fk, .int .i64 fl, .string (bs fv)] rfl rfl (cells_at (Blk.new_ _ _ (by simp) _ _) rfl) (by simp [Value.oneCell']) (by omega) (by unfold maxLen; omega) (by omega) ?_; intro A2 cc2 w9 hown hchg)
                      go_roundw
                      case rel =>
                        refine ⟨j + 1, A2, q2 + 1, cc2, by go_num, by omega, rfl, by omega, hd ?_, hd ?_, hd ?_⟩
                        · rw [HK1.o, ← List.append_assoc, List.length_append, ← HQ2.o]; rfl
                        · rw [HK1.o, ← List.append_assoc, fsE_snoc]; exact hown.mono (HTP.o _ (by simp; omega) (by simp; omega))
                        · exact chg_tt (HC5.o.alloc _) hchg
                      case measure => simp [intOf]; omega
                | false =>
                  have HN12 := hd (show ¬ ((⟨fk, fl, fv⟩ : Fld) ∈ XA ∧ (⟨fk, fl, fv⟩ : Fld) ∈ XB) from fun h => of_decide_eq_false HV1.o h.1)
                  go_wp2_with fail
                  refine (K3.o _ HC3.o).mono ?_
                  rintro e wm ⟨rfl, hb⟩
                  have HC5 := hd (chg_tB HC3.o hb)
                  have HO5 := hd (HO3.o.below hb)
                  have hg5 := Nat.lt_of_lt_of_le hg3 hb.size
                  have c0' := (hb.cell (p := ⟨g, o + j * 3, none⟩) hg3).trans c0
                  have c1' := (hb.cell (p := ⟨g, o + j * 3 + 1, none⟩) hg3).trans c1
                  have c2' := (hb.cell (p := ⟨g, o + j * 3 + 2, none⟩) hg3).trans c2
                  clear hb c0 c1 c2
                  have c0 := c0'
                  have c1 := c1'
                  have c2 := c2'
                  clear c0' c1' c2'
                  cases v3 with
                  | true =>
                    have HK1 := hd (HKT.o.trans (by rw [if_neg (fun h => h.2.elim HN12.o (fun h => h (of_decide_eq_true HV3.o))), List.append_nil]))
                    go_wp2
                    go_roundw
                    case rel => exact ⟨j + 1, D2, q2, dd, by go_num, by omega, rfl, by omega, hd (by rw [HK1.o]; exact HQ2.o), hd (by rw [HK1.o]; exact HO5.o), HC5⟩
                    case measure => simp [intOf]; omega
                  | false =>
                    have HCOND := hd (show fk = (k : Int) ∧ (((⟨fk, fl, fv⟩ : Fld) ∈ XA ∧ (⟨fk, fl, fv⟩ : Fld) ∈ XB) ∨ (⟨fk, fl, fv⟩ : Fld) ∉ XO) from ⟨HFK.o, .inr (of_decide_eq_false HV3.o)⟩)
                    have HK1 := hd (HKT.o.trans (by rw [if_pos HCOND.o]))
                    have hsz := HC5.o.size
                    go_wp2_with (at_builtin; refine wpList_append_row rfl _ _ 22 rfl T 36 i0 (.agg #[.int .i64 0, .int .i64 0, .string ⟨#[]⟩]) 3 32 Tryz.underlying22 hi hz0 hz1 hz2 rfl D2 q2 dd (fsE (OL ++ bothT XO XA XB k j)) rfl (HO5.o.alloc _) ⟨_, 0, none⟩ 1 1 [.int .i64 fk, .int .i64 fl, .string (bs fv)] rfl rfl (cells_at (Blk.new_ _ _ (by simp) _ _) rfl) (by simp [Value.oneCell']) (by omega) (by unfold maxLen; omega) (by omega) ?_; intro A2 cc2 w9 hown hchg)
                    go_roundw
                    case rel =>
                      refine ⟨j + 1, A2, q2 + 1, cc2, by go_num, by omega, rfl, by omega, hd ?_, hd ?_, hd ?_⟩
                      · rw [HK1.o, ← List.append_assoc, List.length_append, ← HQ2.o]; rfl
                      · rw [HK1.o, ← List.append_assoc, fsE_snoc]; exact hown.mono (HTP.o _ (by simp; omega) (by simp; omega))
                      · exact chg_tt (HC5.o.alloc _) hchg
                    case measure => simp [intOf]; omega
              · have HK1 := hd (HKT.o.trans (by rw [if_neg (fun h => hfk h.1), List.append_nil]))
                have hfe : (f.k == (k : Int)) = false := by simpa using hfk
                clear hfk
                obtain ⟨fk, fl, fv⟩ := f
                go_wp2
                go_roundw
                case rel => exact ⟨j + 1, D2, q2, dd, by go_num, by omega, rfl, by omega, hd (by rw [HK1.o]; exact HQ2.o), hd (by rw [HK1.o]; exact HO2.o), HC2⟩
                case measure => simp [intOf]; omega
            · have hlti : decide ((j : Int) < (mb : Int)) = false := by simp; omega
              have hba := bothT_all (o := XO) (x := XA) (y := XB) (k := k) (j := j) (by rw [← MB.o]; omega)
              rw [hba] at HQ2 HO2
              clear hba
              go_wp2
              go_roundw
              case rel =>
                refine ⟨k + 1, D2, q2, dd, by go_num, by omega, by omega, rfl, by omega, ?_, hd ?_, hd ?_, hd ?_⟩
                · rw [show k + 1 - 1 = k from rfl, HS2.o]; first | rfl | simp
                · rw [show k + 1 - 1 = k from rfl, HS1.o]; exact HQ2.o
                · rw [show k + 1 - 1 = k from rfl, HS1.o]; exact HO2.o.mono (fun q h => HTB.o q h)
                · exact HWI.o.trans (HC2.o.below HTB.o hw7)
              case measure => simp [intOf]; omega
      · have hn3 : ((k : Int) == 3) = false := by simp; exact fun h => hmany (.inl (by omega))
        have hn4 : ((k : Int) == 4) = false := by simp; exact fun h => hmany (.inr (.inl (by omega)))
        have hn6 : ((k : Int) == 6) = false := by simp; exact fun h => hmany (.inr (.inr (by omega)))
        have O1 := hd (ronly_calls wi B1 m1 d1 XO k M1.o (R1.o.below HW.o) (by omega))
        go_wp2_with fail
        refine O1.o.mono ?_
        rintro e wa ⟨⟨Bp, mp, dp, rfl, hmp, hrp, hba⟩⟩
        clear O1
        rw [(only_take1 KO.o hk1 hle hmany).1] at hmp hrp
        have MP0 := hd hmp
        clear hmp
        have HWa := hd (HW.o.trans (hba.mono HW.o.size))
        have O2 := hd (ronly_calls wa B2 m2 d2 XA k M2.o (R2.o.below HWa.o) (by omega))
        go_wp2_with fail
        refine O2.o.mono ?_
        rintro e wb ⟨⟨Bq, mq, dq, rfl, hmq, hrq, hbb⟩⟩
        clear O2
        rw [(only_take1 KA.o hk1 hle hmany).1] at hmq hrq
        have MQ0 := hd hmq
        clear hmq
        have HWb := hd (HWa.o.trans (hbb.mono HWa.o.size))
        have O3 := hd (ronly_calls wb B3 m3 d3 XB k M3.o (R3.o.below HWb.o) (by omega))
        go_wp2_with fail
        refine O3.o.mono ?_
        rintro e w6 ⟨⟨Br, mr, dr, rfl, hmr, hrr, hbc⟩⟩
        clear O3
        rw [(only_take1 KB.o hk1 hle hmany).1] at hmr hrr
        have MR0 := hd hmr
        clear hmr
        have HW6 := hd (HWb.o.trans (hbc.mono HWb.o.size))
        have hmp := MP0.o
        have hmq := MQ0.o
        have hmr := MR0.o
        clear MP0 MQ0 MR0
        have hsa := hba.size
        have hsb := hbb.size
        have hsc := hbc.size
        have hs5 := HW.o.size
        have h5w6 := HW6.o.size
        have hbp : mp ≤ 12 := by have h1 := only_len XO k; have h2 := L1.o; rw [hmp]; omega
        have hbq : mq ≤ 12 := by have h1 := only_len XA k; have h2 := L2.o; rw [hmq]; omega
        have hbr : mr ≤ 12 := by have h1 := only_len XB k; have h2 := L3.o; rw [hmr]; omega
        obtain ⟨T, hT⟩ : ∃ T, T = Tt w5.heap.size wi.heap.size w6.heap.size := ⟨_, rfl⟩
        have HTP := hd (show ∀ x, w5.heap.size ≤ x → w6.heap.size ≤ x → ∀ q, Plus T x q → T q from fun x h1 h2 => by rw [hT]; exact tt_plus h1 h2)
        have HTB := hd (show ∀ q, T q → w5.heap.size ≤ q from fun q h => by rw [hT] at h; exact h.1)
        have HRP := hd (fun W (h : Chg T w6 W) => rds_tt (((hrp.below hbb).below hbc)) (by rw [← hT]; exact h))
        have HRQ := hd (fun W (h : Chg T w6 W) => rds_tt (a := wi.heap.size) ((hrq.mono (fun q h => Nat.le_trans hsa h)).below hbc) (by rw [← hT]; exact h))
        have HRR := hd (fun W (h : Chg T w6 W) => rds_tt (a := wi.heap.size) (hrr.mono (fun q h => Nat.le_trans hsa (Nat.le_trans hsb h))) (by rw [← hT]; exact h))
        have HO6 := hd (show Row w6 T 36 3 D q d (fsE (mrgR XO XA XB (k - 1))) by
          rw [hT]; exact (((row_tt HO.o (Nat.le_refl _)).below hba).below hbb).below hbc)
        obtain ⟨OL, hOL⟩ : ∃ OL, mrgR XO XA XB (k - 1) = OL := ⟨_, rfl⟩
        obtain ⟨tn, htn⟩ : ∃ tn, mrgN XO XA XB (k - 1) = tn := ⟨_, rfl⟩
        rw [hOL] at HQ HO6 HST
        rw [htn] at HST ⊢
        obtain ⟨PL, hPL⟩ : ∃ l, onlyL XO k = l := ⟨_, rfl⟩
        obtain ⟨QL, hQL⟩ : ∃ l, onlyL XA k = l := ⟨_, rfl⟩
        obtain ⟨RL, hRL⟩ : ∃ l, onlyL XB k = l := ⟨_, rfl⟩
        have HPM := hd (show pickR XO XA XB k = if QL = PL then RL else QL by rw [← hPL, ← hQL, ← hRL]; unfold pickR; rw [if_neg hmany])
        have HTK := hd (show tornK XO XA XB k = if Many k ∨ QL = PL ∨ RL = PL ∨ QL = RL then 0 else 1 by rw [← hPL, ← hQL, ← hRL]; rfl)
        rw [hPL] at hmp HRP
        rw [hQL] at hmq HRQ
        rw [hRL] at hmr HRR
        have MP := hd hmp
        have MQ := hd hmq
        have MR := hd hmr
        have l1p : mp ≤ 1 := by rw [hmp, ← hPL]; exact (only_take1 KO.o hk1 hle hmany).2
        have l1q : mq ≤ 1 := by rw [hmq, ← hQL]; exact (only_take1 KA.o hk1 hle hmany).2
        have l1r : mr ≤ 1 := by rw [hmr, ← hRL]; exact (only_take1 KB.o hk1 hle hmany).2
        have HWI := hd (show Below w5.heap.size w5 w6 from HW6.o)
        have HC6 := hd (Chg.refl T w6)
        have ht6 : tn ≤ 6 := by rw [← htn]; have := mrgN_le XO XA XB (k - 1); omega
        clear hmp hmq hmr hrp hrq hrr hba hbb hbc HWa HWb HO hPL hQL hRL hOL htn hT hsa hsb hsc hs5 HW HW6
        have EQ1 := hd (rsame_calls w6 Bq Bp mq dq mp dp QL PL MQ.o MP.o (HRQ.o w6 HC6.o) (HRP.o w6 HC6.o) (by omega) (by omega))
        have EQ2 := hd (fun W (h : Chg T w6 W) => rsame_calls W Br Bp mr dr mp dp RL PL MR.o MP.o (HRR.o W h) (HRP.o W h) (by omega) (by omega))
        have EQ3 := hd (fun W (h : Chg T w6 W) => rsame_calls W Bq Br mq dq mr dr QL RL MQ.o MR.o (HRQ.o W h) (HRR.o W h) (by omega) (by omega))
        by_cases e1 : QL = PL
        · rw [decide_eq_true e1] at EQ1
          have HS1 := hd (HST.o.1.trans (by rw [HPM.o, if_pos e1]))
          have HS2 := hd (HST.o.2.trans (by rw [HTK.o, if_pos (.inr (.inl e1))]))
          clear hmany HTK HST HPM e1 EQ2 EQ3
          go_wp2_with fail
          refine EQ1.o.mono ?_
          rintro e w8 ⟨rfl, hb8⟩
          -- B
          have HC8 := hd (Chg.of_below T hb8)
          have HO8 := hd (HO6.o.below hb8)
          have hs8 := HC8.o.size
          clear hb8
          go_wp2_with (at_builtin; refine wpList_append_rowG rfl _ _ 22 rfl T 36 i0 (.agg #[.int .i64 0, .int .i64 0, .string ⟨#[]⟩]) 3 32 Tryz.underlying22 hi hz0 hz1 hz2 rfl D q d (fsE (OL)) rfl HO8.o Br mr dr (fsE (RL)) rfl (HRR.o w8 HC8.o) (ones_f _) (by unfold maxLen; omega) (by omega) ?_; intro D9 d9 w9 hown hchg; have HO9 := hd (show Row w9 T 36 3 D9 (q + mr) d9 (fsE (OL ++ RL)) by rw [fsE_app]; exact hown.mono (HTP.o _ (by omega) (by omega))); have HC9 := hd (chg_tt HC8.o hchg); clear hown hchg)
          go_roundw
          case rel =>
            refine ⟨k + 1, D9, q + mr, d9, by go_num, by omega, by omega, rfl, by omega, ?_, hd ?_, hd ?_, hd ?_⟩
            · rw [show k + 1 - 1 = k from rfl, HS2.o]; first | rfl | simp
            · rw [show k + 1 - 1 = k from rfl, HS1.o, List.length_append, ← HQ.o, ← MR.o]
            · rw [show k + 1 - 1 = k from rfl, HS1.o]; exact HO9.o.mono (fun q h => HTB.o q h)
            · exact HWI.o.trans (HC9.o.below HTB.o h5w6)
          case measure => simp [intOf]; omega
          -- E
        · rw [decide_eq_false e1] at EQ1
          have HPN := hd (by have h1 := HPM.o; rw [if_neg e1] at h1; exact h1)
          have HS1 := hd (HST.o.1.trans (by rw [HPN.o]))
          by_cases e2 : RL = PL
          · rw [decide_eq_true e2] at EQ2
            have HS2 := hd (HST.o.2.trans (by rw [HTK.o, if_pos (.inr (.inr (.inl e2)))]))
            clear hmany HTK HST HPM HPN e1 e2 EQ3
            go_wp2_with fail
            refine EQ1.o.mono ?_
            rintro e w7 ⟨rfl, hb7⟩
            have HC7 := hd (Chg.of_below T hb7)
            have HO7 := hd (HO6.o.below hb7)
            clear hb7
            go_wp2_with fail
            refine (EQ2.o _ HC7.o).mono ?_
            rintro e w8 ⟨rfl, hb8⟩
            -- B
            have HC8 := hd (chg_tB HC7.o hb8)
            have HO8 := hd (HO7.o.below hb8)
            have hs8 := HC8.o.size
            clear hb8
            go_wp2_with (at_builtin; refine wpList_append_rowG rfl _ _ 22 rfl T 36 i0 (.agg #[.int .i64 0, .int .i64 0, .string ⟨#[]⟩]) 3 32 Tryz.underlying22 hi hz0 hz1 hz2 rfl D q d (fsE (OL)) rfl HO8.o Bq mq dq (fsE (QL)) rfl (HRQ.o w8 HC8.o) (ones_f _) (by unfold maxLen; omega) (by omega) ?_; intro D9 d9 w9 hown hchg; have HO9 := hd (show Row w9 T 36 3 D9 (q + mq) d9 (fsE (OL ++ QL)) by rw [fsE_app]; exact hown.mono (HTP.o _ (by omega) (by omega))); have HC9 := hd (chg_tt HC8.o hchg); clear hown hchg)
            go_roundw
            case rel =>
              refine ⟨k + 1, D9, q + mq, d9, by go_num, by omega, by omega, rfl, by omega, ?_, hd ?_, hd ?_, hd ?_⟩
              · rw [show k + 1 - 1 = k from rfl, HS2.o]; first | rfl | simp
              · rw [show k + 1 - 1 = k from rfl, HS1.o, List.length_append, ← HQ.o, ← MQ.o]
              · rw [show k + 1 - 1 = k from rfl, HS1.o]; exact HO9.o.mono (fun q h => HTB.o q h)
              · exact HWI.o.trans (HC9.o.below HTB.o h5w6)
            case measure => simp [intOf]; omega
            -- E
          · rw [decide_eq_false e2] at EQ2
            by_cases e3 : QL = RL
            · rw [decide_eq_true e3] at EQ3
              have HS2 := hd (HST.o.2.trans (by rw [HTK.o, if_pos (.inr (.inr (.inr e3)))]))
              clear hmany HTK HST HPM HPN e1 e2 e3
              go_wp2_with fail
              refine EQ1.o.mono ?_
              rintro e w7 ⟨rfl, hb7⟩
              have HC7 := hd (Chg.of_below T hb7)
              have HO7 := hd (HO6.o.below hb7)
              clear hb7
              go_wp2_with fail
              refine (EQ2.o _ HC7.o).mono ?_
              rintro e wc ⟨rfl, hbc⟩
              have HCc := hd (chg_tB HC7.o hbc)
              have HOc := hd (HO7.o.below hbc)
              clear hbc HC7 HO7
              go_wp2_with fail
              refine (EQ3.o _ HCc.o).mono ?_
              rintro e w8 ⟨rfl, hb8⟩
              -- B
              have HC8 := hd (chg_tB HCc.o hb8)
              have HO8 := hd (HOc.o.below hb8)
              have hs8 := HC8.o.size
              clear hb8
              go_wp2_with (at_builtin; refine wpList_append_rowG rfl _ _ 22 rfl T 36 i0 (.agg #[.int .i64 0, .int .i64 0, .string ⟨#[]⟩]) 3 32 Tryz.underlying22 hi hz0 hz1 hz2 rfl D q d (fsE (OL)) rfl HO8.o Bq mq dq (fsE (QL)) rfl (HRQ.o w8 HC8.o) (ones_f _) (by unfold maxLen; omega) (by omega) ?_; intro D9 d9 w9 hown hchg; have HO9 := hd (show Row w9 T 36 3 D9 (q + mq) d9 (fsE (OL ++ QL)) by rw [fsE_app]; exact hown.mono (HTP.o _ (by omega) (by omega))); have HC9 := hd (chg_tt HC8.o hchg); clear hown hchg)
              go_roundw
              case rel =>
                refine ⟨k + 1, D9, q + mq, d9, by go_num, by omega, by omega, rfl, by omega, ?_, hd ?_, hd ?_, hd ?_⟩
                · rw [show k + 1 - 1 = k from rfl, HS2.o]; first | rfl | simp
                · rw [show k + 1 - 1 = k from rfl, HS1.o, List.length_append, ← HQ.o, ← MQ.o]
                · rw [show k + 1 - 1 = k from rfl, HS1.o]; exact HO9.o.mono (fun q h => HTB.o q h)
                · exact HWI.o.trans (HC9.o.below HTB.o h5w6)
              case measure => simp [intOf]; omega
              -- E
            · rw [decide_eq_false e3] at EQ3
              have HS2 := hd (HST.o.2.trans (by rw [HTK.o, if_neg (fun h => by rcases h with h | h | h | h; exact hmany h; exact e1 h; exact e2 h; exact e3 h)]))
              clear hmany HTK HST HPM HPN e1 e2 e3
              go_wp2_with fail
              refine EQ1.o.mono ?_
              rintro e w7 ⟨rfl, hb7⟩
              have HC7 := hd (Chg.of_below T hb7)
              have HO7 := hd (HO6.o.below hb7)
              clear hb7
              go_wp2_with fail
              refine (EQ2.o _ HC7.o).mono ?_
              rintro e wc ⟨rfl, hbc⟩
              have HCc := hd (chg_tB HC7.o hbc)
              have HOc := hd (HO7.o.below hbc)
              clear hbc HC7 HO7
              go_wp2_with fail
              refine (EQ3.o _ HCc.o).mono ?_
              rintro e w8 ⟨rfl, hb8⟩
              -- B
              have HC8 := hd (chg_tB HCc.o hb8)
              have HO8 := hd (HOc.o.below hb8)
              have hs8 := HC8.o.size
              clear hb8
              go_wp2_with (at_builtin; refine wpList_append_rowG rfl _ _ 22 rfl T 36 i0 (.agg #[.int .i64 0, .int .i64 0, .string ⟨#[]⟩]) 3 32 Tryz.underlying22 hi hz0 hz1 hz2 rfl D q d (fsE (OL)) rfl HO8.o Bq mq dq (fsE (QL)) rfl (HRQ.o w8 HC8.o) (ones_f _) (by unfold maxLen; omega) (by omega) ?_; intro D9 d9 w9 hown hchg; have HO9 := hd (show Row w9 T 36 3 D9 (q + mq) d9 (fsE (OL ++ QL)) by rw [fsE_app]; exact hown.mono (HTP.o _ (by omega) (by omega))); have HC9 := hd (chg_tt HC8.o hchg); clear hown hchg)
              go_roundw
              case rel =>
                refine ⟨k + 1, D9, q + mq, d9, by go_num, by omega, by omega, rfl, by omega, ?_, hd ?_, hd ?_, hd ?_⟩
                · rw [show k + 1 - 1 = k from rfl, HS2.o]; first | rfl | simp
                · rw [show k + 1 - 1 = k from rfl, HS1.o, List.length_append, ← HQ.o, ← MQ.o]
                · rw [show k + 1 - 1 = k from rfl, HS1.o]; exact HO9.o.mono (fun q h => HTB.o q h)
                · exact HWI.o.trans (HC9.o.below HTB.o h5w6)
              case measure => simp [intOf]; omega
              -- E
    · have hlei : decide ((k : Int) ≤ 6) = false := by simp; omega
    -- B
      obtain rfl : k = 7 := by omega
      have HC := hd (show Below w.heap.size w wi from HB5.o.trans (HW.o.mono HB5.o.size))
      have hsm := cards_same (all_may_mrgR (o := XO) (k := 6) (ok_may KA.o) (ok_may KB.o)) (all_may_mrg (o := XO) (k := 6) (ok_may KA.o) (ok_may KB.o)) (fun f => mem_mrgR)
      have htl : mrgL XO XA XB 6 = thrL SO SA SB := by unfold thrL; rw [HXO.o, HXA.o, HXB.o]
      rw [htl] at hsm
      have C1 := rtext_calls wi D q d (mrgR XO XA XB 6) HQ.o HO.o.rds (by omega) (fun f hf => by
        rcases mrg_mem (mem_mrgR.1 hf) with h | h
        · have := V2.o f h; omega
        · have := V3.o f h; omega)
      rw [hsm.2.1, hsm.2.2] at C1
      clear hsm htl
      have HTY := hd (thr_yes HY.o)
      by_cases hce : cardE (thrL SO SA SB) = 0
      · have HM := hd (thr_m HY.o hce)
        have HN := hd (show thrN SO SA SB = mrgN XO XA XB (7 - 1) by unfold thrN; rw [HXO.o, HXA.o, HXB.o])
        rw [hce] at C1
        have HCE := hd hce
        replace C1 := hd C1
        clear hce
        go_wp2_with fail
        refine C1.o.mono ?_
        rintro e w8 ⟨rfl, hb8⟩
        go_wp2
        go_ret3
        exact ⟨retT3 (by rw [HTY.o.1]) (by rw [HM.o, HN.o]) (by rw [HTY.o.2, HCE.o]), HC.o.trans (hb8.mono HC.o.size)⟩
      · have HM := hd (thr_m0 hce)
        have HTT := hd (cardT_no hce)
        obtain ⟨CE, hCE⟩ : ∃ E, cardE (thrL SO SA SB) = E := ⟨_, rfl⟩
        rw [hCE] at C1 hce
        have HCE := hd hCE
        have hne : (CE != 0) = true := by simpa using hce
        replace C1 := hd C1
        clear hce hCE
        go_wp2_with fail
        refine C1.o.mono ?_
        rintro e w8 ⟨rfl, hb8⟩
        go_wp2
        go_ret3
        exact ⟨retT3 (by rw [HTY.o.1, HTT.o]; rfl) (by rw [HM.o]; rfl) (by rw [HTY.o.2, HCE.o]), HC.o.trans (hb8.mono HC.o.size)⟩
    -- E

end Go.Proofs.YtpejlcaoggedfaaGreatDoor
