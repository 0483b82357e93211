/-
  merge.Three.
-/
import Derived.Test.YtpejlcaoggedfaaGreatDoorGA
set_option linter.unusedVariables false
set_option linter.unusedSimpArgs false
namespace Go.Proofs.YtpejlcaoggedfaaGreatDoor
open Go.RowKit

def thrOk (a b c : List UInt8) : Prop := crdE a = 0 ∧ crdE b = 0 ∧ crdE c = 0
noncomputable def thrL (a b c : List UInt8) : List Fld := mrgL (crdF a) (crdF b) (crdF c) 6
noncomputable def thrN (a b c : List UInt8) : Nat := mrgN (crdF a) (crdF b) (crdF c) 6
open Classical in
noncomputable def thrT (a b c : List UInt8) : List UInt8 := if thrOk a b c then cardT (thrL a b c) else []
open Classical in
noncomputable def thrE (a b c : List UInt8) : Int := if thrOk a b c then cardE (thrL a b c) else 1
open Classical in
noncomputable def thrM (a b c : List UInt8) : Nat := if thrOk a b c ∧ cardE (thrL a b c) = 0 then thrN a b c else 0
theorem thr_no {a b c : List UInt8} (h : ¬ thrOk a b c) : thrT a b c = [] ∧ thrE a b c = 1 ∧ thrM a b c = 0 := by
  refine ⟨by rw [thrT, if_neg h], by rw [thrE, if_neg h], by rw [thrM, if_neg (fun k => h k.1)]⟩
theorem thr_yes {a b c : List UInt8} (h : thrOk a b c) : thrT a b c = cardT (thrL a b c) ∧ thrE a b c = cardE (thrL a b c) := by
  refine ⟨by rw [thrT, if_pos h], by rw [thrE, if_pos h]⟩
theorem thr_m {a b c : List UInt8} (h : thrOk a b c) (h2 : cardE (thrL a b c) = 0) : thrM a b c = thrN a b c := by rw [thrM, if_pos ⟨h, h2⟩]
theorem thr_m0 {a b c : List UInt8} (h2 : cardE (thrL a b c) ≠ 0) : thrM a b c = 0 := by rw [thrM, if_neg (fun h => h2 h.2)]
theorem crd_len (s : List UInt8) : (crdF s).length ≤ 12 := by
  rcases crd_or s with ⟨l, h, e, _⟩ | ⟨_, e, _⟩
  · rw [e]; exact (reads_len h).2
  · rw [e]; simp
theorem crd_may (s : List UInt8) : ∀ f ∈ crdF s, f.v.length ≤ 64 := by
  rcases crd_or s with ⟨l, h, e, _⟩ | ⟨_, e, _⟩
  · rw [e]; exact fun f hf => may_len (ok_may h.1 f hf)
  · rw [e]; intro f hf; cases hf
theorem mrg_step {o x y : List Fld} {k : Nat} (h : 1 ≤ k) : mrgL o x y k = mrgL o x y (k - 1) ++ pickK o x y k ∧ mrgN o x y k = mrgN o x y (k - 1) + tornK o x y k := by
  obtain ⟨j, rfl⟩ : ∃ j, k = j + 1 := ⟨k - 1, by omega⟩
  exact ⟨rfl, rfl⟩

theorem torn_le (o x y : List Fld) (k : Nat) : tornK o x y k ≤ 1 := by unfold tornK; split <;> omega
theorem mrgN_le (o x y : List Fld) : ∀ k, mrgN o x y k ≤ k
  | 0 => Nat.le_refl _
  | k + 1 => by have := mrgN_le o x y k; have := torn_le o x y (k + 1); rw [mrgN]; omega
/-- What may change within a round: not the three rows. -/
def Tt (base a b : Nat) (q : Nat) : Prop := base ≤ q ∧ ¬ (a ≤ q ∧ q < b)
theorem tt_plus {base a b x : Nat} (h : base ≤ x) (h2 : b ≤ x) : ∀ q, Plus (Tt base a b) x q → Tt base a b q := fun q hq => hq.elim id (fun hq => ⟨Nat.le_trans h hq, fun h3 => by omega⟩)
theorem row_tt {w : World} {base a b e sz n c : Nat} {A : Option Addr} {xs : List Value} (h : Row w (From base) e sz A n c xs) (ha : w.heap.size ≤ a) : Row w (Tt base a b) e sz A n c xs :=
  h.own_.mono (fun q hq => by
    refine ⟨h.of_sub q hq, fun h3 => ?_⟩
    cases A with
    | none => exact Of.none hq
    | some ad => have := h.lt rfl; rw [hq.some_] at h3; omega)
theorem rds_tt {w W : World} {base a e sz n c : Nat} {A : Option Addr} {xs : List Value} (h : Row w (From a) e sz A n c xs) (hc : Chg (Tt base a w.heap.size) w W) : Rds W A n sz xs :=
  h.rds.chg hc (fun k hk ht => ht.2 ⟨h.of_sub k hk, by
    cases A with
    | none => exact (Of.none hk).elim
    | some ad => have := h.lt rfl; rw [hk.some_]; exact this⟩)
theorem chg_tt {S : Nat → Prop} {u v x : World} (h : Chg S u v) (k : Chg S v x) : Chg S u x := h.trans k (fun _ => .inl)
theorem chg_tB {S : Nat → Prop} {u v x : World} (h : Chg S u v) (k : Below v.heap.size v x) : Chg S u x := h.then_below k
theorem ones_f (l : List Fld) : ∀ u ∈ fsE l, u.oneCell' = true := by
  intro u hu
  obtain ⟨f, _, h⟩ := List.mem_flatMap.1 hu
  exact fEnc_one f u h
theorem retT3 {a b : ByteArray} {m n e f : Int} (h1 : a = b) (h2 : m = n) (h3 : e = f) : Ending.returned (.tuple #[.string a, .int .i64 m, .int .i64 e]) = .returned (.tuple #[.string b, .int .i64 n, .int .i64 f]) := by rw [h1, h2, h3]

set_option maxRecDepth 100000 in
set_option maxHeartbeats 16000000 in
theorem three_calls (so sa sb : ByteArray) (ho : so.size ≤ 1000000) (ha : sa.size ≤ 1000000) (hb : sb.size ≤ 1000000) (w : World) (ht : Tbs w) :
    Calls Tryz.prog 28 #[.string so, .string sa, .string sb] w fun e w' => e = .returned (.tuple #[.string (bs (thrT so.data.toList sa.data.toList sb.data.toList)), .int .i64 (thrM so.data.toList sa.data.toList sb.data.toList : Nat), .int .i64 (thrE so.data.toList sa.data.toList sb.data.toList)]) ∧ Below w.heap.size w w' := by
  obtain ⟨i0, hi, hz0, hz1, hz2⟩ := info_parts fInfo
  have HT := hd (fun W (h : Below w.heap.size w W) => ht.below h)
  have P1 := hd (fun W (h : Below w.heap.size w W) => cparse_calls so ho W (HT.o W h))
  have P2 := hd (fun W (h : Below w.heap.size w W) => cparse_calls sa ha W (HT.o W h))
  have P3 := hd (fun W (h : Below w.heap.size w W) => cparse_calls sb hb W (HT.o W h))
  clear ht
  obtain ⟨SO, hSO⟩ : ∃ S, so.data.toList = S := ⟨_, rfl⟩
  obtain ⟨SA, hSA⟩ : ∃ S, sa.data.toList = S := ⟨_, rfl⟩
  obtain ⟨SB, hSB⟩ : ∃ S, sb.data.toList = S := ⟨_, rfl⟩
  rw [hSO] at P1
  rw [hSA] at P2
  rw [hSB] at P3
  rw [hSO, hSA, hSB]
  clear hSO hSA hSB
  have L1 := hd (crd_len SO)
  have L2 := hd (crd_len SA)
  have L3 := hd (crd_len SB)
  have V2 := hd (crd_may SA)
  have V3 := hd (crd_may SB)
  obtain ⟨E1, hE1⟩ : ∃ e, crdE SO = e := ⟨_, rfl⟩
  obtain ⟨E2, hE2⟩ : ∃ e, crdE SA = e := ⟨_, rfl⟩
  obtain ⟨E3, hE3⟩ : ∃ e, crdE SB = e := ⟨_, rfl⟩
  obtain ⟨XO, hXO⟩ : ∃ l, crdF SO = l := ⟨_, rfl⟩
  obtain ⟨XA, hXA⟩ : ∃ l, crdF SA = l := ⟨_, rfl⟩
  obtain ⟨XB, hXB⟩ : ∃ l, crdF SB = l := ⟨_, rfl⟩
  rw [hXO] at L1
  rw [hXA] at L2 V2
  rw [hXB] at L3 V3
  have HE1 := hd hE1
  have HE2 := hd hE2
  have HE3 := hd hE3
  have HXO := hd hXO
  have HXA := hd hXA
  have HXB := hd hXB
  have HNO := hd (fun (h : ¬ (E1 = 0 ∧ E2 = 0 ∧ E3 = 0)) => thr_no (a := SO) (b := SA) (c := SB) (by unfold thrOk; rw [hE1, hE2, hE3]; exact h))
  have HOK := hd (fun (h : E1 = 0 ∧ E2 = 0 ∧ E3 = 0) => (by unfold thrOk; rw [hE1, hE2, hE3]; exact h : thrOk SO SA SB))
  clear hE1 hE2 hE3 hXO hXA hXB
  by_cases h1 : E1 = 0
  case neg =>
    have ne1 : (E1 != 0) = true := by simpa using h1
    have HV := hd (HNO.o (fun h => h1 h.1))
    clear h1 HNO HOK
    go_enter Tryz.func28, Tryz.ntmps28
    go_wp2_with fail
    refine (P1.o _ (Below.refl _ _)).mono ?_
    rintro e w1 ⟨⟨B1, m1, d1, rfl, hm1, hr1, hb1⟩⟩
    rw [HXO.o] at hm1 hr1
    rw [HE1.o]
    have M1 := hd hm1
    have R1 := hd hr1.rds
    have HB1 := hd hb1
    clear hm1 hr1 hb1
    go_wp2_with fail
    refine (P2.o _ HB1.o).mono ?_
    rintro e w2 ⟨⟨B2, m2, d2, rfl, hm2, hr2, hb2⟩⟩
    rw [HXA.o] at hm2 hr2
    rw [HE2.o]
    have M2 := hd hm2
    have R2 := hd hr2.rds
    replace R1 := hd (R1.o.below hb2)
    have HB2 := hd (HB1.o.trans (hb2.mono HB1.o.size))
    clear hm2 hr2 hb2
    go_wp2_with fail
    refine (P3.o _ HB2.o).mono ?_
    rintro e w5 ⟨⟨B3, m3, d3, rfl, hm3, hr3, hb3⟩⟩
    rw [HXB.o] at hm3 hr3
    rw [HE3.o]
    have M3 := hd hm3
    have R3 := hd hr3.rds
    replace R1 := hd (R1.o.below hb3)
    replace R2 := hd (R2.o.below hb3)
    have HB5 := hd (HB2.o.trans (hb3.mono HB2.o.size))
    clear hm3 hr3 hb3
    go_wp2
    go_ret3
    exact ⟨retT3 (by rw [HV.o.1]; rfl) (by rw [HV.o.2.2]; rfl) HV.o.2.1.symm, HB5.o⟩
  by_cases h2 : E2 = 0
  case neg =>
    have ne2 : (E2 != 0) = true := by simpa using h2
    have HV := hd (HNO.o (fun h => h2 h.2.1))
    clear h2 HNO HOK
    subst h1
    go_enter Tryz.func28, Tryz.ntmps28
    go_wp2_with fail
    refine (P1.o _ (Below.refl _ _)).mono ?_
    rintro e w1 ⟨⟨B1, m1, d1, rfl, hm1, hr1, hb1⟩⟩
    rw [HXO.o] at hm1 hr1
    rw [HE1.o]
    have M1 := hd hm1
    have R1 := hd hr1.rds
    have HB1 := hd hb1
    clear hm1 hr1 hb1
    go_wp2_with fail
    refine (P2.o _ HB1.o).mono ?_
    rintro e w2 ⟨⟨B2, m2, d2, rfl, hm2, hr2, hb2⟩⟩
    rw [HXA.o] at hm2 hr2
    rw [HE2.o]
    have M2 := hd hm2
    have R2 := hd hr2.rds
    replace R1 := hd (R1.o.below hb2)
    have HB2 := hd (HB1.o.trans (hb2.mono HB1.o.size))
    clear hm2 hr2 hb2
    go_wp2_with fail
    refine (P3.o _ HB2.o).mono ?_
    rintro e w5 ⟨⟨B3, m3, d3, rfl, hm3, hr3, hb3⟩⟩
    rw [HXB.o] at hm3 hr3
    rw [HE3.o]
    have M3 := hd hm3
    have R3 := hd hr3.rds
    replace R1 := hd (R1.o.below hb3)
    replace R2 := hd (R2.o.below hb3)
    have HB5 := hd (HB2.o.trans (hb3.mono HB2.o.size))
    clear hm3 hr3 hb3
    go_wp2
    go_ret3
    exact ⟨retT3 (by rw [HV.o.1]; rfl) (by rw [HV.o.2.2]; rfl) HV.o.2.1.symm, HB5.o⟩
  by_cases h3 : E3 = 0
  case neg =>
    have ne3 : (E3 != 0) = true := by simpa using h3
    have HV := hd (HNO.o (fun h => h3 h.2.2))
    clear h3 HNO HOK
    subst h1 h2
    go_enter Tryz.func28, Tryz.ntmps28
    go_wp2_with fail
    refine (P1.o _ (Below.refl _ _)).mono ?_
    rintro e w1 ⟨⟨B1, m1, d1, rfl, hm1, hr1, hb1⟩⟩
    rw [HXO.o] at hm1 hr1
    rw [HE1.o]
    have M1 := hd hm1
    have R1 := hd hr1.rds
    have HB1 := hd hb1
    clear hm1 hr1 hb1
    go_wp2_with fail
    refine (P2.o _ HB1.o).mono ?_
    rintro e w2 ⟨⟨B2, m2, d2, rfl, hm2, hr2, hb2⟩⟩
    rw [HXA.o] at hm2 hr2
    rw [HE2.o]
    have M2 := hd hm2
    have R2 := hd hr2.rds
    replace R1 := hd (R1.o.below hb2)
    have HB2 := hd (HB1.o.trans (hb2.mono HB1.o.size))
    clear hm2 hr2 hb2
    go_wp2_with fail
    refine (P3.o _ HB2.o).mono ?_
    rintro e w5 ⟨⟨B3, m3, d3, rfl, hm3, hr3, hb3⟩⟩
    rw [HXB.o] at hm3 hr3
    rw [HE3.o]
    have M3 := hd hm3
    have R3 := hd hr3.rds
    replace R1 := hd (R1.o.below hb3)
    replace R2 := hd (R2.o.below hb3)
    have HB5 := hd (HB2.o.trans (hb3.mono HB2.o.size))
    clear hm3 hr3 hb3
    go_wp2
    go_ret3
    exact ⟨retT3 (by rw [HV.o.1]; rfl) (by rw [HV.o.2.2]; rfl) HV.o.2.1.symm, HB5.o⟩
  have HY := hd (HOK.o ⟨h1, h2, h3⟩)
  clear HNO HOK
  subst h1 h2 h3
  go_enter Tryz.func28, Tryz.ntmps28
  go_wp2_with fail
  refine (P1.o _ (Below.refl _ _)).mono ?_
  rintro e w1 ⟨⟨B1, m1, d1, rfl, hm1, hr1, hb1⟩⟩
  rw [HXO.o] at hm1 hr1
  rw [HE1.o]
  have M1 := hd hm1
  have R1 := hd hr1.rds
  have HB1 := hd hb1
  clear hm1 hr1 hb1
  go_wp2_with fail
  refine (P2.o _ HB1.o).mono ?_
  rintro e w2 ⟨⟨B2, m2, d2, rfl, hm2, hr2, hb2⟩⟩
  rw [HXA.o] at hm2 hr2
  rw [HE2.o]
  have M2 := hd hm2
  have R2 := hd hr2.rds
  replace R1 := hd (R1.o.below hb2)
  have HB2 := hd (HB1.o.trans (hb2.mono HB1.o.size))
  clear hm2 hr2 hb2
  go_wp2_with fail
  refine (P3.o _ HB2.o).mono ?_
  rintro e w5 ⟨⟨B3, m3, d3, rfl, hm3, hr3, hb3⟩⟩
  rw [HXB.o] at hm3 hr3
  rw [HE3.o]
  have M3 := hd hm3
  have R3 := hd hr3.rds
  replace R1 := hd (R1.o.below hb3)
  replace R2 := hd (R2.o.below hb3)
  have HB5 := hd (HB2.o.trans (hb3.mono HB2.o.size))
  clear hm3 hr3 hb3
  have b1 : m1 ≤ 12 := by rw [M1.o]; exact L1.o
  have b2 : m2 ≤ 12 := by rw [M2.o]; exact L2.o
  have b3 : m3 ≤ 12 := by rw [M3.o]; exact L3.o
  have hw5 := HB5.o.size
  go_wp2_with fail
  go_loopw [15, 16, 17, 18, 20, 14, 7] (fun i _ _ _ _ out tn wr => ∃ (k : Nat) (D : Option Addr) (q d : Nat), i = .int .i64 k ∧ 1 ≤ k ∧ k ≤ 7 ∧ out = .slice D q d ∧ q ≤ 24 * (k - 1) ∧ tn = .int .i64 (mrgN XO XA XB (k - 1) : Nat) ∧ Hd (q = (mrgL XO XA XB (k - 1)).length) ∧ Hd (Row wr (From w5.heap.size) 36 3 D q d (fsE (mrgL XO XA XB (k - 1)))) ∧ Hd (Below w5.heap.size w5 wr)) (fun i _ _ _ _ _ _ _ => 7 - (intOf i).toNat)
  case atStart => exact ⟨1, none, 0, 0, rfl, Nat.le_refl _, by omega, rfl, Nat.zero_le _, rfl, hd rfl, hd (Row.nil _ _ _ _), hd (Below.refl _ _)⟩
  case round =>
    obtain ⟨k, D, q, d, rfl, hk1, hk7, rfl, hqk, rfl, HQ, HO, HW⟩ := hrel
    obtain ⟨wi, rfl⟩ : ∃ wi : World, wi = wr := ⟨_, rfl⟩
    have HST := hd (mrg_step (o := XO) (x := XA) (y := XB) hk1)
    by_cases hle : k ≤ 6
    · have hlei : decide ((k : Int) ≤ 6) = true := by simp; omega
      have O1 := hd (only_calls wi B1 m1 d1 XO k M1.o (R1.o.below HW.o) (by omega))
      go_wp2_with fail
      refine O1.o.mono ?_
      rintro e wa ⟨⟨Bp, mp, dp, rfl, hmp, hrp, hba⟩⟩
      clear O1
      have MP0 := hd hmp
      clear hmp
      have HWa := hd (HW.o.trans (hba.mono HW.o.size))
      have O2 := hd (only_calls wa B2 m2 d2 XA k M2.o (R2.o.below HWa.o) (by omega))
      go_wp2_with fail
      refine O2.o.mono ?_
      rintro e wb ⟨⟨Bq, mq, dq, rfl, hmq, hrq, hbb⟩⟩
      clear O2
      have MQ0 := hd hmq
      clear hmq
      have HWb := hd (HWa.o.trans (hbb.mono HWa.o.size))
      have O3 := hd (only_calls wb B3 m3 d3 XB k M3.o (R3.o.below HWb.o) (by omega))
      go_wp2_with fail
      refine O3.o.mono ?_
      rintro e w6 ⟨⟨Br, mr, dr, rfl, hmr, hrr, hbc⟩⟩
      clear O3
      have MR0 := hd hmr
      clear hmr
      have HW6 := hd (HWb.o.trans (hbc.mono HWb.o.size))
      have hmp := MP0.o
      have hmq := MQ0.o
      have hmr := MR0.o
      clear MP0 MQ0 MR0
      have hsa := hba.size
      have hsb := hbb.size
      have hsc := hbc.size
      have hs5 := HW.o.size
      have h5w6 := HW6.o.size
      have hbp : mp ≤ 12 := by have h1 := only_len XO k; have h2 := L1.o; rw [hmp]; omega
      have hbq : mq ≤ 12 := by have h1 := only_len XA k; have h2 := L2.o; rw [hmq]; omega
      have hbr : mr ≤ 12 := by have h1 := only_len XB k; have h2 := L3.o; rw [hmr]; omega
      obtain ⟨T, hT⟩ : ∃ T, T = Tt w5.heap.size wi.heap.size w6.heap.size := ⟨_, rfl⟩
      have HTP := hd (show ∀ x, w5.heap.size ≤ x → w6.heap.size ≤ x → ∀ q, Plus T x q → T q from fun x h1 h2 => by rw [hT]; exact tt_plus h1 h2)
      have HTB := hd (show ∀ q, T q → w5.heap.size ≤ q from fun q h => by rw [hT] at h; exact h.1)
      have HRP := hd (fun W (h : Chg T w6 W) => rds_tt (((hrp.below hbb).below hbc)) (by rw [← hT]; exact h))
      have HRQ := hd (fun W (h : Chg T w6 W) => rds_tt (a := wi.heap.size) ((hrq.mono (fun q h => Nat.le_trans hsa h)).below hbc) (by rw [← hT]; exact h))
      have HRR := hd (fun W (h : Chg T w6 W) => rds_tt (a := wi.heap.size) (hrr.mono (fun q h => Nat.le_trans hsa (Nat.le_trans hsb h))) (by rw [← hT]; exact h))
      have HO6 := hd (show Row w6 T 36 3 D q d (fsE (mrgL XO XA XB (k - 1))) by
        rw [hT]; exact (((row_tt HO.o (Nat.le_refl _)).below hba).below hbb).below hbc)
      obtain ⟨OL, hOL⟩ : ∃ OL, mrgL XO XA XB (k - 1) = OL := ⟨_, rfl⟩
      obtain ⟨tn, htn⟩ : ∃ tn, mrgN XO XA XB (k - 1) = tn := ⟨_, rfl⟩
      rw [hOL] at HQ HO6 HST
      rw [htn] at HST ⊢
      obtain ⟨PL, hPL⟩ : ∃ l, onlyL XO k = l := ⟨_, rfl⟩
      obtain ⟨QL, hQL⟩ : ∃ l, onlyL XA k = l := ⟨_, rfl⟩
      obtain ⟨RL, hRL⟩ : ∃ l, onlyL XB k = l := ⟨_, rfl⟩
      have HPK := hd (show pickK XO XA XB k = if Many k then keepL PL QL RL ++ woL (woL RL PL) QL else if QL = PL then RL else QL by rw [← hPL, ← hQL, ← hRL]; rfl)
      have HTK := hd (show tornK XO XA XB k = if Many k ∨ QL = PL ∨ RL = PL ∨ QL = RL then 0 else 1 by rw [← hPL, ← hQL, ← hRL]; rfl)
      rw [hPL] at hmp HRP
      rw [hQL] at hmq HRQ
      rw [hRL] at hmr HRR
      have MP := hd hmp
      have MQ := hd hmq
      have MR := hd hmr
      have HWI := hd (show Below w5.heap.size w5 w6 from HW6.o)
      have HC6 := hd (Chg.refl T w6)
      have ht6 : tn ≤ 6 := by rw [← htn]; have := mrgN_le XO XA XB (k - 1); omega
      clear hmp hmq hmr hrp hrq hrr hba hbb hbc HWa HWb HO hPL hQL hRL hOL htn hT hsa hsb hsc hs5 HW HW6
      by_cases hmany : Many k
      · have HPM := hd (by have h1 := HPK.o; rw [if_pos hmany] at h1; exact h1)
        have HTM := hd (by have h1 := HTK.o; rw [if_pos (.inl hmany)] at h1; exact h1)
        have HS1 := hd (HST.o.1.trans (by rw [HPM.o]))
        have HS2 := hd (HST.o.2.trans (by rw [HTM.o]))
        have hcs : ((k : Int) == 3) = true ∨ (((k : Int) == 3) = false ∧ ((k : Int) == 4) = true) ∨ (((k : Int) == 3) = false ∧ ((k : Int) == 4) = false ∧ ((k : Int) == 6) = true) := by
          rcases hmany with rfl | rfl | rfl
          · exact .inl rfl
          · exact .inr (.inl ⟨rfl, rfl⟩)
          · exact .inr (.inr ⟨rfl, rfl, rfl⟩)
        clear hmany HPK HTK HST HPM HTM
        rcases hcs with h3 | ⟨h3, h4⟩ | ⟨h3, h4, h6⟩
        -- B
        · go_wp2_with fail
          go_loopw [90, 20, 14] (fun i _ out wr => ∃ (j : Nat) (D2 : Option Addr) (q2 d2 : Nat), i = .int .i64 j ∧ j ≤ mq ∧ out = .slice D2 q2 d2 ∧ q2 ≤ q + j ∧ Hd (q2 = (OL ++ keepL PL (QL.take j) RL).length) ∧ Hd (Row wr T 36 3 D2 q2 d2 (fsE (OL ++ keepL PL (QL.take j) RL))) ∧ Hd (Chg T w6 wr)) (fun i _ _ _ => mq - (intOf i).toNat)
          case atStart => exact ⟨0, D, q, d, rfl, Nat.zero_le _, rfl, Nat.le_refl _, hd (by rw [HQ.o]; simp [keepL]), hd (by simpa [keepL] using HO6.o), HC6⟩
          case round =>
            obtain ⟨j, D2, q2, d2, rfl, hj, rfl, hq2, HQ2, HO2, HC2⟩ := hrel
            obtain ⟨wj, rfl⟩ : ∃ wj : World, wj = wr := ⟨_, rfl⟩
            by_cases hlt : j < mq
            · have hlti : decide ((j : Int) < (mq : Int)) = true := by simp; omega
              have hjl : j < QL.length := by rw [← MQ.o]; exact hlt
              have HKT := hd (keep_take PL QL RL j hjl)
              obtain ⟨f, hf⟩ : ∃ f, QL[j]'hjl = f := ⟨_, rfl⟩
              rw [hf] at HKT
              obtain ⟨g, o, rfl, hg, hc⟩ := (HRQ.o wj HC2.o).at_ (by omega)
              have hcf : ∀ t u, t < 3 → (fEnc f)[t]? = some u → wj.cell? ⟨g, o + j * 3 + t, none⟩ = some u := fun t u ht hv => by
                rw [Nat.add_assoc]
                exact hc _ _ ((fsE_at QL j hjl t ht).trans (by rw [hf]; exact hv))
              have c0 := hcf 0 _ (by omega) rfl
              have c1 := hcf 1 _ (by omega) rfl
              have c2 := hcf 2 _ (by omega) rfl
              rw [Nat.add_zero] at c0
              clear hcf hc hf
              have K1 := fun W (h : Chg T w6 W) => fcontains_calls W Br mr dr RL f MR.o (HRR.o W h) (by omega)
              have K2 := fun W (h : Chg T w6 W) => fcontains_calls W Bp mp dp PL f MP.o (HRP.o W h) (by omega)
              obtain ⟨v1, hv1⟩ : ∃ v, decide (f ∈ RL) = v := ⟨_, rfl⟩
              obtain ⟨v2, hv2⟩ : ∃ v, decide (f ∈ PL) = v := ⟨_, rfl⟩
              rw [hv1] at K1
              rw [hv2] at K2
              have HV1 := hd hv1
              have HV2 := hd hv2
              obtain ⟨fk, fl, fv⟩ := f
              simp only [fldV] at K1 K2
              replace K1 := hd K1
              replace K2 := hd K2
              clear hv1 hv2
              have HCB := hd (HC2.o.alloc (.cells #[.int .i64 fk, .int .i64 fl, .string (bs fv)] 36))
              have HOB := hd (HO2.o.alloc (.cells #[.int .i64 fk, .int .i64 fl, .string (bs fv)] 36))
              have HKB := hd (Blk.new wj 36 #[.int .i64 fk, .int .i64 fl, .string (bs fv)])
              go_wp2_with fail
              refine (K1.o _ HCB.o).mono ?_
              rintro e w7 ⟨rfl, hb7⟩
              have HC7 := hd (chg_tB HCB.o hb7)
              have HO7 := hd (HOB.o.below hb7)
              have HK7 := hd (HKB.o.below hb7 (Blk.lt HKB.o))
              clear hb7 c0 c1 c2
              have d0 := HK7.o.at_ 0 rfl
              have d1 := HK7.o.at_ 1 rfl
              have d2' := HK7.o.at_ 2 rfl
              cases v1 with
              | true =>
                have HCOND := hd (show (⟨fk, fl, fv⟩ : Fld) ∈ RL ∨ (⟨fk, fl, fv⟩ : Fld) ∉ PL from .inl (of_decide_eq_true HV1.o))
                have HK1 := hd (HKT.o.trans (by rw [if_pos HCOND.o]))
                have hsz := HC7.o.size
                go_wp2_with (at_builtin; refine wpList_append_row rfl _ _ 22 rfl T 36 i0 (.agg #[.int .i64 0, .int .i64 0, .string ⟨#[]⟩]) 3 32 Tryz.underlying22 hi hz0 hz1 hz2 rfl D2 q2 d2 (fsE (OL ++ keepL PL (QL.take j) RL)) rfl (HO7.o.alloc _) ⟨_, 0, none⟩ 1 1 [.int .i64 fk, .int .i64 fl, .string (bs fv)] rfl rfl (cells_at (Blk.new_ _ _ (by simp) _ _) rfl) (by simp [Value.oneCell']) (by omega) (by unfold maxLen; omega) (by omega) ?_; intro A2 cc2 w9 hown hchg)
                go_roundw
                case rel =>
                  refine ⟨j + 1, A2, q2 + 1, cc2, by go_num, by omega, rfl, by omega, hd ?_, hd ?_, hd ?_⟩
                  · rw [HK1.o, ← List.append_assoc, List.length_append, ← HQ2.o]; rfl
                  · rw [HK1.o, ← List.append_assoc, fsE_snoc]; exact hown.mono (HTP.o _ (by simp; omega) (by simp; omega))
                  · exact chg_tt (HC7.o.alloc _) hchg
                case measure => simp [intOf]; omega
              | false =>
                go_wp2_with fail
                refine (K2.o _ HC7.o).mono ?_
                rintro e w8 ⟨rfl, hb8⟩
                have HC8 := hd (chg_tB HC7.o hb8)
                have HO8 := hd (HO7.o.below hb8)
                have HK8 := hd (HK7.o.below hb8 (Blk.lt HK7.o))
                clear hb8 d0 d1 d2'
                have d0 := HK8.o.at_ 0 rfl
                have d1 := HK8.o.at_ 1 rfl
                have d2' := HK8.o.at_ 2 rfl
                cases v2 with
                | true =>
                  have HK1 := hd (HKT.o.trans (by rw [if_neg (fun h => h.elim (of_decide_eq_false HV1.o) (fun h => h (of_decide_eq_true HV2.o))), List.append_nil]))
                  go_wp2
                  go_roundw
                  case rel => exact ⟨j + 1, D2, q2, d2, by go_num, by omega, rfl, by omega, hd (by rw [HK1.o]; exact HQ2.o), hd (by rw [HK1.o]; exact HO8.o), HC8⟩
                  case measure => simp [intOf]; omega
                | false =>
                  have HCOND := hd (show (⟨fk, fl, fv⟩ : Fld) ∈ RL ∨ (⟨fk, fl, fv⟩ : Fld) ∉ PL from .inr (of_decide_eq_false HV2.o))
                  have HK1 := hd (HKT.o.trans (by rw [if_pos HCOND.o]))
                  have hsz := HC8.o.size
                  go_wp2_with (at_builtin; refine wpList_append_row rfl _ _ 22 rfl T 36 i0 (.agg #[.int .i64 0, .int .i64 0, .string ⟨#[]⟩]) 3 32 Tryz.underlying22 hi hz0 hz1 hz2 rfl D2 q2 d2 (fsE (OL ++ keepL PL (QL.take j) RL)) rfl (HO8.o.alloc _) ⟨_, 0, none⟩ 1 1 [.int .i64 fk, .int .i64 fl, .string (bs fv)] rfl rfl (cells_at (Blk.new_ _ _ (by simp) _ _) rfl) (by simp [Value.oneCell']) (by omega) (by unfold maxLen; omega) (by omega) ?_; intro A2 cc2 w9 hown hchg)
                  go_roundw
                  case rel =>
                    refine ⟨j + 1, A2, q2 + 1, cc2, by go_num, by omega, rfl, by omega, hd ?_, hd ?_, hd ?_⟩
                    · rw [HK1.o, ← List.append_assoc, List.length_append, ← HQ2.o]; rfl
                    · rw [HK1.o, ← List.append_assoc, fsE_snoc]; exact hown.mono (HTP.o _ (by simp; omega) (by simp; omega))
                    · exact chg_tt (HC8.o.alloc _) hchg
                  case measure => simp [intOf]; omega
            · have hlti : decide ((j : Int) < (mq : Int)) = false := by simp; omega
              have htk : QL.take j = QL := List.take_of_length_le (by rw [← MQ.o]; omega)
              rw [htk] at HQ2 HO2
              clear htk
              have W1 := hd (wo_calls wj Br Bp mr dr mp dp RL PL MR.o (HRR.o wj HC2.o) MP.o (HRP.o wj HC2.o) (by omega) (by omega))
              go_wp2_with fail
              refine W1.o.mono ?_
              rintro e w7 ⟨⟨B7, m7, d7, rfl, hm7, hr7, hb7⟩⟩
              have HC7 := hd (chg_tB HC2.o hb7)
              have HO7 := hd (HO2.o.below hb7)
              have hl7 : m7 ≤ mr := by have := wo_len RL PL; rw [hm7, MR.o]; exact this
              have W2 := hd (wo_calls w7 B7 Bq m7 d7 mq dq (woL RL PL) QL hm7 hr7.rds MQ.o (HRQ.o w7 HC7.o) (by omega) (by omega))
              have HM7 := hd hm7
              clear hb7 hr7 hm7 W1
              go_wp2_with fail
              refine W2.o.mono ?_
              rintro e w8 ⟨⟨B8, m8, d8, rfl, hm8, hr8, hb8⟩⟩
              have HC8 := hd (chg_tB HC7.o hb8)
              have HO8 := hd (HO7.o.below hb8)
              have hl8 : m8 ≤ m7 := by have := wo_len (woL RL PL) QL; rw [hm8, HM7.o]; exact this
              have hs8 := HC8.o.size
              have HM8 := hd hm8
              have HR8 := hd hr8.rds
              clear hb8 hr8 hm8 W2
              go_wp2_with (at_builtin; refine wpList_append_rowG rfl _ _ 22 rfl T 36 i0 (.agg #[.int .i64 0, .int .i64 0, .string ⟨#[]⟩]) 3 32 Tryz.underlying22 hi hz0 hz1 hz2 rfl D2 q2 d2 (fsE (OL ++ keepL PL QL RL)) rfl HO8.o B8 m8 d8 (fsE (woL (woL RL PL) QL)) rfl (HR8.o) (ones_f _) (by unfold maxLen; omega) (by omega) ?_; intro D9 d9 w9 hown hchg; have HO9 := hd (show Row w9 T 36 3 D9 (q2 + m8) d9 (fsE (OL ++ keepL PL QL RL ++ woL (woL RL PL) QL)) by rw [fsE_app]; exact hown.mono (HTP.o _ (by omega) (by omega))); have HC9 := hd (chg_tt HC8.o hchg); clear hown hchg)
              go_roundw
              case rel =>
                refine ⟨k + 1, D9, q2 + m8, d9, by go_num, by omega, by omega, rfl, by omega, ?_, hd ?_, hd ?_, hd ?_⟩
                · rw [show k + 1 - 1 = k from rfl, HS2.o]; first | rfl | simp
                · rw [show k + 1 - 1 = k from rfl, HS1.o, ← List.append_assoc, List.length_append, ← HQ2.o, ← HM8.o]
                · rw [show k + 1 - 1 = k from rfl, HS1.o, ← List.append_assoc]; exact HO9.o.mono (fun q h => HTB.o q h)
                · exact HWI.o.trans (HC9.o.below HTB.o h5w6)
              case measure => simp [intOf]; omega
        -- E
        -- B
        · go_wp2_with fail
          go_loopw [90, 20, 14] (fun i _ out wr => ∃ (j : Nat) (D2 : Option Addr) (q2 d2 : Nat), i = .int .i64 j ∧ j ≤ mq ∧ out = .slice D2 q2 d2 ∧ q2 ≤ q + j ∧ Hd (q2 = (OL ++ keepL PL (QL.take j) RL).length) ∧ Hd (Row wr T 36 3 D2 q2 d2 (fsE (OL ++ keepL PL (QL.take j) RL))) ∧ Hd (Chg T w6 wr)) (fun i _ _ _ => mq - (intOf i).toNat)
          case atStart => exact ⟨0, D, q, d, rfl, Nat.zero_le _, rfl, Nat.le_refl _, hd (by rw [HQ.o]; simp [keepL]), hd (by simpa [keepL] using HO6.o), HC6⟩
          case round =>
            obtain ⟨j, D2, q2, d2, rfl, hj, rfl, hq2, HQ2, HO2, HC2⟩ := hrel
            obtain ⟨wj, rfl⟩ : ∃ wj : World, wj = wr := ⟨_, rfl⟩
            by_cases hlt : j < mq
            · have hlti : decide ((j : Int) < (mq : Int)) = true := by simp; omega
              have hjl : j < QL.length := by rw [← MQ.o]; exact hlt
              have HKT := hd (keep_take PL QL RL j hjl)
              obtain ⟨f, hf⟩ : ∃ f, QL[j]'hjl = f := ⟨_, rfl⟩
              rw [hf] at HKT
              obtain ⟨g, o, rfl, hg, hc⟩ := (HRQ.o wj HC2.o).at_ (by omega)
              have hcf : ∀ t u, t < 3 → (fEnc f)[t]? = some u → wj.cell? ⟨g, o + j * 3 + t, none⟩ = some u := fun t u ht hv => by
                rw [Nat.add_assoc]
                exact hc _ _ ((fsE_at QL j hjl t ht).trans (by rw [hf]; exact hv))
              have c0 := hcf 0 _ (by omega) rfl
              have c1 := hcf 1 _ (by omega) rfl
              have c2 := hcf 2 _ (by omega) rfl
              rw [Nat.add_zero] at c0
              clear hcf hc hf
              have K1 := fun W (h : Chg T w6 W) => fcontains_calls W Br mr dr RL f MR.o (HRR.o W h) (by omega)
              have K2 := fun W (h : Chg T w6 W) => fcontains_calls W Bp mp dp PL f MP.o (HRP.o W h) (by omega)
              obtain ⟨v1, hv1⟩ : ∃ v, decide (f ∈ RL) = v := ⟨_, rfl⟩
              obtain ⟨v2, hv2⟩ : ∃ v, decide (f ∈ PL) = v := ⟨_, rfl⟩
              rw [hv1] at K1
              rw [hv2] at K2
              have HV1 := hd hv1
              have HV2 := hd hv2
              obtain ⟨fk, fl, fv⟩ := f
              simp only [fldV] at K1 K2
              replace K1 := hd K1
              replace K2 := hd K2
              clear hv1 hv2
              have HCB := hd (HC2.o.alloc (.cells #[.int .i64 fk, .int .i64 fl, .string (bs fv)] 36))
              have HOB := hd (HO2.o.alloc (.cells #[.int .i64 fk, .int .i64 fl, .string (bs fv)] 36))
              have HKB := hd (Blk.new wj 36 #[.int .i64 fk, .int .i64 fl, .string (bs fv)])
              go_wp2_with fail
              refine (K1.o _ HCB.o).mono ?_
              rintro e w7 ⟨rfl, hb7⟩
              have HC7 := hd (chg_tB HCB.o hb7)
              have HO7 := hd (HOB.o.below hb7)
              have HK7 := hd (HKB.o.below hb7 (Blk.lt HKB.o))
              clear hb7 c0 c1 c2
              have d0 := HK7.o.at_ 0 rfl
              have d1 := HK7.o.at_ 1 rfl
              have d2' := HK7.o.at_ 2 rfl
              cases v1 with
              | true =>
                have HCOND := hd (show (⟨fk, fl, fv⟩ : Fld) ∈ RL ∨ (⟨fk, fl, fv⟩ : Fld) ∉ PL from .inl (of_decide_eq_true HV1.o))
                have HK1 := hd (HKT.o.trans (by rw [if_pos HCOND.o]))
                have hsz := HC7.o.size
                go_wp2_with (at_builtin; refine wpList_append_row rfl _ _ 22 rfl T 36 i0 (.agg #[.int .i64 0, .int .i64 0, .string ⟨#[]⟩]) 3 32 Tryz.underlying22 hi hz0 hz1 hz2 rfl D2 q2 d2 (fsE (OL ++ keepL PL (QL.take j) RL)) rfl (HO7.o.alloc _) ⟨_, 0, none⟩ 1 1 [.int .i64 fk, .int .i64 fl, .string (bs fv)] rfl rfl (cells_at (Blk.new_ _ _ (by simp) _ _) rfl) (by simp [Value.oneCell']) (by omega) (by unfold maxLen; omega) (by omega) ?_; intro A2 cc2 w9 hown hchg)
                go_roundw
                case rel =>
                  refine ⟨j + 1, A2, q2 + 1, cc2, by go_num, by omega, rfl, by omega, hd ?_, hd ?_, hd ?_⟩
                  · rw [HK1.o, ← List.append_assoc, List.length_append, ← HQ2.o]; rfl
                  · rw [HK1.o, ← List.append_assoc, fsE_snoc]; exact hown.mono (HTP.o _ (by simp; omega) (by simp; omega))
                  · exact chg_tt (HC7.o.alloc _) hchg
                case measure => simp [intOf]; omega
              | false =>
                go_wp2_with fail
                refine (K2.o _ HC7.o).mono ?_
                rintro e w8 ⟨rfl, hb8⟩
                have HC8 := hd (chg_tB HC7.o hb8)
                have HO8 := hd (HO7.o.below hb8)
                have HK8 := hd (HK7.o.below hb8 (Blk.lt HK7.o))
                clear hb8 d0 d1 d2'
                have d0 := HK8.o.at_ 0 rfl
                have d1 := HK8.o.at_ 1 rfl
                have d2' := HK8.o.at_ 2 rfl
                cases v2 with
                | true =>
                  have HK1 := hd (HKT.o.trans (by rw [if_neg (fun h => h.elim (of_decide_eq_false HV1.o) (fun h => h (of_decide_eq_true HV2.o))), List.append_nil]))
                  go_wp2
                  go_roundw
                  case rel => exact ⟨j + 1, D2, q2, d2, by go_num, by omega, rfl, by omega, hd (by rw [HK1.o]; exact HQ2.o), hd (by rw [HK1.o]; exact HO8.o), HC8⟩
                  case measure => simp [intOf]; omega
                | false =>
                  have HCOND := hd (show (⟨fk, fl, fv⟩ : Fld) ∈ RL ∨ (⟨fk, fl, fv⟩ : Fld) ∉ PL from .inr (of_decide_eq_false HV2.o))
                  have HK1 := hd (HKT.o.trans (by rw [if_pos HCOND.o]))
                  have hsz := HC8.o.size
                  go_wp2_with (at_builtin; refine wpList_append_row rfl _ _ 22 rfl T 36 i0 (.agg #[.int .i64 0, .int .i64 0, .string ⟨#[]⟩]) 3 32 Tryz.underlying22 hi hz0 hz1 hz2 rfl D2 q2 d2 (fsE (OL ++ keepL PL (QL.take j) RL)) rfl (HO8.o.alloc _) ⟨_, 0, none⟩ 1 1 [.int .i64 fk, .int .i64 fl, .string (bs fv)] rfl rfl (cells_at (Blk.new_ _ _ (by simp) _ _) rfl) (by simp [Value.oneCell']) (by omega) (by unfold maxLen; omega) (by omega) ?_; intro A2 cc2 w9 hown hchg)
                  go_roundw
                  case rel =>
                    refine ⟨j + 1, A2, q2 + 1, cc2, by go_num, by omega, rfl, by omega, hd ?_, hd ?_, hd ?_⟩
                    · rw [HK1.o, ← List.append_assoc, List.length_append, ← HQ2.o]; rfl
                    · rw [HK1.o, ← List.append_assoc, fsE_snoc]; exact hown.mono (HTP.o _ (by simp; omega) (by simp; omega))
                    · exact chg_tt (HC8.o.alloc _) hchg
                  case measure => simp [intOf]; omega
            · have hlti : decide ((j : Int) < (mq : Int)) = false := by simp; omega
              have htk : QL.take j = QL := List.take_of_length_le (by rw [← MQ.o]; omega)
              rw [htk] at HQ2 HO2
              clear htk
              have W1 := hd (wo_calls wj Br Bp mr dr mp dp RL PL MR.o (HRR.o wj HC2.o) MP.o (HRP.o wj HC2.o) (by omega) (by omega))
              go_wp2_with fail
              refine W1.o.mono ?_
              rintro e w7 ⟨⟨B7, m7, d7, rfl, hm7, hr7, hb7⟩⟩
              have HC7 := hd (chg_tB HC2.o hb7)
              have HO7 := hd (HO2.o.below hb7)
              have hl7 : m7 ≤ mr := by have := wo_len RL PL; rw [hm7, MR.o]; exact this
              have W2 := hd (wo_calls w7 B7 Bq m7 d7 mq dq (woL RL PL) QL hm7 hr7.rds MQ.o (HRQ.o w7 HC7.o) (by omega) (by omega))
              have HM7 := hd hm7
              clear hb7 hr7 hm7 W1
              go_wp2_with fail
              refine W2.o.mono ?_
              rintro e w8 ⟨⟨B8, m8, d8, rfl, hm8, hr8, hb8⟩⟩
              have HC8 := hd (chg_tB HC7.o hb8)
              have HO8 := hd (HO7.o.below hb8)
              have hl8 : m8 ≤ m7 := by have := wo_len (woL RL PL) QL; rw [hm8, HM7.o]; exact this
              have hs8 := HC8.o.size
              have HM8 := hd hm8
              have HR8 := hd hr8.rds
              clear hb8 hr8 hm8 W2
              go_wp2_with (at_builtin; refine wpList_append_rowG rfl _ _ 22 rfl T 36 i0 (.agg #[.int .i64 0, .int .i64 0, .string ⟨#[]⟩]) 3 32 Tryz.underlying22 hi hz0 hz1 hz2 rfl D2 q2 d2 (fsE (OL ++ keepL PL QL RL)) rfl HO8.o B8 m8 d8 (fsE (woL (woL RL PL) QL)) rfl (HR8.o) (ones_f _) (by unfold maxLen; omega) (by omega) ?_; intro D9 d9 w9 hown hchg; have HO9 := hd (show Row w9 T 36 3 D9 (q2 + m8) d9 (fsE (OL ++ keepL PL QL RL ++ woL (woL RL PL) QL)) by rw [fsE_app]; exact hown.mono (HTP.o _ (by omega) (by omega))); have HC9 := hd (chg_tt HC8.o hchg); clear hown hchg)
              go_roundw
              case rel =>
                refine ⟨k + 1, D9, q2 + m8, d9, by go_num, by omega, by omega, rfl, by omega, ?_, hd ?_, hd ?_, hd ?_⟩
                · rw [show k + 1 - 1 = k from rfl, HS2.o]; first | rfl | simp
                · rw [show k + 1 - 1 = k from rfl, HS1.o, ← List.append_assoc, List.length_append, ← HQ2.o, ← HM8.o]
                · rw [show k + 1 - 1 = k from rfl, HS1.o, ← List.append_assoc]; exact HO9.o.mono (fun q h => HTB.o q h)
                · exact HWI.o.trans (HC9.o.below HTB.o h5w6)
              case measure => simp [intOf]; omega
        -- E
        -- B
        · go_wp2_with fail
          go_loopw [90, 20, 14] (fun i _ out wr => ∃ (j : Nat) (D2 : Option Addr) (q2 d2 : Nat), i = .int .i64 j ∧ j ≤ mq ∧ out = .slice D2 q2 d2 ∧ q2 ≤ q + j ∧ Hd (q2 = (OL ++ keepL PL (QL.take j) RL).length) ∧ Hd (Row wr T 36 3 D2 q2 d2 (fsE (OL ++ keepL PL (QL.take j) RL))) ∧ Hd (Chg T w6 wr)) (fun i _ _ _ => mq - (intOf i).toNat)
          case atStart => exact ⟨0, D, q, d, rfl, Nat.zero_le _, rfl, Nat.le_refl _, hd (by rw [HQ.o]; simp [keepL]), hd (by simpa [keepL] using HO6.o), HC6⟩
          case round =>
            obtain ⟨j, D2, q2, d2, rfl, hj, rfl, hq2, HQ2, HO2, HC2⟩ := hrel
            obtain ⟨wj, rfl⟩ : ∃ wj : World, wj = wr := ⟨_, rfl⟩
            by_cases hlt : j < mq
            · have hlti : decide ((j : Int) < (mq : Int)) = true := by simp; omega
              have hjl : j < QL.length := by rw [← MQ.o]; exact hlt
              have HKT := hd (keep_take PL QL RL j hjl)
              obtain ⟨f, hf⟩ : ∃ f, QL[j]'hjl = f := ⟨_, rfl⟩
              rw [hf] at HKT
              obtain ⟨g, o, rfl, hg, hc⟩ := (HRQ.o wj HC2.o).at_ (by omega)
              have hcf : ∀ t u, t < 3 → (fEnc f)[t]? = some u → wj.cell? ⟨g, o + j * 3 + t, none⟩ = some u := fun t u ht hv => by
                rw [Nat.add_assoc]
                exact hc _ _ ((fsE_at QL j hjl t ht).trans (by rw [hf]; exact hv))
              have c0 := hcf 0 _ (by omega) rfl
              have c1 := hcf 1 _ (by omega) rfl
              have c2 := hcf 2 _ (by omega) rfl
              rw [Nat.add_zero] at c0
              clear hcf hc hf
              have K1 := fun W (h : Chg T w6 W) => fcontains_calls W Br mr dr RL f MR.o (HRR.o W h) (by omega)
              have K2 := fun W (h : Chg T w6 W) => fcontains_calls W Bp mp dp PL f MP.o (HRP.o W h) (by omega)
              obtain ⟨v1, hv1⟩ : ∃ v, decide (f ∈ RL) = v := ⟨_, rfl⟩
              obtain ⟨v2, hv2⟩ : ∃ v, decide (f ∈ PL) = v := ⟨_, rfl⟩
              rw [hv1] at K1
              rw [hv2] at K2
              have HV1 := hd hv1
              have HV2 := hd hv2
              obtain ⟨fk, fl, fv⟩ := f
              simp only [fldV] at K1 K2
              replace K1 := hd K1
              replace K2 := hd K2
              clear hv1 hv2
              have HCB := hd (HC2.o.alloc (.cells #[.int .i64 fk, .int .i64 fl, .string (bs fv)] 36))
              have HOB := hd (HO2.o.alloc (.cells #[.int .i64 fk, .int .i64 fl, .string (bs fv)] 36))
              have HKB := hd (Blk.new wj 36 #[.int .i64 fk, .int .i64 fl, .string (bs fv)])
              go_wp2_with fail
              refine (K1.o _ HCB.o).mono ?_
              rintro e w7 ⟨rfl, hb7⟩
              have HC7 := hd (chg_tB HCB.o hb7)
              have HO7 := hd (HOB.o.below hb7)
              have HK7 := hd (HKB.o.below hb7 (Blk.lt HKB.o))
              clear hb7 c0 c1 c2
              have d0 := HK7.o.at_ 0 rfl
              have d1 := HK7.o.at_ 1 rfl
              have d2' := HK7.o.at_ 2 rfl
              cases v1 with
              | true =>
                have HCOND := hd (show (⟨fk, fl, fv⟩ : Fld) ∈ RL ∨ (⟨fk, fl, fv⟩ : Fld) ∉ PL from .inl (of_decide_eq_true HV1.o))
                have HK1 := hd (HKT.o.trans (by rw [if_pos HCOND.o]))
                have hsz := HC7.o.size
                go_wp2_with (at_builtin; refine wpList_append_row rfl _ _ 22 rfl T 36 i0 (.agg #[.int .i64 0, .int .i64 0, .string ⟨#[]⟩]) 3 32 Tryz.underlying22 hi hz0 hz1 hz2 rfl D2 q2 d2 (fsE (OL ++ keepL PL (QL.take j) RL)) rfl (HO7.o.alloc _) ⟨_, 0, none⟩ 1 1 [.int .i64 fk, .int .i64 fl, .string (bs fv)] rfl rfl (cells_at (Blk.new_ _ _ (by simp) _ _) rfl) (by simp [Value.oneCell']) (by omega) (by unfold maxLen; omega) (by omega) ?_; intro A2 cc2 w9 hown hchg)
                go_roundw
                case rel =>
                  refine ⟨j + 1, A2, q2 + 1, cc2, by go_num, by omega, rfl, by omega, hd ?_, hd ?_, hd ?_⟩
                  · rw [HK1.o, ← List.append_assoc, List.length_append, ← HQ2.o]; rfl
                  · rw [HK1.o, ← List.append_assoc, fsE_snoc]; exact hown.mono (HTP.o _ (by simp; omega) (by simp; omega))
                  · exact chg_tt (HC7.o.alloc _) hchg
                case measure => simp [intOf]; omega
              | false =>
                go_wp2_with fail
                refine (K2.o _ HC7.o).mono ?_
                rintro e w8 ⟨rfl, hb8⟩
                have HC8 := hd (chg_tB HC7.o hb8)
                have HO8 := hd (HO7.o.below hb8)
                have HK8 := hd (HK7.o.below hb8 (Blk.lt HK7.o))
                clear hb8 d0 d1 d2'
                have d0 := HK8.o.at_ 0 rfl
                have d1 := HK8.o.at_ 1 rfl
                have d2' := HK8.o.at_ 2 rfl
                cases v2 with
                | true =>
                  have HK1 := hd (HKT.o.trans (by rw [if_neg (fun h => h.elim (of_decide_eq_false HV1.o) (fun h => h (of_decide_eq_true HV2.o))), List.append_nil]))
                  go_wp2
                  go_roundw
                  case rel => exact ⟨j + 1, D2, q2, d2, by go_num, by omega, rfl, by omega, hd (by rw [HK1.o]; exact HQ2.o), hd (by rw [HK1.o]; exact HO8.o), HC8⟩
                  case measure => simp [intOf]; omega
                | false =>
                  have HCOND := hd (show (⟨fk, fl, fv⟩ : Fld) ∈ RL ∨ (⟨fk, fl, fv⟩ : Fld) ∉ PL from .inr (of_decide_eq_false HV2.o))
                  have HK1 := hd (HKT.o.trans (by rw [if_pos HCOND.o]))
                  have hsz := HC8.o.size
                  go_wp2_with (at_builtin; refine wpList_append_row rfl _ _ 22 rfl T 36 i0 (.agg #[.int .i64 0, .int .i64 0, .string ⟨#[]⟩]) 3 32 Tryz.underlying22 hi hz0 hz1 hz2 rfl D2 q2 d2 (fsE (OL ++ keepL PL (QL.take j) RL)) rfl (HO8.o.alloc _) ⟨_, 0, none⟩ 1 1 [.int .i64 fk, .int .i64 fl, .string (bs fv)] rfl rfl (cells_at (Blk.new_ _ _ (by simp) _ _) rfl) (by simp [Value.oneCell']) (by omega) (by unfold maxLen; omega) (by omega) ?_; intro A2 cc2 w9 hown hchg)
                  go_roundw
                  case rel =>
                    refine ⟨j + 1, A2, q2 + 1, cc2, by go_num, by omega, rfl, by omega, hd ?_, hd ?_, hd ?_⟩
                    · rw [HK1.o, ← List.append_assoc, List.length_append, ← HQ2.o]; rfl
                    · rw [HK1.o, ← List.append_assoc, fsE_snoc]; exact hown.mono (HTP.o _ (by simp; omega) (by simp; omega))
                    · exact chg_tt (HC8.o.alloc _) hchg
                  case measure => simp [intOf]; omega
            · have hlti : decide ((j : Int) < (mq : Int)) = false := by simp; omega
              have htk : QL.take j = QL := List.take_of_length_le (by rw [← MQ.o]; omega)
              rw [htk] at HQ2 HO2
              clear htk
              have W1 := hd (wo_calls wj Br Bp mr dr mp dp RL PL MR.o (HRR.o wj HC2.o) MP.o (HRP.o wj HC2.o) (by omega) (by omega))
              go_wp2_with fail
              refine W1.o.mono ?_
              rintro e w7 ⟨⟨B7, m7, d7, rfl, hm7, hr7, hb7⟩⟩
              have HC7 := hd (chg_tB HC2.o hb7)
              have HO7 := hd (HO2.o.below hb7)
              have hl7 : m7 ≤ mr := by have := wo_len RL PL; rw [hm7, MR.o]; exact this
              have W2 := hd (wo_calls w7 B7 Bq m7 d7 mq dq (woL RL PL) QL hm7 hr7.rds MQ.o (HRQ.o w7 HC7.o) (by omega) (by omega))
              have HM7 := hd hm7
              clear hb7 hr7 hm7 W1
              go_wp2_with fail
              refine W2.o.mono ?_
              rintro e w8 ⟨⟨B8, m8, d8, rfl, hm8, hr8, hb8⟩⟩
              have HC8 := hd (chg_tB HC7.o hb8)
              have HO8 := hd (HO7.o.below hb8)
              have hl8 : m8 ≤ m7 := by have := wo_len (woL RL PL) QL; rw [hm8, HM7.o]; exact this
              have hs8 := HC8.o.size
              have HM8 := hd hm8
              have HR8 := hd hr8.rds
              clear hb8 hr8 hm8 W2
              go_wp2_with (at_builtin; refine wpList_append_rowG rfl _ _ 22 rfl T 36 i0 (.agg #[.int .i64 0, .int .i64 0, .string ⟨#[]⟩]) 3 32 Tryz.underlying22 hi hz0 hz1 hz2 rfl D2 q2 d2 (fsE (OL ++ keepL PL QL RL)) rfl HO8.o B8 m8 d8 (fsE (woL (woL RL PL) QL)) rfl (HR8.o) (ones_f _) (by unfold maxLen; omega) (by omega) ?_; intro D9 d9 w9 hown hchg; have HO9 := hd (show Row w9 T 36 3 D9 (q2 + m8) d9 (fsE (OL ++ keepL PL QL RL ++ woL (woL RL PL) QL)) by rw [fsE_app]; exact hown.mono (HTP.o _ (by omega) (by omega))); have HC9 := hd (chg_tt HC8.o hchg); clear hown hchg)
              go_roundw
              case rel =>
                refine ⟨k + 1, D9, q2 + m8, d9, by go_num, by omega, by omega, rfl, by omega, ?_, hd ?_, hd ?_, hd ?_⟩
                · rw [show k + 1 - 1 = k from rfl, HS2.o]; first | rfl | simp
                · rw [show k + 1 - 1 = k from rfl, HS1.o, ← List.append_assoc, List.length_append, ← HQ2.o, ← HM8.o]
                · rw [show k + 1 - 1 = k from rfl, HS1.o, ← List.append_assoc]; exact HO9.o.mono (fun q h => HTB.o q h)
                · exact HWI.o.trans (HC9.o.below HTB.o h5w6)
              case measure => simp [intOf]; omega
        -- E
      · have hn3 : ((k : Int) == 3) = false := by simp; exact fun h => hmany (.inl (by omega))
        have hn4 : ((k : Int) == 4) = false := by simp; exact fun h => hmany (.inr (.inl (by omega)))
        have hn6 : ((k : Int) == 6) = false := by simp; exact fun h => hmany (.inr (.inr (by omega)))
        have EQ1 := hd (equal_calls w6 Bq Bp mq dq mp dp QL PL MQ.o MP.o (HRQ.o w6 HC6.o) (HRP.o w6 HC6.o) (by omega) (by omega))
        have EQ2 := hd (fun W (h : Chg T w6 W) => equal_calls W Br Bp mr dr mp dp RL PL MR.o MP.o (HRR.o W h) (HRP.o W h) (by omega) (by omega))
        have EQ3 := hd (fun W (h : Chg T w6 W) => equal_calls W Bq Br mq dq mr dr QL RL MQ.o MR.o (HRQ.o W h) (HRR.o W h) (by omega) (by omega))
        have HPM := hd (by have h1 := HPK.o; rw [if_neg hmany] at h1; exact h1)
        by_cases e1 : QL = PL
        · rw [decide_eq_true e1] at EQ1
          have HS1 := hd (HST.o.1.trans (by rw [HPM.o, if_pos e1]))
          have HS2 := hd (HST.o.2.trans (by rw [HTK.o, if_pos (.inr (.inl e1))]))
          clear hmany HPK HTK HST HPM e1 EQ2 EQ3
          go_wp2_with fail
          refine EQ1.o.mono ?_
          rintro e w8 ⟨rfl, hb8⟩
          -- B
          have HC8 := hd (Chg.of_below T hb8)
          have HO8 := hd (HO6.o.below hb8)
          have hs8 := HC8.o.size
          clear hb8
          go_wp2_with (at_builtin; refine wpList_append_rowG rfl _ _ 22 rfl T 36 i0 (.agg #[.int .i64 0, .int .i64 0, .string ⟨#[]⟩]) 3 32 Tryz.underlying22 hi hz0 hz1 hz2 rfl D q d (fsE (OL)) rfl HO8.o Br mr dr (fsE (RL)) rfl (HRR.o w8 HC8.o) (ones_f _) (by unfold maxLen; omega) (by omega) ?_; intro D9 d9 w9 hown hchg; have HO9 := hd (show Row w9 T 36 3 D9 (q + mr) d9 (fsE (OL ++ RL)) by rw [fsE_app]; exact hown.mono (HTP.o _ (by omega) (by omega))); have HC9 := hd (chg_tt HC8.o hchg); clear hown hchg)
          go_roundw
          case rel =>
            refine ⟨k + 1, D9, q + mr, d9, by go_num, by omega, by omega, rfl, by omega, ?_, hd ?_, hd ?_, hd ?_⟩
            · rw [show k + 1 - 1 = k from rfl, HS2.o]; first | rfl | simp
            · rw [show k + 1 - 1 = k from rfl, HS1.o, List.length_append, ← HQ.o, ← MR.o]
            · rw [show k + 1 - 1 = k from rfl, HS1.o]; exact HO9.o.mono (fun q h => HTB.o q h)
            · exact HWI.o.trans (HC9.o.below HTB.o h5w6)
          case measure => simp [intOf]; omega
          -- E
        · rw [decide_eq_false e1] at EQ1
          have HPN := hd (by have h1 := HPM.o; rw [if_neg e1] at h1; exact h1)
          have HS1 := hd (HST.o.1.trans (by rw [HPN.o]))
          by_cases e2 : RL = PL
          · rw [decide_eq_true e2] at EQ2
            have HS2 := hd (HST.o.2.trans (by rw [HTK.o, if_pos (.inr (.inr (.inl e2)))]))
            clear hmany HPK HTK HST HPM HPN e1 e2 EQ3
            go_wp2_with fail
            refine EQ1.o.mono ?_
            rintro e w7 ⟨rfl, hb7⟩
            have HC7 := hd (Chg.of_below T hb7)
            have HO7 := hd (HO6.o.below hb7)
            clear hb7
            go_wp2_with fail
            refine (EQ2.o _ HC7.o).mono ?_
            rintro e w8 ⟨rfl, hb8⟩
            -- B
            have HC8 := hd (chg_tB HC7.o hb8)
            have HO8 := hd (HO7.o.below hb8)
            have hs8 := HC8.o.size
            clear hb8
            go_wp2_with (at_builtin; refine wpList_append_rowG rfl _ _ 22 rfl T 36 i0 (.agg #[.int .i64 0, .int .i64 0, .string ⟨#[]⟩]) 3 32 Tryz.underlying22 hi hz0 hz1 hz2 rfl D q d (fsE (OL)) rfl HO8.o Bq mq dq (fsE (QL)) rfl (HRQ.o w8 HC8.o) (ones_f _) (by unfold maxLen; omega) (by omega) ?_; intro D9 d9 w9 hown hchg; have HO9 := hd (show Row w9 T 36 3 D9 (q + mq) d9 (fsE (OL ++ QL)) by rw [fsE_app]; exact hown.mono (HTP.o _ (by omega) (by omega))); have HC9 := hd (chg_tt HC8.o hchg); clear hown hchg)
            go_roundw
            case rel =>
              refine ⟨k + 1, D9, q + mq, d9, by go_num, by omega, by omega, rfl, by omega, ?_, hd ?_, hd ?_, hd ?_⟩
              · rw [show k + 1 - 1 = k from rfl, HS2.o]; first | rfl | simp
              · rw [show k + 1 - 1 = k from rfl, HS1.o, List.length_append, ← HQ.o, ← MQ.o]
              · rw [show k + 1 - 1 = k from rfl, HS1.o]; exact HO9.o.mono (fun q h => HTB.o q h)
              · exact HWI.o.trans (HC9.o.below HTB.o h5w6)
            case measure => simp [intOf]; omega
            -- E
          · rw [decide_eq_false e2] at EQ2
            by_cases e3 : QL = RL
            · rw [decide_eq_true e3] at EQ3
              have HS2 := hd (HST.o.2.trans (by rw [HTK.o, if_pos (.inr (.inr (.inr e3)))]))
              clear hmany HPK HTK HST HPM HPN e1 e2 e3
              go_wp2_with fail
              refine EQ1.o.mono ?_
              rintro e w7 ⟨rfl, hb7⟩
              have HC7 := hd (Chg.of_below T hb7)
              have HO7 := hd (HO6.o.below hb7)
              clear hb7
              go_wp2_with fail
              refine (EQ2.o _ HC7.o).mono ?_
              rintro e wc ⟨rfl, hbc⟩
              have HCc := hd (chg_tB HC7.o hbc)
              have HOc := hd (HO7.o.below hbc)
              clear hbc HC7 HO7
              go_wp2_with fail
              refine (EQ3.o _ HCc.o).mono ?_
              rintro e w8 ⟨rfl, hb8⟩
              -- B
              have HC8 := hd (chg_tB HCc.o hb8)
              have HO8 := hd (HOc.o.below hb8)
              have hs8 := HC8.o.size
              clear hb8
              go_wp2_with (at_builtin; refine wpList_append_rowG rfl _ _ 22 rfl T 36 i0 (.agg #[.int .i64 0, .int .i64 0, .string ⟨#[]⟩]) 3 32 Tryz.underlying22 hi hz0 hz1 hz2 rfl D q d (fsE (OL)) rfl HO8.o Bq mq dq (fsE (QL)) rfl (HRQ.o w8 HC8.o) (ones_f _) (by unfold maxLen; omega) (by omega) ?_; intro D9 d9 w9 hown hchg; have HO9 := hd (show Row w9 T 36 3 D9 (q + mq) d9 (fsE (OL ++ QL)) by rw [fsE_app]; exact hown.mono (HTP.o _ (by omega) (by omega))); have HC9 := hd (chg_tt HC8.o hchg); clear hown hchg)
              go_roundw
              case rel =>
                refine ⟨k + 1, D9, q + mq, d9, by go_num, by omega, by omega, rfl, by omega, ?_, hd ?_, hd ?_, hd ?_⟩
                · rw [show k + 1 - 1 = k from rfl, HS2.o]; first | rfl | simp
                · rw [show k + 1 - 1 = k from rfl, HS1.o, List.length_append, ← HQ.o, ← MQ.o]
                · rw [show k + 1 - 1 = k from rfl, HS1.o]; exact HO9.o.mono (fun q h => HTB.o q h)
                · exact HWI.o.trans (HC9.o.below HTB.o h5w6)
              case measure => simp [intOf]; omega
              -- E
            · rw [decide_eq_false e3] at EQ3
              have HS2 := hd (HST.o.2.trans (by rw [HTK.o, if_neg (fun h => by rcases h with h | h | h | h; exact hmany h; exact e1 h; exact e2 h; exact e3 h)]))
              clear hmany HPK HTK HST HPM HPN e1 e2 e3
              go_wp2_with fail
              refine EQ1.o.mono ?_
              rintro e w7 ⟨rfl, hb7⟩
              have HC7 := hd (Chg.of_below T hb7)
              have HO7 := hd (HO6.o.below hb7)
              clear hb7
              go_wp2_with fail
              refine (EQ2.o _ HC7.o).mono ?_
              rintro e wc ⟨rfl, hbc⟩
              have HCc := hd (chg_tB HC7.o hbc)
              have HOc := hd (HO7.o.below hbc)
              clear hbc HC7 HO7
              go_wp2_with fail
              refine (EQ3.o _ HCc.o).mono ?_
              rintro e w8 ⟨rfl, hb8⟩
              -- B
              have HC8 := hd (chg_tB HCc.o hb8)
              have HO8 := hd (HOc.o.below hb8)
              have hs8 := HC8.o.size
              clear hb8
              go_wp2_with (at_builtin; refine wpList_append_rowG rfl _ _ 22 rfl T 36 i0 (.agg #[.int .i64 0, .int .i64 0, .string ⟨#[]⟩]) 3 32 Tryz.underlying22 hi hz0 hz1 hz2 rfl D q d (fsE (OL)) rfl HO8.o Bq mq dq (fsE (QL)) rfl (HRQ.o w8 HC8.o) (ones_f _) (by unfold maxLen; omega) (by omega) ?_; intro D9 d9 w9 hown hchg; have HO9 := hd (show Row w9 T 36 3 D9 (q + mq) d9 (fsE (OL ++ QL)) by rw [fsE_app]; exact hown.mono (HTP.o _ (by omega) (by omega))); have HC9 := hd (chg_tt HC8.o hchg); clear hown hchg)
              go_roundw
              case rel =>
                refine ⟨k + 1, D9, q + mq, d9, by go_num, by omega, by omega, rfl, by omega, ?_, hd ?_, hd ?_, hd ?_⟩
                · rw [show k + 1 - 1 = k from rfl, HS2.o]; first | rfl | simp
                · rw [show k + 1 - 1 = k from rfl, HS1.o, List.length_append, ← HQ.o, ← MQ.o]
                · rw [show k + 1 - 1 = k from rfl, HS1.o]; exact HO9.o.mono (fun q h => HTB.o q h)
                · exact HWI.o.trans (HC9.o.below HTB.o h5w6)
              case measure => simp [intOf]; omega
              -- E
    · have hlei : decide ((k : Int) ≤ 6) = false := by simp; omega
    -- B
      obtain rfl : k = 7 := by omega
      have HC := hd (show Below w.heap.size w wi from HB5.o.trans (HW.o.mono HB5.o.size))
      have C1 := ctext_calls wi (HT.o wi HC.o) D q d (thrL SO SA SB) (by rw [HQ.o]; unfold thrL; rw [HXO.o, HXA.o, HXB.o]) (by unfold thrL; rw [HXO.o, HXA.o, HXB.o]; exact HO.o.rds) (by omega) (fun f hf => by
        rcases mrg_mem hf with h | h
        · rw [HXA.o] at h; have := V2.o f h; omega
        · rw [HXB.o] at h; have := V3.o f h; omega)
      have HTY := hd (thr_yes HY.o)
      by_cases hce : cardE (thrL SO SA SB) = 0
      · have HM := hd (thr_m HY.o hce)
        have HN := hd (show thrN SO SA SB = mrgN XO XA XB (7 - 1) by unfold thrN; rw [HXO.o, HXA.o, HXB.o])
        rw [hce] at C1
        have HCE := hd hce
        replace C1 := hd C1
        clear hce
        go_wp2_with fail
        refine C1.o.mono ?_
        rintro e w8 ⟨rfl, hb8⟩
        go_wp2
        go_ret3
        exact ⟨retT3 (by rw [HTY.o.1]) (by rw [HM.o, HN.o]) (by rw [HTY.o.2, HCE.o]), HC.o.trans (hb8.mono HC.o.size)⟩
      · have HM := hd (thr_m0 hce)
        have HTT := hd (cardT_no hce)
        obtain ⟨CE, hCE⟩ : ∃ E, cardE (thrL SO SA SB) = E := ⟨_, rfl⟩
        rw [hCE] at C1 hce
        have HCE := hd hCE
        have hne : (CE != 0) = true := by simpa using hce
        replace C1 := hd C1
        clear hce hCE
        go_wp2_with fail
        refine C1.o.mono ?_
        rintro e w8 ⟨rfl, hb8⟩
        go_wp2
        go_ret3
        exact ⟨retT3 (by rw [HTY.o.1, HTT.o]; rfl) (by rw [HM.o]; rfl) (by rw [HTY.o.2, HCE.o]), HC.o.trans (hb8.mono HC.o.size)⟩
    -- E

end Go.Proofs.YtpejlcaoggedfaaGreatDoor
