/-
  Merge: the law of what it is made of.
-/
import Derived.Test.YtpejlcaoggedfaaGreatDoorGD
set_option linter.unusedVariables false
set_option linter.unusedSimpArgs false
namespace Go.Proofs.YtpejlcaoggedfaaGreatDoor
open Go.RowKit Go.Sort

set_option maxRecDepth 100000 in
set_option maxHeartbeats 8000000 in
theorem mmakes_calls (so sa sb : ByteArray) (w : World) (ht : Tbs w) (zo : so.size ≤ maxLen) (za : sa.size ≤ maxLen) (zb : sb.size ≤ maxLen) :
    Calls Tryz.prog 8 #[.string so, .string sa, .string sb] w fun e w' => e = .returned (.bool true) ∧ Below w.heap.size w w' := by
  have HT := hd (fun W (h : Below w.heap.size w W) => ht.below h)
  have F1 := hd (fun W (h : Below w.heap.size w W) => mfirst_calls W (ht.below h))
  have L1 := fun W => mlight_calls so sa sb zo za zb W
  clear ht
  by_cases hl : ShortP so sa sb
  case neg =>
    rw [decide_eq_false hl] at L1
    replace L1 := hd L1
    clear hl
    go_enter Tryz.func8, Tryz.ntmps8
    go_wp2_with fail
    refine (F1.o w (Below.refl _ _)).mono ?_
    rintro e w1 ⟨rfl, hb1⟩
    have HB1 := hd hb1
    clear hb1
    go_wp2_with fail
    refine (L1.o w1).mono ?_
    rintro e w2 ⟨rfl, rfl⟩
    go_wp2_with fail
    refine (F1.o w1 HB1.o).mono ?_
    rintro e wz ⟨rfl, hbz⟩
    have HBz := hd (HB1.o.trans (hbz.mono HB1.o.size))
    clear hbz
    go_wp2
    go_ret
    exact ⟨rfl, HBz.o⟩
  rw [decide_eq_true hl] at L1
  replace L1 := hd L1
  have yo : so.size ≤ 1000000 := by have := hl.1; omega
  have ya : sa.size ≤ 1000000 := by have := hl.2.1; omega
  have yb : sb.size ≤ 1000000 := by have := hl.2.2; omega
  clear hl
  have T1 := fun W (h : Below w.heap.size w W) => three_calls so sa sb yo ya yb W (HT.o W h)
  by_cases h1 : thrE so.data.toList sa.data.toList sb.data.toList = 0
  case neg =>
    rw [(thr_fail h1).1, (thr_fail h1).2] at T1
    obtain ⟨E, hE⟩ : ∃ V, thrE so.data.toList sa.data.toList sb.data.toList = V := ⟨_, rfl⟩
    rw [hE] at T1 h1
    have hne : (E != 0) = true := by simpa using h1
    have hbn : bs [] = ⟨#[]⟩ := rfl
    rw [hbn] at T1
    replace T1 := hd T1
    clear h1 hE hbn
    go_enter Tryz.func8, Tryz.ntmps8
    go_wp2_with fail
    refine (F1.o w (Below.refl _ _)).mono ?_
    rintro e w1 ⟨rfl, hb1⟩
    have HB1 := hd hb1
    clear hb1
    go_wp2_with fail
    refine (L1.o w1).mono ?_
    rintro e w2 ⟨rfl, rfl⟩
    go_wp2_with fail
    refine (T1.o w1 HB1.o).mono ?_
    rintro e w2 ⟨rfl, hb⟩
    have HB2 := hd (HB1.o.trans (hb.mono HB1.o.size))
    clear hb
    go_wp2
    go_ret
    exact ⟨rfl, HB2.o⟩
  have HSOME := hd (fun f => @thr_some _ _ _ h1 f)
  have HBOTH := hd (fun f => @thr_both _ _ _ h1 f)
  have HOK := hd (thr_ok h1).1
  have HRD := hd (crd_yes (thr_reads h1)).2
  have HLT := hd (thr_len so.data.toList sa.data.toList sb.data.toList)
  rw [h1] at T1
  obtain ⟨V, hV⟩ : ∃ V, thrT so.data.toList sa.data.toList sb.data.toList = V := ⟨_, rfl⟩
  obtain ⟨M, hM⟩ : ∃ V, thrM so.data.toList sa.data.toList sb.data.toList = V := ⟨_, rfl⟩
  rw [hV, hM] at T1
  rw [hV] at HSOME HBOTH HRD HLT
  replace T1 := hd T1
  have hL1 := hd (crd_len V)
  have hL2 := hd (crd_len sa.data.toList)
  have hL3 := hd (crd_len sb.data.toList)
  have P1 := fun W => rcparse_calls (bs V) (by rw [bs_size]; have := HLT.o; omega) W
  have P2 := fun W => rcparse_calls sa ya W
  have P3 := fun W => rcparse_calls sb yb W
  rw [bs_data] at P1
  obtain ⟨XL, hXL⟩ : ∃ l, crdF V = l := ⟨_, rfl⟩
  obtain ⟨XA, hXA⟩ : ∃ l, crdF sa.data.toList = l := ⟨_, rfl⟩
  obtain ⟨XB, hXB⟩ : ∃ l, crdF sb.data.toList = l := ⟨_, rfl⟩
  rw [hXL] at HSOME HBOTH hL1
  rw [hXA] at HSOME HBOTH hL2
  rw [hXB] at HSOME HBOTH hL3
  have HXL := hd hXL
  have HXA := hd hXA
  have HXB := hd hXB
  replace P1 := hd P1
  replace P2 := hd P2
  replace P3 := hd P3
  clear h1 hV hM hXL hXA hXB
  go_enter Tryz.func8, Tryz.ntmps8
  go_wp2_with fail
  refine (F1.o w (Below.refl _ _)).mono ?_
  rintro e w1 ⟨rfl, hb1⟩
  have HB1 := hd hb1
  clear hb1
  go_wp2_with fail
  refine (L1.o w1).mono ?_
  rintro e w2 ⟨rfl, rfl⟩
  go_wp2_with fail
  refine (T1.o w1 HB1.o).mono ?_
  rintro e w2 ⟨rfl, hb⟩
  have HB2 := hd (HB1.o.trans (hb.mono HB1.o.size))
  clear hb
  go_wp2_with fail
  refine (P1.o w2).mono ?_
  rintro e w3 ⟨⟨B1, m1, d1, rfl, hm1, hr1, hb⟩⟩
  rw [HXL.o] at hm1 hr1
  rw [HRD.o]
  have M1 := hd hm1
  have R1 := hd hr1.rds
  have HB3 := hd (HB2.o.trans (hb.mono HB2.o.size))
  clear hm1 hr1 hb
  go_wp2_with fail
  refine (P2.o w3).mono ?_
  rintro e w4 ⟨⟨B2, m2, d2, rfl, hm2, hr2, hb⟩⟩
  rw [HXA.o] at hm2 hr2
  rw [HOK.o.2.1]
  have M2 := hd hm2
  have R2 := hd hr2.rds
  replace R1 := hd (R1.o.below hb)
  have HB4 := hd (HB3.o.trans (hb.mono HB3.o.size))
  clear hm2 hr2 hb
  go_wp2_with fail
  refine (P3.o w4).mono ?_
  rintro e w5 ⟨⟨B3, m3, d3, rfl, hm3, hr3, hb⟩⟩
  rw [HXB.o] at hm3 hr3
  rw [HOK.o.2.2]
  have M3 := hd hm3
  have HB5 := hd (HB4.o.trans (hb.mono HB4.o.size))
  have Q1 := hd (fun W (h : Below w5.heap.size w5 W) => (R1.o.below hb).below h)
  have Q2 := hd (fun W (h : Below w5.heap.size w5 W) => (R2.o.below hb).below h)
  have Q3 := hd (fun W (h : Below w5.heap.size w5 W) => hr3.rds.below h)
  have l1 : m1 ≤ 12 := by rw [M1.o]; exact hL1.o
  have l2 : m2 ≤ 12 := by rw [M2.o]; exact hL2.o
  have l3 : m3 ≤ 12 := by rw [M3.o]; exact hL3.o
  clear hm3 hr3 hb R1 R2
  go_wp2_with fail
  go_loopw [16] (fun i wr => ∃ (k : Nat), i = .int .i64 k ∧ k ≤ m1 ∧ Hd (Below w5.heap.size w5 wr)) (fun i _ => m1 - (intOf i).toNat)
  case atStart => exact ⟨0, rfl, Nat.zero_le _, hd (Below.refl _ _)⟩
  case round =>
    obtain ⟨k, rfl, hk, HW⟩ := hrel
    obtain ⟨wi, rfl⟩ : ∃ wi : World, wi = wr := ⟨_, rfl⟩
    by_cases hlt : k < m1
    · have hlti : decide ((k : Int) < (m1 : Int)) = true := by simp; omega
      have hkl : k < XL.length := by rw [← M1.o]; exact hlt
      obtain ⟨f, hf⟩ : ∃ f, XL[k]'hkl = f := ⟨_, rfl⟩
      obtain ⟨g, o, rfl, hg, hc⟩ := (Q1.o wi HW.o).at_ (by omega)
      have hcf : ∀ t u, t < 3 → (fEnc f)[t]? = some u → wi.cell? ⟨g, o + k * 3 + t, none⟩ = some u := fun t u ht hv => by
        rw [Nat.add_assoc]
        exact hc _ _ ((fsE_at XL k hkl t ht).trans (by rw [hf]; exact hv))
      have c0 := hcf 0 _ (by omega) rfl
      have c1 := hcf 1 _ (by omega) rfl
      have c2 := hcf 2 _ (by omega) rfl
      rw [Nat.add_zero] at c0
      clear hcf hc
      have K2 := fun W (h : Below w5.heap.size w5 W) => has_calls W B2 m2 d2 XA f M2.o (Q2.o W h) (by omega)
      have K3 := fun W (h : Below w5.heap.size w5 W) => has_calls W B3 m3 d3 XB f M3.o (Q3.o W h) (by omega)
      have hsm := HSOME.o f (by rw [← hf]; exact List.getElem_mem _)
      clear hf
      by_cases hfa : f ∈ XA
      · rw [decide_eq_true hfa] at K2
        obtain ⟨fk, fl, fv⟩ := f
        simp only [fldV] at K2 K3
        replace K2 := hd K2
        clear K3 hfa hsm
        go_wp2_with fail
        refine (K2.o wi HW.o).mono ?_
        rintro e wj ⟨rfl, hb⟩
        have hsj := hb.size
        have HW2 := hd (HW.o.trans (hb.mono HW.o.size))
        have c0' := (hb.cell (p := ⟨g, o + k * 3, none⟩) hg).trans c0
        have c1' := (hb.cell (p := ⟨g, o + k * 3 + 1, none⟩) hg).trans c1
        have c2' := (hb.cell (p := ⟨g, o + k * 3 + 2, none⟩) hg).trans c2
        clear hb c0 c1 c2
        go_wp2
        go_roundw
        case rel => exact ⟨k + 1, by go_num, by omega, HW2⟩
        case measure => simp [intOf]; omega
      · have hfb : f ∈ XB := hsm.elim (fun h => absurd h hfa) id
        rw [decide_eq_false hfa] at K2
        rw [decide_eq_true hfb] at K3
        obtain ⟨fk, fl, fv⟩ := f
        simp only [fldV] at K2 K3
        replace K2 := hd K2
        replace K3 := hd K3
        clear hfa hfb hsm
        go_wp2_with fail
        refine (K2.o wi HW.o).mono ?_
        rintro e wj ⟨rfl, hb⟩
        have hsj := hb.size
        have HW2 := hd (HW.o.trans (hb.mono HW.o.size))
        have c0' := (hb.cell (p := ⟨g, o + k * 3, none⟩) hg).trans c0
        have c1' := (hb.cell (p := ⟨g, o + k * 3 + 1, none⟩) hg).trans c1
        have c2' := (hb.cell (p := ⟨g, o + k * 3 + 2, none⟩) hg).trans c2
        clear hb c0 c1 c2
        have hgj := Nat.lt_of_lt_of_le hg hsj
        go_wp2_with fail
        refine (K3.o wj HW2.o).mono ?_
        rintro e wk ⟨rfl, hb⟩
        have HW3 := hd (HW2.o.trans (hb.mono HW2.o.size))
        have c0'' := (hb.cell (p := ⟨g, o + k * 3, none⟩) hgj).trans c0'
        have c1'' := (hb.cell (p := ⟨g, o + k * 3 + 1, none⟩) hgj).trans c1'
        have c2'' := (hb.cell (p := ⟨g, o + k * 3 + 2, none⟩) hgj).trans c2'
        clear hb c0' c1' c2'
        go_wp2
        go_roundw
        case rel => exact ⟨k + 1, by go_num, by omega, HW3⟩
        case measure => simp [intOf]; omega
    · have hlti : decide ((k : Int) < (m1 : Int)) = false := by simp; omega
      have HBB := hd HW.o
      clear HW
      go_wp2_with fail
      go_loopw [17] (fun i wr => ∃ (k : Nat), i = .int .i64 k ∧ k ≤ m2 ∧ Hd (Below w5.heap.size w5 wr)) (fun i _ => m2 - (intOf i).toNat)
      case atStart => exact ⟨0, rfl, Nat.zero_le _, HBB⟩
      case round =>
        obtain ⟨k, rfl, hk, HW⟩ := hrel
        obtain ⟨wi, rfl⟩ : ∃ wi : World, wi = wr := ⟨_, rfl⟩
        by_cases hlt : k < m2
        · have hlti : decide ((k : Int) < (m2 : Int)) = true := by simp; omega
          have hkl : k < XA.length := by rw [← M2.o]; exact hlt
          obtain ⟨f, hf⟩ : ∃ f, XA[k]'hkl = f := ⟨_, rfl⟩
          obtain ⟨g, o, rfl, hg, hc⟩ := (Q2.o wi HW.o).at_ (by omega)
          have hcf : ∀ t u, t < 3 → (fEnc f)[t]? = some u → wi.cell? ⟨g, o + k * 3 + t, none⟩ = some u := fun t u ht hv => by
            rw [Nat.add_assoc]
            exact hc _ _ ((fsE_at XA k hkl t ht).trans (by rw [hf]; exact hv))
          have c0 := hcf 0 _ (by omega) rfl
          have c1 := hcf 1 _ (by omega) rfl
          have c2 := hcf 2 _ (by omega) rfl
          rw [Nat.add_zero] at c0
          clear hcf hc
          have K3 := fun W (h : Below w5.heap.size w5 W) => has_calls W B3 m3 d3 XB f M3.o (Q3.o W h) (by omega)
          have K1 := fun W (h : Below w5.heap.size w5 W) => has_calls W B1 m1 d1 XL f M1.o (Q1.o W h) (by omega)
          have hbo := HBOTH.o f (by rw [← hf]; exact List.getElem_mem _)
          clear hf
          by_cases hfb : f ∈ XB
          · have hfl := hbo hfb
            rw [decide_eq_true hfb] at K3
            rw [decide_eq_true hfl] at K1
            obtain ⟨fk, fl, fv⟩ := f
            simp only [fldV] at K3 K1
            replace K3 := hd K3
            replace K1 := hd K1
            clear hfb hfl hbo
            go_wp2_with fail
            refine (K3.o wi HW.o).mono ?_
            rintro e wj ⟨rfl, hb⟩
            have hsj := hb.size
            have HW2 := hd (HW.o.trans (hb.mono HW.o.size))
            have c0' := (hb.cell (p := ⟨g, o + k * 3, none⟩) hg).trans c0
            have c1' := (hb.cell (p := ⟨g, o + k * 3 + 1, none⟩) hg).trans c1
            have c2' := (hb.cell (p := ⟨g, o + k * 3 + 2, none⟩) hg).trans c2
            clear hb c0 c1 c2
            have hgj := Nat.lt_of_lt_of_le hg hsj
            go_wp2_with fail
            refine (K1.o wj HW2.o).mono ?_
            rintro e wk ⟨rfl, hb⟩
            have HW3 := hd (HW2.o.trans (hb.mono HW2.o.size))
            have c0'' := (hb.cell (p := ⟨g, o + k * 3, none⟩) hgj).trans c0'
            have c1'' := (hb.cell (p := ⟨g, o + k * 3 + 1, none⟩) hgj).trans c1'
            have c2'' := (hb.cell (p := ⟨g, o + k * 3 + 2, none⟩) hgj).trans c2'
            clear hb c0' c1' c2'
            go_wp2
            go_roundw
            case rel => exact ⟨k + 1, by go_num, by omega, HW3⟩
            case measure => simp [intOf]; omega
          · rw [decide_eq_false hfb] at K3
            obtain ⟨fk, fl, fv⟩ := f
            simp only [fldV] at K3 K1
            replace K3 := hd K3
            clear K1 hfb hbo
            go_wp2_with fail
            refine (K3.o wi HW.o).mono ?_
            rintro e wj ⟨rfl, hb⟩
            have hsj := hb.size
            have HW2 := hd (HW.o.trans (hb.mono HW.o.size))
            have c0' := (hb.cell (p := ⟨g, o + k * 3, none⟩) hg).trans c0
            have c1' := (hb.cell (p := ⟨g, o + k * 3 + 1, none⟩) hg).trans c1
            have c2' := (hb.cell (p := ⟨g, o + k * 3 + 2, none⟩) hg).trans c2
            clear hb c0 c1 c2
            go_wp2
            go_roundw
            case rel => exact ⟨k + 1, by go_num, by omega, HW2⟩
            case measure => simp [intOf]; omega
        · have hlti : decide ((k : Int) < (m2 : Int)) = false := by simp; omega
          have HBf := hd (HB5.o.trans (HW.o.mono HB5.o.size))
          go_wp2
          go_ret
          exact ⟨rfl, HBf.o⟩

end Go.Proofs.YtpejlcaoggedfaaGreatDoor
