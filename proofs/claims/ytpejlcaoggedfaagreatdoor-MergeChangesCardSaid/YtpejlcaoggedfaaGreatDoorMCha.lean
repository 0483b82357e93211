/-
  Merge: the law of what is gone and what has come.
-/
import Derived.Test.YtpejlcaoggedfaaGreatDoorGD
import Derived.Test.YtpejlcaoggedfaaGreatDoorGB
import Derived.Test.YtpejlcaoggedfaaGreatDoorKFs
set_option linter.unusedVariables false
set_option linter.unusedSimpArgs false
namespace Go.Proofs.YtpejlcaoggedfaaGreatDoor
open Go.RowKit Go.Sort

set_option maxRecDepth 100000 in
set_option maxHeartbeats 8000000 in
theorem mchanges_calls (sa sb : ByteArray) (w : World) (ht : Tbs w) (za : sa.size ≤ maxLen) (zb : sb.size ≤ maxLen) :
    Calls Tryz.prog 10 #[.string sa, .string sb] w fun e w' => e = .returned (.bool true) ∧ Below w.heap.size w w' := by
  obtain ⟨i0, hi, hz0, hz1, hz2⟩ := info_parts fInfo
  have HT := hd (fun W (h : Below w.heap.size w W) => ht.below h)
  have F1 := hd (fun W (h : Below w.heap.size w W) => mfirst_calls W (ht.below h))
  have L1 := fun W => mlight_calls sa sb ⟨#[]⟩ za zb (by decide) W
  clear ht
  by_cases hl : ShortP sa sb ⟨#[]⟩
  case neg =>
    rw [decide_eq_false hl] at L1
    replace L1 := hd L1
    clear hl
    go_enter Tryz.func10, Tryz.ntmps10
    go_wp2_with fail
    refine (F1.o w (Below.refl _ _)).mono ?_
    rintro e w1 ⟨rfl, hb1⟩
    have HB1 := hd hb1
    clear hb1
    go_wp2_with fail
    refine (L1.o w1).mono ?_
    rintro e w2 ⟨rfl, rfl⟩
    go_wp2_with fail
    refine (F1.o w1 HB1.o).mono ?_
    rintro e wz ⟨rfl, hbz⟩
    have HBz := hd (HB1.o.trans (hbz.mono HB1.o.size))
    clear hbz
    go_wp2
    go_ret
    exact ⟨rfl, HBz.o⟩
  rw [decide_eq_true hl] at L1
  replace L1 := hd L1
  have ya : sa.size ≤ 1000000 := by have := hl.1; omega
  have yb : sb.size ≤ 1000000 := by have := hl.2.1; omega
  clear hl
  have I1 := fun W => rcis_calls sa ya W
  have I2 := fun W => rcis_calls sb yb W
  by_cases h1 : crdE sa.data.toList = 0
  case neg =>
    rw [decide_eq_false h1] at I1
    replace I1 := hd I1
    clear h1 I2
    go_enter Tryz.func10, Tryz.ntmps10
    go_wp2_with fail
    refine (F1.o w (Below.refl _ _)).mono ?_
    rintro e w1 ⟨rfl, hb1⟩
    have HB1 := hd hb1
    clear hb1
    go_wp2_with fail
    refine (L1.o w1).mono ?_
    rintro e w2 ⟨rfl, rfl⟩
    go_wp2_with fail
    refine (I1.o w1).mono ?_
    rintro e w2 ⟨rfl, hb⟩
    have HB2 := hd (HB1.o.trans (hb.mono HB1.o.size))
    clear hb
    go_wp2_with fail
    refine (F1.o w2 HB2.o).mono ?_
    rintro e wz ⟨rfl, hbz⟩
    have HBz := hd (HB2.o.trans (hbz.mono HB2.o.size))
    clear hbz
    go_wp2
    go_ret
    exact ⟨rfl, HBz.o⟩
  rw [decide_eq_true h1] at I1
  replace I1 := hd I1
  by_cases h2 : crdE sb.data.toList = 0
  case neg =>
    rw [decide_eq_false h2] at I2
    replace I2 := hd I2
    clear h1 h2
    go_enter Tryz.func10, Tryz.ntmps10
    go_wp2_with fail
    refine (F1.o w (Below.refl _ _)).mono ?_
    rintro e w1 ⟨rfl, hb1⟩
    have HB1 := hd hb1
    clear hb1
    go_wp2_with fail
    refine (L1.o w1).mono ?_
    rintro e w2 ⟨rfl, rfl⟩
    go_wp2_with fail
    refine (I1.o w1).mono ?_
    rintro e w2 ⟨rfl, hb⟩
    have HB2 := hd (HB1.o.trans (hb.mono HB1.o.size))
    clear hb
    go_wp2_with fail
    refine (I2.o w2).mono ?_
    rintro e w3 ⟨rfl, hb⟩
    have HB3 := hd (HB2.o.trans (hb.mono HB2.o.size))
    clear hb
    go_wp2_with fail
    refine (F1.o w3 HB3.o).mono ?_
    rintro e wz ⟨rfl, hbz⟩
    have HBz := hd (HB3.o.trans (hbz.mono HB3.o.size))
    clear hbz
    go_wp2
    go_ret
    exact ⟨rfl, HBz.o⟩
  rw [decide_eq_true h2] at I2
  replace I2 := hd I2
  have C1 := hd (fun W (h : Below w.heap.size w W) => chg_calls sa sb ya yb W (HT.o W h))
  have C2 := hd (fun W (h : Below w.heap.size w W) => chg_calls sb sa yb ya W (HT.o W h))
  have P1 := hd (fun W => rcparse_calls sa ya W)
  have HX := chg_yes (a := sa.data.toList) (b := sb.data.toList) ⟨h1, h2⟩
  have HY := chg_yes (a := sb.data.toList) (b := sa.data.toList) ⟨h2, h1⟩
  have HTX := chg_text h1 h2
  have hL1 := hd (crd_len sa.data.toList)
  have HMB := hd (ok_may (crd_ok h2))
  have HMA := hd (ok_may (crd_ok h1))
  obtain ⟨XA, hXA⟩ : ∃ l, crdF sa.data.toList = l := ⟨_, rfl⟩
  obtain ⟨XB, hXB⟩ : ∃ l, crdF sb.data.toList = l := ⟨_, rfl⟩
  rw [hXA, hXB] at HX HY HTX
  rw [hXA] at hL1 HMA
  rw [hXB] at HMB
  have HH1 := hd h1
  have HXA := hd hXA
  have HHX := hd HX
  have HHY := hd HY
  have HHT := hd HTX
  clear h1 h2 hXA hXB HX HY HTX
  go_enter Tryz.func10, Tryz.ntmps10
  go_wp2_with fail
  refine (F1.o w (Below.refl _ _)).mono ?_
  rintro e w1 ⟨rfl, hb1⟩
  have HB1 := hd hb1
  clear hb1
  go_wp2_with fail
  refine (L1.o w1).mono ?_
  rintro e w2 ⟨rfl, rfl⟩
  go_wp2_with fail
  refine (I1.o w1).mono ?_
  rintro e w2 ⟨rfl, hb⟩
  have HB2 := hd (HB1.o.trans (hb.mono HB1.o.size))
  clear hb
  go_wp2_with fail
  refine (I2.o w2).mono ?_
  rintro e w3 ⟨rfl, hb⟩
  have HB3 := hd (HB2.o.trans (hb.mono HB2.o.size))
  clear hb
  go_wp2_with fail
  refine (C1.o w3 HB3.o).mono ?_
  rintro e w4 ⟨⟨A1, B1, n1, cq1, m1, d1, rfl, hn1, hm1, ha1, hb1, ln1, lm1, hb⟩⟩
  rw [HHX.o.1] at hn1 ha1
  rw [HHX.o.2.1] at hm1 hb1
  rw [HHX.o.2.2]
  have HB4 := hd (HB3.o.trans (hb.mono HB3.o.size))
  have N1 := hd hn1
  have M1 := hd hm1
  have RA1 := hd ha1
  have RB1 := hd hb1
  clear hb hn1 hm1 ha1 hb1
  go_wp2_with fail
  refine (C2.o w4 HB4.o).mono ?_
  rintro e w5 ⟨⟨A2, B2, n2, cq2, m2, d2, rfl, hn2, hm2, ha2, hb2, ln2, lm2, hb⟩⟩
  rw [HHY.o.1] at hn2 ha2
  rw [HHY.o.2.1] at hm2 hb2
  rw [HHY.o.2.2]
  have HB5 := hd (HB4.o.trans (hb.mono HB4.o.size))
  have N2 := hd hn2
  have M2 := hd hm2
  replace RA1 := hd (RA1.o.below hb)
  replace RB1 := hd (RB1.o.below hb)
  have RA2 := hd ha2
  have RB2 := hd hb2
  clear hb hn2 hm2 ha2 hb2
  go_wp2_with fail
  refine (P1.o w5).mono ?_
  rintro e w6 ⟨⟨B3, m3, d3, rfl, hm3, hr3, hb⟩⟩
  rw [HXA.o] at hm3 hr3
  rw [HH1.o]
  have M3 := hd hm3
  have HB6 := hd (HB5.o.trans (hb.mono HB5.o.size))
  have l3 : m3 ≤ 12 := by rw [M3.o]; exact hL1.o
  have Q1 := hd (fun W (h : Below w6.heap.size w6 W) => (RA1.o.below hb).below h)
  have Q2 := hd (fun W (h : Below w6.heap.size w6 W) => (RB1.o.below hb).below h)
  have Q3 := hd (fun W (h : Below w6.heap.size w6 W) => (RA2.o.below hb).below h)
  have Q4 := hd (fun W (h : Below w6.heap.size w6 W) => (RB2.o.below hb).below h)
  have Q5 := hd (fun W (h : Below w6.heap.size w6 W) => hr3.rds.below h)
  have HB6s := hd HB6.o.size
  clear hm3 hr3 hb RA1 RB1 RA2 RB2
  obtain ⟨GX, hGX⟩ : ∃ l, woL XA XB = l := ⟨_, rfl⟩
  obtain ⟨GY, hGY⟩ : ∃ l, woL XB XA = l := ⟨_, rfl⟩
  rw [hGX] at HHT Q1 Q4 N1 M2
  rw [hGY] at HHT Q2 Q3 M1 N2
  have HGY := hd (show ∀ f ∈ GY, f ∈ XB from fun f hf => by rw [← hGY] at hf; exact (mem_wo.1 hf).1)
  clear hGX hGY
  go_wp2_with fail
  go_loopw [14, 13] (fun i out wr => ∃ (k : Nat) (D : Option Addr) (q d : Nat), i = .int .i64 k ∧ k ≤ m3 ∧ out = .slice D q d ∧ q ≤ k ∧ Hd (q = (woL (XA.take k) GX).length) ∧ Hd (Row wr (From w6.heap.size) 36 3 D q d (fsE (woL (XA.take k) GX))) ∧ Hd (Below w6.heap.size w6 wr)) (fun i _ _ => m3 - (intOf i).toNat)
  case atStart => exact ⟨0, none, 0, 0, rfl, Nat.zero_le _, rfl, Nat.zero_le _, hd rfl, hd (Row.nil _ _ _ _), hd (Below.refl _ _)⟩
  case round =>
    obtain ⟨k, D, q, d, rfl, hk, rfl, hqk, HQ, HO, HW⟩ := hrel
    obtain ⟨wi, rfl⟩ : ∃ wi : World, wi = wr := ⟨_, rfl⟩
    by_cases hlt : k < m3
    · have hlti : decide ((k : Int) < (m3 : Int)) = true := by simp; omega
      have hkl : k < XA.length := by rw [← M3.o]; exact hlt
      have HST := hd (wo_take XA GX k hkl)
      obtain ⟨f, hf⟩ : ∃ f, XA[k]'hkl = f := ⟨_, rfl⟩
      obtain ⟨g, o, rfl, hg, hc⟩ := (Q5.o wi HW.o).at_ (by omega)
      have hcf : ∀ t u, t < 3 → (fEnc f)[t]? = some u → wi.cell? ⟨g, o + k * 3 + t, none⟩ = some u := fun t u ht hv => by
        rw [Nat.add_assoc]
        exact hc _ _ ((fsE_at XA k hkl t ht).trans (by rw [hf]; exact hv))
      have c0 := hcf 0 _ (by omega) rfl
      have c1 := hcf 1 _ (by omega) rfl
      have c2 := hcf 2 _ (by omega) rfl
      rw [Nat.add_zero] at c0
      clear hcf hc
      rw [hf] at HST
      clear hf
      have K1 := has_calls wi A1 n1 cq1 GX f N1.o (Q1.o wi HW.o) (by omega)
      obtain ⟨v, hv⟩ : ∃ v, decide (f ∈ GX) = v := ⟨_, rfl⟩
      rw [hv] at K1
      have HV := hd hv
      obtain ⟨fk, fl, fv⟩ := f
      simp only [fldV] at K1
      replace K1 := hd K1
      clear hv
      go_wp2_with fail
      refine K1.o.mono ?_
      rintro e wj ⟨rfl, hb⟩
      have HO2 := hd (HO.o.below hb)
      have HW2 := hd (HW.o.trans (hb.mono HW.o.size))
      have hsz := HW2.o.size
      have c0' := (hb.cell (p := ⟨g, o + k * 3, none⟩) hg).trans c0
      have c1' := (hb.cell (p := ⟨g, o + k * 3 + 1, none⟩) hg).trans c1
      have c2' := (hb.cell (p := ⟨g, o + k * 3 + 2, none⟩) hg).trans c2
      clear hb c0 c1 c2 K1
      cases v with
      | true =>
        have HS2 := hd (by have := HST.o; rw [if_pos (of_decide_eq_true HV.o), List.append_nil] at this; exact this)
        go_wp2
        go_roundw
        case rel => exact ⟨k + 1, D, q, d, by go_num, by omega, rfl, by omega, hd (by rw [HS2.o]; exact HQ.o), hd (by rw [HS2.o]; exact HO2.o), HW2⟩
        case measure => simp [intOf]; omega
      | false =>
        have HS2 := hd (by have := HST.o; rw [if_neg (of_decide_eq_false HV.o)] at this; exact this)
        go_wp2_with (at_builtin; refine wpList_append_row rfl _ _ 22 rfl (From w6.heap.size) 36 i0 (.agg #[.int .i64 0, .int .i64 0, .string ⟨#[]⟩]) 3 32 Tryz.underlying22 hi hz0 hz1 hz2 rfl D q d (fsE (woL (XA.take k) GX)) rfl (HO2.o.alloc _) ⟨_, 0, none⟩ 1 1 [.int .i64 fk, .int .i64 fl, .string (bs fv)] rfl rfl (cells_at (Blk.new_ _ _ (by simp) _ _) rfl) (by simp [Value.oneCell']) (by omega) (by unfold maxLen; omega) (by omega) ?_; intro A3 cc3 wl hown3 hchg3)
        go_roundw
        case rel =>
          refine ⟨k + 1, A3, q + 1, cc3, by go_num, by omega, rfl, by omega, hd ?_, hd ?_, hd ?_⟩
          · rw [HS2.o, List.length_append, ← HQ.o]; rfl
          · rw [HS2.o, fsE_snoc]
            exact hown3.mono (fun q hq => by
              rcases hq with hq | hq
              · exact hq
              · simp at hq; show w6.heap.size ≤ q; omega)
          · exact HW2.o.trans (((Chg.refl (From w6.heap.size) wj).alloc _).trans hchg3 (fun q hq => .inl hq) |>.below (fun _ h => h) hsz)
        case measure => simp [intOf]; omega
    · have hlti : decide ((k : Int) < (m3 : Int)) = false := by simp; omega
      have htk : XA.take k = XA := List.take_of_length_le (by rw [← M3.o]; omega)
      rw [htk] at HQ HO
      have hsz := HW.o.size
      have hfl : woL XA GX = XA.filter (fun f => decide (f ∉ GX)) := rfl
      have hqm : q ≤ 12 := by omega
      clear htk
      rw [hfl] at HQ HO
      clear hfl
      have HRY := hd (Q2.o wi HW.o)
      go_wp2_with (at_builtin; refine wpList_append_rowG rfl _ _ 22 rfl (From w6.heap.size) 36 i0 (.agg #[.int .i64 0, .int .i64 0, .string ⟨#[]⟩]) 3 32 Tryz.underlying22 hi hz0 hz1 hz2 rfl D q d (fsE (XA.filter (fun f => decide (f ∉ GX)))) rfl HO.o B1 m1 d1 (fsE GY) rfl HRY.o (ones_f _) (by unfold maxLen; omega) (by omega) ?_; intro A3 cc3 wj hown hchg; have HO3 := hd (show Row wj (From w6.heap.size) 36 3 A3 (q + m1) cc3 (fsE (XA.filter (fun f => decide (f ∉ GX)) ++ GY)) by rw [fsE_app]; exact hown.mono (fun q hq => hq.elim id (fun hq => Nat.le_trans hsz hq))); have HW3 := hd (HW.o.trans (hchg.below (fun _ h => h) hsz)); clear hown hchg)
      have R1 := rtext_calls wj A3 (q + m1) cc3 (XA.filter (fun f => decide (f ∉ GX)) ++ GY) (by rw [List.length_append, ← HQ.o, ← M1.o]) HO3.o.rds (by omega) (fun f hf => by
        rcases List.mem_append.1 hf with hf | hf
        · have := may_len (HMA.o f (List.mem_filter.1 hf).1); omega
        · have := may_len (HMB.o f (HGY.o f hf)); omega)
      rw [HHT.o.1, HHT.o.2, bs_self] at R1
      replace R1 := hd R1
      go_wp2_with fail
      refine R1.o.mono ?_
      rintro e wk ⟨rfl, hb⟩
      have HW4 := hd (HW3.o.trans (hb.mono HW3.o.size))
      clear hb
      have K1 := fun W (h : Below w6.heap.size w6 W) => kfs_calls W A1 B2 n1 cq1 m2 d2 GX GX N1.o M2.o (Q1.o W h) (Q4.o W h) (by omega) (by omega)
      have K2 := fun W (h : Below w6.heap.size w6 W) => kfs_calls W B1 A2 m1 d1 n2 cq2 GY GY M1.o N2.o (Q2.o W h) (Q3.o W h) (by omega) (by omega)
      rw [decide_eq_true rfl] at K1 K2
      replace K1 := hd K1
      replace K2 := hd K2
      go_wp2_with fail
      refine (K1.o wk HW4.o).mono ?_
      rintro e wl ⟨rfl, hb⟩
      have HW5 := hd (HW4.o.trans (hb.mono HW4.o.size))
      clear hb
      go_wp2_with fail
      refine (K2.o wl HW5.o).mono ?_
      rintro e wm ⟨rfl, hb⟩
      have HW6 := hd (HB6.o.trans ((HW5.o.trans (hb.mono HW5.o.size)).mono HB6s.o))
      clear hb
      go_wp2
      go_ret
      exact ⟨rfl, HW6.o⟩

end Go.Proofs.YtpejlcaoggedfaaGreatDoor
