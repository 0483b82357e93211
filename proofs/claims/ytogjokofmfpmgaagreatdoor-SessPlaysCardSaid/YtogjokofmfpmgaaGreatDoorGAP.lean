/-
  The reference's EncodeReq.
-/
import Derived.Test.YtogjokofmfpmgaaGreatDoorGAO
import Derived.Deep.CutRange
import Derived.Deep.CutBlock
import Derived.Test.YtogjokofmfpmgaaGreatDoorGAL
import Derived.Test.YtogjokofmfpmgaaGreatDoorGAN
import Derived.Lib.QuietBelow
set_option linter.unusedVariables false
set_option linter.unusedSimpArgs false
namespace Go.Proofs.YtogjokofmfpmgaaGreatDoor
open Go.RowKit

set_option maxRecDepth 100000 in
set_option maxHeartbeats 16000000 in
theorem renc_in (k : Int) (tn col uid card : List UInt8) (ck cv : Int) (ops : List OpV) (tok most ticks : Int) (A : Option Addr) (c : Nat) (w : World) (hr : Rds w A ops.length 5 (opsE ops)) (hB : RqB ⟨k, tn, col, uid, card, ck, cv, ops, tok, most, ticks⟩) (h0 : chk ⟨k, tn, col, uid, card, ck, cv, ops, tok, most, ticks⟩ = 0)
    (C1 : ∀ W, Below w.heap.size w W → Calls Tryz.prog 20 #[reqV ⟨k, tn, col, uid, card, ck, cv, ops, tok, most, ticks⟩ A c] W fun e w' => e = .returned (.int .i64 (chk ⟨k, tn, col, uid, card, ck, cv, ops, tok, most, ticks⟩)) ∧ Below W.heap.size W w') :
    Calls Tryz.prog 16 #[reqV ⟨k, tn, col, uid, card, ck, cv, ops, tok, most, ticks⟩ A c] w fun e w' => EncR w ⟨k, tn, col, uid, card, ck, cv, ops, tok, most, ticks⟩ e w' := by
  have hkk := kind_or (chk_0 h0).1
  simp only at hkk
  have HEH := EncH.of h0 hB
  have hb8 := HEH.ops8
  have Ltn := hd HEH.Ltn
  have Lcol := hd HEH.Lcol
  have Luid := hd HEH.Luid
  have Lcard := hd HEH.Lcard
  have Lcond := hd HEH.Lcond
  have Ltok := hd HEH.Ltok
  have Lmost := hd HEH.Lmost
  have Lticks := hd HEH.Lticks
  have hstn : (bs tn).size ≤ 90000 := by rw [bs_size]; have := HEH.stn; omega
  have hscol : (bs col).size ≤ 90000 := by rw [bs_size]; have := HEH.scol; omega
  have hsuid : (bs uid).size ≤ 90000 := by rw [bs_size]; have := HEH.suid; omega
  have hscard : (bs card).size ≤ 90000 := by rw [bs_size]; have := HEH.scard; omega
  have Hck := hd HEH.sck
  have Hcv := hd HEH.scv
  have Htok := hd HEH.stok
  have Hmost := hd HEH.smost
  have Hticks := hd HEH.sticks
  have HOB := hd HEH.sops
  obtain ⟨n, hn⟩ : ∃ n, ops.length = n := ⟨_, rfl⟩
  rw [h0] at C1
  unfold reqV reqE at *
  simp only at C1 hb8 ⊢
  rw [hn] at C1 hr hb8 ⊢
  have HNN := hd hn
  have Ln := hd (show (numB (n : Int)).length ≤ 18 from by have := numB_len9 (v := (n : Int)) ⟨by omega, by omega⟩; omega)
  have HRD := hd hr
  have H0 := hd h0
  obtain ⟨Y, hY⟩ : ∃ Y, Y = w.alloc (.cells #[.int .i64 k, .string (bs tn), .string (bs col), .string (bs uid), .string (bs card), .int .i64 ck, .int .i64 cv, .slice A n c, .int .i64 tok, .int .i64 most, .int .i64 ticks] 26) := ⟨_, rfl⟩
  have HK := hd (show Blk Y w.heap.size 26 #[.int .i64 k, .string (bs tn), .string (bs col), .string (bs uid), .string (bs card), .int .i64 ck, .int .i64 cv, .slice A n c, .int .i64 tok, .int .i64 most, .int .i64 ticks] by rw [hY]; exact Blk.new _ _ _)
  have HBY := hd (show Below w.heap.size w Y by rw [hY]; exact (Below.refl _ w).alloc (Nat.le_refl _) _)
  have HYY := hd hY
  replace C1 := hd (C1 Y HBY.o)
  have y0 := HK.o.at_ 0 rfl
  have y1 := HK.o.at_ 1 rfl
  have y2 := HK.o.at_ 2 rfl
  have y3 := HK.o.at_ 3 rfl
  have y4 := HK.o.at_ 4 rfl
  have y5 := HK.o.at_ 5 rfl
  have y6 := HK.o.at_ 6 rfl
  have y7 := HK.o.at_ 7 rfl
  have y8 := HK.o.at_ 8 rfl
  have y9 := HK.o.at_ 9 rfl
  have y10 := HK.o.at_ 10 rfl
  have hl0 := HK.o.lt
  clear HEH hn hr hB h0 hY
  go_enter Tryz.func16, Tryz.ntmps16
  go_upto_region 1 with (fail)
  rw [← HYY.o]
  go_wp2_with fail
  refine C1.o.mono ?_
  rintro e w1 ⟨rfl, hb1⟩
  have HK1 := hd (HK.o.below hb1 hl0)
  have HB1 := hd (HBY.o.trans (hb1.mono HBY.o.size))
  clear hb1 y0 y1 y2 y3 y4 y5 y6 y7 y8 y9 y10 hl0
  have a0 := HK1.o.at_ 0 rfl
  have a1 := HK1.o.at_ 1 rfl
  have a2 := HK1.o.at_ 2 rfl
  have a3 := HK1.o.at_ 3 rfl
  have a4 := HK1.o.at_ 4 rfl
  have a5 := HK1.o.at_ 5 rfl
  have a6 := HK1.o.at_ 6 rfl
  have a7 := HK1.o.at_ 7 rfl
  have a8 := HK1.o.at_ 8 rfl
  have a9 := HK1.o.at_ 9 rfl
  have a10 := HK1.o.at_ 10 rfl
  have la := HK1.o.lt
  go_upto_block 0 with (fail)
  go_cut [5, 6, 7] from 15 to 128 (fun b _ _ wx => ∃ (B : Option Addr) (m d : Nat), b = .slice B m d ∧ Hd (m = (encB ⟨k, tn, col, uid, card, ck, cv, ops, tok, most, ticks⟩).length) ∧ Hd (Row wx (From w.heap.size) 5 1 B m d (u8E (encB ⟨k, tn, col, uid, card, ck, cv, ops, tok, most, ticks⟩))) ∧ Hd (Below w.heap.size w wx))
  case first =>
    rcases hkk with rfl | rfl | rfl | rfl | rfl | rfl | rfl | rfl | rfl | rfl | rfl
    · have HE := hd (show encB ⟨1, tn, col, uid, card, ck, cv, ops, tok, most, ticks⟩ = textB tn by simp [encB, eT, eN, eC, eO, hT, hC, hU, hCd, hCn, hO, hTk, hM, hTi])
      go_upto_region 7 with (fail)
      go_wp2_with fail
      refine (rptext_calls _ none 0 0 _ (bs tn) rfl (Rds.nil8 _) (by omega) hstn).mono ?_
      rintro e w2 ⟨⟨B2, m2, d2, rfl, hm2, hr2, hb2⟩⟩
      rw [bs_data] at hm2 hr2
      have HN2 := hd hm2
      have HR2 := hd hr2
      have HB2 := hd (HB1.o.trans (hb2.mono HB1.o.size))
      clear hm2 hr2 hb2 la a0 a1 a2 a3 a4 a5 a6 a7 a8 a9 a10
      go_wp2_with fail
      go_meet
      exact ⟨B2, m2, d2, rfl, hd (by rw [HN2.o, HE.o]; rfl), hd (by rw [HE.o]; exact HR2.o.mono (fun q hq => Nat.le_trans HB1.o.size hq)), HB2⟩
    · have HE := hd (show encB ⟨2, tn, col, uid, card, ck, cv, ops, tok, most, ticks⟩ = textB col by simp [encB, eT, eN, eC, eO, hT, hC, hU, hCd, hCn, hO, hTk, hM, hTi])
      go_upto_region 10 with (fail)
      go_wp2_with fail
      refine (rptext_calls _ none 0 0 _ (bs col) rfl (Rds.nil8 _) (by omega) hscol).mono ?_
      rintro e w2 ⟨⟨B2, m2, d2, rfl, hm2, hr2, hb2⟩⟩
      rw [bs_data] at hm2 hr2
      have HN2 := hd hm2
      have HR2 := hd hr2
      have HB2 := hd (HB1.o.trans (hb2.mono HB1.o.size))
      clear hm2 hr2 hb2 la a0 a1 a2 a3 a4 a5 a6 a7 a8 a9 a10
      go_wp2_with fail
      go_meet
      exact ⟨B2, m2, d2, rfl, hd (by rw [HN2.o, HE.o]; rfl), hd (by rw [HE.o]; exact HR2.o.mono (fun q hq => Nat.le_trans HB1.o.size hq)), HB2⟩
    · have HE := hd (show encB ⟨3, tn, col, uid, card, ck, cv, ops, tok, most, ticks⟩ = textB col by simp [encB, eT, eN, eC, eO, hT, hC, hU, hCd, hCn, hO, hTk, hM, hTi])
      go_upto_region 10 with (fail)
      go_wp2_with fail
      refine (rptext_calls _ none 0 0 _ (bs col) rfl (Rds.nil8 _) (by omega) hscol).mono ?_
      rintro e w2 ⟨⟨B2, m2, d2, rfl, hm2, hr2, hb2⟩⟩
      rw [bs_data] at hm2 hr2
      have HN2 := hd hm2
      have HR2 := hd hr2
      have HB2 := hd (HB1.o.trans (hb2.mono HB1.o.size))
      clear hm2 hr2 hb2 la a0 a1 a2 a3 a4 a5 a6 a7 a8 a9 a10
      go_wp2_with fail
      go_meet
      exact ⟨B2, m2, d2, rfl, hd (by rw [HN2.o, HE.o]; rfl), hd (by rw [HE.o]; exact HR2.o.mono (fun q hq => Nat.le_trans HB1.o.size hq)), HB2⟩
    · have HE := hd (show encB ⟨4, tn, col, uid, card, ck, cv, ops, tok, most, ticks⟩ = textB col ++ (textB uid ++ (textB card ++ (condB ck cv))) by simp [encB, eT, eN, eC, eO, hT, hC, hU, hCd, hCn, hO, hTk, hM, hTi])
      go_upto_region 12 with (fail)
      have tok0 : True := trivial
      have tok1 : True := trivial
      have tok2 : True := trivial
      have tok3 : True := trivial
      go_region_held3 (fun w' => w'.cell? ⟨w.heap.size, 2, none⟩ = some (.string (bs col)) ∧ w'.cell? ⟨w.heap.size, 3, none⟩ = some (.string (bs uid)) ∧ w'.cell? ⟨w.heap.size, 4, none⟩ = some (.string (bs card)) ∧ w'.cell? ⟨w.heap.size, 5, none⟩ = some (.int .i64 ck) ∧ w'.cell? ⟨w.heap.size, 6, none⟩ = some (.int .i64 cv)) (first | go_keep | (with_reducible exact ⟨k2, k3, k4, k5, k6⟩)) (first
        | (go_at_call 47; have _t := tok0; (with_reducible refine (rptext_calls _ none 0 0 _ (bs col) rfl (Rds.nil8 _) (by omega) hscol).mono ?_); rintro e w2 ⟨⟨B2, m2, d2, rfl, hm2, hr2, hb2⟩⟩; rw [bs_data] at hm2 hr2; have j2 := (hb2.cell (p := ⟨w.heap.size, 2, none⟩) la).trans a2; have j3 := (hb2.cell (p := ⟨w.heap.size, 3, none⟩) la).trans a3; have j4 := (hb2.cell (p := ⟨w.heap.size, 4, none⟩) la).trans a4; have j5 := (hb2.cell (p := ⟨w.heap.size, 5, none⟩) la).trans a5; have j6 := (hb2.cell (p := ⟨w.heap.size, 6, none⟩) la).trans a6; have k2 := j2; have k3 := j3; have k4 := j4; have k5 := j5; have k6 := j6; clear j2 j3 j4 j5 j6; have hq2 : m2 ≤ 20009 := (by have h2 := Lcol.o; rw [hm2, List.length_append, List.length_nil]; omega); have HN2 := hd hm2; have HR2 := hd hr2; have HB2 := hd (HB1.o.trans ((undr hb2).mono HB1.o.size)); have HD2 := hd (undr hb2); have l2 := Nat.lt_of_lt_of_le la hb2.size; clear tok0 hm2 hr2 hb2 _t)
        | (go_at_call 47; have _t := tok1; (with_reducible refine (rptext_calls _ B2 m2 d2 _ (bs uid) HN2.o HR2.o.rds (by omega) hsuid).mono ?_); rintro e w3 ⟨⟨B3, m3, d3, rfl, hm3, hr3, hb3⟩⟩; rw [bs_data] at hm3 hr3; have j2 := (hb3.cell (p := ⟨w.heap.size, 2, none⟩) l2).trans k2; have j3 := (hb3.cell (p := ⟨w.heap.size, 3, none⟩) l2).trans k3; have j4 := (hb3.cell (p := ⟨w.heap.size, 4, none⟩) l2).trans k4; have j5 := (hb3.cell (p := ⟨w.heap.size, 5, none⟩) l2).trans k5; have j6 := (hb3.cell (p := ⟨w.heap.size, 6, none⟩) l2).trans k6; clear k2 k3 k4 k5 k6; have k2 := j2; have k3 := j3; have k4 := j4; have k5 := j5; have k6 := j6; clear j2 j3 j4 j5 j6; have hq3 : m3 ≤ 40018 := (by have h2 := Luid.o; rw [hm3, List.length_append, ← HN2.o]; omega); have HN3 := hd hm3; have HR3 := hd hr3; have HB3 := hd (HB2.o.trans ((hb3).mono HB2.o.size)); have HD3 := hd (HD2.o.trans (hb3.mono HD2.o.size)); have l3 := Nat.lt_of_lt_of_le l2 hb3.size; clear tok1 hm3 hr3 hb3 _t)
        | (go_at_call 47; have _t := tok2; (with_reducible refine (rptext_calls _ B3 m3 d3 _ (bs card) HN3.o HR3.o.rds (by omega) hscard).mono ?_); rintro e w4 ⟨⟨B4, m4, d4, rfl, hm4, hr4, hb4⟩⟩; rw [bs_data] at hm4 hr4; have j2 := (hb4.cell (p := ⟨w.heap.size, 2, none⟩) l3).trans k2; have j3 := (hb4.cell (p := ⟨w.heap.size, 3, none⟩) l3).trans k3; have j4 := (hb4.cell (p := ⟨w.heap.size, 4, none⟩) l3).trans k4; have j5 := (hb4.cell (p := ⟨w.heap.size, 5, none⟩) l3).trans k5; have j6 := (hb4.cell (p := ⟨w.heap.size, 6, none⟩) l3).trans k6; clear k2 k3 k4 k5 k6; have k2 := j2; have k3 := j3; have k4 := j4; have k5 := j5; have k6 := j6; clear j2 j3 j4 j5 j6; have hq4 : m4 ≤ 60027 := (by have h2 := Lcard.o; rw [hm4, List.length_append, ← HN3.o]; omega); have HN4 := hd hm4; have HR4 := hd hr4; have HB4 := hd (HB3.o.trans ((hb4).mono HB3.o.size)); have HD4 := hd (HD3.o.trans (hb4.mono HD3.o.size)); have l4 := Nat.lt_of_lt_of_le l3 hb4.size; clear tok2 hm4 hr4 hb4 _t)
        | (go_at_call 48; have _t := tok3; (with_reducible refine (rpcond_calls _ B4 m4 d4 _ ck cv HN4.o HR4.o.rds (by omega) Hck.o Hcv.o).mono ?_); rintro e w5 ⟨⟨B5, m5, d5, rfl, hm5, hr5, hb5⟩⟩; have j2 := (hb5.cell (p := ⟨w.heap.size, 2, none⟩) l4).trans k2; have j3 := (hb5.cell (p := ⟨w.heap.size, 3, none⟩) l4).trans k3; have j4 := (hb5.cell (p := ⟨w.heap.size, 4, none⟩) l4).trans k4; have j5 := (hb5.cell (p := ⟨w.heap.size, 5, none⟩) l4).trans k5; have j6 := (hb5.cell (p := ⟨w.heap.size, 6, none⟩) l4).trans k6; clear k2 k3 k4 k5 k6; have k2 := j2; have k3 := j3; have k4 := j4; have k5 := j5; have k6 := j6; clear j2 j3 j4 j5 j6; have hq5 : m5 ≤ 60045 := (by have h2 := Lcond.o; rw [hm5, List.length_append, ← HN4.o]; omega); have HN5 := hd hm5; have HR5 := hd hr5; have HB5 := hd (HB4.o.trans ((hb5).mono HB4.o.size)); have HD5 := hd (HD4.o.trans (hb5.mono HD4.o.size)); have l5 := Nat.lt_of_lt_of_le l4 hb5.size; clear tok3 hm5 hr5 hb5 _t))
      have HE2 := hd (show [] ++ textB col ++ textB uid ++ textB card ++ condB ck cv = encB ⟨4, tn, col, uid, card, ck, cv, ops, tok, most, ticks⟩ by rw [HE.o]; simp)
      go_wp2_with fail
      go_meet
      exact ⟨B5, m5, d5, rfl, hd (by rw [HN5.o, HE2.o]), hd (by rw [← HE2.o]; exact HR5.o.mono (fun q hq => Nat.le_trans HB4.o.size hq)), HB5⟩
    · have HE := hd (show encB ⟨5, tn, col, uid, card, ck, cv, ops, tok, most, ticks⟩ = textB col ++ (textB uid ++ (condB ck cv)) by simp [encB, eT, eN, eC, eO, hT, hC, hU, hCd, hCn, hO, hTk, hM, hTi])
      go_upto_region 14 with (fail)
      have tok0 : True := trivial
      have tok1 : True := trivial
      have tok2 : True := trivial
      go_region_held3 (fun w' => w'.cell? ⟨w.heap.size, 2, none⟩ = some (.string (bs col)) ∧ w'.cell? ⟨w.heap.size, 3, none⟩ = some (.string (bs uid)) ∧ w'.cell? ⟨w.heap.size, 5, none⟩ = some (.int .i64 ck) ∧ w'.cell? ⟨w.heap.size, 6, none⟩ = some (.int .i64 cv)) (first | go_keep | (with_reducible exact ⟨k2, k3, k5, k6⟩)) (first
        | (go_at_call 47; have _t := tok0; (with_reducible refine (rptext_calls _ none 0 0 _ (bs col) rfl (Rds.nil8 _) (by omega) hscol).mono ?_); rintro e w2 ⟨⟨B2, m2, d2, rfl, hm2, hr2, hb2⟩⟩; rw [bs_data] at hm2 hr2; have j2 := (hb2.cell (p := ⟨w.heap.size, 2, none⟩) la).trans a2; have j3 := (hb2.cell (p := ⟨w.heap.size, 3, none⟩) la).trans a3; have j5 := (hb2.cell (p := ⟨w.heap.size, 5, none⟩) la).trans a5; have j6 := (hb2.cell (p := ⟨w.heap.size, 6, none⟩) la).trans a6; have k2 := j2; have k3 := j3; have k5 := j5; have k6 := j6; clear j2 j3 j5 j6; have hq2 : m2 ≤ 20009 := (by have h2 := Lcol.o; rw [hm2, List.length_append, List.length_nil]; omega); have HN2 := hd hm2; have HR2 := hd hr2; have HB2 := hd (HB1.o.trans ((undr hb2).mono HB1.o.size)); have HD2 := hd (undr hb2); have l2 := Nat.lt_of_lt_of_le la hb2.size; clear tok0 hm2 hr2 hb2 _t)
        | (go_at_call 47; have _t := tok1; (with_reducible refine (rptext_calls _ B2 m2 d2 _ (bs uid) HN2.o HR2.o.rds (by omega) hsuid).mono ?_); rintro e w3 ⟨⟨B3, m3, d3, rfl, hm3, hr3, hb3⟩⟩; rw [bs_data] at hm3 hr3; have j2 := (hb3.cell (p := ⟨w.heap.size, 2, none⟩) l2).trans k2; have j3 := (hb3.cell (p := ⟨w.heap.size, 3, none⟩) l2).trans k3; have j5 := (hb3.cell (p := ⟨w.heap.size, 5, none⟩) l2).trans k5; have j6 := (hb3.cell (p := ⟨w.heap.size, 6, none⟩) l2).trans k6; clear k2 k3 k5 k6; have k2 := j2; have k3 := j3; have k5 := j5; have k6 := j6; clear j2 j3 j5 j6; have hq3 : m3 ≤ 40018 := (by have h2 := Luid.o; rw [hm3, List.length_append, ← HN2.o]; omega); have HN3 := hd hm3; have HR3 := hd hr3; have HB3 := hd (HB2.o.trans ((hb3).mono HB2.o.size)); have HD3 := hd (HD2.o.trans (hb3.mono HD2.o.size)); have l3 := Nat.lt_of_lt_of_le l2 hb3.size; clear tok1 hm3 hr3 hb3 _t)
        | (go_at_call 48; have _t := tok2; (with_reducible refine (rpcond_calls _ B3 m3 d3 _ ck cv HN3.o HR3.o.rds (by omega) Hck.o Hcv.o).mono ?_); rintro e w4 ⟨⟨B4, m4, d4, rfl, hm4, hr4, hb4⟩⟩; have j2 := (hb4.cell (p := ⟨w.heap.size, 2, none⟩) l3).trans k2; have j3 := (hb4.cell (p := ⟨w.heap.size, 3, none⟩) l3).trans k3; have j5 := (hb4.cell (p := ⟨w.heap.size, 5, none⟩) l3).trans k5; have j6 := (hb4.cell (p := ⟨w.heap.size, 6, none⟩) l3).trans k6; clear k2 k3 k5 k6; have k2 := j2; have k3 := j3; have k5 := j5; have k6 := j6; clear j2 j3 j5 j6; have hq4 : m4 ≤ 40036 := (by have h2 := Lcond.o; rw [hm4, List.length_append, ← HN3.o]; omega); have HN4 := hd hm4; have HR4 := hd hr4; have HB4 := hd (HB3.o.trans ((hb4).mono HB3.o.size)); have HD4 := hd (HD3.o.trans (hb4.mono HD3.o.size)); have l4 := Nat.lt_of_lt_of_le l3 hb4.size; clear tok2 hm4 hr4 hb4 _t))
      have HE2 := hd (show [] ++ textB col ++ textB uid ++ condB ck cv = encB ⟨5, tn, col, uid, card, ck, cv, ops, tok, most, ticks⟩ by rw [HE.o]; simp)
      go_wp2_with fail
      go_meet
      exact ⟨B4, m4, d4, rfl, hd (by rw [HN4.o, HE2.o]), hd (by rw [← HE2.o]; exact HR4.o.mono (fun q hq => Nat.le_trans HB3.o.size hq)), HB4⟩
    · have HE := hd (show encB ⟨6, tn, col, uid, card, ck, cv, ops, tok, most, ticks⟩ = textB col ++ (textB uid) by simp [encB, eT, eN, eC, eO, hT, hC, hU, hCd, hCn, hO, hTk, hM, hTi])
      go_upto_region 16 with (fail)
      have tok0 : True := trivial
      have tok1 : True := trivial
      go_region_held3 (fun w' => w'.cell? ⟨w.heap.size, 2, none⟩ = some (.string (bs col)) ∧ w'.cell? ⟨w.heap.size, 3, none⟩ = some (.string (bs uid))) (first | go_keep | (with_reducible exact ⟨k2, k3⟩)) (first
        | (go_at_call 47; have _t := tok0; (with_reducible refine (rptext_calls _ none 0 0 _ (bs col) rfl (Rds.nil8 _) (by omega) hscol).mono ?_); rintro e w2 ⟨⟨B2, m2, d2, rfl, hm2, hr2, hb2⟩⟩; rw [bs_data] at hm2 hr2; have j2 := (hb2.cell (p := ⟨w.heap.size, 2, none⟩) la).trans a2; have j3 := (hb2.cell (p := ⟨w.heap.size, 3, none⟩) la).trans a3; have k2 := j2; have k3 := j3; clear j2 j3; have hq2 : m2 ≤ 20009 := (by have h2 := Lcol.o; rw [hm2, List.length_append, List.length_nil]; omega); have HN2 := hd hm2; have HR2 := hd hr2; have HB2 := hd (HB1.o.trans ((undr hb2).mono HB1.o.size)); have HD2 := hd (undr hb2); have l2 := Nat.lt_of_lt_of_le la hb2.size; clear tok0 hm2 hr2 hb2 _t)
        | (go_at_call 47; have _t := tok1; (with_reducible refine (rptext_calls _ B2 m2 d2 _ (bs uid) HN2.o HR2.o.rds (by omega) hsuid).mono ?_); rintro e w3 ⟨⟨B3, m3, d3, rfl, hm3, hr3, hb3⟩⟩; rw [bs_data] at hm3 hr3; have j2 := (hb3.cell (p := ⟨w.heap.size, 2, none⟩) l2).trans k2; have j3 := (hb3.cell (p := ⟨w.heap.size, 3, none⟩) l2).trans k3; clear k2 k3; have k2 := j2; have k3 := j3; clear j2 j3; have hq3 : m3 ≤ 40018 := (by have h2 := Luid.o; rw [hm3, List.length_append, ← HN2.o]; omega); have HN3 := hd hm3; have HR3 := hd hr3; have HB3 := hd (HB2.o.trans ((hb3).mono HB2.o.size)); have HD3 := hd (HD2.o.trans (hb3.mono HD2.o.size)); have l3 := Nat.lt_of_lt_of_le l2 hb3.size; clear tok1 hm3 hr3 hb3 _t))
      have HE2 := hd (show [] ++ textB col ++ textB uid = encB ⟨6, tn, col, uid, card, ck, cv, ops, tok, most, ticks⟩ by rw [HE.o]; simp)
      go_wp2_with fail
      go_meet
      exact ⟨B3, m3, d3, rfl, hd (by rw [HN3.o, HE2.o]), hd (by rw [← HE2.o]; exact HR3.o.mono (fun q hq => Nat.le_trans HB2.o.size hq)), HB3⟩
    · have HE := hd (show encB ⟨7, tn, col, uid, card, ck, cv, ops, tok, most, ticks⟩ = textB col ++ ((numB ops.length ++ opsB ops)) by simp [encB, eT, eN, eC, eO, hT, hC, hU, hCd, hCn, hO, hTk, hM, hTi])
      go_upto_region 18 with (fail)
      have tok0 : True := trivial
      have tok1 : True := trivial
      go_region_held3 (fun w' => w'.cell? ⟨w.heap.size, 2, none⟩ = some (.string (bs col)) ∧ w'.cell? ⟨w.heap.size, 7, none⟩ = some (.slice A n c)) (first | go_keep | (with_reducible exact ⟨k2, k7⟩)) (first
        | (go_at_call 47; have _t := tok0; (with_reducible refine (rptext_calls _ none 0 0 _ (bs col) rfl (Rds.nil8 _) (by omega) hscol).mono ?_); rintro e w2 ⟨⟨B2, m2, d2, rfl, hm2, hr2, hb2⟩⟩; rw [bs_data] at hm2 hr2; have j2 := (hb2.cell (p := ⟨w.heap.size, 2, none⟩) la).trans a2; have j7 := (hb2.cell (p := ⟨w.heap.size, 7, none⟩) la).trans a7; have k2 := j2; have k7 := j7; clear j2 j7; have hq2 : m2 ≤ 20009 := (by have h2 := Lcol.o; rw [hm2, List.length_append, List.length_nil]; omega); have HN2 := hd hm2; have HR2 := hd hr2; have HB2 := hd (HB1.o.trans ((undr hb2).mono HB1.o.size)); have HD2 := hd (undr hb2); have l2 := Nat.lt_of_lt_of_le la hb2.size; clear tok0 hm2 hr2 hb2 _t)
        | (go_at_call 49; have _t := tok1; (with_reducible refine (rpnum_calls _ B2 m2 d2 _ (n : Int) HN2.o HR2.o.rds (by omega) (by omega) (by omega)).mono ?_); rintro e w3 ⟨⟨B3, m3, d3, rfl, hm3, hr3, hb3⟩⟩; have j2 := (hb3.cell (p := ⟨w.heap.size, 2, none⟩) l2).trans k2; have j7 := (hb3.cell (p := ⟨w.heap.size, 7, none⟩) l2).trans k7; clear k2 k7; have k2 := j2; have k7 := j7; clear j2 j7; have hq3 : m3 ≤ 20027 := (by have h2 := Ln.o; rw [hm3, List.length_append, ← HN2.o]; omega); have HN3 := hd hm3; have HR3 := hd hr3; have HB3 := hd (HB2.o.trans ((hb3).mono HB2.o.size)); have HD3 := hd (HD2.o.trans (hb3.mono HD2.o.size)); have l3 := Nat.lt_of_lt_of_le l2 hb3.size; clear tok1 hm3 hr3 hb3 _t))
      have HKi := hd (HK1.o.below HD3.o la)
      go_upto_region 19 with (fail)
      go_wp2_with fail
      go_loopw [6, 7, 5] (fun i _ b wr => ∃ (k m d : Nat) (B : Option Addr), i = .int .i64 k ∧ k ≤ n ∧ b = .slice B m d ∧ m ≤ 20100 + k * 1000 ∧ Hd (m = (([] ++ textB col ++ numB (n : Int)) ++ opsB (ops.take k)).length) ∧ Hd (Row wr (From w.heap.size) 5 1 B m d (u8E (([] ++ textB col ++ numB (n : Int)) ++ opsB (ops.take k)))) ∧ Hd (Below w.heap.size w wr) ∧ Hd (Below w3.heap.size w3 wr)) (fun i _ _ _ => n - (intOf i).toNat)
      case atStart => exact ⟨0, m3, d3, B3, rfl, Nat.zero_le _, rfl, by omega, hd (by rw [List.take_zero]; simpa [opsB] using HN3.o), hd (by rw [List.take_zero]; simpa [opsB] using HR3.o.mono (T := From w.heap.size) (fun q hq => Nat.le_trans HB2.o.size hq)), HB3, hd (Below.refl _ _)⟩
      case round =>
        obtain ⟨k, m, d, B, rfl, hk, rfl, hmb, HM, HW, HB, HBC⟩ := hrel
        have hki : (0 : Int) ≤ (k : Int) := by omega
        have hkc := HKi.o.below HBC.o (Nat.lt_of_lt_of_le la HD3.o.size)
        have a7 : wr.cell? ⟨w.heap.size, 7, none⟩ = some (.slice A n c) := hkc.at_ 7 rfl
        clear hkc
        by_cases hlt : k < n
        · have hlti : (k : Int) < (n : Int) := by omega
          have hkl : k < ops.length := by rw [HNN.o]; exact hlt
          obtain ⟨g, o, rfl, hg, hcc⟩ := HRD.o.at_ (by omega)
          obtain ⟨x, hx⟩ : ∃ x, ops[k]'hkl = x := ⟨_, rfl⟩
          have HT : Hd (opsB (ops.take (k + 1)) = opsB (ops.take k) ++ opB x) := hd (by rw [opsB_take _ _ hkl, hx])
          have hmem : x ∈ ops := by rw [← hx]; exact List.getElem_mem hkl
          have hob := HOB.o x hmem
          have HXL := hd hob.1
          have HXU := hd hob.2.1
          have HXC := hd hob.2.2.1
          have HXK := hd hob.2.2.2.1
          have HXV := hd hob.2.2.2.2
          have hcell : ∀ j u, j < 5 → (opEnc x)[j]? = some u → wr.cell? ⟨g, o + (k * 5 + j), none⟩ = some u := fun j u hj hv => (HB.o.cell (p := ⟨g, o + (k * 5 + j), none⟩) hg).trans (hcc _ _ ((opsE_at ops k hkl j hj).trans (by rw [hx]; exact hv)))
          obtain ⟨xd, xu, xc, xk, xv⟩ := x
          simp only at HXU HXC HXK HXV
          have k0 := hcell 0 _ (by omega) rfl
          have k1 := hcell 1 _ (by omega) rfl
          have k2 := hcell 2 _ (by omega) rfl
          have k3 := hcell 3 _ (by omega) rfl
          have k4 := hcell 4 _ (by omega) rfl
          rw [← Nat.add_assoc] at k0 k1 k2 k3 k4
          rw [Nat.add_zero] at k0
          have hsu : (bs xu).size ≤ 80000 := by rw [bs_size]; exact HXU.o
          have hsc : (bs xc).size ≤ 80000 := by rw [bs_size]; exact HXC.o
          have LU := hd (show (textB xu).length ≤ 9 + xu.length from by have := numB_len9 (v := (xu.length : Int)) ⟨by omega, by have := HXU.o; omega⟩; unfold textB; rw [List.length_append]; omega)
          have LC := hd (show (textB xc).length ≤ 9 + xc.length from by have := numB_len9 (v := (xc.length : Int)) ⟨by omega, by have := HXC.o; omega⟩; unfold textB; rw [List.length_append]; omega)
          have L0 := hd (show ∀ b : Int, b = 0 ∨ b = 1 → (numB b).length ≤ 9 from fun b h => numB_len9 ⟨by omega, by omega⟩)
          obtain ⟨w9, hw9⟩ : ∃ w9, w9 = wr.alloc (.cells #[.bool xd, .string (bs xu), .string (bs xc), .int .i64 xk, .int .i64 xv] 43) := ⟨_, rfl⟩
          have HO9 := hd (show Blk w9 wr.heap.size 43 #[.bool xd, .string (bs xu), .string (bs xc), .int .i64 xk, .int .i64 xv] by rw [hw9]; exact Blk.new _ _ _)
          have HB9 := hd (show Below w.heap.size w w9 by rw [hw9]; exact HB.o.alloc HB.o.size _)
          have HC9 := hd (show Below w3.heap.size w3 w9 by rw [hw9]; exact HBC.o.alloc HBC.o.size _)
          have HW9 := hd (show Rds w9 B m 1 (u8E (([] ++ textB col ++ numB (n : Int)) ++ opsB (ops.take k))) by rw [hw9]; exact HW.o.rds.alloc _)
          have x0 := HO9.o.at_ 0 rfl
          have x1 := HO9.o.at_ 1 rfl
          have x2 := HO9.o.at_ 2 rfl
          have x3 := HO9.o.at_ 3 rfl
          have x4 := HO9.o.at_ 4 rfl
          have hxl := HO9.o.lt
          have HQ9 := hd hw9
          have hmk : m ≤ 40000 := by omega
          have HMB := hd hmb
          clear hcell hcc hx hkl hmem hob hw9 hmb
          obtain ⟨G, hG⟩ : ∃ G, wr.heap.size = G := ⟨_, rfl⟩
          have HBT1 := hd (fun W => show Calls Tryz.prog 50 #[.bool true] W fun e w' => e = .returned (.int .i64 1) ∧ W = w' from bit_calls true W)
          have HBT0 := hd (fun W => show Calls Tryz.prog 50 #[.bool false] W fun e w' => e = .returned (.int .i64 0) ∧ W = w' from bit_calls false W)
          have CN1 := hd (rpnum_calls w9.drew B m d _ 1 HM.o (HW9.o.drewN 1) (by omega) (by decide) (by decide))
          have CN0 := hd (rpnum_calls w9.drew B m d _ 0 HM.o (HW9.o.drewN 1) (by omega) (by decide) (by decide))
          cases xd with
          | true =>
            have HOBx := hd (show opB ⟨true, xu, xc, xk, xv⟩ = numB 1 ++ (textB xu ++ condB xk xv) from rfl)
            go_upto_region 23 with (fail)
            rw [← HQ9.o]
            clear k0 k1 k2 k3 k4 a7
            rw [hG] at hxl x0 x1 x2 x3 x4
            (try rw [hG])
            go_region_held3 (fun w' => w'.cell? ⟨G, 0, none⟩ = some (.bool true) ∧ w'.cell? ⟨G, 1, none⟩ = some (.string (bs xu)) ∧ w'.cell? ⟨G, 3, none⟩ = some (.int .i64 xk) ∧ w'.cell? ⟨G, 4, none⟩ = some (.int .i64 xv)) (first | go_keep | (with_reducible exact ⟨k0, k1, k3, k4⟩)) (first
              | (go_at_call 50; (with_reducible refine (HBT1.o _).mono ?_); rintro e w' ⟨rfl, rfl⟩)
              | (go_at_call 49; (with_reducible refine CN1.o.mono ?_); rintro e u1 ⟨⟨E1, p1, f1, rfl, hp1, hr1, hb1⟩⟩; have k0 := (hb1.cell (p := ⟨G, 0, none⟩) hxl).trans x0; have k1 := (hb1.cell (p := ⟨G, 1, none⟩) hxl).trans x1; have k3 := (hb1.cell (p := ⟨G, 3, none⟩) hxl).trans x3; have k4 := (hb1.cell (p := ⟨G, 4, none⟩) hxl).trans x4; have hpl1 : p1 ≤ 40009 := (by have h1 := L0.o 1 (.inr rfl); have h2 := HM.o; rw [hp1, List.length_append]; omega); have HP1 := hd hp1; have HR1 := hd hr1; have HBU1 := hd (undr hb1); have hl1 := Nat.lt_of_lt_of_le hxl hb1.size; clear hp1 hr1 hb1)
              | (go_at_call 47; (with_reducible refine (rptext_calls _ E1 p1 f1 _ (bs xu) HP1.o HR1.o.rds (by omega) (by omega)).mono ?_); rintro e u2 ⟨⟨E2, p2, f2, rfl, hp2, hr2, hb2⟩⟩; rw [bs_data] at hp2 hr2; have j0 := (hb2.cell (p := ⟨G, 0, none⟩) hl1).trans k0; have j1 := (hb2.cell (p := ⟨G, 1, none⟩) hl1).trans k1; have j3 := (hb2.cell (p := ⟨G, 3, none⟩) hl1).trans k3; have j4 := (hb2.cell (p := ⟨G, 4, none⟩) hl1).trans k4; clear k0 k1 k3 k4; have k0 := j0; have k1 := j1; have k3 := j3; have k4 := j4; clear j0 j1 j3 j4; have hpl2 : p2 ≤ 140009 := (by have h1 := LU.o; have h2 := HXU.o; rw [hp2, List.length_append, ← HP1.o]; omega); have HP2 := hd hp2; have HR2 := hd hr2; have HBU2 := hd (HBU1.o.trans (hb2.mono HBU1.o.size)); have hl2 := Nat.lt_of_lt_of_le hl1 hb2.size; clear hp2 hr2 hb2))
            go_wp2_with fail
            refine (rpcond_calls _ E2 p2 f2 _ xk xv HP2.o HR2.o.rds (by omega) HXK.o HXV.o).mono ?_
            rintro e u3 ⟨⟨E3, p3, f3, rfl, hp3, hr3, hb3⟩⟩
            have HBU3 := hd (HBU2.o.trans (hb3.mono HBU2.o.size))
            have HEQ := hd (show (([] ++ textB col ++ numB (n : Int)) ++ opsB (ops.take k)) ++ numB 1 ++ textB xu ++ condB xk xv = ([] ++ textB col ++ numB (n : Int)) ++ opsB (ops.take (k + 1)) by rw [HT.o, HOBx.o]; simp only [List.append_assoc])
            rw [HEQ.o] at hp3 hr3
            have hq3 : p3 ≤ 20100 + (k + 1) * 1000 := by
              have h1 := HM.o
              have h2 := HXL.o
              have h3 := HMB.o
              rw [hp3, HT.o, ← List.append_assoc, List.length_append, ← h1]
              omega
            have HP3 := hd hp3
            have HR3 := hd (hr3.mono (T := From w.heap.size) (fun q hq => Nat.le_trans (Nat.le_trans HB9.o.size HBU2.o.size) hq))
            have HB3 := hd (HB9.o.trans (HBU3.o.mono HB9.o.size))
            have HC3 := hd (HC9.o.trans (HBU3.o.mono HC9.o.size))
            clear hp3 hr3 hb3 k0 k1 k3 k4
            go_wp2
            go_roundw
            case rel => exact ⟨k + 1, p3, f3, E3, by go_num, by omega, by rfl, hq3, HP3, HR3, HB3, HC3⟩
            case measure => simp [intOf]; omega
          | false =>
            have HOBx := hd (show opB ⟨false, xu, xc, xk, xv⟩ = numB 0 ++ (textB xu ++ (textB xc ++ condB xk xv)) from rfl)
            go_upto_region 23 with (fail)
            rw [← HQ9.o]
            clear k0 k1 k2 k3 k4 a7
            rw [hG] at hxl x0 x1 x2 x3 x4
            (try rw [hG])
            go_region_held3 (fun w' => w'.cell? ⟨G, 0, none⟩ = some (.bool false) ∧ w'.cell? ⟨G, 1, none⟩ = some (.string (bs xu)) ∧ w'.cell? ⟨G, 2, none⟩ = some (.string (bs xc)) ∧ w'.cell? ⟨G, 3, none⟩ = some (.int .i64 xk) ∧ w'.cell? ⟨G, 4, none⟩ = some (.int .i64 xv)) (first | go_keep | (with_reducible exact ⟨k0, k1, k2, k3, k4⟩)) (first
              | (go_at_call 50; (with_reducible refine (HBT0.o _).mono ?_); rintro e w' ⟨rfl, rfl⟩)
              | (go_at_call 49; (with_reducible refine CN0.o.mono ?_); rintro e u1 ⟨⟨E1, p1, f1, rfl, hp1, hr1, hb1⟩⟩; have k0 := (hb1.cell (p := ⟨G, 0, none⟩) hxl).trans x0; have k1 := (hb1.cell (p := ⟨G, 1, none⟩) hxl).trans x1; have k2 := (hb1.cell (p := ⟨G, 2, none⟩) hxl).trans x2; have k3 := (hb1.cell (p := ⟨G, 3, none⟩) hxl).trans x3; have k4 := (hb1.cell (p := ⟨G, 4, none⟩) hxl).trans x4; have hpl1 : p1 ≤ 40009 := (by have h1 := L0.o 0 (.inl rfl); have h2 := HM.o; rw [hp1, List.length_append]; omega); have HP1 := hd hp1; have HR1 := hd hr1; have HBU1 := hd (undr hb1); have hl1 := Nat.lt_of_lt_of_le hxl hb1.size; clear hp1 hr1 hb1)
              | (go_at_call 47; (with_reducible refine (rptext_calls _ E1 p1 f1 _ (bs xu) HP1.o HR1.o.rds (by omega) (by omega)).mono ?_); rintro e u2 ⟨⟨E2, p2, f2, rfl, hp2, hr2, hb2⟩⟩; rw [bs_data] at hp2 hr2; have j0 := (hb2.cell (p := ⟨G, 0, none⟩) hl1).trans k0; have j1 := (hb2.cell (p := ⟨G, 1, none⟩) hl1).trans k1; have j2 := (hb2.cell (p := ⟨G, 2, none⟩) hl1).trans k2; have j3 := (hb2.cell (p := ⟨G, 3, none⟩) hl1).trans k3; have j4 := (hb2.cell (p := ⟨G, 4, none⟩) hl1).trans k4; clear k0 k1 k2 k3 k4; have k0 := j0; have k1 := j1; have k2 := j2; have k3 := j3; have k4 := j4; clear j0 j1 j2 j3 j4; have hpl2 : p2 ≤ 140009 := (by have h1 := LU.o; have h2 := HXU.o; rw [hp2, List.length_append, ← HP1.o]; omega); have HP2 := hd hp2; have HR2 := hd hr2; have HBU2 := hd (HBU1.o.trans (hb2.mono HBU1.o.size)); have hl2 := Nat.lt_of_lt_of_le hl1 hb2.size; clear hp2 hr2 hb2))
            go_wp2_with fail
            refine (rptext_calls _ E2 p2 f2 _ (bs xc) HP2.o HR2.o.rds (by omega) (by omega)).mono ?_
            rintro e u4 ⟨⟨E4, p4, f4, rfl, hp4, hr4, hb4⟩⟩
            rw [bs_data] at hp4 hr4
            have j0 := (hb4.cell (p := ⟨G, 0, none⟩) hl2).trans k0
            have j3 := (hb4.cell (p := ⟨G, 3, none⟩) hl2).trans k3
            have j4 := (hb4.cell (p := ⟨G, 4, none⟩) hl2).trans k4
            have hpl4 : p4 ≤ 240018 := by
              have h1 := LC.o
              have h2 := HXC.o
              rw [hp4, List.length_append, ← HP2.o]; omega
            have HP4 := hd hp4
            have HR4 := hd hr4
            have HBU4 := hd (HBU2.o.trans (hb4.mono HBU2.o.size))
            clear hp4 hr4 hb4 k0 k1 k2 k3 k4
            go_wp2_with fail
            refine (rpcond_calls _ E4 p4 f4 _ xk xv HP4.o HR4.o.rds (by omega) HXK.o HXV.o).mono ?_
            rintro e u3 ⟨⟨E3, p3, f3, rfl, hp3, hr3, hb3⟩⟩
            have HBU3 := hd (HBU4.o.trans (hb3.mono HBU4.o.size))
            have HEQ := hd (show (([] ++ textB col ++ numB (n : Int)) ++ opsB (ops.take k)) ++ numB 0 ++ textB xu ++ textB xc ++ condB xk xv = ([] ++ textB col ++ numB (n : Int)) ++ opsB (ops.take (k + 1)) by rw [HT.o, HOBx.o]; simp only [List.append_assoc])
            rw [HEQ.o] at hp3 hr3
            have hq3 : p3 ≤ 20100 + (k + 1) * 1000 := by
              have h1 := HM.o
              have h2 := HXL.o
              have h3 := HMB.o
              rw [hp3, HT.o, ← List.append_assoc, List.length_append, ← h1]
              omega
            have HP3 := hd hp3
            have HR3 := hd (hr3.mono (T := From w.heap.size) (fun q hq => Nat.le_trans (Nat.le_trans HB9.o.size HBU4.o.size) hq))
            have HB3 := hd (HB9.o.trans (HBU3.o.mono HB9.o.size))
            have HC3 := hd (HC9.o.trans (HBU3.o.mono HC9.o.size))
            clear hp3 hr3 hb3 j0 j3 j4
            go_wp2
            go_roundw
            case rel => exact ⟨k + 1, p3, f3, E3, by go_num, by omega, by rfl, hq3, HP3, HR3, HB3, HC3⟩
            case measure => simp [intOf]; omega
        · obtain rfl : k = n := by omega
          have HE2 := hd (show ([] ++ textB col ++ numB (k : Int)) ++ opsB (ops.take k) = encB ⟨7, tn, col, uid, card, ck, cv, ops, tok, most, ticks⟩ by
            rw [HE.o, List.take_of_length_le (by rw [HNN.o]; exact Nat.le_refl _), HNN.o]; simp)
          go_wp2_with fail
          go_meet
          exact ⟨B, m, d, rfl, hd (by rw [HM.o, HE2.o]), hd (by rw [← HE2.o]; exact HW.o), HB⟩
    · have HE := hd (show encB ⟨8, tn, col, uid, card, ck, cv, ops, tok, most, ticks⟩ = textB col ++ (numB tok ++ (numB most)) by simp [encB, eT, eN, eC, eO, hT, hC, hU, hCd, hCn, hO, hTk, hM, hTi])
      go_upto_region 28 with (fail)
      have tok0 : True := trivial
      have tok1 : True := trivial
      have tok2 : True := trivial
      go_region_held3 (fun w' => w'.cell? ⟨w.heap.size, 2, none⟩ = some (.string (bs col)) ∧ w'.cell? ⟨w.heap.size, 8, none⟩ = some (.int .i64 tok) ∧ w'.cell? ⟨w.heap.size, 9, none⟩ = some (.int .i64 most)) (first | go_keep | (with_reducible exact ⟨k2, k8, k9⟩)) (first
        | (go_at_call 47; have _t := tok0; (with_reducible refine (rptext_calls _ none 0 0 _ (bs col) rfl (Rds.nil8 _) (by omega) hscol).mono ?_); rintro e w2 ⟨⟨B2, m2, d2, rfl, hm2, hr2, hb2⟩⟩; rw [bs_data] at hm2 hr2; have j2 := (hb2.cell (p := ⟨w.heap.size, 2, none⟩) la).trans a2; have j8 := (hb2.cell (p := ⟨w.heap.size, 8, none⟩) la).trans a8; have j9 := (hb2.cell (p := ⟨w.heap.size, 9, none⟩) la).trans a9; have k2 := j2; have k8 := j8; have k9 := j9; clear j2 j8 j9; have hq2 : m2 ≤ 20009 := (by have h2 := Lcol.o; rw [hm2, List.length_append, List.length_nil]; omega); have HN2 := hd hm2; have HR2 := hd hr2; have HB2 := hd (HB1.o.trans ((undr hb2).mono HB1.o.size)); have HD2 := hd (undr hb2); have l2 := Nat.lt_of_lt_of_le la hb2.size; clear tok0 hm2 hr2 hb2 _t)
        | (go_at_call 49; have _t := tok1; (with_reducible refine (rpnum_calls _ B2 m2 d2 _ tok HN2.o HR2.o.rds (by omega) Htok.o.2 Htok.o.1).mono ?_); rintro e w3 ⟨⟨B3, m3, d3, rfl, hm3, hr3, hb3⟩⟩; have j2 := (hb3.cell (p := ⟨w.heap.size, 2, none⟩) l2).trans k2; have j8 := (hb3.cell (p := ⟨w.heap.size, 8, none⟩) l2).trans k8; have j9 := (hb3.cell (p := ⟨w.heap.size, 9, none⟩) l2).trans k9; clear k2 k8 k9; have k2 := j2; have k8 := j8; have k9 := j9; clear j2 j8 j9; have hq3 : m3 ≤ 20027 := (by have h2 := Ltok.o; rw [hm3, List.length_append, ← HN2.o]; omega); have HN3 := hd hm3; have HR3 := hd hr3; have HB3 := hd (HB2.o.trans ((hb3).mono HB2.o.size)); have HD3 := hd (HD2.o.trans (hb3.mono HD2.o.size)); have l3 := Nat.lt_of_lt_of_le l2 hb3.size; clear tok1 hm3 hr3 hb3 _t)
        | (go_at_call 49; have _t := tok2; (with_reducible refine (rpnum_calls _ B3 m3 d3 _ most HN3.o HR3.o.rds (by omega) Hmost.o.2 Hmost.o.1).mono ?_); rintro e w4 ⟨⟨B4, m4, d4, rfl, hm4, hr4, hb4⟩⟩; have j2 := (hb4.cell (p := ⟨w.heap.size, 2, none⟩) l3).trans k2; have j8 := (hb4.cell (p := ⟨w.heap.size, 8, none⟩) l3).trans k8; have j9 := (hb4.cell (p := ⟨w.heap.size, 9, none⟩) l3).trans k9; clear k2 k8 k9; have k2 := j2; have k8 := j8; have k9 := j9; clear j2 j8 j9; have hq4 : m4 ≤ 20045 := (by have h2 := Lmost.o; rw [hm4, List.length_append, ← HN3.o]; omega); have HN4 := hd hm4; have HR4 := hd hr4; have HB4 := hd (HB3.o.trans ((hb4).mono HB3.o.size)); have HD4 := hd (HD3.o.trans (hb4.mono HD3.o.size)); have l4 := Nat.lt_of_lt_of_le l3 hb4.size; clear tok2 hm4 hr4 hb4 _t))
      have HE2 := hd (show [] ++ textB col ++ numB tok ++ numB most = encB ⟨8, tn, col, uid, card, ck, cv, ops, tok, most, ticks⟩ by rw [HE.o]; simp)
      go_wp2_with fail
      go_meet
      exact ⟨B4, m4, d4, rfl, hd (by rw [HN4.o, HE2.o]), hd (by rw [← HE2.o]; exact HR4.o.mono (fun q hq => Nat.le_trans HB3.o.size hq)), HB4⟩
    · have HE := hd (show encB ⟨9, tn, col, uid, card, ck, cv, ops, tok, most, ticks⟩ = textB col ++ (numB tok ++ (numB ticks)) by simp [encB, eT, eN, eC, eO, hT, hC, hU, hCd, hCn, hO, hTk, hM, hTi])
      go_upto_region 30 with (fail)
      have tok0 : True := trivial
      have tok1 : True := trivial
      have tok2 : True := trivial
      go_region_held3 (fun w' => w'.cell? ⟨w.heap.size, 2, none⟩ = some (.string (bs col)) ∧ w'.cell? ⟨w.heap.size, 8, none⟩ = some (.int .i64 tok) ∧ w'.cell? ⟨w.heap.size, 10, none⟩ = some (.int .i64 ticks)) (first | go_keep | (with_reducible exact ⟨k2, k8, k10⟩)) (first
        | (go_at_call 47; have _t := tok0; (with_reducible refine (rptext_calls _ none 0 0 _ (bs col) rfl (Rds.nil8 _) (by omega) hscol).mono ?_); rintro e w2 ⟨⟨B2, m2, d2, rfl, hm2, hr2, hb2⟩⟩; rw [bs_data] at hm2 hr2; have j2 := (hb2.cell (p := ⟨w.heap.size, 2, none⟩) la).trans a2; have j8 := (hb2.cell (p := ⟨w.heap.size, 8, none⟩) la).trans a8; have j10 := (hb2.cell (p := ⟨w.heap.size, 10, none⟩) la).trans a10; have k2 := j2; have k8 := j8; have k10 := j10; clear j2 j8 j10; have hq2 : m2 ≤ 20009 := (by have h2 := Lcol.o; rw [hm2, List.length_append, List.length_nil]; omega); have HN2 := hd hm2; have HR2 := hd hr2; have HB2 := hd (HB1.o.trans ((undr hb2).mono HB1.o.size)); have HD2 := hd (undr hb2); have l2 := Nat.lt_of_lt_of_le la hb2.size; clear tok0 hm2 hr2 hb2 _t)
        | (go_at_call 49; have _t := tok1; (with_reducible refine (rpnum_calls _ B2 m2 d2 _ tok HN2.o HR2.o.rds (by omega) Htok.o.2 Htok.o.1).mono ?_); rintro e w3 ⟨⟨B3, m3, d3, rfl, hm3, hr3, hb3⟩⟩; have j2 := (hb3.cell (p := ⟨w.heap.size, 2, none⟩) l2).trans k2; have j8 := (hb3.cell (p := ⟨w.heap.size, 8, none⟩) l2).trans k8; have j10 := (hb3.cell (p := ⟨w.heap.size, 10, none⟩) l2).trans k10; clear k2 k8 k10; have k2 := j2; have k8 := j8; have k10 := j10; clear j2 j8 j10; have hq3 : m3 ≤ 20027 := (by have h2 := Ltok.o; rw [hm3, List.length_append, ← HN2.o]; omega); have HN3 := hd hm3; have HR3 := hd hr3; have HB3 := hd (HB2.o.trans ((hb3).mono HB2.o.size)); have HD3 := hd (HD2.o.trans (hb3.mono HD2.o.size)); have l3 := Nat.lt_of_lt_of_le l2 hb3.size; clear tok1 hm3 hr3 hb3 _t)
        | (go_at_call 49; have _t := tok2; (with_reducible refine (rpnum_calls _ B3 m3 d3 _ ticks HN3.o HR3.o.rds (by omega) Hticks.o.2 Hticks.o.1).mono ?_); rintro e w4 ⟨⟨B4, m4, d4, rfl, hm4, hr4, hb4⟩⟩; have j2 := (hb4.cell (p := ⟨w.heap.size, 2, none⟩) l3).trans k2; have j8 := (hb4.cell (p := ⟨w.heap.size, 8, none⟩) l3).trans k8; have j10 := (hb4.cell (p := ⟨w.heap.size, 10, none⟩) l3).trans k10; clear k2 k8 k10; have k2 := j2; have k8 := j8; have k10 := j10; clear j2 j8 j10; have hq4 : m4 ≤ 20045 := (by have h2 := Lticks.o; rw [hm4, List.length_append, ← HN3.o]; omega); have HN4 := hd hm4; have HR4 := hd hr4; have HB4 := hd (HB3.o.trans ((hb4).mono HB3.o.size)); have HD4 := hd (HD3.o.trans (hb4.mono HD3.o.size)); have l4 := Nat.lt_of_lt_of_le l3 hb4.size; clear tok2 hm4 hr4 hb4 _t))
      have HE2 := hd (show [] ++ textB col ++ numB tok ++ numB ticks = encB ⟨9, tn, col, uid, card, ck, cv, ops, tok, most, ticks⟩ by rw [HE.o]; simp)
      go_wp2_with fail
      go_meet
      exact ⟨B4, m4, d4, rfl, hd (by rw [HN4.o, HE2.o]), hd (by rw [← HE2.o]; exact HR4.o.mono (fun q hq => Nat.le_trans HB3.o.size hq)), HB4⟩
    · have HE := hd (show encB ⟨10, tn, col, uid, card, ck, cv, ops, tok, most, ticks⟩ = [] by simp [encB, eT, eN, eC, eO, hT, hC, hU, hCd, hCn, hO, hTk, hM, hTi])
      go_wp2_with fail
      go_meet
      exact ⟨none, 0, 0, rfl, hd (by rw [HE.o]; rfl), hd (by rw [HE.o]; exact Row.nil _ _ _ _), HB1⟩
    · have HE := hd (show encB ⟨11, tn, col, uid, card, ck, cv, ops, tok, most, ticks⟩ = [] by simp [encB, eT, eN, eC, eO, hT, hC, hU, hCd, hCn, hO, hTk, hM, hTi])
      go_wp2_with fail
      go_meet
      exact ⟨none, 0, 0, rfl, hd (by rw [HE.o]; rfl), hd (by rw [HE.o]; exact Row.nil _ _ _ _), HB1⟩
  case rest =>
  obtain ⟨B, m, d, rfl, HM, HW, HB⟩ := hcut
  go_wp2
  go_ret2
  exact ⟨fun _ => ⟨B, m, d, rfl, HM.o, HW.o, HB.o⟩, fun h => absurd H0.o h⟩

end Go.Proofs.YtogjokofmfpmgaaGreatDoor
namespace Go.Proofs.YtogjokofmfpmgaaGreatDoor
open Go.RowKit

theorem wpAnyH_mono {P : Program} {md : Region.Mode} {ops : Array Oper} {Q : Exit → Act → World → Prop} {S S' : World → Prop} (h : ∀ w, S' w → S w) :
    ∀ (fuel : Nat) (listed : Array Bool) (a : Act) (w : World), wpAnyH P md ops Q S' fuel listed a w → wpAnyH P md ops Q S fuel listed a w
  | 0, _, _, _, k => k
  | fuel + 1, _, _, _, k => ⟨k.1, fun i hi => wpOp_mono (fun a' w' k' => ⟨h _ k'.1, wpAnyH_mono h fuel _ a' w' k'.2⟩) (k.2 i hi)⟩
theorem cell_new_old {w : World} {a : Addr} {v : Value} {o : Obj} (h : w.cell? a = some v) : (w.alloc o).cell? a = some v := by
  rw [((Below.refl w.heap.size w).alloc (Nat.le_refl _) o).cell (block_lt_of_cell h)]; exact h

theorem balloc {w w' : World} {o : Obj} (h : Below w.heap.size w w') : Below w.heap.size w (w'.alloc o) := h.alloc h.size o

set_option maxRecDepth 100000 in
set_option maxHeartbeats 4000000 in
theorem rfline_calls (f : Fld) (hs : f.v.length ≤ 1000000) (w : World) : Calls Tryz.prog 120 #[fldV f] w fun e w' => e = .returned (.string (bs (lineF f))) ∧ Below w.heap.size w w' := by
  have C1 := hd (fun W => rfmay_calls f hs W)
  obtain ⟨L, hL⟩ : ∃ L, lineF f = L := ⟨_, rfl⟩
  rw [hL]
  have hR := raw_sum f.k f.l f.v
  have hl1 := kindL_len f.k
  have hl2 := labL_len f.l
  rw [← bs_size] at hl1 hl2
  have hz3 : (bs f.v).size ≤ 1000000 := by rw [bs_size]; exact hs
  have HB0 := hd ((Below.refl w.heap.size w).alloc (Nat.le_refl _) (.cells #[.int .i64 f.k, .int .i64 f.l, .string (bs f.v)] 128))
  have HK := hd (Blk.new w 128 #[.int .i64 f.k, .int .i64 f.l, .string (bs f.v)])
  by_cases hm : MayF f
  · rw [mayF_t hm] at C1
    have hok := may_ok hm
    rw [line_yes hm] at hL
    have HL := hd hL
    obtain ⟨k, l, v⟩ := f
    simp only [fldV] at C1
    change Calls _ _ #[.agg #[.int .i64 k, .int .i64 l, .string (bs v)]] _ _
    simp only at hR hl1 hl2 hz3 HB0 HK hok
    have hok' : 1 ≤ k ∧ k ≤ 6 ∧ 0 ≤ l ∧ l ≤ 3 := by unfold okKL at hok; omega
    obtain ⟨q, rfl, hq⟩ : ∃ q : Nat, k = q ∧ q < 7 := ⟨k.toNat, by omega, by omega⟩
    obtain ⟨r, rfl, hr⟩ : ∃ r : Nat, l = r ∧ r < 4 := ⟨l.toNat, by omega, by omega⟩
    have HQ := hd (words_at q hq)
    have HP := hd (labels_at r hr)
    obtain ⟨K, hK⟩ : ∃ K, bs (kindL q) = K := ⟨_, rfl⟩
    obtain ⟨B, hB⟩ : ∃ B, bs (labL r) = B := ⟨_, rfl⟩
    obtain ⟨V, hV⟩ : ∃ V, bs v = V := ⟨_, rfl⟩
    rw [hK] at hl1 HQ
    rw [hB] at hl2 HP
    rw [hV] at C1 hz3 HB0 HK ⊢
    rw [hK, hB, hV] at hR
    have HR := hd hR
    have zs1 : (K ++ B).size = K.size + B.size := ByteArray.size_append
    have zs2 : (K ++ B ++ ⟨#[58]⟩).size = K.size + B.size + 1 := by rw [ByteArray.size_append, zs1]; rfl
    have q0 : (0 : Int) ≤ (q : Int) := by omega
    have q7 : (q : Int) < 7 := by omega
    have r0 : (0 : Int) ≤ (r : Int) := by omega
    have r4 : (r : Int) < 4 := by omega
    clear hK hB hV hR hL hm hok hs hok' hq hr
    go_enter Tryz.func120, Tryz.ntmps120
    go_wp2_with fail
    refine (C1.o _).mono ?_
    rintro e w1 ⟨rfl, hb1⟩
    have k1 := HK.o.below hb1 (by simp)
    have HB1 := hd (HB0.o.trans (hb1.mono HB0.o.size))
    have a0 := k1.at_ 0 rfl
    have a1 := k1.at_ 1 rfl
    have a2 := k1.at_ 2 rfl
    clear k1 hb1 HK HB0 C1
    go_wp2_with fail
    go_cut [2] from 3 to 3 (fun s2 wx => s2 = .string (K ++ B ++ ⟨#[58]⟩ ++ V) ∧ Below w1.heap.size w1 wx)
    case first =>
      have zz1 : ¬ 9223372036854775807 < K.size + B.size := by omega
      have zz2 : ¬ 9223372036854775807 < K.size + B.size + 1 := by omega
      have zz3 : ¬ 9223372036854775807 < K.size + B.size + 1 + V.size := by omega
      refine wp_region_held_drew (S := (fun w' : World => w'.cell? ⟨w.heap.size, 0, none⟩ = some (.int .i64 (q : Int)) ∧ w'.cell? ⟨w.heap.size, 1, none⟩ = some (.int .i64 (r : Int)) ∧ w'.cell? ⟨w.heap.size, 2, none⟩ = some (.string V))) (by kernel_rfl) ⟨a0, a1, a2⟩ (fun hHeld => ?_)
      refine wpAnyH_take (i := 1) (v := ?v1) rfl (by kernel_rfl) (by kernel_rfl) (by kernel_rfl) (fun _ _ _ h => h) (Or.inl ⟨by rfl, ?hy1⟩) (by assumption) ?rest1
      case hy1 => (intro w hSw; (try dsimp only at hSw); go_simp; (try with_reducible rfl))
      (try simp only [Act.put, List.setIfInBounds_toArray, List.set_cons_zero, List.set_cons_succ])
      refine wpAnyH_take (i := 2) (v := ?v2) rfl (by kernel_rfl) (by kernel_rfl) (by kernel_rfl) (fun _ _ _ h => h) (Or.inl ⟨by rfl, ?hy2⟩) (by assumption) ?rest2
      case hy2 => (intro w hSw; (try dsimp only at hSw); go_simp; (try with_reducible rfl))
      (try simp only [Act.put, List.setIfInBounds_toArray, List.set_cons_zero, List.set_cons_succ])
      refine wpAnyH_take (i := 6) (v := ?v6) rfl (by kernel_rfl) (by kernel_rfl) (by kernel_rfl) (fun _ _ _ h => h) (Or.inl ⟨by rfl, ?hy6⟩) (by assumption) ?rest6
      case hy6 => (intro w hSw; (try dsimp only at hSw); go_simp; (try with_reducible rfl))
      (try simp only [Act.put, List.setIfInBounds_toArray, List.set_cons_zero, List.set_cons_succ])
      refine wpAnyH_take (i := 7) (v := ?v7) rfl (by kernel_rfl) (by kernel_rfl) (by kernel_rfl) (fun _ _ _ h => h) (Or.inl ⟨by rfl, ?hy7⟩) (by assumption) ?rest7
      case hy7 => (intro w hSw; (try dsimp only at hSw); go_simp; (try with_reducible rfl))
      (try simp only [Act.put, List.setIfInBounds_toArray, List.set_cons_zero, List.set_cons_succ])
      refine wpAnyH_take (i := 12) (v := ?v12) rfl (by kernel_rfl) (by kernel_rfl) (by kernel_rfl) (fun _ _ _ h => h) (Or.inl ⟨by rfl, ?hy12⟩) (by assumption) ?rest12
      case hy12 => (intro w hSw; (try dsimp only at hSw); go_simp; (try with_reducible rfl))
      (try simp only [Act.put, List.setIfInBounds_toArray, List.set_cons_zero, List.set_cons_succ])
      refine wpAnyH_take (i := 13) (v := ?v13) rfl (by kernel_rfl) (by kernel_rfl) (by kernel_rfl) (fun _ _ _ h => h) (Or.inl ⟨by rfl, ?hy13⟩) (by assumption) ?rest13
      case hy13 => (intro w hSw; (try dsimp only at hSw); go_simp; (try with_reducible rfl))
      (try simp only [Act.put, List.setIfInBounds_toArray, List.set_cons_zero, List.set_cons_succ])
      refine wpAnyH_ready (rs := [0]) (by kernel_rfl) (by simp) ?_
      refine AllReadyH.cons rfl (fun K hK => ?_) AllReadyH.nil
      go_simp
      go_at_call 107
      refine (words_calls _).mono ?_
      rintro e w' ⟨rfl, rfl⟩
      go_wp2_with fail
      refine hK.out _ _ ⟨cell_new_old a0, cell_new_old a1, cell_new_old a2⟩ (fun hHeld => ?_)
      clear hK K
      (try simp only [Act.put, List.setIfInBounds_toArray, List.set_cons_zero, List.set_cons_succ])
      clear hHeld
      refine wpAnyH_mono (S' := fun w' => (fun w' : World => w'.cell? ⟨w.heap.size, 0, none⟩ = some (.int .i64 (q : Int)) ∧ w'.cell? ⟨w.heap.size, 1, none⟩ = some (.int .i64 (r : Int)) ∧ w'.cell? ⟨w.heap.size, 2, none⟩ = some (.string V)) w' ∧ (fun w' : World => w'.cell? ⟨w1.heap.size, q, none⟩ = some (.string K)) w') (fun _ h => h.1) _ _ _ _ ?_
      have hHeld : (fun w' => (fun w' : World => w'.cell? ⟨w.heap.size, 0, none⟩ = some (.int .i64 (q : Int)) ∧ w'.cell? ⟨w.heap.size, 1, none⟩ = some (.int .i64 (r : Int)) ∧ w'.cell? ⟨w.heap.size, 2, none⟩ = some (.string V)) w' ∧ (fun w' : World => w'.cell? ⟨w1.heap.size, q, none⟩ = some (.string K)) w') (w1.alloc (.cells wordsC 9)).drew := ⟨⟨cell_new_old a0, cell_new_old a1, cell_new_old a2⟩, (Blk.new w1 9 wordsC).at_ q HQ.o⟩
      refine wpAnyH_take (i := 3) (v := ?v3) rfl (by kernel_rfl) (by kernel_rfl) (by kernel_rfl) (fun _ _ _ h => h) (Or.inl ⟨by rfl, ?hy3⟩) (by assumption) ?rest3
      case hy3 => (intro w hSw; (try dsimp only at hSw); go_simp; (try with_reducible rfl))
      (try simp only [Act.put, List.setIfInBounds_toArray, List.set_cons_zero, List.set_cons_succ])
      refine wpAnyH_take (i := 4) (v := ?v4) rfl (by kernel_rfl) (by kernel_rfl) (by kernel_rfl) (fun _ _ _ h => h) (Or.inl ⟨by rfl, ?hy4⟩) (by assumption) ?rest4
      case hy4 => (intro w hSw; (try dsimp only at hSw); go_simp; (try with_reducible rfl))
      (try simp only [Act.put, List.setIfInBounds_toArray, List.set_cons_zero, List.set_cons_succ])
      refine wpAnyH_ready (rs := [5]) (by kernel_rfl) (by simp) ?_
      refine AllReadyH.cons rfl (fun K hK => ?_) AllReadyH.nil
      go_simp
      go_at_call 108
      refine (labels_calls _).mono ?_
      rintro e w' ⟨rfl, rfl⟩
      go_wp2_with fail
      refine hK.out _ _ ⟨⟨cell_new_old (cell_new_old a0), cell_new_old (cell_new_old a1), cell_new_old (cell_new_old a2)⟩, ((Blk.new w1 9 wordsC).alloc _).at_ q HQ.o⟩ (fun hHeld => ?_)
      clear hK K
      (try simp only [Act.put, List.setIfInBounds_toArray, List.set_cons_zero, List.set_cons_succ])
      clear hHeld
      refine wpAnyH_mono (S' := fun w' => ((fun w' : World => w'.cell? ⟨w.heap.size, 0, none⟩ = some (.int .i64 (q : Int)) ∧ w'.cell? ⟨w.heap.size, 1, none⟩ = some (.int .i64 (r : Int)) ∧ w'.cell? ⟨w.heap.size, 2, none⟩ = some (.string V)) w' ∧ (fun w' : World => w'.cell? ⟨w1.heap.size, q, none⟩ = some (.string K)) w') ∧ (fun w' : World => w'.cell? ⟨w1.heap.size + 1, r, none⟩ = some (.string B)) w') (fun _ h => h.1) _ _ _ _ ?_
      have hHeld : (fun w' => ((fun w' : World => w'.cell? ⟨w.heap.size, 0, none⟩ = some (.int .i64 (q : Int)) ∧ w'.cell? ⟨w.heap.size, 1, none⟩ = some (.int .i64 (r : Int)) ∧ w'.cell? ⟨w.heap.size, 2, none⟩ = some (.string V)) w' ∧ (fun w' : World => w'.cell? ⟨w1.heap.size, q, none⟩ = some (.string K)) w') ∧ (fun w' : World => w'.cell? ⟨w1.heap.size + 1, r, none⟩ = some (.string B)) w') ((w1.alloc (.cells wordsC 9)).alloc (.cells labelsC 9)).drew := ⟨⟨⟨cell_new_old (cell_new_old a0), cell_new_old (cell_new_old a1), cell_new_old (cell_new_old a2)⟩, ((Blk.new w1 9 wordsC).alloc _).at_ q HQ.o⟩, (Blk.new_ (w1.alloc (.cells wordsC 9)) (w1.heap.size + 1) (by simp) 9 labelsC).at_ r HP.o⟩
      refine wpAnyH_take (i := 8) (v := ?v8) rfl (by kernel_rfl) (by kernel_rfl) (by kernel_rfl) (fun _ _ _ h => h) (Or.inl ⟨by rfl, ?hy8⟩) (by assumption) ?rest8
      case hy8 => (intro w hSw; (try dsimp only at hSw); go_simp; (try with_reducible rfl))
      (try simp only [Act.put, List.setIfInBounds_toArray, List.set_cons_zero, List.set_cons_succ])
      refine wpAnyH_take (i := 9) (v := ?v9) rfl (by kernel_rfl) (by kernel_rfl) (by kernel_rfl) (fun _ _ _ h => h) (Or.inl ⟨by rfl, ?hy9⟩) (by assumption) ?rest9
      case hy9 => (intro w hSw; (try dsimp only at hSw); go_simp; (try with_reducible rfl))
      (try simp only [Act.put, List.setIfInBounds_toArray, List.set_cons_zero, List.set_cons_succ])
      refine wpAnyH_take (i := 10) (v := ?v10) rfl (by kernel_rfl) (by kernel_rfl) (by kernel_rfl) (fun _ _ _ h => h) (Or.inl ⟨by rfl, ?hy10⟩) (by assumption) ?rest10
      case hy10 => (intro w hSw; (try dsimp only at hSw); go_simp; (try with_reducible rfl))
      (try simp only [Act.put, List.setIfInBounds_toArray, List.set_cons_zero, List.set_cons_succ])
      refine wpAnyH_take (i := 11) (v := ?v11) rfl (by kernel_rfl) (by kernel_rfl) (by kernel_rfl) (fun _ _ _ h => h) (Or.inl ⟨by rfl, ?hy11⟩) (by assumption) ?rest11
      case hy11 => (intro w hSw; (try dsimp only at hSw); go_simp; (try with_reducible rfl))
      (try simp only [Act.put, List.setIfInBounds_toArray, List.set_cons_zero, List.set_cons_succ])
      refine wpAnyH_take (i := 14) (v := ?v14) rfl (by kernel_rfl) (by kernel_rfl) (by kernel_rfl) (fun _ _ _ h => h) (Or.inl ⟨by rfl, ?hy14⟩) (by assumption) ?rest14
      case hy14 => (intro w hSw; (try dsimp only at hSw); go_simp; (try with_reducible rfl))
      (try simp only [Act.put, List.setIfInBounds_toArray, List.set_cons_zero, List.set_cons_succ])
      refine wpAnyH_take (i := 15) (v := ?v15) rfl (by kernel_rfl) (by kernel_rfl) (by kernel_rfl) (fun _ _ _ h => h) (Or.inl ⟨by rfl, ?hy15⟩) (by assumption) ?rest15
      case hy15 => (intro w hSw; (try dsimp only at hSw); go_simp; (try with_reducible rfl))
      (try simp only [Act.put, List.setIfInBounds_toArray, List.set_cons_zero, List.set_cons_succ])
      refine wpAnyH_done (by kernel_rfl) ?_ _
      all_goals
        go_wp2_with fail
        go_meet
        refine ⟨rfl, ?_⟩
        repeat (first | exact Below.refl _ _ | apply bdrew | apply balloc)
    case rest =>
      obtain ⟨rfl, hb⟩ := hcut
      go_wp2
      go_ret
      exact ⟨retS (HR.o.trans (by rw [← HL.o])), HB1.o.trans (hb.mono HB1.o.size)⟩
  · rw [mayF_f hm] at C1
    rw [line_no hm] at hL
    have HL := hd hL
    obtain ⟨k, l, v⟩ := f
    simp only [fldV] at C1
    change Calls _ _ #[.agg #[.int .i64 k, .int .i64 l, .string (bs v)]] _ _
    simp only at HB0 HK
    clear hL hm hs hR hl1 hl2 hz3
    go_enter Tryz.func120, Tryz.ntmps120
    go_wp2_with fail
    refine (C1.o _).mono ?_
    rintro e w1 ⟨rfl, hb1⟩
    have HB1 := hd (HB0.o.trans (hb1.mono HB0.o.size))
    clear hb1 HK HB0 C1
    go_wp2
    go_ret
    exact ⟨retS (by rw [← HL.o]; rfl), HB1.o⟩

end Go.Proofs.YtogjokofmfpmgaaGreatDoor
namespace Go.Proofs.YtogjokofmfpmgaaGreatDoor
open Go.RowKit Go.Sort

set_option maxRecDepth 100000 in
set_option maxHeartbeats 4000000 in
theorem rlines_calls (w : World) (A : Option Addr) (n c : Nat) (l : List Fld) (hn : n = l.length) (hr : Rds w A n 3 (fsE l)) (hb : n ≤ 1000) (hm : ∀ f ∈ l, f.v.length ≤ 1000000) :
    Calls Tryz.prog 111 #[.slice A n c] w fun e w' => e = .returned (.string (bs (textL l))) ∧ Below w.heap.size w w' := by
  have HN := hd hn
  have HR := hd hr
  have HM := hd hm
  clear hn hr hm
  go_enter Tryz.func111, Tryz.ntmps111
  go_wp2_with fail
  go_loopw [4, 3] (fun i s wr => ∃ (k : Nat) (t : ByteArray), i = .int .i64 k ∧ k ≤ n ∧ s = .string t ∧ t.size ≤ k * 75 ∧ Hd (t = bs (textL (l.take k))) ∧ Hd (Below w.heap.size w wr)) (fun i _ _ => n - (intOf i).toNat)
  case atStart => exact ⟨0, _, rfl, Nat.zero_le _, rfl, Nat.le_refl _, hd rfl, hd (Below.refl _ _)⟩
  case round =>
    obtain ⟨k, t, rfl, hk, rfl, ht, HT, HW⟩ := hrel
    obtain ⟨wi, rfl⟩ : ∃ wi : World, wi = wr := ⟨_, rfl⟩
    by_cases hlt : k < n
    · have hlti : decide ((k : Int) < (n : Int)) = true := by simp; omega
      have hkl : k < l.length := by rw [← HN.o]; exact hlt
      obtain ⟨f, hf⟩ : ∃ f, l[k]'hkl = f := ⟨_, rfl⟩
      have hfm := HM.o f (by rw [← hf]; exact List.getElem_mem _)
      have hll := line_len f
      obtain ⟨g, o, hA, hg, hc⟩ := (HR.o.below HW.o).at_ (by omega)
      subst hA
      have hcf : ∀ t u, t < 3 → (fEnc f)[t]? = some u → wi.cell? ⟨g, o + k * 3 + t, none⟩ = some u := fun t u ht hv => by
        rw [Nat.add_assoc]
        exact hc _ _ ((fsE_at l k hkl t ht).trans (by rw [hf]; exact hv))
      have c0 := hcf 0 _ (by omega) rfl
      have c1 := hcf 1 _ (by omega) rfl
      have c2 := hcf 2 _ (by omega) rfl
      rw [Nat.add_zero] at c0
      have C1 := fun W => rfline_calls f hfm W
      have HNX := hd (show t ++ (bs (lineF f) ++ ⟨#[10]⟩) = bs (textL (l.take (k + 1))) by
        rw [HT.o, show (⟨#[10]⟩ : ByteArray) = bs [10] from rfl, bs_app2, bs_app2, textL_take l k hkl, hf])
      have hzl : (bs (lineF f)).size = (lineF f).length := bs_size _
      obtain ⟨L, hL⟩ : ∃ L, bs (lineF f) = L := ⟨_, rfl⟩
      rw [hL] at C1 HNX hzl
      have hz1 : (L ++ ⟨#[10]⟩).size = L.size + 1 := by rw [ByteArray.size_append]; rfl
      have hz2 : (t ++ (L ++ ⟨#[10]⟩)).size = t.size + (L.size + 1) := by rw [ByteArray.size_append, hz1]
      have hLs : L.size ≤ 74 := by omega
      obtain ⟨fk, fl, fv⟩ := f
      simp only [fldV] at C1
      have K1 := hd C1
      clear hcf hc hL hf hfm hll hzl C1
      go_wp2_with fail
      refine (K1.o _).mono ?_
      rintro e wx ⟨rfl, hbx⟩
      have HWX := hd (HW.o.trans (hbx.mono HW.o.size))
      clear hbx c0 c1 c2
      go_wp2
      go_roundw
      case rel => exact ⟨k + 1, _, by go_num, by omega, rfl, by rw [hz2]; omega, HNX, HWX⟩
      case measure => simp [intOf]; omega
    · have hlti : decide ((k : Int) < (n : Int)) = false := by simp; omega
      have HTT := hd (show t = bs (textL l) by
        have := HT.o
        rwa [List.take_of_length_le (by rw [← HN.o]; omega)] at this)
      go_wp2
      go_ret
      exact ⟨retS HTT.o, HW.o⟩

end Go.Proofs.YtogjokofmfpmgaaGreatDoor
