/-
  The reference's DecodeReq.
-/
import Derived.Test.YtogjokofmfpmgaaGreatDoorGSA
import Derived.Test.YtogjokofmfpmgaaGreatDoorGSB
import Derived.Deep.CutRange
import Derived.Deep.CutBlock
set_option linter.unusedVariables false
set_option linter.unusedSimpArgs false
namespace Go.Proofs.YtogjokofmfpmgaaGreatDoor
open Go.RowKit

set_option maxRecDepth 100000 in
set_option maxHeartbeats 16000000 in
theorem rdec_in (k : Int) (hk : isK k = true) (w : World) (A : Option Addr) (n c : Nat) (l : List UInt8) (hnl : n = l.length) (hr : Rds w A n 1 (u8E l)) (hn : n ≤ 1000000) (hnc : n ≤ c) :
    Calls Tryz.prog 18 #[.int .i64 k, .slice A n c] w fun e w' => DecR w k l e w' := by
  have hl : l.length ≤ 1000000 := by omega
  have hkk := kind_or hk
  obtain ⟨QQ, hQQ⟩ : ∃ QQ, QQ = bodyPost Tryz.prog Tryz.f18 (fun e w' => DecR w k l e w') := ⟨_, rfl⟩
  have HQQ := hd hQQ
  obtain ⟨w0, hw0⟩ : ∃ w0, w0 = w.alloc (.cells #[.int .i64 0, .string ⟨#[]⟩, .string ⟨#[]⟩, .string ⟨#[]⟩, .string ⟨#[]⟩, .int .i64 0, .int .i64 0, .slice none 0 0, .int .i64 0, .int .i64 0, .int .i64 0] 26) := ⟨_, rfl⟩
  have HZ0 := hd (show Blk w0 w.heap.size 26 #[.int .i64 0, .string ⟨#[]⟩, .string ⟨#[]⟩, .string ⟨#[]⟩, .string ⟨#[]⟩, .int .i64 0, .int .i64 0, .slice none 0 0, .int .i64 0, .int .i64 0, .int .i64 0] by rw [hw0]; exact Blk.new _ _ _)
  have HB0 := hd (show Below w.heap.size w w0 by rw [hw0]; exact (Below.refl _ w).alloc (Nat.le_refl _) _)
  obtain ⟨g, hg⟩ : ∃ g, w0.heap.size = g := ⟨_, rfl⟩
  have hgw : w.heap.size ≤ g := by rw [← hg]; exact HB0.o.size
  obtain ⟨w1, hw1⟩ : ∃ w1, w1 = w0.alloc (.cells #[.slice A n c, .int .i64 0, .int .i64 0] 96) := ⟨_, rfl⟩
  have HB1 := hd (show Below w.heap.size w w1 by rw [hw1]; exact HB0.o.alloc HB0.o.size _)
  have HZ1 := hd (show Blk w1 w.heap.size 26 #[.int .i64 0, .string ⟨#[]⟩, .string ⟨#[]⟩, .string ⟨#[]⟩, .string ⟨#[]⟩, .int .i64 0, .int .i64 0, .slice none 0 0, .int .i64 0, .int .i64 0, .int .i64 0] by rw [hw1]; exact HZ0.o.alloc _)
  have HR1 := hd (show RkR w1 w.heap.size g l (some l) from ⟨A, n, c, 0, 0, by rw [hw1, ← hg]; exact Blk.new _ _ _, (Old.of hr).below HB1.o, hnc, hnl, Nat.zero_le _, hgw, .inl ⟨rfl, rfl⟩⟩)
  obtain ⟨Q, hQ⟩ : ∃ Q, w1.heap.size = Q := ⟨_, rfl⟩
  have hQw : w.heap.size < Q := by rw [← hQ]; exact HZ1.o.lt
  obtain ⟨wc, hwc⟩ : ∃ wc, wc = w1.alloc (.cells #[.int .i64 k, .string ⟨#[]⟩, .string ⟨#[]⟩, .string ⟨#[]⟩, .string ⟨#[]⟩, .int .i64 0, .int .i64 0, .slice none 0 0, .int .i64 0, .int .i64 0, .int .i64 0] 26) := ⟨_, rfl⟩
  have HB := hd (show Below w.heap.size w wc by rw [hwc]; exact HB1.o.alloc HB1.o.size _)
  have HZ := hd (show Blk wc w.heap.size 26 #[.int .i64 0, .string ⟨#[]⟩, .string ⟨#[]⟩, .string ⟨#[]⟩, .string ⟨#[]⟩, .int .i64 0, .int .i64 0, .slice none 0 0, .int .i64 0, .int .i64 0, .int .i64 0] by rw [hwc]; exact HZ1.o.alloc _)
  have HR := hd (show RkR wc w.heap.size g l (some l) by rw [hwc]; exact HR1.o.alloc _)
  have HQ := hd (show Blk wc Q 26 #[.int .i64 k, .string ⟨#[]⟩, .string ⟨#[]⟩, .string ⟨#[]⟩, .string ⟨#[]⟩, .int .i64 0, .int .i64 0, .slice none 0 0, .int .i64 0, .int .i64 0, .int .i64 0] by rw [hwc, ← hQ]; exact Blk.new _ _ _)
  have HW0 := hd hw0
  have HW1 := hd hw1
  have HW5 := hd hwc
  have HG := hd hg
  have HQE := hd hQ
  have HKK := hd hk
  have hb1 : decide (k < 1) = false := by simp; omega
  have hb2 : decide ((11 : Int) < k) = false := by simp; omega
  clear hkk hw0 hw1 hwc hg hQ hk
  go_enter Tryz.func18, Tryz.ntmps18
  rw [← hQQ]
  clear hQQ hr hnl hnc
  go_upto_region 3 with (fail)
  rw [← HW0.o]
  go_upto_region 4 with (fail)
  rw [← HW1.o]
  (try rw [HG.o])
  go_upto_region 5 with (fail)
  rw [← HW5.o]
  (try rw [HQE.o])
  clear hb1 hb2 HW0 HW1 HW5 HG HQE HZ0 HB0 HZ1 HB1 HR1
  go_upto_block 0 with (fail)
  go_cut [] from 25 to 35 (fun wx => ∃ s0 s1 : ByteArray, Hd (Blk wx Q 26 #[.int .i64 k, .string s0, .string s1, .string ⟨#[]⟩, .string ⟨#[]⟩, .int .i64 0, .int .i64 0, .slice none 0 0, .int .i64 0, .int .i64 0, .int .i64 0]) ∧ Hd (First k l s0 s1) ∧ Hd (RkR wx w.heap.size g l (st2 k l)) ∧ Hd (Blk wx w.heap.size 26 #[.int .i64 0, .string ⟨#[]⟩, .string ⟨#[]⟩, .string ⟨#[]⟩, .string ⟨#[]⟩, .int .i64 0, .int .i64 0, .slice none 0 0, .int .i64 0, .int .i64 0, .int .i64 0]) ∧ Hd (Below w.heap.size w wx))
  case first =>
    rcases kinds1 HKK.o with rfl | rfl | rfl | ⟨ha, hb, hc⟩
    · go_upto_region 8 with (fail)
      go_wp2_with fail
      refine (kText_calls wc w.heap.size g l _ 20000 HR.o hl (by decide)).mono ?_
      rintro e ua ⟨s0, rfl, hv, hr, hc⟩
      have hza := HZ.o.chg hc (HR.o.off HZ.o (by decide))
      have hqa := HQ.o.chg hc (HR.o.off HQ.o (by decide))
      have hba := HB.o.trans (below_one hc hgw HB.o.size)
      have z1 := hqa.at_ 1 rfl
      have f1 := hqa.frozen 1
      obtain ⟨wa, hw⟩ : ∃ wa, wa = (ua.setCell ⟨Q, 1, none⟩ (.string s0)) := ⟨_, rfl⟩
      have HQa := hd (show Blk wa Q 26 #[.int .i64 1, .string s0, .string ⟨#[]⟩, .string ⟨#[]⟩, .string ⟨#[]⟩, .int .i64 0, .int .i64 0, .slice none 0 0, .int .i64 0, .int .i64 0, .int .i64 0] by rw [hw]; exact (hqa.set_ 1 _))
      have HRa := hd (show RkR wa w.heap.size g l (textS 20000 (some l)) by rw [hw]; exact (hr).far hqa (by decide) (Nat.le_of_lt hQw) _)
      have HZa := hd (show Blk wa w.heap.size 26 #[.int .i64 0, .string ⟨#[]⟩, .string ⟨#[]⟩, .string ⟨#[]⟩, .string ⟨#[]⟩, .int .i64 0, .int .i64 0, .slice none 0 0, .int .i64 0, .int .i64 0, .int .i64 0] by rw [hw]; exact (hza.far (p := ⟨Q, 1, none⟩) (show w.heap.size ≠ Q by omega) _))
      have HBa := hd (show Below w.heap.size w wa by rw [hw]; exact (hba.setCell (p := ⟨Q, 1, none⟩) (Nat.le_of_lt hQw) _))
      have HVV := hd hv
      have HWa := hd hw
      have hlq := hqa.lt
      clear hv hr hc hqa hza hba hw
      go_wp2_with fail
      go_meet
      rw [← HWa.o]
      exact ⟨s0, ⟨#[]⟩, HQa, hd ⟨HVV.o, ⟨by decide, (st_skipT _).2⟩⟩, hd (by rw [show st2 1 l = textS 20000 (some l) from (st_skipT _).1.symm]; exact HRa.o), HZa, HBa⟩
    · go_wp2_with fail
      go_meet
      exact ⟨⟨#[]⟩, ⟨#[]⟩, HQ, hd ⟨⟨by decide, (st_skipT _).2⟩, ⟨by decide, (st_skipT _).2⟩⟩, hd (by rw [show st2 10 l = some l from ((st_skipT _).1.trans (congrArg _ (st_skipT _).1)).symm]; exact HR.o), HZ, HB⟩
    · go_wp2_with fail
      go_meet
      exact ⟨⟨#[]⟩, ⟨#[]⟩, HQ, hd ⟨⟨by decide, (st_skipT _).2⟩, ⟨by decide, (st_skipT _).2⟩⟩, hd (by rw [show st2 11 l = some l from ((st_skipT _).1.trans (congrArg _ (st_skipT _).1)).symm]; exact HR.o), HZ, HB⟩
    · have HK2 := hd (kinds2 HKK.o ha hb hc)
      have e1 : (k == 1) = false := by simpa using ha
      have e10 : (k == 10) = false := by simpa using hb
      have e11 : (k == 11) = false := by simpa using hc
      clear ha hb hc
      go_upto_region 6 with (fail)
      go_wp2_with fail
      refine (kText_calls wc w.heap.size g l _ 20000 HR.o hl (by decide)).mono ?_
      rintro e ua ⟨s1, rfl, hv, hr, hc⟩
      have hza := HZ.o.chg hc (HR.o.off HZ.o (by decide))
      have hqa := HQ.o.chg hc (HR.o.off HQ.o (by decide))
      have hba := HB.o.trans (below_one hc hgw HB.o.size)
      have z2 := hqa.at_ 2 rfl
      have f2 := hqa.frozen 2
      obtain ⟨wa, hw⟩ : ∃ wa, wa = (ua.setCell ⟨Q, 2, none⟩ (.string s1)) := ⟨_, rfl⟩
      have HQa := hd (show Blk wa Q 26 #[.int .i64 k, .string ⟨#[]⟩, .string s1, .string ⟨#[]⟩, .string ⟨#[]⟩, .int .i64 0, .int .i64 0, .slice none 0 0, .int .i64 0, .int .i64 0, .int .i64 0] by rw [hw]; exact (hqa.set_ 2 _))
      have HRa := hd (show RkR wa w.heap.size g l (textS 20000 (some l)) by rw [hw]; exact (hr).far hqa (by decide) (Nat.le_of_lt hQw) _)
      have HZa := hd (show Blk wa w.heap.size 26 #[.int .i64 0, .string ⟨#[]⟩, .string ⟨#[]⟩, .string ⟨#[]⟩, .string ⟨#[]⟩, .int .i64 0, .int .i64 0, .slice none 0 0, .int .i64 0, .int .i64 0, .int .i64 0] by rw [hw]; exact (hza.far (p := ⟨Q, 2, none⟩) (show w.heap.size ≠ Q by omega) _))
      have HBa := hd (show Below w.heap.size w wa by rw [hw]; exact (hba.setCell (p := ⟨Q, 2, none⟩) (Nat.le_of_lt hQw) _))
      have HVV := hd hv
      have HWa := hd hw
      have hlq := hqa.lt
      clear hv hr hc hqa hza hba hw
      go_wp2_with fail
      go_meet
      rw [← HWa.o]
      exact ⟨⟨#[]⟩, s1, HQa, hd (First.two HK2.o HVV.o), hd (by rw [First.st HK2.o]; exact HRa.o), HZa, HBa⟩
  case rest =>
  clear HR HZ HQ HB
  obtain ⟨s0, s1, HQ, HF, HR, HZ, HB⟩ := hcut
  obtain ⟨ST, hst⟩ : ∃ s, st2 k l = s := ⟨_, rfl⟩
  rw [hst] at HR
  have HST2 := hd hst
  clear hst
  go_upto_block 1 with (fail)
  go_cut [8, 9, 10] from 37 to 116 (fun _ _ _ wx => ∃ (s2 s3 : ByteArray) (ck cv : Int) (AO : Option Addr) (nO cO : Nat) (LO : List OpV) (v6 v7 v8 : Int), Hd (Blk wx Q 26 #[.int .i64 k, .string s0, .string s1, .string s2, .string s3, .int .i64 ck, .int .i64 cv, .slice AO nO cO, .int .i64 v6, .int .i64 v7, .int .i64 v8]) ∧ Hd (Second k ST s2 s3 ck cv LO v6 v7 v8) ∧ Hd (RkR wx w.heap.size g l (st9 k ST)) ∧ Hd (Blk wx w.heap.size 26 #[.int .i64 0, .string ⟨#[]⟩, .string ⟨#[]⟩, .string ⟨#[]⟩, .string ⟨#[]⟩, .int .i64 0, .int .i64 0, .slice none 0 0, .int .i64 0, .int .i64 0, .int .i64 0]) ∧ Hd (Below w.heap.size w wx) ∧ Hd (Row wx (From w.heap.size) 43 5 AO nO cO (opsE LO)) ∧ Hd (nO = LO.length))
  case first =>
    rcases kinds3 HKK.o with rfl | rfl | rfl | rfl | rfl | rfl | hno
    · go_upto_region 13 with (fail)
      go_wp2_with fail
      refine (kText_calls wc w.heap.size g l _ 20000 HR.o hl (by decide)).mono ?_
      rintro e ua ⟨s2, rfl, hv, hr, hc⟩
      have hza := HZ.o.chg hc (HR.o.off HZ.o (by decide))
      have hqa := HQ.o.chg hc (HR.o.off HQ.o (by decide))
      have hba := HB.o.trans (below_one hc hgw HB.o.size)
      have z3 := hqa.at_ 3 rfl
      have f3 := hqa.frozen 3
      obtain ⟨wa, hw⟩ : ∃ wa, wa = (ua.setCell ⟨Q, 3, none⟩ (.string s2)) := ⟨_, rfl⟩
      have HQa := hd (show Blk wa Q 26 #[.int .i64 4, .string s0, .string s1, .string s2, .string ⟨#[]⟩, .int .i64 0, .int .i64 0, .slice none 0 0, .int .i64 0, .int .i64 0, .int .i64 0] by rw [hw]; exact (hqa.set_ 3 _))
      have HRa := hd (show RkR wa w.heap.size g l (textS 20000 ST) by rw [hw]; exact (hr).far hqa (by decide) (Nat.le_of_lt hQw) _)
      have HZa := hd (show Blk wa w.heap.size 26 #[.int .i64 0, .string ⟨#[]⟩, .string ⟨#[]⟩, .string ⟨#[]⟩, .string ⟨#[]⟩, .int .i64 0, .int .i64 0, .slice none 0 0, .int .i64 0, .int .i64 0, .int .i64 0] by rw [hw]; exact (hza.far (p := ⟨Q, 3, none⟩) (show w.heap.size ≠ Q by omega) _))
      have HBa := hd (show Below w.heap.size w wa by rw [hw]; exact (hba.setCell (p := ⟨Q, 3, none⟩) (Nat.le_of_lt hQw) _))
      have HV2 := hd hv
      have HWa := hd hw
      have hlq := hqa.lt
      clear hv hr hc hqa hza hba hw
      go_upto_region 14 with (fail)
      rw [← HWa.o]
      clear z3 f3 hlq
      go_upto_region 14 with (fail)
      go_wp2_with fail
      refine (kText_calls wa w.heap.size g l _ 20000 HRa.o hl (by decide)).mono ?_
      rintro e ub ⟨s3, rfl, hv, hr, hc⟩
      have hza := HZa.o.chg hc (HRa.o.off HZa.o (by decide))
      have hqa := HQa.o.chg hc (HRa.o.off HQa.o (by decide))
      have hba := HBa.o.trans (below_one hc hgw HBa.o.size)
      have z4 := hqa.at_ 4 rfl
      have f4 := hqa.frozen 4
      obtain ⟨wb, hw⟩ : ∃ wb, wb = (ub.setCell ⟨Q, 4, none⟩ (.string s3)) := ⟨_, rfl⟩
      have HQb := hd (show Blk wb Q 26 #[.int .i64 4, .string s0, .string s1, .string s2, .string s3, .int .i64 0, .int .i64 0, .slice none 0 0, .int .i64 0, .int .i64 0, .int .i64 0] by rw [hw]; exact (hqa.set_ 4 _))
      have HRb := hd (show RkR wb w.heap.size g l (textS 20000 (textS 20000 ST)) by rw [hw]; exact (hr).far hqa (by decide) (Nat.le_of_lt hQw) _)
      have HZb := hd (show Blk wb w.heap.size 26 #[.int .i64 0, .string ⟨#[]⟩, .string ⟨#[]⟩, .string ⟨#[]⟩, .string ⟨#[]⟩, .int .i64 0, .int .i64 0, .slice none 0 0, .int .i64 0, .int .i64 0, .int .i64 0] by rw [hw]; exact (hza.far (p := ⟨Q, 4, none⟩) (show w.heap.size ≠ Q by omega) _))
      have HBb := hd (show Below w.heap.size w wb by rw [hw]; exact (hba.setCell (p := ⟨Q, 4, none⟩) (Nat.le_of_lt hQw) _))
      have HV3 := hd hv
      have HWb := hd hw
      have hlq := hqa.lt
      clear hv hr hc hqa hza hba hw
      go_upto_region 15 with (fail)
      rw [← HWb.o]
      clear z4 f4 hlq
      go_upto_region 15 with (fail)
      go_wp2_with fail
      refine (kcond_calls wb w.heap.size g l _ HRb.o hl).mono ?_
      rintro e uc ⟨ck, cv, rfl, hv, hr, hc⟩
      have hza := HZb.o.chg hc (HRb.o.off HZb.o (by decide))
      have hqa := HQb.o.chg hc (HRb.o.off HQb.o (by decide))
      have hba := HBb.o.trans (below_one hc hgw HBb.o.size)
      have z5 := hqa.at_ 5 rfl
      have f5 := hqa.frozen 5
      have z6 := hqa.at_ 6 rfl
      have f6 := hqa.frozen 6
      obtain ⟨wc, hw⟩ : ∃ wc, wc = ((uc.setCell ⟨Q, 5, none⟩ (.int .i64 ck)).setCell ⟨Q, 6, none⟩ (.int .i64 cv)) := ⟨_, rfl⟩
      have HQc := hd (show Blk wc Q 26 #[.int .i64 4, .string s0, .string s1, .string s2, .string s3, .int .i64 ck, .int .i64 cv, .slice none 0 0, .int .i64 0, .int .i64 0, .int .i64 0] by rw [hw]; exact ((hqa.set_ 5 _).set_ 6 _))
      have HRc := hd (show RkR wc w.heap.size g l (condS (textS 20000 (textS 20000 ST))) by rw [hw]; exact ((hr).far hqa (by decide) (Nat.le_of_lt hQw) _).far (hqa.set_ 5 _) (by decide) (Nat.le_of_lt hQw) _)
      have HZc := hd (show Blk wc w.heap.size 26 #[.int .i64 0, .string ⟨#[]⟩, .string ⟨#[]⟩, .string ⟨#[]⟩, .string ⟨#[]⟩, .int .i64 0, .int .i64 0, .slice none 0 0, .int .i64 0, .int .i64 0, .int .i64 0] by rw [hw]; exact ((hza.far (p := ⟨Q, 5, none⟩) (show w.heap.size ≠ Q by omega) _).far (p := ⟨Q, 6, none⟩) (show w.heap.size ≠ Q by omega) _))
      have HBc := hd (show Below w.heap.size w wc by rw [hw]; exact ((hba.setCell (p := ⟨Q, 5, none⟩) (Nat.le_of_lt hQw) _).setCell (p := ⟨Q, 6, none⟩) (Nat.le_of_lt hQw) _))
      have HV4 := hd hv
      have HWc := hd hw
      have hlq := hqa.lt
      clear hv hr hc hqa hza hba hw
      go_wp2_with fail
      go_meet
      rw [← HWc.o]
      exact ⟨s2, s3, ck, cv, none, 0, 0, [], 0, 0, 0, HQc, hd ⟨HV2.o, HV3.o, HV4.o.2.2, ⟨(st_skipO _).2, by decide, fun o ho => by cases ho⟩, (st_skipN _).2, (st_skipS _).2, (st_skipS _).2⟩, hd (by simp only [st9, flU_4, flC_4, flN_4, flO_4, flT_4, flM_4, flI_4, skT, skC, skO, skN, skS]; exact HRc.o), HZc, HBc, hd (Row.nil _ _ _ _), hd rfl⟩
    · go_upto_region 17 with (fail)
      go_wp2_with fail
      refine (kText_calls wc w.heap.size g l _ 20000 HR.o hl (by decide)).mono ?_
      rintro e ua ⟨s2, rfl, hv, hr, hc⟩
      have hza := HZ.o.chg hc (HR.o.off HZ.o (by decide))
      have hqa := HQ.o.chg hc (HR.o.off HQ.o (by decide))
      have hba := HB.o.trans (below_one hc hgw HB.o.size)
      have z3 := hqa.at_ 3 rfl
      have f3 := hqa.frozen 3
      obtain ⟨wa, hw⟩ : ∃ wa, wa = (ua.setCell ⟨Q, 3, none⟩ (.string s2)) := ⟨_, rfl⟩
      have HQa := hd (show Blk wa Q 26 #[.int .i64 5, .string s0, .string s1, .string s2, .string ⟨#[]⟩, .int .i64 0, .int .i64 0, .slice none 0 0, .int .i64 0, .int .i64 0, .int .i64 0] by rw [hw]; exact (hqa.set_ 3 _))
      have HRa := hd (show RkR wa w.heap.size g l (textS 20000 ST) by rw [hw]; exact (hr).far hqa (by decide) (Nat.le_of_lt hQw) _)
      have HZa := hd (show Blk wa w.heap.size 26 #[.int .i64 0, .string ⟨#[]⟩, .string ⟨#[]⟩, .string ⟨#[]⟩, .string ⟨#[]⟩, .int .i64 0, .int .i64 0, .slice none 0 0, .int .i64 0, .int .i64 0, .int .i64 0] by rw [hw]; exact (hza.far (p := ⟨Q, 3, none⟩) (show w.heap.size ≠ Q by omega) _))
      have HBa := hd (show Below w.heap.size w wa by rw [hw]; exact (hba.setCell (p := ⟨Q, 3, none⟩) (Nat.le_of_lt hQw) _))
      have HV2 := hd hv
      have HWa := hd hw
      have hlq := hqa.lt
      clear hv hr hc hqa hza hba hw
      go_upto_region 18 with (fail)
      rw [← HWa.o]
      clear z3 f3 hlq
      go_upto_region 18 with (fail)
      go_wp2_with fail
      refine (kcond_calls wa w.heap.size g l _ HRa.o hl).mono ?_
      rintro e uc ⟨ck, cv, rfl, hv, hr, hc⟩
      have hza := HZa.o.chg hc (HRa.o.off HZa.o (by decide))
      have hqa := HQa.o.chg hc (HRa.o.off HQa.o (by decide))
      have hba := HBa.o.trans (below_one hc hgw HBa.o.size)
      have z5 := hqa.at_ 5 rfl
      have f5 := hqa.frozen 5
      have z6 := hqa.at_ 6 rfl
      have f6 := hqa.frozen 6
      obtain ⟨wc, hw⟩ : ∃ wc, wc = ((uc.setCell ⟨Q, 5, none⟩ (.int .i64 ck)).setCell ⟨Q, 6, none⟩ (.int .i64 cv)) := ⟨_, rfl⟩
      have HQc := hd (show Blk wc Q 26 #[.int .i64 5, .string s0, .string s1, .string s2, .string ⟨#[]⟩, .int .i64 ck, .int .i64 cv, .slice none 0 0, .int .i64 0, .int .i64 0, .int .i64 0] by rw [hw]; exact ((hqa.set_ 5 _).set_ 6 _))
      have HRc := hd (show RkR wc w.heap.size g l (condS (textS 20000 ST)) by rw [hw]; exact ((hr).far hqa (by decide) (Nat.le_of_lt hQw) _).far (hqa.set_ 5 _) (by decide) (Nat.le_of_lt hQw) _)
      have HZc := hd (show Blk wc w.heap.size 26 #[.int .i64 0, .string ⟨#[]⟩, .string ⟨#[]⟩, .string ⟨#[]⟩, .string ⟨#[]⟩, .int .i64 0, .int .i64 0, .slice none 0 0, .int .i64 0, .int .i64 0, .int .i64 0] by rw [hw]; exact ((hza.far (p := ⟨Q, 5, none⟩) (show w.heap.size ≠ Q by omega) _).far (p := ⟨Q, 6, none⟩) (show w.heap.size ≠ Q by omega) _))
      have HBc := hd (show Below w.heap.size w wc by rw [hw]; exact ((hba.setCell (p := ⟨Q, 5, none⟩) (Nat.le_of_lt hQw) _).setCell (p := ⟨Q, 6, none⟩) (Nat.le_of_lt hQw) _))
      have HV4 := hd hv
      have HWc := hd hw
      have hlq := hqa.lt
      clear hv hr hc hqa hza hba hw
      go_wp2_with fail
      go_meet
      rw [← HWc.o]
      exact ⟨s2, ⟨#[]⟩, ck, cv, none, 0, 0, [], 0, 0, 0, HQc, hd ⟨HV2.o, ⟨by decide, (st_skipT _).2⟩, by simp only [st9, flU_5, flC_5, flN_5, flO_5, flT_5, flM_5, flI_5, skT, skC, skO, skN, skS]; exact HV4.o.2.2, ⟨(st_skipO _).2, by decide, fun o ho => by cases ho⟩, (st_skipN _).2, (st_skipS _).2, (st_skipS _).2⟩, hd (by simp only [st9, flU_5, flC_5, flN_5, flO_5, flT_5, flM_5, flI_5, skT, skC, skO, skN, skS]; exact HRc.o), HZc, HBc, hd (Row.nil _ _ _ _), hd rfl⟩
    · go_upto_region 20 with (fail)
      go_wp2_with fail
      refine (kText_calls wc w.heap.size g l _ 20000 HR.o hl (by decide)).mono ?_
      rintro e uc ⟨s2, rfl, hv, hr, hc⟩
      have hza := HZ.o.chg hc (HR.o.off HZ.o (by decide))
      have hqa := HQ.o.chg hc (HR.o.off HQ.o (by decide))
      have hba := HB.o.trans (below_one hc hgw HB.o.size)
      have z3 := hqa.at_ 3 rfl
      have f3 := hqa.frozen 3
      obtain ⟨wc, hw⟩ : ∃ wc, wc = (uc.setCell ⟨Q, 3, none⟩ (.string s2)) := ⟨_, rfl⟩
      have HQc := hd (show Blk wc Q 26 #[.int .i64 6, .string s0, .string s1, .string s2, .string ⟨#[]⟩, .int .i64 0, .int .i64 0, .slice none 0 0, .int .i64 0, .int .i64 0, .int .i64 0] by rw [hw]; exact (hqa.set_ 3 _))
      have HRc := hd (show RkR wc w.heap.size g l (textS 20000 ST) by rw [hw]; exact (hr).far hqa (by decide) (Nat.le_of_lt hQw) _)
      have HZc := hd (show Blk wc w.heap.size 26 #[.int .i64 0, .string ⟨#[]⟩, .string ⟨#[]⟩, .string ⟨#[]⟩, .string ⟨#[]⟩, .int .i64 0, .int .i64 0, .slice none 0 0, .int .i64 0, .int .i64 0, .int .i64 0] by rw [hw]; exact (hza.far (p := ⟨Q, 3, none⟩) (show w.heap.size ≠ Q by omega) _))
      have HBc := hd (show Below w.heap.size w wc by rw [hw]; exact (hba.setCell (p := ⟨Q, 3, none⟩) (Nat.le_of_lt hQw) _))
      have HV2 := hd hv
      have HWc := hd hw
      have hlq := hqa.lt
      clear hv hr hc hqa hza hba hw
      go_wp2_with fail
      go_meet
      rw [← HWc.o]
      exact ⟨s2, ⟨#[]⟩, 0, 0, none, 0, 0, [], 0, 0, 0, HQc, hd ⟨HV2.o, ⟨by decide, (st_skipT _).2⟩, (st_skipC _).2, ⟨(st_skipO _).2, by decide, fun o ho => by cases ho⟩, (st_skipN _).2, (st_skipS _).2, (st_skipS _).2⟩, hd (by simp only [st9, flU_6, flC_6, flN_6, flO_6, flT_6, flM_6, flI_6, skT, skC, skO, skN, skS]; exact HRc.o), HZc, HBc, hd (Row.nil _ _ _ _), hd rfl⟩
    · go_upto_region 22 with (fail)
      go_wp2_with fail
      refine (ksmall_calls wc w.heap.size g l _ HR.o hl).mono ?_
      rintro e u0 ⟨v, rfl, hvv, hru, hcu⟩
      have HVV := hd hvv
      have hv0 := hvv.1.1
      have hvm := hvv.1.2
      have HZu := hd (HZ.o.chg hcu (HR.o.off HZ.o (by decide)))
      have HQu := hd (HQ.o.chg hcu (HR.o.off HQ.o (by decide)))
      have HBu := hd (HB.o.trans (below_one hcu hgw HB.o.size))
      have HRu := hd hru
      clear hvv hru hcu
      by_cases h16 : 16 < v
      case pos =>
        have hd16 : decide ((16 : Int) < v) = true := by simpa using h16
        have HD := hd (ops_dead HVV.o (k := 0) (by omega) (by rw [(opsK_0 _).1]; unfold ops0; rw [if_pos h16]))
        have HSEC := show Second 7 ST ⟨#[]⟩ ⟨#[]⟩ 0 0 [] 0 0 0 from ⟨⟨by decide, (st_skipT _).2⟩, ⟨by decide, (st_skipT _).2⟩, (st_skipC _).2, by simp only [st9, flU_7, flC_7, flN_7, flO_7, flT_7, flM_7, flI_7, skT, skC, skO, skN, skS]; exact ⟨HD.o.2 [], by decide, fun o ho => by cases ho⟩, (st_skipN _).2, (st_skipS _).2, (st_skipS _).2⟩
        have HRAW := hd (raw_two (by rw [HST2.o]) HF.o HSEC)
        have HDN := hd (show st9 7 ST = none by simp only [st9, flU_7, flC_7, flN_7, flO_7, flT_7, flM_7, flI_7, skT, skC, skO, skN, skS]; exact HD.o.1)
        rw [HDN.o] at HRAW
        have HV := hd (dec_dead (by decide) HRAW.o)
        have z0 := HZu.o.at_ 0 rfl
        have z1 := HZu.o.at_ 1 rfl
        have z2 := HZu.o.at_ 2 rfl
        have z3 := HZu.o.at_ 3 rfl
        have z4 := HZu.o.at_ 4 rfl
        have z5 := HZu.o.at_ 5 rfl
        have z6 := HZu.o.at_ 6 rfl
        have z7 := HZu.o.at_ 7 rfl
        have z8 := HZu.o.at_ 8 rfl
        have z9 := HZu.o.at_ 9 rfl
        have z10 := HZu.o.at_ 10 rfl
        have f0 := HZu.o.frozen 0
        have f1 := HZu.o.frozen 1
        have f2 := HZu.o.frozen 2
        have f3 := HZu.o.frozen 3
        have f4 := HZu.o.frozen 4
        have f5 := HZu.o.frozen 5
        have f6 := HZu.o.frozen 6
        have f7 := HZu.o.frozen 7
        have f8 := HZu.o.frozen 8
        have f9 := HZu.o.frozen 9
        have f10 := HZu.o.frozen 10
        clear h16
        go_wp2_with fail
        (try simp only [Exit.inBlock, Exit.then])
        rw [HQQ.o]
        refine bodyPost_ret (res_rdec rfl (set11 HZu.o)) rfl ?_
        exact ⟨⟨none, 0, rfl.trans (decEq HV.o).symm, by rw [HV.o]; exact Row.nil _ _ _ _, bel11 HBu.o⟩⟩
      case neg =>
      have hd16 : decide ((16 : Int) < v) = false := by simpa using h16
      have hv16 : v ≤ 16 := by omega
      have HS0 := hd (show ops0 ST v = smallS ST by unfold ops0; rw [if_neg h16])
      obtain ⟨i0_, hi, hz0, hz1, hz2⟩ := info_parts opInfo
      clear h16
      go_upto_region 25 with (fail)
      go_wp2_with fail
      go_loopw [9, 10] (fun i _ wr => ∃ (k c : Nat) (A : Option Addr) (L : List OpV), i = .int .i64 k ∧ (k : Int) ≤ v ∧ k ≤ 16 ∧ Hd (Blk wr Q 26 #[.int .i64 7, .string s0, .string s1, .string ⟨#[]⟩, .string ⟨#[]⟩, .int .i64 0, .int .i64 0, .slice A k c, .int .i64 0, .int .i64 0, .int .i64 0]) ∧ Hd (Row wr (From w.heap.size) 43 5 A k c (opsE L)) ∧ Hd (k = L.length) ∧ Hd (opsOk k (ops0 ST v) L) ∧ Hd (∀ o ∈ L, OpB o) ∧ Hd (RkR wr w.heap.size g l (opsK k (ops0 ST v))) ∧ Hd (Blk wr w.heap.size 26 #[.int .i64 0, .string ⟨#[]⟩, .string ⟨#[]⟩, .string ⟨#[]⟩, .string ⟨#[]⟩, .int .i64 0, .int .i64 0, .slice none 0 0, .int .i64 0, .int .i64 0, .int .i64 0]) ∧ Hd (Below w.heap.size w wr)) (fun i _ _ => (v - intOf i).toNat)
      case atStart => exact ⟨0, 0, none, [], rfl, hv0, by omega, HQu, hd (Row.nil _ _ _ _), hd rfl, hd (opsK_0 _).2, hd (fun o ho => by cases ho), hd (by rw [(opsK_0 _).1, HS0.o]; exact HRu.o), HZu, HBu⟩
      case round =>
        obtain ⟨k, c, A, L, rfl, hkv, hk16, HQ, HW, HL, HO, HOB, HR, HZ, HB⟩ := hrel
        obtain ⟨w6, rfl⟩ : ∃ w6, w6 = wr := ⟨_, rfl⟩
        have hki : (0 : Int) ≤ (k : Int) := by omega
        obtain ⟨RA, rn, rc, rk, re, hbx, hox, h1x, h2x, h3x, h4x, h5x⟩ := HR.o.o
        have x2 := hbx.at_ 2 rfl
        have xl := hbx.lt
        have H5X := hd h5x
        clear hbx hox h1x h2x h3x h4x h5x
        by_cases hgo : (k : Int) < v ∧ re = 0
        · obtain ⟨hlt, rfl⟩ := hgo
          have hltd : decide ((k : Int) < v) = true := by simpa using hlt
          obtain ⟨O, hOO⟩ : ∃ O, w6.heap.size = O := ⟨_, rfl⟩
          obtain ⟨w7, hw7⟩ : ∃ w7, w7 = w6.alloc (.cells #[.bool false, .string ⟨#[]⟩, .string ⟨#[]⟩, .int .i64 0, .int .i64 0] 43) := ⟨_, rfl⟩
          have HO7 := hd (show Blk w7 O 43 #[.bool false, .string ⟨#[]⟩, .string ⟨#[]⟩, .int .i64 0, .int .i64 0] by rw [hw7, ← hOO]; exact Blk.new _ _ _)
          have HQ7 := hd (show Blk w7 Q 26 #[.int .i64 7, .string s0, .string s1, .string ⟨#[]⟩, .string ⟨#[]⟩, .int .i64 0, .int .i64 0, .slice A k c, .int .i64 0, .int .i64 0, .int .i64 0] by rw [hw7]; exact HQ.o.alloc _)
          have HZ7 := hd (show Blk w7 w.heap.size 26 #[.int .i64 0, .string ⟨#[]⟩, .string ⟨#[]⟩, .string ⟨#[]⟩, .string ⟨#[]⟩, .int .i64 0, .int .i64 0, .slice none 0 0, .int .i64 0, .int .i64 0, .int .i64 0] by rw [hw7]; exact HZ.o.alloc _)
          have HR7 := hd (show RkR w7 w.heap.size g l (opsK k (ops0 ST v)) by rw [hw7]; exact HR.o.alloc _)
          have HW7 := hd (show Row w7 (From w.heap.size) 43 5 A k c (opsE L) by rw [hw7]; exact HW.o.alloc _)
          have HB7 := hd (show Below w.heap.size w w7 by rw [hw7]; exact HB.o.alloc HB.o.size _)
          have HNA := hd (show ∀ a, A = some a → a.block ≠ O from fun a ha => by have := HW.o.lt ha; omega)
          have hOw : w.heap.size ≤ O := by rw [← hOO]; exact HB.o.size
          have HWW7 := hd hw7
          have HOOO := hd hOO
          clear hw7 hOO
          go_upto_region 29 with (fail)
          rw [← HWW7.o]
          (try rw [HOOO.o])
          clear x2 xl
          have K2 := hd (kmark_calls w7 w.heap.size g l _ HR7.o hl)
          go_wp2_with fail
          refine K2.o.mono ?_
          rintro e uA ⟨m, rfl, hm, hrA, hcA⟩
          rw [mkS_mark hm] at hrA
          have HSM := hd (small_of hm)
          have HOA := hd (HO7.o.chg hcA (HR7.o.off HO7.o (by decide)))
          have HZA := hd (HZ7.o.chg hcA (HR7.o.off HZ7.o (by decide)))
          have HQA0 := hd (HQ7.o.chg hcA (HR7.o.off HQ7.o (by decide)))
          have HWA0 := hd (HR7.o.row HW7.o (by decide) hcA)
          have HBA := hd (HB7.o.trans (below_one hcA hgw HB7.o.size))
          have HRA0 := hd hrA
          have y0 := HOA.o.at_ 0 rfl
          have g0 := HOA.o.frozen 0
          have lo := HOA.o.lt
          clear hm hrA hcA
          by_cases h1 : m = 1
          · subst h1
            obtain ⟨wB, hwB⟩ : ∃ wB, wB = uA.setCell ⟨O, 0, none⟩ (.bool true) := ⟨_, rfl⟩
            have HOB7 := hd (show Blk wB O 43 #[.bool true, .string ⟨#[]⟩, .string ⟨#[]⟩, .int .i64 0, .int .i64 0] by rw [hwB]; exact HOA.o.set_ 0 _)
            have HOx := HOB7
            have HO7 := HOB7
            have HR7 := hd (show RkR wB w.heap.size g l (markS (opsK k (ops0 ST v)) 1) by rw [hwB]; exact HRA0.o.far HOA.o (by decide) hOw _)
            have HZ7 := hd (show Blk wB w.heap.size 26 #[.int .i64 0, .string ⟨#[]⟩, .string ⟨#[]⟩, .string ⟨#[]⟩, .string ⟨#[]⟩, .int .i64 0, .int .i64 0, .slice none 0 0, .int .i64 0, .int .i64 0, .int .i64 0] by rw [hwB]; exact HZA.o.far (p := ⟨O, 0, none⟩) (HZA.o.ne_ HOA.o (by decide)) _)
            have HQ7 := hd (show Blk wB Q 26 #[.int .i64 7, .string s0, .string s1, .string ⟨#[]⟩, .string ⟨#[]⟩, .int .i64 0, .int .i64 0, .slice A k c, .int .i64 0, .int .i64 0, .int .i64 0] by rw [hwB]; exact HQA0.o.far (p := ⟨O, 0, none⟩) (HQA0.o.ne_ HOA.o (by decide)) _)
            have HW7 := hd (show Row wB (From w.heap.size) 43 5 A k c (opsE L) by rw [hwB]; exact HWA0.o.far (p := ⟨O, 0, none⟩) HNA.o _)
            have HB7 := hd (show Below w.heap.size w wB by rw [hwB]; exact HBA.o.setCell (p := ⟨O, 0, none⟩) hOw _)
            have HWB := hd hwB
            clear hwB
            go_upto_region 30 with (fail)
            rw [← HWB.o]
            clear y0 g0 lo
            go_wp2_with fail
            refine (kText_calls wB w.heap.size g l _ 20000 HR7.o hl (by decide)).mono ?_
            rintro e u8 ⟨s8, rfl, hts, hr8, hc8⟩
            have HTS := hd hts
            clear hts
            have hza := HZ7.o.chg hc8 (HR7.o.off HZ7.o (by decide))
            have hqa := HQ7.o.chg hc8 (HR7.o.off HQ7.o (by decide))
            have hoa := HO7.o.chg hc8 (HR7.o.off HO7.o (by decide))
            have hwa := HR7.o.row HW7.o (by decide) hc8
            have hba := HB7.o.trans (below_one hc8 hgw HB7.o.size)
            have y1 := hoa.at_ 1 rfl
            have g1 := hoa.frozen 1
            have hlo := hoa.lt
            obtain ⟨w8, hw8⟩ : ∃ w8, w8 = (u8.setCell ⟨O, 1, none⟩ (.string s8)) := ⟨_, rfl⟩
            have HO8 := hd (show Blk w8 O 43 #[.bool true, .string s8, .string ⟨#[]⟩, .int .i64 0, .int .i64 0] by rw [hw8]; exact (hoa.set_ 1 _))
            have HR8 := hd (show RkR w8 w.heap.size g l (textS 20000 (markS (opsK k (ops0 ST v)) 1)) by rw [hw8]; exact (hr8).far hoa (by decide) hOw _)
            have HZ8 := hd (show Blk w8 w.heap.size 26 #[.int .i64 0, .string ⟨#[]⟩, .string ⟨#[]⟩, .string ⟨#[]⟩, .string ⟨#[]⟩, .int .i64 0, .int .i64 0, .slice none 0 0, .int .i64 0, .int .i64 0, .int .i64 0] by rw [hw8]; exact (hza.far (p := ⟨O, 1, none⟩) (hza.ne_ hoa (by decide)) _))
            have HQ8 := hd (show Blk w8 Q 26 #[.int .i64 7, .string s0, .string s1, .string ⟨#[]⟩, .string ⟨#[]⟩, .int .i64 0, .int .i64 0, .slice A k c, .int .i64 0, .int .i64 0, .int .i64 0] by rw [hw8]; exact (hqa.far (p := ⟨O, 1, none⟩) (hqa.ne_ hoa (by decide)) _))
            have HW8 := hd (show Row w8 (From w.heap.size) 43 5 A k c (opsE L) by rw [hw8]; exact (hwa.far (p := ⟨O, 1, none⟩) HNA.o _))
            have HB8 := hd (show Below w.heap.size w w8 by rw [hw8]; exact (hba.setCell (p := ⟨O, 1, none⟩) hOw _))
            have HWW8 := hd hw8
            clear hr8 hc8 hza hqa hoa hwa hba
            go_upto_region 31 with (fail)
            rw [← HWW8.o]
            clear hw8 y1 g1 hlo
            have d0 := HO8.o.at_ 0 rfl
            go_upto_region 33 with (fail)
            clear d0
            go_wp2_with fail
            refine (kcond_calls w8 w.heap.size g l _ HR8.o hl).mono ?_
            rintro e u12 ⟨ck, cv, rfl, hcd, hr12, hc12⟩
            have HCD := hd hcd
            clear hcd
            have hza := HZ8.o.chg hc12 (HR8.o.off HZ8.o (by decide))
            have hqa := HQ8.o.chg hc12 (HR8.o.off HQ8.o (by decide))
            have hoa := HO8.o.chg hc12 (HR8.o.off HO8.o (by decide))
            have hwa := HR8.o.row HW8.o (by decide) hc12
            have hba := HB8.o.trans (below_one hc12 hgw HB8.o.size)
            have y3 := hoa.at_ 3 rfl
            have g3 := hoa.frozen 3
            have y4 := hoa.at_ 4 rfl
            have g4 := hoa.frozen 4
            have hlo := hoa.lt
            obtain ⟨w12, hw12⟩ : ∃ w12, w12 = ((u12.setCell ⟨O, 3, none⟩ (.int .i64 ck)).setCell ⟨O, 4, none⟩ (.int .i64 cv)) := ⟨_, rfl⟩
            have HO12 := hd (show Blk w12 O 43 #[.bool true, .string s8, .string ⟨#[]⟩, .int .i64 ck, .int .i64 cv] by rw [hw12]; exact ((hoa.set_ 3 _).set_ 4 _))
            have HR12 := hd (show RkR w12 w.heap.size g l (condS (textS 20000 (markS (opsK k (ops0 ST v)) 1))) by rw [hw12]; exact ((hr12).far hoa (by decide) hOw _).far (hoa.set_ 3 _) (by decide) hOw _)
            have HZ12 := hd (show Blk w12 w.heap.size 26 #[.int .i64 0, .string ⟨#[]⟩, .string ⟨#[]⟩, .string ⟨#[]⟩, .string ⟨#[]⟩, .int .i64 0, .int .i64 0, .slice none 0 0, .int .i64 0, .int .i64 0, .int .i64 0] by rw [hw12]; exact ((hza.far (p := ⟨O, 3, none⟩) (hza.ne_ hoa (by decide)) _).far (p := ⟨O, 4, none⟩) (hza.ne_ hoa (by decide)) _))
            have HQ12 := hd (show Blk w12 Q 26 #[.int .i64 7, .string s0, .string s1, .string ⟨#[]⟩, .string ⟨#[]⟩, .int .i64 0, .int .i64 0, .slice A k c, .int .i64 0, .int .i64 0, .int .i64 0] by rw [hw12]; exact ((hqa.far (p := ⟨O, 3, none⟩) (hqa.ne_ hoa (by decide)) _).far (p := ⟨O, 4, none⟩) (hqa.ne_ hoa (by decide)) _))
            have HW12 := hd (show Row w12 (From w.heap.size) 43 5 A k c (opsE L) by rw [hw12]; exact ((hwa.far (p := ⟨O, 3, none⟩) HNA.o _).far (p := ⟨O, 4, none⟩) HNA.o _))
            have HB12 := hd (show Below w.heap.size w w12 by rw [hw12]; exact ((hba.setCell (p := ⟨O, 3, none⟩) hOw _).setCell (p := ⟨O, 4, none⟩) hOw _))
            have HWW12 := hd hw12
            clear hr12 hc12 hza hqa hoa hwa hba
            go_upto_region 34 with (fail)
            rw [← HWW12.o]
            clear hw12 y3 g3 y4 g4 hlo
            have HPL := hd (op_step HSM.o HTS.o (t := ⟨#[]⟩) (ck := ck) (cv := cv) (fun h => absurd rfl h) (by rw [if_pos rfl]; exact HCD.o))
            have HBO := hd (show OpB ⟨decide ((1 : Int) = 1), s8.data.toList, if (1 : Int) = 1 then [] else (⟨#[]⟩ : ByteArray).data.toList, ck, cv⟩ from ⟨by have := HTS.o.1; rw [ba_size] at this; exact this, by simp, HCD.o.1, HCD.o.2.1⟩)
            have HEN := hd (show opEnc ⟨decide ((1 : Int) = 1), s8.data.toList, if (1 : Int) = 1 then [] else (⟨#[]⟩ : ByteArray).data.toList, ck, cv⟩ = [.bool true, .string s8, .string ⟨#[]⟩, .int .i64 ck, .int .i64 cv] by rfl)
            obtain ⟨ov, hov⟩ : ∃ ov : OpV, (⟨decide ((1 : Int) = 1), s8.data.toList, if (1 : Int) = 1 then [] else (⟨#[]⟩ : ByteArray).data.toList, ck, cv⟩ : OpV) = ov := ⟨_, rfl⟩
            rw [hov] at HPL HBO HEN
            have HNX := hd (opsK_succ HO.o HPL.o.2)
            have HRF := hd (show RkR w12 w.heap.size g l (opsK (k + 1) (ops0 ST v)) by
              rw [HNX.o.1, HPL.o.1, if_pos rfl]
              exact HR12.o)
            have y0 := HO12.o.at_ 0 rfl
            have y1 := HO12.o.at_ 1 rfl
            have y2 := HO12.o.at_ 2 rfl
            have y3 := HO12.o.at_ 3 rfl
            have y4 := HO12.o.at_ 4 rfl
            have q7 := HQ12.o.at_ 7 rfl
            have f7 := HQ12.o.frozen 7
            have ql := HQ12.o.lt
            have HWA := hd (HW12.o.own_.alloc (.cells #[.bool true, .string s8, .string ⟨#[]⟩, .int .i64 ck, .int .i64 cv] 43))
            have HQA := hd (HQ12.o.alloc (.cells #[.bool true, .string s8, .string ⟨#[]⟩, .int .i64 ck, .int .i64 cv] 43))
            have HSUB := hd HW12.o.of_sub
            clear hov
            go_wp2_with (at_builtin; refine wpList_append_row rfl _ _ 24 rfl (Of A) 43 i0_ (.agg #[.bool false, .string ⟨#[]⟩, .string ⟨#[]⟩, .int .i64 0, .int .i64 0]) 5 56 Tryz.underlying24 hi hz0 hz1 hz2 rfl A k c (opsE L) rfl HWA.o ⟨w12.heap.size, 0, none⟩ 1 1 [.bool true, .string s8, .string ⟨#[]⟩, .int .i64 ck, .int .i64 cv] rfl rfl (cells_at8 (Blk.new _ _ _) rfl) (by rw [← HEN.o]; exact opEnc_one5 _) (by omega) (by unfold maxLen; omega) (by omega) ?_; intro A9 c9 w9 hown9 hchg9; have HQX := hd (HWA.o.blk HQA.o (by decide) hchg9); have q7b := HQX.o.at_ 7 rfl; have f7b := HQX.o.frozen 7; have HOWN := hd hown9; have HCHG := hd hchg9; clear hown9 hchg9)
            have HR10 := hd (HRF.o.alloc (.cells #[.bool true, .string s8, .string ⟨#[]⟩, .int .i64 ck, .int .i64 cv] 43))
            have HR11 := hd (HR10.o.rowc HWA.o (by decide) HCHG.o (fun a ha => HSUB.o _ (by rw [ha]; rfl)))
            have HZ11 := hd (HWA.o.blk (HZ12.o.alloc (.cells #[.bool true, .string s8, .string ⟨#[]⟩, .int .i64 ck, .int .i64 cv] 43)) (by decide) HCHG.o)
            have HB11 := hd ((HB12.o.alloc HB12.o.size (.cells #[.bool true, .string s8, .string ⟨#[]⟩, .int .i64 ck, .int .i64 cv] 43)).trans (HCHG.o.below (fun q hq => HSUB.o q hq) (HB12.o.alloc HB12.o.size (.cells #[.bool true, .string s8, .string ⟨#[]⟩, .int .i64 ck, .int .i64 cv] 43)).size))
            have HW11 := hd (show Row w9 (From w.heap.size) 43 5 A9 (k + 1) c9 (opsE (L ++ [ov])) by
              rw [opsE_snoc, HEN.o]
              exact HOWN.o.mono (fun q hq => hq.elim (fun h => HSUB.o q h) (fun h => Nat.le_trans (Nat.le_trans HB12.o.size (by simp)) h)))
            go_roundw
            case rel => exact ⟨k + 1, c9, A9, L ++ [ov], by go_num, by omega, by omega, hd (HQX.o.set_ 7 _), hd (HW11.o.far (p := ⟨Q, 7, none⟩) (fun a ha => HW11.o.ne_blk HQX.o (by decide) a ha) _), hd (by rw [List.length_append, ← HL.o]; rfl), hd HNX.o.2, hd (fun o ho => by rcases List.mem_append.1 ho with ho | ho; exact HOB.o o ho; rw [List.mem_singleton.1 ho]; exact HBO.o), hd (HR11.o.far HQX.o (by decide) (Nat.le_of_lt hQw) _), hd (HZ11.o.far (p := ⟨Q, 7, none⟩) (show w.heap.size ≠ Q by omega) _), hd (HB11.o.setCell (p := ⟨Q, 7, none⟩) (Nat.le_of_lt hQw) _)⟩
            case measure => simp [intOf]; omega
          · have hmb : (m == 1) = false := by simpa using h1
            obtain ⟨wB, hwB⟩ : ∃ wB, wB = uA.setCell ⟨O, 0, none⟩ (.bool false) := ⟨_, rfl⟩
            have HOB7 := hd (show Blk wB O 43 #[.bool false, .string ⟨#[]⟩, .string ⟨#[]⟩, .int .i64 0, .int .i64 0] by rw [hwB]; exact HOA.o.set_ 0 _)
            have HOx := HOB7
            have HO7 := HOB7
            have HR7 := hd (show RkR wB w.heap.size g l (markS (opsK k (ops0 ST v)) m) by rw [hwB]; exact HRA0.o.far HOA.o (by decide) hOw _)
            have HZ7 := hd (show Blk wB w.heap.size 26 #[.int .i64 0, .string ⟨#[]⟩, .string ⟨#[]⟩, .string ⟨#[]⟩, .string ⟨#[]⟩, .int .i64 0, .int .i64 0, .slice none 0 0, .int .i64 0, .int .i64 0, .int .i64 0] by rw [hwB]; exact HZA.o.far (p := ⟨O, 0, none⟩) (HZA.o.ne_ HOA.o (by decide)) _)
            have HQ7 := hd (show Blk wB Q 26 #[.int .i64 7, .string s0, .string s1, .string ⟨#[]⟩, .string ⟨#[]⟩, .int .i64 0, .int .i64 0, .slice A k c, .int .i64 0, .int .i64 0, .int .i64 0] by rw [hwB]; exact HQA0.o.far (p := ⟨O, 0, none⟩) (HQA0.o.ne_ HOA.o (by decide)) _)
            have HW7 := hd (show Row wB (From w.heap.size) 43 5 A k c (opsE L) by rw [hwB]; exact HWA0.o.far (p := ⟨O, 0, none⟩) HNA.o _)
            have HB7 := hd (show Below w.heap.size w wB by rw [hwB]; exact HBA.o.setCell (p := ⟨O, 0, none⟩) hOw _)
            have HWB := hd hwB
            clear hwB
            go_upto_region 30 with (fail)
            rw [← HWB.o]
            clear y0 g0 lo
            go_wp2_with fail
            refine (kText_calls wB w.heap.size g l _ 20000 HR7.o hl (by decide)).mono ?_
            rintro e u8 ⟨s8, rfl, hts, hr8, hc8⟩
            have HTS := hd hts
            clear hts
            have hza := HZ7.o.chg hc8 (HR7.o.off HZ7.o (by decide))
            have hqa := HQ7.o.chg hc8 (HR7.o.off HQ7.o (by decide))
            have hoa := HO7.o.chg hc8 (HR7.o.off HO7.o (by decide))
            have hwa := HR7.o.row HW7.o (by decide) hc8
            have hba := HB7.o.trans (below_one hc8 hgw HB7.o.size)
            have y1 := hoa.at_ 1 rfl
            have g1 := hoa.frozen 1
            have hlo := hoa.lt
            obtain ⟨w8, hw8⟩ : ∃ w8, w8 = (u8.setCell ⟨O, 1, none⟩ (.string s8)) := ⟨_, rfl⟩
            have HO8 := hd (show Blk w8 O 43 #[.bool false, .string s8, .string ⟨#[]⟩, .int .i64 0, .int .i64 0] by rw [hw8]; exact (hoa.set_ 1 _))
            have HR8 := hd (show RkR w8 w.heap.size g l (textS 20000 (markS (opsK k (ops0 ST v)) m)) by rw [hw8]; exact (hr8).far hoa (by decide) hOw _)
            have HZ8 := hd (show Blk w8 w.heap.size 26 #[.int .i64 0, .string ⟨#[]⟩, .string ⟨#[]⟩, .string ⟨#[]⟩, .string ⟨#[]⟩, .int .i64 0, .int .i64 0, .slice none 0 0, .int .i64 0, .int .i64 0, .int .i64 0] by rw [hw8]; exact (hza.far (p := ⟨O, 1, none⟩) (hza.ne_ hoa (by decide)) _))
            have HQ8 := hd (show Blk w8 Q 26 #[.int .i64 7, .string s0, .string s1, .string ⟨#[]⟩, .string ⟨#[]⟩, .int .i64 0, .int .i64 0, .slice A k c, .int .i64 0, .int .i64 0, .int .i64 0] by rw [hw8]; exact (hqa.far (p := ⟨O, 1, none⟩) (hqa.ne_ hoa (by decide)) _))
            have HW8 := hd (show Row w8 (From w.heap.size) 43 5 A k c (opsE L) by rw [hw8]; exact (hwa.far (p := ⟨O, 1, none⟩) HNA.o _))
            have HB8 := hd (show Below w.heap.size w w8 by rw [hw8]; exact (hba.setCell (p := ⟨O, 1, none⟩) hOw _))
            have HWW8 := hd hw8
            clear hr8 hc8 hza hqa hoa hwa hba
            go_upto_region 31 with (fail)
            rw [← HWW8.o]
            clear hw8 y1 g1 hlo
            have d0 := HO8.o.at_ 0 rfl
            go_wp2_with fail
            refine (kText_calls w8 w.heap.size g l _ 20000 HR8.o hl (by decide)).mono ?_
            rintro e u9 ⟨s9, rfl, ht9, hr9, hc9⟩
            have HT9 := hd ht9
            clear ht9
            have hza := HZ8.o.chg hc9 (HR8.o.off HZ8.o (by decide))
            have hqa := HQ8.o.chg hc9 (HR8.o.off HQ8.o (by decide))
            have hoa := HO8.o.chg hc9 (HR8.o.off HO8.o (by decide))
            have hwa := HR8.o.row HW8.o (by decide) hc9
            have hba := HB8.o.trans (below_one hc9 hgw HB8.o.size)
            have y2 := hoa.at_ 2 rfl
            have g2 := hoa.frozen 2
            have hlo := hoa.lt
            obtain ⟨w9, hw9⟩ : ∃ w9, w9 = (u9.setCell ⟨O, 2, none⟩ (.string s9)) := ⟨_, rfl⟩
            have HO9 := hd (show Blk w9 O 43 #[.bool false, .string s8, .string s9, .int .i64 0, .int .i64 0] by rw [hw9]; exact (hoa.set_ 2 _))
            have HR9 := hd (show RkR w9 w.heap.size g l (textS 20000 (textS 20000 (markS (opsK k (ops0 ST v)) m))) by rw [hw9]; exact (hr9).far hoa (by decide) hOw _)
            have HZ9 := hd (show Blk w9 w.heap.size 26 #[.int .i64 0, .string ⟨#[]⟩, .string ⟨#[]⟩, .string ⟨#[]⟩, .string ⟨#[]⟩, .int .i64 0, .int .i64 0, .slice none 0 0, .int .i64 0, .int .i64 0, .int .i64 0] by rw [hw9]; exact (hza.far (p := ⟨O, 2, none⟩) (hza.ne_ hoa (by decide)) _))
            have HQ9 := hd (show Blk w9 Q 26 #[.int .i64 7, .string s0, .string s1, .string ⟨#[]⟩, .string ⟨#[]⟩, .int .i64 0, .int .i64 0, .slice A k c, .int .i64 0, .int .i64 0, .int .i64 0] by rw [hw9]; exact (hqa.far (p := ⟨O, 2, none⟩) (hqa.ne_ hoa (by decide)) _))
            have HW9 := hd (show Row w9 (From w.heap.size) 43 5 A k c (opsE L) by rw [hw9]; exact (hwa.far (p := ⟨O, 2, none⟩) HNA.o _))
            have HB9 := hd (show Below w.heap.size w w9 by rw [hw9]; exact (hba.setCell (p := ⟨O, 2, none⟩) hOw _))
            have HWW9 := hd hw9
            clear hr9 hc9 hza hqa hoa hwa hba
            go_upto_region 33 with (fail)
            rw [← HWW9.o]
            clear hw9 y2 g2 hlo
            clear d0
            go_wp2_with fail
            refine (kcond_calls w9 w.heap.size g l _ HR9.o hl).mono ?_
            rintro e u12 ⟨ck, cv, rfl, hcd, hr12, hc12⟩
            have HCD := hd hcd
            clear hcd
            have hza := HZ9.o.chg hc12 (HR9.o.off HZ9.o (by decide))
            have hqa := HQ9.o.chg hc12 (HR9.o.off HQ9.o (by decide))
            have hoa := HO9.o.chg hc12 (HR9.o.off HO9.o (by decide))
            have hwa := HR9.o.row HW9.o (by decide) hc12
            have hba := HB9.o.trans (below_one hc12 hgw HB9.o.size)
            have y3 := hoa.at_ 3 rfl
            have g3 := hoa.frozen 3
            have y4 := hoa.at_ 4 rfl
            have g4 := hoa.frozen 4
            have hlo := hoa.lt
            obtain ⟨w12, hw12⟩ : ∃ w12, w12 = ((u12.setCell ⟨O, 3, none⟩ (.int .i64 ck)).setCell ⟨O, 4, none⟩ (.int .i64 cv)) := ⟨_, rfl⟩
            have HO12 := hd (show Blk w12 O 43 #[.bool false, .string s8, .string s9, .int .i64 ck, .int .i64 cv] by rw [hw12]; exact ((hoa.set_ 3 _).set_ 4 _))
            have HR12 := hd (show RkR w12 w.heap.size g l (condS (textS 20000 (textS 20000 (markS (opsK k (ops0 ST v)) m)))) by rw [hw12]; exact ((hr12).far hoa (by decide) hOw _).far (hoa.set_ 3 _) (by decide) hOw _)
            have HZ12 := hd (show Blk w12 w.heap.size 26 #[.int .i64 0, .string ⟨#[]⟩, .string ⟨#[]⟩, .string ⟨#[]⟩, .string ⟨#[]⟩, .int .i64 0, .int .i64 0, .slice none 0 0, .int .i64 0, .int .i64 0, .int .i64 0] by rw [hw12]; exact ((hza.far (p := ⟨O, 3, none⟩) (hza.ne_ hoa (by decide)) _).far (p := ⟨O, 4, none⟩) (hza.ne_ hoa (by decide)) _))
            have HQ12 := hd (show Blk w12 Q 26 #[.int .i64 7, .string s0, .string s1, .string ⟨#[]⟩, .string ⟨#[]⟩, .int .i64 0, .int .i64 0, .slice A k c, .int .i64 0, .int .i64 0, .int .i64 0] by rw [hw12]; exact ((hqa.far (p := ⟨O, 3, none⟩) (hqa.ne_ hoa (by decide)) _).far (p := ⟨O, 4, none⟩) (hqa.ne_ hoa (by decide)) _))
            have HW12 := hd (show Row w12 (From w.heap.size) 43 5 A k c (opsE L) by rw [hw12]; exact ((hwa.far (p := ⟨O, 3, none⟩) HNA.o _).far (p := ⟨O, 4, none⟩) HNA.o _))
            have HB12 := hd (show Below w.heap.size w w12 by rw [hw12]; exact ((hba.setCell (p := ⟨O, 3, none⟩) hOw _).setCell (p := ⟨O, 4, none⟩) hOw _))
            have HWW12 := hd hw12
            clear hr12 hc12 hza hqa hoa hwa hba
            go_upto_region 34 with (fail)
            rw [← HWW12.o]
            clear hw12 y3 g3 y4 g4 hlo
            have HPL := hd (op_step HSM.o HTS.o (t := s9) (ck := ck) (cv := cv) (fun _ => HT9.o) (by rw [if_neg h1]; exact HCD.o))
            have HBO := hd (show OpB ⟨decide (m = 1), s8.data.toList, if m = 1 then [] else s9.data.toList, ck, cv⟩ from ⟨by have := HTS.o.1; rw [ba_size] at this; exact this, by show (if m = 1 then [] else s9.data.toList).length ≤ _; rw [if_neg h1]; have := HT9.o.1; rw [ba_size] at this; exact this, HCD.o.1, HCD.o.2.1⟩)
            have HEN := hd (show opEnc ⟨decide (m = 1), s8.data.toList, if m = 1 then [] else s9.data.toList, ck, cv⟩ = [.bool false, .string s8, .string s9, .int .i64 ck, .int .i64 cv] by unfold opEnc; simp only [decide_eq_false h1, if_neg h1]; rfl)
            obtain ⟨ov, hov⟩ : ∃ ov : OpV, (⟨decide (m = 1), s8.data.toList, if m = 1 then [] else s9.data.toList, ck, cv⟩ : OpV) = ov := ⟨_, rfl⟩
            rw [hov] at HPL HBO HEN
            have HNX := hd (opsK_succ HO.o HPL.o.2)
            have HRF := hd (show RkR w12 w.heap.size g l (opsK (k + 1) (ops0 ST v)) by
              rw [HNX.o.1, HPL.o.1, if_neg h1]
              exact HR12.o)
            have y0 := HO12.o.at_ 0 rfl
            have y1 := HO12.o.at_ 1 rfl
            have y2 := HO12.o.at_ 2 rfl
            have y3 := HO12.o.at_ 3 rfl
            have y4 := HO12.o.at_ 4 rfl
            have q7 := HQ12.o.at_ 7 rfl
            have f7 := HQ12.o.frozen 7
            have ql := HQ12.o.lt
            have HWA := hd (HW12.o.own_.alloc (.cells #[.bool false, .string s8, .string s9, .int .i64 ck, .int .i64 cv] 43))
            have HQA := hd (HQ12.o.alloc (.cells #[.bool false, .string s8, .string s9, .int .i64 ck, .int .i64 cv] 43))
            have HSUB := hd HW12.o.of_sub
            clear hov
            go_wp2_with (at_builtin; refine wpList_append_row rfl _ _ 24 rfl (Of A) 43 i0_ (.agg #[.bool false, .string ⟨#[]⟩, .string ⟨#[]⟩, .int .i64 0, .int .i64 0]) 5 56 Tryz.underlying24 hi hz0 hz1 hz2 rfl A k c (opsE L) rfl HWA.o ⟨w12.heap.size, 0, none⟩ 1 1 [.bool false, .string s8, .string s9, .int .i64 ck, .int .i64 cv] rfl rfl (cells_at8 (Blk.new _ _ _) rfl) (by rw [← HEN.o]; exact opEnc_one5 _) (by omega) (by unfold maxLen; omega) (by omega) ?_; intro A9 c9 w9 hown9 hchg9; have HQX := hd (HWA.o.blk HQA.o (by decide) hchg9); have q7b := HQX.o.at_ 7 rfl; have f7b := HQX.o.frozen 7; have HOWN := hd hown9; have HCHG := hd hchg9; clear hown9 hchg9)
            have HR10 := hd (HRF.o.alloc (.cells #[.bool false, .string s8, .string s9, .int .i64 ck, .int .i64 cv] 43))
            have HR11 := hd (HR10.o.rowc HWA.o (by decide) HCHG.o (fun a ha => HSUB.o _ (by rw [ha]; rfl)))
            have HZ11 := hd (HWA.o.blk (HZ12.o.alloc (.cells #[.bool false, .string s8, .string s9, .int .i64 ck, .int .i64 cv] 43)) (by decide) HCHG.o)
            have HB11 := hd ((HB12.o.alloc HB12.o.size (.cells #[.bool false, .string s8, .string s9, .int .i64 ck, .int .i64 cv] 43)).trans (HCHG.o.below (fun q hq => HSUB.o q hq) (HB12.o.alloc HB12.o.size (.cells #[.bool false, .string s8, .string s9, .int .i64 ck, .int .i64 cv] 43)).size))
            have HW11 := hd (show Row w9 (From w.heap.size) 43 5 A9 (k + 1) c9 (opsE (L ++ [ov])) by
              rw [opsE_snoc, HEN.o]
              exact HOWN.o.mono (fun q hq => hq.elim (fun h => HSUB.o q h) (fun h => Nat.le_trans (Nat.le_trans HB12.o.size (by simp)) h)))
            go_roundw
            case rel => exact ⟨k + 1, c9, A9, L ++ [ov], by go_num, by omega, by omega, hd (HQX.o.set_ 7 _), hd (HW11.o.far (p := ⟨Q, 7, none⟩) (fun a ha => HW11.o.ne_blk HQX.o (by decide) a ha) _), hd (by rw [List.length_append, ← HL.o]; rfl), hd HNX.o.2, hd (fun o ho => by rcases List.mem_append.1 ho with ho | ho; exact HOB.o o ho; rw [List.mem_singleton.1 ho]; exact HBO.o), hd (HR11.o.far HQX.o (by decide) (Nat.le_of_lt hQw) _), hd (HZ11.o.far (p := ⟨Q, 7, none⟩) (show w.heap.size ≠ Q by omega) _), hd (HB11.o.setCell (p := ⟨Q, 7, none⟩) (Nat.le_of_lt hQw) _)⟩
            case measure => simp [intOf]; omega
        · by_cases hlt : (k : Int) < v
          · have hltd : decide ((k : Int) < v) = true := by simpa using hlt
            have he : ¬ re = 0 := fun h => hgo ⟨hlt, h⟩
            have heb : (re == 0) = false := by simpa using he
            have hdn : (opsK k (ops0 ST v)) = none := by
              rcases H5X.o with ⟨h, _⟩ | ⟨_, h⟩
              · exact absurd h he
              · exact h
            have HDD := hd (ops_dead HVV.o (k := k) (by omega) hdn)
            have HR6 := hd (show RkR w6 w.heap.size g l (opsS ST) by rw [HDD.o.1, ← hdn]; exact HR.o)
            have HV5 := hd (HDD.o.2 L)
            clear hgo he hdn
            go_wp2_with fail
            go_meet
            exact ⟨⟨#[]⟩, ⟨#[]⟩, 0, 0, A, k, c, L, 0, 0, 0, HQ, hd ⟨⟨by decide, (st_skipT _).2⟩, ⟨by decide, (st_skipT _).2⟩, (st_skipC _).2, by simp only [st9, flU_7, flC_7, flN_7, flO_7, flT_7, flM_7, flI_7, skT, skC, skO, skN, skS]; exact ⟨HV5.o, by rw [← HL.o]; exact hk16, HOB.o⟩, (st_skipN _).2, (st_skipS _).2, (st_skipS _).2⟩, hd (by simp only [st9, flU_7, flC_7, flN_7, flO_7, flT_7, flM_7, flI_7, skT, skC, skO, skN, skS]; exact HR6.o), HZ, HB, HW, HL⟩
          · have hltd : decide ((k : Int) < v) = false := by simpa using hlt
            have hkv2 : v.toNat = k := by omega
            have hof := ops_of HVV.o
            rw [hkv2] at hof
            have HR6 := hd (show RkR w6 w.heap.size g l (opsS ST) by rw [hof.1]; exact HR.o)
            have HV5 := hd (hof.2 L HO.o)
            clear hgo hof hkv2
            go_wp2_with fail
            go_meet
            exact ⟨⟨#[]⟩, ⟨#[]⟩, 0, 0, A, k, c, L, 0, 0, 0, HQ, hd ⟨⟨by decide, (st_skipT _).2⟩, ⟨by decide, (st_skipT _).2⟩, (st_skipC _).2, by simp only [st9, flU_7, flC_7, flN_7, flO_7, flT_7, flM_7, flI_7, skT, skC, skO, skN, skS]; exact ⟨HV5.o, by rw [← HL.o]; exact hk16, HOB.o⟩, (st_skipN _).2, (st_skipS _).2, (st_skipS _).2⟩, hd (by simp only [st9, flU_7, flC_7, flN_7, flO_7, flT_7, flM_7, flI_7, skT, skC, skO, skN, skS]; exact HR6.o), HZ, HB, HW, HL⟩
    · go_upto_region 36 with (fail)
      go_wp2_with fail
      refine (kNum_calls wc w.heap.size g l _ HR.o hl).mono ?_
      rintro e ua ⟨v6, rfl, hv, hr, hc⟩
      have hza := HZ.o.chg hc (HR.o.off HZ.o (by decide))
      have hqa := HQ.o.chg hc (HR.o.off HQ.o (by decide))
      have hba := HB.o.trans (below_one hc hgw HB.o.size)
      have z8 := hqa.at_ 8 rfl
      have f8 := hqa.frozen 8
      obtain ⟨wa, hw⟩ : ∃ wa, wa = (ua.setCell ⟨Q, 8, none⟩ (.int .i64 v6)) := ⟨_, rfl⟩
      have HQa := hd (show Blk wa Q 26 #[.int .i64 8, .string s0, .string s1, .string ⟨#[]⟩, .string ⟨#[]⟩, .int .i64 0, .int .i64 0, .slice none 0 0, .int .i64 v6, .int .i64 0, .int .i64 0] by rw [hw]; exact (hqa.set_ 8 _))
      have HRa := hd (show RkR wa w.heap.size g l (numS ST) by rw [hw]; exact (hr).far hqa (by decide) (Nat.le_of_lt hQw) _)
      have HZa := hd (show Blk wa w.heap.size 26 #[.int .i64 0, .string ⟨#[]⟩, .string ⟨#[]⟩, .string ⟨#[]⟩, .string ⟨#[]⟩, .int .i64 0, .int .i64 0, .slice none 0 0, .int .i64 0, .int .i64 0, .int .i64 0] by rw [hw]; exact (hza.far (p := ⟨Q, 8, none⟩) (show w.heap.size ≠ Q by omega) _))
      have HBa := hd (show Below w.heap.size w wa by rw [hw]; exact (hba.setCell (p := ⟨Q, 8, none⟩) (Nat.le_of_lt hQw) _))
      have HV6 := hd hv
      have HWa := hd hw
      have hlq := hqa.lt
      clear hv hr hc hqa hza hba hw
      go_upto_region 37 with (fail)
      rw [← HWa.o]
      clear z8 f8 hlq
      go_upto_region 37 with (fail)
      go_wp2_with fail
      refine (ksmall_calls wa w.heap.size g l _ HRa.o hl).mono ?_
      rintro e uc ⟨v7, rfl, hv, hr, hc⟩
      have hza := HZa.o.chg hc (HRa.o.off HZa.o (by decide))
      have hqa := HQa.o.chg hc (HRa.o.off HQa.o (by decide))
      have hba := HBa.o.trans (below_one hc hgw HBa.o.size)
      have z9 := hqa.at_ 9 rfl
      have f9 := hqa.frozen 9
      obtain ⟨wc, hw⟩ : ∃ wc, wc = (uc.setCell ⟨Q, 9, none⟩ (.int .i64 v7)) := ⟨_, rfl⟩
      have HQc := hd (show Blk wc Q 26 #[.int .i64 8, .string s0, .string s1, .string ⟨#[]⟩, .string ⟨#[]⟩, .int .i64 0, .int .i64 0, .slice none 0 0, .int .i64 v6, .int .i64 v7, .int .i64 0] by rw [hw]; exact (hqa.set_ 9 _))
      have HRc := hd (show RkR wc w.heap.size g l (smallS (numS ST)) by rw [hw]; exact (hr).far hqa (by decide) (Nat.le_of_lt hQw) _)
      have HZc := hd (show Blk wc w.heap.size 26 #[.int .i64 0, .string ⟨#[]⟩, .string ⟨#[]⟩, .string ⟨#[]⟩, .string ⟨#[]⟩, .int .i64 0, .int .i64 0, .slice none 0 0, .int .i64 0, .int .i64 0, .int .i64 0] by rw [hw]; exact (hza.far (p := ⟨Q, 9, none⟩) (show w.heap.size ≠ Q by omega) _))
      have HBc := hd (show Below w.heap.size w wc by rw [hw]; exact (hba.setCell (p := ⟨Q, 9, none⟩) (Nat.le_of_lt hQw) _))
      have HV7 := hd hv
      have HWc := hd hw
      have hlq := hqa.lt
      clear hv hr hc hqa hza hba hw
      go_wp2_with fail
      go_meet
      rw [← HWc.o]
      exact ⟨⟨#[]⟩, ⟨#[]⟩, 0, 0, none, 0, 0, [], v6, v7, 0, HQc, hd ⟨⟨by decide, (st_skipT _).2⟩, ⟨by decide, (st_skipT _).2⟩, (st_skipC _).2, ⟨(st_skipO _).2, by decide, fun o ho => by cases ho⟩, by simp only [st9, flU_8, flC_8, flN_8, flO_8, flT_8, flM_8, flI_8, skT, skC, skO, skN, skS]; exact HV6.o.2.2, by simp only [st9, flU_8, flC_8, flN_8, flO_8, flT_8, flM_8, flI_8, skT, skC, skO, skN, skS]; exact HV7.o.2, (st_skipS _).2⟩, hd (by simp only [st9, flU_8, flC_8, flN_8, flO_8, flT_8, flM_8, flI_8, skT, skC, skO, skN, skS]; exact HRc.o), HZc, HBc, hd (Row.nil _ _ _ _), hd rfl⟩
    · go_upto_region 39 with (fail)
      go_wp2_with fail
      refine (kNum_calls wc w.heap.size g l _ HR.o hl).mono ?_
      rintro e ua ⟨v6, rfl, hv, hr, hc⟩
      have hza := HZ.o.chg hc (HR.o.off HZ.o (by decide))
      have hqa := HQ.o.chg hc (HR.o.off HQ.o (by decide))
      have hba := HB.o.trans (below_one hc hgw HB.o.size)
      have z8 := hqa.at_ 8 rfl
      have f8 := hqa.frozen 8
      obtain ⟨wa, hw⟩ : ∃ wa, wa = (ua.setCell ⟨Q, 8, none⟩ (.int .i64 v6)) := ⟨_, rfl⟩
      have HQa := hd (show Blk wa Q 26 #[.int .i64 9, .string s0, .string s1, .string ⟨#[]⟩, .string ⟨#[]⟩, .int .i64 0, .int .i64 0, .slice none 0 0, .int .i64 v6, .int .i64 0, .int .i64 0] by rw [hw]; exact (hqa.set_ 8 _))
      have HRa := hd (show RkR wa w.heap.size g l (numS ST) by rw [hw]; exact (hr).far hqa (by decide) (Nat.le_of_lt hQw) _)
      have HZa := hd (show Blk wa w.heap.size 26 #[.int .i64 0, .string ⟨#[]⟩, .string ⟨#[]⟩, .string ⟨#[]⟩, .string ⟨#[]⟩, .int .i64 0, .int .i64 0, .slice none 0 0, .int .i64 0, .int .i64 0, .int .i64 0] by rw [hw]; exact (hza.far (p := ⟨Q, 8, none⟩) (show w.heap.size ≠ Q by omega) _))
      have HBa := hd (show Below w.heap.size w wa by rw [hw]; exact (hba.setCell (p := ⟨Q, 8, none⟩) (Nat.le_of_lt hQw) _))
      have HV6 := hd hv
      have HWa := hd hw
      have hlq := hqa.lt
      clear hv hr hc hqa hza hba hw
      go_upto_region 40 with (fail)
      rw [← HWa.o]
      clear z8 f8 hlq
      go_upto_region 40 with (fail)
      go_wp2_with fail
      refine (ksmall_calls wa w.heap.size g l _ HRa.o hl).mono ?_
      rintro e uc ⟨v8, rfl, hv, hr, hc⟩
      have hza := HZa.o.chg hc (HRa.o.off HZa.o (by decide))
      have hqa := HQa.o.chg hc (HRa.o.off HQa.o (by decide))
      have hba := HBa.o.trans (below_one hc hgw HBa.o.size)
      have z10 := hqa.at_ 10 rfl
      have f10 := hqa.frozen 10
      obtain ⟨wc, hw⟩ : ∃ wc, wc = (uc.setCell ⟨Q, 10, none⟩ (.int .i64 v8)) := ⟨_, rfl⟩
      have HQc := hd (show Blk wc Q 26 #[.int .i64 9, .string s0, .string s1, .string ⟨#[]⟩, .string ⟨#[]⟩, .int .i64 0, .int .i64 0, .slice none 0 0, .int .i64 v6, .int .i64 0, .int .i64 v8] by rw [hw]; exact (hqa.set_ 10 _))
      have HRc := hd (show RkR wc w.heap.size g l (smallS (numS ST)) by rw [hw]; exact (hr).far hqa (by decide) (Nat.le_of_lt hQw) _)
      have HZc := hd (show Blk wc w.heap.size 26 #[.int .i64 0, .string ⟨#[]⟩, .string ⟨#[]⟩, .string ⟨#[]⟩, .string ⟨#[]⟩, .int .i64 0, .int .i64 0, .slice none 0 0, .int .i64 0, .int .i64 0, .int .i64 0] by rw [hw]; exact (hza.far (p := ⟨Q, 10, none⟩) (show w.heap.size ≠ Q by omega) _))
      have HBc := hd (show Below w.heap.size w wc by rw [hw]; exact (hba.setCell (p := ⟨Q, 10, none⟩) (Nat.le_of_lt hQw) _))
      have HV7 := hd hv
      have HWc := hd hw
      have hlq := hqa.lt
      clear hv hr hc hqa hza hba hw
      go_wp2_with fail
      go_meet
      rw [← HWc.o]
      exact ⟨⟨#[]⟩, ⟨#[]⟩, 0, 0, none, 0, 0, [], v6, 0, v8, HQc, hd ⟨⟨by decide, (st_skipT _).2⟩, ⟨by decide, (st_skipT _).2⟩, (st_skipC _).2, ⟨(st_skipO _).2, by decide, fun o ho => by cases ho⟩, by simp only [st9, flU_9, flC_9, flN_9, flO_9, flT_9, flM_9, flI_9, skT, skC, skO, skN, skS]; exact HV6.o.2.2, (st_skipS _).2, by simp only [st9, flU_9, flC_9, flN_9, flO_9, flT_9, flM_9, flI_9, skT, skC, skO, skN, skS]; exact HV7.o.2⟩, hd (by simp only [st9, flU_9, flC_9, flN_9, flO_9, flT_9, flM_9, flI_9, skT, skC, skO, skN, skS]; exact HRc.o), HZc, HBc, hd (Row.nil _ _ _ _), hd rfl⟩
    · have e4 : (k == 4) = false := by simp; omega
      have e5 : (k == 5) = false := by simp; omega
      have e6 : (k == 6) = false := by simp; omega
      have e7 : (k == 7) = false := by simp; omega
      have e8 : (k == 8) = false := by simp; omega
      have e9 : (k == 9) = false := by simp; omega
      have HNO := hd (no3 hno ST)
      clear hno
      go_wp2_with fail
      go_meet
      exact ⟨⟨#[]⟩, ⟨#[]⟩, 0, 0, none, 0, 0, [], 0, 0, 0, HQ, hd HNO.o.1, hd (by rw [HNO.o.2]; exact HR.o), HZ, HB, hd (Row.nil _ _ _ _), hd rfl⟩
  case rest =>
  clear HR HZ HQ HB
  obtain ⟨s2, s3, ck, cv, AO, nO, cO, LO, v6, v7, v8, HQ, HC, HR, HZ, HB, HROW, HLEN⟩ := hcut
  go_upto_region 41 with (fail)
  have HRAW := hd (raw_two (by rw [HST2.o]) HF.o HC.o)
  have HSZ := hd (show RqS ⟨k, s0.data.toList, s1.data.toList, s2.data.toList, s3.data.toList, ck, cv, LO, v6, v7, v8⟩ from size_two HF.o HC.o)
  obtain ⟨S9, hs9⟩ : ∃ s, st9 k ST = s := ⟨_, rfl⟩
  rw [hs9] at HR HRAW
  clear hs9
  obtain ⟨RA, rn, rc, rk, re, hbx, hox, h1x, h2x, h3x, h4x, h5x⟩ := HR.o.o
  have x2 := hbx.at_ 2 rfl
  have lx := hbx.lt
  have hzz := HZ.o.lt
  have z0 := HZ.o.at_ 0 rfl
  have z1 := HZ.o.at_ 1 rfl
  have z2 := HZ.o.at_ 2 rfl
  have z3 := HZ.o.at_ 3 rfl
  have z4 := HZ.o.at_ 4 rfl
  have z5 := HZ.o.at_ 5 rfl
  have z6 := HZ.o.at_ 6 rfl
  have z7 := HZ.o.at_ 7 rfl
  have z8 := HZ.o.at_ 8 rfl
  have z9 := HZ.o.at_ 9 rfl
  have z10 := HZ.o.at_ 10 rfl
  have f0 := HZ.o.frozen 0
  have f1 := HZ.o.frozen 1
  have f2 := HZ.o.frozen 2
  have f3 := HZ.o.frozen 3
  have f4 := HZ.o.frozen 4
  have f5 := HZ.o.frozen 5
  have f6 := HZ.o.frozen 6
  have f7 := HZ.o.frozen 7
  have f8 := HZ.o.frozen 8
  have f9 := HZ.o.frozen 9
  have f10 := HZ.o.frozen 10
  by_cases he0 : re = 0
  case neg =>
    have hed : (re != 0) = true := by simpa using he0
    have HV := hd (show decQ k l = (rq0, 1) from dec_dead HKK.o (by
      have h := HRAW.o
      rcases h5x with ⟨h1, _⟩ | ⟨_, h2⟩
      · exact absurd h1 he0
      · rw [h2] at h; exact h))
    clear hbx hox h2x h5x he0
    go_wp2_with fail
    (try simp only [Exit.inBlock, Exit.then])
    rw [HQQ.o]
    refine bodyPost_ret (res_rdec rfl (set11 HZ.o)) rfl ?_
    exact ⟨⟨none, 0, rfl.trans (decEq HV.o).symm, by rw [HV.o]; exact Row.nil _ _ _ _, bel11 HB.o⟩⟩
  case pos =>
  subst he0
  obtain ⟨r, hr⟩ : ∃ r, S9 = some r := by
    rcases h5x with ⟨_, h2⟩ | ⟨h1, _⟩
    · exact ⟨_, h2⟩
    · exact absurd rfl h1
  subst hr
  have HRL := hd (show r.length ≤ l.length by
    rcases h5x with ⟨_, h3⟩ | ⟨h1, _⟩
    · injection h3 with h3; rw [h3, List.length_drop]; omega
    · exact absurd rfl h1)
  clear hbx hox h2x h5x
  obtain ⟨rl, hrl⟩ : ∃ rl, r.length = rl := ⟨_, rfl⟩
  have PL := kleft_calls wc w.heap.size g l r HR.o hl
  rw [hrl] at PL HRL
  replace PL := hd PL
  have HRLN := hd hrl
  clear hrl
  go_wp2_with fail
  refine PL.o.mono ?_
  rintro e w10 ⟨rfl, hb10⟩
  have HZ10 := hd (HZ.o.below hb10 hzz)
  have HQ10 := hd (HQ.o.below hb10 HQ.o.lt)
  have HB10 := hd (HB.o.trans (hb10.mono HB.o.size))
  have HROW10 := hd (HROW.o.below hb10)
  clear hb10 z0 z1 z2 z3 z4 z5 z6 z7 z8 z9 z10 f0 f1 f2 f3 f4 f5 f6 f7 f8 f9 f10 hzz x2 lx
  have z0 := HZ10.o.at_ 0 rfl
  have z1 := HZ10.o.at_ 1 rfl
  have z2 := HZ10.o.at_ 2 rfl
  have z3 := HZ10.o.at_ 3 rfl
  have z4 := HZ10.o.at_ 4 rfl
  have z5 := HZ10.o.at_ 5 rfl
  have z6 := HZ10.o.at_ 6 rfl
  have z7 := HZ10.o.at_ 7 rfl
  have z8 := HZ10.o.at_ 8 rfl
  have z9 := HZ10.o.at_ 9 rfl
  have z10 := HZ10.o.at_ 10 rfl
  have f0 := HZ10.o.frozen 0
  have f1 := HZ10.o.frozen 1
  have f2 := HZ10.o.frozen 2
  have f3 := HZ10.o.frozen 3
  have f4 := HZ10.o.frozen 4
  have f5 := HZ10.o.frozen 5
  have f6 := HZ10.o.frozen 6
  have f7 := HZ10.o.frozen 7
  have f8 := HZ10.o.frozen 8
  have f9 := HZ10.o.frozen 9
  have f10 := HZ10.o.frozen 10
  have y0 := HQ10.o.at_ 0 rfl
  have y1 := HQ10.o.at_ 1 rfl
  have y2 := HQ10.o.at_ 2 rfl
  have y3 := HQ10.o.at_ 3 rfl
  have y4 := HQ10.o.at_ 4 rfl
  have y5 := HQ10.o.at_ 5 rfl
  have y6 := HQ10.o.at_ 6 rfl
  have y7 := HQ10.o.at_ 7 rfl
  have y8 := HQ10.o.at_ 8 rfl
  have y9 := HQ10.o.at_ 9 rfl
  have y10 := HQ10.o.at_ 10 rfl
  have hzz := HZ10.o.lt
  have lq := HQ10.o.lt
  by_cases hr0 : rl = 0
  case neg =>
    have hrd : ((rl : Int) != 0) = true := by simp; omega
    have HV := hd (dec_left HKK.o HRAW.o (fun e => by have := HRLN.o; rw [e] at this; exact hr0 this.symm))
    clear hr0
    go_wp2_with fail
    (try simp only [Exit.inBlock, Exit.then])
    rw [HQQ.o]
    refine bodyPost_ret (res_rdec rfl (set11 HZ10.o)) rfl ?_
    exact ⟨⟨none, 0, rfl.trans (decEq HV.o).symm, by rw [HV.o]; exact Row.nil _ _ _ _, bel11 HB10.o⟩⟩
  case pos =>
  subst hr0
  obtain rfl : r = [] := List.eq_nil_of_length_eq_zero HRLN.o
  have HV := hd (dec_all HKK.o HRAW.o)
  have CK := rcheck_calls ⟨k, s0.data.toList, s1.data.toList, s2.data.toList, s3.data.toList, ck, cv, LO, v6, v7, v8⟩ AO cO w10 (by rw [← HLEN.o]; exact HROW10.o.rds) HSZ.o
  unfold reqV reqE at CK
  simp only [bs_self] at CK
  rw [← HLEN.o] at CK
  replace CK := hd CK
  go_wp2_with fail
  refine CK.o.mono ?_
  rintro e w11 ⟨rfl, hb11⟩
  have HZ11 := hd (HZ10.o.below hb11 hzz)
  have HQ11 := hd (HQ10.o.below hb11 lq)
  have HB11 := hd (HB10.o.trans (hb11.mono HB10.o.size))
  have HROW11 := hd (HROW10.o.below hb11)
  clear hb11 z0 z1 z2 z3 z4 z5 z6 z7 z8 z9 z10 f0 f1 f2 f3 f4 f5 f6 f7 f8 f9 f10 y0 y1 y2 y3 y4 y5 y6 y7 y8 y9 y10 hzz lq CK
  have z0 := HZ11.o.at_ 0 rfl
  have z1 := HZ11.o.at_ 1 rfl
  have z2 := HZ11.o.at_ 2 rfl
  have z3 := HZ11.o.at_ 3 rfl
  have z4 := HZ11.o.at_ 4 rfl
  have z5 := HZ11.o.at_ 5 rfl
  have z6 := HZ11.o.at_ 6 rfl
  have z7 := HZ11.o.at_ 7 rfl
  have z8 := HZ11.o.at_ 8 rfl
  have z9 := HZ11.o.at_ 9 rfl
  have z10 := HZ11.o.at_ 10 rfl
  have f0 := HZ11.o.frozen 0
  have f1 := HZ11.o.frozen 1
  have f2 := HZ11.o.frozen 2
  have f3 := HZ11.o.frozen 3
  have f4 := HZ11.o.frozen 4
  have f5 := HZ11.o.frozen 5
  have f6 := HZ11.o.frozen 6
  have f7 := HZ11.o.frozen 7
  have f8 := HZ11.o.frozen 8
  have f9 := HZ11.o.frozen 9
  have f10 := HZ11.o.frozen 10
  have y0 := HQ11.o.at_ 0 rfl
  have y1 := HQ11.o.at_ 1 rfl
  have y2 := HQ11.o.at_ 2 rfl
  have y3 := HQ11.o.at_ 3 rfl
  have y4 := HQ11.o.at_ 4 rfl
  have y5 := HQ11.o.at_ 5 rfl
  have y6 := HQ11.o.at_ 6 rfl
  have y7 := HQ11.o.at_ 7 rfl
  have y8 := HQ11.o.at_ 8 rfl
  have y9 := HQ11.o.at_ 9 rfl
  have y10 := HQ11.o.at_ 10 rfl
  have hzz := HZ11.o.lt
  have lq := HQ11.o.lt
  by_cases h0 : chk ⟨k, s0.data.toList, s1.data.toList, s2.data.toList, s3.data.toList, ck, cv, LO, v6, v7, v8⟩ = 0
  · have HVY := hd (show decQ k l = (⟨k, s0.data.toList, s1.data.toList, s2.data.toList, s3.data.toList, ck, cv, LO, v6, v7, v8⟩, 0) by rw [HV.o, if_pos h0])
    have h0b : (chk ⟨k, s0.data.toList, s1.data.toList, s2.data.toList, s3.data.toList, ck, cv, LO, v6, v7, v8⟩ != 0) = false := by simpa using h0
    have H0 := hd h0
    clear h0
    go_wp2_with fail
    (try simp only [Exit.inBlock, Exit.then])
    rw [HQQ.o]
    refine bodyPost_ret (res_rdec rfl (set11 HZ11.o)) rfl ?_
    exact ⟨⟨AO, cO, (decOk HVY.o HLEN.o (by first | (simp only [bs_self]; done) | (simp only [bs_self]; rfl))), by rw [HVY.o]; exact (by have h := HROW11.o; rw [HLEN.o] at h; exact (((((((((((h).far (fun a ha => h.ne_blk HZ11.o (by decide) a ha) _).far (fun a ha => h.ne_blk HZ11.o (by decide) a ha) _).far (fun a ha => h.ne_blk HZ11.o (by decide) a ha) _).far (fun a ha => h.ne_blk HZ11.o (by decide) a ha) _).far (fun a ha => h.ne_blk HZ11.o (by decide) a ha) _).far (fun a ha => h.ne_blk HZ11.o (by decide) a ha) _).far (fun a ha => h.ne_blk HZ11.o (by decide) a ha) _).far (fun a ha => h.ne_blk HZ11.o (by decide) a ha) _).far (fun a ha => h.ne_blk HZ11.o (by decide) a ha) _).far (fun a ha => h.ne_blk HZ11.o (by decide) a ha) _).far (fun a ha => h.ne_blk HZ11.o (by decide) a ha) _), bel11 HB11.o⟩⟩
  · have HVN := hd (show decQ k l = (rq0, chk ⟨k, s0.data.toList, s1.data.toList, s2.data.toList, s3.data.toList, ck, cv, LO, v6, v7, v8⟩) by rw [HV.o, if_neg h0])
    have h0b : (chk ⟨k, s0.data.toList, s1.data.toList, s2.data.toList, s3.data.toList, ck, cv, LO, v6, v7, v8⟩ != 0) = true := by simpa using h0
    have H0 := hd h0
    clear h0
    go_wp2_with fail
    (try simp only [Exit.inBlock, Exit.then])
    rw [HQQ.o]
    refine bodyPost_ret (res_rdec rfl (set11 HZ11.o)) rfl ?_
    exact ⟨⟨none, 0, rfl.trans (decEq HVN.o).symm, by rw [HVN.o]; exact Row.nil _ _ _ _, bel11 HB11.o⟩⟩

set_option maxRecDepth 100000 in
set_option maxHeartbeats 4000000 in
theorem rdec_calls (k : Int) (w : World) (A : Option Addr) (n c : Nat) (l : List UInt8) (hnl : n = l.length) (hr : Rds w A n 1 (u8E l)) (hn : n ≤ 1000000) (hnc : n ≤ c) :
    Calls Tryz.prog 18 #[.int .i64 k, .slice A n c] w fun e w' => DecR w k l e w' := by
  cases hk : isK k with
  | true => exact rdec_in k hk w A n c l hnl hr hn hnc
  | false =>
    have HV := hd (dec_isk (l := l) hk)
    have hor : k < 1 ∨ 11 < k := by
      unfold isK at hk
      simp at hk
      omega
    obtain ⟨w0, hw0⟩ : ∃ w0, w0 = w.alloc (.cells #[.int .i64 0, .string ⟨#[]⟩, .string ⟨#[]⟩, .string ⟨#[]⟩, .string ⟨#[]⟩, .int .i64 0, .int .i64 0, .slice none 0 0, .int .i64 0, .int .i64 0, .int .i64 0] 26) := ⟨_, rfl⟩
    have HZ0 := hd (show Blk w0 w.heap.size 26 #[.int .i64 0, .string ⟨#[]⟩, .string ⟨#[]⟩, .string ⟨#[]⟩, .string ⟨#[]⟩, .int .i64 0, .int .i64 0, .slice none 0 0, .int .i64 0, .int .i64 0, .int .i64 0] by rw [hw0]; exact Blk.new _ _ _)
    have HB0 := hd (show Below w.heap.size w w0 by rw [hw0]; exact (Below.refl _ w).alloc (Nat.le_refl _) _)
    have hz0 := HZ0.o.lt
    have z0 := HZ0.o.at_ 0 rfl
    have z1 := HZ0.o.at_ 1 rfl
    have z2 := HZ0.o.at_ 2 rfl
    have z3 := HZ0.o.at_ 3 rfl
    have z4 := HZ0.o.at_ 4 rfl
    have z5 := HZ0.o.at_ 5 rfl
    have z6 := HZ0.o.at_ 6 rfl
    have z7 := HZ0.o.at_ 7 rfl
    have z8 := HZ0.o.at_ 8 rfl
    have z9 := HZ0.o.at_ 9 rfl
    have z10 := HZ0.o.at_ 10 rfl
    have f0 := HZ0.o.frozen 0
    have f1 := HZ0.o.frozen 1
    have f2 := HZ0.o.frozen 2
    have f3 := HZ0.o.frozen 3
    have f4 := HZ0.o.frozen 4
    have f5 := HZ0.o.frozen 5
    have f6 := HZ0.o.frozen 6
    have f7 := HZ0.o.frozen 7
    have f8 := HZ0.o.frozen 8
    have f9 := HZ0.o.frozen 9
    have f10 := HZ0.o.frozen 10
    have HW0 := hd hw0
    clear hnl hr hw0 hk hnc
    rcases hor with h | h
    · have h1 : decide (k < 1) = true := by simpa using h
      go_enter Tryz.func18, Tryz.ntmps18
      go_upto_region 1 with (fail)
      rw [← HW0.o]
      go_wp2
      (try simp only [Exit.inBlock, Exit.then])
      refine bodyPost_ret (res_rdec rfl (set11 HZ0.o)) rfl ?_
      exact ⟨⟨none, 0, rfl.trans (decEq HV.o).symm, by rw [HV.o]; exact Row.nil _ _ _ _, bel11 HB0.o⟩⟩
    · have h1 : decide (k < 1) = false := by simp; omega
      have h2 : decide ((11 : Int) < k) = true := by simpa using h
      go_enter Tryz.func18, Tryz.ntmps18
      go_upto_region 1 with (fail)
      rw [← HW0.o]
      go_wp2
      (try simp only [Exit.inBlock, Exit.then])
      refine bodyPost_ret (res_rdec rfl (set11 HZ0.o)) rfl ?_
      exact ⟨⟨none, 0, rfl.trans (decEq HV.o).symm, by rw [HV.o]; exact Row.nil _ _ _ _, bel11 HB0.o⟩⟩

end Go.Proofs.YtogjokofmfpmgaaGreatDoor
