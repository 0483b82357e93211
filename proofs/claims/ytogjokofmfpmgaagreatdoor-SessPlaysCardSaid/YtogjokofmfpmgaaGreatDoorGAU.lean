/-
  Requests: Decode.
-/
import Derived.Test.YtogjokofmfpmgaaGreatDoorGAT
import Derived.Deep.CutRange
import Derived.Test.YtogjokofmfpmgaaGreatDoorGAS
set_option linter.unusedVariables false
set_option linter.unusedSimpArgs false
namespace Go.Proofs.YtogjokofmfpmgaaGreatDoor
open Go.RowKit

theorem RdR.rowk {w w' : World} {x g : Nat} {l : List UInt8} {st : Option (List UInt8)} (h : RdR w x g l st) {S : Nat → Prop} {e : TypeId} {size n c : Nat} {A : Option Addr} {xs : List Value} (hr : Row w S e size A n c xs) (h1 : 89 ≠ e) (h2 : 113 ≠ e) (hc : Chg (Two x g) w w') : Row w' S e size A n c xs :=
  hr.keep (fun a ha => by
    obtain ⟨g', cur, rfl, _, hb, _⟩ := hr.block ha
    exact hc.block _ hb.lt (h.off hb h1 h2))
set_option maxRecDepth 100000 in
set_option maxHeartbeats 16000000 in
theorem dec_in (k : Int) (hk : isK k = true) (w : World) (A : Option Addr) (n c : Nat) (l : List UInt8) (hnl : n = l.length) (hr : Rds w A n 1 (u8E l)) (hn : n ≤ 1000000) (ht : Tbs w) :
    Calls Tryz.prog 17 #[.int .i64 k, .slice A n c] w fun e w' => DecR w k l e w' := by
  have C0 := hd (fun W => show Calls Tryz.prog 51 #[.int .i64 k] W fun e w' => e = .returned (.bool true) ∧ W = w' from by have := isk_calls k W; rw [hk] at this; exact this)
  have C1 := fun W => show Calls Tryz.prog 42 #[.int .i64 k] W fun e w' => e = .returned (.agg #[.bool (hT k), .bool (hC k), .bool (hU k), .bool (hCd k), .bool (hCn k), .bool (hO k), .bool (hTk k), .bool (hM k), .bool (hTi k)]) ∧ Below W.heap.size W w' from fields_calls k hk W
  obtain ⟨h1, e1⟩ : ∃ h, hT k = h := ⟨_, rfl⟩
  obtain ⟨h2, e2⟩ : ∃ h, hC k = h := ⟨_, rfl⟩
  obtain ⟨h3, e3⟩ : ∃ h, hU k = h := ⟨_, rfl⟩
  obtain ⟨h4, e4⟩ : ∃ h, hCd k = h := ⟨_, rfl⟩
  obtain ⟨h5, e5⟩ : ∃ h, hCn k = h := ⟨_, rfl⟩
  obtain ⟨h6, e6⟩ : ∃ h, hO k = h := ⟨_, rfl⟩
  obtain ⟨h7, e7⟩ : ∃ h, hTk k = h := ⟨_, rfl⟩
  obtain ⟨h8, e8⟩ : ∃ h, hM k = h := ⟨_, rfl⟩
  obtain ⟨h9, e9⟩ : ∃ h, hTi k = h := ⟨_, rfl⟩
  rw [e1, e2, e3, e4, e5, e6, e7, e8, e9] at C1
  have HE1 := hd e1
  have HE2 := hd e2
  have HE3 := hd e3
  have HE4 := hd e4
  have HE5 := hd e5
  have HE6 := hd e6
  have HE7 := hd e7
  have HE8 := hd e8
  have HE9 := hd e9
  clear e1 e2 e3 e4 e5 e6 e7 e8 e9
  replace C1 := hd C1
  have hl : l.length ≤ 1000000 := by omega
  have HN := hd hnl
  have HRD := hd hr
  have HTB := hd (fun W (h : Below w.heap.size w W) => ht.below h)
  obtain ⟨w0, hw0⟩ : ∃ w0, w0 = w.alloc (.cells #[.int .i64 0, .string ⟨#[]⟩, .string ⟨#[]⟩, .string ⟨#[]⟩, .string ⟨#[]⟩, .int .i64 0, .int .i64 0, .slice none 0 0, .int .i64 0, .int .i64 0, .int .i64 0] 26) := ⟨_, rfl⟩
  have HZ0 := hd (show Blk w0 w.heap.size 26 #[.int .i64 0, .string ⟨#[]⟩, .string ⟨#[]⟩, .string ⟨#[]⟩, .string ⟨#[]⟩, .int .i64 0, .int .i64 0, .slice none 0 0, .int .i64 0, .int .i64 0, .int .i64 0] by rw [hw0]; exact Blk.new _ _ _)
  have HB0 := hd (show Below w.heap.size w w0 by rw [hw0]; exact (Below.refl _ w).alloc (Nat.le_refl _) _)
  have hz0 := HZ0.o.lt
  have HW0 := hd hw0
  have HKK := hd hk
  clear hnl hr ht hw0 hk
  obtain ⟨QQ, hQQ⟩ : ∃ QQ, QQ = bodyPost Tryz.prog Tryz.f17 (fun e w' => DecR w k l e w') := ⟨_, rfl⟩
  have HQQ := hd hQQ
  go_enter Tryz.func17, Tryz.ntmps17
  rw [← hQQ]
  clear hQQ
  go_upto_region 1 with (fail)
  rw [← HW0.o]
  go_wp2_with (go_at_call 51; refine (C0.o _).mono ?_; rintro e w' ⟨rfl, rfl⟩)
  refine (C1.o _).mono ?_
  rintro e w1 ⟨rfl, hb1⟩
  have HB1 := hd (HB0.o.trans (hb1.mono HB0.o.size))
  have HZ1 := hd (HZ0.o.below hb1 hz0)
  obtain ⟨w2, hw2⟩ : ∃ w2, w2 = w1.alloc (.cells #[.bool h1, .bool h2, .bool h3, .bool h4, .bool h5, .bool h6, .bool h7, .bool h8, .bool h9] 78) := ⟨_, rfl⟩
  have HH2 := hd (show Blk w2 w1.heap.size 78 #[.bool h1, .bool h2, .bool h3, .bool h4, .bool h5, .bool h6, .bool h7, .bool h8, .bool h9] by rw [hw2]; exact Blk.new _ _ _)
  have HZ2 := hd (show Blk w2 w.heap.size 26 #[.int .i64 0, .string ⟨#[]⟩, .string ⟨#[]⟩, .string ⟨#[]⟩, .string ⟨#[]⟩, .int .i64 0, .int .i64 0, .slice none 0 0, .int .i64 0, .int .i64 0, .int .i64 0] by rw [hw2]; exact HZ1.o.alloc _)
  have HB2 := hd (show Below w.heap.size w w2 by rw [hw2]; exact HB1.o.alloc HB1.o.size _)
  have HW2 := hd hw2
  have h2l := HH2.o.lt
  have hz2 := HZ2.o.lt
  clear hb1 hw2 hz0 C0 C1
  go_upto_region 4 with (fail)
  rw [← HW2.o]
  go_wp2_with fail
  refine (pread_calls w2 A n c l HN.o (HRD.o.below HB2.o) hn).mono ?_
  rintro e w3 ⟨g, rfl, hg, hp3, hb3⟩
  have HH3 := hd (HH2.o.below hb3 h2l)
  have HZ3 := hd (HZ2.o.below hb3 hz2)
  have HB3 := hd (HB2.o.trans (hb3.mono HB2.o.size))
  have HP3 := hd hp3
  have hgw : w.heap.size ≤ g := Nat.le_trans HB2.o.size hg
  obtain ⟨w4, hw4⟩ : ∃ w4, w4 = w3.alloc (.cells #[.pointer (some ⟨g, 0, none⟩), .bool false] 89) := ⟨_, rfl⟩
  have HR4 := hd (show RdR w4 w3.heap.size g l (some l) from ⟨false, some l, by rw [hw4]; exact Blk.new _ _ _, by rw [hw4]; exact HP3.o.alloc _, .inl ⟨rfl, rfl⟩⟩)
  have HH4 := hd (show Blk w4 w1.heap.size 78 #[.bool h1, .bool h2, .bool h3, .bool h4, .bool h5, .bool h6, .bool h7, .bool h8, .bool h9] by rw [hw4]; exact HH3.o.alloc _)
  have HZ4 := hd (show Blk w4 w.heap.size 26 #[.int .i64 0, .string ⟨#[]⟩, .string ⟨#[]⟩, .string ⟨#[]⟩, .string ⟨#[]⟩, .int .i64 0, .int .i64 0, .slice none 0 0, .int .i64 0, .int .i64 0, .int .i64 0] by rw [hw4]; exact HZ3.o.alloc _)
  have HB4 := hd (show Below w.heap.size w w4 by rw [hw4]; exact HB3.o.alloc HB3.o.size _)
  have HW4 := hd hw4
  have hxw : w.heap.size ≤ w3.heap.size := HB3.o.size
  obtain ⟨x, hx⟩ : ∃ x, w3.heap.size = x := ⟨_, rfl⟩
  clear hb3 hp3 hw4 h2l hz2 hg
  go_upto_region 5 with (fail)
  rw [← HW4.o]
  rw [hx] at HR4 hxw
  (try rw [hx])
  clear hx
  obtain ⟨wc, hwc⟩ : ∃ wc, wc = w4.alloc (.cells #[.int .i64 k, .string ⟨#[]⟩, .string ⟨#[]⟩, .string ⟨#[]⟩, .string ⟨#[]⟩, .int .i64 0, .int .i64 0, .slice none 0 0, .int .i64 0, .int .i64 0, .int .i64 0] 26) := ⟨_, rfl⟩
  obtain ⟨Q, hQ⟩ : ∃ Q, w4.heap.size = Q := ⟨_, rfl⟩
  have hQw : w.heap.size < Q := by rw [← hQ]; exact HZ4.o.lt
  have HR := hd (show RdR wc x g l (some l) by rw [hwc]; exact HR4.o.alloc _)
  have HH := hd (show Blk wc w1.heap.size 78 #[.bool h1, .bool h2, .bool h3, .bool h4, .bool h5, .bool h6, .bool h7, .bool h8, .bool h9] by rw [hwc]; exact HH4.o.alloc _)
  have HZ := hd (show Blk wc w.heap.size 26 #[.int .i64 0, .string ⟨#[]⟩, .string ⟨#[]⟩, .string ⟨#[]⟩, .string ⟨#[]⟩, .int .i64 0, .int .i64 0, .slice none 0 0, .int .i64 0, .int .i64 0, .int .i64 0] by rw [hwc]; exact HZ4.o.alloc _)
  have HQ := hd (show Blk wc Q 26 #[.int .i64 k, .string ⟨#[]⟩, .string ⟨#[]⟩, .string ⟨#[]⟩, .string ⟨#[]⟩, .int .i64 0, .int .i64 0, .slice none 0 0, .int .i64 0, .int .i64 0, .int .i64 0] by rw [hwc, ← hQ]; exact Blk.new _ _ _)
  have HB := hd (show Below w.heap.size w wc by rw [hwc]; exact HB4.o.alloc HB4.o.size _)
  have HW5 := hd hwc
  obtain ⟨b, hhb⟩ : ∃ b, w1.heap.size = b := ⟨_, rfl⟩
  rw [hhb] at HH
  go_upto_region 6 with (fail)
  rw [← HW5.o]
  (try rw [hQ])
  (try rw [hhb])
  clear hwc hQ hhb HW0 HB0 HZ0 HB1 HZ1 HH2 HZ2 HB2 HW2 HH3 HZ3 HB3 HP3 HR4 HH4 HZ4 HB4 HW4 HW5
  have e0 := HH.o.at_ 0 rfl
  have el := HH.o.lt
  go_upto_if 23 with (fail)
  skip
  go_cut [] from 24 to 26 (fun wx => ∃ (s0 : ByteArray), Hd (Blk wx Q 26 #[.int .i64 k, .string s0, .string ⟨#[]⟩, .string ⟨#[]⟩, .string ⟨#[]⟩, .int .i64 0, .int .i64 0, .slice none 0 0, .int .i64 0, .int .i64 0, .int .i64 0]) ∧ Hd (s0.size ≤ 20000 ∧ stOk (oT h1) (some l) s0.data.toList) ∧ Hd (RdR wx x g l (stS (oT h1) (some l))) ∧ Hd (Blk wx b 78 #[.bool h1, .bool h2, .bool h3, .bool h4, .bool h5, .bool h6, .bool h7, .bool h8, .bool h9]) ∧ Hd (Blk wx w.heap.size 26 #[.int .i64 0, .string ⟨#[]⟩, .string ⟨#[]⟩, .string ⟨#[]⟩, .string ⟨#[]⟩, .int .i64 0, .int .i64 0, .slice none 0 0, .int .i64 0, .int .i64 0, .int .i64 0]) ∧ Hd (Below w.heap.size w wx))
  case first =>
    cases h1 with
    | false =>
      go_wp2_with fail
      go_meet
      exact ⟨⟨#[]⟩, HQ, hd ⟨by decide, (st_skipT _).2⟩, hd (by rw [← (st_skipT _).1]; exact HR.o), HH, HZ, HB⟩
    | true =>
      go_wp2_with fail
      refine (rdtext_calls wc x g l _ HR.o hl).mono ?_
      rintro e u ⟨s0, rfl, hv, hr, hc⟩
      have hqa := HQ.o.chg hc (HR.o.off HQ.o (by decide) (by decide))
      have hza := HZ.o.chg hc (HR.o.off HZ.o (by decide) (by decide))
      have hha := HH.o.chg hc (HR.o.off HH.o (by decide) (by decide))
      have hba := HB.o.trans (below_two hc hxw hgw HB.o.size)
      have z1 := hqa.at_ 1 rfl
      have f1 := hqa.frozen 1
      have hlq := hqa.lt
      have KQ := hd (show Blk (u.setCell ⟨Q, 1, none⟩ (.string s0)) Q 26 #[.int .i64 k, .string s0, .string ⟨#[]⟩, .string ⟨#[]⟩, .string ⟨#[]⟩, .int .i64 0, .int .i64 0, .slice none 0 0, .int .i64 0, .int .i64 0, .int .i64 0] from (hqa.set_ 1 _))
      have KV := hd (And.intro hv.1 hv.2)
      have KR := hd (show RdR (u.setCell ⟨Q, 1, none⟩ (.string s0)) x g l (stS (oT true) (some l)) from (hr).far hqa (by decide) (by decide) (by decide) _)
      have KH := hd (show Blk (u.setCell ⟨Q, 1, none⟩ (.string s0)) b 78 _ from (hha.far (p := ⟨Q, 1, none⟩) (hha.ne_ hqa (by decide)) _))
      have KZ := hd (show Blk (u.setCell ⟨Q, 1, none⟩ (.string s0)) w.heap.size 26 _ from (hza.far (p := ⟨Q, 1, none⟩) (show w.heap.size ≠ Q by omega) _))
      have KB := hd (show Below w.heap.size w (u.setCell ⟨Q, 1, none⟩ (.string s0)) from (hba.setCell (p := ⟨Q, 1, none⟩) (Nat.le_of_lt hQw) _))
      skip
      skip
      clear hv hr hc hqa hza hha hba
      go_wp2_with fail
      go_meet
      exact ⟨s0, KQ, KV, KR, KH, KZ, KB⟩
  case rest =>
  clear HR HH HZ HQ HB e0 el
  obtain ⟨s0, HQ, HV0, HR, HH, HZ, HB⟩ := hcut
  obtain ⟨st1, hst⟩ : ∃ s, stS (oT h1) (some l) = s := ⟨_, rfl⟩
  rw [hst] at HR
  have HS1 := hd hst
  clear hst
  have e0 := HH.o.at_ 1 rfl
  have el := HH.o.lt
  go_upto_if 28 with (fail)
  skip
  go_cut [] from 29 to 31 (fun wx => ∃ (s1 : ByteArray), Hd (Blk wx Q 26 #[.int .i64 k, .string s0, .string s1, .string ⟨#[]⟩, .string ⟨#[]⟩, .int .i64 0, .int .i64 0, .slice none 0 0, .int .i64 0, .int .i64 0, .int .i64 0]) ∧ Hd (s1.size ≤ 20000 ∧ stOk (oT h2) st1 s1.data.toList) ∧ Hd (RdR wx x g l (stS (oT h2) st1)) ∧ Hd (Blk wx b 78 #[.bool h1, .bool h2, .bool h3, .bool h4, .bool h5, .bool h6, .bool h7, .bool h8, .bool h9]) ∧ Hd (Blk wx w.heap.size 26 #[.int .i64 0, .string ⟨#[]⟩, .string ⟨#[]⟩, .string ⟨#[]⟩, .string ⟨#[]⟩, .int .i64 0, .int .i64 0, .slice none 0 0, .int .i64 0, .int .i64 0, .int .i64 0]) ∧ Hd (Below w.heap.size w wx))
  case first =>
    cases h2 with
    | false =>
      go_wp2_with fail
      go_meet
      exact ⟨⟨#[]⟩, HQ, hd ⟨by decide, (st_skipT _).2⟩, hd (by rw [← (st_skipT _).1]; exact HR.o), HH, HZ, HB⟩
    | true =>
      go_wp2_with fail
      refine (rdtext_calls wc x g l _ HR.o hl).mono ?_
      rintro e u ⟨s1, rfl, hv, hr, hc⟩
      have hqa := HQ.o.chg hc (HR.o.off HQ.o (by decide) (by decide))
      have hza := HZ.o.chg hc (HR.o.off HZ.o (by decide) (by decide))
      have hha := HH.o.chg hc (HR.o.off HH.o (by decide) (by decide))
      have hba := HB.o.trans (below_two hc hxw hgw HB.o.size)
      have z2 := hqa.at_ 2 rfl
      have f2 := hqa.frozen 2
      have hlq := hqa.lt
      have KQ := hd (show Blk (u.setCell ⟨Q, 2, none⟩ (.string s1)) Q 26 #[.int .i64 k, .string s0, .string s1, .string ⟨#[]⟩, .string ⟨#[]⟩, .int .i64 0, .int .i64 0, .slice none 0 0, .int .i64 0, .int .i64 0, .int .i64 0] from (hqa.set_ 2 _))
      have KV := hd (And.intro hv.1 hv.2)
      have KR := hd (show RdR (u.setCell ⟨Q, 2, none⟩ (.string s1)) x g l (stS (oT true) st1) from (hr).far hqa (by decide) (by decide) (by decide) _)
      have KH := hd (show Blk (u.setCell ⟨Q, 2, none⟩ (.string s1)) b 78 _ from (hha.far (p := ⟨Q, 2, none⟩) (hha.ne_ hqa (by decide)) _))
      have KZ := hd (show Blk (u.setCell ⟨Q, 2, none⟩ (.string s1)) w.heap.size 26 _ from (hza.far (p := ⟨Q, 2, none⟩) (show w.heap.size ≠ Q by omega) _))
      have KB := hd (show Below w.heap.size w (u.setCell ⟨Q, 2, none⟩ (.string s1)) from (hba.setCell (p := ⟨Q, 2, none⟩) (Nat.le_of_lt hQw) _))
      skip
      skip
      clear hv hr hc hqa hza hha hba
      go_wp2_with fail
      go_meet
      exact ⟨s1, KQ, KV, KR, KH, KZ, KB⟩
  case rest =>
  clear HR HH HZ HQ HB e0 el
  obtain ⟨s1, HQ, HV1, HR, HH, HZ, HB⟩ := hcut
  obtain ⟨st2, hst⟩ : ∃ s, stS (oT h2) st1 = s := ⟨_, rfl⟩
  rw [hst] at HR
  have HS2 := hd hst
  clear hst
  have e0 := HH.o.at_ 2 rfl
  have el := HH.o.lt
  go_upto_if 33 with (fail)
  skip
  go_cut [] from 34 to 36 (fun wx => ∃ (s2 : ByteArray), Hd (Blk wx Q 26 #[.int .i64 k, .string s0, .string s1, .string s2, .string ⟨#[]⟩, .int .i64 0, .int .i64 0, .slice none 0 0, .int .i64 0, .int .i64 0, .int .i64 0]) ∧ Hd (s2.size ≤ 20000 ∧ stOk (oT h3) st2 s2.data.toList) ∧ Hd (RdR wx x g l (stS (oT h3) st2)) ∧ Hd (Blk wx b 78 #[.bool h1, .bool h2, .bool h3, .bool h4, .bool h5, .bool h6, .bool h7, .bool h8, .bool h9]) ∧ Hd (Blk wx w.heap.size 26 #[.int .i64 0, .string ⟨#[]⟩, .string ⟨#[]⟩, .string ⟨#[]⟩, .string ⟨#[]⟩, .int .i64 0, .int .i64 0, .slice none 0 0, .int .i64 0, .int .i64 0, .int .i64 0]) ∧ Hd (Below w.heap.size w wx))
  case first =>
    cases h3 with
    | false =>
      go_wp2_with fail
      go_meet
      exact ⟨⟨#[]⟩, HQ, hd ⟨by decide, (st_skipT _).2⟩, hd (by rw [← (st_skipT _).1]; exact HR.o), HH, HZ, HB⟩
    | true =>
      go_wp2_with fail
      refine (rdtext_calls wc x g l _ HR.o hl).mono ?_
      rintro e u ⟨s2, rfl, hv, hr, hc⟩
      have hqa := HQ.o.chg hc (HR.o.off HQ.o (by decide) (by decide))
      have hza := HZ.o.chg hc (HR.o.off HZ.o (by decide) (by decide))
      have hha := HH.o.chg hc (HR.o.off HH.o (by decide) (by decide))
      have hba := HB.o.trans (below_two hc hxw hgw HB.o.size)
      have z3 := hqa.at_ 3 rfl
      have f3 := hqa.frozen 3
      have hlq := hqa.lt
      have KQ := hd (show Blk (u.setCell ⟨Q, 3, none⟩ (.string s2)) Q 26 #[.int .i64 k, .string s0, .string s1, .string s2, .string ⟨#[]⟩, .int .i64 0, .int .i64 0, .slice none 0 0, .int .i64 0, .int .i64 0, .int .i64 0] from (hqa.set_ 3 _))
      have KV := hd (And.intro hv.1 hv.2)
      have KR := hd (show RdR (u.setCell ⟨Q, 3, none⟩ (.string s2)) x g l (stS (oT true) st2) from (hr).far hqa (by decide) (by decide) (by decide) _)
      have KH := hd (show Blk (u.setCell ⟨Q, 3, none⟩ (.string s2)) b 78 _ from (hha.far (p := ⟨Q, 3, none⟩) (hha.ne_ hqa (by decide)) _))
      have KZ := hd (show Blk (u.setCell ⟨Q, 3, none⟩ (.string s2)) w.heap.size 26 _ from (hza.far (p := ⟨Q, 3, none⟩) (show w.heap.size ≠ Q by omega) _))
      have KB := hd (show Below w.heap.size w (u.setCell ⟨Q, 3, none⟩ (.string s2)) from (hba.setCell (p := ⟨Q, 3, none⟩) (Nat.le_of_lt hQw) _))
      skip
      skip
      clear hv hr hc hqa hza hha hba
      go_wp2_with fail
      go_meet
      exact ⟨s2, KQ, KV, KR, KH, KZ, KB⟩
  case rest =>
  clear HR HH HZ HQ HB e0 el
  obtain ⟨s2, HQ, HV2, HR, HH, HZ, HB⟩ := hcut
  obtain ⟨st3, hst⟩ : ∃ s, stS (oT h3) st2 = s := ⟨_, rfl⟩
  rw [hst] at HR
  have HS3 := hd hst
  clear hst
  have e0 := HH.o.at_ 3 rfl
  have el := HH.o.lt
  go_upto_if 38 with (fail)
  skip
  go_cut [] from 39 to 41 (fun wx => ∃ (s3 : ByteArray), Hd (Blk wx Q 26 #[.int .i64 k, .string s0, .string s1, .string s2, .string s3, .int .i64 0, .int .i64 0, .slice none 0 0, .int .i64 0, .int .i64 0, .int .i64 0]) ∧ Hd (s3.size ≤ 20000 ∧ stOk (oT h4) st3 s3.data.toList) ∧ Hd (RdR wx x g l (stS (oT h4) st3)) ∧ Hd (Blk wx b 78 #[.bool h1, .bool h2, .bool h3, .bool h4, .bool h5, .bool h6, .bool h7, .bool h8, .bool h9]) ∧ Hd (Blk wx w.heap.size 26 #[.int .i64 0, .string ⟨#[]⟩, .string ⟨#[]⟩, .string ⟨#[]⟩, .string ⟨#[]⟩, .int .i64 0, .int .i64 0, .slice none 0 0, .int .i64 0, .int .i64 0, .int .i64 0]) ∧ Hd (Below w.heap.size w wx))
  case first =>
    cases h4 with
    | false =>
      go_wp2_with fail
      go_meet
      exact ⟨⟨#[]⟩, HQ, hd ⟨by decide, (st_skipT _).2⟩, hd (by rw [← (st_skipT _).1]; exact HR.o), HH, HZ, HB⟩
    | true =>
      go_wp2_with fail
      refine (rdtext_calls wc x g l _ HR.o hl).mono ?_
      rintro e u ⟨s3, rfl, hv, hr, hc⟩
      have hqa := HQ.o.chg hc (HR.o.off HQ.o (by decide) (by decide))
      have hza := HZ.o.chg hc (HR.o.off HZ.o (by decide) (by decide))
      have hha := HH.o.chg hc (HR.o.off HH.o (by decide) (by decide))
      have hba := HB.o.trans (below_two hc hxw hgw HB.o.size)
      have z4 := hqa.at_ 4 rfl
      have f4 := hqa.frozen 4
      have hlq := hqa.lt
      have KQ := hd (show Blk (u.setCell ⟨Q, 4, none⟩ (.string s3)) Q 26 #[.int .i64 k, .string s0, .string s1, .string s2, .string s3, .int .i64 0, .int .i64 0, .slice none 0 0, .int .i64 0, .int .i64 0, .int .i64 0] from (hqa.set_ 4 _))
      have KV := hd (And.intro hv.1 hv.2)
      have KR := hd (show RdR (u.setCell ⟨Q, 4, none⟩ (.string s3)) x g l (stS (oT true) st3) from (hr).far hqa (by decide) (by decide) (by decide) _)
      have KH := hd (show Blk (u.setCell ⟨Q, 4, none⟩ (.string s3)) b 78 _ from (hha.far (p := ⟨Q, 4, none⟩) (hha.ne_ hqa (by decide)) _))
      have KZ := hd (show Blk (u.setCell ⟨Q, 4, none⟩ (.string s3)) w.heap.size 26 _ from (hza.far (p := ⟨Q, 4, none⟩) (show w.heap.size ≠ Q by omega) _))
      have KB := hd (show Below w.heap.size w (u.setCell ⟨Q, 4, none⟩ (.string s3)) from (hba.setCell (p := ⟨Q, 4, none⟩) (Nat.le_of_lt hQw) _))
      skip
      skip
      clear hv hr hc hqa hza hha hba
      go_wp2_with fail
      go_meet
      exact ⟨s3, KQ, KV, KR, KH, KZ, KB⟩
  case rest =>
  clear HR HH HZ HQ HB e0 el
  obtain ⟨s3, HQ, HV3, HR, HH, HZ, HB⟩ := hcut
  obtain ⟨st4, hst⟩ : ∃ s, stS (oT h4) st3 = s := ⟨_, rfl⟩
  rw [hst] at HR
  have HS4 := hd hst
  clear hst
  have e0 := HH.o.at_ 4 rfl
  have el := HH.o.lt
  go_upto_if 43 with (fail)
  skip
  go_cut [] from 44 to 46 (fun wx => ∃ (ck cv : Int), Hd (Blk wx Q 26 #[.int .i64 k, .string s0, .string s1, .string s2, .string s3, .int .i64 ck, .int .i64 cv, .slice none 0 0, .int .i64 0, .int .i64 0, .int .i64 0]) ∧ Hd (stOk (oC h5) st4 (ck, cv)) ∧ Hd (RdR wx x g l (stS (oC h5) st4)) ∧ Hd (Blk wx b 78 #[.bool h1, .bool h2, .bool h3, .bool h4, .bool h5, .bool h6, .bool h7, .bool h8, .bool h9]) ∧ Hd (Blk wx w.heap.size 26 #[.int .i64 0, .string ⟨#[]⟩, .string ⟨#[]⟩, .string ⟨#[]⟩, .string ⟨#[]⟩, .int .i64 0, .int .i64 0, .slice none 0 0, .int .i64 0, .int .i64 0, .int .i64 0]) ∧ Hd (Below w.heap.size w wx))
  case first =>
    cases h5 with
    | false =>
      go_wp2_with fail
      go_meet
      exact ⟨0, 0, HQ, hd (st_skipC _).2, hd (by rw [← (st_skipC _).1]; exact HR.o), HH, HZ, HB⟩
    | true =>
      go_wp2_with fail
      refine (rcond_calls wc x g l _ HR.o hl).mono ?_
      rintro e u ⟨ck, cv, rfl, hv, hr, hc⟩
      have hqa := HQ.o.chg hc (HR.o.off HQ.o (by decide) (by decide))
      have hza := HZ.o.chg hc (HR.o.off HZ.o (by decide) (by decide))
      have hha := HH.o.chg hc (HR.o.off HH.o (by decide) (by decide))
      have hba := HB.o.trans (below_two hc hxw hgw HB.o.size)
      have z5 := hqa.at_ 5 rfl
      have f5 := hqa.frozen 5
      have z6 := hqa.at_ 6 rfl
      have f6 := hqa.frozen 6
      have hlq := hqa.lt
      have KQ := hd (show Blk ((u.setCell ⟨Q, 5, none⟩ (.int .i64 ck)).setCell ⟨Q, 6, none⟩ (.int .i64 cv)) Q 26 #[.int .i64 k, .string s0, .string s1, .string s2, .string s3, .int .i64 ck, .int .i64 cv, .slice none 0 0, .int .i64 0, .int .i64 0, .int .i64 0] from ((hqa.set_ 5 _).set_ 6 _))
      have KV := hd hv.2.2
      have KR := hd (show RdR ((u.setCell ⟨Q, 5, none⟩ (.int .i64 ck)).setCell ⟨Q, 6, none⟩ (.int .i64 cv)) x g l (stS (oC true) st4) from ((hr).far hqa (by decide) (by decide) (by decide) _).far (hqa.set_ 5 _) (by decide) (by decide) (by decide) _)
      have KH := hd (show Blk ((u.setCell ⟨Q, 5, none⟩ (.int .i64 ck)).setCell ⟨Q, 6, none⟩ (.int .i64 cv)) b 78 _ from ((hha.far (p := ⟨Q, 5, none⟩) (hha.ne_ hqa (by decide)) _).far (p := ⟨Q, 6, none⟩) (hha.ne_ hqa (by decide)) _))
      have KZ := hd (show Blk ((u.setCell ⟨Q, 5, none⟩ (.int .i64 ck)).setCell ⟨Q, 6, none⟩ (.int .i64 cv)) w.heap.size 26 _ from ((hza.far (p := ⟨Q, 5, none⟩) (show w.heap.size ≠ Q by omega) _).far (p := ⟨Q, 6, none⟩) (show w.heap.size ≠ Q by omega) _))
      have KB := hd (show Below w.heap.size w ((u.setCell ⟨Q, 5, none⟩ (.int .i64 ck)).setCell ⟨Q, 6, none⟩ (.int .i64 cv)) from ((hba.setCell (p := ⟨Q, 5, none⟩) (Nat.le_of_lt hQw) _).setCell (p := ⟨Q, 6, none⟩) (Nat.le_of_lt hQw) _))
      skip
      skip
      clear hv hr hc hqa hza hha hba
      go_wp2_with fail
      go_meet
      exact ⟨ck, cv, KQ, KV, KR, KH, KZ, KB⟩
  case rest =>
  clear HR HH HZ HQ HB e0 el
  obtain ⟨ck, cv, HQ, HV4, HR, HH, HZ, HB⟩ := hcut
  obtain ⟨st5, hst⟩ : ∃ s, stS (oC h5) st4 = s := ⟨_, rfl⟩
  rw [hst] at HR
  have HS5 := hd hst
  clear hst
  have e0 := HH.o.at_ 5 rfl
  have el := HH.o.lt
  go_upto_if 48 with (fail)
  skip
  go_cut [] from 49 to 51 (fun wx => ∃ (AO : Option Addr) (nO cO : Nat) (LO : List OpV), Hd (Blk wx Q 26 #[.int .i64 k, .string s0, .string s1, .string s2, .string s3, .int .i64 ck, .int .i64 cv, .slice AO nO cO, .int .i64 0, .int .i64 0, .int .i64 0]) ∧ Hd (stOk (oO h6) st5 LO) ∧ Hd (RdR wx x g l (stS (oO h6) st5)) ∧ Hd (Blk wx b 78 #[.bool h1, .bool h2, .bool h3, .bool h4, .bool h5, .bool h6, .bool h7, .bool h8, .bool h9]) ∧ Hd (Blk wx w.heap.size 26 #[.int .i64 0, .string ⟨#[]⟩, .string ⟨#[]⟩, .string ⟨#[]⟩, .string ⟨#[]⟩, .int .i64 0, .int .i64 0, .slice none 0 0, .int .i64 0, .int .i64 0, .int .i64 0]) ∧ Hd (Below w.heap.size w wx) ∧ Hd (Row wx (From w.heap.size) 43 5 AO nO cO (opsE LO)) ∧ Hd (nO = LO.length) ∧ Hd (nO ≤ 16) ∧ Hd (∀ o ∈ LO, OpB o))
  case first =>
    cases h6 with
    | false =>
      go_wp2_with fail
      go_meet
      exact ⟨none, 0, 0, [], HQ, hd (st_skipO _).2, hd (by rw [← (st_skipO _).1]; exact HR.o), HH, HZ, HB, hd (Row.nil _ _ _ _), hd rfl, hd (by decide), hd (fun o ho => by cases ho)⟩
    | true =>
      go_wp2_with fail
      refine (rops_calls wc x g l _ HR.o hl).mono ?_
      rintro e u ⟨⟨AO, nO, cO, LO, rfl, hrow, hlen, hn16, hv, hob, hr, hc⟩⟩
      have hqa := HQ.o.chg hc (HR.o.off HQ.o (by decide) (by decide))
      have hza := HZ.o.chg hc (HR.o.off HZ.o (by decide) (by decide))
      have hha := HH.o.chg hc (HR.o.off HH.o (by decide) (by decide))
      have hba := HB.o.trans (below_two hc hxw hgw HB.o.size)
      have hrw := hrow.mono (T := From w.heap.size) (fun q hq => Nat.le_trans HB.o.size hq)
      have z7 := hqa.at_ 7 rfl
      have f7 := hqa.frozen 7
      have hlq := hqa.lt
      have KQ := hd (show Blk (u.setCell ⟨Q, 7, none⟩ (.slice AO nO cO)) Q 26 #[.int .i64 k, .string s0, .string s1, .string s2, .string s3, .int .i64 ck, .int .i64 cv, .slice AO nO cO, .int .i64 0, .int .i64 0, .int .i64 0] from (hqa.set_ 7 _))
      have KV := hd hv
      have KR := hd (show RdR (u.setCell ⟨Q, 7, none⟩ (.slice AO nO cO)) x g l (stS (oO true) st5) from (hr).far hqa (by decide) (by decide) (by decide) _)
      have KH := hd (show Blk (u.setCell ⟨Q, 7, none⟩ (.slice AO nO cO)) b 78 _ from (hha.far (p := ⟨Q, 7, none⟩) (hha.ne_ hqa (by decide)) _))
      have KZ := hd (show Blk (u.setCell ⟨Q, 7, none⟩ (.slice AO nO cO)) w.heap.size 26 _ from (hza.far (p := ⟨Q, 7, none⟩) (show w.heap.size ≠ Q by omega) _))
      have KB := hd (show Below w.heap.size w (u.setCell ⟨Q, 7, none⟩ (.slice AO nO cO)) from (hba.setCell (p := ⟨Q, 7, none⟩) (Nat.le_of_lt hQw) _))
      have KW := hd (show Row (u.setCell ⟨Q, 7, none⟩ (.slice AO nO cO)) (From w.heap.size) 43 5 AO nO cO (opsE LO) from (hrw.far (p := ⟨Q, 7, none⟩) (fun a ha => hrw.ne_blk hqa (by decide) a ha) _))
      have KL := hd hlen; have KN := hd hn16; have KO := hd hob
      clear hv hr hc hqa hza hha hba hrw hrow hlen hn16 hob
      go_wp2_with fail
      go_meet
      exact ⟨AO, nO, cO, LO, KQ, KV, KR, KH, KZ, KB, KW, KL, KN, KO⟩
  case rest =>
  clear HR HH HZ HQ HB e0 el
  obtain ⟨AO, nO, cO, LO, HQ, HV5, HR, HH, HZ, HB, HROW, HLEN, H16, HOB⟩ := hcut
  obtain ⟨st6, hst⟩ : ∃ s, stS (oO h6) st5 = s := ⟨_, rfl⟩
  rw [hst] at HR
  have HS6 := hd hst
  clear hst
  have e0 := HH.o.at_ 6 rfl
  have el := HH.o.lt
  go_upto_if 53 with (fail)
  have xc := HR.o.c0
  go_cut [] from 54 to 59 (fun wx => ∃ (v6 : Int), Hd (Blk wx Q 26 #[.int .i64 k, .string s0, .string s1, .string s2, .string s3, .int .i64 ck, .int .i64 cv, .slice AO nO cO, .int .i64 v6, .int .i64 0, .int .i64 0]) ∧ Hd (stOk (oN h7) st6 v6) ∧ Hd (RdR wx x g l (stS (oN h7) st6)) ∧ Hd (Blk wx b 78 #[.bool h1, .bool h2, .bool h3, .bool h4, .bool h5, .bool h6, .bool h7, .bool h8, .bool h9]) ∧ Hd (Blk wx w.heap.size 26 #[.int .i64 0, .string ⟨#[]⟩, .string ⟨#[]⟩, .string ⟨#[]⟩, .string ⟨#[]⟩, .int .i64 0, .int .i64 0, .slice none 0 0, .int .i64 0, .int .i64 0, .int .i64 0]) ∧ Hd (Below w.heap.size w wx) ∧ Hd (Row wx (From w.heap.size) 43 5 AO nO cO (opsE LO)))
  case first =>
    cases h7 with
    | false =>
      go_wp2_with fail
      go_meet
      exact ⟨0, HQ, hd (st_skipN _).2, hd (by rw [← (st_skipN _).1]; exact HR.o), HH, HZ, HB, HROW⟩
    | true =>
      go_wp2_with fail
      refine (HR.o.num hl).mono ?_
      rintro e u ⟨v6, rfl, hv, hr, hc⟩
      have hqa := HQ.o.chg hc (HR.o.off HQ.o (by decide) (by decide))
      have hza := HZ.o.chg hc (HR.o.off HZ.o (by decide) (by decide))
      have hha := HH.o.chg hc (HR.o.off HH.o (by decide) (by decide))
      have hba := HB.o.trans (below_two hc hxw hgw HB.o.size)
      have hrw := HR.o.rowk HROW.o (by decide) (by decide) hc
      have z8 := hqa.at_ 8 rfl
      have f8 := hqa.frozen 8
      have hlq := hqa.lt
      have KQ := hd (show Blk (u.setCell ⟨Q, 8, none⟩ (.int .i64 v6)) Q 26 #[.int .i64 k, .string s0, .string s1, .string s2, .string s3, .int .i64 ck, .int .i64 cv, .slice AO nO cO, .int .i64 v6, .int .i64 0, .int .i64 0] from (hqa.set_ 8 _))
      have KV := hd hv.2.2
      have KR := hd (show RdR (u.setCell ⟨Q, 8, none⟩ (.int .i64 v6)) x g l (stS (oN true) st6) from (hr).far hqa (by decide) (by decide) (by decide) _)
      have KH := hd (show Blk (u.setCell ⟨Q, 8, none⟩ (.int .i64 v6)) b 78 _ from (hha.far (p := ⟨Q, 8, none⟩) (hha.ne_ hqa (by decide)) _))
      have KZ := hd (show Blk (u.setCell ⟨Q, 8, none⟩ (.int .i64 v6)) w.heap.size 26 _ from (hza.far (p := ⟨Q, 8, none⟩) (show w.heap.size ≠ Q by omega) _))
      have KB := hd (show Below w.heap.size w (u.setCell ⟨Q, 8, none⟩ (.int .i64 v6)) from (hba.setCell (p := ⟨Q, 8, none⟩) (Nat.le_of_lt hQw) _))
      have KW := hd (show Row (u.setCell ⟨Q, 8, none⟩ (.int .i64 v6)) (From w.heap.size) 43 5 AO nO cO (opsE LO) from (hrw.far (p := ⟨Q, 8, none⟩) (fun a ha => hrw.ne_blk hqa (by decide) a ha) _))
      skip
      clear hv hr hc hqa hza hha hba hrw
      go_wp2_with fail
      go_meet
      exact ⟨v6, KQ, KV, KR, KH, KZ, KB, KW⟩
  case rest =>
  clear HR HH HZ HQ HB e0 el xc HROW
  obtain ⟨v6, HQ, HV6, HR, HH, HZ, HB, HROW⟩ := hcut
  obtain ⟨st7, hst⟩ : ∃ s, stS (oN h7) st6 = s := ⟨_, rfl⟩
  rw [hst] at HR
  have HS7 := hd hst
  clear hst
  have e0 := HH.o.at_ 7 rfl
  have el := HH.o.lt
  go_upto_if 61 with (fail)
  skip
  go_cut [] from 62 to 64 (fun wx => ∃ (v7 : Int), Hd (Blk wx Q 26 #[.int .i64 k, .string s0, .string s1, .string s2, .string s3, .int .i64 ck, .int .i64 cv, .slice AO nO cO, .int .i64 v6, .int .i64 v7, .int .i64 0]) ∧ Hd (stOk (oS h8) st7 v7) ∧ Hd (RdR wx x g l (stS (oS h8) st7)) ∧ Hd (Blk wx b 78 #[.bool h1, .bool h2, .bool h3, .bool h4, .bool h5, .bool h6, .bool h7, .bool h8, .bool h9]) ∧ Hd (Blk wx w.heap.size 26 #[.int .i64 0, .string ⟨#[]⟩, .string ⟨#[]⟩, .string ⟨#[]⟩, .string ⟨#[]⟩, .int .i64 0, .int .i64 0, .slice none 0 0, .int .i64 0, .int .i64 0, .int .i64 0]) ∧ Hd (Below w.heap.size w wx) ∧ Hd (Row wx (From w.heap.size) 43 5 AO nO cO (opsE LO)))
  case first =>
    cases h8 with
    | false =>
      go_wp2_with fail
      go_meet
      exact ⟨0, HQ, hd (st_skipS _).2, hd (by rw [← (st_skipS _).1]; exact HR.o), HH, HZ, HB, HROW⟩
    | true =>
      go_wp2_with fail
      refine (rnum_calls wc x g l _ HR.o hl).mono ?_
      rintro e u ⟨v7, rfl, hv, hr, hc⟩
      have hqa := HQ.o.chg hc (HR.o.off HQ.o (by decide) (by decide))
      have hza := HZ.o.chg hc (HR.o.off HZ.o (by decide) (by decide))
      have hha := HH.o.chg hc (HR.o.off HH.o (by decide) (by decide))
      have hba := HB.o.trans (below_two hc hxw hgw HB.o.size)
      have hrw := HR.o.rowk HROW.o (by decide) (by decide) hc
      have z9 := hqa.at_ 9 rfl
      have f9 := hqa.frozen 9
      have hlq := hqa.lt
      have KQ := hd (show Blk (u.setCell ⟨Q, 9, none⟩ (.int .i64 v7)) Q 26 #[.int .i64 k, .string s0, .string s1, .string s2, .string s3, .int .i64 ck, .int .i64 cv, .slice AO nO cO, .int .i64 v6, .int .i64 v7, .int .i64 0] from (hqa.set_ 9 _))
      have KV := hd hv.2
      have KR := hd (show RdR (u.setCell ⟨Q, 9, none⟩ (.int .i64 v7)) x g l (stS (oS true) st7) from (hr).far hqa (by decide) (by decide) (by decide) _)
      have KH := hd (show Blk (u.setCell ⟨Q, 9, none⟩ (.int .i64 v7)) b 78 _ from (hha.far (p := ⟨Q, 9, none⟩) (hha.ne_ hqa (by decide)) _))
      have KZ := hd (show Blk (u.setCell ⟨Q, 9, none⟩ (.int .i64 v7)) w.heap.size 26 _ from (hza.far (p := ⟨Q, 9, none⟩) (show w.heap.size ≠ Q by omega) _))
      have KB := hd (show Below w.heap.size w (u.setCell ⟨Q, 9, none⟩ (.int .i64 v7)) from (hba.setCell (p := ⟨Q, 9, none⟩) (Nat.le_of_lt hQw) _))
      have KW := hd (show Row (u.setCell ⟨Q, 9, none⟩ (.int .i64 v7)) (From w.heap.size) 43 5 AO nO cO (opsE LO) from (hrw.far (p := ⟨Q, 9, none⟩) (fun a ha => hrw.ne_blk hqa (by decide) a ha) _))
      skip
      clear hv hr hc hqa hza hha hba hrw
      go_wp2_with fail
      go_meet
      exact ⟨v7, KQ, KV, KR, KH, KZ, KB, KW⟩
  case rest =>
  clear HR HH HZ HQ HB e0 el HROW
  obtain ⟨v7, HQ, HV7, HR, HH, HZ, HB, HROW⟩ := hcut
  obtain ⟨st8, hst⟩ : ∃ s, stS (oS h8) st7 = s := ⟨_, rfl⟩
  rw [hst] at HR
  have HS8 := hd hst
  clear hst
  have e0 := HH.o.at_ 8 rfl
  have el := HH.o.lt
  go_upto_if 66 with (fail)
  skip
  go_cut [] from 67 to 69 (fun wx => ∃ (v8 : Int), Hd (Blk wx Q 26 #[.int .i64 k, .string s0, .string s1, .string s2, .string s3, .int .i64 ck, .int .i64 cv, .slice AO nO cO, .int .i64 v6, .int .i64 v7, .int .i64 v8]) ∧ Hd (stOk (oS h9) st8 v8) ∧ Hd (RdR wx x g l (stS (oS h9) st8)) ∧ Hd (Blk wx b 78 #[.bool h1, .bool h2, .bool h3, .bool h4, .bool h5, .bool h6, .bool h7, .bool h8, .bool h9]) ∧ Hd (Blk wx w.heap.size 26 #[.int .i64 0, .string ⟨#[]⟩, .string ⟨#[]⟩, .string ⟨#[]⟩, .string ⟨#[]⟩, .int .i64 0, .int .i64 0, .slice none 0 0, .int .i64 0, .int .i64 0, .int .i64 0]) ∧ Hd (Below w.heap.size w wx) ∧ Hd (Row wx (From w.heap.size) 43 5 AO nO cO (opsE LO)))
  case first =>
    cases h9 with
    | false =>
      go_wp2_with fail
      go_meet
      exact ⟨0, HQ, hd (st_skipS _).2, hd (by rw [← (st_skipS _).1]; exact HR.o), HH, HZ, HB, HROW⟩
    | true =>
      go_wp2_with fail
      refine (rnum_calls wc x g l _ HR.o hl).mono ?_
      rintro e u ⟨v8, rfl, hv, hr, hc⟩
      have hqa := HQ.o.chg hc (HR.o.off HQ.o (by decide) (by decide))
      have hza := HZ.o.chg hc (HR.o.off HZ.o (by decide) (by decide))
      have hha := HH.o.chg hc (HR.o.off HH.o (by decide) (by decide))
      have hba := HB.o.trans (below_two hc hxw hgw HB.o.size)
      have hrw := HR.o.rowk HROW.o (by decide) (by decide) hc
      have z10 := hqa.at_ 10 rfl
      have f10 := hqa.frozen 10
      have hlq := hqa.lt
      have KQ := hd (show Blk (u.setCell ⟨Q, 10, none⟩ (.int .i64 v8)) Q 26 #[.int .i64 k, .string s0, .string s1, .string s2, .string s3, .int .i64 ck, .int .i64 cv, .slice AO nO cO, .int .i64 v6, .int .i64 v7, .int .i64 v8] from (hqa.set_ 10 _))
      have KV := hd hv.2
      have KR := hd (show RdR (u.setCell ⟨Q, 10, none⟩ (.int .i64 v8)) x g l (stS (oS true) st8) from (hr).far hqa (by decide) (by decide) (by decide) _)
      have KH := hd (show Blk (u.setCell ⟨Q, 10, none⟩ (.int .i64 v8)) b 78 _ from (hha.far (p := ⟨Q, 10, none⟩) (hha.ne_ hqa (by decide)) _))
      have KZ := hd (show Blk (u.setCell ⟨Q, 10, none⟩ (.int .i64 v8)) w.heap.size 26 _ from (hza.far (p := ⟨Q, 10, none⟩) (show w.heap.size ≠ Q by omega) _))
      have KB := hd (show Below w.heap.size w (u.setCell ⟨Q, 10, none⟩ (.int .i64 v8)) from (hba.setCell (p := ⟨Q, 10, none⟩) (Nat.le_of_lt hQw) _))
      have KW := hd (show Row (u.setCell ⟨Q, 10, none⟩ (.int .i64 v8)) (From w.heap.size) 43 5 AO nO cO (opsE LO) from (hrw.far (p := ⟨Q, 10, none⟩) (fun a ha => hrw.ne_blk hqa (by decide) a ha) _))
      skip
      clear hv hr hc hqa hza hha hba hrw
      go_wp2_with fail
      go_meet
      exact ⟨v8, KQ, KV, KR, KH, KZ, KB, KW⟩
  case rest =>
  clear HR HH HZ HQ HB e0 el HROW
  obtain ⟨v8, HQ, HV8, HR, HH, HZ, HB, HROW⟩ := hcut
  obtain ⟨st9, hst⟩ : ∃ s, stS (oS h9) st8 = s := ⟨_, rfl⟩
  rw [hst] at HR
  have HS9 := hd hst
  clear hst
  go_upto_region 24 with (fail)
  have HRAW := hd (show RawIs k l st9 ⟨k, s0.data.toList, s1.data.toList, s2.data.toList, s3.data.toList, ck, cv, LO, v6, v7, v8⟩ from raw_chain (k := k) (l := l) (cc := (ck, cv)) (s1 := st1) (s2 := st2) (s3 := st3) (s4 := st4) (s5 := st5) (s6 := st6) (s7 := st7) (s8 := st8) (s9 := st9) (by rw [HE1.o]; exact HS1.o.symm) (by rw [HE1.o]; exact HV0.o.2) (by rw [HE2.o]; exact HS2.o.symm) (by rw [HE2.o]; exact HV1.o.2) (by rw [HE3.o]; exact HS3.o.symm) (by rw [HE3.o]; exact HV2.o.2) (by rw [HE4.o]; exact HS4.o.symm) (by rw [HE4.o]; exact HV3.o.2) (by rw [HE5.o]; exact HS5.o.symm) (by rw [HE5.o]; exact HV4.o) (by rw [HE6.o]; exact HS6.o.symm) (by rw [HE6.o]; exact HV5.o) (by rw [HE7.o]; exact HS7.o.symm) (by rw [HE7.o]; exact HV6.o) (by rw [HE8.o]; exact HS8.o.symm) (by rw [HE8.o]; exact HV7.o) (by rw [HE9.o]; exact HS9.o.symm) (by rw [HE9.o]; exact HV8.o))
  have HSZ := hd (show RqS ⟨k, s0.data.toList, s1.data.toList, s2.data.toList, s3.data.toList, ck, cv, LO, v6, v7, v8⟩ from ⟨by have := HV0.o.1; rw [ba_size] at this; exact Nat.le_trans this (by decide), by have := HV1.o.1; rw [ba_size] at this; exact Nat.le_trans this (by decide), by have := HV2.o.1; rw [ba_size] at this; exact Nat.le_trans this (by decide), by have := HV3.o.1; rw [ba_size] at this; exact Nat.le_trans this (by decide), by have := HLEN.o; have := H16.o; show LO.length ≤ _; omega, fun o ho => by have := HOB.o o ho; exact ⟨Nat.le_trans this.1 (by decide), Nat.le_trans this.2.1 (by decide)⟩⟩)
  obtain ⟨bad, st', hbx, hps, hss⟩ := HR.o.o
  have x1 := hbx.at_ 1 rfl
  have x0 := hbx.at_ 0 rfl
  have lx := hbx.lt
  have HPS := hd hps
  have hzz := HZ.o.lt
  have z0 := HZ.o.at_ 0 rfl
  have z1 := HZ.o.at_ 1 rfl
  have z2 := HZ.o.at_ 2 rfl
  have z3 := HZ.o.at_ 3 rfl
  have z4 := HZ.o.at_ 4 rfl
  have z5 := HZ.o.at_ 5 rfl
  have z6 := HZ.o.at_ 6 rfl
  have z7 := HZ.o.at_ 7 rfl
  have z8 := HZ.o.at_ 8 rfl
  have z9 := HZ.o.at_ 9 rfl
  have z10 := HZ.o.at_ 10 rfl
  have f0 := HZ.o.frozen 0
  have f1 := HZ.o.frozen 1
  have f2 := HZ.o.frozen 2
  have f3 := HZ.o.frozen 3
  have f4 := HZ.o.frozen 4
  have f5 := HZ.o.frozen 5
  have f6 := HZ.o.frozen 6
  have f7 := HZ.o.frozen 7
  have f8 := HZ.o.frozen 8
  have f9 := HZ.o.frozen 9
  have f10 := HZ.o.frozen 10
  cases bad with
  | true =>
    have HV := hd (show decQ k l = (rq0, 1) from dec_dead HKK.o (by
      have h := HRAW.o
      rcases hss with ⟨h1, _⟩ | ⟨_, h2⟩
      · cases h1
      · rw [h2] at h; exact h))
    clear hbx hps hss
    go_wp2_with fail
    (try simp only [Exit.inBlock, Exit.then])
    rw [HQQ.o]
    refine bodyPost_ret (res_dec rfl (set11 HZ.o)) rfl ?_
    exact ⟨⟨none, 0, rfl.trans (decEq HV.o).symm, by rw [HV.o]; exact Row.nil _ _ _ _, bel11 HB.o⟩⟩
  | false =>
    have HST := hd (show st' = st9 by rcases hss with ⟨_, h2⟩ | ⟨h1, _⟩; exact h2; cases h1)
    clear hbx hss
    go_wp2_with fail
    refine (perr_calls wc g l st' HPS.o).mono ?_
    rintro e w9 ⟨er, rfl, her, rfl⟩
    by_cases he0 : er = 0
    case neg =>
      have hed : (er != 0) = true := by simpa using he0
      have HV := hd (show decQ k l = (rq0, 1) from dec_dead HKK.o (by
        have h := HRAW.o
        rw [← HST.o] at h
        cases hq : st' with
        | none => rw [hq] at h; exact h
        | some q => exact absurd (her.2 (by rw [hq]; simp)) he0))
      clear her he0 hps
      go_wp2_with fail
      (try simp only [Exit.inBlock, Exit.then])
      rw [HQQ.o]
      refine bodyPost_ret (res_dec rfl (set11 HZ.o)) rfl ?_
      exact ⟨⟨none, 0, rfl.trans (decEq HV.o).symm, by rw [HV.o]; exact Row.nil _ _ _ _, bel11 HB.o⟩⟩
    case pos =>
    obtain ⟨r, hr⟩ : ∃ r, st' = some r := by
      cases hq : st' with
      | none => exact absurd hq (her.1 he0)
      | some r => exact ⟨r, rfl⟩
    subst hr
    subst he0
    have HRW := hd (show RawIs k l (some r) ⟨k, s0.data.toList, s1.data.toList, s2.data.toList, s3.data.toList, ck, cv, LO, v6, v7, v8⟩ from HST.o ▸ HRAW.o)
    have HRL := hd (show r.length ≤ l.length by
      obtain ⟨_, n1, _, k1, e1, _, _, h1, h2, h3⟩ := HPS.o.o
      rcases h3 with ⟨_, h3⟩ | ⟨_, h3⟩
      · injection h3 with h3; rw [h3, List.length_drop]; omega
      · cases h3)
    clear her hps
    obtain ⟨rl, hrl⟩ : ∃ rl, r.length = rl := ⟨_, rfl⟩
    have PL := pleft_calls wc g l r HPS.o hl
    rw [hrl] at PL HRL
    replace PL := hd PL
    have HRLN := hd hrl
    clear hrl
    go_wp2_with fail
    refine PL.o.mono ?_
    rintro e w10 ⟨rfl, hb10⟩
    have HZ10 := hd (HZ.o.below hb10 hzz)
    have HQ10 := hd (HQ.o.below hb10 HQ.o.lt)
    have HB10 := hd (HB.o.trans (hb10.mono HB.o.size))
    have HROW10 := hd (HROW.o.below hb10)
    clear hb10 z0 z1 z2 z3 z4 z5 z6 z7 z8 z9 z10 f0 f1 f2 f3 f4 f5 f6 f7 f8 f9 f10 hzz x0 x1 lx
    have z0 := HZ10.o.at_ 0 rfl
    have z1 := HZ10.o.at_ 1 rfl
    have z2 := HZ10.o.at_ 2 rfl
    have z3 := HZ10.o.at_ 3 rfl
    have z4 := HZ10.o.at_ 4 rfl
    have z5 := HZ10.o.at_ 5 rfl
    have z6 := HZ10.o.at_ 6 rfl
    have z7 := HZ10.o.at_ 7 rfl
    have z8 := HZ10.o.at_ 8 rfl
    have z9 := HZ10.o.at_ 9 rfl
    have z10 := HZ10.o.at_ 10 rfl
    have f0 := HZ10.o.frozen 0
    have f1 := HZ10.o.frozen 1
    have f2 := HZ10.o.frozen 2
    have f3 := HZ10.o.frozen 3
    have f4 := HZ10.o.frozen 4
    have f5 := HZ10.o.frozen 5
    have f6 := HZ10.o.frozen 6
    have f7 := HZ10.o.frozen 7
    have f8 := HZ10.o.frozen 8
    have f9 := HZ10.o.frozen 9
    have f10 := HZ10.o.frozen 10
    have y0 := HQ10.o.at_ 0 rfl
    have y1 := HQ10.o.at_ 1 rfl
    have y2 := HQ10.o.at_ 2 rfl
    have y3 := HQ10.o.at_ 3 rfl
    have y4 := HQ10.o.at_ 4 rfl
    have y5 := HQ10.o.at_ 5 rfl
    have y6 := HQ10.o.at_ 6 rfl
    have y7 := HQ10.o.at_ 7 rfl
    have y8 := HQ10.o.at_ 8 rfl
    have y9 := HQ10.o.at_ 9 rfl
    have y10 := HQ10.o.at_ 10 rfl
    have hzz := HZ10.o.lt
    have lq := HQ10.o.lt
    by_cases hr0 : rl = 0
    case neg =>
      have hrp : 0 < rl := by omega
      have hrd : decide ((0 : Int) < (rl : Int)) = true := by simp; omega
      have HV := hd (dec_left HKK.o HRW.o (fun e => by have := HRLN.o; rw [e] at this; exact hr0 this.symm))
      clear hr0
      go_wp2_with fail
      (try simp only [Exit.inBlock, Exit.then])
      rw [HQQ.o]
      refine bodyPost_ret (res_dec rfl (set11 HZ10.o)) rfl ?_
      exact ⟨⟨none, 0, rfl.trans (decEq HV.o).symm, by rw [HV.o]; exact Row.nil _ _ _ _, bel11 HB10.o⟩⟩
    case pos =>
    subst hr0
    obtain rfl : r = [] := List.eq_nil_of_length_eq_zero HRLN.o
    have HV := hd (dec_all HKK.o HRW.o)
    have CK := check_calls ⟨k, s0.data.toList, s1.data.toList, s2.data.toList, s3.data.toList, ck, cv, LO, v6, v7, v8⟩ AO cO w10 (HTB.o _ HB10.o) (by rw [← HLEN.o]; exact HROW10.o.rds) HSZ.o
    unfold reqV reqE at CK
    simp only [bs_self] at CK
    rw [← HLEN.o] at CK
    replace CK := hd CK
    go_wp2_with fail
    refine CK.o.mono ?_
    rintro e w11 ⟨rfl, hb11⟩
    have HZ11 := hd (HZ10.o.below hb11 hzz)
    have HQ11 := hd (HQ10.o.below hb11 lq)
    have HB11 := hd (HB10.o.trans (hb11.mono HB10.o.size))
    have HROW11 := hd (HROW10.o.below hb11)
    clear hb11 z0 z1 z2 z3 z4 z5 z6 z7 z8 z9 z10 f0 f1 f2 f3 f4 f5 f6 f7 f8 f9 f10 y0 y1 y2 y3 y4 y5 y6 y7 y8 y9 y10 hzz lq CK
    have z0 := HZ11.o.at_ 0 rfl
    have z1 := HZ11.o.at_ 1 rfl
    have z2 := HZ11.o.at_ 2 rfl
    have z3 := HZ11.o.at_ 3 rfl
    have z4 := HZ11.o.at_ 4 rfl
    have z5 := HZ11.o.at_ 5 rfl
    have z6 := HZ11.o.at_ 6 rfl
    have z7 := HZ11.o.at_ 7 rfl
    have z8 := HZ11.o.at_ 8 rfl
    have z9 := HZ11.o.at_ 9 rfl
    have z10 := HZ11.o.at_ 10 rfl
    have f0 := HZ11.o.frozen 0
    have f1 := HZ11.o.frozen 1
    have f2 := HZ11.o.frozen 2
    have f3 := HZ11.o.frozen 3
    have f4 := HZ11.o.frozen 4
    have f5 := HZ11.o.frozen 5
    have f6 := HZ11.o.frozen 6
    have f7 := HZ11.o.frozen 7
    have f8 := HZ11.o.frozen 8
    have f9 := HZ11.o.frozen 9
    have f10 := HZ11.o.frozen 10
    have y0 := HQ11.o.at_ 0 rfl
    have y1 := HQ11.o.at_ 1 rfl
    have y2 := HQ11.o.at_ 2 rfl
    have y3 := HQ11.o.at_ 3 rfl
    have y4 := HQ11.o.at_ 4 rfl
    have y5 := HQ11.o.at_ 5 rfl
    have y6 := HQ11.o.at_ 6 rfl
    have y7 := HQ11.o.at_ 7 rfl
    have y8 := HQ11.o.at_ 8 rfl
    have y9 := HQ11.o.at_ 9 rfl
    have y10 := HQ11.o.at_ 10 rfl
    have hzz := HZ11.o.lt
    have lq := HQ11.o.lt
    by_cases h0 : chk ⟨k, s0.data.toList, s1.data.toList, s2.data.toList, s3.data.toList, ck, cv, LO, v6, v7, v8⟩ = 0
    · have HVY := hd (show decQ k l = (⟨k, s0.data.toList, s1.data.toList, s2.data.toList, s3.data.toList, ck, cv, LO, v6, v7, v8⟩, 0) by rw [HV.o, if_pos h0])
      have h0b : (chk ⟨k, s0.data.toList, s1.data.toList, s2.data.toList, s3.data.toList, ck, cv, LO, v6, v7, v8⟩ != 0) = false := by simpa using h0
      have H0 := hd h0
      clear h0
      go_wp2_with fail
      (try simp only [Exit.inBlock, Exit.then])
      rw [HQQ.o]
      refine bodyPost_ret (res_dec rfl (set11 HZ11.o)) rfl ?_
      exact ⟨⟨AO, cO, (decOk HVY.o HLEN.o (by first | (simp only [bs_self]; done) | (simp only [bs_self]; rfl))), by rw [HVY.o]; exact (by have h := HROW11.o; rw [HLEN.o] at h; exact (((((((((((h).far (fun a ha => h.ne_blk HZ11.o (by decide) a ha) _).far (fun a ha => h.ne_blk HZ11.o (by decide) a ha) _).far (fun a ha => h.ne_blk HZ11.o (by decide) a ha) _).far (fun a ha => h.ne_blk HZ11.o (by decide) a ha) _).far (fun a ha => h.ne_blk HZ11.o (by decide) a ha) _).far (fun a ha => h.ne_blk HZ11.o (by decide) a ha) _).far (fun a ha => h.ne_blk HZ11.o (by decide) a ha) _).far (fun a ha => h.ne_blk HZ11.o (by decide) a ha) _).far (fun a ha => h.ne_blk HZ11.o (by decide) a ha) _).far (fun a ha => h.ne_blk HZ11.o (by decide) a ha) _).far (fun a ha => h.ne_blk HZ11.o (by decide) a ha) _), bel11 HB11.o⟩⟩
    · have HVN := hd (show decQ k l = (rq0, chk ⟨k, s0.data.toList, s1.data.toList, s2.data.toList, s3.data.toList, ck, cv, LO, v6, v7, v8⟩) by rw [HV.o, if_neg h0])
      have h0b : (chk ⟨k, s0.data.toList, s1.data.toList, s2.data.toList, s3.data.toList, ck, cv, LO, v6, v7, v8⟩ != 0) = true := by simpa using h0
      have H0 := hd h0
      clear h0
      go_wp2_with fail
      (try simp only [Exit.inBlock, Exit.then])
      rw [HQQ.o]
      refine bodyPost_ret (res_dec rfl (set11 HZ11.o)) rfl ?_
      exact ⟨⟨none, 0, rfl.trans (decEq HVN.o).symm, by rw [HVN.o]; exact Row.nil _ _ _ _, bel11 HB11.o⟩⟩

set_option maxRecDepth 100000 in
set_option maxHeartbeats 4000000 in
theorem dec_calls (k : Int) (w : World) (A : Option Addr) (n c : Nat) (l : List UInt8) (hnl : n = l.length) (hr : Rds w A n 1 (u8E l)) (hn : n ≤ 1000000) (ht : Tbs w) :
    Calls Tryz.prog 17 #[.int .i64 k, .slice A n c] w fun e w' => DecR w k l e w' := by
  cases hk : isK k with
  | true => exact dec_in k hk w A n c l hnl hr hn ht
  | false =>
    have C0 := fun W => isk_calls k W
    rw [hk] at C0
    have HV := hd (dec_isk (l := l) hk)
    replace C0 := hd C0
    obtain ⟨w0, hw0⟩ : ∃ w0, w0 = w.alloc (.cells #[.int .i64 0, .string ⟨#[]⟩, .string ⟨#[]⟩, .string ⟨#[]⟩, .string ⟨#[]⟩, .int .i64 0, .int .i64 0, .slice none 0 0, .int .i64 0, .int .i64 0, .int .i64 0] 26) := ⟨_, rfl⟩
    have HZ0 := hd (show Blk w0 w.heap.size 26 #[.int .i64 0, .string ⟨#[]⟩, .string ⟨#[]⟩, .string ⟨#[]⟩, .string ⟨#[]⟩, .int .i64 0, .int .i64 0, .slice none 0 0, .int .i64 0, .int .i64 0, .int .i64 0] by rw [hw0]; exact Blk.new _ _ _)
    have HB0 := hd (show Below w.heap.size w w0 by rw [hw0]; exact (Below.refl _ w).alloc (Nat.le_refl _) _)
    have hz0 := HZ0.o.lt
    have z0 := HZ0.o.at_ 0 rfl
    have z1 := HZ0.o.at_ 1 rfl
    have z2 := HZ0.o.at_ 2 rfl
    have z3 := HZ0.o.at_ 3 rfl
    have z4 := HZ0.o.at_ 4 rfl
    have z5 := HZ0.o.at_ 5 rfl
    have z6 := HZ0.o.at_ 6 rfl
    have z7 := HZ0.o.at_ 7 rfl
    have z8 := HZ0.o.at_ 8 rfl
    have z9 := HZ0.o.at_ 9 rfl
    have z10 := HZ0.o.at_ 10 rfl
    have f0 := HZ0.o.frozen 0
    have f1 := HZ0.o.frozen 1
    have f2 := HZ0.o.frozen 2
    have f3 := HZ0.o.frozen 3
    have f4 := HZ0.o.frozen 4
    have f5 := HZ0.o.frozen 5
    have f6 := HZ0.o.frozen 6
    have f7 := HZ0.o.frozen 7
    have f8 := HZ0.o.frozen 8
    have f9 := HZ0.o.frozen 9
    have f10 := HZ0.o.frozen 10
    have HW0 := hd hw0
    clear hnl hr ht hw0 hk
    go_enter Tryz.func17, Tryz.ntmps17
    go_upto_region 1 with (fail)
    rw [← HW0.o]
    go_wp2_with (go_at_call 51; refine (C0.o _).mono ?_; rintro e w' ⟨rfl, rfl⟩)
    (try simp only [Exit.inBlock, Exit.then])
    refine bodyPost_ret (res_dec rfl (set11 HZ0.o)) rfl ?_
    exact ⟨⟨none, 0, rfl.trans (decEq HV.o).symm, by rw [HV.o]; exact Row.nil _ _ _ _, bel11 HB0.o⟩⟩

end Go.Proofs.YtogjokofmfpmgaaGreatDoor
namespace Go.Proofs.YtogjokofmfpmgaaGreatDoor
open Go.RowKit

theorem bs_ne (l : List UInt8) : (!(bs l).toList.isEmpty) = decide (l ≠ []) := by
  rw [bs_toL]
  cases l <;> simp
theorem setq {w : World} {g : Nat} {t : TypeId} {c0 c1 c2 c3 c4 c5 c6 c7 c8 c9 c10 c11 c12 c13 c14 u0 u1 u2 u3 u4 u5 u6 u7 u8 u9 u10 : Value} (h : Blk w g t #[c0, c1, c2, c3, c4, c5, c6, c7, c8, c9, c10, c11, c12, c13, c14]) : Blk (((((((((((w.setCell ⟨g, 3, none⟩ u0).setCell ⟨g, 4, none⟩ u1).setCell ⟨g, 5, none⟩ u2).setCell ⟨g, 6, none⟩ u3).setCell ⟨g, 7, none⟩ u4).setCell ⟨g, 8, none⟩ u5).setCell ⟨g, 9, none⟩ u6).setCell ⟨g, 10, none⟩ u7).setCell ⟨g, 11, none⟩ u8).setCell ⟨g, 12, none⟩ u9).setCell ⟨g, 13, none⟩ u10) g t #[c0, c1, c2, u0, u1, u2, u3, u4, u5, u6, u7, u8, u9, u10, c14] := by
  have h0 : Blk (w.setCell ⟨g, 3, none⟩ u0) g t #[c0, c1, c2, u0, c4, c5, c6, c7, c8, c9, c10, c11, c12, c13, c14] := by simpa using h.set_ 3 u0
  have h1 : Blk ((w.setCell ⟨g, 3, none⟩ u0).setCell ⟨g, 4, none⟩ u1) g t #[c0, c1, c2, u0, u1, c5, c6, c7, c8, c9, c10, c11, c12, c13, c14] := by simpa using h0.set_ 4 u1
  have h2 : Blk (((w.setCell ⟨g, 3, none⟩ u0).setCell ⟨g, 4, none⟩ u1).setCell ⟨g, 5, none⟩ u2) g t #[c0, c1, c2, u0, u1, u2, c6, c7, c8, c9, c10, c11, c12, c13, c14] := by simpa using h1.set_ 5 u2
  have h3 : Blk ((((w.setCell ⟨g, 3, none⟩ u0).setCell ⟨g, 4, none⟩ u1).setCell ⟨g, 5, none⟩ u2).setCell ⟨g, 6, none⟩ u3) g t #[c0, c1, c2, u0, u1, u2, u3, c7, c8, c9, c10, c11, c12, c13, c14] := by simpa using h2.set_ 6 u3
  have h4 : Blk (((((w.setCell ⟨g, 3, none⟩ u0).setCell ⟨g, 4, none⟩ u1).setCell ⟨g, 5, none⟩ u2).setCell ⟨g, 6, none⟩ u3).setCell ⟨g, 7, none⟩ u4) g t #[c0, c1, c2, u0, u1, u2, u3, u4, c8, c9, c10, c11, c12, c13, c14] := by simpa using h3.set_ 7 u4
  have h5 : Blk ((((((w.setCell ⟨g, 3, none⟩ u0).setCell ⟨g, 4, none⟩ u1).setCell ⟨g, 5, none⟩ u2).setCell ⟨g, 6, none⟩ u3).setCell ⟨g, 7, none⟩ u4).setCell ⟨g, 8, none⟩ u5) g t #[c0, c1, c2, u0, u1, u2, u3, u4, u5, c9, c10, c11, c12, c13, c14] := by simpa using h4.set_ 8 u5
  have h6 : Blk (((((((w.setCell ⟨g, 3, none⟩ u0).setCell ⟨g, 4, none⟩ u1).setCell ⟨g, 5, none⟩ u2).setCell ⟨g, 6, none⟩ u3).setCell ⟨g, 7, none⟩ u4).setCell ⟨g, 8, none⟩ u5).setCell ⟨g, 9, none⟩ u6) g t #[c0, c1, c2, u0, u1, u2, u3, u4, u5, u6, c10, c11, c12, c13, c14] := by simpa using h5.set_ 9 u6
  have h7 : Blk ((((((((w.setCell ⟨g, 3, none⟩ u0).setCell ⟨g, 4, none⟩ u1).setCell ⟨g, 5, none⟩ u2).setCell ⟨g, 6, none⟩ u3).setCell ⟨g, 7, none⟩ u4).setCell ⟨g, 8, none⟩ u5).setCell ⟨g, 9, none⟩ u6).setCell ⟨g, 10, none⟩ u7) g t #[c0, c1, c2, u0, u1, u2, u3, u4, u5, u6, u7, c11, c12, c13, c14] := by simpa using h6.set_ 10 u7
  have h8 : Blk (((((((((w.setCell ⟨g, 3, none⟩ u0).setCell ⟨g, 4, none⟩ u1).setCell ⟨g, 5, none⟩ u2).setCell ⟨g, 6, none⟩ u3).setCell ⟨g, 7, none⟩ u4).setCell ⟨g, 8, none⟩ u5).setCell ⟨g, 9, none⟩ u6).setCell ⟨g, 10, none⟩ u7).setCell ⟨g, 11, none⟩ u8) g t #[c0, c1, c2, u0, u1, u2, u3, u4, u5, u6, u7, u8, c12, c13, c14] := by simpa using h7.set_ 11 u8
  have h9 : Blk ((((((((((w.setCell ⟨g, 3, none⟩ u0).setCell ⟨g, 4, none⟩ u1).setCell ⟨g, 5, none⟩ u2).setCell ⟨g, 6, none⟩ u3).setCell ⟨g, 7, none⟩ u4).setCell ⟨g, 8, none⟩ u5).setCell ⟨g, 9, none⟩ u6).setCell ⟨g, 10, none⟩ u7).setCell ⟨g, 11, none⟩ u8).setCell ⟨g, 12, none⟩ u9) g t #[c0, c1, c2, u0, u1, u2, u3, u4, u5, u6, u7, u8, u9, c13, c14] := by simpa using h8.set_ 12 u9
  have h10 : Blk (((((((((((w.setCell ⟨g, 3, none⟩ u0).setCell ⟨g, 4, none⟩ u1).setCell ⟨g, 5, none⟩ u2).setCell ⟨g, 6, none⟩ u3).setCell ⟨g, 7, none⟩ u4).setCell ⟨g, 8, none⟩ u5).setCell ⟨g, 9, none⟩ u6).setCell ⟨g, 10, none⟩ u7).setCell ⟨g, 11, none⟩ u8).setCell ⟨g, 12, none⟩ u9).setCell ⟨g, 13, none⟩ u10) g t #[c0, c1, c2, u0, u1, u2, u3, u4, u5, u6, u7, u8, u9, u10, c14] := by simpa using h9.set_ 13 u10
  exact h10
theorem farq {w : World} {g h : Nat} {t : TypeId} {cs : Array Value} {u0 u1 u2 u3 u4 u5 u6 u7 u8 u9 u10 : Value} (k : Blk w h t cs) (hn : h ≠ g) : Blk (((((((((((w.setCell ⟨g, 3, none⟩ u0).setCell ⟨g, 4, none⟩ u1).setCell ⟨g, 5, none⟩ u2).setCell ⟨g, 6, none⟩ u3).setCell ⟨g, 7, none⟩ u4).setCell ⟨g, 8, none⟩ u5).setCell ⟨g, 9, none⟩ u6).setCell ⟨g, 10, none⟩ u7).setCell ⟨g, 11, none⟩ u8).setCell ⟨g, 12, none⟩ u9).setCell ⟨g, 13, none⟩ u10) h t cs := (((((((((((k.far hn _).far hn _).far hn _).far hn _).far hn _).far hn _).far hn _).far hn _).far hn _).far hn _).far hn _)
theorem chgq {S : Nat → Prop} {a w : World} {g : Nat} {u0 u1 u2 u3 u4 u5 u6 u7 u8 u9 u10 : Value} (k : Chg S a w) (hn : S g ∨ a.heap.size ≤ g) : Chg S a (((((((((((w.setCell ⟨g, 3, none⟩ u0).setCell ⟨g, 4, none⟩ u1).setCell ⟨g, 5, none⟩ u2).setCell ⟨g, 6, none⟩ u3).setCell ⟨g, 7, none⟩ u4).setCell ⟨g, 8, none⟩ u5).setCell ⟨g, 9, none⟩ u6).setCell ⟨g, 10, none⟩ u7).setCell ⟨g, 11, none⟩ u8).setCell ⟨g, 12, none⟩ u9).setCell ⟨g, 13, none⟩ u10) := (((((((((((k.setCell hn _).setCell hn _).setCell hn _).setCell hn _).setCell hn _).setCell hn _).setCell hn _).setCell hn _).setCell hn _).setCell hn _).setCell hn _)
/-- What Next hands back. -/
structure NextR (w : World) (g p : Nat) (s : Ss) (e : Ending) (w' : World) : Prop where
  o : ∃ (A : Option Addr) (c : Nat), e = .returned (turnV (nextS s).1 A c) ∧ Row w' (From w.heap.size) 43 5 A (nextS s).1.q.ops.length c (opsE (nextS s).1.q.ops) ∧ SesR w' g p (nextS s).2 ∧ Chg (Two g p) w w'

end Go.Proofs.YtogjokofmfpmgaaGreatDoor
