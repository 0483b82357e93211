/-
  Requests: Decode, some kinds.
-/
import Derived.Test.YtogjokofmfpmgaaGreatDoorGAO
import Derived.Test.YtogjokofmfpmgaaGreatDoorReqI1
import Derived.Test.YtogjokofmfpmgaaGreatDoorReqI2
import Derived.Test.YtogjokofmfpmgaaGreatDoorReqI3
import Derived.Test.YtogjokofmfpmgaaGreatDoorGAJ
set_option linter.unusedVariables false
set_option linter.unusedSimpArgs false
namespace Go.Proofs.YtogjokofmfpmgaaGreatDoor
open Go.RowKit

set_option maxRecDepth 100000 in
set_option maxHeartbeats 16000000 in
theorem dec_9 (w : World) (A : Option Addr) (n c : Nat) (l : List UInt8) (hnl : n = l.length) (hr : Rds w A n 1 (u8E l)) (hn : n ≤ 1000000) (ht : Tbs w) :
    Calls Tryz.prog 17 #[.int .i64 9, .slice A n c] w fun e w' => DecR w 9 l e w' := by
  have C0 := hd (fun W => show Calls Tryz.prog 51 #[.int .i64 9] W fun e w' => e = .returned (.bool true) ∧ W = w' from isk_calls 9 W)
  have C1 := hd (fun W => show Calls Tryz.prog 42 #[.int .i64 9] W fun e w' => e = .returned (.agg #[.bool false, .bool true, .bool false, .bool false, .bool false, .bool false, .bool true, .bool false, .bool true]) ∧ Below W.heap.size W w' from fields_calls 9 (by decide) W)
  have hl : l.length ≤ 1000000 := by omega
  have HN := hd hnl
  have HRD := hd hr
  have HTB := hd (fun W (h : Below w.heap.size w W) => ht.below h)
  obtain ⟨w0, hw0⟩ : ∃ w0, w0 = w.alloc (.cells #[.int .i64 0, .string ⟨#[]⟩, .string ⟨#[]⟩, .string ⟨#[]⟩, .string ⟨#[]⟩, .int .i64 0, .int .i64 0, .slice none 0 0, .int .i64 0, .int .i64 0, .int .i64 0] 26) := ⟨_, rfl⟩
  have HZ0 := hd (show Blk w0 w.heap.size 26 #[.int .i64 0, .string ⟨#[]⟩, .string ⟨#[]⟩, .string ⟨#[]⟩, .string ⟨#[]⟩, .int .i64 0, .int .i64 0, .slice none 0 0, .int .i64 0, .int .i64 0, .int .i64 0] by rw [hw0]; exact Blk.new _ _ _)
  have HB0 := hd (show Below w.heap.size w w0 by rw [hw0]; exact (Below.refl _ w).alloc (Nat.le_refl _) _)
  have hz0 := HZ0.o.lt
  have HW0 := hd hw0
  clear hnl hr ht hw0
  obtain ⟨QQ, hQQ⟩ : ∃ QQ, QQ = bodyPost Tryz.prog Tryz.f17 (fun e w' => DecR w 9 l e w') := ⟨_, rfl⟩
  have HQQ := hd hQQ
  go_enter Tryz.func17, Tryz.ntmps17
  rw [← hQQ]
  clear hQQ
  go_upto_region 1 with (fail)
  rw [← HW0.o]
  go_wp2_with (go_at_call 51; refine (C0.o _).mono ?_; rintro e w' ⟨rfl, rfl⟩)
  refine (C1.o _).mono ?_
  rintro e w1 ⟨rfl, hb1⟩
  have HB1 := hd (HB0.o.trans (hb1.mono HB0.o.size))
  have HZ1 := hd (HZ0.o.below hb1 hz0)
  obtain ⟨w2, hw2⟩ : ∃ w2, w2 = w1.alloc (.cells #[.bool false, .bool true, .bool false, .bool false, .bool false, .bool false, .bool true, .bool false, .bool true] 78) := ⟨_, rfl⟩
  have HH2 := hd (show Blk w2 w1.heap.size 78 #[.bool false, .bool true, .bool false, .bool false, .bool false, .bool false, .bool true, .bool false, .bool true] by rw [hw2]; exact Blk.new _ _ _)
  have HZ2 := hd (show Blk w2 w.heap.size 26 #[.int .i64 0, .string ⟨#[]⟩, .string ⟨#[]⟩, .string ⟨#[]⟩, .string ⟨#[]⟩, .int .i64 0, .int .i64 0, .slice none 0 0, .int .i64 0, .int .i64 0, .int .i64 0] by rw [hw2]; exact HZ1.o.alloc _)
  have HB2 := hd (show Below w.heap.size w w2 by rw [hw2]; exact HB1.o.alloc HB1.o.size _)
  have HW2 := hd hw2
  have h2l := HH2.o.lt
  have hz2 := HZ2.o.lt
  clear hb1 hw2 hz0 C0 C1
  go_upto_region 4 with (fail)
  rw [← HW2.o]
  go_wp2_with fail
  refine (pread_calls w2 A n c l HN.o (HRD.o.below HB2.o) hn).mono ?_
  rintro e w3 ⟨g, rfl, hg, hp3, hb3⟩
  have HH3 := hd (HH2.o.below hb3 h2l)
  have HZ3 := hd (HZ2.o.below hb3 hz2)
  have HB3 := hd (HB2.o.trans (hb3.mono HB2.o.size))
  have HP3 := hd hp3
  have hgw : w.heap.size ≤ g := Nat.le_trans HB2.o.size hg
  obtain ⟨w4, hw4⟩ : ∃ w4, w4 = w3.alloc (.cells #[.pointer (some ⟨g, 0, none⟩), .bool false] 89) := ⟨_, rfl⟩
  have HR4 := hd (show RdR w4 w3.heap.size g l (some l) from ⟨false, some l, by rw [hw4]; exact Blk.new _ _ _, by rw [hw4]; exact HP3.o.alloc _, .inl ⟨rfl, rfl⟩⟩)
  have HH4 := hd (show Blk w4 w1.heap.size 78 #[.bool false, .bool true, .bool false, .bool false, .bool false, .bool false, .bool true, .bool false, .bool true] by rw [hw4]; exact HH3.o.alloc _)
  have HZ4 := hd (show Blk w4 w.heap.size 26 #[.int .i64 0, .string ⟨#[]⟩, .string ⟨#[]⟩, .string ⟨#[]⟩, .string ⟨#[]⟩, .int .i64 0, .int .i64 0, .slice none 0 0, .int .i64 0, .int .i64 0, .int .i64 0] by rw [hw4]; exact HZ3.o.alloc _)
  have HB4 := hd (show Below w.heap.size w w4 by rw [hw4]; exact HB3.o.alloc HB3.o.size _)
  have HW4 := hd hw4
  have hxw : w.heap.size ≤ w3.heap.size := HB3.o.size
  obtain ⟨x, hx⟩ : ∃ x, w3.heap.size = x := ⟨_, rfl⟩
  clear hb3 hp3 hw4 h2l hz2 hg
  go_upto_region 5 with (fail)
  rw [← HW4.o]
  rw [hx] at HR4 hxw
  (try rw [hx])
  clear hx
  obtain ⟨w5, hw5⟩ : ∃ w5, w5 = w4.alloc (.cells #[.int .i64 9, .string ⟨#[]⟩, .string ⟨#[]⟩, .string ⟨#[]⟩, .string ⟨#[]⟩, .int .i64 0, .int .i64 0, .slice none 0 0, .int .i64 0, .int .i64 0, .int .i64 0] 26) := ⟨_, rfl⟩
  obtain ⟨Q, hQ⟩ : ∃ Q, w4.heap.size = Q := ⟨_, rfl⟩
  have hQw : w.heap.size < Q := by rw [← hQ]; exact HZ4.o.lt
  have HR5 := hd (show RdR w5 x g l (some l) by rw [hw5]; exact HR4.o.alloc _)
  have HH5 := hd (show Blk w5 w1.heap.size 78 #[.bool false, .bool true, .bool false, .bool false, .bool false, .bool false, .bool true, .bool false, .bool true] by rw [hw5]; exact HH4.o.alloc _)
  have HZ5 := hd (show Blk w5 w.heap.size 26 #[.int .i64 0, .string ⟨#[]⟩, .string ⟨#[]⟩, .string ⟨#[]⟩, .string ⟨#[]⟩, .int .i64 0, .int .i64 0, .slice none 0 0, .int .i64 0, .int .i64 0, .int .i64 0] by rw [hw5]; exact HZ4.o.alloc _)
  have HQ5 := hd (show Blk w5 Q 26 #[.int .i64 9, .string ⟨#[]⟩, .string ⟨#[]⟩, .string ⟨#[]⟩, .string ⟨#[]⟩, .int .i64 0, .int .i64 0, .slice none 0 0, .int .i64 0, .int .i64 0, .int .i64 0] by rw [hw5, ← hQ]; exact Blk.new _ _ _)
  have HB5 := hd (show Below w.heap.size w w5 by rw [hw5]; exact HB4.o.alloc HB4.o.size _)
  have HW5 := hd hw5
  obtain ⟨hb, hhb⟩ : ∃ hb, w1.heap.size = hb := ⟨_, rfl⟩
  rw [hhb] at HH5
  go_upto_region 6 with (fail)
  rw [← HW5.o]
  (try rw [hQ])
  (try rw [hhb])
  clear hw5 hQ hhb
  have e0 := HH5.o.at_ 0 rfl
  have e1 := HH5.o.at_ 1 rfl
  have e2 := HH5.o.at_ 2 rfl
  have e3 := HH5.o.at_ 3 rfl
  have e4 := HH5.o.at_ 4 rfl
  have e5 := HH5.o.at_ 5 rfl
  have e6 := HH5.o.at_ 6 rfl
  have e7 := HH5.o.at_ 7 rfl
  have e8 := HH5.o.at_ 8 rfl
  have lh := HH5.o.lt
  go_wp2_with fail
  refine (rdtext_calls w5 x g l _ HR5.o hl).mono ?_
  rintro e u6 ⟨s1, rfl, hv1, hr6, hc6⟩
  have HV1 := hd hv1
  have HHa6 := hd (HH5.o.chg hc6 (HR5.o.off HH5.o (by decide) (by decide)))
  have HZa6 := hd (HZ5.o.chg hc6 (HR5.o.off HZ5.o (by decide) (by decide)))
  have hqa := HQ5.o.chg hc6 (HR5.o.off HQ5.o (by decide) (by decide))
  have HBa6 := hd (HB5.o.trans (below_two hc6 hxw hgw HB5.o.size))
  have z2 := hqa.at_ 2 rfl
  have f2 := hqa.frozen 2
  obtain ⟨w6, hw6⟩ : ∃ w6, w6 = (u6.setCell ⟨Q, 2, none⟩ (.string s1)) := ⟨_, rfl⟩
  have HQ6 := hd (show Blk w6 Q 26 #[.int .i64 9, .string ⟨#[]⟩, .string s1, .string ⟨#[]⟩, .string ⟨#[]⟩, .int .i64 0, .int .i64 0, .slice none 0 0, .int .i64 0, .int .i64 0, .int .i64 0] by rw [hw6]; exact (hqa.set_ 2 _))
  have HR6 := hd (show RdR w6 x g l (textS 20000 (some l)) by rw [hw6]; exact (hr6).far hqa (by decide) (by decide) (by decide) _)
  have HH6 := hd (show Blk w6 hb 78 #[.bool false, .bool true, .bool false, .bool false, .bool false, .bool false, .bool true, .bool false, .bool true] by rw [hw6]; exact (HHa6.o).far (p := ⟨Q, 2, none⟩) (HHa6.o.ne_ hqa (by decide)) _)
  have HZ6 := hd (show Blk w6 w.heap.size 26 #[.int .i64 0, .string ⟨#[]⟩, .string ⟨#[]⟩, .string ⟨#[]⟩, .string ⟨#[]⟩, .int .i64 0, .int .i64 0, .slice none 0 0, .int .i64 0, .int .i64 0, .int .i64 0] by rw [hw6]; exact (HZa6.o).far (p := ⟨Q, 2, none⟩) (show w.heap.size ≠ Q by omega) _)
  have HB6 := hd (show Below w.heap.size w w6 by rw [hw6]; exact (HBa6.o).setCell (p := ⟨Q, 2, none⟩) (Nat.le_of_lt hQw) _)
  have HW6 := hd hw6
  have hlq := hqa.lt
  clear hv1 hr6 hc6 hqa e0 e1 e2 e3 e4 e5 e6 e7 e8 lh
  go_upto_region 10 with (fail)
  rw [← HW6.o]
  clear hw6 z2 f2 hlq
  have e0 := HH6.o.at_ 0 rfl
  have e1 := HH6.o.at_ 1 rfl
  have e2 := HH6.o.at_ 2 rfl
  have e3 := HH6.o.at_ 3 rfl
  have e4 := HH6.o.at_ 4 rfl
  have e5 := HH6.o.at_ 5 rfl
  have e6 := HH6.o.at_ 6 rfl
  have e7 := HH6.o.at_ 7 rfl
  have e8 := HH6.o.at_ 8 rfl
  have lh := HH6.o.lt
  have xc := HR6.o.c0
  go_wp2_with fail
  refine (HR6.o.num hl).mono ?_
  rintro e u7 ⟨v6, rfl, hv6, hr7, hc7⟩
  have HV6 := hd hv6
  have HHa7 := hd (HH6.o.chg hc7 (HR6.o.off HH6.o (by decide) (by decide)))
  have HZa7 := hd (HZ6.o.chg hc7 (HR6.o.off HZ6.o (by decide) (by decide)))
  have hqa := HQ6.o.chg hc7 (HR6.o.off HQ6.o (by decide) (by decide))
  have HBa7 := hd (HB6.o.trans (below_two hc7 hxw hgw HB6.o.size))
  have z8 := hqa.at_ 8 rfl
  have f8 := hqa.frozen 8
  obtain ⟨w7, hw7⟩ : ∃ w7, w7 = (u7.setCell ⟨Q, 8, none⟩ (.int .i64 v6)) := ⟨_, rfl⟩
  have HQ7 := hd (show Blk w7 Q 26 #[.int .i64 9, .string ⟨#[]⟩, .string s1, .string ⟨#[]⟩, .string ⟨#[]⟩, .int .i64 0, .int .i64 0, .slice none 0 0, .int .i64 v6, .int .i64 0, .int .i64 0] by rw [hw7]; exact (hqa.set_ 8 _))
  have HR7 := hd (show RdR w7 x g l (numS (textS 20000 (some l))) by rw [hw7]; exact (hr7).far hqa (by decide) (by decide) (by decide) _)
  have HH7 := hd (show Blk w7 hb 78 #[.bool false, .bool true, .bool false, .bool false, .bool false, .bool false, .bool true, .bool false, .bool true] by rw [hw7]; exact (HHa7.o).far (p := ⟨Q, 8, none⟩) (HHa7.o.ne_ hqa (by decide)) _)
  have HZ7 := hd (show Blk w7 w.heap.size 26 #[.int .i64 0, .string ⟨#[]⟩, .string ⟨#[]⟩, .string ⟨#[]⟩, .string ⟨#[]⟩, .int .i64 0, .int .i64 0, .slice none 0 0, .int .i64 0, .int .i64 0, .int .i64 0] by rw [hw7]; exact (HZa7.o).far (p := ⟨Q, 8, none⟩) (show w.heap.size ≠ Q by omega) _)
  have HB7 := hd (show Below w.heap.size w w7 by rw [hw7]; exact (HBa7.o).setCell (p := ⟨Q, 8, none⟩) (Nat.le_of_lt hQw) _)
  have HW7 := hd hw7
  have hlq := hqa.lt
  clear hv6 hr7 hc7 hqa e0 e1 e2 e3 e4 e5 e6 e7 e8 lh xc
  go_upto_region 20 with (fail)
  rw [← HW7.o]
  clear hw7 z8 f8 hlq
  have e0 := HH7.o.at_ 0 rfl
  have e1 := HH7.o.at_ 1 rfl
  have e2 := HH7.o.at_ 2 rfl
  have e3 := HH7.o.at_ 3 rfl
  have e4 := HH7.o.at_ 4 rfl
  have e5 := HH7.o.at_ 5 rfl
  have e6 := HH7.o.at_ 6 rfl
  have e7 := HH7.o.at_ 7 rfl
  have e8 := HH7.o.at_ 8 rfl
  have lh := HH7.o.lt
  go_wp2_with fail
  refine (rnum_calls w7 x g l _ HR7.o hl).mono ?_
  rintro e u8 ⟨v8, rfl, hv8, hr8, hc8⟩
  have HV8 := hd hv8
  have HHa8 := hd (HH7.o.chg hc8 (HR7.o.off HH7.o (by decide) (by decide)))
  have HZa8 := hd (HZ7.o.chg hc8 (HR7.o.off HZ7.o (by decide) (by decide)))
  have hqa := HQ7.o.chg hc8 (HR7.o.off HQ7.o (by decide) (by decide))
  have HBa8 := hd (HB7.o.trans (below_two hc8 hxw hgw HB7.o.size))
  have z10 := hqa.at_ 10 rfl
  have f10 := hqa.frozen 10
  obtain ⟨w8, hw8⟩ : ∃ w8, w8 = (u8.setCell ⟨Q, 10, none⟩ (.int .i64 v8)) := ⟨_, rfl⟩
  have HQ8 := hd (show Blk w8 Q 26 #[.int .i64 9, .string ⟨#[]⟩, .string s1, .string ⟨#[]⟩, .string ⟨#[]⟩, .int .i64 0, .int .i64 0, .slice none 0 0, .int .i64 v6, .int .i64 0, .int .i64 v8] by rw [hw8]; exact (hqa.set_ 10 _))
  have HR8 := hd (show RdR w8 x g l (smallS (numS (textS 20000 (some l)))) by rw [hw8]; exact (hr8).far hqa (by decide) (by decide) (by decide) _)
  have HH8 := hd (show Blk w8 hb 78 #[.bool false, .bool true, .bool false, .bool false, .bool false, .bool false, .bool true, .bool false, .bool true] by rw [hw8]; exact (HHa8.o).far (p := ⟨Q, 10, none⟩) (HHa8.o.ne_ hqa (by decide)) _)
  have HZ8 := hd (show Blk w8 w.heap.size 26 #[.int .i64 0, .string ⟨#[]⟩, .string ⟨#[]⟩, .string ⟨#[]⟩, .string ⟨#[]⟩, .int .i64 0, .int .i64 0, .slice none 0 0, .int .i64 0, .int .i64 0, .int .i64 0] by rw [hw8]; exact (HZa8.o).far (p := ⟨Q, 10, none⟩) (show w.heap.size ≠ Q by omega) _)
  have HB8 := hd (show Below w.heap.size w w8 by rw [hw8]; exact (HBa8.o).setCell (p := ⟨Q, 10, none⟩) (Nat.le_of_lt hQw) _)
  have HW8 := hd hw8
  have hlq := hqa.lt
  clear hv8 hr8 hc8 hqa e0 e1 e2 e3 e4 e5 e6 e7 e8 lh
  go_upto_region 24 with (fail)
  rw [← HW8.o]
  clear hw8 z10 f10 hlq
  have e0 := HH8.o.at_ 0 rfl
  have e1 := HH8.o.at_ 1 rfl
  have e2 := HH8.o.at_ 2 rfl
  have e3 := HH8.o.at_ 3 rfl
  have e4 := HH8.o.at_ 4 rfl
  have e5 := HH8.o.at_ 5 rfl
  have e6 := HH8.o.at_ 6 rfl
  have e7 := HH8.o.at_ 7 rfl
  have e8 := HH8.o.at_ 8 rfl
  have lh := HH8.o.lt
  have HRAW := hd (show RawIs 9 l (smallS (numS (textS 20000 (some l)))) ⟨9, [], s1.data.toList, [], [], (0, 0).1, (0, 0).2, [], v6, 0, v8⟩ from raw_chain (k := 9) (l := l) (st_skipT (some l)).1 (st_skipT (some l)).2 rfl HV1.o.2 (st_skipT (textS 20000 (some l))).1 (st_skipT (textS 20000 (some l))).2 (st_skipT (textS 20000 (some l))).1 (st_skipT (textS 20000 (some l))).2 (st_skipC (textS 20000 (some l))).1 (st_skipC (textS 20000 (some l))).2 (st_skipO (textS 20000 (some l))).1 (st_skipO (textS 20000 (some l))).2 rfl HV6.o.2.2 (st_skipS (numS (textS 20000 (some l)))).1 (st_skipS (numS (textS 20000 (some l)))).2 rfl HV8.o.2)
  have HSZ := hd (show RqS ⟨9, [], s1.data.toList, [], [], (0, 0).1, (0, 0).2, [], v6, 0, v8⟩ from ⟨by simp, by have := HV1.o.1; rw [ba_size] at this; exact Nat.le_trans this (by decide), by simp, by simp, by simp, fun o ho => by cases ho⟩)
  obtain ⟨bad, st', hbx, hps, hss⟩ := HR8.o.o
  have x1 := hbx.at_ 1 rfl
  have x0 := hbx.at_ 0 rfl
  have lx := hbx.lt
  have HPS := hd hps
  have hzz := HZ8.o.lt
  have z0 := HZ8.o.at_ 0 rfl
  have z1 := HZ8.o.at_ 1 rfl
  have z2 := HZ8.o.at_ 2 rfl
  have z3 := HZ8.o.at_ 3 rfl
  have z4 := HZ8.o.at_ 4 rfl
  have z5 := HZ8.o.at_ 5 rfl
  have z6 := HZ8.o.at_ 6 rfl
  have z7 := HZ8.o.at_ 7 rfl
  have z8 := HZ8.o.at_ 8 rfl
  have z9 := HZ8.o.at_ 9 rfl
  have z10 := HZ8.o.at_ 10 rfl
  have f0 := HZ8.o.frozen 0
  have f1 := HZ8.o.frozen 1
  have f2 := HZ8.o.frozen 2
  have f3 := HZ8.o.frozen 3
  have f4 := HZ8.o.frozen 4
  have f5 := HZ8.o.frozen 5
  have f6 := HZ8.o.frozen 6
  have f7 := HZ8.o.frozen 7
  have f8 := HZ8.o.frozen 8
  have f9 := HZ8.o.frozen 9
  have f10 := HZ8.o.frozen 10
  cases bad with
  | true =>
    have HV := hd (show decQ 9 l = (rq0, 1) from dec_dead (by decide) (by
      have h := HRAW.o
      rcases hss with ⟨h1, _⟩ | ⟨_, h2⟩
      · cases h1
      · rw [h2] at h; exact h))
    clear hbx hps hss
    go_wp2_with fail
    (try simp only [Exit.inBlock, Exit.then])
    rw [HQQ.o]
    refine bodyPost_ret (res_dec rfl (set11 HZ8.o)) rfl ?_
    exact ⟨⟨none, 0, rfl.trans (decEq HV.o).symm, by rw [HV.o]; exact Row.nil _ _ _ _, (bel11 HB8.o)⟩⟩
  | false =>
    have HST := hd (show st' = (smallS (numS (textS 20000 (some l)))) by rcases hss with ⟨_, h2⟩ | ⟨h1, _⟩; exact h2; cases h1)
    clear hbx hss
    go_wp2_with fail
    refine (perr_calls w8 g l st' HPS.o).mono ?_
    rintro e w9 ⟨er, rfl, her, rfl⟩
    by_cases he0 : er = 0
    case neg =>
      have hed : (er != 0) = true := by simpa using he0
      have HV := hd (show decQ 9 l = (rq0, 1) from dec_dead (by decide) (by
        have h := HRAW.o
        rw [← HST.o] at h
        cases hq : st' with
        | none => rw [hq] at h; exact h
        | some q => exact absurd (her.2 (by rw [hq]; simp)) he0))
      clear her he0 hps
      go_wp2_with fail
      (try simp only [Exit.inBlock, Exit.then])
      rw [HQQ.o]
      refine bodyPost_ret (res_dec rfl (set11 HZ8.o)) rfl ?_
      exact ⟨⟨none, 0, rfl.trans (decEq HV.o).symm, by rw [HV.o]; exact Row.nil _ _ _ _, (bel11 HB8.o)⟩⟩
    case pos =>
    obtain ⟨r, hr⟩ : ∃ r, st' = some r := by
      cases hq : st' with
      | none => exact absurd hq (her.1 he0)
      | some r => exact ⟨r, rfl⟩
    subst hr
    subst he0
    have HRW := hd (show RawIs 9 l (some r) ⟨9, [], s1.data.toList, [], [], (0, 0).1, (0, 0).2, [], v6, 0, v8⟩ from HST.o ▸ HRAW.o)
    have HRL := hd (show r.length ≤ l.length by
      obtain ⟨_, n1, _, k1, e1, _, _, h1, h2, h3⟩ := HPS.o.o
      rcases h3 with ⟨_, h3⟩ | ⟨_, h3⟩
      · injection h3 with h3; rw [h3, List.length_drop]; omega
      · cases h3)
    clear her hps
    obtain ⟨rl, hrl⟩ : ∃ rl, r.length = rl := ⟨_, rfl⟩
    have PL := pleft_calls w8 g l r HPS.o hl
    rw [hrl] at PL HRL
    replace PL := hd PL
    have HRLN := hd hrl
    clear hrl
    go_wp2_with fail
    refine PL.o.mono ?_
    rintro e w10 ⟨rfl, hb10⟩
    have HZ10 := hd (HZ8.o.below hb10 hzz)
    have HQ10 := hd (HQ8.o.below hb10 HQ8.o.lt)
    have HB10 := hd (HB8.o.trans (hb10.mono HB8.o.size))
    skip
    clear hb10 z0 z1 z2 z3 z4 z5 z6 z7 z8 z9 z10 f0 f1 f2 f3 f4 f5 f6 f7 f8 f9 f10 hzz x0 x1 lx
    have z0 := HZ10.o.at_ 0 rfl
    have z1 := HZ10.o.at_ 1 rfl
    have z2 := HZ10.o.at_ 2 rfl
    have z3 := HZ10.o.at_ 3 rfl
    have z4 := HZ10.o.at_ 4 rfl
    have z5 := HZ10.o.at_ 5 rfl
    have z6 := HZ10.o.at_ 6 rfl
    have z7 := HZ10.o.at_ 7 rfl
    have z8 := HZ10.o.at_ 8 rfl
    have z9 := HZ10.o.at_ 9 rfl
    have z10 := HZ10.o.at_ 10 rfl
    have f0 := HZ10.o.frozen 0
    have f1 := HZ10.o.frozen 1
    have f2 := HZ10.o.frozen 2
    have f3 := HZ10.o.frozen 3
    have f4 := HZ10.o.frozen 4
    have f5 := HZ10.o.frozen 5
    have f6 := HZ10.o.frozen 6
    have f7 := HZ10.o.frozen 7
    have f8 := HZ10.o.frozen 8
    have f9 := HZ10.o.frozen 9
    have f10 := HZ10.o.frozen 10
    have y0 := HQ10.o.at_ 0 rfl
    have y1 := HQ10.o.at_ 1 rfl
    have y2 := HQ10.o.at_ 2 rfl
    have y3 := HQ10.o.at_ 3 rfl
    have y4 := HQ10.o.at_ 4 rfl
    have y5 := HQ10.o.at_ 5 rfl
    have y6 := HQ10.o.at_ 6 rfl
    have y7 := HQ10.o.at_ 7 rfl
    have y8 := HQ10.o.at_ 8 rfl
    have y9 := HQ10.o.at_ 9 rfl
    have y10 := HQ10.o.at_ 10 rfl
    have hzz := HZ10.o.lt
    have lq := HQ10.o.lt
    by_cases hr0 : rl = 0
    case neg =>
      have hrp : 0 < rl := by omega
      have hrd : decide ((0 : Int) < (rl : Int)) = true := by simp; omega
      have HV := hd (dec_left (by decide) HRW.o (fun e => by have := HRLN.o; rw [e] at this; exact hr0 this.symm))
      clear hr0
      go_wp2_with fail
      (try simp only [Exit.inBlock, Exit.then])
      rw [HQQ.o]
      refine bodyPost_ret (res_dec rfl (set11 HZ10.o)) rfl ?_
      exact ⟨⟨none, 0, rfl.trans (decEq HV.o).symm, by rw [HV.o]; exact Row.nil _ _ _ _, (bel11 HB10.o)⟩⟩
    case pos =>
    subst hr0
    obtain rfl : r = [] := List.eq_nil_of_length_eq_zero HRLN.o
    have HV := hd (dec_all (by decide) HRW.o)
    have CK := check_calls ⟨9, [], s1.data.toList, [], [], (0, 0).1, (0, 0).2, [], v6, 0, v8⟩ none 0 w10 (HTB.o _ HB10.o) (Row.rds (Row.nil w10 Non 43 5)) HSZ.o
    unfold reqV reqE at CK
    simp only [bs_self, bs_nil8, List.length_nil] at CK
    skip
    replace CK := hd CK
    go_wp2_with fail
    refine CK.o.mono ?_
    rintro e w11 ⟨rfl, hb11⟩
    have HZ11 := hd (HZ10.o.below hb11 hzz)
    have HQ11 := hd (HQ10.o.below hb11 lq)
    have HB11 := hd (HB10.o.trans (hb11.mono HB10.o.size))
    skip
    clear hb11 z0 z1 z2 z3 z4 z5 z6 z7 z8 z9 z10 f0 f1 f2 f3 f4 f5 f6 f7 f8 f9 f10 y0 y1 y2 y3 y4 y5 y6 y7 y8 y9 y10 hzz lq CK
    have z0 := HZ11.o.at_ 0 rfl
    have z1 := HZ11.o.at_ 1 rfl
    have z2 := HZ11.o.at_ 2 rfl
    have z3 := HZ11.o.at_ 3 rfl
    have z4 := HZ11.o.at_ 4 rfl
    have z5 := HZ11.o.at_ 5 rfl
    have z6 := HZ11.o.at_ 6 rfl
    have z7 := HZ11.o.at_ 7 rfl
    have z8 := HZ11.o.at_ 8 rfl
    have z9 := HZ11.o.at_ 9 rfl
    have z10 := HZ11.o.at_ 10 rfl
    have f0 := HZ11.o.frozen 0
    have f1 := HZ11.o.frozen 1
    have f2 := HZ11.o.frozen 2
    have f3 := HZ11.o.frozen 3
    have f4 := HZ11.o.frozen 4
    have f5 := HZ11.o.frozen 5
    have f6 := HZ11.o.frozen 6
    have f7 := HZ11.o.frozen 7
    have f8 := HZ11.o.frozen 8
    have f9 := HZ11.o.frozen 9
    have f10 := HZ11.o.frozen 10
    have y0 := HQ11.o.at_ 0 rfl
    have y1 := HQ11.o.at_ 1 rfl
    have y2 := HQ11.o.at_ 2 rfl
    have y3 := HQ11.o.at_ 3 rfl
    have y4 := HQ11.o.at_ 4 rfl
    have y5 := HQ11.o.at_ 5 rfl
    have y6 := HQ11.o.at_ 6 rfl
    have y7 := HQ11.o.at_ 7 rfl
    have y8 := HQ11.o.at_ 8 rfl
    have y9 := HQ11.o.at_ 9 rfl
    have y10 := HQ11.o.at_ 10 rfl
    have hzz := HZ11.o.lt
    have lq := HQ11.o.lt
    by_cases h0 : chk ⟨9, [], s1.data.toList, [], [], (0, 0).1, (0, 0).2, [], v6, 0, v8⟩ = 0
    · have HVY := hd (show decQ 9 l = (⟨9, [], s1.data.toList, [], [], (0, 0).1, (0, 0).2, [], v6, 0, v8⟩, 0) by rw [HV.o, if_pos h0])
      have h0b : (chk ⟨9, [], s1.data.toList, [], [], (0, 0).1, (0, 0).2, [], v6, 0, v8⟩ != 0) = false := by simpa using h0
      have H0 := hd h0
      clear h0
      go_wp2_with fail
      (try simp only [Exit.inBlock, Exit.then])
      rw [HQQ.o]
      refine bodyPost_ret (res_dec rfl (set11 HZ11.o)) rfl ?_
      exact ⟨⟨none, 0, (decOk HVY.o rfl (by first | (simp only [bs_self, bs_nil8]; done) | (simp only [bs_self, bs_nil8]; rfl))), by rw [HVY.o]; exact Row.nil _ _ _ _, (bel11 HB11.o)⟩⟩
    · have HVN := hd (show decQ 9 l = (rq0, chk ⟨9, [], s1.data.toList, [], [], (0, 0).1, (0, 0).2, [], v6, 0, v8⟩) by rw [HV.o, if_neg h0])
      have h0b : (chk ⟨9, [], s1.data.toList, [], [], (0, 0).1, (0, 0).2, [], v6, 0, v8⟩ != 0) = true := by simpa using h0
      have H0 := hd h0
      clear h0
      go_wp2_with fail
      (try simp only [Exit.inBlock, Exit.then])
      rw [HQQ.o]
      refine bodyPost_ret (res_dec rfl (set11 HZ11.o)) rfl ?_
      exact ⟨⟨none, 0, rfl.trans (decEq HVN.o).symm, by rw [HVN.o]; exact Row.nil _ _ _ _, (bel11 HB11.o)⟩⟩

set_option maxRecDepth 100000 in
set_option maxHeartbeats 16000000 in
theorem dec_10 (w : World) (A : Option Addr) (n c : Nat) (l : List UInt8) (hnl : n = l.length) (hr : Rds w A n 1 (u8E l)) (hn : n ≤ 1000000) (ht : Tbs w) :
    Calls Tryz.prog 17 #[.int .i64 10, .slice A n c] w fun e w' => DecR w 10 l e w' := by
  have C0 := hd (fun W => show Calls Tryz.prog 51 #[.int .i64 10] W fun e w' => e = .returned (.bool true) ∧ W = w' from isk_calls 10 W)
  have C1 := hd (fun W => show Calls Tryz.prog 42 #[.int .i64 10] W fun e w' => e = .returned (.agg #[.bool false, .bool false, .bool false, .bool false, .bool false, .bool false, .bool false, .bool false, .bool false]) ∧ Below W.heap.size W w' from fields_calls 10 (by decide) W)
  have hl : l.length ≤ 1000000 := by omega
  have HN := hd hnl
  have HRD := hd hr
  have HTB := hd (fun W (h : Below w.heap.size w W) => ht.below h)
  obtain ⟨w0, hw0⟩ : ∃ w0, w0 = w.alloc (.cells #[.int .i64 0, .string ⟨#[]⟩, .string ⟨#[]⟩, .string ⟨#[]⟩, .string ⟨#[]⟩, .int .i64 0, .int .i64 0, .slice none 0 0, .int .i64 0, .int .i64 0, .int .i64 0] 26) := ⟨_, rfl⟩
  have HZ0 := hd (show Blk w0 w.heap.size 26 #[.int .i64 0, .string ⟨#[]⟩, .string ⟨#[]⟩, .string ⟨#[]⟩, .string ⟨#[]⟩, .int .i64 0, .int .i64 0, .slice none 0 0, .int .i64 0, .int .i64 0, .int .i64 0] by rw [hw0]; exact Blk.new _ _ _)
  have HB0 := hd (show Below w.heap.size w w0 by rw [hw0]; exact (Below.refl _ w).alloc (Nat.le_refl _) _)
  have hz0 := HZ0.o.lt
  have HW0 := hd hw0
  clear hnl hr ht hw0
  obtain ⟨QQ, hQQ⟩ : ∃ QQ, QQ = bodyPost Tryz.prog Tryz.f17 (fun e w' => DecR w 10 l e w') := ⟨_, rfl⟩
  have HQQ := hd hQQ
  go_enter Tryz.func17, Tryz.ntmps17
  rw [← hQQ]
  clear hQQ
  go_upto_region 1 with (fail)
  rw [← HW0.o]
  go_wp2_with (go_at_call 51; refine (C0.o _).mono ?_; rintro e w' ⟨rfl, rfl⟩)
  refine (C1.o _).mono ?_
  rintro e w1 ⟨rfl, hb1⟩
  have HB1 := hd (HB0.o.trans (hb1.mono HB0.o.size))
  have HZ1 := hd (HZ0.o.below hb1 hz0)
  obtain ⟨w2, hw2⟩ : ∃ w2, w2 = w1.alloc (.cells #[.bool false, .bool false, .bool false, .bool false, .bool false, .bool false, .bool false, .bool false, .bool false] 78) := ⟨_, rfl⟩
  have HH2 := hd (show Blk w2 w1.heap.size 78 #[.bool false, .bool false, .bool false, .bool false, .bool false, .bool false, .bool false, .bool false, .bool false] by rw [hw2]; exact Blk.new _ _ _)
  have HZ2 := hd (show Blk w2 w.heap.size 26 #[.int .i64 0, .string ⟨#[]⟩, .string ⟨#[]⟩, .string ⟨#[]⟩, .string ⟨#[]⟩, .int .i64 0, .int .i64 0, .slice none 0 0, .int .i64 0, .int .i64 0, .int .i64 0] by rw [hw2]; exact HZ1.o.alloc _)
  have HB2 := hd (show Below w.heap.size w w2 by rw [hw2]; exact HB1.o.alloc HB1.o.size _)
  have HW2 := hd hw2
  have h2l := HH2.o.lt
  have hz2 := HZ2.o.lt
  clear hb1 hw2 hz0 C0 C1
  go_upto_region 4 with (fail)
  rw [← HW2.o]
  go_wp2_with fail
  refine (pread_calls w2 A n c l HN.o (HRD.o.below HB2.o) hn).mono ?_
  rintro e w3 ⟨g, rfl, hg, hp3, hb3⟩
  have HH3 := hd (HH2.o.below hb3 h2l)
  have HZ3 := hd (HZ2.o.below hb3 hz2)
  have HB3 := hd (HB2.o.trans (hb3.mono HB2.o.size))
  have HP3 := hd hp3
  have hgw : w.heap.size ≤ g := Nat.le_trans HB2.o.size hg
  obtain ⟨w4, hw4⟩ : ∃ w4, w4 = w3.alloc (.cells #[.pointer (some ⟨g, 0, none⟩), .bool false] 89) := ⟨_, rfl⟩
  have HR4 := hd (show RdR w4 w3.heap.size g l (some l) from ⟨false, some l, by rw [hw4]; exact Blk.new _ _ _, by rw [hw4]; exact HP3.o.alloc _, .inl ⟨rfl, rfl⟩⟩)
  have HH4 := hd (show Blk w4 w1.heap.size 78 #[.bool false, .bool false, .bool false, .bool false, .bool false, .bool false, .bool false, .bool false, .bool false] by rw [hw4]; exact HH3.o.alloc _)
  have HZ4 := hd (show Blk w4 w.heap.size 26 #[.int .i64 0, .string ⟨#[]⟩, .string ⟨#[]⟩, .string ⟨#[]⟩, .string ⟨#[]⟩, .int .i64 0, .int .i64 0, .slice none 0 0, .int .i64 0, .int .i64 0, .int .i64 0] by rw [hw4]; exact HZ3.o.alloc _)
  have HB4 := hd (show Below w.heap.size w w4 by rw [hw4]; exact HB3.o.alloc HB3.o.size _)
  have HW4 := hd hw4
  have hxw : w.heap.size ≤ w3.heap.size := HB3.o.size
  obtain ⟨x, hx⟩ : ∃ x, w3.heap.size = x := ⟨_, rfl⟩
  clear hb3 hp3 hw4 h2l hz2 hg
  go_upto_region 5 with (fail)
  rw [← HW4.o]
  rw [hx] at HR4 hxw
  (try rw [hx])
  clear hx
  obtain ⟨w5, hw5⟩ : ∃ w5, w5 = w4.alloc (.cells #[.int .i64 10, .string ⟨#[]⟩, .string ⟨#[]⟩, .string ⟨#[]⟩, .string ⟨#[]⟩, .int .i64 0, .int .i64 0, .slice none 0 0, .int .i64 0, .int .i64 0, .int .i64 0] 26) := ⟨_, rfl⟩
  obtain ⟨Q, hQ⟩ : ∃ Q, w4.heap.size = Q := ⟨_, rfl⟩
  have hQw : w.heap.size < Q := by rw [← hQ]; exact HZ4.o.lt
  have HR5 := hd (show RdR w5 x g l (some l) by rw [hw5]; exact HR4.o.alloc _)
  have HH5 := hd (show Blk w5 w1.heap.size 78 #[.bool false, .bool false, .bool false, .bool false, .bool false, .bool false, .bool false, .bool false, .bool false] by rw [hw5]; exact HH4.o.alloc _)
  have HZ5 := hd (show Blk w5 w.heap.size 26 #[.int .i64 0, .string ⟨#[]⟩, .string ⟨#[]⟩, .string ⟨#[]⟩, .string ⟨#[]⟩, .int .i64 0, .int .i64 0, .slice none 0 0, .int .i64 0, .int .i64 0, .int .i64 0] by rw [hw5]; exact HZ4.o.alloc _)
  have HQ5 := hd (show Blk w5 Q 26 #[.int .i64 10, .string ⟨#[]⟩, .string ⟨#[]⟩, .string ⟨#[]⟩, .string ⟨#[]⟩, .int .i64 0, .int .i64 0, .slice none 0 0, .int .i64 0, .int .i64 0, .int .i64 0] by rw [hw5, ← hQ]; exact Blk.new _ _ _)
  have HB5 := hd (show Below w.heap.size w w5 by rw [hw5]; exact HB4.o.alloc HB4.o.size _)
  have HW5 := hd hw5
  obtain ⟨hb, hhb⟩ : ∃ hb, w1.heap.size = hb := ⟨_, rfl⟩
  rw [hhb] at HH5
  go_upto_region 6 with (fail)
  rw [← HW5.o]
  (try rw [hQ])
  (try rw [hhb])
  clear hw5 hQ hhb
  have e0 := HH5.o.at_ 0 rfl
  have e1 := HH5.o.at_ 1 rfl
  have e2 := HH5.o.at_ 2 rfl
  have e3 := HH5.o.at_ 3 rfl
  have e4 := HH5.o.at_ 4 rfl
  have e5 := HH5.o.at_ 5 rfl
  have e6 := HH5.o.at_ 6 rfl
  have e7 := HH5.o.at_ 7 rfl
  have e8 := HH5.o.at_ 8 rfl
  have lh := HH5.o.lt
  have HRAW := hd (show RawIs 10 l (some l) ⟨10, [], [], [], [], (0, 0).1, (0, 0).2, [], 0, 0, 0⟩ from raw_chain (k := 10) (l := l) (st_skipT (some l)).1 (st_skipT (some l)).2 (st_skipT (some l)).1 (st_skipT (some l)).2 (st_skipT (some l)).1 (st_skipT (some l)).2 (st_skipT (some l)).1 (st_skipT (some l)).2 (st_skipC (some l)).1 (st_skipC (some l)).2 (st_skipO (some l)).1 (st_skipO (some l)).2 (st_skipN (some l)).1 (st_skipN (some l)).2 (st_skipS (some l)).1 (st_skipS (some l)).2 (st_skipS (some l)).1 (st_skipS (some l)).2)
  have HSZ := hd (show RqS ⟨10, [], [], [], [], (0, 0).1, (0, 0).2, [], 0, 0, 0⟩ from ⟨by simp, by simp, by simp, by simp, by simp, fun o ho => by cases ho⟩)
  obtain ⟨bad, st', hbx, hps, hss⟩ := HR5.o.o
  have x1 := hbx.at_ 1 rfl
  have x0 := hbx.at_ 0 rfl
  have lx := hbx.lt
  have HPS := hd hps
  have hzz := HZ5.o.lt
  have z0 := HZ5.o.at_ 0 rfl
  have z1 := HZ5.o.at_ 1 rfl
  have z2 := HZ5.o.at_ 2 rfl
  have z3 := HZ5.o.at_ 3 rfl
  have z4 := HZ5.o.at_ 4 rfl
  have z5 := HZ5.o.at_ 5 rfl
  have z6 := HZ5.o.at_ 6 rfl
  have z7 := HZ5.o.at_ 7 rfl
  have z8 := HZ5.o.at_ 8 rfl
  have z9 := HZ5.o.at_ 9 rfl
  have z10 := HZ5.o.at_ 10 rfl
  have f0 := HZ5.o.frozen 0
  have f1 := HZ5.o.frozen 1
  have f2 := HZ5.o.frozen 2
  have f3 := HZ5.o.frozen 3
  have f4 := HZ5.o.frozen 4
  have f5 := HZ5.o.frozen 5
  have f6 := HZ5.o.frozen 6
  have f7 := HZ5.o.frozen 7
  have f8 := HZ5.o.frozen 8
  have f9 := HZ5.o.frozen 9
  have f10 := HZ5.o.frozen 10
  cases bad with
  | true =>
    have HV := hd (show decQ 10 l = (rq0, 1) from dec_dead (by decide) (by
      have h := HRAW.o
      rcases hss with ⟨h1, _⟩ | ⟨_, h2⟩
      · cases h1
      · rw [h2] at h; exact h))
    clear hbx hps hss
    go_wp2_with fail
    (try simp only [Exit.inBlock, Exit.then])
    rw [HQQ.o]
    refine bodyPost_ret (res_dec rfl (set11 HZ5.o)) rfl ?_
    exact ⟨⟨none, 0, rfl.trans (decEq HV.o).symm, by rw [HV.o]; exact Row.nil _ _ _ _, (bel11 HB5.o)⟩⟩
  | false =>
    have HST := hd (show st' = (some l) by rcases hss with ⟨_, h2⟩ | ⟨h1, _⟩; exact h2; cases h1)
    clear hbx hss
    go_wp2_with fail
    refine (perr_calls w5 g l st' HPS.o).mono ?_
    rintro e w9 ⟨er, rfl, her, rfl⟩
    by_cases he0 : er = 0
    case neg =>
      have hed : (er != 0) = true := by simpa using he0
      have HV := hd (show decQ 10 l = (rq0, 1) from dec_dead (by decide) (by
        have h := HRAW.o
        rw [← HST.o] at h
        cases hq : st' with
        | none => rw [hq] at h; exact h
        | some q => exact absurd (her.2 (by rw [hq]; simp)) he0))
      clear her he0 hps
      go_wp2_with fail
      (try simp only [Exit.inBlock, Exit.then])
      rw [HQQ.o]
      refine bodyPost_ret (res_dec rfl (set11 HZ5.o)) rfl ?_
      exact ⟨⟨none, 0, rfl.trans (decEq HV.o).symm, by rw [HV.o]; exact Row.nil _ _ _ _, (bel11 HB5.o)⟩⟩
    case pos =>
    obtain ⟨r, hr⟩ : ∃ r, st' = some r := by
      cases hq : st' with
      | none => exact absurd hq (her.1 he0)
      | some r => exact ⟨r, rfl⟩
    subst hr
    subst he0
    have HRW := hd (show RawIs 10 l (some r) ⟨10, [], [], [], [], (0, 0).1, (0, 0).2, [], 0, 0, 0⟩ from HST.o ▸ HRAW.o)
    have HRL := hd (show r.length ≤ l.length by
      obtain ⟨_, n1, _, k1, e1, _, _, h1, h2, h3⟩ := HPS.o.o
      rcases h3 with ⟨_, h3⟩ | ⟨_, h3⟩
      · injection h3 with h3; rw [h3, List.length_drop]; omega
      · cases h3)
    clear her hps
    obtain ⟨rl, hrl⟩ : ∃ rl, r.length = rl := ⟨_, rfl⟩
    have PL := pleft_calls w5 g l r HPS.o hl
    rw [hrl] at PL HRL
    replace PL := hd PL
    have HRLN := hd hrl
    clear hrl
    go_wp2_with fail
    refine PL.o.mono ?_
    rintro e w10 ⟨rfl, hb10⟩
    have HZ10 := hd (HZ5.o.below hb10 hzz)
    have HQ10 := hd (HQ5.o.below hb10 HQ5.o.lt)
    have HB10 := hd (HB5.o.trans (hb10.mono HB5.o.size))
    skip
    clear hb10 z0 z1 z2 z3 z4 z5 z6 z7 z8 z9 z10 f0 f1 f2 f3 f4 f5 f6 f7 f8 f9 f10 hzz x0 x1 lx
    have z0 := HZ10.o.at_ 0 rfl
    have z1 := HZ10.o.at_ 1 rfl
    have z2 := HZ10.o.at_ 2 rfl
    have z3 := HZ10.o.at_ 3 rfl
    have z4 := HZ10.o.at_ 4 rfl
    have z5 := HZ10.o.at_ 5 rfl
    have z6 := HZ10.o.at_ 6 rfl
    have z7 := HZ10.o.at_ 7 rfl
    have z8 := HZ10.o.at_ 8 rfl
    have z9 := HZ10.o.at_ 9 rfl
    have z10 := HZ10.o.at_ 10 rfl
    have f0 := HZ10.o.frozen 0
    have f1 := HZ10.o.frozen 1
    have f2 := HZ10.o.frozen 2
    have f3 := HZ10.o.frozen 3
    have f4 := HZ10.o.frozen 4
    have f5 := HZ10.o.frozen 5
    have f6 := HZ10.o.frozen 6
    have f7 := HZ10.o.frozen 7
    have f8 := HZ10.o.frozen 8
    have f9 := HZ10.o.frozen 9
    have f10 := HZ10.o.frozen 10
    have y0 := HQ10.o.at_ 0 rfl
    have y1 := HQ10.o.at_ 1 rfl
    have y2 := HQ10.o.at_ 2 rfl
    have y3 := HQ10.o.at_ 3 rfl
    have y4 := HQ10.o.at_ 4 rfl
    have y5 := HQ10.o.at_ 5 rfl
    have y6 := HQ10.o.at_ 6 rfl
    have y7 := HQ10.o.at_ 7 rfl
    have y8 := HQ10.o.at_ 8 rfl
    have y9 := HQ10.o.at_ 9 rfl
    have y10 := HQ10.o.at_ 10 rfl
    have hzz := HZ10.o.lt
    have lq := HQ10.o.lt
    by_cases hr0 : rl = 0
    case neg =>
      have hrp : 0 < rl := by omega
      have hrd : decide ((0 : Int) < (rl : Int)) = true := by simp; omega
      have HV := hd (dec_left (by decide) HRW.o (fun e => by have := HRLN.o; rw [e] at this; exact hr0 this.symm))
      clear hr0
      go_wp2_with fail
      (try simp only [Exit.inBlock, Exit.then])
      rw [HQQ.o]
      refine bodyPost_ret (res_dec rfl (set11 HZ10.o)) rfl ?_
      exact ⟨⟨none, 0, rfl.trans (decEq HV.o).symm, by rw [HV.o]; exact Row.nil _ _ _ _, (bel11 HB10.o)⟩⟩
    case pos =>
    subst hr0
    obtain rfl : r = [] := List.eq_nil_of_length_eq_zero HRLN.o
    have HV := hd (dec_all (by decide) HRW.o)
    have CK := check_calls ⟨10, [], [], [], [], (0, 0).1, (0, 0).2, [], 0, 0, 0⟩ none 0 w10 (HTB.o _ HB10.o) (Row.rds (Row.nil w10 Non 43 5)) HSZ.o
    unfold reqV reqE at CK
    simp only [bs_self, bs_nil8, List.length_nil] at CK
    skip
    replace CK := hd CK
    go_wp2_with fail
    refine CK.o.mono ?_
    rintro e w11 ⟨rfl, hb11⟩
    have HZ11 := hd (HZ10.o.below hb11 hzz)
    have HQ11 := hd (HQ10.o.below hb11 lq)
    have HB11 := hd (HB10.o.trans (hb11.mono HB10.o.size))
    skip
    clear hb11 z0 z1 z2 z3 z4 z5 z6 z7 z8 z9 z10 f0 f1 f2 f3 f4 f5 f6 f7 f8 f9 f10 y0 y1 y2 y3 y4 y5 y6 y7 y8 y9 y10 hzz lq CK
    have z0 := HZ11.o.at_ 0 rfl
    have z1 := HZ11.o.at_ 1 rfl
    have z2 := HZ11.o.at_ 2 rfl
    have z3 := HZ11.o.at_ 3 rfl
    have z4 := HZ11.o.at_ 4 rfl
    have z5 := HZ11.o.at_ 5 rfl
    have z6 := HZ11.o.at_ 6 rfl
    have z7 := HZ11.o.at_ 7 rfl
    have z8 := HZ11.o.at_ 8 rfl
    have z9 := HZ11.o.at_ 9 rfl
    have z10 := HZ11.o.at_ 10 rfl
    have f0 := HZ11.o.frozen 0
    have f1 := HZ11.o.frozen 1
    have f2 := HZ11.o.frozen 2
    have f3 := HZ11.o.frozen 3
    have f4 := HZ11.o.frozen 4
    have f5 := HZ11.o.frozen 5
    have f6 := HZ11.o.frozen 6
    have f7 := HZ11.o.frozen 7
    have f8 := HZ11.o.frozen 8
    have f9 := HZ11.o.frozen 9
    have f10 := HZ11.o.frozen 10
    have y0 := HQ11.o.at_ 0 rfl
    have y1 := HQ11.o.at_ 1 rfl
    have y2 := HQ11.o.at_ 2 rfl
    have y3 := HQ11.o.at_ 3 rfl
    have y4 := HQ11.o.at_ 4 rfl
    have y5 := HQ11.o.at_ 5 rfl
    have y6 := HQ11.o.at_ 6 rfl
    have y7 := HQ11.o.at_ 7 rfl
    have y8 := HQ11.o.at_ 8 rfl
    have y9 := HQ11.o.at_ 9 rfl
    have y10 := HQ11.o.at_ 10 rfl
    have hzz := HZ11.o.lt
    have lq := HQ11.o.lt
    by_cases h0 : chk ⟨10, [], [], [], [], (0, 0).1, (0, 0).2, [], 0, 0, 0⟩ = 0
    · have HVY := hd (show decQ 10 l = (⟨10, [], [], [], [], (0, 0).1, (0, 0).2, [], 0, 0, 0⟩, 0) by rw [HV.o, if_pos h0])
      have h0b : (chk ⟨10, [], [], [], [], (0, 0).1, (0, 0).2, [], 0, 0, 0⟩ != 0) = false := by simpa using h0
      have H0 := hd h0
      clear h0
      go_wp2_with fail
      (try simp only [Exit.inBlock, Exit.then])
      rw [HQQ.o]
      refine bodyPost_ret (res_dec rfl (set11 HZ11.o)) rfl ?_
      exact ⟨⟨none, 0, (decOk HVY.o rfl (by first | (simp only [bs_self, bs_nil8]; done) | (simp only [bs_self, bs_nil8]; rfl))), by rw [HVY.o]; exact Row.nil _ _ _ _, (bel11 HB11.o)⟩⟩
    · have HVN := hd (show decQ 10 l = (rq0, chk ⟨10, [], [], [], [], (0, 0).1, (0, 0).2, [], 0, 0, 0⟩) by rw [HV.o, if_neg h0])
      have h0b : (chk ⟨10, [], [], [], [], (0, 0).1, (0, 0).2, [], 0, 0, 0⟩ != 0) = true := by simpa using h0
      have H0 := hd h0
      clear h0
      go_wp2_with fail
      (try simp only [Exit.inBlock, Exit.then])
      rw [HQQ.o]
      refine bodyPost_ret (res_dec rfl (set11 HZ11.o)) rfl ?_
      exact ⟨⟨none, 0, rfl.trans (decEq HVN.o).symm, by rw [HVN.o]; exact Row.nil _ _ _ _, (bel11 HB11.o)⟩⟩

set_option maxRecDepth 100000 in
set_option maxHeartbeats 16000000 in
theorem dec_11 (w : World) (A : Option Addr) (n c : Nat) (l : List UInt8) (hnl : n = l.length) (hr : Rds w A n 1 (u8E l)) (hn : n ≤ 1000000) (ht : Tbs w) :
    Calls Tryz.prog 17 #[.int .i64 11, .slice A n c] w fun e w' => DecR w 11 l e w' := by
  have C0 := hd (fun W => show Calls Tryz.prog 51 #[.int .i64 11] W fun e w' => e = .returned (.bool true) ∧ W = w' from isk_calls 11 W)
  have C1 := hd (fun W => show Calls Tryz.prog 42 #[.int .i64 11] W fun e w' => e = .returned (.agg #[.bool false, .bool false, .bool false, .bool false, .bool false, .bool false, .bool false, .bool false, .bool false]) ∧ Below W.heap.size W w' from fields_calls 11 (by decide) W)
  have hl : l.length ≤ 1000000 := by omega
  have HN := hd hnl
  have HRD := hd hr
  have HTB := hd (fun W (h : Below w.heap.size w W) => ht.below h)
  obtain ⟨w0, hw0⟩ : ∃ w0, w0 = w.alloc (.cells #[.int .i64 0, .string ⟨#[]⟩, .string ⟨#[]⟩, .string ⟨#[]⟩, .string ⟨#[]⟩, .int .i64 0, .int .i64 0, .slice none 0 0, .int .i64 0, .int .i64 0, .int .i64 0] 26) := ⟨_, rfl⟩
  have HZ0 := hd (show Blk w0 w.heap.size 26 #[.int .i64 0, .string ⟨#[]⟩, .string ⟨#[]⟩, .string ⟨#[]⟩, .string ⟨#[]⟩, .int .i64 0, .int .i64 0, .slice none 0 0, .int .i64 0, .int .i64 0, .int .i64 0] by rw [hw0]; exact Blk.new _ _ _)
  have HB0 := hd (show Below w.heap.size w w0 by rw [hw0]; exact (Below.refl _ w).alloc (Nat.le_refl _) _)
  have hz0 := HZ0.o.lt
  have HW0 := hd hw0
  clear hnl hr ht hw0
  obtain ⟨QQ, hQQ⟩ : ∃ QQ, QQ = bodyPost Tryz.prog Tryz.f17 (fun e w' => DecR w 11 l e w') := ⟨_, rfl⟩
  have HQQ := hd hQQ
  go_enter Tryz.func17, Tryz.ntmps17
  rw [← hQQ]
  clear hQQ
  go_upto_region 1 with (fail)
  rw [← HW0.o]
  go_wp2_with (go_at_call 51; refine (C0.o _).mono ?_; rintro e w' ⟨rfl, rfl⟩)
  refine (C1.o _).mono ?_
  rintro e w1 ⟨rfl, hb1⟩
  have HB1 := hd (HB0.o.trans (hb1.mono HB0.o.size))
  have HZ1 := hd (HZ0.o.below hb1 hz0)
  obtain ⟨w2, hw2⟩ : ∃ w2, w2 = w1.alloc (.cells #[.bool false, .bool false, .bool false, .bool false, .bool false, .bool false, .bool false, .bool false, .bool false] 78) := ⟨_, rfl⟩
  have HH2 := hd (show Blk w2 w1.heap.size 78 #[.bool false, .bool false, .bool false, .bool false, .bool false, .bool false, .bool false, .bool false, .bool false] by rw [hw2]; exact Blk.new _ _ _)
  have HZ2 := hd (show Blk w2 w.heap.size 26 #[.int .i64 0, .string ⟨#[]⟩, .string ⟨#[]⟩, .string ⟨#[]⟩, .string ⟨#[]⟩, .int .i64 0, .int .i64 0, .slice none 0 0, .int .i64 0, .int .i64 0, .int .i64 0] by rw [hw2]; exact HZ1.o.alloc _)
  have HB2 := hd (show Below w.heap.size w w2 by rw [hw2]; exact HB1.o.alloc HB1.o.size _)
  have HW2 := hd hw2
  have h2l := HH2.o.lt
  have hz2 := HZ2.o.lt
  clear hb1 hw2 hz0 C0 C1
  go_upto_region 4 with (fail)
  rw [← HW2.o]
  go_wp2_with fail
  refine (pread_calls w2 A n c l HN.o (HRD.o.below HB2.o) hn).mono ?_
  rintro e w3 ⟨g, rfl, hg, hp3, hb3⟩
  have HH3 := hd (HH2.o.below hb3 h2l)
  have HZ3 := hd (HZ2.o.below hb3 hz2)
  have HB3 := hd (HB2.o.trans (hb3.mono HB2.o.size))
  have HP3 := hd hp3
  have hgw : w.heap.size ≤ g := Nat.le_trans HB2.o.size hg
  obtain ⟨w4, hw4⟩ : ∃ w4, w4 = w3.alloc (.cells #[.pointer (some ⟨g, 0, none⟩), .bool false] 89) := ⟨_, rfl⟩
  have HR4 := hd (show RdR w4 w3.heap.size g l (some l) from ⟨false, some l, by rw [hw4]; exact Blk.new _ _ _, by rw [hw4]; exact HP3.o.alloc _, .inl ⟨rfl, rfl⟩⟩)
  have HH4 := hd (show Blk w4 w1.heap.size 78 #[.bool false, .bool false, .bool false, .bool false, .bool false, .bool false, .bool false, .bool false, .bool false] by rw [hw4]; exact HH3.o.alloc _)
  have HZ4 := hd (show Blk w4 w.heap.size 26 #[.int .i64 0, .string ⟨#[]⟩, .string ⟨#[]⟩, .string ⟨#[]⟩, .string ⟨#[]⟩, .int .i64 0, .int .i64 0, .slice none 0 0, .int .i64 0, .int .i64 0, .int .i64 0] by rw [hw4]; exact HZ3.o.alloc _)
  have HB4 := hd (show Below w.heap.size w w4 by rw [hw4]; exact HB3.o.alloc HB3.o.size _)
  have HW4 := hd hw4
  have hxw : w.heap.size ≤ w3.heap.size := HB3.o.size
  obtain ⟨x, hx⟩ : ∃ x, w3.heap.size = x := ⟨_, rfl⟩
  clear hb3 hp3 hw4 h2l hz2 hg
  go_upto_region 5 with (fail)
  rw [← HW4.o]
  rw [hx] at HR4 hxw
  (try rw [hx])
  clear hx
  obtain ⟨w5, hw5⟩ : ∃ w5, w5 = w4.alloc (.cells #[.int .i64 11, .string ⟨#[]⟩, .string ⟨#[]⟩, .string ⟨#[]⟩, .string ⟨#[]⟩, .int .i64 0, .int .i64 0, .slice none 0 0, .int .i64 0, .int .i64 0, .int .i64 0] 26) := ⟨_, rfl⟩
  obtain ⟨Q, hQ⟩ : ∃ Q, w4.heap.size = Q := ⟨_, rfl⟩
  have hQw : w.heap.size < Q := by rw [← hQ]; exact HZ4.o.lt
  have HR5 := hd (show RdR w5 x g l (some l) by rw [hw5]; exact HR4.o.alloc _)
  have HH5 := hd (show Blk w5 w1.heap.size 78 #[.bool false, .bool false, .bool false, .bool false, .bool false, .bool false, .bool false, .bool false, .bool false] by rw [hw5]; exact HH4.o.alloc _)
  have HZ5 := hd (show Blk w5 w.heap.size 26 #[.int .i64 0, .string ⟨#[]⟩, .string ⟨#[]⟩, .string ⟨#[]⟩, .string ⟨#[]⟩, .int .i64 0, .int .i64 0, .slice none 0 0, .int .i64 0, .int .i64 0, .int .i64 0] by rw [hw5]; exact HZ4.o.alloc _)
  have HQ5 := hd (show Blk w5 Q 26 #[.int .i64 11, .string ⟨#[]⟩, .string ⟨#[]⟩, .string ⟨#[]⟩, .string ⟨#[]⟩, .int .i64 0, .int .i64 0, .slice none 0 0, .int .i64 0, .int .i64 0, .int .i64 0] by rw [hw5, ← hQ]; exact Blk.new _ _ _)
  have HB5 := hd (show Below w.heap.size w w5 by rw [hw5]; exact HB4.o.alloc HB4.o.size _)
  have HW5 := hd hw5
  obtain ⟨hb, hhb⟩ : ∃ hb, w1.heap.size = hb := ⟨_, rfl⟩
  rw [hhb] at HH5
  go_upto_region 6 with (fail)
  rw [← HW5.o]
  (try rw [hQ])
  (try rw [hhb])
  clear hw5 hQ hhb
  have e0 := HH5.o.at_ 0 rfl
  have e1 := HH5.o.at_ 1 rfl
  have e2 := HH5.o.at_ 2 rfl
  have e3 := HH5.o.at_ 3 rfl
  have e4 := HH5.o.at_ 4 rfl
  have e5 := HH5.o.at_ 5 rfl
  have e6 := HH5.o.at_ 6 rfl
  have e7 := HH5.o.at_ 7 rfl
  have e8 := HH5.o.at_ 8 rfl
  have lh := HH5.o.lt
  have HRAW := hd (show RawIs 11 l (some l) ⟨11, [], [], [], [], (0, 0).1, (0, 0).2, [], 0, 0, 0⟩ from raw_chain (k := 11) (l := l) (st_skipT (some l)).1 (st_skipT (some l)).2 (st_skipT (some l)).1 (st_skipT (some l)).2 (st_skipT (some l)).1 (st_skipT (some l)).2 (st_skipT (some l)).1 (st_skipT (some l)).2 (st_skipC (some l)).1 (st_skipC (some l)).2 (st_skipO (some l)).1 (st_skipO (some l)).2 (st_skipN (some l)).1 (st_skipN (some l)).2 (st_skipS (some l)).1 (st_skipS (some l)).2 (st_skipS (some l)).1 (st_skipS (some l)).2)
  have HSZ := hd (show RqS ⟨11, [], [], [], [], (0, 0).1, (0, 0).2, [], 0, 0, 0⟩ from ⟨by simp, by simp, by simp, by simp, by simp, fun o ho => by cases ho⟩)
  obtain ⟨bad, st', hbx, hps, hss⟩ := HR5.o.o
  have x1 := hbx.at_ 1 rfl
  have x0 := hbx.at_ 0 rfl
  have lx := hbx.lt
  have HPS := hd hps
  have hzz := HZ5.o.lt
  have z0 := HZ5.o.at_ 0 rfl
  have z1 := HZ5.o.at_ 1 rfl
  have z2 := HZ5.o.at_ 2 rfl
  have z3 := HZ5.o.at_ 3 rfl
  have z4 := HZ5.o.at_ 4 rfl
  have z5 := HZ5.o.at_ 5 rfl
  have z6 := HZ5.o.at_ 6 rfl
  have z7 := HZ5.o.at_ 7 rfl
  have z8 := HZ5.o.at_ 8 rfl
  have z9 := HZ5.o.at_ 9 rfl
  have z10 := HZ5.o.at_ 10 rfl
  have f0 := HZ5.o.frozen 0
  have f1 := HZ5.o.frozen 1
  have f2 := HZ5.o.frozen 2
  have f3 := HZ5.o.frozen 3
  have f4 := HZ5.o.frozen 4
  have f5 := HZ5.o.frozen 5
  have f6 := HZ5.o.frozen 6
  have f7 := HZ5.o.frozen 7
  have f8 := HZ5.o.frozen 8
  have f9 := HZ5.o.frozen 9
  have f10 := HZ5.o.frozen 10
  cases bad with
  | true =>
    have HV := hd (show decQ 11 l = (rq0, 1) from dec_dead (by decide) (by
      have h := HRAW.o
      rcases hss with ⟨h1, _⟩ | ⟨_, h2⟩
      · cases h1
      · rw [h2] at h; exact h))
    clear hbx hps hss
    go_wp2_with fail
    (try simp only [Exit.inBlock, Exit.then])
    rw [HQQ.o]
    refine bodyPost_ret (res_dec rfl (set11 HZ5.o)) rfl ?_
    exact ⟨⟨none, 0, rfl.trans (decEq HV.o).symm, by rw [HV.o]; exact Row.nil _ _ _ _, (bel11 HB5.o)⟩⟩
  | false =>
    have HST := hd (show st' = (some l) by rcases hss with ⟨_, h2⟩ | ⟨h1, _⟩; exact h2; cases h1)
    clear hbx hss
    go_wp2_with fail
    refine (perr_calls w5 g l st' HPS.o).mono ?_
    rintro e w9 ⟨er, rfl, her, rfl⟩
    by_cases he0 : er = 0
    case neg =>
      have hed : (er != 0) = true := by simpa using he0
      have HV := hd (show decQ 11 l = (rq0, 1) from dec_dead (by decide) (by
        have h := HRAW.o
        rw [← HST.o] at h
        cases hq : st' with
        | none => rw [hq] at h; exact h
        | some q => exact absurd (her.2 (by rw [hq]; simp)) he0))
      clear her he0 hps
      go_wp2_with fail
      (try simp only [Exit.inBlock, Exit.then])
      rw [HQQ.o]
      refine bodyPost_ret (res_dec rfl (set11 HZ5.o)) rfl ?_
      exact ⟨⟨none, 0, rfl.trans (decEq HV.o).symm, by rw [HV.o]; exact Row.nil _ _ _ _, (bel11 HB5.o)⟩⟩
    case pos =>
    obtain ⟨r, hr⟩ : ∃ r, st' = some r := by
      cases hq : st' with
      | none => exact absurd hq (her.1 he0)
      | some r => exact ⟨r, rfl⟩
    subst hr
    subst he0
    have HRW := hd (show RawIs 11 l (some r) ⟨11, [], [], [], [], (0, 0).1, (0, 0).2, [], 0, 0, 0⟩ from HST.o ▸ HRAW.o)
    have HRL := hd (show r.length ≤ l.length by
      obtain ⟨_, n1, _, k1, e1, _, _, h1, h2, h3⟩ := HPS.o.o
      rcases h3 with ⟨_, h3⟩ | ⟨_, h3⟩
      · injection h3 with h3; rw [h3, List.length_drop]; omega
      · cases h3)
    clear her hps
    obtain ⟨rl, hrl⟩ : ∃ rl, r.length = rl := ⟨_, rfl⟩
    have PL := pleft_calls w5 g l r HPS.o hl
    rw [hrl] at PL HRL
    replace PL := hd PL
    have HRLN := hd hrl
    clear hrl
    go_wp2_with fail
    refine PL.o.mono ?_
    rintro e w10 ⟨rfl, hb10⟩
    have HZ10 := hd (HZ5.o.below hb10 hzz)
    have HQ10 := hd (HQ5.o.below hb10 HQ5.o.lt)
    have HB10 := hd (HB5.o.trans (hb10.mono HB5.o.size))
    skip
    clear hb10 z0 z1 z2 z3 z4 z5 z6 z7 z8 z9 z10 f0 f1 f2 f3 f4 f5 f6 f7 f8 f9 f10 hzz x0 x1 lx
    have z0 := HZ10.o.at_ 0 rfl
    have z1 := HZ10.o.at_ 1 rfl
    have z2 := HZ10.o.at_ 2 rfl
    have z3 := HZ10.o.at_ 3 rfl
    have z4 := HZ10.o.at_ 4 rfl
    have z5 := HZ10.o.at_ 5 rfl
    have z6 := HZ10.o.at_ 6 rfl
    have z7 := HZ10.o.at_ 7 rfl
    have z8 := HZ10.o.at_ 8 rfl
    have z9 := HZ10.o.at_ 9 rfl
    have z10 := HZ10.o.at_ 10 rfl
    have f0 := HZ10.o.frozen 0
    have f1 := HZ10.o.frozen 1
    have f2 := HZ10.o.frozen 2
    have f3 := HZ10.o.frozen 3
    have f4 := HZ10.o.frozen 4
    have f5 := HZ10.o.frozen 5
    have f6 := HZ10.o.frozen 6
    have f7 := HZ10.o.frozen 7
    have f8 := HZ10.o.frozen 8
    have f9 := HZ10.o.frozen 9
    have f10 := HZ10.o.frozen 10
    have y0 := HQ10.o.at_ 0 rfl
    have y1 := HQ10.o.at_ 1 rfl
    have y2 := HQ10.o.at_ 2 rfl
    have y3 := HQ10.o.at_ 3 rfl
    have y4 := HQ10.o.at_ 4 rfl
    have y5 := HQ10.o.at_ 5 rfl
    have y6 := HQ10.o.at_ 6 rfl
    have y7 := HQ10.o.at_ 7 rfl
    have y8 := HQ10.o.at_ 8 rfl
    have y9 := HQ10.o.at_ 9 rfl
    have y10 := HQ10.o.at_ 10 rfl
    have hzz := HZ10.o.lt
    have lq := HQ10.o.lt
    by_cases hr0 : rl = 0
    case neg =>
      have hrp : 0 < rl := by omega
      have hrd : decide ((0 : Int) < (rl : Int)) = true := by simp; omega
      have HV := hd (dec_left (by decide) HRW.o (fun e => by have := HRLN.o; rw [e] at this; exact hr0 this.symm))
      clear hr0
      go_wp2_with fail
      (try simp only [Exit.inBlock, Exit.then])
      rw [HQQ.o]
      refine bodyPost_ret (res_dec rfl (set11 HZ10.o)) rfl ?_
      exact ⟨⟨none, 0, rfl.trans (decEq HV.o).symm, by rw [HV.o]; exact Row.nil _ _ _ _, (bel11 HB10.o)⟩⟩
    case pos =>
    subst hr0
    obtain rfl : r = [] := List.eq_nil_of_length_eq_zero HRLN.o
    have HV := hd (dec_all (by decide) HRW.o)
    have CK := check_calls ⟨11, [], [], [], [], (0, 0).1, (0, 0).2, [], 0, 0, 0⟩ none 0 w10 (HTB.o _ HB10.o) (Row.rds (Row.nil w10 Non 43 5)) HSZ.o
    unfold reqV reqE at CK
    simp only [bs_self, bs_nil8, List.length_nil] at CK
    skip
    replace CK := hd CK
    go_wp2_with fail
    refine CK.o.mono ?_
    rintro e w11 ⟨rfl, hb11⟩
    have HZ11 := hd (HZ10.o.below hb11 hzz)
    have HQ11 := hd (HQ10.o.below hb11 lq)
    have HB11 := hd (HB10.o.trans (hb11.mono HB10.o.size))
    skip
    clear hb11 z0 z1 z2 z3 z4 z5 z6 z7 z8 z9 z10 f0 f1 f2 f3 f4 f5 f6 f7 f8 f9 f10 y0 y1 y2 y3 y4 y5 y6 y7 y8 y9 y10 hzz lq CK
    have z0 := HZ11.o.at_ 0 rfl
    have z1 := HZ11.o.at_ 1 rfl
    have z2 := HZ11.o.at_ 2 rfl
    have z3 := HZ11.o.at_ 3 rfl
    have z4 := HZ11.o.at_ 4 rfl
    have z5 := HZ11.o.at_ 5 rfl
    have z6 := HZ11.o.at_ 6 rfl
    have z7 := HZ11.o.at_ 7 rfl
    have z8 := HZ11.o.at_ 8 rfl
    have z9 := HZ11.o.at_ 9 rfl
    have z10 := HZ11.o.at_ 10 rfl
    have f0 := HZ11.o.frozen 0
    have f1 := HZ11.o.frozen 1
    have f2 := HZ11.o.frozen 2
    have f3 := HZ11.o.frozen 3
    have f4 := HZ11.o.frozen 4
    have f5 := HZ11.o.frozen 5
    have f6 := HZ11.o.frozen 6
    have f7 := HZ11.o.frozen 7
    have f8 := HZ11.o.frozen 8
    have f9 := HZ11.o.frozen 9
    have f10 := HZ11.o.frozen 10
    have y0 := HQ11.o.at_ 0 rfl
    have y1 := HQ11.o.at_ 1 rfl
    have y2 := HQ11.o.at_ 2 rfl
    have y3 := HQ11.o.at_ 3 rfl
    have y4 := HQ11.o.at_ 4 rfl
    have y5 := HQ11.o.at_ 5 rfl
    have y6 := HQ11.o.at_ 6 rfl
    have y7 := HQ11.o.at_ 7 rfl
    have y8 := HQ11.o.at_ 8 rfl
    have y9 := HQ11.o.at_ 9 rfl
    have y10 := HQ11.o.at_ 10 rfl
    have hzz := HZ11.o.lt
    have lq := HQ11.o.lt
    by_cases h0 : chk ⟨11, [], [], [], [], (0, 0).1, (0, 0).2, [], 0, 0, 0⟩ = 0
    · have HVY := hd (show decQ 11 l = (⟨11, [], [], [], [], (0, 0).1, (0, 0).2, [], 0, 0, 0⟩, 0) by rw [HV.o, if_pos h0])
      have h0b : (chk ⟨11, [], [], [], [], (0, 0).1, (0, 0).2, [], 0, 0, 0⟩ != 0) = false := by simpa using h0
      have H0 := hd h0
      clear h0
      go_wp2_with fail
      (try simp only [Exit.inBlock, Exit.then])
      rw [HQQ.o]
      refine bodyPost_ret (res_dec rfl (set11 HZ11.o)) rfl ?_
      exact ⟨⟨none, 0, (decOk HVY.o rfl (by first | (simp only [bs_self, bs_nil8]; done) | (simp only [bs_self, bs_nil8]; rfl))), by rw [HVY.o]; exact Row.nil _ _ _ _, (bel11 HB11.o)⟩⟩
    · have HVN := hd (show decQ 11 l = (rq0, chk ⟨11, [], [], [], [], (0, 0).1, (0, 0).2, [], 0, 0, 0⟩) by rw [HV.o, if_neg h0])
      have h0b : (chk ⟨11, [], [], [], [], (0, 0).1, (0, 0).2, [], 0, 0, 0⟩ != 0) = true := by simpa using h0
      have H0 := hd h0
      clear h0
      go_wp2_with fail
      (try simp only [Exit.inBlock, Exit.then])
      rw [HQQ.o]
      refine bodyPost_ret (res_dec rfl (set11 HZ11.o)) rfl ?_
      exact ⟨⟨none, 0, rfl.trans (decEq HVN.o).symm, by rw [HVN.o]; exact Row.nil _ _ _ _, (bel11 HB11.o)⟩⟩

end Go.Proofs.YtogjokofmfpmgaaGreatDoor
namespace Go.Proofs.YtogjokofmfpmgaaGreatDoor
open Go.RowKit

set_option maxRecDepth 100000 in
set_option maxHeartbeats 4000000 in
theorem dec_calls (k : Int) (w : World) (A : Option Addr) (n c : Nat) (l : List UInt8) (hnl : n = l.length) (hr : Rds w A n 1 (u8E l)) (hn : n ≤ 1000000) (ht : Tbs w) :
    Calls Tryz.prog 17 #[.int .i64 k, .slice A n c] w fun e w' => DecR w k l e w' := by
  cases hk : isK k with
  | true =>
    rcases kind_or hk with rfl | rfl | rfl | rfl | rfl | rfl | rfl | rfl | rfl | rfl | rfl
    · exact dec_1 w A n c l hnl hr hn ht
    · exact dec_2 w A n c l hnl hr hn ht
    · exact dec_3 w A n c l hnl hr hn ht
    · exact dec_4 w A n c l hnl hr hn ht
    · exact dec_5 w A n c l hnl hr hn ht
    · exact dec_6 w A n c l hnl hr hn ht
    · exact dec_7 w A n c l hnl hr hn ht
    · exact dec_8 w A n c l hnl hr hn ht
    · exact dec_9 w A n c l hnl hr hn ht
    · exact dec_10 w A n c l hnl hr hn ht
    · exact dec_11 w A n c l hnl hr hn ht
  | false =>
    have C0 := fun W => isk_calls k W
    rw [hk] at C0
    have HV := hd (dec_isk (l := l) hk)
    replace C0 := hd C0
    obtain ⟨w0, hw0⟩ : ∃ w0, w0 = w.alloc (.cells #[.int .i64 0, .string ⟨#[]⟩, .string ⟨#[]⟩, .string ⟨#[]⟩, .string ⟨#[]⟩, .int .i64 0, .int .i64 0, .slice none 0 0, .int .i64 0, .int .i64 0, .int .i64 0] 26) := ⟨_, rfl⟩
    have HZ0 := hd (show Blk w0 w.heap.size 26 #[.int .i64 0, .string ⟨#[]⟩, .string ⟨#[]⟩, .string ⟨#[]⟩, .string ⟨#[]⟩, .int .i64 0, .int .i64 0, .slice none 0 0, .int .i64 0, .int .i64 0, .int .i64 0] by rw [hw0]; exact Blk.new _ _ _)
    have HB0 := hd (show Below w.heap.size w w0 by rw [hw0]; exact (Below.refl _ w).alloc (Nat.le_refl _) _)
    have hz0 := HZ0.o.lt
    have z0 := HZ0.o.at_ 0 rfl
    have z1 := HZ0.o.at_ 1 rfl
    have z2 := HZ0.o.at_ 2 rfl
    have z3 := HZ0.o.at_ 3 rfl
    have z4 := HZ0.o.at_ 4 rfl
    have z5 := HZ0.o.at_ 5 rfl
    have z6 := HZ0.o.at_ 6 rfl
    have z7 := HZ0.o.at_ 7 rfl
    have z8 := HZ0.o.at_ 8 rfl
    have z9 := HZ0.o.at_ 9 rfl
    have z10 := HZ0.o.at_ 10 rfl
    have f0 := HZ0.o.frozen 0
    have f1 := HZ0.o.frozen 1
    have f2 := HZ0.o.frozen 2
    have f3 := HZ0.o.frozen 3
    have f4 := HZ0.o.frozen 4
    have f5 := HZ0.o.frozen 5
    have f6 := HZ0.o.frozen 6
    have f7 := HZ0.o.frozen 7
    have f8 := HZ0.o.frozen 8
    have f9 := HZ0.o.frozen 9
    have f10 := HZ0.o.frozen 10
    have HW0 := hd hw0
    clear hnl hr ht hw0 hk
    go_enter Tryz.func17, Tryz.ntmps17
    go_upto_region 1 with (fail)
    rw [← HW0.o]
    go_wp2_with (go_at_call 51; refine (C0.o _).mono ?_; rintro e w' ⟨rfl, rfl⟩)
    (try simp only [Exit.inBlock, Exit.then])
    refine bodyPost_ret (res_dec rfl (set11 HZ0.o)) rfl ?_
    exact ⟨⟨none, 0, rfl.trans (decEq HV.o).symm, by rw [HV.o]; exact Row.nil _ _ _ _, (bel11 HB0.o)⟩⟩

end Go.Proofs.YtogjokofmfpmgaaGreatDoor
namespace Go.Proofs.YtogjokofmfpmgaaGreatDoor
open Go.RowKit
end Go.Proofs.YtogjokofmfpmgaaGreatDoor
namespace Go.Proofs.YtogjokofmfpmgaaGreatDoor
open Go.RowKit Go.Lib

theorem day_may {v : List UInt8} (h : cleanT v = v ∧ cleanE v = 0) (hd : DayT v) : MayF ⟨5, 0, v⟩ := by
  refine ⟨?_, ?_⟩
  · show (if okKL 5 0 then valE 5 v else 1) = 0
    rw [if_pos (by decide)]
    unfold valE
    rw [if_neg (by decide), if_neg (by decide), if_neg (fun h' => h'.2.2 (by rw [h.1]; exact hd))]
    exact h.2
  · show valT 5 v = v
    unfold valT
    rw [if_neg (by decide), if_neg (by decide)]
    exact h.1
end Go.Proofs.YtogjokofmfpmgaaGreatDoor
