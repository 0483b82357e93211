/-
  Requests: Encode.
-/
import Derived.Test.YtogjokofmfpmgaaGreatDoorGAK
import Derived.Test.YtogjokofmfpmgaaGreatDoorGAL
set_option linter.unusedVariables false
set_option linter.unusedSimpArgs false
namespace Go.Proofs.YtogjokofmfpmgaaGreatDoor
open Go.RowKit

theorem Rds.nil8 (w : World) : Rds w none 0 1 (u8E []) := ⟨rfl, fun h => by omega⟩
/-- What Encode hands back. -/
structure EncR (w : World) (q : Rq) (e : Ending) (w' : World) : Prop where
  yes : chk q = 0 → ∃ (A : Option Addr) (m c : Nat), e = .returned (.tuple #[.slice A m c, .int .i64 0]) ∧ m = (encB q).length ∧ Row w' (From w.heap.size) 5 1 A m c (u8E (encB q)) ∧ Below w.heap.size w w'
  no : chk q ≠ 0 → e = .returned (.tuple #[.slice none 0 0, .int .i64 (chk q)]) ∧ Below w.heap.size w w'
theorem ops_bound {q : Rq} (h : chk q = 0) (hb : RqB q) : q.ops.length ≤ 8 ∧ ∀ o ∈ q.ops, (opB o).length ≤ 1000 ∧ o.uid.length ≤ 80000 ∧ o.card.length ≤ 80000 ∧ I64b o.ck ∧ I64b o.cv := by
  obtain ⟨h1, h2, h3, h4, h5⟩ := chk_0 h
  have s := (stray_iff q).1 h2
  unfold namedB at h3
  simp only [Bool.and_eq_true, Bool.or_eq_true, Bool.not_eq_true', List.all_eq_true] at h3
  unfold formedB at h4
  simp only [Bool.and_eq_true, Bool.or_eq_true, Bool.not_eq_true', List.all_eq_true] at h4
  unfold outB at h5
  simp only [Bool.or_eq_false_iff, Bool.and_eq_false_iff, decide_eq_false_iff_not] at h5
  obtain ⟨⟨⟨⟨r1, _⟩, _⟩, _⟩, _⟩ := h5
  refine ⟨?_, fun o ho => ?_⟩
  · rcases r1 with h | h
    · rw [s.ops h]; simp
    · omega
  · have hu := uid_len (h3.2 o ho)
    have hf := h4.2 o ho
    have hB := hb.ops o ho
    have k1 := numB_le hB.1.2
    have k2 := numB_le hB.2.2
    have k3 := textB_len (s := o.uid) (by omega)
    have hc : o.card.length ≤ 900 := by
      rcases hf.1 with h | h
      · rw [s.del o ho h]; simp
      · exact is_len h
    have k4 := textB_len (s := o.card) (by omega)
    have k5 : (numB 0).length ≤ 9 := numB_le (by decide)
    have k6 : (numB 1).length ≤ 9 := numB_le (by decide)
    refine ⟨?_, by omega, by omega, hB.1, hB.2⟩
    unfold opB condB
    split <;> (simp only [List.length_append]; omega)

set_option maxRecDepth 100000 in
set_option maxHeartbeats 8000000 in
theorem enc_1 (tn col uid card : List UInt8) (ck cv : Int) (ops : List OpV) (tok most ticks : Int) (A : Option Addr) (c : Nat) (w : World) (ht : Tbs w) (hr : Rds w A ops.length 5 (opsE ops)) (hs : RqS ⟨1, tn, col, uid, card, ck, cv, ops, tok, most, ticks⟩) (hB : RqB ⟨1, tn, col, uid, card, ck, cv, ops, tok, most, ticks⟩) (h0 : chk ⟨1, tn, col, uid, card, ck, cv, ops, tok, most, ticks⟩ = 0) :
    Calls Tryz.prog 15 #[reqV ⟨1, tn, col, uid, card, ck, cv, ops, tok, most, ticks⟩ A c] w fun e w' => EncR w ⟨1, tn, col, uid, card, ck, cv, ops, tok, most, ticks⟩ e w' := by
  have rr := raw_of h0 hB
  obtain ⟨hb8, hbo⟩ := ops_bound h0 hB
  have Htn := hd (show tn.length ≤ 20000 from rr.tn.1)
  have Hcol := hd (show col.length ≤ 20000 from rr.col.1)
  have Huid := hd (show uid.length ≤ 20000 from rr.uid.1)
  have Hcard := hd (show card.length ≤ 20000 from rr.card.1)
  have Hck := hd (show I64b ck from hB.ck)
  have Hcv := hd (show I64b cv from hB.cv)
  have Htok := hd (show -9223372036854775808 ≤ tok ∧ tok ≤ 9223372036854775807 from hB.tok)
  have Hmost := hd (show -9223372036854775808 ≤ most ∧ most ≤ 9223372036854775807 from hB.most)
  have Hticks := hd (show -9223372036854775808 ≤ ticks ∧ ticks ≤ 9223372036854775807 from hB.ticks)
  have Ltn := hd (show (textB tn).length ≤ 20009 from by have := textB_len Htn.o; have := Htn.o; omega)
  have Lcol := hd (show (textB col).length ≤ 20009 from by have := textB_len Hcol.o; have := Hcol.o; omega)
  have Luid := hd (show (textB uid).length ≤ 20009 from by have := textB_len Huid.o; have := Huid.o; omega)
  have Lcard := hd (show (textB card).length ≤ 20009 from by have := textB_len Hcard.o; have := Hcard.o; omega)
  have Lcond := hd (show (condB ck cv).length ≤ 18 from by
    have h1 := numB_len9 (v := ck) hB.ck
    have h2 := numB_len9 (v := cv) hB.cv
    unfold condB
    rw [List.length_append]; omega)
  have Ltok := hd (show (numB tok).length ≤ 18 from by have := numB_len9 (v := tok) hB.tok; omega)
  have Lmost := hd (show (numB most).length ≤ 18 from by have := numB_len9 (v := most) hB.most; omega)
  have Lticks := hd (show (numB ticks).length ≤ 18 from by have := numB_len9 (v := ticks) hB.ticks; omega)
  have HOB := hd (show ∀ o ∈ ops, (opB o).length ≤ 1000 ∧ o.uid.length ≤ 80000 ∧ o.card.length ≤ 80000 ∧ I64b o.ck ∧ I64b o.cv from hbo)
  have C2 := hd (fun W => show Calls Tryz.prog 42 #[.int .i64 1] W fun e w' => e = .returned (.agg #[.bool true, .bool false, .bool false, .bool false, .bool false, .bool false, .bool false, .bool false, .bool false]) ∧ Below W.heap.size W w' from fields_calls 1 (by decide) W)
  obtain ⟨n, hn⟩ : ∃ n, ops.length = n := ⟨_, rfl⟩
  have C1 := fun W (h : Below w.heap.size w W) => check_calls ⟨1, tn, col, uid, card, ck, cv, ops, tok, most, ticks⟩ A c W (ht.below h) (hr.below h) hs
  rw [h0] at C1
  unfold reqV reqE at *
  simp only at C1 hb8 ⊢
  rw [hn] at C1 hr hb8 ⊢
  have HNN := hd hn
  have Ln := hd (show (numB (n : Int)).length ≤ 18 from by have := numB_len9 (v := (n : Int)) ⟨by omega, by omega⟩; omega)
  have HRD := hd hr
  have H0 := hd h0
  obtain ⟨Y, hY⟩ : ∃ Y, Y = w.alloc (.cells #[.int .i64 1, .string (bs tn), .string (bs col), .string (bs uid), .string (bs card), .int .i64 ck, .int .i64 cv, .slice A n c, .int .i64 tok, .int .i64 most, .int .i64 ticks] 26) := ⟨_, rfl⟩
  have HK := hd (show Blk Y w.heap.size 26 #[.int .i64 1, .string (bs tn), .string (bs col), .string (bs uid), .string (bs card), .int .i64 ck, .int .i64 cv, .slice A n c, .int .i64 tok, .int .i64 most, .int .i64 ticks] by rw [hY]; exact Blk.new _ _ _)
  have HBY := hd (show Below w.heap.size w Y by rw [hY]; exact (Below.refl _ w).alloc (Nat.le_refl _) _)
  have HYY := hd hY
  replace C1 := hd (C1 Y HBY.o)
  have y0 := HK.o.at_ 0 rfl
  have y1 := HK.o.at_ 1 rfl
  have y2 := HK.o.at_ 2 rfl
  have y3 := HK.o.at_ 3 rfl
  have y4 := HK.o.at_ 4 rfl
  have y5 := HK.o.at_ 5 rfl
  have y6 := HK.o.at_ 6 rfl
  have y7 := HK.o.at_ 7 rfl
  have y8 := HK.o.at_ 8 rfl
  have y9 := HK.o.at_ 9 rfl
  have y10 := HK.o.at_ 10 rfl
  have hl0 := HK.o.lt
  clear rr hbo hn hr hs hB h0 ht hY
  have HE := hd (show encB ⟨1, tn, col, uid, card, ck, cv, ops, tok, most, ticks⟩ = textB tn by simp [encB, eT, eN, eC, eO, hT, hC, hU, hCd, hCn, hO, hTk, hM, hTi])
  go_enter Tryz.func15, Tryz.ntmps15
  go_upto_region 1 with (fail)
  rw [← HYY.o]
  go_wp2_with fail
  refine C1.o.mono ?_
  rintro e w1 ⟨rfl, hb1⟩
  have hk1 := HK.o.below hb1 hl0
  have a0 := hk1.at_ 0 rfl
  have HK1 := hd hk1
  have hl1 := hk1.lt
  have HB1 := hd (HBY.o.trans (hb1.mono HBY.o.size))
  clear hb1 hk1 y0 y1 y2 y3 y4 y5 y6 y7 y8 y9 y10 hl0
  go_wp2_with fail
  refine (C2.o _).mono ?_
  rintro e w2 ⟨rfl, hb2⟩
  have hk2 := HK1.o.below hb2 hl1
  have HB2 := hd (HB1.o.trans (hb2.mono HB1.o.size))
  obtain ⟨w3, hw3⟩ : ∃ w3, w3 = w2.alloc (.cells #[.bool true, .bool false, .bool false, .bool false, .bool false, .bool false, .bool false, .bool false, .bool false] 78) := ⟨_, rfl⟩
  have HK3 := hd (show Blk w3 w.heap.size 26 #[.int .i64 1, .string (bs tn), .string (bs col), .string (bs uid), .string (bs card), .int .i64 ck, .int .i64 cv, .slice A n c, .int .i64 tok, .int .i64 most, .int .i64 ticks] by rw [hw3]; exact hk2.alloc _)
  have HH3 := hd (show Blk w3 w2.heap.size 78 #[.bool true, .bool false, .bool false, .bool false, .bool false, .bool false, .bool false, .bool false, .bool false] by rw [hw3]; exact Blk.new _ _ _)
  have HB3 := hd (show Below w.heap.size w w3 by rw [hw3]; exact HB2.o.alloc HB2.o.size _)
  have HS3 := hd (Rds.nil8 w3)
  have hm3 : (0 : Nat) ≤ 0 := Nat.le_refl _
  have HN3 := hd (show (0 : Nat) = ([] : List UInt8).length from rfl)
  have HW3 := hd hw3
  clear hb2 hk2 hw3 a0 hl1 C1 C2 HK1
  have a0 := HK3.o.at_ 0 rfl
  have a1 := HK3.o.at_ 1 rfl
  have a2 := HK3.o.at_ 2 rfl
  have a3 := HK3.o.at_ 3 rfl
  have a4 := HK3.o.at_ 4 rfl
  have a5 := HK3.o.at_ 5 rfl
  have a6 := HK3.o.at_ 6 rfl
  have a7 := HK3.o.at_ 7 rfl
  have a8 := HK3.o.at_ 8 rfl
  have a9 := HK3.o.at_ 9 rfl
  have a10 := HK3.o.at_ 10 rfl
  have e0 := HH3.o.at_ 0 rfl
  have e1 := HH3.o.at_ 1 rfl
  have e2 := HH3.o.at_ 2 rfl
  have e3 := HH3.o.at_ 3 rfl
  have e4 := HH3.o.at_ 4 rfl
  have e5 := HH3.o.at_ 5 rfl
  have e6 := HH3.o.at_ 6 rfl
  have e7 := HH3.o.at_ 7 rfl
  have e8 := HH3.o.at_ 8 rfl
  have la := HK3.o.lt
  have lh := HH3.o.lt
  go_upto_region 5 with (fail)
  rw [← HW3.o]
  go_wp2_with fail
  refine (ptext_calls _ none 0 0 _ (bs tn) HN3.o HS3.o (by omega) (by rw [bs_size]; have := Htn.o; omega)).mono ?_
  rintro e w4 ⟨⟨B4, m4, d4, rfl, hm4, hr4, hb4⟩⟩
  rw [bs_data] at hm4 hr4
  have hq4 : m4 ≤ 20009 := by
    have h1 := HN3.o
    have h2 := Ltn.o
    rw [hm4, List.length_append, ← h1]
    omega
  have HN4 := hd hm4
  have HR4 := hd hr4.rds
  have HW4 := hd (hr4.mono (T := From w.heap.size) (fun q hq => Nat.le_trans HB3.o.size hq))
  have HB4 := hd (HB3.o.trans (hb4.mono HB3.o.size))
  have HK4 := hd (HK3.o.below hb4 la)
  have HH4 := hd (HH3.o.below hb4 lh)
  clear hm4 hr4 hb4 la lh a0 a1 a2 a3 a4 a5 a6 a7 a8 a9 a10 e0 e1 e2 e3 e4 e5 e6 e7 e8
  have a0 := HK4.o.at_ 0 rfl
  have a1 := HK4.o.at_ 1 rfl
  have a2 := HK4.o.at_ 2 rfl
  have a3 := HK4.o.at_ 3 rfl
  have a4 := HK4.o.at_ 4 rfl
  have a5 := HK4.o.at_ 5 rfl
  have a6 := HK4.o.at_ 6 rfl
  have a7 := HK4.o.at_ 7 rfl
  have a8 := HK4.o.at_ 8 rfl
  have a9 := HK4.o.at_ 9 rfl
  have a10 := HK4.o.at_ 10 rfl
  have e0 := HH4.o.at_ 0 rfl
  have e1 := HH4.o.at_ 1 rfl
  have e2 := HH4.o.at_ 2 rfl
  have e3 := HH4.o.at_ 3 rfl
  have e4 := HH4.o.at_ 4 rfl
  have e5 := HH4.o.at_ 5 rfl
  have e6 := HH4.o.at_ 6 rfl
  have e7 := HH4.o.at_ 7 rfl
  have e8 := HH4.o.at_ 8 rfl
  have la := HK4.o.lt
  have lh := HH4.o.lt
  have HE2 := hd (show [] ++ textB tn = encB ⟨1, tn, col, uid, card, ck, cv, ops, tok, most, ticks⟩ by rw [HE.o]; simp)
  go_wp2
  go_ret2
  exact ⟨fun _ => ⟨B4, m4, d4, rfl, by rw [HN4.o, HE2.o], by rw [← HE2.o]; exact HW4.o, HB4.o⟩, fun h => absurd H0.o h⟩

set_option maxRecDepth 100000 in
set_option maxHeartbeats 8000000 in
theorem enc_2 (tn col uid card : List UInt8) (ck cv : Int) (ops : List OpV) (tok most ticks : Int) (A : Option Addr) (c : Nat) (w : World) (ht : Tbs w) (hr : Rds w A ops.length 5 (opsE ops)) (hs : RqS ⟨2, tn, col, uid, card, ck, cv, ops, tok, most, ticks⟩) (hB : RqB ⟨2, tn, col, uid, card, ck, cv, ops, tok, most, ticks⟩) (h0 : chk ⟨2, tn, col, uid, card, ck, cv, ops, tok, most, ticks⟩ = 0) :
    Calls Tryz.prog 15 #[reqV ⟨2, tn, col, uid, card, ck, cv, ops, tok, most, ticks⟩ A c] w fun e w' => EncR w ⟨2, tn, col, uid, card, ck, cv, ops, tok, most, ticks⟩ e w' := by
  have rr := raw_of h0 hB
  obtain ⟨hb8, hbo⟩ := ops_bound h0 hB
  have Htn := hd (show tn.length ≤ 20000 from rr.tn.1)
  have Hcol := hd (show col.length ≤ 20000 from rr.col.1)
  have Huid := hd (show uid.length ≤ 20000 from rr.uid.1)
  have Hcard := hd (show card.length ≤ 20000 from rr.card.1)
  have Hck := hd (show I64b ck from hB.ck)
  have Hcv := hd (show I64b cv from hB.cv)
  have Htok := hd (show -9223372036854775808 ≤ tok ∧ tok ≤ 9223372036854775807 from hB.tok)
  have Hmost := hd (show -9223372036854775808 ≤ most ∧ most ≤ 9223372036854775807 from hB.most)
  have Hticks := hd (show -9223372036854775808 ≤ ticks ∧ ticks ≤ 9223372036854775807 from hB.ticks)
  have Ltn := hd (show (textB tn).length ≤ 20009 from by have := textB_len Htn.o; have := Htn.o; omega)
  have Lcol := hd (show (textB col).length ≤ 20009 from by have := textB_len Hcol.o; have := Hcol.o; omega)
  have Luid := hd (show (textB uid).length ≤ 20009 from by have := textB_len Huid.o; have := Huid.o; omega)
  have Lcard := hd (show (textB card).length ≤ 20009 from by have := textB_len Hcard.o; have := Hcard.o; omega)
  have Lcond := hd (show (condB ck cv).length ≤ 18 from by
    have h1 := numB_len9 (v := ck) hB.ck
    have h2 := numB_len9 (v := cv) hB.cv
    unfold condB
    rw [List.length_append]; omega)
  have Ltok := hd (show (numB tok).length ≤ 18 from by have := numB_len9 (v := tok) hB.tok; omega)
  have Lmost := hd (show (numB most).length ≤ 18 from by have := numB_len9 (v := most) hB.most; omega)
  have Lticks := hd (show (numB ticks).length ≤ 18 from by have := numB_len9 (v := ticks) hB.ticks; omega)
  have HOB := hd (show ∀ o ∈ ops, (opB o).length ≤ 1000 ∧ o.uid.length ≤ 80000 ∧ o.card.length ≤ 80000 ∧ I64b o.ck ∧ I64b o.cv from hbo)
  have C2 := hd (fun W => show Calls Tryz.prog 42 #[.int .i64 2] W fun e w' => e = .returned (.agg #[.bool false, .bool true, .bool false, .bool false, .bool false, .bool false, .bool false, .bool false, .bool false]) ∧ Below W.heap.size W w' from fields_calls 2 (by decide) W)
  obtain ⟨n, hn⟩ : ∃ n, ops.length = n := ⟨_, rfl⟩
  have C1 := fun W (h : Below w.heap.size w W) => check_calls ⟨2, tn, col, uid, card, ck, cv, ops, tok, most, ticks⟩ A c W (ht.below h) (hr.below h) hs
  rw [h0] at C1
  unfold reqV reqE at *
  simp only at C1 hb8 ⊢
  rw [hn] at C1 hr hb8 ⊢
  have HNN := hd hn
  have Ln := hd (show (numB (n : Int)).length ≤ 18 from by have := numB_len9 (v := (n : Int)) ⟨by omega, by omega⟩; omega)
  have HRD := hd hr
  have H0 := hd h0
  obtain ⟨Y, hY⟩ : ∃ Y, Y = w.alloc (.cells #[.int .i64 2, .string (bs tn), .string (bs col), .string (bs uid), .string (bs card), .int .i64 ck, .int .i64 cv, .slice A n c, .int .i64 tok, .int .i64 most, .int .i64 ticks] 26) := ⟨_, rfl⟩
  have HK := hd (show Blk Y w.heap.size 26 #[.int .i64 2, .string (bs tn), .string (bs col), .string (bs uid), .string (bs card), .int .i64 ck, .int .i64 cv, .slice A n c, .int .i64 tok, .int .i64 most, .int .i64 ticks] by rw [hY]; exact Blk.new _ _ _)
  have HBY := hd (show Below w.heap.size w Y by rw [hY]; exact (Below.refl _ w).alloc (Nat.le_refl _) _)
  have HYY := hd hY
  replace C1 := hd (C1 Y HBY.o)
  have y0 := HK.o.at_ 0 rfl
  have y1 := HK.o.at_ 1 rfl
  have y2 := HK.o.at_ 2 rfl
  have y3 := HK.o.at_ 3 rfl
  have y4 := HK.o.at_ 4 rfl
  have y5 := HK.o.at_ 5 rfl
  have y6 := HK.o.at_ 6 rfl
  have y7 := HK.o.at_ 7 rfl
  have y8 := HK.o.at_ 8 rfl
  have y9 := HK.o.at_ 9 rfl
  have y10 := HK.o.at_ 10 rfl
  have hl0 := HK.o.lt
  clear rr hbo hn hr hs hB h0 ht hY
  have HE := hd (show encB ⟨2, tn, col, uid, card, ck, cv, ops, tok, most, ticks⟩ = textB col by simp [encB, eT, eN, eC, eO, hT, hC, hU, hCd, hCn, hO, hTk, hM, hTi])
  go_enter Tryz.func15, Tryz.ntmps15
  go_upto_region 1 with (fail)
  rw [← HYY.o]
  go_wp2_with fail
  refine C1.o.mono ?_
  rintro e w1 ⟨rfl, hb1⟩
  have hk1 := HK.o.below hb1 hl0
  have a0 := hk1.at_ 0 rfl
  have HK1 := hd hk1
  have hl1 := hk1.lt
  have HB1 := hd (HBY.o.trans (hb1.mono HBY.o.size))
  clear hb1 hk1 y0 y1 y2 y3 y4 y5 y6 y7 y8 y9 y10 hl0
  go_wp2_with fail
  refine (C2.o _).mono ?_
  rintro e w2 ⟨rfl, hb2⟩
  have hk2 := HK1.o.below hb2 hl1
  have HB2 := hd (HB1.o.trans (hb2.mono HB1.o.size))
  obtain ⟨w3, hw3⟩ : ∃ w3, w3 = w2.alloc (.cells #[.bool false, .bool true, .bool false, .bool false, .bool false, .bool false, .bool false, .bool false, .bool false] 78) := ⟨_, rfl⟩
  have HK3 := hd (show Blk w3 w.heap.size 26 #[.int .i64 2, .string (bs tn), .string (bs col), .string (bs uid), .string (bs card), .int .i64 ck, .int .i64 cv, .slice A n c, .int .i64 tok, .int .i64 most, .int .i64 ticks] by rw [hw3]; exact hk2.alloc _)
  have HH3 := hd (show Blk w3 w2.heap.size 78 #[.bool false, .bool true, .bool false, .bool false, .bool false, .bool false, .bool false, .bool false, .bool false] by rw [hw3]; exact Blk.new _ _ _)
  have HB3 := hd (show Below w.heap.size w w3 by rw [hw3]; exact HB2.o.alloc HB2.o.size _)
  have HS3 := hd (Rds.nil8 w3)
  have hm3 : (0 : Nat) ≤ 0 := Nat.le_refl _
  have HN3 := hd (show (0 : Nat) = ([] : List UInt8).length from rfl)
  have HW3 := hd hw3
  clear hb2 hk2 hw3 a0 hl1 C1 C2 HK1
  have a0 := HK3.o.at_ 0 rfl
  have a1 := HK3.o.at_ 1 rfl
  have a2 := HK3.o.at_ 2 rfl
  have a3 := HK3.o.at_ 3 rfl
  have a4 := HK3.o.at_ 4 rfl
  have a5 := HK3.o.at_ 5 rfl
  have a6 := HK3.o.at_ 6 rfl
  have a7 := HK3.o.at_ 7 rfl
  have a8 := HK3.o.at_ 8 rfl
  have a9 := HK3.o.at_ 9 rfl
  have a10 := HK3.o.at_ 10 rfl
  have e0 := HH3.o.at_ 0 rfl
  have e1 := HH3.o.at_ 1 rfl
  have e2 := HH3.o.at_ 2 rfl
  have e3 := HH3.o.at_ 3 rfl
  have e4 := HH3.o.at_ 4 rfl
  have e5 := HH3.o.at_ 5 rfl
  have e6 := HH3.o.at_ 6 rfl
  have e7 := HH3.o.at_ 7 rfl
  have e8 := HH3.o.at_ 8 rfl
  have la := HK3.o.lt
  have lh := HH3.o.lt
  go_upto_region 5 with (fail)
  rw [← HW3.o]
  go_wp2_with fail
  refine (ptext_calls _ none 0 0 _ (bs col) HN3.o HS3.o (by omega) (by rw [bs_size]; have := Hcol.o; omega)).mono ?_
  rintro e w4 ⟨⟨B4, m4, d4, rfl, hm4, hr4, hb4⟩⟩
  rw [bs_data] at hm4 hr4
  have hq4 : m4 ≤ 20009 := by
    have h1 := HN3.o
    have h2 := Lcol.o
    rw [hm4, List.length_append, ← h1]
    omega
  have HN4 := hd hm4
  have HR4 := hd hr4.rds
  have HW4 := hd (hr4.mono (T := From w.heap.size) (fun q hq => Nat.le_trans HB3.o.size hq))
  have HB4 := hd (HB3.o.trans (hb4.mono HB3.o.size))
  have HK4 := hd (HK3.o.below hb4 la)
  have HH4 := hd (HH3.o.below hb4 lh)
  clear hm4 hr4 hb4 la lh a0 a1 a2 a3 a4 a5 a6 a7 a8 a9 a10 e0 e1 e2 e3 e4 e5 e6 e7 e8
  have a0 := HK4.o.at_ 0 rfl
  have a1 := HK4.o.at_ 1 rfl
  have a2 := HK4.o.at_ 2 rfl
  have a3 := HK4.o.at_ 3 rfl
  have a4 := HK4.o.at_ 4 rfl
  have a5 := HK4.o.at_ 5 rfl
  have a6 := HK4.o.at_ 6 rfl
  have a7 := HK4.o.at_ 7 rfl
  have a8 := HK4.o.at_ 8 rfl
  have a9 := HK4.o.at_ 9 rfl
  have a10 := HK4.o.at_ 10 rfl
  have e0 := HH4.o.at_ 0 rfl
  have e1 := HH4.o.at_ 1 rfl
  have e2 := HH4.o.at_ 2 rfl
  have e3 := HH4.o.at_ 3 rfl
  have e4 := HH4.o.at_ 4 rfl
  have e5 := HH4.o.at_ 5 rfl
  have e6 := HH4.o.at_ 6 rfl
  have e7 := HH4.o.at_ 7 rfl
  have e8 := HH4.o.at_ 8 rfl
  have la := HK4.o.lt
  have lh := HH4.o.lt
  have HE2 := hd (show [] ++ textB col = encB ⟨2, tn, col, uid, card, ck, cv, ops, tok, most, ticks⟩ by rw [HE.o]; simp)
  go_wp2
  go_ret2
  exact ⟨fun _ => ⟨B4, m4, d4, rfl, by rw [HN4.o, HE2.o], by rw [← HE2.o]; exact HW4.o, HB4.o⟩, fun h => absurd H0.o h⟩

set_option maxRecDepth 100000 in
set_option maxHeartbeats 8000000 in
theorem enc_3 (tn col uid card : List UInt8) (ck cv : Int) (ops : List OpV) (tok most ticks : Int) (A : Option Addr) (c : Nat) (w : World) (ht : Tbs w) (hr : Rds w A ops.length 5 (opsE ops)) (hs : RqS ⟨3, tn, col, uid, card, ck, cv, ops, tok, most, ticks⟩) (hB : RqB ⟨3, tn, col, uid, card, ck, cv, ops, tok, most, ticks⟩) (h0 : chk ⟨3, tn, col, uid, card, ck, cv, ops, tok, most, ticks⟩ = 0) :
    Calls Tryz.prog 15 #[reqV ⟨3, tn, col, uid, card, ck, cv, ops, tok, most, ticks⟩ A c] w fun e w' => EncR w ⟨3, tn, col, uid, card, ck, cv, ops, tok, most, ticks⟩ e w' := by
  have rr := raw_of h0 hB
  obtain ⟨hb8, hbo⟩ := ops_bound h0 hB
  have Htn := hd (show tn.length ≤ 20000 from rr.tn.1)
  have Hcol := hd (show col.length ≤ 20000 from rr.col.1)
  have Huid := hd (show uid.length ≤ 20000 from rr.uid.1)
  have Hcard := hd (show card.length ≤ 20000 from rr.card.1)
  have Hck := hd (show I64b ck from hB.ck)
  have Hcv := hd (show I64b cv from hB.cv)
  have Htok := hd (show -9223372036854775808 ≤ tok ∧ tok ≤ 9223372036854775807 from hB.tok)
  have Hmost := hd (show -9223372036854775808 ≤ most ∧ most ≤ 9223372036854775807 from hB.most)
  have Hticks := hd (show -9223372036854775808 ≤ ticks ∧ ticks ≤ 9223372036854775807 from hB.ticks)
  have Ltn := hd (show (textB tn).length ≤ 20009 from by have := textB_len Htn.o; have := Htn.o; omega)
  have Lcol := hd (show (textB col).length ≤ 20009 from by have := textB_len Hcol.o; have := Hcol.o; omega)
  have Luid := hd (show (textB uid).length ≤ 20009 from by have := textB_len Huid.o; have := Huid.o; omega)
  have Lcard := hd (show (textB card).length ≤ 20009 from by have := textB_len Hcard.o; have := Hcard.o; omega)
  have Lcond := hd (show (condB ck cv).length ≤ 18 from by
    have h1 := numB_len9 (v := ck) hB.ck
    have h2 := numB_len9 (v := cv) hB.cv
    unfold condB
    rw [List.length_append]; omega)
  have Ltok := hd (show (numB tok).length ≤ 18 from by have := numB_len9 (v := tok) hB.tok; omega)
  have Lmost := hd (show (numB most).length ≤ 18 from by have := numB_len9 (v := most) hB.most; omega)
  have Lticks := hd (show (numB ticks).length ≤ 18 from by have := numB_len9 (v := ticks) hB.ticks; omega)
  have HOB := hd (show ∀ o ∈ ops, (opB o).length ≤ 1000 ∧ o.uid.length ≤ 80000 ∧ o.card.length ≤ 80000 ∧ I64b o.ck ∧ I64b o.cv from hbo)
  have C2 := hd (fun W => show Calls Tryz.prog 42 #[.int .i64 3] W fun e w' => e = .returned (.agg #[.bool false, .bool true, .bool false, .bool false, .bool false, .bool false, .bool false, .bool false, .bool false]) ∧ Below W.heap.size W w' from fields_calls 3 (by decide) W)
  obtain ⟨n, hn⟩ : ∃ n, ops.length = n := ⟨_, rfl⟩
  have C1 := fun W (h : Below w.heap.size w W) => check_calls ⟨3, tn, col, uid, card, ck, cv, ops, tok, most, ticks⟩ A c W (ht.below h) (hr.below h) hs
  rw [h0] at C1
  unfold reqV reqE at *
  simp only at C1 hb8 ⊢
  rw [hn] at C1 hr hb8 ⊢
  have HNN := hd hn
  have Ln := hd (show (numB (n : Int)).length ≤ 18 from by have := numB_len9 (v := (n : Int)) ⟨by omega, by omega⟩; omega)
  have HRD := hd hr
  have H0 := hd h0
  obtain ⟨Y, hY⟩ : ∃ Y, Y = w.alloc (.cells #[.int .i64 3, .string (bs tn), .string (bs col), .string (bs uid), .string (bs card), .int .i64 ck, .int .i64 cv, .slice A n c, .int .i64 tok, .int .i64 most, .int .i64 ticks] 26) := ⟨_, rfl⟩
  have HK := hd (show Blk Y w.heap.size 26 #[.int .i64 3, .string (bs tn), .string (bs col), .string (bs uid), .string (bs card), .int .i64 ck, .int .i64 cv, .slice A n c, .int .i64 tok, .int .i64 most, .int .i64 ticks] by rw [hY]; exact Blk.new _ _ _)
  have HBY := hd (show Below w.heap.size w Y by rw [hY]; exact (Below.refl _ w).alloc (Nat.le_refl _) _)
  have HYY := hd hY
  replace C1 := hd (C1 Y HBY.o)
  have y0 := HK.o.at_ 0 rfl
  have y1 := HK.o.at_ 1 rfl
  have y2 := HK.o.at_ 2 rfl
  have y3 := HK.o.at_ 3 rfl
  have y4 := HK.o.at_ 4 rfl
  have y5 := HK.o.at_ 5 rfl
  have y6 := HK.o.at_ 6 rfl
  have y7 := HK.o.at_ 7 rfl
  have y8 := HK.o.at_ 8 rfl
  have y9 := HK.o.at_ 9 rfl
  have y10 := HK.o.at_ 10 rfl
  have hl0 := HK.o.lt
  clear rr hbo hn hr hs hB h0 ht hY
  have HE := hd (show encB ⟨3, tn, col, uid, card, ck, cv, ops, tok, most, ticks⟩ = textB col by simp [encB, eT, eN, eC, eO, hT, hC, hU, hCd, hCn, hO, hTk, hM, hTi])
  go_enter Tryz.func15, Tryz.ntmps15
  go_upto_region 1 with (fail)
  rw [← HYY.o]
  go_wp2_with fail
  refine C1.o.mono ?_
  rintro e w1 ⟨rfl, hb1⟩
  have hk1 := HK.o.below hb1 hl0
  have a0 := hk1.at_ 0 rfl
  have HK1 := hd hk1
  have hl1 := hk1.lt
  have HB1 := hd (HBY.o.trans (hb1.mono HBY.o.size))
  clear hb1 hk1 y0 y1 y2 y3 y4 y5 y6 y7 y8 y9 y10 hl0
  go_wp2_with fail
  refine (C2.o _).mono ?_
  rintro e w2 ⟨rfl, hb2⟩
  have hk2 := HK1.o.below hb2 hl1
  have HB2 := hd (HB1.o.trans (hb2.mono HB1.o.size))
  obtain ⟨w3, hw3⟩ : ∃ w3, w3 = w2.alloc (.cells #[.bool false, .bool true, .bool false, .bool false, .bool false, .bool false, .bool false, .bool false, .bool false] 78) := ⟨_, rfl⟩
  have HK3 := hd (show Blk w3 w.heap.size 26 #[.int .i64 3, .string (bs tn), .string (bs col), .string (bs uid), .string (bs card), .int .i64 ck, .int .i64 cv, .slice A n c, .int .i64 tok, .int .i64 most, .int .i64 ticks] by rw [hw3]; exact hk2.alloc _)
  have HH3 := hd (show Blk w3 w2.heap.size 78 #[.bool false, .bool true, .bool false, .bool false, .bool false, .bool false, .bool false, .bool false, .bool false] by rw [hw3]; exact Blk.new _ _ _)
  have HB3 := hd (show Below w.heap.size w w3 by rw [hw3]; exact HB2.o.alloc HB2.o.size _)
  have HS3 := hd (Rds.nil8 w3)
  have hm3 : (0 : Nat) ≤ 0 := Nat.le_refl _
  have HN3 := hd (show (0 : Nat) = ([] : List UInt8).length from rfl)
  have HW3 := hd hw3
  clear hb2 hk2 hw3 a0 hl1 C1 C2 HK1
  have a0 := HK3.o.at_ 0 rfl
  have a1 := HK3.o.at_ 1 rfl
  have a2 := HK3.o.at_ 2 rfl
  have a3 := HK3.o.at_ 3 rfl
  have a4 := HK3.o.at_ 4 rfl
  have a5 := HK3.o.at_ 5 rfl
  have a6 := HK3.o.at_ 6 rfl
  have a7 := HK3.o.at_ 7 rfl
  have a8 := HK3.o.at_ 8 rfl
  have a9 := HK3.o.at_ 9 rfl
  have a10 := HK3.o.at_ 10 rfl
  have e0 := HH3.o.at_ 0 rfl
  have e1 := HH3.o.at_ 1 rfl
  have e2 := HH3.o.at_ 2 rfl
  have e3 := HH3.o.at_ 3 rfl
  have e4 := HH3.o.at_ 4 rfl
  have e5 := HH3.o.at_ 5 rfl
  have e6 := HH3.o.at_ 6 rfl
  have e7 := HH3.o.at_ 7 rfl
  have e8 := HH3.o.at_ 8 rfl
  have la := HK3.o.lt
  have lh := HH3.o.lt
  go_upto_region 5 with (fail)
  rw [← HW3.o]
  go_wp2_with fail
  refine (ptext_calls _ none 0 0 _ (bs col) HN3.o HS3.o (by omega) (by rw [bs_size]; have := Hcol.o; omega)).mono ?_
  rintro e w4 ⟨⟨B4, m4, d4, rfl, hm4, hr4, hb4⟩⟩
  rw [bs_data] at hm4 hr4
  have hq4 : m4 ≤ 20009 := by
    have h1 := HN3.o
    have h2 := Lcol.o
    rw [hm4, List.length_append, ← h1]
    omega
  have HN4 := hd hm4
  have HR4 := hd hr4.rds
  have HW4 := hd (hr4.mono (T := From w.heap.size) (fun q hq => Nat.le_trans HB3.o.size hq))
  have HB4 := hd (HB3.o.trans (hb4.mono HB3.o.size))
  have HK4 := hd (HK3.o.below hb4 la)
  have HH4 := hd (HH3.o.below hb4 lh)
  clear hm4 hr4 hb4 la lh a0 a1 a2 a3 a4 a5 a6 a7 a8 a9 a10 e0 e1 e2 e3 e4 e5 e6 e7 e8
  have a0 := HK4.o.at_ 0 rfl
  have a1 := HK4.o.at_ 1 rfl
  have a2 := HK4.o.at_ 2 rfl
  have a3 := HK4.o.at_ 3 rfl
  have a4 := HK4.o.at_ 4 rfl
  have a5 := HK4.o.at_ 5 rfl
  have a6 := HK4.o.at_ 6 rfl
  have a7 := HK4.o.at_ 7 rfl
  have a8 := HK4.o.at_ 8 rfl
  have a9 := HK4.o.at_ 9 rfl
  have a10 := HK4.o.at_ 10 rfl
  have e0 := HH4.o.at_ 0 rfl
  have e1 := HH4.o.at_ 1 rfl
  have e2 := HH4.o.at_ 2 rfl
  have e3 := HH4.o.at_ 3 rfl
  have e4 := HH4.o.at_ 4 rfl
  have e5 := HH4.o.at_ 5 rfl
  have e6 := HH4.o.at_ 6 rfl
  have e7 := HH4.o.at_ 7 rfl
  have e8 := HH4.o.at_ 8 rfl
  have la := HK4.o.lt
  have lh := HH4.o.lt
  have HE2 := hd (show [] ++ textB col = encB ⟨3, tn, col, uid, card, ck, cv, ops, tok, most, ticks⟩ by rw [HE.o]; simp)
  go_wp2
  go_ret2
  exact ⟨fun _ => ⟨B4, m4, d4, rfl, by rw [HN4.o, HE2.o], by rw [← HE2.o]; exact HW4.o, HB4.o⟩, fun h => absurd H0.o h⟩

set_option maxRecDepth 100000 in
set_option maxHeartbeats 8000000 in
theorem enc_4 (tn col uid card : List UInt8) (ck cv : Int) (ops : List OpV) (tok most ticks : Int) (A : Option Addr) (c : Nat) (w : World) (ht : Tbs w) (hr : Rds w A ops.length 5 (opsE ops)) (hs : RqS ⟨4, tn, col, uid, card, ck, cv, ops, tok, most, ticks⟩) (hB : RqB ⟨4, tn, col, uid, card, ck, cv, ops, tok, most, ticks⟩) (h0 : chk ⟨4, tn, col, uid, card, ck, cv, ops, tok, most, ticks⟩ = 0) :
    Calls Tryz.prog 15 #[reqV ⟨4, tn, col, uid, card, ck, cv, ops, tok, most, ticks⟩ A c] w fun e w' => EncR w ⟨4, tn, col, uid, card, ck, cv, ops, tok, most, ticks⟩ e w' := by
  have rr := raw_of h0 hB
  obtain ⟨hb8, hbo⟩ := ops_bound h0 hB
  have Htn := hd (show tn.length ≤ 20000 from rr.tn.1)
  have Hcol := hd (show col.length ≤ 20000 from rr.col.1)
  have Huid := hd (show uid.length ≤ 20000 from rr.uid.1)
  have Hcard := hd (show card.length ≤ 20000 from rr.card.1)
  have Hck := hd (show I64b ck from hB.ck)
  have Hcv := hd (show I64b cv from hB.cv)
  have Htok := hd (show -9223372036854775808 ≤ tok ∧ tok ≤ 9223372036854775807 from hB.tok)
  have Hmost := hd (show -9223372036854775808 ≤ most ∧ most ≤ 9223372036854775807 from hB.most)
  have Hticks := hd (show -9223372036854775808 ≤ ticks ∧ ticks ≤ 9223372036854775807 from hB.ticks)
  have Ltn := hd (show (textB tn).length ≤ 20009 from by have := textB_len Htn.o; have := Htn.o; omega)
  have Lcol := hd (show (textB col).length ≤ 20009 from by have := textB_len Hcol.o; have := Hcol.o; omega)
  have Luid := hd (show (textB uid).length ≤ 20009 from by have := textB_len Huid.o; have := Huid.o; omega)
  have Lcard := hd (show (textB card).length ≤ 20009 from by have := textB_len Hcard.o; have := Hcard.o; omega)
  have Lcond := hd (show (condB ck cv).length ≤ 18 from by
    have h1 := numB_len9 (v := ck) hB.ck
    have h2 := numB_len9 (v := cv) hB.cv
    unfold condB
    rw [List.length_append]; omega)
  have Ltok := hd (show (numB tok).length ≤ 18 from by have := numB_len9 (v := tok) hB.tok; omega)
  have Lmost := hd (show (numB most).length ≤ 18 from by have := numB_len9 (v := most) hB.most; omega)
  have Lticks := hd (show (numB ticks).length ≤ 18 from by have := numB_len9 (v := ticks) hB.ticks; omega)
  have HOB := hd (show ∀ o ∈ ops, (opB o).length ≤ 1000 ∧ o.uid.length ≤ 80000 ∧ o.card.length ≤ 80000 ∧ I64b o.ck ∧ I64b o.cv from hbo)
  have C2 := hd (fun W => show Calls Tryz.prog 42 #[.int .i64 4] W fun e w' => e = .returned (.agg #[.bool false, .bool true, .bool true, .bool true, .bool true, .bool false, .bool false, .bool false, .bool false]) ∧ Below W.heap.size W w' from fields_calls 4 (by decide) W)
  obtain ⟨n, hn⟩ : ∃ n, ops.length = n := ⟨_, rfl⟩
  have C1 := fun W (h : Below w.heap.size w W) => check_calls ⟨4, tn, col, uid, card, ck, cv, ops, tok, most, ticks⟩ A c W (ht.below h) (hr.below h) hs
  rw [h0] at C1
  unfold reqV reqE at *
  simp only at C1 hb8 ⊢
  rw [hn] at C1 hr hb8 ⊢
  have HNN := hd hn
  have Ln := hd (show (numB (n : Int)).length ≤ 18 from by have := numB_len9 (v := (n : Int)) ⟨by omega, by omega⟩; omega)
  have HRD := hd hr
  have H0 := hd h0
  obtain ⟨Y, hY⟩ : ∃ Y, Y = w.alloc (.cells #[.int .i64 4, .string (bs tn), .string (bs col), .string (bs uid), .string (bs card), .int .i64 ck, .int .i64 cv, .slice A n c, .int .i64 tok, .int .i64 most, .int .i64 ticks] 26) := ⟨_, rfl⟩
  have HK := hd (show Blk Y w.heap.size 26 #[.int .i64 4, .string (bs tn), .string (bs col), .string (bs uid), .string (bs card), .int .i64 ck, .int .i64 cv, .slice A n c, .int .i64 tok, .int .i64 most, .int .i64 ticks] by rw [hY]; exact Blk.new _ _ _)
  have HBY := hd (show Below w.heap.size w Y by rw [hY]; exact (Below.refl _ w).alloc (Nat.le_refl _) _)
  have HYY := hd hY
  replace C1 := hd (C1 Y HBY.o)
  have y0 := HK.o.at_ 0 rfl
  have y1 := HK.o.at_ 1 rfl
  have y2 := HK.o.at_ 2 rfl
  have y3 := HK.o.at_ 3 rfl
  have y4 := HK.o.at_ 4 rfl
  have y5 := HK.o.at_ 5 rfl
  have y6 := HK.o.at_ 6 rfl
  have y7 := HK.o.at_ 7 rfl
  have y8 := HK.o.at_ 8 rfl
  have y9 := HK.o.at_ 9 rfl
  have y10 := HK.o.at_ 10 rfl
  have hl0 := HK.o.lt
  clear rr hbo hn hr hs hB h0 ht hY
  have HE := hd (show encB ⟨4, tn, col, uid, card, ck, cv, ops, tok, most, ticks⟩ = textB col ++ (textB uid ++ (textB card ++ (condB ck cv))) by simp [encB, eT, eN, eC, eO, hT, hC, hU, hCd, hCn, hO, hTk, hM, hTi])
  go_enter Tryz.func15, Tryz.ntmps15
  go_upto_region 1 with (fail)
  rw [← HYY.o]
  go_wp2_with fail
  refine C1.o.mono ?_
  rintro e w1 ⟨rfl, hb1⟩
  have hk1 := HK.o.below hb1 hl0
  have a0 := hk1.at_ 0 rfl
  have HK1 := hd hk1
  have hl1 := hk1.lt
  have HB1 := hd (HBY.o.trans (hb1.mono HBY.o.size))
  clear hb1 hk1 y0 y1 y2 y3 y4 y5 y6 y7 y8 y9 y10 hl0
  go_wp2_with fail
  refine (C2.o _).mono ?_
  rintro e w2 ⟨rfl, hb2⟩
  have hk2 := HK1.o.below hb2 hl1
  have HB2 := hd (HB1.o.trans (hb2.mono HB1.o.size))
  obtain ⟨w3, hw3⟩ : ∃ w3, w3 = w2.alloc (.cells #[.bool false, .bool true, .bool true, .bool true, .bool true, .bool false, .bool false, .bool false, .bool false] 78) := ⟨_, rfl⟩
  have HK3 := hd (show Blk w3 w.heap.size 26 #[.int .i64 4, .string (bs tn), .string (bs col), .string (bs uid), .string (bs card), .int .i64 ck, .int .i64 cv, .slice A n c, .int .i64 tok, .int .i64 most, .int .i64 ticks] by rw [hw3]; exact hk2.alloc _)
  have HH3 := hd (show Blk w3 w2.heap.size 78 #[.bool false, .bool true, .bool true, .bool true, .bool true, .bool false, .bool false, .bool false, .bool false] by rw [hw3]; exact Blk.new _ _ _)
  have HB3 := hd (show Below w.heap.size w w3 by rw [hw3]; exact HB2.o.alloc HB2.o.size _)
  have HS3 := hd (Rds.nil8 w3)
  have hm3 : (0 : Nat) ≤ 0 := Nat.le_refl _
  have HN3 := hd (show (0 : Nat) = ([] : List UInt8).length from rfl)
  have HW3 := hd hw3
  clear hb2 hk2 hw3 a0 hl1 C1 C2 HK1
  have a0 := HK3.o.at_ 0 rfl
  have a1 := HK3.o.at_ 1 rfl
  have a2 := HK3.o.at_ 2 rfl
  have a3 := HK3.o.at_ 3 rfl
  have a4 := HK3.o.at_ 4 rfl
  have a5 := HK3.o.at_ 5 rfl
  have a6 := HK3.o.at_ 6 rfl
  have a7 := HK3.o.at_ 7 rfl
  have a8 := HK3.o.at_ 8 rfl
  have a9 := HK3.o.at_ 9 rfl
  have a10 := HK3.o.at_ 10 rfl
  have e0 := HH3.o.at_ 0 rfl
  have e1 := HH3.o.at_ 1 rfl
  have e2 := HH3.o.at_ 2 rfl
  have e3 := HH3.o.at_ 3 rfl
  have e4 := HH3.o.at_ 4 rfl
  have e5 := HH3.o.at_ 5 rfl
  have e6 := HH3.o.at_ 6 rfl
  have e7 := HH3.o.at_ 7 rfl
  have e8 := HH3.o.at_ 8 rfl
  have la := HK3.o.lt
  have lh := HH3.o.lt
  go_upto_region 5 with (fail)
  rw [← HW3.o]
  go_wp2_with fail
  refine (ptext_calls _ none 0 0 _ (bs col) HN3.o HS3.o (by omega) (by rw [bs_size]; have := Hcol.o; omega)).mono ?_
  rintro e w4 ⟨⟨B4, m4, d4, rfl, hm4, hr4, hb4⟩⟩
  rw [bs_data] at hm4 hr4
  have hq4 : m4 ≤ 20009 := by
    have h1 := HN3.o
    have h2 := Lcol.o
    rw [hm4, List.length_append, ← h1]
    omega
  have HN4 := hd hm4
  have HR4 := hd hr4.rds
  have HW4 := hd (hr4.mono (T := From w.heap.size) (fun q hq => Nat.le_trans HB3.o.size hq))
  have HB4 := hd (HB3.o.trans (hb4.mono HB3.o.size))
  have HK4 := hd (HK3.o.below hb4 la)
  have HH4 := hd (HH3.o.below hb4 lh)
  clear hm4 hr4 hb4 la lh a0 a1 a2 a3 a4 a5 a6 a7 a8 a9 a10 e0 e1 e2 e3 e4 e5 e6 e7 e8
  have a0 := HK4.o.at_ 0 rfl
  have a1 := HK4.o.at_ 1 rfl
  have a2 := HK4.o.at_ 2 rfl
  have a3 := HK4.o.at_ 3 rfl
  have a4 := HK4.o.at_ 4 rfl
  have a5 := HK4.o.at_ 5 rfl
  have a6 := HK4.o.at_ 6 rfl
  have a7 := HK4.o.at_ 7 rfl
  have a8 := HK4.o.at_ 8 rfl
  have a9 := HK4.o.at_ 9 rfl
  have a10 := HK4.o.at_ 10 rfl
  have e0 := HH4.o.at_ 0 rfl
  have e1 := HH4.o.at_ 1 rfl
  have e2 := HH4.o.at_ 2 rfl
  have e3 := HH4.o.at_ 3 rfl
  have e4 := HH4.o.at_ 4 rfl
  have e5 := HH4.o.at_ 5 rfl
  have e6 := HH4.o.at_ 6 rfl
  have e7 := HH4.o.at_ 7 rfl
  have e8 := HH4.o.at_ 8 rfl
  have la := HK4.o.lt
  have lh := HH4.o.lt
  go_wp2_with fail
  refine (ptext_calls _ B4 m4 d4 _ (bs uid) HN4.o HR4.o (by omega) (by rw [bs_size]; have := Huid.o; omega)).mono ?_
  rintro e w5 ⟨⟨B5, m5, d5, rfl, hm5, hr5, hb5⟩⟩
  rw [bs_data] at hm5 hr5
  have hq5 : m5 ≤ 40018 := by
    have h1 := HN4.o
    have h2 := Luid.o
    rw [hm5, List.length_append, ← h1]
    omega
  have HN5 := hd hm5
  have HR5 := hd hr5.rds
  have HW5 := hd (hr5.mono (T := From w.heap.size) (fun q hq => Nat.le_trans HB4.o.size hq))
  have HB5 := hd (HB4.o.trans (hb5.mono HB4.o.size))
  have HK5 := hd (HK4.o.below hb5 la)
  have HH5 := hd (HH4.o.below hb5 lh)
  clear hm5 hr5 hb5 la lh a0 a1 a2 a3 a4 a5 a6 a7 a8 a9 a10 e0 e1 e2 e3 e4 e5 e6 e7 e8
  have a0 := HK5.o.at_ 0 rfl
  have a1 := HK5.o.at_ 1 rfl
  have a2 := HK5.o.at_ 2 rfl
  have a3 := HK5.o.at_ 3 rfl
  have a4 := HK5.o.at_ 4 rfl
  have a5 := HK5.o.at_ 5 rfl
  have a6 := HK5.o.at_ 6 rfl
  have a7 := HK5.o.at_ 7 rfl
  have a8 := HK5.o.at_ 8 rfl
  have a9 := HK5.o.at_ 9 rfl
  have a10 := HK5.o.at_ 10 rfl
  have e0 := HH5.o.at_ 0 rfl
  have e1 := HH5.o.at_ 1 rfl
  have e2 := HH5.o.at_ 2 rfl
  have e3 := HH5.o.at_ 3 rfl
  have e4 := HH5.o.at_ 4 rfl
  have e5 := HH5.o.at_ 5 rfl
  have e6 := HH5.o.at_ 6 rfl
  have e7 := HH5.o.at_ 7 rfl
  have e8 := HH5.o.at_ 8 rfl
  have la := HK5.o.lt
  have lh := HH5.o.lt
  go_wp2_with fail
  refine (ptext_calls _ B5 m5 d5 _ (bs card) HN5.o HR5.o (by omega) (by rw [bs_size]; have := Hcard.o; omega)).mono ?_
  rintro e w6 ⟨⟨B6, m6, d6, rfl, hm6, hr6, hb6⟩⟩
  rw [bs_data] at hm6 hr6
  have hq6 : m6 ≤ 60027 := by
    have h1 := HN5.o
    have h2 := Lcard.o
    rw [hm6, List.length_append, ← h1]
    omega
  have HN6 := hd hm6
  have HR6 := hd hr6.rds
  have HW6 := hd (hr6.mono (T := From w.heap.size) (fun q hq => Nat.le_trans HB5.o.size hq))
  have HB6 := hd (HB5.o.trans (hb6.mono HB5.o.size))
  have HK6 := hd (HK5.o.below hb6 la)
  have HH6 := hd (HH5.o.below hb6 lh)
  clear hm6 hr6 hb6 la lh a0 a1 a2 a3 a4 a5 a6 a7 a8 a9 a10 e0 e1 e2 e3 e4 e5 e6 e7 e8
  have a0 := HK6.o.at_ 0 rfl
  have a1 := HK6.o.at_ 1 rfl
  have a2 := HK6.o.at_ 2 rfl
  have a3 := HK6.o.at_ 3 rfl
  have a4 := HK6.o.at_ 4 rfl
  have a5 := HK6.o.at_ 5 rfl
  have a6 := HK6.o.at_ 6 rfl
  have a7 := HK6.o.at_ 7 rfl
  have a8 := HK6.o.at_ 8 rfl
  have a9 := HK6.o.at_ 9 rfl
  have a10 := HK6.o.at_ 10 rfl
  have e0 := HH6.o.at_ 0 rfl
  have e1 := HH6.o.at_ 1 rfl
  have e2 := HH6.o.at_ 2 rfl
  have e3 := HH6.o.at_ 3 rfl
  have e4 := HH6.o.at_ 4 rfl
  have e5 := HH6.o.at_ 5 rfl
  have e6 := HH6.o.at_ 6 rfl
  have e7 := HH6.o.at_ 7 rfl
  have e8 := HH6.o.at_ 8 rfl
  have la := HK6.o.lt
  have lh := HH6.o.lt
  go_wp2_with fail
  refine (pcond_calls _ B6 m6 d6 _ ck cv HN6.o HR6.o (by omega) Hck.o Hcv.o).mono ?_
  rintro e w7 ⟨⟨B7, m7, d7, rfl, hm7, hr7, hb7⟩⟩
  have hq7 : m7 ≤ 60045 := by
    have h1 := HN6.o
    have h2 := Lcond.o
    rw [hm7, List.length_append, ← h1]
    omega
  have HN7 := hd hm7
  have HR7 := hd hr7.rds
  have HW7 := hd (hr7.mono (T := From w.heap.size) (fun q hq => Nat.le_trans HB6.o.size hq))
  have HB7 := hd (HB6.o.trans (hb7.mono HB6.o.size))
  have HK7 := hd (HK6.o.below hb7 la)
  have HH7 := hd (HH6.o.below hb7 lh)
  clear hm7 hr7 hb7 la lh a0 a1 a2 a3 a4 a5 a6 a7 a8 a9 a10 e0 e1 e2 e3 e4 e5 e6 e7 e8
  have a0 := HK7.o.at_ 0 rfl
  have a1 := HK7.o.at_ 1 rfl
  have a2 := HK7.o.at_ 2 rfl
  have a3 := HK7.o.at_ 3 rfl
  have a4 := HK7.o.at_ 4 rfl
  have a5 := HK7.o.at_ 5 rfl
  have a6 := HK7.o.at_ 6 rfl
  have a7 := HK7.o.at_ 7 rfl
  have a8 := HK7.o.at_ 8 rfl
  have a9 := HK7.o.at_ 9 rfl
  have a10 := HK7.o.at_ 10 rfl
  have e0 := HH7.o.at_ 0 rfl
  have e1 := HH7.o.at_ 1 rfl
  have e2 := HH7.o.at_ 2 rfl
  have e3 := HH7.o.at_ 3 rfl
  have e4 := HH7.o.at_ 4 rfl
  have e5 := HH7.o.at_ 5 rfl
  have e6 := HH7.o.at_ 6 rfl
  have e7 := HH7.o.at_ 7 rfl
  have e8 := HH7.o.at_ 8 rfl
  have la := HK7.o.lt
  have lh := HH7.o.lt
  have HE2 := hd (show [] ++ textB col ++ textB uid ++ textB card ++ condB ck cv = encB ⟨4, tn, col, uid, card, ck, cv, ops, tok, most, ticks⟩ by rw [HE.o]; simp)
  go_wp2
  go_ret2
  exact ⟨fun _ => ⟨B7, m7, d7, rfl, by rw [HN7.o, HE2.o], by rw [← HE2.o]; exact HW7.o, HB7.o⟩, fun h => absurd H0.o h⟩

set_option maxRecDepth 100000 in
set_option maxHeartbeats 8000000 in
theorem enc_5 (tn col uid card : List UInt8) (ck cv : Int) (ops : List OpV) (tok most ticks : Int) (A : Option Addr) (c : Nat) (w : World) (ht : Tbs w) (hr : Rds w A ops.length 5 (opsE ops)) (hs : RqS ⟨5, tn, col, uid, card, ck, cv, ops, tok, most, ticks⟩) (hB : RqB ⟨5, tn, col, uid, card, ck, cv, ops, tok, most, ticks⟩) (h0 : chk ⟨5, tn, col, uid, card, ck, cv, ops, tok, most, ticks⟩ = 0) :
    Calls Tryz.prog 15 #[reqV ⟨5, tn, col, uid, card, ck, cv, ops, tok, most, ticks⟩ A c] w fun e w' => EncR w ⟨5, tn, col, uid, card, ck, cv, ops, tok, most, ticks⟩ e w' := by
  have rr := raw_of h0 hB
  obtain ⟨hb8, hbo⟩ := ops_bound h0 hB
  have Htn := hd (show tn.length ≤ 20000 from rr.tn.1)
  have Hcol := hd (show col.length ≤ 20000 from rr.col.1)
  have Huid := hd (show uid.length ≤ 20000 from rr.uid.1)
  have Hcard := hd (show card.length ≤ 20000 from rr.card.1)
  have Hck := hd (show I64b ck from hB.ck)
  have Hcv := hd (show I64b cv from hB.cv)
  have Htok := hd (show -9223372036854775808 ≤ tok ∧ tok ≤ 9223372036854775807 from hB.tok)
  have Hmost := hd (show -9223372036854775808 ≤ most ∧ most ≤ 9223372036854775807 from hB.most)
  have Hticks := hd (show -9223372036854775808 ≤ ticks ∧ ticks ≤ 9223372036854775807 from hB.ticks)
  have Ltn := hd (show (textB tn).length ≤ 20009 from by have := textB_len Htn.o; have := Htn.o; omega)
  have Lcol := hd (show (textB col).length ≤ 20009 from by have := textB_len Hcol.o; have := Hcol.o; omega)
  have Luid := hd (show (textB uid).length ≤ 20009 from by have := textB_len Huid.o; have := Huid.o; omega)
  have Lcard := hd (show (textB card).length ≤ 20009 from by have := textB_len Hcard.o; have := Hcard.o; omega)
  have Lcond := hd (show (condB ck cv).length ≤ 18 from by
    have h1 := numB_len9 (v := ck) hB.ck
    have h2 := numB_len9 (v := cv) hB.cv
    unfold condB
    rw [List.length_append]; omega)
  have Ltok := hd (show (numB tok).length ≤ 18 from by have := numB_len9 (v := tok) hB.tok; omega)
  have Lmost := hd (show (numB most).length ≤ 18 from by have := numB_len9 (v := most) hB.most; omega)
  have Lticks := hd (show (numB ticks).length ≤ 18 from by have := numB_len9 (v := ticks) hB.ticks; omega)
  have HOB := hd (show ∀ o ∈ ops, (opB o).length ≤ 1000 ∧ o.uid.length ≤ 80000 ∧ o.card.length ≤ 80000 ∧ I64b o.ck ∧ I64b o.cv from hbo)
  have C2 := hd (fun W => show Calls Tryz.prog 42 #[.int .i64 5] W fun e w' => e = .returned (.agg #[.bool false, .bool true, .bool true, .bool false, .bool true, .bool false, .bool false, .bool false, .bool false]) ∧ Below W.heap.size W w' from fields_calls 5 (by decide) W)
  obtain ⟨n, hn⟩ : ∃ n, ops.length = n := ⟨_, rfl⟩
  have C1 := fun W (h : Below w.heap.size w W) => check_calls ⟨5, tn, col, uid, card, ck, cv, ops, tok, most, ticks⟩ A c W (ht.below h) (hr.below h) hs
  rw [h0] at C1
  unfold reqV reqE at *
  simp only at C1 hb8 ⊢
  rw [hn] at C1 hr hb8 ⊢
  have HNN := hd hn
  have Ln := hd (show (numB (n : Int)).length ≤ 18 from by have := numB_len9 (v := (n : Int)) ⟨by omega, by omega⟩; omega)
  have HRD := hd hr
  have H0 := hd h0
  obtain ⟨Y, hY⟩ : ∃ Y, Y = w.alloc (.cells #[.int .i64 5, .string (bs tn), .string (bs col), .string (bs uid), .string (bs card), .int .i64 ck, .int .i64 cv, .slice A n c, .int .i64 tok, .int .i64 most, .int .i64 ticks] 26) := ⟨_, rfl⟩
  have HK := hd (show Blk Y w.heap.size 26 #[.int .i64 5, .string (bs tn), .string (bs col), .string (bs uid), .string (bs card), .int .i64 ck, .int .i64 cv, .slice A n c, .int .i64 tok, .int .i64 most, .int .i64 ticks] by rw [hY]; exact Blk.new _ _ _)
  have HBY := hd (show Below w.heap.size w Y by rw [hY]; exact (Below.refl _ w).alloc (Nat.le_refl _) _)
  have HYY := hd hY
  replace C1 := hd (C1 Y HBY.o)
  have y0 := HK.o.at_ 0 rfl
  have y1 := HK.o.at_ 1 rfl
  have y2 := HK.o.at_ 2 rfl
  have y3 := HK.o.at_ 3 rfl
  have y4 := HK.o.at_ 4 rfl
  have y5 := HK.o.at_ 5 rfl
  have y6 := HK.o.at_ 6 rfl
  have y7 := HK.o.at_ 7 rfl
  have y8 := HK.o.at_ 8 rfl
  have y9 := HK.o.at_ 9 rfl
  have y10 := HK.o.at_ 10 rfl
  have hl0 := HK.o.lt
  clear rr hbo hn hr hs hB h0 ht hY
  have HE := hd (show encB ⟨5, tn, col, uid, card, ck, cv, ops, tok, most, ticks⟩ = textB col ++ (textB uid ++ (condB ck cv)) by simp [encB, eT, eN, eC, eO, hT, hC, hU, hCd, hCn, hO, hTk, hM, hTi])
  go_enter Tryz.func15, Tryz.ntmps15
  go_upto_region 1 with (fail)
  rw [← HYY.o]
  go_wp2_with fail
  refine C1.o.mono ?_
  rintro e w1 ⟨rfl, hb1⟩
  have hk1 := HK.o.below hb1 hl0
  have a0 := hk1.at_ 0 rfl
  have HK1 := hd hk1
  have hl1 := hk1.lt
  have HB1 := hd (HBY.o.trans (hb1.mono HBY.o.size))
  clear hb1 hk1 y0 y1 y2 y3 y4 y5 y6 y7 y8 y9 y10 hl0
  go_wp2_with fail
  refine (C2.o _).mono ?_
  rintro e w2 ⟨rfl, hb2⟩
  have hk2 := HK1.o.below hb2 hl1
  have HB2 := hd (HB1.o.trans (hb2.mono HB1.o.size))
  obtain ⟨w3, hw3⟩ : ∃ w3, w3 = w2.alloc (.cells #[.bool false, .bool true, .bool true, .bool false, .bool true, .bool false, .bool false, .bool false, .bool false] 78) := ⟨_, rfl⟩
  have HK3 := hd (show Blk w3 w.heap.size 26 #[.int .i64 5, .string (bs tn), .string (bs col), .string (bs uid), .string (bs card), .int .i64 ck, .int .i64 cv, .slice A n c, .int .i64 tok, .int .i64 most, .int .i64 ticks] by rw [hw3]; exact hk2.alloc _)
  have HH3 := hd (show Blk w3 w2.heap.size 78 #[.bool false, .bool true, .bool true, .bool false, .bool true, .bool false, .bool false, .bool false, .bool false] by rw [hw3]; exact Blk.new _ _ _)
  have HB3 := hd (show Below w.heap.size w w3 by rw [hw3]; exact HB2.o.alloc HB2.o.size _)
  have HS3 := hd (Rds.nil8 w3)
  have hm3 : (0 : Nat) ≤ 0 := Nat.le_refl _
  have HN3 := hd (show (0 : Nat) = ([] : List UInt8).length from rfl)
  have HW3 := hd hw3
  clear hb2 hk2 hw3 a0 hl1 C1 C2 HK1
  have a0 := HK3.o.at_ 0 rfl
  have a1 := HK3.o.at_ 1 rfl
  have a2 := HK3.o.at_ 2 rfl
  have a3 := HK3.o.at_ 3 rfl
  have a4 := HK3.o.at_ 4 rfl
  have a5 := HK3.o.at_ 5 rfl
  have a6 := HK3.o.at_ 6 rfl
  have a7 := HK3.o.at_ 7 rfl
  have a8 := HK3.o.at_ 8 rfl
  have a9 := HK3.o.at_ 9 rfl
  have a10 := HK3.o.at_ 10 rfl
  have e0 := HH3.o.at_ 0 rfl
  have e1 := HH3.o.at_ 1 rfl
  have e2 := HH3.o.at_ 2 rfl
  have e3 := HH3.o.at_ 3 rfl
  have e4 := HH3.o.at_ 4 rfl
  have e5 := HH3.o.at_ 5 rfl
  have e6 := HH3.o.at_ 6 rfl
  have e7 := HH3.o.at_ 7 rfl
  have e8 := HH3.o.at_ 8 rfl
  have la := HK3.o.lt
  have lh := HH3.o.lt
  go_upto_region 5 with (fail)
  rw [← HW3.o]
  go_wp2_with fail
  refine (ptext_calls _ none 0 0 _ (bs col) HN3.o HS3.o (by omega) (by rw [bs_size]; have := Hcol.o; omega)).mono ?_
  rintro e w4 ⟨⟨B4, m4, d4, rfl, hm4, hr4, hb4⟩⟩
  rw [bs_data] at hm4 hr4
  have hq4 : m4 ≤ 20009 := by
    have h1 := HN3.o
    have h2 := Lcol.o
    rw [hm4, List.length_append, ← h1]
    omega
  have HN4 := hd hm4
  have HR4 := hd hr4.rds
  have HW4 := hd (hr4.mono (T := From w.heap.size) (fun q hq => Nat.le_trans HB3.o.size hq))
  have HB4 := hd (HB3.o.trans (hb4.mono HB3.o.size))
  have HK4 := hd (HK3.o.below hb4 la)
  have HH4 := hd (HH3.o.below hb4 lh)
  clear hm4 hr4 hb4 la lh a0 a1 a2 a3 a4 a5 a6 a7 a8 a9 a10 e0 e1 e2 e3 e4 e5 e6 e7 e8
  have a0 := HK4.o.at_ 0 rfl
  have a1 := HK4.o.at_ 1 rfl
  have a2 := HK4.o.at_ 2 rfl
  have a3 := HK4.o.at_ 3 rfl
  have a4 := HK4.o.at_ 4 rfl
  have a5 := HK4.o.at_ 5 rfl
  have a6 := HK4.o.at_ 6 rfl
  have a7 := HK4.o.at_ 7 rfl
  have a8 := HK4.o.at_ 8 rfl
  have a9 := HK4.o.at_ 9 rfl
  have a10 := HK4.o.at_ 10 rfl
  have e0 := HH4.o.at_ 0 rfl
  have e1 := HH4.o.at_ 1 rfl
  have e2 := HH4.o.at_ 2 rfl
  have e3 := HH4.o.at_ 3 rfl
  have e4 := HH4.o.at_ 4 rfl
  have e5 := HH4.o.at_ 5 rfl
  have e6 := HH4.o.at_ 6 rfl
  have e7 := HH4.o.at_ 7 rfl
  have e8 := HH4.o.at_ 8 rfl
  have la := HK4.o.lt
  have lh := HH4.o.lt
  go_wp2_with fail
  refine (ptext_calls _ B4 m4 d4 _ (bs uid) HN4.o HR4.o (by omega) (by rw [bs_size]; have := Huid.o; omega)).mono ?_
  rintro e w5 ⟨⟨B5, m5, d5, rfl, hm5, hr5, hb5⟩⟩
  rw [bs_data] at hm5 hr5
  have hq5 : m5 ≤ 40018 := by
    have h1 := HN4.o
    have h2 := Luid.o
    rw [hm5, List.length_append, ← h1]
    omega
  have HN5 := hd hm5
  have HR5 := hd hr5.rds
  have HW5 := hd (hr5.mono (T := From w.heap.size) (fun q hq => Nat.le_trans HB4.o.size hq))
  have HB5 := hd (HB4.o.trans (hb5.mono HB4.o.size))
  have HK5 := hd (HK4.o.below hb5 la)
  have HH5 := hd (HH4.o.below hb5 lh)
  clear hm5 hr5 hb5 la lh a0 a1 a2 a3 a4 a5 a6 a7 a8 a9 a10 e0 e1 e2 e3 e4 e5 e6 e7 e8
  have a0 := HK5.o.at_ 0 rfl
  have a1 := HK5.o.at_ 1 rfl
  have a2 := HK5.o.at_ 2 rfl
  have a3 := HK5.o.at_ 3 rfl
  have a4 := HK5.o.at_ 4 rfl
  have a5 := HK5.o.at_ 5 rfl
  have a6 := HK5.o.at_ 6 rfl
  have a7 := HK5.o.at_ 7 rfl
  have a8 := HK5.o.at_ 8 rfl
  have a9 := HK5.o.at_ 9 rfl
  have a10 := HK5.o.at_ 10 rfl
  have e0 := HH5.o.at_ 0 rfl
  have e1 := HH5.o.at_ 1 rfl
  have e2 := HH5.o.at_ 2 rfl
  have e3 := HH5.o.at_ 3 rfl
  have e4 := HH5.o.at_ 4 rfl
  have e5 := HH5.o.at_ 5 rfl
  have e6 := HH5.o.at_ 6 rfl
  have e7 := HH5.o.at_ 7 rfl
  have e8 := HH5.o.at_ 8 rfl
  have la := HK5.o.lt
  have lh := HH5.o.lt
  go_wp2_with fail
  refine (pcond_calls _ B5 m5 d5 _ ck cv HN5.o HR5.o (by omega) Hck.o Hcv.o).mono ?_
  rintro e w6 ⟨⟨B6, m6, d6, rfl, hm6, hr6, hb6⟩⟩
  have hq6 : m6 ≤ 40036 := by
    have h1 := HN5.o
    have h2 := Lcond.o
    rw [hm6, List.length_append, ← h1]
    omega
  have HN6 := hd hm6
  have HR6 := hd hr6.rds
  have HW6 := hd (hr6.mono (T := From w.heap.size) (fun q hq => Nat.le_trans HB5.o.size hq))
  have HB6 := hd (HB5.o.trans (hb6.mono HB5.o.size))
  have HK6 := hd (HK5.o.below hb6 la)
  have HH6 := hd (HH5.o.below hb6 lh)
  clear hm6 hr6 hb6 la lh a0 a1 a2 a3 a4 a5 a6 a7 a8 a9 a10 e0 e1 e2 e3 e4 e5 e6 e7 e8
  have a0 := HK6.o.at_ 0 rfl
  have a1 := HK6.o.at_ 1 rfl
  have a2 := HK6.o.at_ 2 rfl
  have a3 := HK6.o.at_ 3 rfl
  have a4 := HK6.o.at_ 4 rfl
  have a5 := HK6.o.at_ 5 rfl
  have a6 := HK6.o.at_ 6 rfl
  have a7 := HK6.o.at_ 7 rfl
  have a8 := HK6.o.at_ 8 rfl
  have a9 := HK6.o.at_ 9 rfl
  have a10 := HK6.o.at_ 10 rfl
  have e0 := HH6.o.at_ 0 rfl
  have e1 := HH6.o.at_ 1 rfl
  have e2 := HH6.o.at_ 2 rfl
  have e3 := HH6.o.at_ 3 rfl
  have e4 := HH6.o.at_ 4 rfl
  have e5 := HH6.o.at_ 5 rfl
  have e6 := HH6.o.at_ 6 rfl
  have e7 := HH6.o.at_ 7 rfl
  have e8 := HH6.o.at_ 8 rfl
  have la := HK6.o.lt
  have lh := HH6.o.lt
  have HE2 := hd (show [] ++ textB col ++ textB uid ++ condB ck cv = encB ⟨5, tn, col, uid, card, ck, cv, ops, tok, most, ticks⟩ by rw [HE.o]; simp)
  go_wp2
  go_ret2
  exact ⟨fun _ => ⟨B6, m6, d6, rfl, by rw [HN6.o, HE2.o], by rw [← HE2.o]; exact HW6.o, HB6.o⟩, fun h => absurd H0.o h⟩

set_option maxRecDepth 100000 in
set_option maxHeartbeats 8000000 in
theorem enc_6 (tn col uid card : List UInt8) (ck cv : Int) (ops : List OpV) (tok most ticks : Int) (A : Option Addr) (c : Nat) (w : World) (ht : Tbs w) (hr : Rds w A ops.length 5 (opsE ops)) (hs : RqS ⟨6, tn, col, uid, card, ck, cv, ops, tok, most, ticks⟩) (hB : RqB ⟨6, tn, col, uid, card, ck, cv, ops, tok, most, ticks⟩) (h0 : chk ⟨6, tn, col, uid, card, ck, cv, ops, tok, most, ticks⟩ = 0) :
    Calls Tryz.prog 15 #[reqV ⟨6, tn, col, uid, card, ck, cv, ops, tok, most, ticks⟩ A c] w fun e w' => EncR w ⟨6, tn, col, uid, card, ck, cv, ops, tok, most, ticks⟩ e w' := by
  have rr := raw_of h0 hB
  obtain ⟨hb8, hbo⟩ := ops_bound h0 hB
  have Htn := hd (show tn.length ≤ 20000 from rr.tn.1)
  have Hcol := hd (show col.length ≤ 20000 from rr.col.1)
  have Huid := hd (show uid.length ≤ 20000 from rr.uid.1)
  have Hcard := hd (show card.length ≤ 20000 from rr.card.1)
  have Hck := hd (show I64b ck from hB.ck)
  have Hcv := hd (show I64b cv from hB.cv)
  have Htok := hd (show -9223372036854775808 ≤ tok ∧ tok ≤ 9223372036854775807 from hB.tok)
  have Hmost := hd (show -9223372036854775808 ≤ most ∧ most ≤ 9223372036854775807 from hB.most)
  have Hticks := hd (show -9223372036854775808 ≤ ticks ∧ ticks ≤ 9223372036854775807 from hB.ticks)
  have Ltn := hd (show (textB tn).length ≤ 20009 from by have := textB_len Htn.o; have := Htn.o; omega)
  have Lcol := hd (show (textB col).length ≤ 20009 from by have := textB_len Hcol.o; have := Hcol.o; omega)
  have Luid := hd (show (textB uid).length ≤ 20009 from by have := textB_len Huid.o; have := Huid.o; omega)
  have Lcard := hd (show (textB card).length ≤ 20009 from by have := textB_len Hcard.o; have := Hcard.o; omega)
  have Lcond := hd (show (condB ck cv).length ≤ 18 from by
    have h1 := numB_len9 (v := ck) hB.ck
    have h2 := numB_len9 (v := cv) hB.cv
    unfold condB
    rw [List.length_append]; omega)
  have Ltok := hd (show (numB tok).length ≤ 18 from by have := numB_len9 (v := tok) hB.tok; omega)
  have Lmost := hd (show (numB most).length ≤ 18 from by have := numB_len9 (v := most) hB.most; omega)
  have Lticks := hd (show (numB ticks).length ≤ 18 from by have := numB_len9 (v := ticks) hB.ticks; omega)
  have HOB := hd (show ∀ o ∈ ops, (opB o).length ≤ 1000 ∧ o.uid.length ≤ 80000 ∧ o.card.length ≤ 80000 ∧ I64b o.ck ∧ I64b o.cv from hbo)
  have C2 := hd (fun W => show Calls Tryz.prog 42 #[.int .i64 6] W fun e w' => e = .returned (.agg #[.bool false, .bool true, .bool true, .bool false, .bool false, .bool false, .bool false, .bool false, .bool false]) ∧ Below W.heap.size W w' from fields_calls 6 (by decide) W)
  obtain ⟨n, hn⟩ : ∃ n, ops.length = n := ⟨_, rfl⟩
  have C1 := fun W (h : Below w.heap.size w W) => check_calls ⟨6, tn, col, uid, card, ck, cv, ops, tok, most, ticks⟩ A c W (ht.below h) (hr.below h) hs
  rw [h0] at C1
  unfold reqV reqE at *
  simp only at C1 hb8 ⊢
  rw [hn] at C1 hr hb8 ⊢
  have HNN := hd hn
  have Ln := hd (show (numB (n : Int)).length ≤ 18 from by have := numB_len9 (v := (n : Int)) ⟨by omega, by omega⟩; omega)
  have HRD := hd hr
  have H0 := hd h0
  obtain ⟨Y, hY⟩ : ∃ Y, Y = w.alloc (.cells #[.int .i64 6, .string (bs tn), .string (bs col), .string (bs uid), .string (bs card), .int .i64 ck, .int .i64 cv, .slice A n c, .int .i64 tok, .int .i64 most, .int .i64 ticks] 26) := ⟨_, rfl⟩
  have HK := hd (show Blk Y w.heap.size 26 #[.int .i64 6, .string (bs tn), .string (bs col), .string (bs uid), .string (bs card), .int .i64 ck, .int .i64 cv, .slice A n c, .int .i64 tok, .int .i64 most, .int .i64 ticks] by rw [hY]; exact Blk.new _ _ _)
  have HBY := hd (show Below w.heap.size w Y by rw [hY]; exact (Below.refl _ w).alloc (Nat.le_refl _) _)
  have HYY := hd hY
  replace C1 := hd (C1 Y HBY.o)
  have y0 := HK.o.at_ 0 rfl
  have y1 := HK.o.at_ 1 rfl
  have y2 := HK.o.at_ 2 rfl
  have y3 := HK.o.at_ 3 rfl
  have y4 := HK.o.at_ 4 rfl
  have y5 := HK.o.at_ 5 rfl
  have y6 := HK.o.at_ 6 rfl
  have y7 := HK.o.at_ 7 rfl
  have y8 := HK.o.at_ 8 rfl
  have y9 := HK.o.at_ 9 rfl
  have y10 := HK.o.at_ 10 rfl
  have hl0 := HK.o.lt
  clear rr hbo hn hr hs hB h0 ht hY
  have HE := hd (show encB ⟨6, tn, col, uid, card, ck, cv, ops, tok, most, ticks⟩ = textB col ++ (textB uid) by simp [encB, eT, eN, eC, eO, hT, hC, hU, hCd, hCn, hO, hTk, hM, hTi])
  go_enter Tryz.func15, Tryz.ntmps15
  go_upto_region 1 with (fail)
  rw [← HYY.o]
  go_wp2_with fail
  refine C1.o.mono ?_
  rintro e w1 ⟨rfl, hb1⟩
  have hk1 := HK.o.below hb1 hl0
  have a0 := hk1.at_ 0 rfl
  have HK1 := hd hk1
  have hl1 := hk1.lt
  have HB1 := hd (HBY.o.trans (hb1.mono HBY.o.size))
  clear hb1 hk1 y0 y1 y2 y3 y4 y5 y6 y7 y8 y9 y10 hl0
  go_wp2_with fail
  refine (C2.o _).mono ?_
  rintro e w2 ⟨rfl, hb2⟩
  have hk2 := HK1.o.below hb2 hl1
  have HB2 := hd (HB1.o.trans (hb2.mono HB1.o.size))
  obtain ⟨w3, hw3⟩ : ∃ w3, w3 = w2.alloc (.cells #[.bool false, .bool true, .bool true, .bool false, .bool false, .bool false, .bool false, .bool false, .bool false] 78) := ⟨_, rfl⟩
  have HK3 := hd (show Blk w3 w.heap.size 26 #[.int .i64 6, .string (bs tn), .string (bs col), .string (bs uid), .string (bs card), .int .i64 ck, .int .i64 cv, .slice A n c, .int .i64 tok, .int .i64 most, .int .i64 ticks] by rw [hw3]; exact hk2.alloc _)
  have HH3 := hd (show Blk w3 w2.heap.size 78 #[.bool false, .bool true, .bool true, .bool false, .bool false, .bool false, .bool false, .bool false, .bool false] by rw [hw3]; exact Blk.new _ _ _)
  have HB3 := hd (show Below w.heap.size w w3 by rw [hw3]; exact HB2.o.alloc HB2.o.size _)
  have HS3 := hd (Rds.nil8 w3)
  have hm3 : (0 : Nat) ≤ 0 := Nat.le_refl _
  have HN3 := hd (show (0 : Nat) = ([] : List UInt8).length from rfl)
  have HW3 := hd hw3
  clear hb2 hk2 hw3 a0 hl1 C1 C2 HK1
  have a0 := HK3.o.at_ 0 rfl
  have a1 := HK3.o.at_ 1 rfl
  have a2 := HK3.o.at_ 2 rfl
  have a3 := HK3.o.at_ 3 rfl
  have a4 := HK3.o.at_ 4 rfl
  have a5 := HK3.o.at_ 5 rfl
  have a6 := HK3.o.at_ 6 rfl
  have a7 := HK3.o.at_ 7 rfl
  have a8 := HK3.o.at_ 8 rfl
  have a9 := HK3.o.at_ 9 rfl
  have a10 := HK3.o.at_ 10 rfl
  have e0 := HH3.o.at_ 0 rfl
  have e1 := HH3.o.at_ 1 rfl
  have e2 := HH3.o.at_ 2 rfl
  have e3 := HH3.o.at_ 3 rfl
  have e4 := HH3.o.at_ 4 rfl
  have e5 := HH3.o.at_ 5 rfl
  have e6 := HH3.o.at_ 6 rfl
  have e7 := HH3.o.at_ 7 rfl
  have e8 := HH3.o.at_ 8 rfl
  have la := HK3.o.lt
  have lh := HH3.o.lt
  go_upto_region 5 with (fail)
  rw [← HW3.o]
  go_wp2_with fail
  refine (ptext_calls _ none 0 0 _ (bs col) HN3.o HS3.o (by omega) (by rw [bs_size]; have := Hcol.o; omega)).mono ?_
  rintro e w4 ⟨⟨B4, m4, d4, rfl, hm4, hr4, hb4⟩⟩
  rw [bs_data] at hm4 hr4
  have hq4 : m4 ≤ 20009 := by
    have h1 := HN3.o
    have h2 := Lcol.o
    rw [hm4, List.length_append, ← h1]
    omega
  have HN4 := hd hm4
  have HR4 := hd hr4.rds
  have HW4 := hd (hr4.mono (T := From w.heap.size) (fun q hq => Nat.le_trans HB3.o.size hq))
  have HB4 := hd (HB3.o.trans (hb4.mono HB3.o.size))
  have HK4 := hd (HK3.o.below hb4 la)
  have HH4 := hd (HH3.o.below hb4 lh)
  clear hm4 hr4 hb4 la lh a0 a1 a2 a3 a4 a5 a6 a7 a8 a9 a10 e0 e1 e2 e3 e4 e5 e6 e7 e8
  have a0 := HK4.o.at_ 0 rfl
  have a1 := HK4.o.at_ 1 rfl
  have a2 := HK4.o.at_ 2 rfl
  have a3 := HK4.o.at_ 3 rfl
  have a4 := HK4.o.at_ 4 rfl
  have a5 := HK4.o.at_ 5 rfl
  have a6 := HK4.o.at_ 6 rfl
  have a7 := HK4.o.at_ 7 rfl
  have a8 := HK4.o.at_ 8 rfl
  have a9 := HK4.o.at_ 9 rfl
  have a10 := HK4.o.at_ 10 rfl
  have e0 := HH4.o.at_ 0 rfl
  have e1 := HH4.o.at_ 1 rfl
  have e2 := HH4.o.at_ 2 rfl
  have e3 := HH4.o.at_ 3 rfl
  have e4 := HH4.o.at_ 4 rfl
  have e5 := HH4.o.at_ 5 rfl
  have e6 := HH4.o.at_ 6 rfl
  have e7 := HH4.o.at_ 7 rfl
  have e8 := HH4.o.at_ 8 rfl
  have la := HK4.o.lt
  have lh := HH4.o.lt
  go_wp2_with fail
  refine (ptext_calls _ B4 m4 d4 _ (bs uid) HN4.o HR4.o (by omega) (by rw [bs_size]; have := Huid.o; omega)).mono ?_
  rintro e w5 ⟨⟨B5, m5, d5, rfl, hm5, hr5, hb5⟩⟩
  rw [bs_data] at hm5 hr5
  have hq5 : m5 ≤ 40018 := by
    have h1 := HN4.o
    have h2 := Luid.o
    rw [hm5, List.length_append, ← h1]
    omega
  have HN5 := hd hm5
  have HR5 := hd hr5.rds
  have HW5 := hd (hr5.mono (T := From w.heap.size) (fun q hq => Nat.le_trans HB4.o.size hq))
  have HB5 := hd (HB4.o.trans (hb5.mono HB4.o.size))
  have HK5 := hd (HK4.o.below hb5 la)
  have HH5 := hd (HH4.o.below hb5 lh)
  clear hm5 hr5 hb5 la lh a0 a1 a2 a3 a4 a5 a6 a7 a8 a9 a10 e0 e1 e2 e3 e4 e5 e6 e7 e8
  have a0 := HK5.o.at_ 0 rfl
  have a1 := HK5.o.at_ 1 rfl
  have a2 := HK5.o.at_ 2 rfl
  have a3 := HK5.o.at_ 3 rfl
  have a4 := HK5.o.at_ 4 rfl
  have a5 := HK5.o.at_ 5 rfl
  have a6 := HK5.o.at_ 6 rfl
  have a7 := HK5.o.at_ 7 rfl
  have a8 := HK5.o.at_ 8 rfl
  have a9 := HK5.o.at_ 9 rfl
  have a10 := HK5.o.at_ 10 rfl
  have e0 := HH5.o.at_ 0 rfl
  have e1 := HH5.o.at_ 1 rfl
  have e2 := HH5.o.at_ 2 rfl
  have e3 := HH5.o.at_ 3 rfl
  have e4 := HH5.o.at_ 4 rfl
  have e5 := HH5.o.at_ 5 rfl
  have e6 := HH5.o.at_ 6 rfl
  have e7 := HH5.o.at_ 7 rfl
  have e8 := HH5.o.at_ 8 rfl
  have la := HK5.o.lt
  have lh := HH5.o.lt
  have HE2 := hd (show [] ++ textB col ++ textB uid = encB ⟨6, tn, col, uid, card, ck, cv, ops, tok, most, ticks⟩ by rw [HE.o]; simp)
  go_wp2
  go_ret2
  exact ⟨fun _ => ⟨B5, m5, d5, rfl, by rw [HN5.o, HE2.o], by rw [← HE2.o]; exact HW5.o, HB5.o⟩, fun h => absurd H0.o h⟩

set_option maxRecDepth 100000 in
set_option maxHeartbeats 8000000 in
theorem enc_7 (tn col uid card : List UInt8) (ck cv : Int) (ops : List OpV) (tok most ticks : Int) (A : Option Addr) (c : Nat) (w : World) (ht : Tbs w) (hr : Rds w A ops.length 5 (opsE ops)) (hs : RqS ⟨7, tn, col, uid, card, ck, cv, ops, tok, most, ticks⟩) (hB : RqB ⟨7, tn, col, uid, card, ck, cv, ops, tok, most, ticks⟩) (h0 : chk ⟨7, tn, col, uid, card, ck, cv, ops, tok, most, ticks⟩ = 0) :
    Calls Tryz.prog 15 #[reqV ⟨7, tn, col, uid, card, ck, cv, ops, tok, most, ticks⟩ A c] w fun e w' => EncR w ⟨7, tn, col, uid, card, ck, cv, ops, tok, most, ticks⟩ e w' := by
  have rr := raw_of h0 hB
  obtain ⟨hb8, hbo⟩ := ops_bound h0 hB
  have Htn := hd (show tn.length ≤ 20000 from rr.tn.1)
  have Hcol := hd (show col.length ≤ 20000 from rr.col.1)
  have Huid := hd (show uid.length ≤ 20000 from rr.uid.1)
  have Hcard := hd (show card.length ≤ 20000 from rr.card.1)
  have Hck := hd (show I64b ck from hB.ck)
  have Hcv := hd (show I64b cv from hB.cv)
  have Htok := hd (show -9223372036854775808 ≤ tok ∧ tok ≤ 9223372036854775807 from hB.tok)
  have Hmost := hd (show -9223372036854775808 ≤ most ∧ most ≤ 9223372036854775807 from hB.most)
  have Hticks := hd (show -9223372036854775808 ≤ ticks ∧ ticks ≤ 9223372036854775807 from hB.ticks)
  have Ltn := hd (show (textB tn).length ≤ 20009 from by have := textB_len Htn.o; have := Htn.o; omega)
  have Lcol := hd (show (textB col).length ≤ 20009 from by have := textB_len Hcol.o; have := Hcol.o; omega)
  have Luid := hd (show (textB uid).length ≤ 20009 from by have := textB_len Huid.o; have := Huid.o; omega)
  have Lcard := hd (show (textB card).length ≤ 20009 from by have := textB_len Hcard.o; have := Hcard.o; omega)
  have Lcond := hd (show (condB ck cv).length ≤ 18 from by
    have h1 := numB_len9 (v := ck) hB.ck
    have h2 := numB_len9 (v := cv) hB.cv
    unfold condB
    rw [List.length_append]; omega)
  have Ltok := hd (show (numB tok).length ≤ 18 from by have := numB_len9 (v := tok) hB.tok; omega)
  have Lmost := hd (show (numB most).length ≤ 18 from by have := numB_len9 (v := most) hB.most; omega)
  have Lticks := hd (show (numB ticks).length ≤ 18 from by have := numB_len9 (v := ticks) hB.ticks; omega)
  have HOB := hd (show ∀ o ∈ ops, (opB o).length ≤ 1000 ∧ o.uid.length ≤ 80000 ∧ o.card.length ≤ 80000 ∧ I64b o.ck ∧ I64b o.cv from hbo)
  have C2 := hd (fun W => show Calls Tryz.prog 42 #[.int .i64 7] W fun e w' => e = .returned (.agg #[.bool false, .bool true, .bool false, .bool false, .bool false, .bool true, .bool false, .bool false, .bool false]) ∧ Below W.heap.size W w' from fields_calls 7 (by decide) W)
  obtain ⟨n, hn⟩ : ∃ n, ops.length = n := ⟨_, rfl⟩
  have C1 := fun W (h : Below w.heap.size w W) => check_calls ⟨7, tn, col, uid, card, ck, cv, ops, tok, most, ticks⟩ A c W (ht.below h) (hr.below h) hs
  rw [h0] at C1
  unfold reqV reqE at *
  simp only at C1 hb8 ⊢
  rw [hn] at C1 hr hb8 ⊢
  have HNN := hd hn
  have Ln := hd (show (numB (n : Int)).length ≤ 18 from by have := numB_len9 (v := (n : Int)) ⟨by omega, by omega⟩; omega)
  have HRD := hd hr
  have H0 := hd h0
  obtain ⟨Y, hY⟩ : ∃ Y, Y = w.alloc (.cells #[.int .i64 7, .string (bs tn), .string (bs col), .string (bs uid), .string (bs card), .int .i64 ck, .int .i64 cv, .slice A n c, .int .i64 tok, .int .i64 most, .int .i64 ticks] 26) := ⟨_, rfl⟩
  have HK := hd (show Blk Y w.heap.size 26 #[.int .i64 7, .string (bs tn), .string (bs col), .string (bs uid), .string (bs card), .int .i64 ck, .int .i64 cv, .slice A n c, .int .i64 tok, .int .i64 most, .int .i64 ticks] by rw [hY]; exact Blk.new _ _ _)
  have HBY := hd (show Below w.heap.size w Y by rw [hY]; exact (Below.refl _ w).alloc (Nat.le_refl _) _)
  have HYY := hd hY
  replace C1 := hd (C1 Y HBY.o)
  have y0 := HK.o.at_ 0 rfl
  have y1 := HK.o.at_ 1 rfl
  have y2 := HK.o.at_ 2 rfl
  have y3 := HK.o.at_ 3 rfl
  have y4 := HK.o.at_ 4 rfl
  have y5 := HK.o.at_ 5 rfl
  have y6 := HK.o.at_ 6 rfl
  have y7 := HK.o.at_ 7 rfl
  have y8 := HK.o.at_ 8 rfl
  have y9 := HK.o.at_ 9 rfl
  have y10 := HK.o.at_ 10 rfl
  have hl0 := HK.o.lt
  clear rr hbo hn hr hs hB h0 ht hY
  have HE := hd (show encB ⟨7, tn, col, uid, card, ck, cv, ops, tok, most, ticks⟩ = textB col ++ ((numB ops.length ++ opsB ops)) by simp [encB, eT, eN, eC, eO, hT, hC, hU, hCd, hCn, hO, hTk, hM, hTi])
  go_enter Tryz.func15, Tryz.ntmps15
  go_upto_region 1 with (fail)
  rw [← HYY.o]
  go_wp2_with fail
  refine C1.o.mono ?_
  rintro e w1 ⟨rfl, hb1⟩
  have hk1 := HK.o.below hb1 hl0
  have a0 := hk1.at_ 0 rfl
  have HK1 := hd hk1
  have hl1 := hk1.lt
  have HB1 := hd (HBY.o.trans (hb1.mono HBY.o.size))
  clear hb1 hk1 y0 y1 y2 y3 y4 y5 y6 y7 y8 y9 y10 hl0
  go_wp2_with fail
  refine (C2.o _).mono ?_
  rintro e w2 ⟨rfl, hb2⟩
  have hk2 := HK1.o.below hb2 hl1
  have HB2 := hd (HB1.o.trans (hb2.mono HB1.o.size))
  obtain ⟨w3, hw3⟩ : ∃ w3, w3 = w2.alloc (.cells #[.bool false, .bool true, .bool false, .bool false, .bool false, .bool true, .bool false, .bool false, .bool false] 78) := ⟨_, rfl⟩
  have HK3 := hd (show Blk w3 w.heap.size 26 #[.int .i64 7, .string (bs tn), .string (bs col), .string (bs uid), .string (bs card), .int .i64 ck, .int .i64 cv, .slice A n c, .int .i64 tok, .int .i64 most, .int .i64 ticks] by rw [hw3]; exact hk2.alloc _)
  have HH3 := hd (show Blk w3 w2.heap.size 78 #[.bool false, .bool true, .bool false, .bool false, .bool false, .bool true, .bool false, .bool false, .bool false] by rw [hw3]; exact Blk.new _ _ _)
  have HB3 := hd (show Below w.heap.size w w3 by rw [hw3]; exact HB2.o.alloc HB2.o.size _)
  have HS3 := hd (Rds.nil8 w3)
  have hm3 : (0 : Nat) ≤ 0 := Nat.le_refl _
  have HN3 := hd (show (0 : Nat) = ([] : List UInt8).length from rfl)
  have HW3 := hd hw3
  clear hb2 hk2 hw3 a0 hl1 C1 C2 HK1
  have a0 := HK3.o.at_ 0 rfl
  have a1 := HK3.o.at_ 1 rfl
  have a2 := HK3.o.at_ 2 rfl
  have a3 := HK3.o.at_ 3 rfl
  have a4 := HK3.o.at_ 4 rfl
  have a5 := HK3.o.at_ 5 rfl
  have a6 := HK3.o.at_ 6 rfl
  have a7 := HK3.o.at_ 7 rfl
  have a8 := HK3.o.at_ 8 rfl
  have a9 := HK3.o.at_ 9 rfl
  have a10 := HK3.o.at_ 10 rfl
  have e0 := HH3.o.at_ 0 rfl
  have e1 := HH3.o.at_ 1 rfl
  have e2 := HH3.o.at_ 2 rfl
  have e3 := HH3.o.at_ 3 rfl
  have e4 := HH3.o.at_ 4 rfl
  have e5 := HH3.o.at_ 5 rfl
  have e6 := HH3.o.at_ 6 rfl
  have e7 := HH3.o.at_ 7 rfl
  have e8 := HH3.o.at_ 8 rfl
  have la := HK3.o.lt
  have lh := HH3.o.lt
  go_upto_region 5 with (fail)
  rw [← HW3.o]
  go_wp2_with fail
  refine (ptext_calls _ none 0 0 _ (bs col) HN3.o HS3.o (by omega) (by rw [bs_size]; have := Hcol.o; omega)).mono ?_
  rintro e w4 ⟨⟨B4, m4, d4, rfl, hm4, hr4, hb4⟩⟩
  rw [bs_data] at hm4 hr4
  have hq4 : m4 ≤ 20009 := by
    have h1 := HN3.o
    have h2 := Lcol.o
    rw [hm4, List.length_append, ← h1]
    omega
  have HN4 := hd hm4
  have HR4 := hd hr4.rds
  have HW4 := hd (hr4.mono (T := From w.heap.size) (fun q hq => Nat.le_trans HB3.o.size hq))
  have HB4 := hd (HB3.o.trans (hb4.mono HB3.o.size))
  have HK4 := hd (HK3.o.below hb4 la)
  have HH4 := hd (HH3.o.below hb4 lh)
  clear hm4 hr4 hb4 la lh a0 a1 a2 a3 a4 a5 a6 a7 a8 a9 a10 e0 e1 e2 e3 e4 e5 e6 e7 e8
  have a0 := HK4.o.at_ 0 rfl
  have a1 := HK4.o.at_ 1 rfl
  have a2 := HK4.o.at_ 2 rfl
  have a3 := HK4.o.at_ 3 rfl
  have a4 := HK4.o.at_ 4 rfl
  have a5 := HK4.o.at_ 5 rfl
  have a6 := HK4.o.at_ 6 rfl
  have a7 := HK4.o.at_ 7 rfl
  have a8 := HK4.o.at_ 8 rfl
  have a9 := HK4.o.at_ 9 rfl
  have a10 := HK4.o.at_ 10 rfl
  have e0 := HH4.o.at_ 0 rfl
  have e1 := HH4.o.at_ 1 rfl
  have e2 := HH4.o.at_ 2 rfl
  have e3 := HH4.o.at_ 3 rfl
  have e4 := HH4.o.at_ 4 rfl
  have e5 := HH4.o.at_ 5 rfl
  have e6 := HH4.o.at_ 6 rfl
  have e7 := HH4.o.at_ 7 rfl
  have e8 := HH4.o.at_ 8 rfl
  have la := HK4.o.lt
  have lh := HH4.o.lt
  go_wp2_with fail
  refine (pnum_calls _ B4 m4 d4 _ (n : Int) HN4.o HR4.o (by omega) (by omega) (by omega)).mono ?_
  rintro e w5 ⟨⟨B5, m5, d5, rfl, hm5, hr5, hb5⟩⟩
  have hq5 : m5 ≤ 20027 := by
    have h1 := HN4.o
    have h2 := Ln.o
    rw [hm5, List.length_append, ← h1]
    omega
  have HN5 := hd hm5
  have HR5 := hd hr5.rds
  have HW5 := hd (hr5.mono (T := From w.heap.size) (fun q hq => Nat.le_trans HB4.o.size hq))
  have HB5 := hd (HB4.o.trans (hb5.mono HB4.o.size))
  have HK5 := hd (HK4.o.below hb5 la)
  have HH5 := hd (HH4.o.below hb5 lh)
  clear hm5 hr5 hb5 la lh a0 a1 a2 a3 a4 a5 a6 a7 a8 a9 a10 e0 e1 e2 e3 e4 e5 e6 e7 e8
  have a0 := HK5.o.at_ 0 rfl
  have a1 := HK5.o.at_ 1 rfl
  have a2 := HK5.o.at_ 2 rfl
  have a3 := HK5.o.at_ 3 rfl
  have a4 := HK5.o.at_ 4 rfl
  have a5 := HK5.o.at_ 5 rfl
  have a6 := HK5.o.at_ 6 rfl
  have a7 := HK5.o.at_ 7 rfl
  have a8 := HK5.o.at_ 8 rfl
  have a9 := HK5.o.at_ 9 rfl
  have a10 := HK5.o.at_ 10 rfl
  have e0 := HH5.o.at_ 0 rfl
  have e1 := HH5.o.at_ 1 rfl
  have e2 := HH5.o.at_ 2 rfl
  have e3 := HH5.o.at_ 3 rfl
  have e4 := HH5.o.at_ 4 rfl
  have e5 := HH5.o.at_ 5 rfl
  have e6 := HH5.o.at_ 6 rfl
  have e7 := HH5.o.at_ 7 rfl
  have e8 := HH5.o.at_ 8 rfl
  have la := HK5.o.lt
  have lh := HH5.o.lt
  go_wp2_with fail
  go_loopw [57, 8, 6] (fun i _ b wr => ∃ (k m d : Nat) (B : Option Addr), i = .int .i64 k ∧ k ≤ n ∧ b = .slice B m d ∧ m ≤ 20100 + k * 1000 ∧ Hd (m = (([] ++ textB col ++ numB (n : Int)) ++ opsB (ops.take k)).length) ∧ Hd (Row wr (From w.heap.size) 5 1 B m d (u8E (([] ++ textB col ++ numB (n : Int)) ++ opsB (ops.take k)))) ∧ Hd (Below w.heap.size w wr) ∧ Hd (Below w5.heap.size w5 wr)) (fun i _ _ _ => n - (intOf i).toNat)
  case atStart => exact ⟨0, m5, d5, B5, rfl, Nat.zero_le _, rfl, by omega, hd (by rw [List.take_zero]; simpa [opsB] using HN5.o), hd (by rw [List.take_zero]; simpa [opsB] using HW5.o), HB5, hd (Below.refl _ _)⟩
  case round =>
    obtain ⟨k, m, d, B, rfl, hk, rfl, hmb, HM, HW, HB, HBC⟩ := hrel
    have hki : (0 : Int) ≤ (k : Int) := by omega
    by_cases hlt : k < n
    · have hlti : (k : Int) < (n : Int) := by omega
      have hkl : k < ops.length := by rw [HNN.o]; exact hlt
      obtain ⟨g, o, rfl, hg, hcc⟩ := HRD.o.at_ (by omega)
      obtain ⟨x, hx⟩ : ∃ x, ops[k]'hkl = x := ⟨_, rfl⟩
      have HT : Hd (opsB (ops.take (k + 1)) = opsB (ops.take k) ++ opB x) := hd (by rw [opsB_take _ _ hkl, hx])
      have hmem : x ∈ ops := by rw [← hx]; exact List.getElem_mem hkl
      have hob := HOB.o x hmem
      have HXL := hd hob.1
      have hcell : ∀ j u, j < 5 → (opEnc x)[j]? = some u → wr.cell? ⟨g, o + (k * 5 + j), none⟩ = some u := fun j u hj hv => (HB.o.cell (p := ⟨g, o + (k * 5 + j), none⟩) hg).trans (hcc _ _ ((opsE_at ops k hkl j hj).trans (by rw [hx]; exact hv)))
      have C3 := fun W (hr : Rds W B m 1 (u8E (([] ++ textB col ++ numB (n : Int)) ++ opsB (ops.take k)))) => pop_calls W B m d _ x HM.o hr (by omega) hob.2.1 hob.2.2.1 hob.2.2.2.1 hob.2.2.2.2
      obtain ⟨xd, xu, xc, xk, xv⟩ := x
      simp only [opEnc] at C3
      have k0 := hcell 0 _ (by omega) rfl
      have k1 := hcell 1 _ (by omega) rfl
      have k2 := hcell 2 _ (by omega) rfl
      have k3 := hcell 3 _ (by omega) rfl
      have k4 := hcell 4 _ (by omega) rfl
      rw [← Nat.add_assoc] at k0 k1 k2 k3 k4
      rw [Nat.add_zero] at k0
      have HA := hd (HB.o.alloc HB.o.size (.cells #[.bool xd, .string (bs xu), .string (bs xc), .int .i64 xk, .int .i64 xv] 43))
      have HAC := hd (HBC.o.alloc HBC.o.size (.cells #[.bool xd, .string (bs xu), .string (bs xc), .int .i64 xk, .int .i64 xv] 43))
      have K3 := hd (C3 (wr.alloc (.cells #[.bool xd, .string (bs xu), .string (bs xc), .int .i64 xk, .int .i64 xv] 43)) (HW.o.rds.alloc _))
      clear hcell hcc hx hkl hmem hob C3
      go_wp2_with fail
      refine K3.o.mono ?_
      rintro e w9 ⟨⟨B9, m9, d9, rfl, hm9, hr9, hb9⟩⟩
      have hq9 : m9 ≤ 20100 + (k + 1) * 1000 := by
        have h1 := HM.o
        have h2 := HXL.o
        rw [hm9, List.length_append, ← h1]
        omega
      have HM9 := hd hm9
      have HR9 := hd (hr9.mono (T := From w.heap.size) (fun q hq => Nat.le_trans HA.o.size hq))
      have HB9 := hd (HA.o.trans (hb9.mono HA.o.size))
      have HC9 := hd (HAC.o.trans (hb9.mono HAC.o.size))
      clear hm9 hr9 hb9
      go_wp2
      go_roundw
      case rel => exact ⟨k + 1, m9, d9, B9, by go_num, by omega, by rfl, hq9, hd (by rw [HM9.o, HT.o, List.append_assoc]), hd (by rw [HT.o, ← List.append_assoc]; exact HR9.o), HB9, HC9⟩
      case measure => simp [intOf]; omega
    · obtain rfl : k = n := by omega
      have HE2 := hd (show ([] ++ textB col ++ numB (k : Int)) ++ opsB (ops.take k) = encB ⟨7, tn, col, uid, card, ck, cv, ops, tok, most, ticks⟩ by
        rw [HE.o, List.take_of_length_le (by rw [HNN.o]; exact Nat.le_refl _), HNN.o]; simp)
      have hkc := HK5.o.below HBC.o la
      have hhc := HH5.o.below HBC.o lh
      clear la lh a0 a1 a2 a3 a4 a5 a6 a7 a8 a9 a10 e0 e1 e2 e3 e4 e5 e6 e7 e8
      have a0 := hkc.at_ 0 rfl
      have a1 := hkc.at_ 1 rfl
      have a2 := hkc.at_ 2 rfl
      have a3 := hkc.at_ 3 rfl
      have a4 := hkc.at_ 4 rfl
      have a5 := hkc.at_ 5 rfl
      have a6 := hkc.at_ 6 rfl
      have a7 := hkc.at_ 7 rfl
      have a8 := hkc.at_ 8 rfl
      have a9 := hkc.at_ 9 rfl
      have a10 := hkc.at_ 10 rfl
      have e0 := hhc.at_ 0 rfl
      have e1 := hhc.at_ 1 rfl
      have e2 := hhc.at_ 2 rfl
      have e3 := hhc.at_ 3 rfl
      have e4 := hhc.at_ 4 rfl
      have e5 := hhc.at_ 5 rfl
      have e6 := hhc.at_ 6 rfl
      have e7 := hhc.at_ 7 rfl
      have e8 := hhc.at_ 8 rfl
      have la := hkc.lt
      have lh := hhc.lt
      clear hkc hhc
      go_wp2
      go_ret2
      exact ⟨fun _ => ⟨B, m, d, rfl, by rw [HM.o, HE2.o], by rw [← HE2.o]; exact HW.o, HB.o⟩, fun h => absurd H0.o h⟩

set_option maxRecDepth 100000 in
set_option maxHeartbeats 8000000 in
theorem enc_8 (tn col uid card : List UInt8) (ck cv : Int) (ops : List OpV) (tok most ticks : Int) (A : Option Addr) (c : Nat) (w : World) (ht : Tbs w) (hr : Rds w A ops.length 5 (opsE ops)) (hs : RqS ⟨8, tn, col, uid, card, ck, cv, ops, tok, most, ticks⟩) (hB : RqB ⟨8, tn, col, uid, card, ck, cv, ops, tok, most, ticks⟩) (h0 : chk ⟨8, tn, col, uid, card, ck, cv, ops, tok, most, ticks⟩ = 0) :
    Calls Tryz.prog 15 #[reqV ⟨8, tn, col, uid, card, ck, cv, ops, tok, most, ticks⟩ A c] w fun e w' => EncR w ⟨8, tn, col, uid, card, ck, cv, ops, tok, most, ticks⟩ e w' := by
  have rr := raw_of h0 hB
  obtain ⟨hb8, hbo⟩ := ops_bound h0 hB
  have Htn := hd (show tn.length ≤ 20000 from rr.tn.1)
  have Hcol := hd (show col.length ≤ 20000 from rr.col.1)
  have Huid := hd (show uid.length ≤ 20000 from rr.uid.1)
  have Hcard := hd (show card.length ≤ 20000 from rr.card.1)
  have Hck := hd (show I64b ck from hB.ck)
  have Hcv := hd (show I64b cv from hB.cv)
  have Htok := hd (show -9223372036854775808 ≤ tok ∧ tok ≤ 9223372036854775807 from hB.tok)
  have Hmost := hd (show -9223372036854775808 ≤ most ∧ most ≤ 9223372036854775807 from hB.most)
  have Hticks := hd (show -9223372036854775808 ≤ ticks ∧ ticks ≤ 9223372036854775807 from hB.ticks)
  have Ltn := hd (show (textB tn).length ≤ 20009 from by have := textB_len Htn.o; have := Htn.o; omega)
  have Lcol := hd (show (textB col).length ≤ 20009 from by have := textB_len Hcol.o; have := Hcol.o; omega)
  have Luid := hd (show (textB uid).length ≤ 20009 from by have := textB_len Huid.o; have := Huid.o; omega)
  have Lcard := hd (show (textB card).length ≤ 20009 from by have := textB_len Hcard.o; have := Hcard.o; omega)
  have Lcond := hd (show (condB ck cv).length ≤ 18 from by
    have h1 := numB_len9 (v := ck) hB.ck
    have h2 := numB_len9 (v := cv) hB.cv
    unfold condB
    rw [List.length_append]; omega)
  have Ltok := hd (show (numB tok).length ≤ 18 from by have := numB_len9 (v := tok) hB.tok; omega)
  have Lmost := hd (show (numB most).length ≤ 18 from by have := numB_len9 (v := most) hB.most; omega)
  have Lticks := hd (show (numB ticks).length ≤ 18 from by have := numB_len9 (v := ticks) hB.ticks; omega)
  have HOB := hd (show ∀ o ∈ ops, (opB o).length ≤ 1000 ∧ o.uid.length ≤ 80000 ∧ o.card.length ≤ 80000 ∧ I64b o.ck ∧ I64b o.cv from hbo)
  have C2 := hd (fun W => show Calls Tryz.prog 42 #[.int .i64 8] W fun e w' => e = .returned (.agg #[.bool false, .bool true, .bool false, .bool false, .bool false, .bool false, .bool true, .bool true, .bool false]) ∧ Below W.heap.size W w' from fields_calls 8 (by decide) W)
  obtain ⟨n, hn⟩ : ∃ n, ops.length = n := ⟨_, rfl⟩
  have C1 := fun W (h : Below w.heap.size w W) => check_calls ⟨8, tn, col, uid, card, ck, cv, ops, tok, most, ticks⟩ A c W (ht.below h) (hr.below h) hs
  rw [h0] at C1
  unfold reqV reqE at *
  simp only at C1 hb8 ⊢
  rw [hn] at C1 hr hb8 ⊢
  have HNN := hd hn
  have Ln := hd (show (numB (n : Int)).length ≤ 18 from by have := numB_len9 (v := (n : Int)) ⟨by omega, by omega⟩; omega)
  have HRD := hd hr
  have H0 := hd h0
  obtain ⟨Y, hY⟩ : ∃ Y, Y = w.alloc (.cells #[.int .i64 8, .string (bs tn), .string (bs col), .string (bs uid), .string (bs card), .int .i64 ck, .int .i64 cv, .slice A n c, .int .i64 tok, .int .i64 most, .int .i64 ticks] 26) := ⟨_, rfl⟩
  have HK := hd (show Blk Y w.heap.size 26 #[.int .i64 8, .string (bs tn), .string (bs col), .string (bs uid), .string (bs card), .int .i64 ck, .int .i64 cv, .slice A n c, .int .i64 tok, .int .i64 most, .int .i64 ticks] by rw [hY]; exact Blk.new _ _ _)
  have HBY := hd (show Below w.heap.size w Y by rw [hY]; exact (Below.refl _ w).alloc (Nat.le_refl _) _)
  have HYY := hd hY
  replace C1 := hd (C1 Y HBY.o)
  have y0 := HK.o.at_ 0 rfl
  have y1 := HK.o.at_ 1 rfl
  have y2 := HK.o.at_ 2 rfl
  have y3 := HK.o.at_ 3 rfl
  have y4 := HK.o.at_ 4 rfl
  have y5 := HK.o.at_ 5 rfl
  have y6 := HK.o.at_ 6 rfl
  have y7 := HK.o.at_ 7 rfl
  have y8 := HK.o.at_ 8 rfl
  have y9 := HK.o.at_ 9 rfl
  have y10 := HK.o.at_ 10 rfl
  have hl0 := HK.o.lt
  clear rr hbo hn hr hs hB h0 ht hY
  have HE := hd (show encB ⟨8, tn, col, uid, card, ck, cv, ops, tok, most, ticks⟩ = textB col ++ (numB tok ++ (numB most)) by simp [encB, eT, eN, eC, eO, hT, hC, hU, hCd, hCn, hO, hTk, hM, hTi])
  go_enter Tryz.func15, Tryz.ntmps15
  go_upto_region 1 with (fail)
  rw [← HYY.o]
  go_wp2_with fail
  refine C1.o.mono ?_
  rintro e w1 ⟨rfl, hb1⟩
  have hk1 := HK.o.below hb1 hl0
  have a0 := hk1.at_ 0 rfl
  have HK1 := hd hk1
  have hl1 := hk1.lt
  have HB1 := hd (HBY.o.trans (hb1.mono HBY.o.size))
  clear hb1 hk1 y0 y1 y2 y3 y4 y5 y6 y7 y8 y9 y10 hl0
  go_wp2_with fail
  refine (C2.o _).mono ?_
  rintro e w2 ⟨rfl, hb2⟩
  have hk2 := HK1.o.below hb2 hl1
  have HB2 := hd (HB1.o.trans (hb2.mono HB1.o.size))
  obtain ⟨w3, hw3⟩ : ∃ w3, w3 = w2.alloc (.cells #[.bool false, .bool true, .bool false, .bool false, .bool false, .bool false, .bool true, .bool true, .bool false] 78) := ⟨_, rfl⟩
  have HK3 := hd (show Blk w3 w.heap.size 26 #[.int .i64 8, .string (bs tn), .string (bs col), .string (bs uid), .string (bs card), .int .i64 ck, .int .i64 cv, .slice A n c, .int .i64 tok, .int .i64 most, .int .i64 ticks] by rw [hw3]; exact hk2.alloc _)
  have HH3 := hd (show Blk w3 w2.heap.size 78 #[.bool false, .bool true, .bool false, .bool false, .bool false, .bool false, .bool true, .bool true, .bool false] by rw [hw3]; exact Blk.new _ _ _)
  have HB3 := hd (show Below w.heap.size w w3 by rw [hw3]; exact HB2.o.alloc HB2.o.size _)
  have HS3 := hd (Rds.nil8 w3)
  have hm3 : (0 : Nat) ≤ 0 := Nat.le_refl _
  have HN3 := hd (show (0 : Nat) = ([] : List UInt8).length from rfl)
  have HW3 := hd hw3
  clear hb2 hk2 hw3 a0 hl1 C1 C2 HK1
  have a0 := HK3.o.at_ 0 rfl
  have a1 := HK3.o.at_ 1 rfl
  have a2 := HK3.o.at_ 2 rfl
  have a3 := HK3.o.at_ 3 rfl
  have a4 := HK3.o.at_ 4 rfl
  have a5 := HK3.o.at_ 5 rfl
  have a6 := HK3.o.at_ 6 rfl
  have a7 := HK3.o.at_ 7 rfl
  have a8 := HK3.o.at_ 8 rfl
  have a9 := HK3.o.at_ 9 rfl
  have a10 := HK3.o.at_ 10 rfl
  have e0 := HH3.o.at_ 0 rfl
  have e1 := HH3.o.at_ 1 rfl
  have e2 := HH3.o.at_ 2 rfl
  have e3 := HH3.o.at_ 3 rfl
  have e4 := HH3.o.at_ 4 rfl
  have e5 := HH3.o.at_ 5 rfl
  have e6 := HH3.o.at_ 6 rfl
  have e7 := HH3.o.at_ 7 rfl
  have e8 := HH3.o.at_ 8 rfl
  have la := HK3.o.lt
  have lh := HH3.o.lt
  go_upto_region 5 with (fail)
  rw [← HW3.o]
  go_wp2_with fail
  refine (ptext_calls _ none 0 0 _ (bs col) HN3.o HS3.o (by omega) (by rw [bs_size]; have := Hcol.o; omega)).mono ?_
  rintro e w4 ⟨⟨B4, m4, d4, rfl, hm4, hr4, hb4⟩⟩
  rw [bs_data] at hm4 hr4
  have hq4 : m4 ≤ 20009 := by
    have h1 := HN3.o
    have h2 := Lcol.o
    rw [hm4, List.length_append, ← h1]
    omega
  have HN4 := hd hm4
  have HR4 := hd hr4.rds
  have HW4 := hd (hr4.mono (T := From w.heap.size) (fun q hq => Nat.le_trans HB3.o.size hq))
  have HB4 := hd (HB3.o.trans (hb4.mono HB3.o.size))
  have HK4 := hd (HK3.o.below hb4 la)
  have HH4 := hd (HH3.o.below hb4 lh)
  clear hm4 hr4 hb4 la lh a0 a1 a2 a3 a4 a5 a6 a7 a8 a9 a10 e0 e1 e2 e3 e4 e5 e6 e7 e8
  have a0 := HK4.o.at_ 0 rfl
  have a1 := HK4.o.at_ 1 rfl
  have a2 := HK4.o.at_ 2 rfl
  have a3 := HK4.o.at_ 3 rfl
  have a4 := HK4.o.at_ 4 rfl
  have a5 := HK4.o.at_ 5 rfl
  have a6 := HK4.o.at_ 6 rfl
  have a7 := HK4.o.at_ 7 rfl
  have a8 := HK4.o.at_ 8 rfl
  have a9 := HK4.o.at_ 9 rfl
  have a10 := HK4.o.at_ 10 rfl
  have e0 := HH4.o.at_ 0 rfl
  have e1 := HH4.o.at_ 1 rfl
  have e2 := HH4.o.at_ 2 rfl
  have e3 := HH4.o.at_ 3 rfl
  have e4 := HH4.o.at_ 4 rfl
  have e5 := HH4.o.at_ 5 rfl
  have e6 := HH4.o.at_ 6 rfl
  have e7 := HH4.o.at_ 7 rfl
  have e8 := HH4.o.at_ 8 rfl
  have la := HK4.o.lt
  have lh := HH4.o.lt
  go_wp2_with fail
  refine (pnum_calls _ B4 m4 d4 _ tok HN4.o HR4.o (by omega) Htok.o.2 Htok.o.1).mono ?_
  rintro e w5 ⟨⟨B5, m5, d5, rfl, hm5, hr5, hb5⟩⟩
  have hq5 : m5 ≤ 20027 := by
    have h1 := HN4.o
    have h2 := Ltok.o
    rw [hm5, List.length_append, ← h1]
    omega
  have HN5 := hd hm5
  have HR5 := hd hr5.rds
  have HW5 := hd (hr5.mono (T := From w.heap.size) (fun q hq => Nat.le_trans HB4.o.size hq))
  have HB5 := hd (HB4.o.trans (hb5.mono HB4.o.size))
  have HK5 := hd (HK4.o.below hb5 la)
  have HH5 := hd (HH4.o.below hb5 lh)
  clear hm5 hr5 hb5 la lh a0 a1 a2 a3 a4 a5 a6 a7 a8 a9 a10 e0 e1 e2 e3 e4 e5 e6 e7 e8
  have a0 := HK5.o.at_ 0 rfl
  have a1 := HK5.o.at_ 1 rfl
  have a2 := HK5.o.at_ 2 rfl
  have a3 := HK5.o.at_ 3 rfl
  have a4 := HK5.o.at_ 4 rfl
  have a5 := HK5.o.at_ 5 rfl
  have a6 := HK5.o.at_ 6 rfl
  have a7 := HK5.o.at_ 7 rfl
  have a8 := HK5.o.at_ 8 rfl
  have a9 := HK5.o.at_ 9 rfl
  have a10 := HK5.o.at_ 10 rfl
  have e0 := HH5.o.at_ 0 rfl
  have e1 := HH5.o.at_ 1 rfl
  have e2 := HH5.o.at_ 2 rfl
  have e3 := HH5.o.at_ 3 rfl
  have e4 := HH5.o.at_ 4 rfl
  have e5 := HH5.o.at_ 5 rfl
  have e6 := HH5.o.at_ 6 rfl
  have e7 := HH5.o.at_ 7 rfl
  have e8 := HH5.o.at_ 8 rfl
  have la := HK5.o.lt
  have lh := HH5.o.lt
  go_wp2_with fail
  refine (pnum_calls _ B5 m5 d5 _ most HN5.o HR5.o (by omega) Hmost.o.2 Hmost.o.1).mono ?_
  rintro e w6 ⟨⟨B6, m6, d6, rfl, hm6, hr6, hb6⟩⟩
  have hq6 : m6 ≤ 20045 := by
    have h1 := HN5.o
    have h2 := Lmost.o
    rw [hm6, List.length_append, ← h1]
    omega
  have HN6 := hd hm6
  have HR6 := hd hr6.rds
  have HW6 := hd (hr6.mono (T := From w.heap.size) (fun q hq => Nat.le_trans HB5.o.size hq))
  have HB6 := hd (HB5.o.trans (hb6.mono HB5.o.size))
  have HK6 := hd (HK5.o.below hb6 la)
  have HH6 := hd (HH5.o.below hb6 lh)
  clear hm6 hr6 hb6 la lh a0 a1 a2 a3 a4 a5 a6 a7 a8 a9 a10 e0 e1 e2 e3 e4 e5 e6 e7 e8
  have a0 := HK6.o.at_ 0 rfl
  have a1 := HK6.o.at_ 1 rfl
  have a2 := HK6.o.at_ 2 rfl
  have a3 := HK6.o.at_ 3 rfl
  have a4 := HK6.o.at_ 4 rfl
  have a5 := HK6.o.at_ 5 rfl
  have a6 := HK6.o.at_ 6 rfl
  have a7 := HK6.o.at_ 7 rfl
  have a8 := HK6.o.at_ 8 rfl
  have a9 := HK6.o.at_ 9 rfl
  have a10 := HK6.o.at_ 10 rfl
  have e0 := HH6.o.at_ 0 rfl
  have e1 := HH6.o.at_ 1 rfl
  have e2 := HH6.o.at_ 2 rfl
  have e3 := HH6.o.at_ 3 rfl
  have e4 := HH6.o.at_ 4 rfl
  have e5 := HH6.o.at_ 5 rfl
  have e6 := HH6.o.at_ 6 rfl
  have e7 := HH6.o.at_ 7 rfl
  have e8 := HH6.o.at_ 8 rfl
  have la := HK6.o.lt
  have lh := HH6.o.lt
  have HE2 := hd (show [] ++ textB col ++ numB tok ++ numB most = encB ⟨8, tn, col, uid, card, ck, cv, ops, tok, most, ticks⟩ by rw [HE.o]; simp)
  go_wp2
  go_ret2
  exact ⟨fun _ => ⟨B6, m6, d6, rfl, by rw [HN6.o, HE2.o], by rw [← HE2.o]; exact HW6.o, HB6.o⟩, fun h => absurd H0.o h⟩

set_option maxRecDepth 100000 in
set_option maxHeartbeats 8000000 in
theorem enc_9 (tn col uid card : List UInt8) (ck cv : Int) (ops : List OpV) (tok most ticks : Int) (A : Option Addr) (c : Nat) (w : World) (ht : Tbs w) (hr : Rds w A ops.length 5 (opsE ops)) (hs : RqS ⟨9, tn, col, uid, card, ck, cv, ops, tok, most, ticks⟩) (hB : RqB ⟨9, tn, col, uid, card, ck, cv, ops, tok, most, ticks⟩) (h0 : chk ⟨9, tn, col, uid, card, ck, cv, ops, tok, most, ticks⟩ = 0) :
    Calls Tryz.prog 15 #[reqV ⟨9, tn, col, uid, card, ck, cv, ops, tok, most, ticks⟩ A c] w fun e w' => EncR w ⟨9, tn, col, uid, card, ck, cv, ops, tok, most, ticks⟩ e w' := by
  have rr := raw_of h0 hB
  obtain ⟨hb8, hbo⟩ := ops_bound h0 hB
  have Htn := hd (show tn.length ≤ 20000 from rr.tn.1)
  have Hcol := hd (show col.length ≤ 20000 from rr.col.1)
  have Huid := hd (show uid.length ≤ 20000 from rr.uid.1)
  have Hcard := hd (show card.length ≤ 20000 from rr.card.1)
  have Hck := hd (show I64b ck from hB.ck)
  have Hcv := hd (show I64b cv from hB.cv)
  have Htok := hd (show -9223372036854775808 ≤ tok ∧ tok ≤ 9223372036854775807 from hB.tok)
  have Hmost := hd (show -9223372036854775808 ≤ most ∧ most ≤ 9223372036854775807 from hB.most)
  have Hticks := hd (show -9223372036854775808 ≤ ticks ∧ ticks ≤ 9223372036854775807 from hB.ticks)
  have Ltn := hd (show (textB tn).length ≤ 20009 from by have := textB_len Htn.o; have := Htn.o; omega)
  have Lcol := hd (show (textB col).length ≤ 20009 from by have := textB_len Hcol.o; have := Hcol.o; omega)
  have Luid := hd (show (textB uid).length ≤ 20009 from by have := textB_len Huid.o; have := Huid.o; omega)
  have Lcard := hd (show (textB card).length ≤ 20009 from by have := textB_len Hcard.o; have := Hcard.o; omega)
  have Lcond := hd (show (condB ck cv).length ≤ 18 from by
    have h1 := numB_len9 (v := ck) hB.ck
    have h2 := numB_len9 (v := cv) hB.cv
    unfold condB
    rw [List.length_append]; omega)
  have Ltok := hd (show (numB tok).length ≤ 18 from by have := numB_len9 (v := tok) hB.tok; omega)
  have Lmost := hd (show (numB most).length ≤ 18 from by have := numB_len9 (v := most) hB.most; omega)
  have Lticks := hd (show (numB ticks).length ≤ 18 from by have := numB_len9 (v := ticks) hB.ticks; omega)
  have HOB := hd (show ∀ o ∈ ops, (opB o).length ≤ 1000 ∧ o.uid.length ≤ 80000 ∧ o.card.length ≤ 80000 ∧ I64b o.ck ∧ I64b o.cv from hbo)
  have C2 := hd (fun W => show Calls Tryz.prog 42 #[.int .i64 9] W fun e w' => e = .returned (.agg #[.bool false, .bool true, .bool false, .bool false, .bool false, .bool false, .bool true, .bool false, .bool true]) ∧ Below W.heap.size W w' from fields_calls 9 (by decide) W)
  obtain ⟨n, hn⟩ : ∃ n, ops.length = n := ⟨_, rfl⟩
  have C1 := fun W (h : Below w.heap.size w W) => check_calls ⟨9, tn, col, uid, card, ck, cv, ops, tok, most, ticks⟩ A c W (ht.below h) (hr.below h) hs
  rw [h0] at C1
  unfold reqV reqE at *
  simp only at C1 hb8 ⊢
  rw [hn] at C1 hr hb8 ⊢
  have HNN := hd hn
  have Ln := hd (show (numB (n : Int)).length ≤ 18 from by have := numB_len9 (v := (n : Int)) ⟨by omega, by omega⟩; omega)
  have HRD := hd hr
  have H0 := hd h0
  obtain ⟨Y, hY⟩ : ∃ Y, Y = w.alloc (.cells #[.int .i64 9, .string (bs tn), .string (bs col), .string (bs uid), .string (bs card), .int .i64 ck, .int .i64 cv, .slice A n c, .int .i64 tok, .int .i64 most, .int .i64 ticks] 26) := ⟨_, rfl⟩
  have HK := hd (show Blk Y w.heap.size 26 #[.int .i64 9, .string (bs tn), .string (bs col), .string (bs uid), .string (bs card), .int .i64 ck, .int .i64 cv, .slice A n c, .int .i64 tok, .int .i64 most, .int .i64 ticks] by rw [hY]; exact Blk.new _ _ _)
  have HBY := hd (show Below w.heap.size w Y by rw [hY]; exact (Below.refl _ w).alloc (Nat.le_refl _) _)
  have HYY := hd hY
  replace C1 := hd (C1 Y HBY.o)
  have y0 := HK.o.at_ 0 rfl
  have y1 := HK.o.at_ 1 rfl
  have y2 := HK.o.at_ 2 rfl
  have y3 := HK.o.at_ 3 rfl
  have y4 := HK.o.at_ 4 rfl
  have y5 := HK.o.at_ 5 rfl
  have y6 := HK.o.at_ 6 rfl
  have y7 := HK.o.at_ 7 rfl
  have y8 := HK.o.at_ 8 rfl
  have y9 := HK.o.at_ 9 rfl
  have y10 := HK.o.at_ 10 rfl
  have hl0 := HK.o.lt
  clear rr hbo hn hr hs hB h0 ht hY
  have HE := hd (show encB ⟨9, tn, col, uid, card, ck, cv, ops, tok, most, ticks⟩ = textB col ++ (numB tok ++ (numB ticks)) by simp [encB, eT, eN, eC, eO, hT, hC, hU, hCd, hCn, hO, hTk, hM, hTi])
  go_enter Tryz.func15, Tryz.ntmps15
  go_upto_region 1 with (fail)
  rw [← HYY.o]
  go_wp2_with fail
  refine C1.o.mono ?_
  rintro e w1 ⟨rfl, hb1⟩
  have hk1 := HK.o.below hb1 hl0
  have a0 := hk1.at_ 0 rfl
  have HK1 := hd hk1
  have hl1 := hk1.lt
  have HB1 := hd (HBY.o.trans (hb1.mono HBY.o.size))
  clear hb1 hk1 y0 y1 y2 y3 y4 y5 y6 y7 y8 y9 y10 hl0
  go_wp2_with fail
  refine (C2.o _).mono ?_
  rintro e w2 ⟨rfl, hb2⟩
  have hk2 := HK1.o.below hb2 hl1
  have HB2 := hd (HB1.o.trans (hb2.mono HB1.o.size))
  obtain ⟨w3, hw3⟩ : ∃ w3, w3 = w2.alloc (.cells #[.bool false, .bool true, .bool false, .bool false, .bool false, .bool false, .bool true, .bool false, .bool true] 78) := ⟨_, rfl⟩
  have HK3 := hd (show Blk w3 w.heap.size 26 #[.int .i64 9, .string (bs tn), .string (bs col), .string (bs uid), .string (bs card), .int .i64 ck, .int .i64 cv, .slice A n c, .int .i64 tok, .int .i64 most, .int .i64 ticks] by rw [hw3]; exact hk2.alloc _)
  have HH3 := hd (show Blk w3 w2.heap.size 78 #[.bool false, .bool true, .bool false, .bool false, .bool false, .bool false, .bool true, .bool false, .bool true] by rw [hw3]; exact Blk.new _ _ _)
  have HB3 := hd (show Below w.heap.size w w3 by rw [hw3]; exact HB2.o.alloc HB2.o.size _)
  have HS3 := hd (Rds.nil8 w3)
  have hm3 : (0 : Nat) ≤ 0 := Nat.le_refl _
  have HN3 := hd (show (0 : Nat) = ([] : List UInt8).length from rfl)
  have HW3 := hd hw3
  clear hb2 hk2 hw3 a0 hl1 C1 C2 HK1
  have a0 := HK3.o.at_ 0 rfl
  have a1 := HK3.o.at_ 1 rfl
  have a2 := HK3.o.at_ 2 rfl
  have a3 := HK3.o.at_ 3 rfl
  have a4 := HK3.o.at_ 4 rfl
  have a5 := HK3.o.at_ 5 rfl
  have a6 := HK3.o.at_ 6 rfl
  have a7 := HK3.o.at_ 7 rfl
  have a8 := HK3.o.at_ 8 rfl
  have a9 := HK3.o.at_ 9 rfl
  have a10 := HK3.o.at_ 10 rfl
  have e0 := HH3.o.at_ 0 rfl
  have e1 := HH3.o.at_ 1 rfl
  have e2 := HH3.o.at_ 2 rfl
  have e3 := HH3.o.at_ 3 rfl
  have e4 := HH3.o.at_ 4 rfl
  have e5 := HH3.o.at_ 5 rfl
  have e6 := HH3.o.at_ 6 rfl
  have e7 := HH3.o.at_ 7 rfl
  have e8 := HH3.o.at_ 8 rfl
  have la := HK3.o.lt
  have lh := HH3.o.lt
  go_upto_region 5 with (fail)
  rw [← HW3.o]
  go_wp2_with fail
  refine (ptext_calls _ none 0 0 _ (bs col) HN3.o HS3.o (by omega) (by rw [bs_size]; have := Hcol.o; omega)).mono ?_
  rintro e w4 ⟨⟨B4, m4, d4, rfl, hm4, hr4, hb4⟩⟩
  rw [bs_data] at hm4 hr4
  have hq4 : m4 ≤ 20009 := by
    have h1 := HN3.o
    have h2 := Lcol.o
    rw [hm4, List.length_append, ← h1]
    omega
  have HN4 := hd hm4
  have HR4 := hd hr4.rds
  have HW4 := hd (hr4.mono (T := From w.heap.size) (fun q hq => Nat.le_trans HB3.o.size hq))
  have HB4 := hd (HB3.o.trans (hb4.mono HB3.o.size))
  have HK4 := hd (HK3.o.below hb4 la)
  have HH4 := hd (HH3.o.below hb4 lh)
  clear hm4 hr4 hb4 la lh a0 a1 a2 a3 a4 a5 a6 a7 a8 a9 a10 e0 e1 e2 e3 e4 e5 e6 e7 e8
  have a0 := HK4.o.at_ 0 rfl
  have a1 := HK4.o.at_ 1 rfl
  have a2 := HK4.o.at_ 2 rfl
  have a3 := HK4.o.at_ 3 rfl
  have a4 := HK4.o.at_ 4 rfl
  have a5 := HK4.o.at_ 5 rfl
  have a6 := HK4.o.at_ 6 rfl
  have a7 := HK4.o.at_ 7 rfl
  have a8 := HK4.o.at_ 8 rfl
  have a9 := HK4.o.at_ 9 rfl
  have a10 := HK4.o.at_ 10 rfl
  have e0 := HH4.o.at_ 0 rfl
  have e1 := HH4.o.at_ 1 rfl
  have e2 := HH4.o.at_ 2 rfl
  have e3 := HH4.o.at_ 3 rfl
  have e4 := HH4.o.at_ 4 rfl
  have e5 := HH4.o.at_ 5 rfl
  have e6 := HH4.o.at_ 6 rfl
  have e7 := HH4.o.at_ 7 rfl
  have e8 := HH4.o.at_ 8 rfl
  have la := HK4.o.lt
  have lh := HH4.o.lt
  go_wp2_with fail
  refine (pnum_calls _ B4 m4 d4 _ tok HN4.o HR4.o (by omega) Htok.o.2 Htok.o.1).mono ?_
  rintro e w5 ⟨⟨B5, m5, d5, rfl, hm5, hr5, hb5⟩⟩
  have hq5 : m5 ≤ 20027 := by
    have h1 := HN4.o
    have h2 := Ltok.o
    rw [hm5, List.length_append, ← h1]
    omega
  have HN5 := hd hm5
  have HR5 := hd hr5.rds
  have HW5 := hd (hr5.mono (T := From w.heap.size) (fun q hq => Nat.le_trans HB4.o.size hq))
  have HB5 := hd (HB4.o.trans (hb5.mono HB4.o.size))
  have HK5 := hd (HK4.o.below hb5 la)
  have HH5 := hd (HH4.o.below hb5 lh)
  clear hm5 hr5 hb5 la lh a0 a1 a2 a3 a4 a5 a6 a7 a8 a9 a10 e0 e1 e2 e3 e4 e5 e6 e7 e8
  have a0 := HK5.o.at_ 0 rfl
  have a1 := HK5.o.at_ 1 rfl
  have a2 := HK5.o.at_ 2 rfl
  have a3 := HK5.o.at_ 3 rfl
  have a4 := HK5.o.at_ 4 rfl
  have a5 := HK5.o.at_ 5 rfl
  have a6 := HK5.o.at_ 6 rfl
  have a7 := HK5.o.at_ 7 rfl
  have a8 := HK5.o.at_ 8 rfl
  have a9 := HK5.o.at_ 9 rfl
  have a10 := HK5.o.at_ 10 rfl
  have e0 := HH5.o.at_ 0 rfl
  have e1 := HH5.o.at_ 1 rfl
  have e2 := HH5.o.at_ 2 rfl
  have e3 := HH5.o.at_ 3 rfl
  have e4 := HH5.o.at_ 4 rfl
  have e5 := HH5.o.at_ 5 rfl
  have e6 := HH5.o.at_ 6 rfl
  have e7 := HH5.o.at_ 7 rfl
  have e8 := HH5.o.at_ 8 rfl
  have la := HK5.o.lt
  have lh := HH5.o.lt
  go_wp2_with fail
  refine (pnum_calls _ B5 m5 d5 _ ticks HN5.o HR5.o (by omega) Hticks.o.2 Hticks.o.1).mono ?_
  rintro e w6 ⟨⟨B6, m6, d6, rfl, hm6, hr6, hb6⟩⟩
  have hq6 : m6 ≤ 20045 := by
    have h1 := HN5.o
    have h2 := Lticks.o
    rw [hm6, List.length_append, ← h1]
    omega
  have HN6 := hd hm6
  have HR6 := hd hr6.rds
  have HW6 := hd (hr6.mono (T := From w.heap.size) (fun q hq => Nat.le_trans HB5.o.size hq))
  have HB6 := hd (HB5.o.trans (hb6.mono HB5.o.size))
  have HK6 := hd (HK5.o.below hb6 la)
  have HH6 := hd (HH5.o.below hb6 lh)
  clear hm6 hr6 hb6 la lh a0 a1 a2 a3 a4 a5 a6 a7 a8 a9 a10 e0 e1 e2 e3 e4 e5 e6 e7 e8
  have a0 := HK6.o.at_ 0 rfl
  have a1 := HK6.o.at_ 1 rfl
  have a2 := HK6.o.at_ 2 rfl
  have a3 := HK6.o.at_ 3 rfl
  have a4 := HK6.o.at_ 4 rfl
  have a5 := HK6.o.at_ 5 rfl
  have a6 := HK6.o.at_ 6 rfl
  have a7 := HK6.o.at_ 7 rfl
  have a8 := HK6.o.at_ 8 rfl
  have a9 := HK6.o.at_ 9 rfl
  have a10 := HK6.o.at_ 10 rfl
  have e0 := HH6.o.at_ 0 rfl
  have e1 := HH6.o.at_ 1 rfl
  have e2 := HH6.o.at_ 2 rfl
  have e3 := HH6.o.at_ 3 rfl
  have e4 := HH6.o.at_ 4 rfl
  have e5 := HH6.o.at_ 5 rfl
  have e6 := HH6.o.at_ 6 rfl
  have e7 := HH6.o.at_ 7 rfl
  have e8 := HH6.o.at_ 8 rfl
  have la := HK6.o.lt
  have lh := HH6.o.lt
  have HE2 := hd (show [] ++ textB col ++ numB tok ++ numB ticks = encB ⟨9, tn, col, uid, card, ck, cv, ops, tok, most, ticks⟩ by rw [HE.o]; simp)
  go_wp2
  go_ret2
  exact ⟨fun _ => ⟨B6, m6, d6, rfl, by rw [HN6.o, HE2.o], by rw [← HE2.o]; exact HW6.o, HB6.o⟩, fun h => absurd H0.o h⟩

set_option maxRecDepth 100000 in
set_option maxHeartbeats 8000000 in
theorem enc_10 (tn col uid card : List UInt8) (ck cv : Int) (ops : List OpV) (tok most ticks : Int) (A : Option Addr) (c : Nat) (w : World) (ht : Tbs w) (hr : Rds w A ops.length 5 (opsE ops)) (hs : RqS ⟨10, tn, col, uid, card, ck, cv, ops, tok, most, ticks⟩) (hB : RqB ⟨10, tn, col, uid, card, ck, cv, ops, tok, most, ticks⟩) (h0 : chk ⟨10, tn, col, uid, card, ck, cv, ops, tok, most, ticks⟩ = 0) :
    Calls Tryz.prog 15 #[reqV ⟨10, tn, col, uid, card, ck, cv, ops, tok, most, ticks⟩ A c] w fun e w' => EncR w ⟨10, tn, col, uid, card, ck, cv, ops, tok, most, ticks⟩ e w' := by
  have rr := raw_of h0 hB
  obtain ⟨hb8, hbo⟩ := ops_bound h0 hB
  have Htn := hd (show tn.length ≤ 20000 from rr.tn.1)
  have Hcol := hd (show col.length ≤ 20000 from rr.col.1)
  have Huid := hd (show uid.length ≤ 20000 from rr.uid.1)
  have Hcard := hd (show card.length ≤ 20000 from rr.card.1)
  have Hck := hd (show I64b ck from hB.ck)
  have Hcv := hd (show I64b cv from hB.cv)
  have Htok := hd (show -9223372036854775808 ≤ tok ∧ tok ≤ 9223372036854775807 from hB.tok)
  have Hmost := hd (show -9223372036854775808 ≤ most ∧ most ≤ 9223372036854775807 from hB.most)
  have Hticks := hd (show -9223372036854775808 ≤ ticks ∧ ticks ≤ 9223372036854775807 from hB.ticks)
  have Ltn := hd (show (textB tn).length ≤ 20009 from by have := textB_len Htn.o; have := Htn.o; omega)
  have Lcol := hd (show (textB col).length ≤ 20009 from by have := textB_len Hcol.o; have := Hcol.o; omega)
  have Luid := hd (show (textB uid).length ≤ 20009 from by have := textB_len Huid.o; have := Huid.o; omega)
  have Lcard := hd (show (textB card).length ≤ 20009 from by have := textB_len Hcard.o; have := Hcard.o; omega)
  have Lcond := hd (show (condB ck cv).length ≤ 18 from by
    have h1 := numB_len9 (v := ck) hB.ck
    have h2 := numB_len9 (v := cv) hB.cv
    unfold condB
    rw [List.length_append]; omega)
  have Ltok := hd (show (numB tok).length ≤ 18 from by have := numB_len9 (v := tok) hB.tok; omega)
  have Lmost := hd (show (numB most).length ≤ 18 from by have := numB_len9 (v := most) hB.most; omega)
  have Lticks := hd (show (numB ticks).length ≤ 18 from by have := numB_len9 (v := ticks) hB.ticks; omega)
  have HOB := hd (show ∀ o ∈ ops, (opB o).length ≤ 1000 ∧ o.uid.length ≤ 80000 ∧ o.card.length ≤ 80000 ∧ I64b o.ck ∧ I64b o.cv from hbo)
  have C2 := hd (fun W => show Calls Tryz.prog 42 #[.int .i64 10] W fun e w' => e = .returned (.agg #[.bool false, .bool false, .bool false, .bool false, .bool false, .bool false, .bool false, .bool false, .bool false]) ∧ Below W.heap.size W w' from fields_calls 10 (by decide) W)
  obtain ⟨n, hn⟩ : ∃ n, ops.length = n := ⟨_, rfl⟩
  have C1 := fun W (h : Below w.heap.size w W) => check_calls ⟨10, tn, col, uid, card, ck, cv, ops, tok, most, ticks⟩ A c W (ht.below h) (hr.below h) hs
  rw [h0] at C1
  unfold reqV reqE at *
  simp only at C1 hb8 ⊢
  rw [hn] at C1 hr hb8 ⊢
  have HNN := hd hn
  have Ln := hd (show (numB (n : Int)).length ≤ 18 from by have := numB_len9 (v := (n : Int)) ⟨by omega, by omega⟩; omega)
  have HRD := hd hr
  have H0 := hd h0
  obtain ⟨Y, hY⟩ : ∃ Y, Y = w.alloc (.cells #[.int .i64 10, .string (bs tn), .string (bs col), .string (bs uid), .string (bs card), .int .i64 ck, .int .i64 cv, .slice A n c, .int .i64 tok, .int .i64 most, .int .i64 ticks] 26) := ⟨_, rfl⟩
  have HK := hd (show Blk Y w.heap.size 26 #[.int .i64 10, .string (bs tn), .string (bs col), .string (bs uid), .string (bs card), .int .i64 ck, .int .i64 cv, .slice A n c, .int .i64 tok, .int .i64 most, .int .i64 ticks] by rw [hY]; exact Blk.new _ _ _)
  have HBY := hd (show Below w.heap.size w Y by rw [hY]; exact (Below.refl _ w).alloc (Nat.le_refl _) _)
  have HYY := hd hY
  replace C1 := hd (C1 Y HBY.o)
  have y0 := HK.o.at_ 0 rfl
  have y1 := HK.o.at_ 1 rfl
  have y2 := HK.o.at_ 2 rfl
  have y3 := HK.o.at_ 3 rfl
  have y4 := HK.o.at_ 4 rfl
  have y5 := HK.o.at_ 5 rfl
  have y6 := HK.o.at_ 6 rfl
  have y7 := HK.o.at_ 7 rfl
  have y8 := HK.o.at_ 8 rfl
  have y9 := HK.o.at_ 9 rfl
  have y10 := HK.o.at_ 10 rfl
  have hl0 := HK.o.lt
  clear rr hbo hn hr hs hB h0 ht hY
  have HE := hd (show encB ⟨10, tn, col, uid, card, ck, cv, ops, tok, most, ticks⟩ = [] by simp [encB, eT, eN, eC, eO, hT, hC, hU, hCd, hCn, hO, hTk, hM, hTi])
  go_enter Tryz.func15, Tryz.ntmps15
  go_upto_region 1 with (fail)
  rw [← HYY.o]
  go_wp2_with fail
  refine C1.o.mono ?_
  rintro e w1 ⟨rfl, hb1⟩
  have hk1 := HK.o.below hb1 hl0
  have a0 := hk1.at_ 0 rfl
  have HK1 := hd hk1
  have hl1 := hk1.lt
  have HB1 := hd (HBY.o.trans (hb1.mono HBY.o.size))
  clear hb1 hk1 y0 y1 y2 y3 y4 y5 y6 y7 y8 y9 y10 hl0
  go_wp2_with fail
  refine (C2.o _).mono ?_
  rintro e w2 ⟨rfl, hb2⟩
  have hk2 := HK1.o.below hb2 hl1
  have HB2 := hd (HB1.o.trans (hb2.mono HB1.o.size))
  obtain ⟨w3, hw3⟩ : ∃ w3, w3 = w2.alloc (.cells #[.bool false, .bool false, .bool false, .bool false, .bool false, .bool false, .bool false, .bool false, .bool false] 78) := ⟨_, rfl⟩
  have HK3 := hd (show Blk w3 w.heap.size 26 #[.int .i64 10, .string (bs tn), .string (bs col), .string (bs uid), .string (bs card), .int .i64 ck, .int .i64 cv, .slice A n c, .int .i64 tok, .int .i64 most, .int .i64 ticks] by rw [hw3]; exact hk2.alloc _)
  have HH3 := hd (show Blk w3 w2.heap.size 78 #[.bool false, .bool false, .bool false, .bool false, .bool false, .bool false, .bool false, .bool false, .bool false] by rw [hw3]; exact Blk.new _ _ _)
  have HB3 := hd (show Below w.heap.size w w3 by rw [hw3]; exact HB2.o.alloc HB2.o.size _)
  have HS3 := hd (Rds.nil8 w3)
  have hm3 : (0 : Nat) ≤ 0 := Nat.le_refl _
  have HN3 := hd (show (0 : Nat) = ([] : List UInt8).length from rfl)
  have HW3 := hd hw3
  clear hb2 hk2 hw3 a0 hl1 C1 C2 HK1
  have a0 := HK3.o.at_ 0 rfl
  have a1 := HK3.o.at_ 1 rfl
  have a2 := HK3.o.at_ 2 rfl
  have a3 := HK3.o.at_ 3 rfl
  have a4 := HK3.o.at_ 4 rfl
  have a5 := HK3.o.at_ 5 rfl
  have a6 := HK3.o.at_ 6 rfl
  have a7 := HK3.o.at_ 7 rfl
  have a8 := HK3.o.at_ 8 rfl
  have a9 := HK3.o.at_ 9 rfl
  have a10 := HK3.o.at_ 10 rfl
  have e0 := HH3.o.at_ 0 rfl
  have e1 := HH3.o.at_ 1 rfl
  have e2 := HH3.o.at_ 2 rfl
  have e3 := HH3.o.at_ 3 rfl
  have e4 := HH3.o.at_ 4 rfl
  have e5 := HH3.o.at_ 5 rfl
  have e6 := HH3.o.at_ 6 rfl
  have e7 := HH3.o.at_ 7 rfl
  have e8 := HH3.o.at_ 8 rfl
  have la := HK3.o.lt
  have lh := HH3.o.lt
  go_upto_region 5 with (fail)
  rw [← HW3.o]
  go_wp2
  go_ret2
  exact ⟨fun _ => ⟨none, 0, 0, rfl, by rw [HE.o]; rfl, by rw [HE.o]; exact Row.nil _ _ _ _, HB3.o⟩, fun h => absurd H0.o h⟩

set_option maxRecDepth 100000 in
set_option maxHeartbeats 8000000 in
theorem enc_11 (tn col uid card : List UInt8) (ck cv : Int) (ops : List OpV) (tok most ticks : Int) (A : Option Addr) (c : Nat) (w : World) (ht : Tbs w) (hr : Rds w A ops.length 5 (opsE ops)) (hs : RqS ⟨11, tn, col, uid, card, ck, cv, ops, tok, most, ticks⟩) (hB : RqB ⟨11, tn, col, uid, card, ck, cv, ops, tok, most, ticks⟩) (h0 : chk ⟨11, tn, col, uid, card, ck, cv, ops, tok, most, ticks⟩ = 0) :
    Calls Tryz.prog 15 #[reqV ⟨11, tn, col, uid, card, ck, cv, ops, tok, most, ticks⟩ A c] w fun e w' => EncR w ⟨11, tn, col, uid, card, ck, cv, ops, tok, most, ticks⟩ e w' := by
  have rr := raw_of h0 hB
  obtain ⟨hb8, hbo⟩ := ops_bound h0 hB
  have Htn := hd (show tn.length ≤ 20000 from rr.tn.1)
  have Hcol := hd (show col.length ≤ 20000 from rr.col.1)
  have Huid := hd (show uid.length ≤ 20000 from rr.uid.1)
  have Hcard := hd (show card.length ≤ 20000 from rr.card.1)
  have Hck := hd (show I64b ck from hB.ck)
  have Hcv := hd (show I64b cv from hB.cv)
  have Htok := hd (show -9223372036854775808 ≤ tok ∧ tok ≤ 9223372036854775807 from hB.tok)
  have Hmost := hd (show -9223372036854775808 ≤ most ∧ most ≤ 9223372036854775807 from hB.most)
  have Hticks := hd (show -9223372036854775808 ≤ ticks ∧ ticks ≤ 9223372036854775807 from hB.ticks)
  have Ltn := hd (show (textB tn).length ≤ 20009 from by have := textB_len Htn.o; have := Htn.o; omega)
  have Lcol := hd (show (textB col).length ≤ 20009 from by have := textB_len Hcol.o; have := Hcol.o; omega)
  have Luid := hd (show (textB uid).length ≤ 20009 from by have := textB_len Huid.o; have := Huid.o; omega)
  have Lcard := hd (show (textB card).length ≤ 20009 from by have := textB_len Hcard.o; have := Hcard.o; omega)
  have Lcond := hd (show (condB ck cv).length ≤ 18 from by
    have h1 := numB_len9 (v := ck) hB.ck
    have h2 := numB_len9 (v := cv) hB.cv
    unfold condB
    rw [List.length_append]; omega)
  have Ltok := hd (show (numB tok).length ≤ 18 from by have := numB_len9 (v := tok) hB.tok; omega)
  have Lmost := hd (show (numB most).length ≤ 18 from by have := numB_len9 (v := most) hB.most; omega)
  have Lticks := hd (show (numB ticks).length ≤ 18 from by have := numB_len9 (v := ticks) hB.ticks; omega)
  have HOB := hd (show ∀ o ∈ ops, (opB o).length ≤ 1000 ∧ o.uid.length ≤ 80000 ∧ o.card.length ≤ 80000 ∧ I64b o.ck ∧ I64b o.cv from hbo)
  have C2 := hd (fun W => show Calls Tryz.prog 42 #[.int .i64 11] W fun e w' => e = .returned (.agg #[.bool false, .bool false, .bool false, .bool false, .bool false, .bool false, .bool false, .bool false, .bool false]) ∧ Below W.heap.size W w' from fields_calls 11 (by decide) W)
  obtain ⟨n, hn⟩ : ∃ n, ops.length = n := ⟨_, rfl⟩
  have C1 := fun W (h : Below w.heap.size w W) => check_calls ⟨11, tn, col, uid, card, ck, cv, ops, tok, most, ticks⟩ A c W (ht.below h) (hr.below h) hs
  rw [h0] at C1
  unfold reqV reqE at *
  simp only at C1 hb8 ⊢
  rw [hn] at C1 hr hb8 ⊢
  have HNN := hd hn
  have Ln := hd (show (numB (n : Int)).length ≤ 18 from by have := numB_len9 (v := (n : Int)) ⟨by omega, by omega⟩; omega)
  have HRD := hd hr
  have H0 := hd h0
  obtain ⟨Y, hY⟩ : ∃ Y, Y = w.alloc (.cells #[.int .i64 11, .string (bs tn), .string (bs col), .string (bs uid), .string (bs card), .int .i64 ck, .int .i64 cv, .slice A n c, .int .i64 tok, .int .i64 most, .int .i64 ticks] 26) := ⟨_, rfl⟩
  have HK := hd (show Blk Y w.heap.size 26 #[.int .i64 11, .string (bs tn), .string (bs col), .string (bs uid), .string (bs card), .int .i64 ck, .int .i64 cv, .slice A n c, .int .i64 tok, .int .i64 most, .int .i64 ticks] by rw [hY]; exact Blk.new _ _ _)
  have HBY := hd (show Below w.heap.size w Y by rw [hY]; exact (Below.refl _ w).alloc (Nat.le_refl _) _)
  have HYY := hd hY
  replace C1 := hd (C1 Y HBY.o)
  have y0 := HK.o.at_ 0 rfl
  have y1 := HK.o.at_ 1 rfl
  have y2 := HK.o.at_ 2 rfl
  have y3 := HK.o.at_ 3 rfl
  have y4 := HK.o.at_ 4 rfl
  have y5 := HK.o.at_ 5 rfl
  have y6 := HK.o.at_ 6 rfl
  have y7 := HK.o.at_ 7 rfl
  have y8 := HK.o.at_ 8 rfl
  have y9 := HK.o.at_ 9 rfl
  have y10 := HK.o.at_ 10 rfl
  have hl0 := HK.o.lt
  clear rr hbo hn hr hs hB h0 ht hY
  have HE := hd (show encB ⟨11, tn, col, uid, card, ck, cv, ops, tok, most, ticks⟩ = [] by simp [encB, eT, eN, eC, eO, hT, hC, hU, hCd, hCn, hO, hTk, hM, hTi])
  go_enter Tryz.func15, Tryz.ntmps15
  go_upto_region 1 with (fail)
  rw [← HYY.o]
  go_wp2_with fail
  refine C1.o.mono ?_
  rintro e w1 ⟨rfl, hb1⟩
  have hk1 := HK.o.below hb1 hl0
  have a0 := hk1.at_ 0 rfl
  have HK1 := hd hk1
  have hl1 := hk1.lt
  have HB1 := hd (HBY.o.trans (hb1.mono HBY.o.size))
  clear hb1 hk1 y0 y1 y2 y3 y4 y5 y6 y7 y8 y9 y10 hl0
  go_wp2_with fail
  refine (C2.o _).mono ?_
  rintro e w2 ⟨rfl, hb2⟩
  have hk2 := HK1.o.below hb2 hl1
  have HB2 := hd (HB1.o.trans (hb2.mono HB1.o.size))
  obtain ⟨w3, hw3⟩ : ∃ w3, w3 = w2.alloc (.cells #[.bool false, .bool false, .bool false, .bool false, .bool false, .bool false, .bool false, .bool false, .bool false] 78) := ⟨_, rfl⟩
  have HK3 := hd (show Blk w3 w.heap.size 26 #[.int .i64 11, .string (bs tn), .string (bs col), .string (bs uid), .string (bs card), .int .i64 ck, .int .i64 cv, .slice A n c, .int .i64 tok, .int .i64 most, .int .i64 ticks] by rw [hw3]; exact hk2.alloc _)
  have HH3 := hd (show Blk w3 w2.heap.size 78 #[.bool false, .bool false, .bool false, .bool false, .bool false, .bool false, .bool false, .bool false, .bool false] by rw [hw3]; exact Blk.new _ _ _)
  have HB3 := hd (show Below w.heap.size w w3 by rw [hw3]; exact HB2.o.alloc HB2.o.size _)
  have HS3 := hd (Rds.nil8 w3)
  have hm3 : (0 : Nat) ≤ 0 := Nat.le_refl _
  have HN3 := hd (show (0 : Nat) = ([] : List UInt8).length from rfl)
  have HW3 := hd hw3
  clear hb2 hk2 hw3 a0 hl1 C1 C2 HK1
  have a0 := HK3.o.at_ 0 rfl
  have a1 := HK3.o.at_ 1 rfl
  have a2 := HK3.o.at_ 2 rfl
  have a3 := HK3.o.at_ 3 rfl
  have a4 := HK3.o.at_ 4 rfl
  have a5 := HK3.o.at_ 5 rfl
  have a6 := HK3.o.at_ 6 rfl
  have a7 := HK3.o.at_ 7 rfl
  have a8 := HK3.o.at_ 8 rfl
  have a9 := HK3.o.at_ 9 rfl
  have a10 := HK3.o.at_ 10 rfl
  have e0 := HH3.o.at_ 0 rfl
  have e1 := HH3.o.at_ 1 rfl
  have e2 := HH3.o.at_ 2 rfl
  have e3 := HH3.o.at_ 3 rfl
  have e4 := HH3.o.at_ 4 rfl
  have e5 := HH3.o.at_ 5 rfl
  have e6 := HH3.o.at_ 6 rfl
  have e7 := HH3.o.at_ 7 rfl
  have e8 := HH3.o.at_ 8 rfl
  have la := HK3.o.lt
  have lh := HH3.o.lt
  go_upto_region 5 with (fail)
  rw [← HW3.o]
  go_wp2
  go_ret2
  exact ⟨fun _ => ⟨none, 0, 0, rfl, by rw [HE.o]; rfl, by rw [HE.o]; exact Row.nil _ _ _ _, HB3.o⟩, fun h => absurd H0.o h⟩

set_option maxRecDepth 100000 in
set_option maxHeartbeats 4000000 in
theorem enc_calls (q : Rq) (A : Option Addr) (c : Nat) (w : World) (ht : Tbs w) (hr : Rds w A q.ops.length 5 (opsE q.ops)) (hs : RqS q) (hB : RqB q) :
    Calls Tryz.prog 15 #[reqV q A c] w fun e w' => EncR w q e w' := by
  by_cases h0 : chk q = 0
  · obtain ⟨k, tn, col, uid, card, ck, cv, ops, tok, most, ticks⟩ := q
    have hk := kind_or (chk_0 h0).1
    simp only at hk hr
    rcases hk with rfl | rfl | rfl | rfl | rfl | rfl | rfl | rfl | rfl | rfl | rfl
    · exact enc_1 tn col uid card ck cv ops tok most ticks A c w ht hr hs hB h0
    · exact enc_2 tn col uid card ck cv ops tok most ticks A c w ht hr hs hB h0
    · exact enc_3 tn col uid card ck cv ops tok most ticks A c w ht hr hs hB h0
    · exact enc_4 tn col uid card ck cv ops tok most ticks A c w ht hr hs hB h0
    · exact enc_5 tn col uid card ck cv ops tok most ticks A c w ht hr hs hB h0
    · exact enc_6 tn col uid card ck cv ops tok most ticks A c w ht hr hs hB h0
    · exact enc_7 tn col uid card ck cv ops tok most ticks A c w ht hr hs hB h0
    · exact enc_8 tn col uid card ck cv ops tok most ticks A c w ht hr hs hB h0
    · exact enc_9 tn col uid card ck cv ops tok most ticks A c w ht hr hs hB h0
    · exact enc_10 tn col uid card ck cv ops tok most ticks A c w ht hr hs hB h0
    · exact enc_11 tn col uid card ck cv ops tok most ticks A c w ht hr hs hB h0
  · have C1 := fun W (h : Below w.heap.size w W) => check_calls q A c W (ht.below h) (hr.below h) hs
    have H0 := hd h0
    have h0b : (chk q != 0) = true := by simpa using h0
    unfold reqV reqE at *
    generalize q.ops.length = n at *
    obtain ⟨Y, hY⟩ : ∃ Y, Y = w.alloc (.cells #[.int .i64 q.k, .string (bs q.tn), .string (bs q.col), .string (bs q.uid), .string (bs q.card), .int .i64 q.ck, .int .i64 q.cv, .slice A n c, .int .i64 q.tok, .int .i64 q.most, .int .i64 q.ticks] 26) := ⟨_, rfl⟩
    have HK := hd (show Blk Y w.heap.size 26 #[.int .i64 q.k, .string (bs q.tn), .string (bs q.col), .string (bs q.uid), .string (bs q.card), .int .i64 q.ck, .int .i64 q.cv, .slice A n c, .int .i64 q.tok, .int .i64 q.most, .int .i64 q.ticks] by rw [hY]; exact Blk.new _ _ _)
    have HBY := hd (show Below w.heap.size w Y by rw [hY]; exact (Below.refl _ w).alloc (Nat.le_refl _) _)
    have HYY := hd hY
    replace C1 := hd (C1 Y HBY.o)
    have y0 := HK.o.at_ 0 rfl
    have y1 := HK.o.at_ 1 rfl
    have y2 := HK.o.at_ 2 rfl
    have y3 := HK.o.at_ 3 rfl
    have y4 := HK.o.at_ 4 rfl
    have y5 := HK.o.at_ 5 rfl
    have y6 := HK.o.at_ 6 rfl
    have y7 := HK.o.at_ 7 rfl
    have y8 := HK.o.at_ 8 rfl
    have y9 := HK.o.at_ 9 rfl
    have y10 := HK.o.at_ 10 rfl
    have hl0 := HK.o.lt
    clear hr hs hB ht hY h0
    go_enter Tryz.func15, Tryz.ntmps15
    go_upto_region 1 with (fail)
    rw [← HYY.o]
    go_wp2_with fail
    refine C1.o.mono ?_
    rintro e w1 ⟨rfl, hb1⟩
    have HB1 := hd (HBY.o.trans (hb1.mono HBY.o.size))
    clear hb1
    go_wp2
    go_ret2
    exact ⟨fun h => absurd h H0.o, fun _ => ⟨rfl, HB1.o⟩⟩

end Go.Proofs.YtogjokofmfpmgaaGreatDoor
