/-
  henlaw12.ReqBack.
-/
import Derived.Test.YtogjokofmfpmgaaGreatDoorGAQ
import Derived.Test.YtogjokofmfpmgaaGreatDoorRqFie
import Derived.Test.YtogjokofmfpmgaaGreatDoorRqSame
import Derived.Test.YtogjokofmfpmgaaGreatDoorGAK
set_option linter.unusedVariables false
set_option linter.unusedSimpArgs false
namespace Go.Proofs.YtogjokofmfpmgaaGreatDoor
open Go.RowKit

theorem raw_s {q : Rq} (h : RawOk q) : RqS q :=
  ⟨Nat.le_trans h.tn.1 (by decide), Nat.le_trans h.col.1 (by decide), Nat.le_trans h.uid.1 (by decide), Nat.le_trans h.card.1 (by decide), Nat.le_trans h.ops.1 (by decide), fun o ho => ⟨Nat.le_trans (h.ops.2.1 o ho).1 (by decide), Nat.le_trans (h.ops.2.1 o ho).2.1 (by decide)⟩⟩
theorem raw_b {q : Rq} (h : RawOk q) (hk : isK q.k = true) : RqB q := by
  have hk : 1 ≤ q.k ∧ q.k ≤ 11 := by unfold isK at hk; simpa using hk
  have a := h.cond
  have b := h.tok
  have c := h.most
  have d := h.ticks
  refine ⟨by omega, by omega, by omega, fun o ho => ?_, by omega, by omega, by omega⟩
  have := h.ops.2.1 o ho
  unfold RawOp at this
  omega
/-- What is known of a request that was decoded. -/
structure DecI (D : Rq) (E k : Int) (l : List UInt8) : Prop where
  yes : E = 0 → D.k = k ∧ chk D = 0 ∧ encB D = l ∧ RqS D ∧ RqB D
  no : E ≠ 0 → D = rq0
  len : D.ops.length ≤ 1000000
theorem dec_i (k : Int) (l : List UInt8) : DecI (decQ k l).1 (decQ k l).2 k l := by
  by_cases h : (decQ k l).2 = 0
  · obtain ⟨h1, h2, h3, h4⟩ := dec_ok h
    exact ⟨fun _ => ⟨h1, h2, h3, raw_s h4, raw_b h4 (chk_0 h2).1⟩, fun k => absurd h k, Nat.le_trans h4.ops.1 (by decide)⟩
  · have := dec_no h
    exact ⟨fun k => absurd k h, fun _ => this, by rw [this]; decide⟩

set_option maxRecDepth 100000 in
set_option maxHeartbeats 4000000 in
theorem rback_law (q : Rq) (A : Option Addr) (c : Nat) (kind : Int) (B : Option Addr) (bn bc : Nat) (bl : List UInt8) (w : World) (ht : Tbs w) (hq : RqOk w q A) (hc : q.ops.length ≤ c) (hkb : -9223372036854775808 ≤ kind ∧ kind ≤ 9223372036854775807) (hrb : Rds w B bn 1 (u8E bl)) (hbn : bn = bl.length) (hbm : bn ≤ maxLen) (hbc : bn ≤ bc) :
    Calls Tryz.prog 4 #[reqV q A c, .int .i64 kind, .slice B bn bc] w fun e w' => e = .returned (.bool true) ∧ Below w.heap.size w w' := by
  obtain ⟨k, tn, col, uid, card, ck, cv, ops, tok, most, ticks⟩ := q
  have C1 := fun W (h : Below w.heap.size w W) => first_calls W (ht.below h)
  have C2 := fun W (h : Below w.heap.size w W) => light_calls W ⟨k, tn, col, uid, card, ck, cv, ops, tok, most, ticks⟩ A c (hq.below h)
  obtain ⟨LB, hLB⟩ : ∃ LB, lightQ ⟨k, tn, col, uid, card, ck, cv, ops, tok, most, ticks⟩ = LB := ⟨_, rfl⟩
  simp only [hLB] at C2
  have HNM := hd hq.num
  have HSZ := hd (fun (hl : LB = true) => light_s (hLB.trans hl))
  have C3 := fun (hl : LB = true) W (h : Below w.heap.size w W) => enc_calls ⟨k, tn, col, uid, card, ck, cv, ops, tok, most, ticks⟩ A c W (ht.below h) (hq.below h).rds (light_s (hLB.trans hl)) HNM.o
  have C4 := fun (hl : LB = true) W (h : Below w.heap.size w W) => check_calls ⟨k, tn, col, uid, card, ck, cv, ops, tok, most, ticks⟩ A c W (ht.below h) (hq.below h).rds (light_s (hLB.trans hl))
  have HRQ := hd (fun W (h : Below w.heap.size w W) => show Rds W A ops.length 5 (opsE ops) from (hq.below h).rds)
  have HT := hd (fun W (h : Below w.heap.size w W) => ht.below h)
  have HRB := hd (fun W (h : Below w.heap.size w W) => hrb.below h)
  have HBN := hd hbn
  unfold maxLen at hbm
  have hbmi : (bn : Int) ≤ 9223372036854775807 := by omega
  unfold reqV reqE at *
  simp only at C1 C2 C3 C4 ⊢
  obtain ⟨n, hn⟩ : ∃ n, ops.length = n := ⟨_, rfl⟩
  have HN := hd hn
  rw [hn] at C2 C3 C4 HRQ ⊢
  replace C1 := hd C1
  replace C2 := hd C2
  replace C3 := hd C3
  replace C4 := hd C4
  clear ht hq hc hkb hrb hbn hbm hbc hLB hn
  go_enter Tryz.func4, Tryz.ntmps4
  obtain ⟨X, hX⟩ : ∃ X, X = w.alloc (.cells #[.int .i64 k, .string (bs tn), .string (bs col), .string (bs uid), .string (bs card), .int .i64 ck, .int .i64 cv, .slice A n c, .int .i64 tok, .int .i64 most, .int .i64 ticks] 26) := ⟨_, rfl⟩
  have KN1 : Blk X w.heap.size 26 #[.int .i64 k, .string (bs tn), .string (bs col), .string (bs uid), .string (bs card), .int .i64 ck, .int .i64 cv, .slice A n c, .int .i64 tok, .int .i64 most, .int .i64 ticks] := by rw [hX]; exact Blk.new _ _ _
  replace KN1 := hd KN1
  have HB2 := (Below.refl w.heap.size w).alloc (Below.refl w.heap.size w).size (.cells #[.int .i64 k, .string (bs tn), .string (bs col), .string (bs uid), .string (bs card), .int .i64 ck, .int .i64 cv, .slice A n c, .int .i64 tok, .int .i64 most, .int .i64 ticks] 26)
  rw [← hX] at HB2
  replace HB2 := hd HB2
  have HW_X := hd hX
  clear hX
  go_upto_region 1 with (fail)
  rw [← HW_X.o]
  have x0 := KN1.o.at_ 0 rfl
  have x1 := KN1.o.at_ 1 rfl
  have x2 := KN1.o.at_ 2 rfl
  have x3 := KN1.o.at_ 3 rfl
  have x4 := KN1.o.at_ 4 rfl
  have x5 := KN1.o.at_ 5 rfl
  have x6 := KN1.o.at_ 6 rfl
  have x7 := KN1.o.at_ 7 rfl
  have x8 := KN1.o.at_ 8 rfl
  have x9 := KN1.o.at_ 9 rfl
  have x10 := KN1.o.at_ 10 rfl
  have xl := KN1.o.lt
  go_wp2_with fail
  refine (C1.o _ HB2.o).mono ?_
  rintro e w1 ⟨rfl, hb1⟩
  clear x0 x1 x2 x3 x4 x5 x6 x7 x8 x9 x10 xl
  have Kx3 := hd (KN1.o.below hb1 KN1.o.lt)
  have HB4 := hd (HB2.o.trans (hb1.mono HB2.o.size))
  clear hb1
  have x0 := Kx3.o.at_ 0 rfl
  have x1 := Kx3.o.at_ 1 rfl
  have x2 := Kx3.o.at_ 2 rfl
  have x3 := Kx3.o.at_ 3 rfl
  have x4 := Kx3.o.at_ 4 rfl
  have x5 := Kx3.o.at_ 5 rfl
  have x6 := Kx3.o.at_ 6 rfl
  have x7 := Kx3.o.at_ 7 rfl
  have x8 := Kx3.o.at_ 8 rfl
  have x9 := Kx3.o.at_ 9 rfl
  have x10 := Kx3.o.at_ 10 rfl
  have xl := Kx3.o.lt
  go_wp2_with fail
  refine (C2.o _ HB4.o).mono ?_
  rintro e w2 ⟨rfl, hb2⟩
  clear x0 x1 x2 x3 x4 x5 x6 x7 x8 x9 x10 xl
  have Kx5 := hd (Kx3.o.below hb2 Kx3.o.lt)
  have HB6 := hd (HB4.o.trans (hb2.mono HB4.o.size))
  clear hb2
  have x0 := Kx5.o.at_ 0 rfl
  have x1 := Kx5.o.at_ 1 rfl
  have x2 := Kx5.o.at_ 2 rfl
  have x3 := Kx5.o.at_ 3 rfl
  have x4 := Kx5.o.at_ 4 rfl
  have x5 := Kx5.o.at_ 5 rfl
  have x6 := Kx5.o.at_ 6 rfl
  have x7 := Kx5.o.at_ 7 rfl
  have x8 := Kx5.o.at_ 8 rfl
  have x9 := Kx5.o.at_ 9 rfl
  have x10 := Kx5.o.at_ 10 rfl
  have xl := Kx5.o.lt
  cases LB with
  | false =>
    go_wp2_with fail
    refine (C1.o _ HB6.o).mono ?_
    rintro e w9 ⟨rfl, hb9⟩
    clear x0 x1 x2 x3 x4 x5 x6 x7 x8 x9 x10 xl
    have Kx7 := hd (Kx5.o.below hb9 Kx5.o.lt)
    have HB8 := hd (HB6.o.trans (hb9.mono HB6.o.size))
    clear hb9
    have x0 := Kx7.o.at_ 0 rfl
    have x1 := Kx7.o.at_ 1 rfl
    have x2 := Kx7.o.at_ 2 rfl
    have x3 := Kx7.o.at_ 3 rfl
    have x4 := Kx7.o.at_ 4 rfl
    have x5 := Kx7.o.at_ 5 rfl
    have x6 := Kx7.o.at_ 6 rfl
    have x7 := Kx7.o.at_ 7 rfl
    have x8 := Kx7.o.at_ 8 rfl
    have x9 := Kx7.o.at_ 9 rfl
    have x10 := Kx7.o.at_ 10 rfl
    have xl := Kx7.o.lt
    go_wp2
    go_ret
    exact ⟨rfl, HB8.o⟩
  | true =>
    by_cases hbig : 1500 < bn
    case pos =>
      have hbb : decide ((1500 : Int) < (bn : Int)) = true := by simp; omega
      clear hbig
      go_wp2_with fail
      refine (C1.o _ HB6.o).mono ?_
      rintro e w9 ⟨rfl, hb9⟩
      clear x0 x1 x2 x3 x4 x5 x6 x7 x8 x9 x10 xl
      have Kx7 := hd (Kx5.o.below hb9 Kx5.o.lt)
      have HB8 := hd (HB6.o.trans (hb9.mono HB6.o.size))
      clear hb9
      have x0 := Kx7.o.at_ 0 rfl
      have x1 := Kx7.o.at_ 1 rfl
      have x2 := Kx7.o.at_ 2 rfl
      have x3 := Kx7.o.at_ 3 rfl
      have x4 := Kx7.o.at_ 4 rfl
      have x5 := Kx7.o.at_ 5 rfl
      have x6 := Kx7.o.at_ 6 rfl
      have x7 := Kx7.o.at_ 7 rfl
      have x8 := Kx7.o.at_ 8 rfl
      have x9 := Kx7.o.at_ 9 rfl
      have x10 := Kx7.o.at_ 10 rfl
      have xl := Kx7.o.lt
      go_wp2
      go_ret
      exact ⟨rfl, HB8.o⟩
    case neg =>
    have hbb : decide ((1500 : Int) < (bn : Int)) = false := by simp; omega
    have hb15 : bn ≤ 1000000 := by omega
    clear hbig
    go_wp2_with fail
    refine (dec_calls kind _ B bn bc bl HBN.o (HRB.o _ HB6.o) hb15 (HT.o _ HB6.o)).mono ?_
    rintro e w3 ⟨⟨A3, c3, he, hrow, hb3⟩⟩
    have hi := dec_i kind bl
    generalize decQ kind bl = DE at he hrow hi
    obtain ⟨D, E⟩ := DE
    obtain ⟨dk, dtn, dcol, duid, dcard, dck, dcv, dops, dtok, dmost, dticks⟩ := D
    simp only at he hrow hi
    obtain ⟨dn, hdn⟩ : ∃ dn, dops.length = dn := ⟨_, rfl⟩
    have he : e = .returned (.tuple #[.agg #[.int .i64 dk, .string (bs dtn), .string (bs dcol), .string (bs duid), .string (bs dcard), .int .i64 dck, .int .i64 dcv, .slice A3 dn c3, .int .i64 dtok, .int .i64 dmost, .int .i64 dticks], .int .i64 E]) := by rw [he]; unfold reqV reqE; simp only; rw [hdn]
    subst he
    rw [hdn] at hrow
    have HDN := hd hdn
    have HI := hd hi
    have hrd := hrow.rds
    have KD0 := hd hrd
    clear hi hdn hrow hrd
    clear x0 x1 x2 x3 x4 x5 x6 x7 x8 x9 x10 xl
    have Kx7 := hd (Kx5.o.below hb3 Kx5.o.lt)
    have HB8 := hd (HB6.o.trans (hb3.mono HB6.o.size))
    clear hb3
    have x0 := Kx7.o.at_ 0 rfl
    have x1 := Kx7.o.at_ 1 rfl
    have x2 := Kx7.o.at_ 2 rfl
    have x3 := Kx7.o.at_ 3 rfl
    have x4 := Kx7.o.at_ 4 rfl
    have x5 := Kx7.o.at_ 5 rfl
    have x6 := Kx7.o.at_ 6 rfl
    have x7 := Kx7.o.at_ 7 rfl
    have x8 := Kx7.o.at_ 8 rfl
    have x9 := Kx7.o.at_ 9 rfl
    have x10 := Kx7.o.at_ 10 rfl
    have xl := Kx7.o.lt
    obtain ⟨Y, hY⟩ : ∃ Y, Y = w3.alloc (.cells #[.int .i64 dk, .string (bs dtn), .string (bs dcol), .string (bs duid), .string (bs dcard), .int .i64 dck, .int .i64 dcv, .slice A3 dn c3, .int .i64 dtok, .int .i64 dmost, .int .i64 dticks] 26) := ⟨_, rfl⟩
    have Kx9 := Kx7.o.alloc (.cells #[.int .i64 dk, .string (bs dtn), .string (bs dcol), .string (bs duid), .string (bs dcard), .int .i64 dck, .int .i64 dcv, .slice A3 dn c3, .int .i64 dtok, .int .i64 dmost, .int .i64 dticks] 26)
    rw [← hY] at Kx9
    replace Kx9 := hd Kx9
    have K10 := KD0.o.alloc (.cells #[.int .i64 dk, .string (bs dtn), .string (bs dcol), .string (bs duid), .string (bs dcard), .int .i64 dck, .int .i64 dcv, .slice A3 dn c3, .int .i64 dtok, .int .i64 dmost, .int .i64 dticks] 26)
    rw [← hY] at K10
    replace K10 := hd K10
    have KN11 : Blk Y w3.heap.size 26 #[.int .i64 dk, .string (bs dtn), .string (bs dcol), .string (bs duid), .string (bs dcard), .int .i64 dck, .int .i64 dcv, .slice A3 dn c3, .int .i64 dtok, .int .i64 dmost, .int .i64 dticks] := by rw [hY]; exact Blk.new _ _ _
    replace KN11 := hd KN11
    have HB12 := HB8.o.alloc HB8.o.size (.cells #[.int .i64 dk, .string (bs dtn), .string (bs dcol), .string (bs duid), .string (bs dcard), .int .i64 dck, .int .i64 dcv, .slice A3 dn c3, .int .i64 dtok, .int .i64 dmost, .int .i64 dticks] 26)
    rw [← hY] at HB12
    replace HB12 := hd HB12
    have HW_Y := hd hY
    clear hY
    go_upto_region 6 with (fail)
    rw [← HW_Y.o]
    clear x0 x1 x2 x3 x4 x5 x6 x7 x8 x9 x10 xl
    have x0 := Kx9.o.at_ 0 rfl
    have x1 := Kx9.o.at_ 1 rfl
    have x2 := Kx9.o.at_ 2 rfl
    have x3 := Kx9.o.at_ 3 rfl
    have x4 := Kx9.o.at_ 4 rfl
    have x5 := Kx9.o.at_ 5 rfl
    have x6 := Kx9.o.at_ 6 rfl
    have x7 := Kx9.o.at_ 7 rfl
    have x8 := Kx9.o.at_ 8 rfl
    have x9 := Kx9.o.at_ 9 rfl
    have x10 := Kx9.o.at_ 10 rfl
    have xl := Kx9.o.lt
    have y0 := KN11.o.at_ 0 rfl
    have y1 := KN11.o.at_ 1 rfl
    have y2 := KN11.o.at_ 2 rfl
    have y3 := KN11.o.at_ 3 rfl
    have y4 := KN11.o.at_ 4 rfl
    have y5 := KN11.o.at_ 5 rfl
    have y6 := KN11.o.at_ 6 rfl
    have y7 := KN11.o.at_ 7 rfl
    have y8 := KN11.o.at_ 8 rfl
    have y9 := KN11.o.at_ 9 rfl
    have y10 := KN11.o.at_ 10 rfl
    have yl := KN11.o.lt
    by_cases hE0 : E = 0
    case neg =>
      have hD := HI.o.no hE0
      have hEb : (E == 0) = false := by simpa using hE0
      clear hE0 HI
      have CS := same_calls ⟨dk, dtn, dcol, duid, dcard, dck, dcv, dops, dtok, dmost, dticks⟩ rq0 A3 none c3 0 Y (by rw [← HDN.o] at K10; exact K10.o) (Row.rds (Row.nil _ Non 43 5)) (by rw [hD]; decide) (by decide)
      unfold reqV reqE at CS
      simp only at CS
      rw [HDN.o, hD] at CS
      simp only [decide_true] at CS
      have CS : Calls Tryz.prog 21 #[.agg #[.int .i64 dk, .string (bs dtn), .string (bs dcol), .string (bs duid), .string (bs dcard), .int .i64 dck, .int .i64 dcv, .slice A3 dn c3, .int .i64 dtok, .int .i64 dmost, .int .i64 dticks], .agg #[.int .i64 0, .string ⟨#[]⟩, .string ⟨#[]⟩, .string ⟨#[]⟩, .string ⟨#[]⟩, .int .i64 0, .int .i64 0, .slice none 0 0, .int .i64 0, .int .i64 0, .int .i64 0]] Y fun e w' => e = .returned (.bool true) ∧ Below Y.heap.size Y w' := CS
      replace CS := hd CS
      clear hD
      go_wp2_with fail
      refine (CS.o).mono ?_
      rintro e w4 ⟨rfl, hb4⟩
      clear x0 x1 x2 x3 x4 x5 x6 x7 x8 x9 x10 xl y0 y1 y2 y3 y4 y5 y6 y7 y8 y9 y10 yl
      have Kx13 := hd (Kx9.o.below hb4 Kx9.o.lt)
      have K14 := hd (K10.o.below hb4)
      have Ky15 := hd (KN11.o.below hb4 KN11.o.lt)
      have HB16 := hd (HB12.o.trans (hb4.mono HB12.o.size))
      clear hb4
      have x0 := Kx13.o.at_ 0 rfl
      have x1 := Kx13.o.at_ 1 rfl
      have x2 := Kx13.o.at_ 2 rfl
      have x3 := Kx13.o.at_ 3 rfl
      have x4 := Kx13.o.at_ 4 rfl
      have x5 := Kx13.o.at_ 5 rfl
      have x6 := Kx13.o.at_ 6 rfl
      have x7 := Kx13.o.at_ 7 rfl
      have x8 := Kx13.o.at_ 8 rfl
      have x9 := Kx13.o.at_ 9 rfl
      have x10 := Kx13.o.at_ 10 rfl
      have xl := Kx13.o.lt
      have y0 := Ky15.o.at_ 0 rfl
      have y1 := Ky15.o.at_ 1 rfl
      have y2 := Ky15.o.at_ 2 rfl
      have y3 := Ky15.o.at_ 3 rfl
      have y4 := Ky15.o.at_ 4 rfl
      have y5 := Ky15.o.at_ 5 rfl
      have y6 := Ky15.o.at_ 6 rfl
      have y7 := Ky15.o.at_ 7 rfl
      have y8 := Ky15.o.at_ 8 rfl
      have y9 := Ky15.o.at_ 9 rfl
      have y10 := Ky15.o.at_ 10 rfl
      have yl := Ky15.o.lt
      go_wp2_with fail
      refine (C3.o (by first | rfl | trivial) _ HB16.o).mono ?_
      intro e u1 hE
      by_cases hq0 : chk ⟨k, tn, col, uid, card, ck, cv, ops, tok, most, ticks⟩ = 0
      case neg =>
        obtain ⟨rfl, hbu⟩ := hE.no hq0
        obtain ⟨KK, hKK⟩ : ∃ KK, chk ⟨k, tn, col, uid, card, ck, cv, ops, tok, most, ticks⟩ = KK := ⟨_, rfl⟩
        rw [hKK] at hq0 C4 ⊢
        have hkb : (KK != 0) = true := by simpa using hq0
        clear hE hq0 hKK
        clear x0 x1 x2 x3 x4 x5 x6 x7 x8 x9 x10 xl y0 y1 y2 y3 y4 y5 y6 y7 y8 y9 y10 yl
        have Kx17 := hd (Kx13.o.below hbu Kx13.o.lt)
        have K18 := hd (K14.o.below hbu)
        have Ky19 := hd (Ky15.o.below hbu Ky15.o.lt)
        have HB20 := hd (HB16.o.trans (hbu.mono HB16.o.size))
        clear hbu
        have x0 := Kx17.o.at_ 0 rfl
        have x1 := Kx17.o.at_ 1 rfl
        have x2 := Kx17.o.at_ 2 rfl
        have x3 := Kx17.o.at_ 3 rfl
        have x4 := Kx17.o.at_ 4 rfl
        have x5 := Kx17.o.at_ 5 rfl
        have x6 := Kx17.o.at_ 6 rfl
        have x7 := Kx17.o.at_ 7 rfl
        have x8 := Kx17.o.at_ 8 rfl
        have x9 := Kx17.o.at_ 9 rfl
        have x10 := Kx17.o.at_ 10 rfl
        have xl := Kx17.o.lt
        have y0 := Ky19.o.at_ 0 rfl
        have y1 := Ky19.o.at_ 1 rfl
        have y2 := Ky19.o.at_ 2 rfl
        have y3 := Ky19.o.at_ 3 rfl
        have y4 := Ky19.o.at_ 4 rfl
        have y5 := Ky19.o.at_ 5 rfl
        have y6 := Ky19.o.at_ 6 rfl
        have y7 := Ky19.o.at_ 7 rfl
        have y8 := Ky19.o.at_ 8 rfl
        have y9 := Ky19.o.at_ 9 rfl
        have y10 := Ky19.o.at_ 10 rfl
        have yl := Ky19.o.lt
        go_wp2_with fail
        refine (C4.o (by first | rfl | trivial) _ HB20.o).mono ?_
        rintro e u2 ⟨rfl, hbv⟩
        clear x0 x1 x2 x3 x4 x5 x6 x7 x8 x9 x10 xl y0 y1 y2 y3 y4 y5 y6 y7 y8 y9 y10 yl
        have Kx21 := hd (Kx17.o.below hbv Kx17.o.lt)
        have K22 := hd (K18.o.below hbv)
        have Ky23 := hd (Ky19.o.below hbv Ky19.o.lt)
        have HB24 := hd (HB20.o.trans (hbv.mono HB20.o.size))
        clear hbv
        have x0 := Kx21.o.at_ 0 rfl
        have x1 := Kx21.o.at_ 1 rfl
        have x2 := Kx21.o.at_ 2 rfl
        have x3 := Kx21.o.at_ 3 rfl
        have x4 := Kx21.o.at_ 4 rfl
        have x5 := Kx21.o.at_ 5 rfl
        have x6 := Kx21.o.at_ 6 rfl
        have x7 := Kx21.o.at_ 7 rfl
        have x8 := Kx21.o.at_ 8 rfl
        have x9 := Kx21.o.at_ 9 rfl
        have x10 := Kx21.o.at_ 10 rfl
        have xl := Kx21.o.lt
        have y0 := Ky23.o.at_ 0 rfl
        have y1 := Ky23.o.at_ 1 rfl
        have y2 := Ky23.o.at_ 2 rfl
        have y3 := Ky23.o.at_ 3 rfl
        have y4 := Ky23.o.at_ 4 rfl
        have y5 := Ky23.o.at_ 5 rfl
        have y6 := Ky23.o.at_ 6 rfl
        have y7 := Ky23.o.at_ 7 rfl
        have y8 := Ky23.o.at_ 8 rfl
        have y9 := Ky23.o.at_ 9 rfl
        have y10 := Ky23.o.at_ 10 rfl
        have yl := Ky23.o.lt
        go_wp2
        go_ret
        exact ⟨rfl, HB24.o⟩
      case pos =>
      obtain ⟨A5, m5, c5, rfl, hm5, hr5, hbu⟩ := hE.yes hq0
      clear hE
      have hlen := enc_len hq0 HNM.o
      have HDE := hd (dec_enc hq0 HNM.o)
      have hm5b : m5 ≤ 1000000 := by rw [hm5]; omega
      have HM5 := hd hm5
      have KE0 := hd hr5.rds
      rw [hq0] at C4
      clear hm5 hr5 hlen
      clear x0 x1 x2 x3 x4 x5 x6 x7 x8 x9 x10 xl y0 y1 y2 y3 y4 y5 y6 y7 y8 y9 y10 yl
      have Kx17 := hd (Kx13.o.below hbu Kx13.o.lt)
      have K18 := hd (K14.o.below hbu)
      have Ky19 := hd (Ky15.o.below hbu Ky15.o.lt)
      have HB20 := hd (HB16.o.trans (hbu.mono HB16.o.size))
      clear hbu
      have x0 := Kx17.o.at_ 0 rfl
      have x1 := Kx17.o.at_ 1 rfl
      have x2 := Kx17.o.at_ 2 rfl
      have x3 := Kx17.o.at_ 3 rfl
      have x4 := Kx17.o.at_ 4 rfl
      have x5 := Kx17.o.at_ 5 rfl
      have x6 := Kx17.o.at_ 6 rfl
      have x7 := Kx17.o.at_ 7 rfl
      have x8 := Kx17.o.at_ 8 rfl
      have x9 := Kx17.o.at_ 9 rfl
      have x10 := Kx17.o.at_ 10 rfl
      have xl := Kx17.o.lt
      have y0 := Ky19.o.at_ 0 rfl
      have y1 := Ky19.o.at_ 1 rfl
      have y2 := Ky19.o.at_ 2 rfl
      have y3 := Ky19.o.at_ 3 rfl
      have y4 := Ky19.o.at_ 4 rfl
      have y5 := Ky19.o.at_ 5 rfl
      have y6 := Ky19.o.at_ 6 rfl
      have y7 := Ky19.o.at_ 7 rfl
      have y8 := Ky19.o.at_ 8 rfl
      have y9 := Ky19.o.at_ 9 rfl
      have y10 := Ky19.o.at_ 10 rfl
      have yl := Ky19.o.lt
      go_wp2_with fail
      refine (dec_calls k _ A5 m5 c5 (encB ⟨k, tn, col, uid, card, ck, cv, ops, tok, most, ticks⟩) HM5.o KE0.o hm5b (HT.o _ HB20.o)).mono ?_
      rintro e u3 ⟨⟨A6, c6, he, hrow, hbu⟩⟩
      rw [HDE.o] at he hrow
      have he : e = .returned (.tuple #[.agg #[.int .i64 k, .string (bs tn), .string (bs col), .string (bs uid), .string (bs card), .int .i64 ck, .int .i64 cv, .slice A6 n c6, .int .i64 tok, .int .i64 most, .int .i64 ticks], .int .i64 0]) := by rw [he]; unfold reqV reqE; simp only; rw [HN.o]
      subst he
      simp only at hrow
      rw [HN.o] at hrow
      have KG0 := hd hrow.rds
      clear hrow
      clear x0 x1 x2 x3 x4 x5 x6 x7 x8 x9 x10 xl y0 y1 y2 y3 y4 y5 y6 y7 y8 y9 y10 yl
      have Kx21 := hd (Kx17.o.below hbu Kx17.o.lt)
      have K22 := hd (K18.o.below hbu)
      have Ky23 := hd (Ky19.o.below hbu Ky19.o.lt)
      have K24 := hd (KE0.o.below hbu)
      have HB25 := hd (HB20.o.trans (hbu.mono HB20.o.size))
      clear hbu
      have x0 := Kx21.o.at_ 0 rfl
      have x1 := Kx21.o.at_ 1 rfl
      have x2 := Kx21.o.at_ 2 rfl
      have x3 := Kx21.o.at_ 3 rfl
      have x4 := Kx21.o.at_ 4 rfl
      have x5 := Kx21.o.at_ 5 rfl
      have x6 := Kx21.o.at_ 6 rfl
      have x7 := Kx21.o.at_ 7 rfl
      have x8 := Kx21.o.at_ 8 rfl
      have x9 := Kx21.o.at_ 9 rfl
      have x10 := Kx21.o.at_ 10 rfl
      have xl := Kx21.o.lt
      have y0 := Ky23.o.at_ 0 rfl
      have y1 := Ky23.o.at_ 1 rfl
      have y2 := Ky23.o.at_ 2 rfl
      have y3 := Ky23.o.at_ 3 rfl
      have y4 := Ky23.o.at_ 4 rfl
      have y5 := Ky23.o.at_ 5 rfl
      have y6 := Ky23.o.at_ 6 rfl
      have y7 := Ky23.o.at_ 7 rfl
      have y8 := Ky23.o.at_ 8 rfl
      have y9 := Ky23.o.at_ 9 rfl
      have y10 := Ky23.o.at_ 10 rfl
      have yl := Ky23.o.lt
      obtain ⟨Z, hZ⟩ : ∃ Z, Z = u3.alloc (.cells #[.int .i64 k, .string (bs tn), .string (bs col), .string (bs uid), .string (bs card), .int .i64 ck, .int .i64 cv, .slice A6 n c6, .int .i64 tok, .int .i64 most, .int .i64 ticks] 26) := ⟨_, rfl⟩
      have Kx26 := Kx21.o.alloc (.cells #[.int .i64 k, .string (bs tn), .string (bs col), .string (bs uid), .string (bs card), .int .i64 ck, .int .i64 cv, .slice A6 n c6, .int .i64 tok, .int .i64 most, .int .i64 ticks] 26)
      rw [← hZ] at Kx26
      replace Kx26 := hd Kx26
      have K27 := K22.o.alloc (.cells #[.int .i64 k, .string (bs tn), .string (bs col), .string (bs uid), .string (bs card), .int .i64 ck, .int .i64 cv, .slice A6 n c6, .int .i64 tok, .int .i64 most, .int .i64 ticks] 26)
      rw [← hZ] at K27
      replace K27 := hd K27
      have Ky28 := Ky23.o.alloc (.cells #[.int .i64 k, .string (bs tn), .string (bs col), .string (bs uid), .string (bs card), .int .i64 ck, .int .i64 cv, .slice A6 n c6, .int .i64 tok, .int .i64 most, .int .i64 ticks] 26)
      rw [← hZ] at Ky28
      replace Ky28 := hd Ky28
      have K29 := K24.o.alloc (.cells #[.int .i64 k, .string (bs tn), .string (bs col), .string (bs uid), .string (bs card), .int .i64 ck, .int .i64 cv, .slice A6 n c6, .int .i64 tok, .int .i64 most, .int .i64 ticks] 26)
      rw [← hZ] at K29
      replace K29 := hd K29
      have K30 := KG0.o.alloc (.cells #[.int .i64 k, .string (bs tn), .string (bs col), .string (bs uid), .string (bs card), .int .i64 ck, .int .i64 cv, .slice A6 n c6, .int .i64 tok, .int .i64 most, .int .i64 ticks] 26)
      rw [← hZ] at K30
      replace K30 := hd K30
      have KN31 : Blk Z u3.heap.size 26 #[.int .i64 k, .string (bs tn), .string (bs col), .string (bs uid), .string (bs card), .int .i64 ck, .int .i64 cv, .slice A6 n c6, .int .i64 tok, .int .i64 most, .int .i64 ticks] := by rw [hZ]; exact Blk.new _ _ _
      replace KN31 := hd KN31
      have HB32 := HB25.o.alloc HB25.o.size (.cells #[.int .i64 k, .string (bs tn), .string (bs col), .string (bs uid), .string (bs card), .int .i64 ck, .int .i64 cv, .slice A6 n c6, .int .i64 tok, .int .i64 most, .int .i64 ticks] 26)
      rw [← hZ] at HB32
      replace HB32 := hd HB32
      have HW_Z := hd hZ
      clear hZ
      go_upto_region 16 with (fail)
      rw [← HW_Z.o]
      clear x0 x1 x2 x3 x4 x5 x6 x7 x8 x9 x10 xl y0 y1 y2 y3 y4 y5 y6 y7 y8 y9 y10 yl
      have x0 := Kx26.o.at_ 0 rfl
      have x1 := Kx26.o.at_ 1 rfl
      have x2 := Kx26.o.at_ 2 rfl
      have x3 := Kx26.o.at_ 3 rfl
      have x4 := Kx26.o.at_ 4 rfl
      have x5 := Kx26.o.at_ 5 rfl
      have x6 := Kx26.o.at_ 6 rfl
      have x7 := Kx26.o.at_ 7 rfl
      have x8 := Kx26.o.at_ 8 rfl
      have x9 := Kx26.o.at_ 9 rfl
      have x10 := Kx26.o.at_ 10 rfl
      have xl := Kx26.o.lt
      have y0 := Ky28.o.at_ 0 rfl
      have y1 := Ky28.o.at_ 1 rfl
      have y2 := Ky28.o.at_ 2 rfl
      have y3 := Ky28.o.at_ 3 rfl
      have y4 := Ky28.o.at_ 4 rfl
      have y5 := Ky28.o.at_ 5 rfl
      have y6 := Ky28.o.at_ 6 rfl
      have y7 := Ky28.o.at_ 7 rfl
      have y8 := Ky28.o.at_ 8 rfl
      have y9 := Ky28.o.at_ 9 rfl
      have y10 := Ky28.o.at_ 10 rfl
      have yl := Ky28.o.lt
      have z0 := KN31.o.at_ 0 rfl
      have z1 := KN31.o.at_ 1 rfl
      have z2 := KN31.o.at_ 2 rfl
      have z3 := KN31.o.at_ 3 rfl
      have z4 := KN31.o.at_ 4 rfl
      have z5 := KN31.o.at_ 5 rfl
      have z6 := KN31.o.at_ 6 rfl
      have z7 := KN31.o.at_ 7 rfl
      have z8 := KN31.o.at_ 8 rfl
      have z9 := KN31.o.at_ 9 rfl
      have z10 := KN31.o.at_ 10 rfl
      have zl := KN31.o.lt
      have CS := same_calls ⟨k, tn, col, uid, card, ck, cv, ops, tok, most, ticks⟩ ⟨k, tn, col, uid, card, ck, cv, ops, tok, most, ticks⟩ A6 A c6 c Z (by rw [← HN.o] at K30; exact K30.o) (by have := HRQ.o Z HB32.o; rw [← HN.o] at this; exact this) (HSZ.o (by first | rfl | trivial)).ops (HSZ.o (by first | rfl | trivial)).ops
      unfold reqV reqE at CS
      simp only at CS
      rw [HN.o] at CS
      simp only [decide_true] at CS
      replace CS := hd CS
      go_wp2_with fail
      refine (CS.o).mono ?_
      rintro e u5 ⟨rfl, hbw⟩
      clear x0 x1 x2 x3 x4 x5 x6 x7 x8 x9 x10 xl y0 y1 y2 y3 y4 y5 y6 y7 y8 y9 y10 yl z0 z1 z2 z3 z4 z5 z6 z7 z8 z9 z10 zl
      have Kx33 := hd (Kx26.o.below hbw Kx26.o.lt)
      have K34 := hd (K27.o.below hbw)
      have Ky35 := hd (Ky28.o.below hbw Ky28.o.lt)
      have K36 := hd (K29.o.below hbw)
      have K37 := hd (K30.o.below hbw)
      have Kz38 := hd (KN31.o.below hbw KN31.o.lt)
      have HB39 := hd (HB32.o.trans (hbw.mono HB32.o.size))
      clear hbw
      have x0 := Kx33.o.at_ 0 rfl
      have x1 := Kx33.o.at_ 1 rfl
      have x2 := Kx33.o.at_ 2 rfl
      have x3 := Kx33.o.at_ 3 rfl
      have x4 := Kx33.o.at_ 4 rfl
      have x5 := Kx33.o.at_ 5 rfl
      have x6 := Kx33.o.at_ 6 rfl
      have x7 := Kx33.o.at_ 7 rfl
      have x8 := Kx33.o.at_ 8 rfl
      have x9 := Kx33.o.at_ 9 rfl
      have x10 := Kx33.o.at_ 10 rfl
      have xl := Kx33.o.lt
      have y0 := Ky35.o.at_ 0 rfl
      have y1 := Ky35.o.at_ 1 rfl
      have y2 := Ky35.o.at_ 2 rfl
      have y3 := Ky35.o.at_ 3 rfl
      have y4 := Ky35.o.at_ 4 rfl
      have y5 := Ky35.o.at_ 5 rfl
      have y6 := Ky35.o.at_ 6 rfl
      have y7 := Ky35.o.at_ 7 rfl
      have y8 := Ky35.o.at_ 8 rfl
      have y9 := Ky35.o.at_ 9 rfl
      have y10 := Ky35.o.at_ 10 rfl
      have yl := Ky35.o.lt
      have z0 := Kz38.o.at_ 0 rfl
      have z1 := Kz38.o.at_ 1 rfl
      have z2 := Kz38.o.at_ 2 rfl
      have z3 := Kz38.o.at_ 3 rfl
      have z4 := Kz38.o.at_ 4 rfl
      have z5 := Kz38.o.at_ 5 rfl
      have z6 := Kz38.o.at_ 6 rfl
      have z7 := Kz38.o.at_ 7 rfl
      have z8 := Kz38.o.at_ 8 rfl
      have z9 := Kz38.o.at_ 9 rfl
      have z10 := Kz38.o.at_ 10 rfl
      have zl := Kz38.o.lt
      go_wp2_with fail
      refine (C4.o (by first | rfl | trivial) _ HB39.o).mono ?_
      rintro e u6 ⟨rfl, hbv⟩
      clear x0 x1 x2 x3 x4 x5 x6 x7 x8 x9 x10 xl y0 y1 y2 y3 y4 y5 y6 y7 y8 y9 y10 yl z0 z1 z2 z3 z4 z5 z6 z7 z8 z9 z10 zl
      have Kx40 := hd (Kx33.o.below hbv Kx33.o.lt)
      have K41 := hd (K34.o.below hbv)
      have Ky42 := hd (Ky35.o.below hbv Ky35.o.lt)
      have K43 := hd (K36.o.below hbv)
      have K44 := hd (K37.o.below hbv)
      have Kz45 := hd (Kz38.o.below hbv Kz38.o.lt)
      have HB46 := hd (HB39.o.trans (hbv.mono HB39.o.size))
      clear hbv
      have x0 := Kx40.o.at_ 0 rfl
      have x1 := Kx40.o.at_ 1 rfl
      have x2 := Kx40.o.at_ 2 rfl
      have x3 := Kx40.o.at_ 3 rfl
      have x4 := Kx40.o.at_ 4 rfl
      have x5 := Kx40.o.at_ 5 rfl
      have x6 := Kx40.o.at_ 6 rfl
      have x7 := Kx40.o.at_ 7 rfl
      have x8 := Kx40.o.at_ 8 rfl
      have x9 := Kx40.o.at_ 9 rfl
      have x10 := Kx40.o.at_ 10 rfl
      have xl := Kx40.o.lt
      have y0 := Ky42.o.at_ 0 rfl
      have y1 := Ky42.o.at_ 1 rfl
      have y2 := Ky42.o.at_ 2 rfl
      have y3 := Ky42.o.at_ 3 rfl
      have y4 := Ky42.o.at_ 4 rfl
      have y5 := Ky42.o.at_ 5 rfl
      have y6 := Ky42.o.at_ 6 rfl
      have y7 := Ky42.o.at_ 7 rfl
      have y8 := Ky42.o.at_ 8 rfl
      have y9 := Ky42.o.at_ 9 rfl
      have y10 := Ky42.o.at_ 10 rfl
      have yl := Ky42.o.lt
      have z0 := Kz45.o.at_ 0 rfl
      have z1 := Kz45.o.at_ 1 rfl
      have z2 := Kz45.o.at_ 2 rfl
      have z3 := Kz45.o.at_ 3 rfl
      have z4 := Kz45.o.at_ 4 rfl
      have z5 := Kz45.o.at_ 5 rfl
      have z6 := Kz45.o.at_ 6 rfl
      have z7 := Kz45.o.at_ 7 rfl
      have z8 := Kz45.o.at_ 8 rfl
      have z9 := Kz45.o.at_ 9 rfl
      have z10 := Kz45.o.at_ 10 rfl
      have zl := Kz45.o.lt
      go_wp2
      go_ret
      exact ⟨rfl, HB46.o⟩
    case pos =>
    obtain ⟨h1, h2, h3, h4, h5⟩ := HI.o.yes hE0
    simp only at h1
    subst hE0
    subst h1
    clear HI
    have CE := enc_calls ⟨dk, dtn, dcol, duid, dcard, dck, dcv, dops, dtok, dmost, dticks⟩ A3 c3 Y (HT.o Y HB12.o) (by rw [← HDN.o] at K10; exact K10.o) h4 h5
    have CK := fun W (h : Below Y.heap.size Y W) => check_calls ⟨dk, dtn, dcol, duid, dcard, dck, dcv, dops, dtok, dmost, dticks⟩ A3 c3 W (HT.o W (HB12.o.trans (h.mono HB12.o.size))) (by rw [← HDN.o] at K10; exact K10.o.below h) h4
    unfold reqV reqE at CE CK
    simp only at CE CK
    rw [HDN.o] at CE CK
    rw [h2] at CK
    replace CE := hd CE
    replace CK := hd CK
    have HD2 := hd h2
    have HD3 := hd h3
    clear h2 h3 h4 h5
    go_wp2_with fail
    refine CE.o.mono ?_
    intro e w4 hE
    obtain ⟨A7, m7, c7, rfl, hm7, hr7, hb4⟩ := hE.yes HD2.o
    rw [HD3.o] at hm7 hr7
    have HM7 := hd hm7
    have KH0 := hd hr7.rds
    have HBY := hd hb4
    clear hE hm7 hr7
    clear x0 x1 x2 x3 x4 x5 x6 x7 x8 x9 x10 xl y0 y1 y2 y3 y4 y5 y6 y7 y8 y9 y10 yl
    have Kx13 := hd (Kx9.o.below hb4 Kx9.o.lt)
    have K14 := hd (K10.o.below hb4)
    have Ky15 := hd (KN11.o.below hb4 KN11.o.lt)
    have HB16 := hd (HB12.o.trans (hb4.mono HB12.o.size))
    clear hb4
    have x0 := Kx13.o.at_ 0 rfl
    have x1 := Kx13.o.at_ 1 rfl
    have x2 := Kx13.o.at_ 2 rfl
    have x3 := Kx13.o.at_ 3 rfl
    have x4 := Kx13.o.at_ 4 rfl
    have x5 := Kx13.o.at_ 5 rfl
    have x6 := Kx13.o.at_ 6 rfl
    have x7 := Kx13.o.at_ 7 rfl
    have x8 := Kx13.o.at_ 8 rfl
    have x9 := Kx13.o.at_ 9 rfl
    have x10 := Kx13.o.at_ 10 rfl
    have xl := Kx13.o.lt
    have y0 := Ky15.o.at_ 0 rfl
    have y1 := Ky15.o.at_ 1 rfl
    have y2 := Ky15.o.at_ 2 rfl
    have y3 := Ky15.o.at_ 3 rfl
    have y4 := Ky15.o.at_ 4 rfl
    have y5 := Ky15.o.at_ 5 rfl
    have y6 := Ky15.o.at_ 6 rfl
    have y7 := Ky15.o.at_ 7 rfl
    have y8 := Ky15.o.at_ 8 rfl
    have y9 := Ky15.o.at_ 9 rfl
    have y10 := Ky15.o.at_ 10 rfl
    have yl := Ky15.o.lt
    have hcv1 := conv_back (P := Tryz.prog) w4 27 9 5 Tryz.underlying27 Tryz.underlying5 Tryz.underlying9 A7 m7 c7 bl HM7.o KH0.o
    have hcv2 := conv_back (P := Tryz.prog) w4 27 9 5 Tryz.underlying27 Tryz.underlying5 Tryz.underlying9 B bn bc bl HBN.o (HRB.o w4 HB16.o)
    have hkk : (dk != dk) = false := by simp
    have hss : ((bs bl).toList == (bs bl).toList) = true := by simp
    go_wp2_with fail
    clear hcv1 hcv2
    refine (CK.o _ HBY.o).mono ?_
    rintro e w5 ⟨rfl, hb5⟩
    clear x0 x1 x2 x3 x4 x5 x6 x7 x8 x9 x10 xl y0 y1 y2 y3 y4 y5 y6 y7 y8 y9 y10 yl
    have Kx17 := hd (Kx13.o.below hb5 Kx13.o.lt)
    have K18 := hd (K14.o.below hb5)
    have Ky19 := hd (Ky15.o.below hb5 Ky15.o.lt)
    have K20 := hd (KH0.o.below hb5)
    have HB21 := hd (HB16.o.trans (hb5.mono HB16.o.size))
    clear hb5
    have x0 := Kx17.o.at_ 0 rfl
    have x1 := Kx17.o.at_ 1 rfl
    have x2 := Kx17.o.at_ 2 rfl
    have x3 := Kx17.o.at_ 3 rfl
    have x4 := Kx17.o.at_ 4 rfl
    have x5 := Kx17.o.at_ 5 rfl
    have x6 := Kx17.o.at_ 6 rfl
    have x7 := Kx17.o.at_ 7 rfl
    have x8 := Kx17.o.at_ 8 rfl
    have x9 := Kx17.o.at_ 9 rfl
    have x10 := Kx17.o.at_ 10 rfl
    have xl := Kx17.o.lt
    have y0 := Ky19.o.at_ 0 rfl
    have y1 := Ky19.o.at_ 1 rfl
    have y2 := Ky19.o.at_ 2 rfl
    have y3 := Ky19.o.at_ 3 rfl
    have y4 := Ky19.o.at_ 4 rfl
    have y5 := Ky19.o.at_ 5 rfl
    have y6 := Ky19.o.at_ 6 rfl
    have y7 := Ky19.o.at_ 7 rfl
    have y8 := Ky19.o.at_ 8 rfl
    have y9 := Ky19.o.at_ 9 rfl
    have y10 := Ky19.o.at_ 10 rfl
    have yl := Ky19.o.lt
    go_wp2_with fail
    refine (C3.o (by first | rfl | trivial) _ HB21.o).mono ?_
    intro e u1 hE
    by_cases hq0 : chk ⟨k, tn, col, uid, card, ck, cv, ops, tok, most, ticks⟩ = 0
    case neg =>
      obtain ⟨rfl, hbu⟩ := hE.no hq0
      obtain ⟨KK, hKK⟩ : ∃ KK, chk ⟨k, tn, col, uid, card, ck, cv, ops, tok, most, ticks⟩ = KK := ⟨_, rfl⟩
      rw [hKK] at hq0 C4 ⊢
      have hkb : (KK != 0) = true := by simpa using hq0
      clear hE hq0 hKK
      clear x0 x1 x2 x3 x4 x5 x6 x7 x8 x9 x10 xl y0 y1 y2 y3 y4 y5 y6 y7 y8 y9 y10 yl
      have Kx22 := hd (Kx17.o.below hbu Kx17.o.lt)
      have K23 := hd (K18.o.below hbu)
      have Ky24 := hd (Ky19.o.below hbu Ky19.o.lt)
      have K25 := hd (K20.o.below hbu)
      have HB26 := hd (HB21.o.trans (hbu.mono HB21.o.size))
      clear hbu
      have x0 := Kx22.o.at_ 0 rfl
      have x1 := Kx22.o.at_ 1 rfl
      have x2 := Kx22.o.at_ 2 rfl
      have x3 := Kx22.o.at_ 3 rfl
      have x4 := Kx22.o.at_ 4 rfl
      have x5 := Kx22.o.at_ 5 rfl
      have x6 := Kx22.o.at_ 6 rfl
      have x7 := Kx22.o.at_ 7 rfl
      have x8 := Kx22.o.at_ 8 rfl
      have x9 := Kx22.o.at_ 9 rfl
      have x10 := Kx22.o.at_ 10 rfl
      have xl := Kx22.o.lt
      have y0 := Ky24.o.at_ 0 rfl
      have y1 := Ky24.o.at_ 1 rfl
      have y2 := Ky24.o.at_ 2 rfl
      have y3 := Ky24.o.at_ 3 rfl
      have y4 := Ky24.o.at_ 4 rfl
      have y5 := Ky24.o.at_ 5 rfl
      have y6 := Ky24.o.at_ 6 rfl
      have y7 := Ky24.o.at_ 7 rfl
      have y8 := Ky24.o.at_ 8 rfl
      have y9 := Ky24.o.at_ 9 rfl
      have y10 := Ky24.o.at_ 10 rfl
      have yl := Ky24.o.lt
      go_wp2_with fail
      refine (C4.o (by first | rfl | trivial) _ HB26.o).mono ?_
      rintro e u2 ⟨rfl, hbv⟩
      clear x0 x1 x2 x3 x4 x5 x6 x7 x8 x9 x10 xl y0 y1 y2 y3 y4 y5 y6 y7 y8 y9 y10 yl
      have Kx27 := hd (Kx22.o.below hbv Kx22.o.lt)
      have K28 := hd (K23.o.below hbv)
      have Ky29 := hd (Ky24.o.below hbv Ky24.o.lt)
      have K30 := hd (K25.o.below hbv)
      have HB31 := hd (HB26.o.trans (hbv.mono HB26.o.size))
      clear hbv
      have x0 := Kx27.o.at_ 0 rfl
      have x1 := Kx27.o.at_ 1 rfl
      have x2 := Kx27.o.at_ 2 rfl
      have x3 := Kx27.o.at_ 3 rfl
      have x4 := Kx27.o.at_ 4 rfl
      have x5 := Kx27.o.at_ 5 rfl
      have x6 := Kx27.o.at_ 6 rfl
      have x7 := Kx27.o.at_ 7 rfl
      have x8 := Kx27.o.at_ 8 rfl
      have x9 := Kx27.o.at_ 9 rfl
      have x10 := Kx27.o.at_ 10 rfl
      have xl := Kx27.o.lt
      have y0 := Ky29.o.at_ 0 rfl
      have y1 := Ky29.o.at_ 1 rfl
      have y2 := Ky29.o.at_ 2 rfl
      have y3 := Ky29.o.at_ 3 rfl
      have y4 := Ky29.o.at_ 4 rfl
      have y5 := Ky29.o.at_ 5 rfl
      have y6 := Ky29.o.at_ 6 rfl
      have y7 := Ky29.o.at_ 7 rfl
      have y8 := Ky29.o.at_ 8 rfl
      have y9 := Ky29.o.at_ 9 rfl
      have y10 := Ky29.o.at_ 10 rfl
      have yl := Ky29.o.lt
      go_wp2
      go_ret
      exact ⟨rfl, HB31.o⟩
    case pos =>
    obtain ⟨A5, m5, c5, rfl, hm5, hr5, hbu⟩ := hE.yes hq0
    clear hE
    have hlen := enc_len hq0 HNM.o
    have HDE := hd (dec_enc hq0 HNM.o)
    have hm5b : m5 ≤ 1000000 := by rw [hm5]; omega
    have HM5 := hd hm5
    have KE0 := hd hr5.rds
    rw [hq0] at C4
    clear hm5 hr5 hlen
    clear x0 x1 x2 x3 x4 x5 x6 x7 x8 x9 x10 xl y0 y1 y2 y3 y4 y5 y6 y7 y8 y9 y10 yl
    have Kx22 := hd (Kx17.o.below hbu Kx17.o.lt)
    have K23 := hd (K18.o.below hbu)
    have Ky24 := hd (Ky19.o.below hbu Ky19.o.lt)
    have K25 := hd (K20.o.below hbu)
    have HB26 := hd (HB21.o.trans (hbu.mono HB21.o.size))
    clear hbu
    have x0 := Kx22.o.at_ 0 rfl
    have x1 := Kx22.o.at_ 1 rfl
    have x2 := Kx22.o.at_ 2 rfl
    have x3 := Kx22.o.at_ 3 rfl
    have x4 := Kx22.o.at_ 4 rfl
    have x5 := Kx22.o.at_ 5 rfl
    have x6 := Kx22.o.at_ 6 rfl
    have x7 := Kx22.o.at_ 7 rfl
    have x8 := Kx22.o.at_ 8 rfl
    have x9 := Kx22.o.at_ 9 rfl
    have x10 := Kx22.o.at_ 10 rfl
    have xl := Kx22.o.lt
    have y0 := Ky24.o.at_ 0 rfl
    have y1 := Ky24.o.at_ 1 rfl
    have y2 := Ky24.o.at_ 2 rfl
    have y3 := Ky24.o.at_ 3 rfl
    have y4 := Ky24.o.at_ 4 rfl
    have y5 := Ky24.o.at_ 5 rfl
    have y6 := Ky24.o.at_ 6 rfl
    have y7 := Ky24.o.at_ 7 rfl
    have y8 := Ky24.o.at_ 8 rfl
    have y9 := Ky24.o.at_ 9 rfl
    have y10 := Ky24.o.at_ 10 rfl
    have yl := Ky24.o.lt
    go_wp2_with fail
    refine (dec_calls k _ A5 m5 c5 (encB ⟨k, tn, col, uid, card, ck, cv, ops, tok, most, ticks⟩) HM5.o KE0.o hm5b (HT.o _ HB26.o)).mono ?_
    rintro e u3 ⟨⟨A6, c6, he, hrow, hbu⟩⟩
    rw [HDE.o] at he hrow
    have he : e = .returned (.tuple #[.agg #[.int .i64 k, .string (bs tn), .string (bs col), .string (bs uid), .string (bs card), .int .i64 ck, .int .i64 cv, .slice A6 n c6, .int .i64 tok, .int .i64 most, .int .i64 ticks], .int .i64 0]) := by rw [he]; unfold reqV reqE; simp only; rw [HN.o]
    subst he
    simp only at hrow
    rw [HN.o] at hrow
    have KG0 := hd hrow.rds
    clear hrow
    clear x0 x1 x2 x3 x4 x5 x6 x7 x8 x9 x10 xl y0 y1 y2 y3 y4 y5 y6 y7 y8 y9 y10 yl
    have Kx27 := hd (Kx22.o.below hbu Kx22.o.lt)
    have K28 := hd (K23.o.below hbu)
    have Ky29 := hd (Ky24.o.below hbu Ky24.o.lt)
    have K30 := hd (K25.o.below hbu)
    have K31 := hd (KE0.o.below hbu)
    have HB32 := hd (HB26.o.trans (hbu.mono HB26.o.size))
    clear hbu
    have x0 := Kx27.o.at_ 0 rfl
    have x1 := Kx27.o.at_ 1 rfl
    have x2 := Kx27.o.at_ 2 rfl
    have x3 := Kx27.o.at_ 3 rfl
    have x4 := Kx27.o.at_ 4 rfl
    have x5 := Kx27.o.at_ 5 rfl
    have x6 := Kx27.o.at_ 6 rfl
    have x7 := Kx27.o.at_ 7 rfl
    have x8 := Kx27.o.at_ 8 rfl
    have x9 := Kx27.o.at_ 9 rfl
    have x10 := Kx27.o.at_ 10 rfl
    have xl := Kx27.o.lt
    have y0 := Ky29.o.at_ 0 rfl
    have y1 := Ky29.o.at_ 1 rfl
    have y2 := Ky29.o.at_ 2 rfl
    have y3 := Ky29.o.at_ 3 rfl
    have y4 := Ky29.o.at_ 4 rfl
    have y5 := Ky29.o.at_ 5 rfl
    have y6 := Ky29.o.at_ 6 rfl
    have y7 := Ky29.o.at_ 7 rfl
    have y8 := Ky29.o.at_ 8 rfl
    have y9 := Ky29.o.at_ 9 rfl
    have y10 := Ky29.o.at_ 10 rfl
    have yl := Ky29.o.lt
    obtain ⟨Z, hZ⟩ : ∃ Z, Z = u3.alloc (.cells #[.int .i64 k, .string (bs tn), .string (bs col), .string (bs uid), .string (bs card), .int .i64 ck, .int .i64 cv, .slice A6 n c6, .int .i64 tok, .int .i64 most, .int .i64 ticks] 26) := ⟨_, rfl⟩
    have Kx33 := Kx27.o.alloc (.cells #[.int .i64 k, .string (bs tn), .string (bs col), .string (bs uid), .string (bs card), .int .i64 ck, .int .i64 cv, .slice A6 n c6, .int .i64 tok, .int .i64 most, .int .i64 ticks] 26)
    rw [← hZ] at Kx33
    replace Kx33 := hd Kx33
    have K34 := K28.o.alloc (.cells #[.int .i64 k, .string (bs tn), .string (bs col), .string (bs uid), .string (bs card), .int .i64 ck, .int .i64 cv, .slice A6 n c6, .int .i64 tok, .int .i64 most, .int .i64 ticks] 26)
    rw [← hZ] at K34
    replace K34 := hd K34
    have Ky35 := Ky29.o.alloc (.cells #[.int .i64 k, .string (bs tn), .string (bs col), .string (bs uid), .string (bs card), .int .i64 ck, .int .i64 cv, .slice A6 n c6, .int .i64 tok, .int .i64 most, .int .i64 ticks] 26)
    rw [← hZ] at Ky35
    replace Ky35 := hd Ky35
    have K36 := K30.o.alloc (.cells #[.int .i64 k, .string (bs tn), .string (bs col), .string (bs uid), .string (bs card), .int .i64 ck, .int .i64 cv, .slice A6 n c6, .int .i64 tok, .int .i64 most, .int .i64 ticks] 26)
    rw [← hZ] at K36
    replace K36 := hd K36
    have K37 := K31.o.alloc (.cells #[.int .i64 k, .string (bs tn), .string (bs col), .string (bs uid), .string (bs card), .int .i64 ck, .int .i64 cv, .slice A6 n c6, .int .i64 tok, .int .i64 most, .int .i64 ticks] 26)
    rw [← hZ] at K37
    replace K37 := hd K37
    have K38 := KG0.o.alloc (.cells #[.int .i64 k, .string (bs tn), .string (bs col), .string (bs uid), .string (bs card), .int .i64 ck, .int .i64 cv, .slice A6 n c6, .int .i64 tok, .int .i64 most, .int .i64 ticks] 26)
    rw [← hZ] at K38
    replace K38 := hd K38
    have KN39 : Blk Z u3.heap.size 26 #[.int .i64 k, .string (bs tn), .string (bs col), .string (bs uid), .string (bs card), .int .i64 ck, .int .i64 cv, .slice A6 n c6, .int .i64 tok, .int .i64 most, .int .i64 ticks] := by rw [hZ]; exact Blk.new _ _ _
    replace KN39 := hd KN39
    have HB40 := HB32.o.alloc HB32.o.size (.cells #[.int .i64 k, .string (bs tn), .string (bs col), .string (bs uid), .string (bs card), .int .i64 ck, .int .i64 cv, .slice A6 n c6, .int .i64 tok, .int .i64 most, .int .i64 ticks] 26)
    rw [← hZ] at HB40
    replace HB40 := hd HB40
    have HW_Z := hd hZ
    clear hZ
    go_upto_region 16 with (fail)
    rw [← HW_Z.o]
    clear x0 x1 x2 x3 x4 x5 x6 x7 x8 x9 x10 xl y0 y1 y2 y3 y4 y5 y6 y7 y8 y9 y10 yl
    have x0 := Kx33.o.at_ 0 rfl
    have x1 := Kx33.o.at_ 1 rfl
    have x2 := Kx33.o.at_ 2 rfl
    have x3 := Kx33.o.at_ 3 rfl
    have x4 := Kx33.o.at_ 4 rfl
    have x5 := Kx33.o.at_ 5 rfl
    have x6 := Kx33.o.at_ 6 rfl
    have x7 := Kx33.o.at_ 7 rfl
    have x8 := Kx33.o.at_ 8 rfl
    have x9 := Kx33.o.at_ 9 rfl
    have x10 := Kx33.o.at_ 10 rfl
    have xl := Kx33.o.lt
    have y0 := Ky35.o.at_ 0 rfl
    have y1 := Ky35.o.at_ 1 rfl
    have y2 := Ky35.o.at_ 2 rfl
    have y3 := Ky35.o.at_ 3 rfl
    have y4 := Ky35.o.at_ 4 rfl
    have y5 := Ky35.o.at_ 5 rfl
    have y6 := Ky35.o.at_ 6 rfl
    have y7 := Ky35.o.at_ 7 rfl
    have y8 := Ky35.o.at_ 8 rfl
    have y9 := Ky35.o.at_ 9 rfl
    have y10 := Ky35.o.at_ 10 rfl
    have yl := Ky35.o.lt
    have z0 := KN39.o.at_ 0 rfl
    have z1 := KN39.o.at_ 1 rfl
    have z2 := KN39.o.at_ 2 rfl
    have z3 := KN39.o.at_ 3 rfl
    have z4 := KN39.o.at_ 4 rfl
    have z5 := KN39.o.at_ 5 rfl
    have z6 := KN39.o.at_ 6 rfl
    have z7 := KN39.o.at_ 7 rfl
    have z8 := KN39.o.at_ 8 rfl
    have z9 := KN39.o.at_ 9 rfl
    have z10 := KN39.o.at_ 10 rfl
    have zl := KN39.o.lt
    have CS := same_calls ⟨k, tn, col, uid, card, ck, cv, ops, tok, most, ticks⟩ ⟨k, tn, col, uid, card, ck, cv, ops, tok, most, ticks⟩ A6 A c6 c Z (by rw [← HN.o] at K38; exact K38.o) (by have := HRQ.o Z HB40.o; rw [← HN.o] at this; exact this) (HSZ.o (by first | rfl | trivial)).ops (HSZ.o (by first | rfl | trivial)).ops
    unfold reqV reqE at CS
    simp only at CS
    rw [HN.o] at CS
    simp only [decide_true] at CS
    replace CS := hd CS
    go_wp2_with fail
    refine (CS.o).mono ?_
    rintro e u5 ⟨rfl, hbw⟩
    clear x0 x1 x2 x3 x4 x5 x6 x7 x8 x9 x10 xl y0 y1 y2 y3 y4 y5 y6 y7 y8 y9 y10 yl z0 z1 z2 z3 z4 z5 z6 z7 z8 z9 z10 zl
    have Kx41 := hd (Kx33.o.below hbw Kx33.o.lt)
    have K42 := hd (K34.o.below hbw)
    have Ky43 := hd (Ky35.o.below hbw Ky35.o.lt)
    have K44 := hd (K36.o.below hbw)
    have K45 := hd (K37.o.below hbw)
    have K46 := hd (K38.o.below hbw)
    have Kz47 := hd (KN39.o.below hbw KN39.o.lt)
    have HB48 := hd (HB40.o.trans (hbw.mono HB40.o.size))
    clear hbw
    have x0 := Kx41.o.at_ 0 rfl
    have x1 := Kx41.o.at_ 1 rfl
    have x2 := Kx41.o.at_ 2 rfl
    have x3 := Kx41.o.at_ 3 rfl
    have x4 := Kx41.o.at_ 4 rfl
    have x5 := Kx41.o.at_ 5 rfl
    have x6 := Kx41.o.at_ 6 rfl
    have x7 := Kx41.o.at_ 7 rfl
    have x8 := Kx41.o.at_ 8 rfl
    have x9 := Kx41.o.at_ 9 rfl
    have x10 := Kx41.o.at_ 10 rfl
    have xl := Kx41.o.lt
    have y0 := Ky43.o.at_ 0 rfl
    have y1 := Ky43.o.at_ 1 rfl
    have y2 := Ky43.o.at_ 2 rfl
    have y3 := Ky43.o.at_ 3 rfl
    have y4 := Ky43.o.at_ 4 rfl
    have y5 := Ky43.o.at_ 5 rfl
    have y6 := Ky43.o.at_ 6 rfl
    have y7 := Ky43.o.at_ 7 rfl
    have y8 := Ky43.o.at_ 8 rfl
    have y9 := Ky43.o.at_ 9 rfl
    have y10 := Ky43.o.at_ 10 rfl
    have yl := Ky43.o.lt
    have z0 := Kz47.o.at_ 0 rfl
    have z1 := Kz47.o.at_ 1 rfl
    have z2 := Kz47.o.at_ 2 rfl
    have z3 := Kz47.o.at_ 3 rfl
    have z4 := Kz47.o.at_ 4 rfl
    have z5 := Kz47.o.at_ 5 rfl
    have z6 := Kz47.o.at_ 6 rfl
    have z7 := Kz47.o.at_ 7 rfl
    have z8 := Kz47.o.at_ 8 rfl
    have z9 := Kz47.o.at_ 9 rfl
    have z10 := Kz47.o.at_ 10 rfl
    have zl := Kz47.o.lt
    go_wp2_with fail
    refine (C4.o (by first | rfl | trivial) _ HB48.o).mono ?_
    rintro e u6 ⟨rfl, hbv⟩
    clear x0 x1 x2 x3 x4 x5 x6 x7 x8 x9 x10 xl y0 y1 y2 y3 y4 y5 y6 y7 y8 y9 y10 yl z0 z1 z2 z3 z4 z5 z6 z7 z8 z9 z10 zl
    have Kx49 := hd (Kx41.o.below hbv Kx41.o.lt)
    have K50 := hd (K42.o.below hbv)
    have Ky51 := hd (Ky43.o.below hbv Ky43.o.lt)
    have K52 := hd (K44.o.below hbv)
    have K53 := hd (K45.o.below hbv)
    have K54 := hd (K46.o.below hbv)
    have Kz55 := hd (Kz47.o.below hbv Kz47.o.lt)
    have HB56 := hd (HB48.o.trans (hbv.mono HB48.o.size))
    clear hbv
    have x0 := Kx49.o.at_ 0 rfl
    have x1 := Kx49.o.at_ 1 rfl
    have x2 := Kx49.o.at_ 2 rfl
    have x3 := Kx49.o.at_ 3 rfl
    have x4 := Kx49.o.at_ 4 rfl
    have x5 := Kx49.o.at_ 5 rfl
    have x6 := Kx49.o.at_ 6 rfl
    have x7 := Kx49.o.at_ 7 rfl
    have x8 := Kx49.o.at_ 8 rfl
    have x9 := Kx49.o.at_ 9 rfl
    have x10 := Kx49.o.at_ 10 rfl
    have xl := Kx49.o.lt
    have y0 := Ky51.o.at_ 0 rfl
    have y1 := Ky51.o.at_ 1 rfl
    have y2 := Ky51.o.at_ 2 rfl
    have y3 := Ky51.o.at_ 3 rfl
    have y4 := Ky51.o.at_ 4 rfl
    have y5 := Ky51.o.at_ 5 rfl
    have y6 := Ky51.o.at_ 6 rfl
    have y7 := Ky51.o.at_ 7 rfl
    have y8 := Ky51.o.at_ 8 rfl
    have y9 := Ky51.o.at_ 9 rfl
    have y10 := Ky51.o.at_ 10 rfl
    have yl := Ky51.o.lt
    have z0 := Kz55.o.at_ 0 rfl
    have z1 := Kz55.o.at_ 1 rfl
    have z2 := Kz55.o.at_ 2 rfl
    have z3 := Kz55.o.at_ 3 rfl
    have z4 := Kz55.o.at_ 4 rfl
    have z5 := Kz55.o.at_ 5 rfl
    have z6 := Kz55.o.at_ 6 rfl
    have z7 := Kz55.o.at_ 7 rfl
    have z8 := Kz55.o.at_ 8 rfl
    have z9 := Kz55.o.at_ 9 rfl
    have z10 := Kz55.o.at_ 10 rfl
    have zl := Kz55.o.lt
    go_wp2
    go_ret
    exact ⟨rfl, HB56.o⟩

end Go.Proofs.YtogjokofmfpmgaaGreatDoor
namespace Go.Proofs.YtogjokofmfpmgaaGreatDoor
open Go.ChangeShapes Go.WideShapes Go.ChangeAt Go.RowKit

theorem uc_u8 : Tryz.prog.cellsOf 5 = 1 := by kernel_rfl
def u8C (c : UInt8) : List Value := [.int .u8 c.toNat]
theorem u8E_flat (l : List UInt8) : l.flatMap u8C = u8E l := by
  induction l with
  | nil => rfl
  | cons a t ih => rw [List.flatMap_cons, ih]; rfl
theorem u8_of_wf {n : Int} (h : (Lit.int .u8 n).wf = true) : 0 ≤ n ∧ n ≤ 255 := by
  simpa [Lit.wf, IntKind.min, IntKind.max, IntKind.signed, IntKind.bits] using h
theorem u8_is {n : Int} (h : (Lit.int .u8 n).wf = true) : n = ((UInt8.ofNat n.toNat).toNat : Int) := by
  have := u8_of_wf h
  rw [UInt8.toNat_ofNat']
  omega
section
variable {H : Type} {enc : TypeId × Value → H} {W : World} {base : Nat} {spare : Nat → Bool} {held : Bool}
theorem rds_of_u8 {t : TypeId} {A : Option Addr} {n c : Nat} {d : DataW H} {p : List MemPlace} (ht : Tryz.prog.underlying t = some (.slice 5)) (h : DataW.Trod enc Tryz.prog W base spare held t (.slice A n c) d p) :
    ∃ l : List UInt8, Rds W A n 1 (u8E l) ∧ n = l.length ∧ n ≤ maxLen ∧ n ≤ c := by
  obtain ⟨l, h1, h2, h3, _⟩ := rds_of_slice (R := UInt8) u8C 1 (fun _ => rfl) (by decide) (fun _ => True) ht uc_u8 (fun fuel cs x hx hl => by
    match cs, hl with
    | [c0], _ =>
      obtain ⟨n0, e0, _, w0⟩ := DataW.trod_int Tryz.underlying5 hx
      refine ⟨UInt8.ofNat n0.toNat, ?_, trivial⟩
      rw [e0]
      show [Value.int .u8 n0] = [Value.int .u8 _]
      rw [← u8_is w0]) h
  rw [u8E_flat] at h1
  refine ⟨l, h1, h2, h3, ?_⟩
  obtain ⟨fuel, hf⟩ := h
  rcases DataW.trod_slice ht hf with ⟨h, _⟩ | ⟨a, n', c', _, _, _, _, h, _, _, hnc, _⟩
  · simp [Value.cells] at h
    omega
  · simp [Value.cells] at h
    omega
end

end Go.Proofs.YtogjokofmfpmgaaGreatDoor
