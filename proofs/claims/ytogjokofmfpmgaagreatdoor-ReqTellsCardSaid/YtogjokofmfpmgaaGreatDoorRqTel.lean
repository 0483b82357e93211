/-
  henlaw12.ReqTells.
-/
import Derived.Test.YtogjokofmfpmgaaGreatDoorGRC
import Derived.Test.YtogjokofmfpmgaaGreatDoorGRA
import Derived.Test.YtogjokofmfpmgaaGreatDoorGRB
import Derived.Test.YtogjokofmfpmgaaGreatDoorGRD
import Derived.Test.YtogjokofmfpmgaaGreatDoorGAQ
import Derived.Test.YtogjokofmfpmgaaGreatDoorGAV
import Derived.Test.YtogjokofmfpmgaaGreatDoorGRH
import Derived.Test.YtogjokofmfpmgaaGreatDoorRReqI
set_option linter.unusedVariables false
set_option linter.unusedSimpArgs false
namespace Go.Proofs.YtogjokofmfpmgaaGreatDoor
open Go.RowKit

/-- What either Encode hands back. -/
structure EncA (w : World) (q : Rq) (e : Ending) (w' : World) : Prop where
  o : ∃ (A : Option Addr) (m c : Nat), e = .returned (.tuple #[.slice A m c, .int .i64 (chk q)]) ∧ m = (encR q).length ∧ Rds w' A m 1 (u8E (encR q)) ∧ Below w.heap.size w w'
theorem enc_any {w w' : World} {q : Rq} {e : Ending} (h : EncR w q e w') : EncA w q e w' := by
  by_cases h0 : chk q = 0
  · obtain ⟨A, m, c, he, hm, hr, hb⟩ := h.yes h0
    refine ⟨A, m, c, by rw [h0]; exact he, ?_, ?_, hb⟩
    · unfold encR; rw [if_pos h0]; exact hm
    · unfold encR; rw [if_pos h0]; exact hr.rds
  · obtain ⟨he, hb⟩ := h.no h0
    refine ⟨none, 0, 0, he, ?_, ?_, hb⟩
    · unfold encR; rw [if_neg h0]; rfl
    · unfold encR; rw [if_neg h0]; exact Rds.nil8 w'

set_option maxRecDepth 100000 in
set_option maxHeartbeats 8000000 in
theorem rtells_law (q : Rq) (A : Option Addr) (c : Nat) (kind : Int) (B : Option Addr) (bn bc : Nat) (bl : List UInt8) (w : World) (ht : Tbs w) (hq : RqOk w q A) (hc : q.ops.length ≤ c) (hkb : -9223372036854775808 ≤ kind ∧ kind ≤ 9223372036854775807) (hrb : Rds w B bn 1 (u8E bl)) (hbn : bn = bl.length) (hbm : bn ≤ maxLen) (hbc : bn ≤ bc) :
    Calls Tryz.prog 3 #[reqV q A c, .int .i64 kind, .slice B bn bc] w fun e w' => e = .returned (.bool true) ∧ Below w.heap.size w w' := by
  obtain ⟨k, tn, col, uid, card, ck, cv, ops, tok, most, ticks⟩ := q
  have C1 := fun W (h : Below w.heap.size w W) => first_calls W (ht.below h)
  have C2 := fun W (h : Below w.heap.size w W) => light_calls W ⟨k, tn, col, uid, card, ck, cv, ops, tok, most, ticks⟩ A c (hq.below h)
  obtain ⟨LB, hLB⟩ : ∃ LB, lightQ ⟨k, tn, col, uid, card, ck, cv, ops, tok, most, ticks⟩ = LB := ⟨_, rfl⟩
  simp only [hLB] at C2
  have HNM := hd hq.num
  have C3 := fun (hl : LB = true) W (h : Below w.heap.size w W) => (enc_calls ⟨k, tn, col, uid, card, ck, cv, ops, tok, most, ticks⟩ A c W (ht.below h) (hq.below h).rds (light_s (hLB.trans hl)) HNM.o).mono (fun _ _ h => enc_any h)
  have C3r := fun (hl : LB = true) W (h : Below w.heap.size w W) => (renc_calls ⟨k, tn, col, uid, card, ck, cv, ops, tok, most, ticks⟩ A c W (hq.below h).rds (light_s (hLB.trans hl)) HNM.o).mono (fun _ _ h => enc_any h)
  have C4 := fun (hl : LB = true) W (h : Below w.heap.size w W) => check_calls ⟨k, tn, col, uid, card, ck, cv, ops, tok, most, ticks⟩ A c W (ht.below h) (hq.below h).rds (light_s (hLB.trans hl))
  have C4r := fun (hl : LB = true) W (h : Below w.heap.size w W) => rcheck_calls ⟨k, tn, col, uid, card, ck, cv, ops, tok, most, ticks⟩ A c W (hq.below h).rds (light_s (hLB.trans hl))
  have HT := hd (fun W (h : Below w.heap.size w W) => ht.below h)
  have HRB := hd (fun W (h : Below w.heap.size w W) => hrb.below h)
  have HBN := hd hbn
  unfold maxLen at hbm
  have hbmi : (bn : Int) ≤ 9223372036854775807 := by omega
  obtain ⟨KK, hKK⟩ : ∃ KK, chk ⟨k, tn, col, uid, card, ck, cv, ops, tok, most, ticks⟩ = KK := ⟨_, rfl⟩
  obtain ⟨EL, hEL⟩ : ∃ EL, encR ⟨k, tn, col, uid, card, ck, cv, ops, tok, most, ticks⟩ = EL := ⟨_, rfl⟩
  have HEA := hd (fun W e w' (h : EncA W ⟨k, tn, col, uid, card, ck, cv, ops, tok, most, ticks⟩ e w') => show ∃ (A : Option Addr) (m c : Nat), e = .returned (.tuple #[.slice A m c, .int .i64 KK]) ∧ m = EL.length ∧ Rds w' A m 1 (u8E EL) ∧ Below W.heap.size W w' from by rw [← hKK, ← hEL]; exact h.o)
  rw [hKK] at C4 C4r
  have hbci : bn ≤ bc := hbc
  unfold reqV reqE at *
  simp only at C1 C2 C3 C3r C4 C4r HEA ⊢
  obtain ⟨n, hn⟩ : ∃ n, ops.length = n := ⟨_, rfl⟩
  rw [hn] at C2 C3 C3r C4 C4r ⊢
  replace C1 := hd C1
  replace C2 := hd C2
  replace C3 := hd C3
  replace C3r := hd C3r
  replace C4 := hd C4
  replace C4r := hd C4r
  have HBC := hd hbci
  clear ht hq hc hkb hrb hbn hbm hbc hbci hLB hn hKK hEL
  go_enter Tryz.func3, Tryz.ntmps3
  obtain ⟨X, hX⟩ : ∃ X, X = w.alloc (.cells #[.int .i64 k, .string (bs tn), .string (bs col), .string (bs uid), .string (bs card), .int .i64 ck, .int .i64 cv, .slice A n c, .int .i64 tok, .int .i64 most, .int .i64 ticks] 26) := ⟨_, rfl⟩
  have KN1 : Blk X w.heap.size 26 #[.int .i64 k, .string (bs tn), .string (bs col), .string (bs uid), .string (bs card), .int .i64 ck, .int .i64 cv, .slice A n c, .int .i64 tok, .int .i64 most, .int .i64 ticks] := by rw [hX]; exact Blk.new _ _ _
  replace KN1 := hd KN1
  have HB2 := (Below.refl w.heap.size w).alloc (Below.refl w.heap.size w).size (.cells #[.int .i64 k, .string (bs tn), .string (bs col), .string (bs uid), .string (bs card), .int .i64 ck, .int .i64 cv, .slice A n c, .int .i64 tok, .int .i64 most, .int .i64 ticks] 26)
  rw [← hX] at HB2
  replace HB2 := hd HB2
  have HW_X := hd hX
  clear hX
  go_upto_region 1 with (fail)
  rw [← HW_X.o]
  have x0 := KN1.o.at_ 0 rfl
  have x1 := KN1.o.at_ 1 rfl
  have x2 := KN1.o.at_ 2 rfl
  have x3 := KN1.o.at_ 3 rfl
  have x4 := KN1.o.at_ 4 rfl
  have x5 := KN1.o.at_ 5 rfl
  have x6 := KN1.o.at_ 6 rfl
  have x7 := KN1.o.at_ 7 rfl
  have x8 := KN1.o.at_ 8 rfl
  have x9 := KN1.o.at_ 9 rfl
  have x10 := KN1.o.at_ 10 rfl
  have xl := KN1.o.lt
  go_wp2_with fail
  refine (C1.o _ HB2.o).mono ?_
  rintro e w1 ⟨rfl, hb1⟩
  clear x0 x1 x2 x3 x4 x5 x6 x7 x8 x9 x10 xl
  have Kx3 := hd (KN1.o.below hb1 KN1.o.lt)
  have HB4 := hd (HB2.o.trans (hb1.mono HB2.o.size))
  clear hb1
  have x0 := Kx3.o.at_ 0 rfl
  have x1 := Kx3.o.at_ 1 rfl
  have x2 := Kx3.o.at_ 2 rfl
  have x3 := Kx3.o.at_ 3 rfl
  have x4 := Kx3.o.at_ 4 rfl
  have x5 := Kx3.o.at_ 5 rfl
  have x6 := Kx3.o.at_ 6 rfl
  have x7 := Kx3.o.at_ 7 rfl
  have x8 := Kx3.o.at_ 8 rfl
  have x9 := Kx3.o.at_ 9 rfl
  have x10 := Kx3.o.at_ 10 rfl
  have xl := Kx3.o.lt
  go_wp2_with fail
  refine (C2.o _ HB4.o).mono ?_
  rintro e w2 ⟨rfl, hb2⟩
  clear x0 x1 x2 x3 x4 x5 x6 x7 x8 x9 x10 xl
  have Kx5 := hd (Kx3.o.below hb2 Kx3.o.lt)
  have HB6 := hd (HB4.o.trans (hb2.mono HB4.o.size))
  clear hb2
  have x0 := Kx5.o.at_ 0 rfl
  have x1 := Kx5.o.at_ 1 rfl
  have x2 := Kx5.o.at_ 2 rfl
  have x3 := Kx5.o.at_ 3 rfl
  have x4 := Kx5.o.at_ 4 rfl
  have x5 := Kx5.o.at_ 5 rfl
  have x6 := Kx5.o.at_ 6 rfl
  have x7 := Kx5.o.at_ 7 rfl
  have x8 := Kx5.o.at_ 8 rfl
  have x9 := Kx5.o.at_ 9 rfl
  have x10 := Kx5.o.at_ 10 rfl
  have xl := Kx5.o.lt
  cases LB with
  | false =>
    go_wp2_with fail
    refine (C1.o _ HB6.o).mono ?_
    rintro e w9 ⟨rfl, hb9⟩
    clear x0 x1 x2 x3 x4 x5 x6 x7 x8 x9 x10 xl
    have Kx7 := hd (Kx5.o.below hb9 Kx5.o.lt)
    have HB8 := hd (HB6.o.trans (hb9.mono HB6.o.size))
    clear hb9
    have x0 := Kx7.o.at_ 0 rfl
    have x1 := Kx7.o.at_ 1 rfl
    have x2 := Kx7.o.at_ 2 rfl
    have x3 := Kx7.o.at_ 3 rfl
    have x4 := Kx7.o.at_ 4 rfl
    have x5 := Kx7.o.at_ 5 rfl
    have x6 := Kx7.o.at_ 6 rfl
    have x7 := Kx7.o.at_ 7 rfl
    have x8 := Kx7.o.at_ 8 rfl
    have x9 := Kx7.o.at_ 9 rfl
    have x10 := Kx7.o.at_ 10 rfl
    have xl := Kx7.o.lt
    go_wp2
    go_ret
    exact ⟨rfl, HB8.o⟩
  | true =>
    by_cases hbig : 1500 < bn
    case pos =>
      have hbb : decide ((1500 : Int) < (bn : Int)) = true := by simp; omega
      clear hbig
      go_wp2_with fail
      refine (C1.o _ HB6.o).mono ?_
      rintro e w9 ⟨rfl, hb9⟩
      clear x0 x1 x2 x3 x4 x5 x6 x7 x8 x9 x10 xl
      have Kx7 := hd (Kx5.o.below hb9 Kx5.o.lt)
      have HB8 := hd (HB6.o.trans (hb9.mono HB6.o.size))
      clear hb9
      have x0 := Kx7.o.at_ 0 rfl
      have x1 := Kx7.o.at_ 1 rfl
      have x2 := Kx7.o.at_ 2 rfl
      have x3 := Kx7.o.at_ 3 rfl
      have x4 := Kx7.o.at_ 4 rfl
      have x5 := Kx7.o.at_ 5 rfl
      have x6 := Kx7.o.at_ 6 rfl
      have x7 := Kx7.o.at_ 7 rfl
      have x8 := Kx7.o.at_ 8 rfl
      have x9 := Kx7.o.at_ 9 rfl
      have x10 := Kx7.o.at_ 10 rfl
      have xl := Kx7.o.lt
      go_wp2
      go_ret
      exact ⟨rfl, HB8.o⟩
    case neg =>
    have hbb : decide ((1500 : Int) < (bn : Int)) = false := by simp; omega
    have hb15 : bn ≤ 1000000 := by omega
    clear hbig
    go_wp2_with fail
    refine (C3.o (by first | rfl | trivial) _ HB6.o).mono ?_
    intro e w3 hE
    obtain ⟨A3, m3, c3, rfl, hm3, hr3, hb3⟩ := HEA.o _ _ _ hE
    clear hE
    have HM3 := hd hm3
    have KR3 := hd hr3
    clear hm3 hr3
    clear x0 x1 x2 x3 x4 x5 x6 x7 x8 x9 x10 xl
    have Kx7 := hd (Kx5.o.below hb3 Kx5.o.lt)
    have HB8 := hd (HB6.o.trans (hb3.mono HB6.o.size))
    clear hb3
    have x0 := Kx7.o.at_ 0 rfl
    have x1 := Kx7.o.at_ 1 rfl
    have x2 := Kx7.o.at_ 2 rfl
    have x3 := Kx7.o.at_ 3 rfl
    have x4 := Kx7.o.at_ 4 rfl
    have x5 := Kx7.o.at_ 5 rfl
    have x6 := Kx7.o.at_ 6 rfl
    have x7 := Kx7.o.at_ 7 rfl
    have x8 := Kx7.o.at_ 8 rfl
    have x9 := Kx7.o.at_ 9 rfl
    have x10 := Kx7.o.at_ 10 rfl
    have xl := Kx7.o.lt
    go_wp2_with fail
    refine (C3r.o (by first | rfl | trivial) _ HB8.o).mono ?_
    intro e w4 hE
    obtain ⟨A4, m4, c4, rfl, hm4, hr4, hb4⟩ := HEA.o _ _ _ hE
    clear hE
    have HM4 := hd hm4
    have KR4 := hd hr4
    clear hm4 hr4
    clear x0 x1 x2 x3 x4 x5 x6 x7 x8 x9 x10 xl
    have Kx9 := hd (Kx7.o.below hb4 Kx7.o.lt)
    have K10 := hd (KR3.o.below hb4)
    have HB11 := hd (HB8.o.trans (hb4.mono HB8.o.size))
    clear hb4
    have x0 := Kx9.o.at_ 0 rfl
    have x1 := Kx9.o.at_ 1 rfl
    have x2 := Kx9.o.at_ 2 rfl
    have x3 := Kx9.o.at_ 3 rfl
    have x4 := Kx9.o.at_ 4 rfl
    have x5 := Kx9.o.at_ 5 rfl
    have x6 := Kx9.o.at_ 6 rfl
    have x7 := Kx9.o.at_ 7 rfl
    have x8 := Kx9.o.at_ 8 rfl
    have x9 := Kx9.o.at_ 9 rfl
    have x10 := Kx9.o.at_ 10 rfl
    have xl := Kx9.o.lt
    obtain ⟨DE, hDE⟩ : ∃ DE, decQ kind bl = DE := ⟨_, rfl⟩
    have hi := dec_i kind bl
    rw [hDE] at hi
    have HDE := hd hDE
    obtain ⟨D, E⟩ := DE
    obtain ⟨dk, dtn, dcol, duid, dcard, dck, dcv, dops, dtok, dmost, dticks⟩ := D
    simp only at hi
    have HI := hd hi
    obtain ⟨dn, hdn⟩ : ∃ dn, dops.length = dn := ⟨_, rfl⟩
    have HDN := hd hdn
    clear hi hdn hDE
    go_wp2_with fail
    refine (dec_calls kind _ B bn bc bl HBN.o (HRB.o _ HB11.o) hb15 (HT.o _ HB11.o)).mono ?_
    rintro e w5 ⟨⟨A5, c5, he, hrow, hb5⟩⟩
    rw [HDE.o] at he hrow
    have he : e = .returned (.tuple #[.agg #[.int .i64 dk, .string (bs dtn), .string (bs dcol), .string (bs duid), .string (bs dcard), .int .i64 dck, .int .i64 dcv, .slice A5 dn c5, .int .i64 dtok, .int .i64 dmost, .int .i64 dticks], .int .i64 E]) := by rw [he]; unfold reqV reqE; simp only; rw [HDN.o]
    subst he
    simp only at hrow
    rw [HDN.o] at hrow
    have KR5 := hd hrow.rds
    clear hrow
    clear x0 x1 x2 x3 x4 x5 x6 x7 x8 x9 x10 xl
    have Kx12 := hd (Kx9.o.below hb5 Kx9.o.lt)
    have K13 := hd (K10.o.below hb5)
    have K14 := hd (KR4.o.below hb5)
    have HB15 := hd (HB11.o.trans (hb5.mono HB11.o.size))
    clear hb5
    have x0 := Kx12.o.at_ 0 rfl
    have x1 := Kx12.o.at_ 1 rfl
    have x2 := Kx12.o.at_ 2 rfl
    have x3 := Kx12.o.at_ 3 rfl
    have x4 := Kx12.o.at_ 4 rfl
    have x5 := Kx12.o.at_ 5 rfl
    have x6 := Kx12.o.at_ 6 rfl
    have x7 := Kx12.o.at_ 7 rfl
    have x8 := Kx12.o.at_ 8 rfl
    have x9 := Kx12.o.at_ 9 rfl
    have x10 := Kx12.o.at_ 10 rfl
    have xl := Kx12.o.lt
    obtain ⟨Y5, hY5⟩ : ∃ Y5, Y5 = w5.alloc (.cells #[.int .i64 dk, .string (bs dtn), .string (bs dcol), .string (bs duid), .string (bs dcard), .int .i64 dck, .int .i64 dcv, .slice A5 dn c5, .int .i64 dtok, .int .i64 dmost, .int .i64 dticks] 26) := ⟨_, rfl⟩
    have Kx16 := Kx12.o.alloc (.cells #[.int .i64 dk, .string (bs dtn), .string (bs dcol), .string (bs duid), .string (bs dcard), .int .i64 dck, .int .i64 dcv, .slice A5 dn c5, .int .i64 dtok, .int .i64 dmost, .int .i64 dticks] 26)
    rw [← hY5] at Kx16
    replace Kx16 := hd Kx16
    have K17 := K13.o.alloc (.cells #[.int .i64 dk, .string (bs dtn), .string (bs dcol), .string (bs duid), .string (bs dcard), .int .i64 dck, .int .i64 dcv, .slice A5 dn c5, .int .i64 dtok, .int .i64 dmost, .int .i64 dticks] 26)
    rw [← hY5] at K17
    replace K17 := hd K17
    have K18 := K14.o.alloc (.cells #[.int .i64 dk, .string (bs dtn), .string (bs dcol), .string (bs duid), .string (bs dcard), .int .i64 dck, .int .i64 dcv, .slice A5 dn c5, .int .i64 dtok, .int .i64 dmost, .int .i64 dticks] 26)
    rw [← hY5] at K18
    replace K18 := hd K18
    have K19 := KR5.o.alloc (.cells #[.int .i64 dk, .string (bs dtn), .string (bs dcol), .string (bs duid), .string (bs dcard), .int .i64 dck, .int .i64 dcv, .slice A5 dn c5, .int .i64 dtok, .int .i64 dmost, .int .i64 dticks] 26)
    rw [← hY5] at K19
    replace K19 := hd K19
    have KN20 : Blk Y5 w5.heap.size 26 #[.int .i64 dk, .string (bs dtn), .string (bs dcol), .string (bs duid), .string (bs dcard), .int .i64 dck, .int .i64 dcv, .slice A5 dn c5, .int .i64 dtok, .int .i64 dmost, .int .i64 dticks] := by rw [hY5]; exact Blk.new _ _ _
    replace KN20 := hd KN20
    have HB21 := HB15.o.alloc HB15.o.size (.cells #[.int .i64 dk, .string (bs dtn), .string (bs dcol), .string (bs duid), .string (bs dcard), .int .i64 dck, .int .i64 dcv, .slice A5 dn c5, .int .i64 dtok, .int .i64 dmost, .int .i64 dticks] 26)
    rw [← hY5] at HB21
    replace HB21 := hd HB21
    have HW_Y5 := hd hY5
    clear hY5
    go_upto_region 8 with (fail)
    rw [← HW_Y5.o]
    clear x0 x1 x2 x3 x4 x5 x6 x7 x8 x9 x10 xl
    have x0 := Kx16.o.at_ 0 rfl
    have x1 := Kx16.o.at_ 1 rfl
    have x2 := Kx16.o.at_ 2 rfl
    have x3 := Kx16.o.at_ 3 rfl
    have x4 := Kx16.o.at_ 4 rfl
    have x5 := Kx16.o.at_ 5 rfl
    have x6 := Kx16.o.at_ 6 rfl
    have x7 := Kx16.o.at_ 7 rfl
    have x8 := Kx16.o.at_ 8 rfl
    have x9 := Kx16.o.at_ 9 rfl
    have x10 := Kx16.o.at_ 10 rfl
    have xl := Kx16.o.lt
    have y0 := KN20.o.at_ 0 rfl
    have y1 := KN20.o.at_ 1 rfl
    have y2 := KN20.o.at_ 2 rfl
    have y3 := KN20.o.at_ 3 rfl
    have y4 := KN20.o.at_ 4 rfl
    have y5 := KN20.o.at_ 5 rfl
    have y6 := KN20.o.at_ 6 rfl
    have y7 := KN20.o.at_ 7 rfl
    have y8 := KN20.o.at_ 8 rfl
    have y9 := KN20.o.at_ 9 rfl
    have y10 := KN20.o.at_ 10 rfl
    have yl := KN20.o.lt
    go_wp2_with fail
    refine (rdec_calls kind _ B bn bc bl HBN.o (HRB.o _ HB21.o) hb15 HBC.o).mono ?_
    rintro e w6 ⟨⟨A6, c6, he, hrow, hb6⟩⟩
    rw [HDE.o] at he hrow
    have he : e = .returned (.tuple #[.agg #[.int .i64 dk, .string (bs dtn), .string (bs dcol), .string (bs duid), .string (bs dcard), .int .i64 dck, .int .i64 dcv, .slice A6 dn c6, .int .i64 dtok, .int .i64 dmost, .int .i64 dticks], .int .i64 E]) := by rw [he]; unfold reqV reqE; simp only; rw [HDN.o]
    subst he
    simp only at hrow
    rw [HDN.o] at hrow
    have KR6 := hd hrow.rds
    clear hrow
    clear x0 x1 x2 x3 x4 x5 x6 x7 x8 x9 x10 xl y0 y1 y2 y3 y4 y5 y6 y7 y8 y9 y10 yl
    have Kx22 := hd (Kx16.o.below hb6 Kx16.o.lt)
    have K23 := hd (K17.o.below hb6)
    have K24 := hd (K18.o.below hb6)
    have K25 := hd (K19.o.below hb6)
    have Ky26 := hd (KN20.o.below hb6 KN20.o.lt)
    have HB27 := hd (HB21.o.trans (hb6.mono HB21.o.size))
    clear hb6
    have x0 := Kx22.o.at_ 0 rfl
    have x1 := Kx22.o.at_ 1 rfl
    have x2 := Kx22.o.at_ 2 rfl
    have x3 := Kx22.o.at_ 3 rfl
    have x4 := Kx22.o.at_ 4 rfl
    have x5 := Kx22.o.at_ 5 rfl
    have x6 := Kx22.o.at_ 6 rfl
    have x7 := Kx22.o.at_ 7 rfl
    have x8 := Kx22.o.at_ 8 rfl
    have x9 := Kx22.o.at_ 9 rfl
    have x10 := Kx22.o.at_ 10 rfl
    have xl := Kx22.o.lt
    have y0 := Ky26.o.at_ 0 rfl
    have y1 := Ky26.o.at_ 1 rfl
    have y2 := Ky26.o.at_ 2 rfl
    have y3 := Ky26.o.at_ 3 rfl
    have y4 := Ky26.o.at_ 4 rfl
    have y5 := Ky26.o.at_ 5 rfl
    have y6 := Ky26.o.at_ 6 rfl
    have y7 := Ky26.o.at_ 7 rfl
    have y8 := Ky26.o.at_ 8 rfl
    have y9 := Ky26.o.at_ 9 rfl
    have y10 := Ky26.o.at_ 10 rfl
    have yl := Ky26.o.lt
    obtain ⟨Y6, hY6⟩ : ∃ Y6, Y6 = w6.alloc (.cells #[.int .i64 dk, .string (bs dtn), .string (bs dcol), .string (bs duid), .string (bs dcard), .int .i64 dck, .int .i64 dcv, .slice A6 dn c6, .int .i64 dtok, .int .i64 dmost, .int .i64 dticks] 26) := ⟨_, rfl⟩
    have Kx28 := Kx22.o.alloc (.cells #[.int .i64 dk, .string (bs dtn), .string (bs dcol), .string (bs duid), .string (bs dcard), .int .i64 dck, .int .i64 dcv, .slice A6 dn c6, .int .i64 dtok, .int .i64 dmost, .int .i64 dticks] 26)
    rw [← hY6] at Kx28
    replace Kx28 := hd Kx28
    have K29 := K23.o.alloc (.cells #[.int .i64 dk, .string (bs dtn), .string (bs dcol), .string (bs duid), .string (bs dcard), .int .i64 dck, .int .i64 dcv, .slice A6 dn c6, .int .i64 dtok, .int .i64 dmost, .int .i64 dticks] 26)
    rw [← hY6] at K29
    replace K29 := hd K29
    have K30 := K24.o.alloc (.cells #[.int .i64 dk, .string (bs dtn), .string (bs dcol), .string (bs duid), .string (bs dcard), .int .i64 dck, .int .i64 dcv, .slice A6 dn c6, .int .i64 dtok, .int .i64 dmost, .int .i64 dticks] 26)
    rw [← hY6] at K30
    replace K30 := hd K30
    have K31 := K25.o.alloc (.cells #[.int .i64 dk, .string (bs dtn), .string (bs dcol), .string (bs duid), .string (bs dcard), .int .i64 dck, .int .i64 dcv, .slice A6 dn c6, .int .i64 dtok, .int .i64 dmost, .int .i64 dticks] 26)
    rw [← hY6] at K31
    replace K31 := hd K31
    have Ky32 := Ky26.o.alloc (.cells #[.int .i64 dk, .string (bs dtn), .string (bs dcol), .string (bs duid), .string (bs dcard), .int .i64 dck, .int .i64 dcv, .slice A6 dn c6, .int .i64 dtok, .int .i64 dmost, .int .i64 dticks] 26)
    rw [← hY6] at Ky32
    replace Ky32 := hd Ky32
    have K33 := KR6.o.alloc (.cells #[.int .i64 dk, .string (bs dtn), .string (bs dcol), .string (bs duid), .string (bs dcard), .int .i64 dck, .int .i64 dcv, .slice A6 dn c6, .int .i64 dtok, .int .i64 dmost, .int .i64 dticks] 26)
    rw [← hY6] at K33
    replace K33 := hd K33
    have KN34 : Blk Y6 w6.heap.size 26 #[.int .i64 dk, .string (bs dtn), .string (bs dcol), .string (bs duid), .string (bs dcard), .int .i64 dck, .int .i64 dcv, .slice A6 dn c6, .int .i64 dtok, .int .i64 dmost, .int .i64 dticks] := by rw [hY6]; exact Blk.new _ _ _
    replace KN34 := hd KN34
    have HB35 := HB27.o.alloc HB27.o.size (.cells #[.int .i64 dk, .string (bs dtn), .string (bs dcol), .string (bs duid), .string (bs dcard), .int .i64 dck, .int .i64 dcv, .slice A6 dn c6, .int .i64 dtok, .int .i64 dmost, .int .i64 dticks] 26)
    rw [← hY6] at HB35
    replace HB35 := hd HB35
    have HW_Y6 := hd hY6
    clear hY6
    go_upto_region 9 with (fail)
    rw [← HW_Y6.o]
    clear x0 x1 x2 x3 x4 x5 x6 x7 x8 x9 x10 xl y0 y1 y2 y3 y4 y5 y6 y7 y8 y9 y10 yl
    have x0 := Kx28.o.at_ 0 rfl
    have x1 := Kx28.o.at_ 1 rfl
    have x2 := Kx28.o.at_ 2 rfl
    have x3 := Kx28.o.at_ 3 rfl
    have x4 := Kx28.o.at_ 4 rfl
    have x5 := Kx28.o.at_ 5 rfl
    have x6 := Kx28.o.at_ 6 rfl
    have x7 := Kx28.o.at_ 7 rfl
    have x8 := Kx28.o.at_ 8 rfl
    have x9 := Kx28.o.at_ 9 rfl
    have x10 := Kx28.o.at_ 10 rfl
    have xl := Kx28.o.lt
    have y0 := Ky32.o.at_ 0 rfl
    have y1 := Ky32.o.at_ 1 rfl
    have y2 := Ky32.o.at_ 2 rfl
    have y3 := Ky32.o.at_ 3 rfl
    have y4 := Ky32.o.at_ 4 rfl
    have y5 := Ky32.o.at_ 5 rfl
    have y6 := Ky32.o.at_ 6 rfl
    have y7 := Ky32.o.at_ 7 rfl
    have y8 := Ky32.o.at_ 8 rfl
    have y9 := Ky32.o.at_ 9 rfl
    have y10 := Ky32.o.at_ 10 rfl
    have yl := Ky32.o.lt
    have z0 := KN34.o.at_ 0 rfl
    have z1 := KN34.o.at_ 1 rfl
    have z2 := KN34.o.at_ 2 rfl
    have z3 := KN34.o.at_ 3 rfl
    have z4 := KN34.o.at_ 4 rfl
    have z5 := KN34.o.at_ 5 rfl
    have z6 := KN34.o.at_ 6 rfl
    have z7 := KN34.o.at_ 7 rfl
    have z8 := KN34.o.at_ 8 rfl
    have z9 := KN34.o.at_ 9 rfl
    have z10 := KN34.o.at_ 10 rfl
    have zl := KN34.o.lt
    have HBW := hd (show Below w.heap.size w Y6 from HB35.o)
    have eK : (KK == KK) = true := by simp
    have eE : (E == E) = true := by simp
    have eS : ((bs EL).toList == (bs EL).toList) = true := by simp
    obtain ⟨wb, hwb⟩ : ∃ wb, writesK kind = wb := ⟨_, rfl⟩
    have CW := hd (fun W => show Calls Tryz.prog 22 #[.int .i64 kind] W fun e w' => e = .returned (.bool wb) ∧ W = w' from by rw [← hwb]; exact writes_calls kind W)
    have CWr := hd (fun W => show Calls Tryz.prog 23 #[.int .i64 kind] W fun e w' => e = .returned (.bool wb) ∧ W = w' from by rw [← hwb]; exact rwrites_calls kind W)
    have eW : (wb == wb) = true := by simp
    clear hwb
    have CS := hd (fun W (h : Below Y6.heap.size Y6 W) => show Calls Tryz.prog 21 #[.agg #[.int .i64 dk, .string (bs dtn), .string (bs dcol), .string (bs duid), .string (bs dcard), .int .i64 dck, .int .i64 dcv, .slice A5 dn c5, .int .i64 dtok, .int .i64 dmost, .int .i64 dticks], .agg #[.int .i64 dk, .string (bs dtn), .string (bs dcol), .string (bs duid), .string (bs dcard), .int .i64 dck, .int .i64 dcv, .slice A6 dn c6, .int .i64 dtok, .int .i64 dmost, .int .i64 dticks]] W fun e w' => e = .returned (.bool true) ∧ Below W.heap.size W w' from by
      have h1 := K31.o.below h
      have h2 := K33.o.below h
      have hl := HI.o.len
      simp only at hl
      rw [← HDN.o] at h1 h2 ⊢
      have := same_calls ⟨dk, dtn, dcol, duid, dcard, dck, dcv, dops, dtok, dmost, dticks⟩ ⟨dk, dtn, dcol, duid, dcard, dck, dcv, dops, dtok, dmost, dticks⟩ A5 A6 c5 c6 W h1 h2 hl hl
      unfold reqV reqE at this
      simp only [decide_true] at this
      exact this)
    have HCV1 := hd (fun W (h : Below Y6.heap.size Y6 W) => conv_back (P := Tryz.prog) W 27 9 5 Tryz.underlying27 Tryz.underlying5 Tryz.underlying9 A3 m3 c3 EL HM3.o (K29.o.below h))
    have HCV2 := hd (fun W (h : Below Y6.heap.size Y6 W) => conv_back (P := Tryz.prog) W 27 9 5 Tryz.underlying27 Tryz.underlying5 Tryz.underlying9 A4 m4 c4 EL HM4.o (K30.o.below h))
    have HBC0 := hd ((Below.refl Y6.heap.size Y6).drew)
    have lx := xl
    have ly := yl
    have lz := zl
    have dx0 : Y6.drew.cell? ⟨w.heap.size, 0, none⟩ = some (.int .i64 k) := x0
    have dx1 : Y6.drew.cell? ⟨w.heap.size, 1, none⟩ = some (.string (bs tn)) := x1
    have dx2 : Y6.drew.cell? ⟨w.heap.size, 2, none⟩ = some (.string (bs col)) := x2
    have dx3 : Y6.drew.cell? ⟨w.heap.size, 3, none⟩ = some (.string (bs uid)) := x3
    have dx4 : Y6.drew.cell? ⟨w.heap.size, 4, none⟩ = some (.string (bs card)) := x4
    have dx5 : Y6.drew.cell? ⟨w.heap.size, 5, none⟩ = some (.int .i64 ck) := x5
    have dx6 : Y6.drew.cell? ⟨w.heap.size, 6, none⟩ = some (.int .i64 cv) := x6
    have dx7 : Y6.drew.cell? ⟨w.heap.size, 7, none⟩ = some (.slice A n c) := x7
    have dx8 : Y6.drew.cell? ⟨w.heap.size, 8, none⟩ = some (.int .i64 tok) := x8
    have dx9 : Y6.drew.cell? ⟨w.heap.size, 9, none⟩ = some (.int .i64 most) := x9
    have dx10 : Y6.drew.cell? ⟨w.heap.size, 10, none⟩ = some (.int .i64 ticks) := x10
    have dy0 : Y6.drew.cell? ⟨w5.heap.size, 0, none⟩ = some (.int .i64 dk) := y0
    have dy1 : Y6.drew.cell? ⟨w5.heap.size, 1, none⟩ = some (.string (bs dtn)) := y1
    have dy2 : Y6.drew.cell? ⟨w5.heap.size, 2, none⟩ = some (.string (bs dcol)) := y2
    have dy3 : Y6.drew.cell? ⟨w5.heap.size, 3, none⟩ = some (.string (bs duid)) := y3
    have dy4 : Y6.drew.cell? ⟨w5.heap.size, 4, none⟩ = some (.string (bs dcard)) := y4
    have dy5 : Y6.drew.cell? ⟨w5.heap.size, 5, none⟩ = some (.int .i64 dck) := y5
    have dy6 : Y6.drew.cell? ⟨w5.heap.size, 6, none⟩ = some (.int .i64 dcv) := y6
    have dy7 : Y6.drew.cell? ⟨w5.heap.size, 7, none⟩ = some (.slice A5 dn c5) := y7
    have dy8 : Y6.drew.cell? ⟨w5.heap.size, 8, none⟩ = some (.int .i64 dtok) := y8
    have dy9 : Y6.drew.cell? ⟨w5.heap.size, 9, none⟩ = some (.int .i64 dmost) := y9
    have dy10 : Y6.drew.cell? ⟨w5.heap.size, 10, none⟩ = some (.int .i64 dticks) := y10
    have dz0 : Y6.drew.cell? ⟨w6.heap.size, 0, none⟩ = some (.int .i64 dk) := z0
    have dz1 : Y6.drew.cell? ⟨w6.heap.size, 1, none⟩ = some (.string (bs dtn)) := z1
    have dz2 : Y6.drew.cell? ⟨w6.heap.size, 2, none⟩ = some (.string (bs dcol)) := z2
    have dz3 : Y6.drew.cell? ⟨w6.heap.size, 3, none⟩ = some (.string (bs duid)) := z3
    have dz4 : Y6.drew.cell? ⟨w6.heap.size, 4, none⟩ = some (.string (bs dcard)) := z4
    have dz5 : Y6.drew.cell? ⟨w6.heap.size, 5, none⟩ = some (.int .i64 dck) := z5
    have dz6 : Y6.drew.cell? ⟨w6.heap.size, 6, none⟩ = some (.int .i64 dcv) := z6
    have dz7 : Y6.drew.cell? ⟨w6.heap.size, 7, none⟩ = some (.slice A6 dn c6) := z7
    have dz8 : Y6.drew.cell? ⟨w6.heap.size, 8, none⟩ = some (.int .i64 dtok) := z8
    have dz9 : Y6.drew.cell? ⟨w6.heap.size, 9, none⟩ = some (.int .i64 dmost) := z9
    have dz10 : Y6.drew.cell? ⟨w6.heap.size, 10, none⟩ = some (.int .i64 dticks) := z10
    have dcv1 := HCV1.o Y6.drew HBC0.o
    have dcv2 := HCV2.o Y6.drew HBC0.o
    go_region_held3 (fun w' => w'.cell? ⟨w.heap.size, 0, none⟩ = some (.int .i64 k) ∧ w'.cell? ⟨w.heap.size, 1, none⟩ = some (.string (bs tn)) ∧ w'.cell? ⟨w.heap.size, 2, none⟩ = some (.string (bs col)) ∧ w'.cell? ⟨w.heap.size, 3, none⟩ = some (.string (bs uid)) ∧ w'.cell? ⟨w.heap.size, 4, none⟩ = some (.string (bs card)) ∧ w'.cell? ⟨w.heap.size, 5, none⟩ = some (.int .i64 ck) ∧ w'.cell? ⟨w.heap.size, 6, none⟩ = some (.int .i64 cv) ∧ w'.cell? ⟨w.heap.size, 7, none⟩ = some (.slice A n c) ∧ w'.cell? ⟨w.heap.size, 8, none⟩ = some (.int .i64 tok) ∧ w'.cell? ⟨w.heap.size, 9, none⟩ = some (.int .i64 most) ∧ w'.cell? ⟨w.heap.size, 10, none⟩ = some (.int .i64 ticks) ∧ w'.cell? ⟨w5.heap.size, 0, none⟩ = some (.int .i64 dk) ∧ w'.cell? ⟨w5.heap.size, 1, none⟩ = some (.string (bs dtn)) ∧ w'.cell? ⟨w5.heap.size, 2, none⟩ = some (.string (bs dcol)) ∧ w'.cell? ⟨w5.heap.size, 3, none⟩ = some (.string (bs duid)) ∧ w'.cell? ⟨w5.heap.size, 4, none⟩ = some (.string (bs dcard)) ∧ w'.cell? ⟨w5.heap.size, 5, none⟩ = some (.int .i64 dck) ∧ w'.cell? ⟨w5.heap.size, 6, none⟩ = some (.int .i64 dcv) ∧ w'.cell? ⟨w5.heap.size, 7, none⟩ = some (.slice A5 dn c5) ∧ w'.cell? ⟨w5.heap.size, 8, none⟩ = some (.int .i64 dtok) ∧ w'.cell? ⟨w5.heap.size, 9, none⟩ = some (.int .i64 dmost) ∧ w'.cell? ⟨w5.heap.size, 10, none⟩ = some (.int .i64 dticks) ∧ w'.cell? ⟨w6.heap.size, 0, none⟩ = some (.int .i64 dk) ∧ w'.cell? ⟨w6.heap.size, 1, none⟩ = some (.string (bs dtn)) ∧ w'.cell? ⟨w6.heap.size, 2, none⟩ = some (.string (bs dcol)) ∧ w'.cell? ⟨w6.heap.size, 3, none⟩ = some (.string (bs duid)) ∧ w'.cell? ⟨w6.heap.size, 4, none⟩ = some (.string (bs dcard)) ∧ w'.cell? ⟨w6.heap.size, 5, none⟩ = some (.int .i64 dck) ∧ w'.cell? ⟨w6.heap.size, 6, none⟩ = some (.int .i64 dcv) ∧ w'.cell? ⟨w6.heap.size, 7, none⟩ = some (.slice A6 dn c6) ∧ w'.cell? ⟨w6.heap.size, 8, none⟩ = some (.int .i64 dtok) ∧ w'.cell? ⟨w6.heap.size, 9, none⟩ = some (.int .i64 dmost) ∧ w'.cell? ⟨w6.heap.size, 10, none⟩ = some (.int .i64 dticks) ∧ (convert 27 9 (.slice A3 m3 c3)).run Tryz.prog w' = .ok (.string (bs EL)) w' ∧ (convert 27 9 (.slice A4 m4 c4)).run Tryz.prog w' = .ok (.string (bs EL)) w') (first | (with_reducible exact ⟨dx0, dx1, dx2, dx3, dx4, dx5, dx6, dx7, dx8, dx9, dx10, dy0, dy1, dy2, dy3, dy4, dy5, dy6, dy7, dy8, dy9, dy10, dz0, dz1, dz2, dz3, dz4, dz5, dz6, dz7, dz8, dz9, dz10, dcv1, dcv2⟩) | (with_reducible exact ⟨kx0, kx1, kx2, kx3, kx4, kx5, kx6, kx7, kx8, kx9, kx10, ky0, ky1, ky2, ky3, ky4, ky5, ky6, ky7, ky8, ky9, ky10, kz0, kz1, kz2, kz3, kz4, kz5, kz6, kz7, kz8, kz9, kz10, kcv1, kcv2⟩)) (first
      | (go_at_call 19; (with_reducible refine (C4.o (by first | rfl | trivial) Y6.drew (HBW.o.trans (HBC0.o.mono HBW.o.size))).mono ?_); rintro e wa ⟨rfl, hba⟩; have jx0 := (hba.cell (p := ⟨w.heap.size, 0, none⟩) lx).trans dx0; have jx1 := (hba.cell (p := ⟨w.heap.size, 1, none⟩) lx).trans dx1; have jx2 := (hba.cell (p := ⟨w.heap.size, 2, none⟩) lx).trans dx2; have jx3 := (hba.cell (p := ⟨w.heap.size, 3, none⟩) lx).trans dx3; have jx4 := (hba.cell (p := ⟨w.heap.size, 4, none⟩) lx).trans dx4; have jx5 := (hba.cell (p := ⟨w.heap.size, 5, none⟩) lx).trans dx5; have jx6 := (hba.cell (p := ⟨w.heap.size, 6, none⟩) lx).trans dx6; have jx7 := (hba.cell (p := ⟨w.heap.size, 7, none⟩) lx).trans dx7; have jx8 := (hba.cell (p := ⟨w.heap.size, 8, none⟩) lx).trans dx8; have jx9 := (hba.cell (p := ⟨w.heap.size, 9, none⟩) lx).trans dx9; have jx10 := (hba.cell (p := ⟨w.heap.size, 10, none⟩) lx).trans dx10; have jy0 := (hba.cell (p := ⟨w5.heap.size, 0, none⟩) ly).trans dy0; have jy1 := (hba.cell (p := ⟨w5.heap.size, 1, none⟩) ly).trans dy1; have jy2 := (hba.cell (p := ⟨w5.heap.size, 2, none⟩) ly).trans dy2; have jy3 := (hba.cell (p := ⟨w5.heap.size, 3, none⟩) ly).trans dy3; have jy4 := (hba.cell (p := ⟨w5.heap.size, 4, none⟩) ly).trans dy4; have jy5 := (hba.cell (p := ⟨w5.heap.size, 5, none⟩) ly).trans dy5; have jy6 := (hba.cell (p := ⟨w5.heap.size, 6, none⟩) ly).trans dy6; have jy7 := (hba.cell (p := ⟨w5.heap.size, 7, none⟩) ly).trans dy7; have jy8 := (hba.cell (p := ⟨w5.heap.size, 8, none⟩) ly).trans dy8; have jy9 := (hba.cell (p := ⟨w5.heap.size, 9, none⟩) ly).trans dy9; have jy10 := (hba.cell (p := ⟨w5.heap.size, 10, none⟩) ly).trans dy10; have jz0 := (hba.cell (p := ⟨w6.heap.size, 0, none⟩) lz).trans dz0; have jz1 := (hba.cell (p := ⟨w6.heap.size, 1, none⟩) lz).trans dz1; have jz2 := (hba.cell (p := ⟨w6.heap.size, 2, none⟩) lz).trans dz2; have jz3 := (hba.cell (p := ⟨w6.heap.size, 3, none⟩) lz).trans dz3; have jz4 := (hba.cell (p := ⟨w6.heap.size, 4, none⟩) lz).trans dz4; have jz5 := (hba.cell (p := ⟨w6.heap.size, 5, none⟩) lz).trans dz5; have jz6 := (hba.cell (p := ⟨w6.heap.size, 6, none⟩) lz).trans dz6; have jz7 := (hba.cell (p := ⟨w6.heap.size, 7, none⟩) lz).trans dz7; have jz8 := (hba.cell (p := ⟨w6.heap.size, 8, none⟩) lz).trans dz8; have jz9 := (hba.cell (p := ⟨w6.heap.size, 9, none⟩) lz).trans dz9; have jz10 := (hba.cell (p := ⟨w6.heap.size, 10, none⟩) lz).trans dz10; have kx0 := jx0; have kx1 := jx1; have kx2 := jx2; have kx3 := jx3; have kx4 := jx4; have kx5 := jx5; have kx6 := jx6; have kx7 := jx7; have kx8 := jx8; have kx9 := jx9; have kx10 := jx10; have ky0 := jy0; have ky1 := jy1; have ky2 := jy2; have ky3 := jy3; have ky4 := jy4; have ky5 := jy5; have ky6 := jy6; have ky7 := jy7; have ky8 := jy8; have ky9 := jy9; have ky10 := jy10; have kz0 := jz0; have kz1 := jz1; have kz2 := jz2; have kz3 := jz3; have kz4 := jz4; have kz5 := jz5; have kz6 := jz6; have kz7 := jz7; have kz8 := jz8; have kz9 := jz9; have kz10 := jz10; clear jx0 jx1 jx2 jx3 jx4 jx5 jx6 jx7 jx8 jx9 jx10 jy0 jy1 jy2 jy3 jy4 jy5 jy6 jy7 jy8 jy9 jy10 jz0 jz1 jz2 jz3 jz4 jz5 jz6 jz7 jz8 jz9 jz10; have walx := Nat.lt_of_lt_of_le lx hba.size; have waly := Nat.lt_of_lt_of_le ly hba.size; have walz := Nat.lt_of_lt_of_le lz hba.size; have HBA := hd (show Below Y6.heap.size Y6 wa from undr hba); have kcv1 := HCV1.o wa HBA.o; have kcv2 := HCV2.o wa HBA.o; clear hba)
      | (go_at_call 20; (with_reducible refine (C4r.o (by first | rfl | trivial) _ (HBW.o.trans (HBA.o.mono HBW.o.size))).mono ?_); rintro e wb_ ⟨rfl, hbb⟩; have jx0 := (hbb.cell (p := ⟨w.heap.size, 0, none⟩) walx).trans kx0; have jx1 := (hbb.cell (p := ⟨w.heap.size, 1, none⟩) walx).trans kx1; have jx2 := (hbb.cell (p := ⟨w.heap.size, 2, none⟩) walx).trans kx2; have jx3 := (hbb.cell (p := ⟨w.heap.size, 3, none⟩) walx).trans kx3; have jx4 := (hbb.cell (p := ⟨w.heap.size, 4, none⟩) walx).trans kx4; have jx5 := (hbb.cell (p := ⟨w.heap.size, 5, none⟩) walx).trans kx5; have jx6 := (hbb.cell (p := ⟨w.heap.size, 6, none⟩) walx).trans kx6; have jx7 := (hbb.cell (p := ⟨w.heap.size, 7, none⟩) walx).trans kx7; have jx8 := (hbb.cell (p := ⟨w.heap.size, 8, none⟩) walx).trans kx8; have jx9 := (hbb.cell (p := ⟨w.heap.size, 9, none⟩) walx).trans kx9; have jx10 := (hbb.cell (p := ⟨w.heap.size, 10, none⟩) walx).trans kx10; have jy0 := (hbb.cell (p := ⟨w5.heap.size, 0, none⟩) waly).trans ky0; have jy1 := (hbb.cell (p := ⟨w5.heap.size, 1, none⟩) waly).trans ky1; have jy2 := (hbb.cell (p := ⟨w5.heap.size, 2, none⟩) waly).trans ky2; have jy3 := (hbb.cell (p := ⟨w5.heap.size, 3, none⟩) waly).trans ky3; have jy4 := (hbb.cell (p := ⟨w5.heap.size, 4, none⟩) waly).trans ky4; have jy5 := (hbb.cell (p := ⟨w5.heap.size, 5, none⟩) waly).trans ky5; have jy6 := (hbb.cell (p := ⟨w5.heap.size, 6, none⟩) waly).trans ky6; have jy7 := (hbb.cell (p := ⟨w5.heap.size, 7, none⟩) waly).trans ky7; have jy8 := (hbb.cell (p := ⟨w5.heap.size, 8, none⟩) waly).trans ky8; have jy9 := (hbb.cell (p := ⟨w5.heap.size, 9, none⟩) waly).trans ky9; have jy10 := (hbb.cell (p := ⟨w5.heap.size, 10, none⟩) waly).trans ky10; have jz0 := (hbb.cell (p := ⟨w6.heap.size, 0, none⟩) walz).trans kz0; have jz1 := (hbb.cell (p := ⟨w6.heap.size, 1, none⟩) walz).trans kz1; have jz2 := (hbb.cell (p := ⟨w6.heap.size, 2, none⟩) walz).trans kz2; have jz3 := (hbb.cell (p := ⟨w6.heap.size, 3, none⟩) walz).trans kz3; have jz4 := (hbb.cell (p := ⟨w6.heap.size, 4, none⟩) walz).trans kz4; have jz5 := (hbb.cell (p := ⟨w6.heap.size, 5, none⟩) walz).trans kz5; have jz6 := (hbb.cell (p := ⟨w6.heap.size, 6, none⟩) walz).trans kz6; have jz7 := (hbb.cell (p := ⟨w6.heap.size, 7, none⟩) walz).trans kz7; have jz8 := (hbb.cell (p := ⟨w6.heap.size, 8, none⟩) walz).trans kz8; have jz9 := (hbb.cell (p := ⟨w6.heap.size, 9, none⟩) walz).trans kz9; have jz10 := (hbb.cell (p := ⟨w6.heap.size, 10, none⟩) walz).trans kz10; clear kx0 kx1 kx2 kx3 kx4 kx5 kx6 kx7 kx8 kx9 kx10 ky0 ky1 ky2 ky3 ky4 ky5 ky6 ky7 ky8 ky9 ky10 kz0 kz1 kz2 kz3 kz4 kz5 kz6 kz7 kz8 kz9 kz10; have kx0 := jx0; have kx1 := jx1; have kx2 := jx2; have kx3 := jx3; have kx4 := jx4; have kx5 := jx5; have kx6 := jx6; have kx7 := jx7; have kx8 := jx8; have kx9 := jx9; have kx10 := jx10; have ky0 := jy0; have ky1 := jy1; have ky2 := jy2; have ky3 := jy3; have ky4 := jy4; have ky5 := jy5; have ky6 := jy6; have ky7 := jy7; have ky8 := jy8; have ky9 := jy9; have ky10 := jy10; have kz0 := jz0; have kz1 := jz1; have kz2 := jz2; have kz3 := jz3; have kz4 := jz4; have kz5 := jz5; have kz6 := jz6; have kz7 := jz7; have kz8 := jz8; have kz9 := jz9; have kz10 := jz10; clear jx0 jx1 jx2 jx3 jx4 jx5 jx6 jx7 jx8 jx9 jx10 jy0 jy1 jy2 jy3 jy4 jy5 jy6 jy7 jy8 jy9 jy10 jz0 jz1 jz2 jz3 jz4 jz5 jz6 jz7 jz8 jz9 jz10; have wb_lx := Nat.lt_of_lt_of_le walx hbb.size; have wb_ly := Nat.lt_of_lt_of_le waly hbb.size; have wb_lz := Nat.lt_of_lt_of_le walz hbb.size; have HBB := hd (HBA.o.trans (hbb.mono HBA.o.size)); clear kcv1 kcv2; have kcv1 := HCV1.o wb_ HBB.o; have kcv2 := HCV2.o wb_ HBB.o; clear hbb)
      | (go_at_call 21; (with_reducible refine (CS.o _ HBB.o).mono ?_); rintro e wc_ ⟨rfl, hbc⟩; have jx0 := (hbc.cell (p := ⟨w.heap.size, 0, none⟩) wb_lx).trans kx0; have jx1 := (hbc.cell (p := ⟨w.heap.size, 1, none⟩) wb_lx).trans kx1; have jx2 := (hbc.cell (p := ⟨w.heap.size, 2, none⟩) wb_lx).trans kx2; have jx3 := (hbc.cell (p := ⟨w.heap.size, 3, none⟩) wb_lx).trans kx3; have jx4 := (hbc.cell (p := ⟨w.heap.size, 4, none⟩) wb_lx).trans kx4; have jx5 := (hbc.cell (p := ⟨w.heap.size, 5, none⟩) wb_lx).trans kx5; have jx6 := (hbc.cell (p := ⟨w.heap.size, 6, none⟩) wb_lx).trans kx6; have jx7 := (hbc.cell (p := ⟨w.heap.size, 7, none⟩) wb_lx).trans kx7; have jx8 := (hbc.cell (p := ⟨w.heap.size, 8, none⟩) wb_lx).trans kx8; have jx9 := (hbc.cell (p := ⟨w.heap.size, 9, none⟩) wb_lx).trans kx9; have jx10 := (hbc.cell (p := ⟨w.heap.size, 10, none⟩) wb_lx).trans kx10; have jy0 := (hbc.cell (p := ⟨w5.heap.size, 0, none⟩) wb_ly).trans ky0; have jy1 := (hbc.cell (p := ⟨w5.heap.size, 1, none⟩) wb_ly).trans ky1; have jy2 := (hbc.cell (p := ⟨w5.heap.size, 2, none⟩) wb_ly).trans ky2; have jy3 := (hbc.cell (p := ⟨w5.heap.size, 3, none⟩) wb_ly).trans ky3; have jy4 := (hbc.cell (p := ⟨w5.heap.size, 4, none⟩) wb_ly).trans ky4; have jy5 := (hbc.cell (p := ⟨w5.heap.size, 5, none⟩) wb_ly).trans ky5; have jy6 := (hbc.cell (p := ⟨w5.heap.size, 6, none⟩) wb_ly).trans ky6; have jy7 := (hbc.cell (p := ⟨w5.heap.size, 7, none⟩) wb_ly).trans ky7; have jy8 := (hbc.cell (p := ⟨w5.heap.size, 8, none⟩) wb_ly).trans ky8; have jy9 := (hbc.cell (p := ⟨w5.heap.size, 9, none⟩) wb_ly).trans ky9; have jy10 := (hbc.cell (p := ⟨w5.heap.size, 10, none⟩) wb_ly).trans ky10; have jz0 := (hbc.cell (p := ⟨w6.heap.size, 0, none⟩) wb_lz).trans kz0; have jz1 := (hbc.cell (p := ⟨w6.heap.size, 1, none⟩) wb_lz).trans kz1; have jz2 := (hbc.cell (p := ⟨w6.heap.size, 2, none⟩) wb_lz).trans kz2; have jz3 := (hbc.cell (p := ⟨w6.heap.size, 3, none⟩) wb_lz).trans kz3; have jz4 := (hbc.cell (p := ⟨w6.heap.size, 4, none⟩) wb_lz).trans kz4; have jz5 := (hbc.cell (p := ⟨w6.heap.size, 5, none⟩) wb_lz).trans kz5; have jz6 := (hbc.cell (p := ⟨w6.heap.size, 6, none⟩) wb_lz).trans kz6; have jz7 := (hbc.cell (p := ⟨w6.heap.size, 7, none⟩) wb_lz).trans kz7; have jz8 := (hbc.cell (p := ⟨w6.heap.size, 8, none⟩) wb_lz).trans kz8; have jz9 := (hbc.cell (p := ⟨w6.heap.size, 9, none⟩) wb_lz).trans kz9; have jz10 := (hbc.cell (p := ⟨w6.heap.size, 10, none⟩) wb_lz).trans kz10; clear kx0 kx1 kx2 kx3 kx4 kx5 kx6 kx7 kx8 kx9 kx10 ky0 ky1 ky2 ky3 ky4 ky5 ky6 ky7 ky8 ky9 ky10 kz0 kz1 kz2 kz3 kz4 kz5 kz6 kz7 kz8 kz9 kz10; have kx0 := jx0; have kx1 := jx1; have kx2 := jx2; have kx3 := jx3; have kx4 := jx4; have kx5 := jx5; have kx6 := jx6; have kx7 := jx7; have kx8 := jx8; have kx9 := jx9; have kx10 := jx10; have ky0 := jy0; have ky1 := jy1; have ky2 := jy2; have ky3 := jy3; have ky4 := jy4; have ky5 := jy5; have ky6 := jy6; have ky7 := jy7; have ky8 := jy8; have ky9 := jy9; have ky10 := jy10; have kz0 := jz0; have kz1 := jz1; have kz2 := jz2; have kz3 := jz3; have kz4 := jz4; have kz5 := jz5; have kz6 := jz6; have kz7 := jz7; have kz8 := jz8; have kz9 := jz9; have kz10 := jz10; clear jx0 jx1 jx2 jx3 jx4 jx5 jx6 jx7 jx8 jx9 jx10 jy0 jy1 jy2 jy3 jy4 jy5 jy6 jy7 jy8 jy9 jy10 jz0 jz1 jz2 jz3 jz4 jz5 jz6 jz7 jz8 jz9 jz10; have wc_lx := Nat.lt_of_lt_of_le wb_lx hbc.size; have wc_ly := Nat.lt_of_lt_of_le wb_ly hbc.size; have wc_lz := Nat.lt_of_lt_of_le wb_lz hbc.size; have HBCc := hd (HBB.o.trans (hbc.mono HBB.o.size)); clear hbc kcv1 kcv2; have kcv1 := HCV1.o wc_ HBCc.o; have kcv2 := HCV2.o wc_ HBCc.o)
      | (go_at_call 22; (with_reducible refine (CW.o _).mono ?_); rintro e w' ⟨rfl, rfl⟩)
      | (go_at_call 23; (with_reducible refine (CWr.o _).mono ?_); rintro e w' ⟨rfl, rfl⟩))
    go_wp2
    go_ret
    exact ⟨rfl, HBW.o.trans (HBCc.o.mono HBW.o.size)⟩

end Go.Proofs.YtogjokofmfpmgaaGreatDoor
