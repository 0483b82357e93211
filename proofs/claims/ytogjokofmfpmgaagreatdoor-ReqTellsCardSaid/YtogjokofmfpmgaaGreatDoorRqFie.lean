/-
  henlaw12.ReqFields.
-/
import Derived.Test.YtogjokofmfpmgaaGreatDoorGAQ
import Derived.Laws.BitsLemmas
set_option linter.unusedVariables false
set_option linter.unusedSimpArgs false
namespace Go.Proofs.YtogjokofmfpmgaaGreatDoor
open Go.RowKit

theorem and255f (x : Int) : 0 ≤ bits .and .i64 x 255 ∧ bits .and .i64 x 255 ≤ 255 := by
  have key : (BitVec.ofInt 64 x &&& BitVec.ofInt 64 255).toNat ≤ 255 := by
    rw [BitVec.toNat_and]
    exact Nat.le_trans Nat.and_le_right (by decide)
  show 0 ≤ IntKind.i64.wrap ((BitVec.ofInt 64 x &&& BitVec.ofInt 64 255).toNat : Nat) ∧ IntKind.i64.wrap ((BitVec.ofInt 64 x &&& BitVec.ofInt 64 255).toNat : Nat) ≤ 255
  rw [IntKind.wrap_i64]
  omega
theorem light_s {q : Rq} (h : lightQ q = true) : RqS q := by
  obtain ⟨h1, h2, h3, h4, h5, h6⟩ := light_le h
  exact ⟨by omega, by omega, by omega, by omega, by omega, fun o ho => by have := h6 o ho; omega⟩

set_option maxRecDepth 100000 in
set_option maxHeartbeats 16000000 in
theorem rfields_law (q : Rq) (A : Option Addr) (c : Nat) (which : Int) (w : World) (ht : Tbs w) (hq : RqOk w q A) (hc : q.ops.length ≤ c) (hw : -9223372036854775808 ≤ which ∧ which ≤ 9223372036854775807) :
    Calls Tryz.prog 6 #[reqV q A c, .int .i64 which] w fun e w' => e = .returned (.bool true) ∧ Below w.heap.size w w' := by
  obtain ⟨k, tn, col, uid, card, ck, cv, ops, tok, most, ticks⟩ := q
  have C1 := fun W (h : Below w.heap.size w W) => first_calls W (ht.below h)
  have C2 := fun W (h : Below w.heap.size w W) => light_calls W ⟨k, tn, col, uid, card, ck, cv, ops, tok, most, ticks⟩ A c (hq.below h)
  obtain ⟨LB, hLB⟩ : ∃ LB, lightQ ⟨k, tn, col, uid, card, ck, cv, ops, tok, most, ticks⟩ = LB := ⟨_, rfl⟩
  simp only [hLB] at C2
  have HCK := hd (fun (hl : LB = true) (p : Rq) (hp : p.ops = ops) (hps : RqS p) W (h : Below w.heap.size w W) => check_calls p A c W (ht.below h) (by rw [hp]; exact (hq.below h).rds) hps)
  have HSZ := hd (fun (hl : LB = true) => light_s (hLB.trans hl))
  have C3 := fun (hl : LB = true) W (h : Below w.heap.size w W) => HCK.o hl ⟨k, tn, col, uid, card, ck, cv, ops, tok, most, ticks⟩ rfl (HSZ.o hl) W h
  obtain ⟨KK, hK⟩ : ∃ KK, chk ⟨k, tn, col, uid, card, ck, cv, ops, tok, most, ticks⟩ = KK := ⟨_, rfl⟩
  simp only [hK] at C3
  have HK0 := hd hK
  have HQ := hd hq
  obtain ⟨x, hx⟩ : ∃ x, bits .and .i64 which 255 = x := ⟨_, rfl⟩
  have hx0 : 0 ≤ x ∧ x ≤ 255 := by rw [← hx]; exact and255f which
  have hx1 := hx0.1
  have hx2 := hx0.2
  have HXX := hd hx
  unfold reqV reqE at *
  simp only at C1 C2 C3 HCK ⊢
  obtain ⟨n, hn⟩ : ∃ n, ops.length = n := ⟨_, rfl⟩
  have HN := hd hn
  rw [hn] at C2 C3 ⊢
  replace C1 := hd C1
  replace C2 := hd C2
  replace C3 := hd C3
  clear ht hq hc hw hLB hK hx0 hx hn
  go_enter Tryz.func6, Tryz.ntmps6
  obtain ⟨X, hX⟩ : ∃ X, X = w.alloc (.cells #[.int .i64 k, .string (bs tn), .string (bs col), .string (bs uid), .string (bs card), .int .i64 ck, .int .i64 cv, .slice A n c, .int .i64 tok, .int .i64 most, .int .i64 ticks] 26) := ⟨_, rfl⟩
  have KN1 : Blk X w.heap.size 26 #[.int .i64 k, .string (bs tn), .string (bs col), .string (bs uid), .string (bs card), .int .i64 ck, .int .i64 cv, .slice A n c, .int .i64 tok, .int .i64 most, .int .i64 ticks] := by rw [hX]; exact Blk.new _ _ _
  replace KN1 := hd KN1
  have HB2 := (Below.refl w.heap.size w).alloc (Below.refl w.heap.size w).size (.cells #[.int .i64 k, .string (bs tn), .string (bs col), .string (bs uid), .string (bs card), .int .i64 ck, .int .i64 cv, .slice A n c, .int .i64 tok, .int .i64 most, .int .i64 ticks] 26)
  rw [← hX] at HB2
  replace HB2 := hd HB2
  have HW_X := hd hX
  clear hX
  go_upto_region 1 with (fail)
  rw [← HW_X.o]
  have x0 := KN1.o.at_ 0 rfl
  have x1 := KN1.o.at_ 1 rfl
  have x2 := KN1.o.at_ 2 rfl
  have x3 := KN1.o.at_ 3 rfl
  have x4 := KN1.o.at_ 4 rfl
  have x5 := KN1.o.at_ 5 rfl
  have x6 := KN1.o.at_ 6 rfl
  have x7 := KN1.o.at_ 7 rfl
  have x8 := KN1.o.at_ 8 rfl
  have x9 := KN1.o.at_ 9 rfl
  have x10 := KN1.o.at_ 10 rfl
  have xl := KN1.o.lt
  go_wp2_with fail
  refine (C1.o _ HB2.o).mono ?_
  rintro e w1 ⟨rfl, hb1⟩
  clear x0 x1 x2 x3 x4 x5 x6 x7 x8 x9 x10 xl
  have Kx3 := hd (KN1.o.below hb1 KN1.o.lt)
  have HB4 := hd (HB2.o.trans (hb1.mono HB2.o.size))
  clear hb1
  have x0 := Kx3.o.at_ 0 rfl
  have x1 := Kx3.o.at_ 1 rfl
  have x2 := Kx3.o.at_ 2 rfl
  have x3 := Kx3.o.at_ 3 rfl
  have x4 := Kx3.o.at_ 4 rfl
  have x5 := Kx3.o.at_ 5 rfl
  have x6 := Kx3.o.at_ 6 rfl
  have x7 := Kx3.o.at_ 7 rfl
  have x8 := Kx3.o.at_ 8 rfl
  have x9 := Kx3.o.at_ 9 rfl
  have x10 := Kx3.o.at_ 10 rfl
  have xl := Kx3.o.lt
  go_wp2_with fail
  refine (C2.o _ HB4.o).mono ?_
  rintro e w2 ⟨rfl, hb2⟩
  clear x0 x1 x2 x3 x4 x5 x6 x7 x8 x9 x10 xl
  have Kx5 := hd (Kx3.o.below hb2 Kx3.o.lt)
  have HB6 := hd (HB4.o.trans (hb2.mono HB4.o.size))
  clear hb2
  have x0 := Kx5.o.at_ 0 rfl
  have x1 := Kx5.o.at_ 1 rfl
  have x2 := Kx5.o.at_ 2 rfl
  have x3 := Kx5.o.at_ 3 rfl
  have x4 := Kx5.o.at_ 4 rfl
  have x5 := Kx5.o.at_ 5 rfl
  have x6 := Kx5.o.at_ 6 rfl
  have x7 := Kx5.o.at_ 7 rfl
  have x8 := Kx5.o.at_ 8 rfl
  have x9 := Kx5.o.at_ 9 rfl
  have x10 := Kx5.o.at_ 10 rfl
  have xl := Kx5.o.lt
  cases LB with
  | false =>
    go_wp2_with fail
    refine (C1.o _ HB6.o).mono ?_
    rintro e w9 ⟨rfl, hb9⟩
    clear x0 x1 x2 x3 x4 x5 x6 x7 x8 x9 x10 xl
    have Kx7 := hd (Kx5.o.below hb9 Kx5.o.lt)
    have HB8 := hd (HB6.o.trans (hb9.mono HB6.o.size))
    clear hb9
    have x0 := Kx7.o.at_ 0 rfl
    have x1 := Kx7.o.at_ 1 rfl
    have x2 := Kx7.o.at_ 2 rfl
    have x3 := Kx7.o.at_ 3 rfl
    have x4 := Kx7.o.at_ 4 rfl
    have x5 := Kx7.o.at_ 5 rfl
    have x6 := Kx7.o.at_ 6 rfl
    have x7 := Kx7.o.at_ 7 rfl
    have x8 := Kx7.o.at_ 8 rfl
    have x9 := Kx7.o.at_ 9 rfl
    have x10 := Kx7.o.at_ 10 rfl
    have xl := Kx7.o.lt
    go_wp2
    go_ret
    exact ⟨rfl, HB8.o⟩
  | true =>
    go_wp2_with fail
    refine (C3.o (by first | rfl | trivial) _ HB6.o).mono ?_
    rintro e w3 ⟨rfl, hb3⟩
    clear x0 x1 x2 x3 x4 x5 x6 x7 x8 x9 x10 xl
    have Kx7 := hd (Kx5.o.below hb3 Kx5.o.lt)
    have HB8 := hd (HB6.o.trans (hb3.mono HB6.o.size))
    clear hb3
    have x0 := Kx7.o.at_ 0 rfl
    have x1 := Kx7.o.at_ 1 rfl
    have x2 := Kx7.o.at_ 2 rfl
    have x3 := Kx7.o.at_ 3 rfl
    have x4 := Kx7.o.at_ 4 rfl
    have x5 := Kx7.o.at_ 5 rfl
    have x6 := Kx7.o.at_ 6 rfl
    have x7 := Kx7.o.at_ 7 rfl
    have x8 := Kx7.o.at_ 8 rfl
    have x9 := Kx7.o.at_ 9 rfl
    have x10 := Kx7.o.at_ 10 rfl
    have xl := Kx7.o.lt
    by_cases hk0 : KK = 0
    case neg =>
      have hkb : (KK != 0) = true := by simpa using hk0
      clear hk0
      go_wp2_with fail
      refine (C1.o _ HB8.o).mono ?_
      rintro e w9 ⟨rfl, hb9⟩
      clear x0 x1 x2 x3 x4 x5 x6 x7 x8 x9 x10 xl
      have Kx9 := hd (Kx7.o.below hb9 Kx7.o.lt)
      have HB10 := hd (HB8.o.trans (hb9.mono HB8.o.size))
      clear hb9
      have x0 := Kx9.o.at_ 0 rfl
      have x1 := Kx9.o.at_ 1 rfl
      have x2 := Kx9.o.at_ 2 rfl
      have x3 := Kx9.o.at_ 3 rfl
      have x4 := Kx9.o.at_ 4 rfl
      have x5 := Kx9.o.at_ 5 rfl
      have x6 := Kx9.o.at_ 6 rfl
      have x7 := Kx9.o.at_ 7 rfl
      have x8 := Kx9.o.at_ 8 rfl
      have x9 := Kx9.o.at_ 9 rfl
      have x10 := Kx9.o.at_ 10 rfl
      have xl := Kx9.o.lt
      go_wp2
      go_ret
      exact ⟨rfl, HB10.o⟩
    case pos =>
    subst hk0
    have hkb : ((0 : Int) != 0) = false := by decide
    have hm4 : x % 4 = 0 ∨ x % 4 = 1 ∨ x % 4 = 2 ∨ x % 4 = 3 := by omega
    obtain ⟨Y, hY⟩ : ∃ Y, Y = w3.alloc (.cells #[.int .i64 k, .string (bs tn), .string (bs col), .string (bs uid), .string (bs card), .int .i64 ck, .int .i64 cv, .slice A n c, .int .i64 tok, .int .i64 most, .int .i64 ticks] 26) := ⟨_, rfl⟩
    have Kx9 := Kx7.o.alloc (.cells #[.int .i64 k, .string (bs tn), .string (bs col), .string (bs uid), .string (bs card), .int .i64 ck, .int .i64 cv, .slice A n c, .int .i64 tok, .int .i64 most, .int .i64 ticks] 26)
    rw [← hY] at Kx9
    replace Kx9 := hd Kx9
    have KN10 : Blk Y w3.heap.size 26 #[.int .i64 k, .string (bs tn), .string (bs col), .string (bs uid), .string (bs card), .int .i64 ck, .int .i64 cv, .slice A n c, .int .i64 tok, .int .i64 most, .int .i64 ticks] := by rw [hY]; exact Blk.new _ _ _
    replace KN10 := hd KN10
    have HB11 := HB8.o.alloc HB8.o.size (.cells #[.int .i64 k, .string (bs tn), .string (bs col), .string (bs uid), .string (bs card), .int .i64 ck, .int .i64 cv, .slice A n c, .int .i64 tok, .int .i64 most, .int .i64 ticks] 26)
    rw [← hY] at HB11
    replace HB11 := hd HB11
    have HW_Y := hd hY
    clear hY
    go_upto_region 6 with (fail)
    rw [← HW_Y.o]
    clear x0 x1 x2 x3 x4 x5 x6 x7 x8 x9 x10 xl
    obtain ⟨G, hG⟩ : ∃ G, w3.heap.size = G := ⟨_, rfl⟩
    rw [hG] at KN10
    (try rw [hG])
    have HGb : w.heap.size ≤ G := by rw [← hG]; exact HB8.o.size
    clear hG
    have x0 := Kx9.o.at_ 0 rfl
    have x1 := Kx9.o.at_ 1 rfl
    have x2 := Kx9.o.at_ 2 rfl
    have x3 := Kx9.o.at_ 3 rfl
    have x4 := Kx9.o.at_ 4 rfl
    have x5 := Kx9.o.at_ 5 rfl
    have x6 := Kx9.o.at_ 6 rfl
    have x7 := Kx9.o.at_ 7 rfl
    have x8 := Kx9.o.at_ 8 rfl
    have x9 := Kx9.o.at_ 9 rfl
    have x10 := Kx9.o.at_ 10 rfl
    have xl := Kx9.o.lt
    have y0 := KN10.o.at_ 0 rfl
    have yf0 := KN10.o.frozen 0
    have y1 := KN10.o.at_ 1 rfl
    have yf1 := KN10.o.frozen 1
    have y2 := KN10.o.at_ 2 rfl
    have yf2 := KN10.o.frozen 2
    have y3 := KN10.o.at_ 3 rfl
    have yf3 := KN10.o.frozen 3
    have y4 := KN10.o.at_ 4 rfl
    have yf4 := KN10.o.frozen 4
    have y5 := KN10.o.at_ 5 rfl
    have yf5 := KN10.o.frozen 5
    have y6 := KN10.o.at_ 6 rfl
    have yf6 := KN10.o.frozen 6
    have y7 := KN10.o.at_ 7 rfl
    have yf7 := KN10.o.frozen 7
    have y8 := KN10.o.at_ 8 rfl
    have yf8 := KN10.o.frozen 8
    have y9 := KN10.o.at_ 9 rfl
    have yf9 := KN10.o.frozen 9
    have y10 := KN10.o.at_ 10 rfl
    have yf10 := KN10.o.frozen 10
    have yl := KN10.o.lt
    have hxx := HXX.o
    rcases hm4 with hm4 | hm4 | hm4 | hm4
    ·
      obtain ⟨Z, hZ⟩ : ∃ Z, Z = ((Y.setCell ⟨G, 1, none⟩ (.string ⟨#[122, 101, 100]⟩)).setCell ⟨G, 2, none⟩ (.string ⟨#[122, 101, 100]⟩)) := ⟨_, rfl⟩
      have HZ := hd (show Blk Z G 26 #[.int .i64 k, .string ⟨#[122, 101, 100]⟩, .string ⟨#[122, 101, 100]⟩, .string (bs uid), .string (bs card), .int .i64 ck, .int .i64 cv, .slice A n c, .int .i64 tok, .int .i64 most, .int .i64 ticks] by rw [hZ]; exact ((KN10.o.set_ 1 _).set_ 2 _))
      have HBZ := hd (show Below w.heap.size w Z by rw [hZ]; exact ((HB11.o.setCell (p := ⟨G, 1, none⟩) HGb _).setCell (p := ⟨G, 2, none⟩) HGb _))
      have HCV := hd (show chk ⟨k, [122, 101, 100], [122, 101, 100], uid, card, ck, cv, ops, tok, most, ticks⟩ = 1 from field_0 HK0.o [122, 101, 100] [122, 101, 100] (by decide) (by decide))
      have s0 := HSZ.o (by first | rfl | trivial)
      have C9 := HCK.o (by first | rfl | trivial) ⟨k, [122, 101, 100], [122, 101, 100], uid, card, ck, cv, ops, tok, most, ticks⟩ rfl ⟨(by show ([122, 101, 100] : List UInt8).length ≤ _; decide), (by show ([122, 101, 100] : List UInt8).length ≤ _; decide), s0.uid, s0.card, s0.ops, s0.op⟩ Z HBZ.o
      simp only at C9
      rw [HN.o, HCV.o] at C9
      replace C9 := hd C9
      have HWZ := hd hZ
      clear hZ s0
      go_upto_region 17 with (fail)
      rw [← HWZ.o]
      clear x0 x1 x2 x3 x4 x5 x6 x7 x8 x9 x10 xl y0 y1 y2 y3 y4 y5 y6 y7 y8 y9 y10 yf0 yf1 yf2 yf3 yf4 yf5 yf6 yf7 yf8 yf9 yf10 yl
      have z0 := HZ.o.at_ 0 rfl
      have z1 := HZ.o.at_ 1 rfl
      have z2 := HZ.o.at_ 2 rfl
      have z3 := HZ.o.at_ 3 rfl
      have z4 := HZ.o.at_ 4 rfl
      have z5 := HZ.o.at_ 5 rfl
      have z6 := HZ.o.at_ 6 rfl
      have z7 := HZ.o.at_ 7 rfl
      have z8 := HZ.o.at_ 8 rfl
      have z9 := HZ.o.at_ 9 rfl
      have z10 := HZ.o.at_ 10 rfl
      go_wp2_with fail
      refine C9.o.mono ?_
      rintro e w8 ⟨rfl, hb8⟩
      have HB8 := hd (HBZ.o.trans (hb8.mono HBZ.o.size))
      clear hb8
      go_wp2
      go_ret
      exact ⟨rfl, HB8.o⟩
    ·
      obtain ⟨Z, hZ⟩ : ∃ Z, Z = ((Y.setCell ⟨G, 8, none⟩ (.int .i64 5)).setCell ⟨G, 3, none⟩ (.string ⟨#[122, 101, 100]⟩)) := ⟨_, rfl⟩
      have HZ := hd (show Blk Z G 26 #[.int .i64 k, .string (bs tn), .string (bs col), .string ⟨#[122, 101, 100]⟩, .string (bs card), .int .i64 ck, .int .i64 cv, .slice A n c, .int .i64 5, .int .i64 most, .int .i64 ticks] by rw [hZ]; exact ((KN10.o.set_ 8 _).set_ 3 _))
      have HBZ := hd (show Below w.heap.size w Z by rw [hZ]; exact ((HB11.o.setCell (p := ⟨G, 8, none⟩) HGb _).setCell (p := ⟨G, 3, none⟩) HGb _))
      have HCV := hd (show chk ⟨k, tn, col, [122, 101, 100], card, ck, cv, ops, 5, most, ticks⟩ = 1 from field_1 HK0.o 5 [122, 101, 100] (by decide) (by decide))
      have s0 := HSZ.o (by first | rfl | trivial)
      have C9 := HCK.o (by first | rfl | trivial) ⟨k, tn, col, [122, 101, 100], card, ck, cv, ops, 5, most, ticks⟩ rfl ⟨s0.tn, s0.col, (by show ([122, 101, 100] : List UInt8).length ≤ _; decide), s0.card, s0.ops, s0.op⟩ Z HBZ.o
      simp only at C9
      rw [HN.o, HCV.o] at C9
      replace C9 := hd C9
      have HWZ := hd hZ
      clear hZ s0
      go_upto_region 17 with (fail)
      rw [← HWZ.o]
      clear x0 x1 x2 x3 x4 x5 x6 x7 x8 x9 x10 xl y0 y1 y2 y3 y4 y5 y6 y7 y8 y9 y10 yf0 yf1 yf2 yf3 yf4 yf5 yf6 yf7 yf8 yf9 yf10 yl
      have z0 := HZ.o.at_ 0 rfl
      have z1 := HZ.o.at_ 1 rfl
      have z2 := HZ.o.at_ 2 rfl
      have z3 := HZ.o.at_ 3 rfl
      have z4 := HZ.o.at_ 4 rfl
      have z5 := HZ.o.at_ 5 rfl
      have z6 := HZ.o.at_ 6 rfl
      have z7 := HZ.o.at_ 7 rfl
      have z8 := HZ.o.at_ 8 rfl
      have z9 := HZ.o.at_ 9 rfl
      have z10 := HZ.o.at_ 10 rfl
      go_wp2_with fail
      refine C9.o.mono ?_
      rintro e w8 ⟨rfl, hb8⟩
      have HB8 := hd (HBZ.o.trans (hb8.mono HBZ.o.size))
      clear hb8
      go_wp2
      go_ret
      exact ⟨rfl, HB8.o⟩
    ·
      obtain ⟨Z, hZ⟩ : ∃ Z, Z = ((Y.setCell ⟨G, 9, none⟩ (.int .i64 5)).setCell ⟨G, 10, none⟩ (.int .i64 5)) := ⟨_, rfl⟩
      have HZ := hd (show Blk Z G 26 #[.int .i64 k, .string (bs tn), .string (bs col), .string (bs uid), .string (bs card), .int .i64 ck, .int .i64 cv, .slice A n c, .int .i64 tok, .int .i64 5, .int .i64 5] by rw [hZ]; exact ((KN10.o.set_ 9 _).set_ 10 _))
      have HBZ := hd (show Below w.heap.size w Z by rw [hZ]; exact ((HB11.o.setCell (p := ⟨G, 9, none⟩) HGb _).setCell (p := ⟨G, 10, none⟩) HGb _))
      have HCV := hd (show chk ⟨k, tn, col, uid, card, ck, cv, ops, tok, 5, 5⟩ = 1 from field_2 HK0.o 5 5 (by decide) (by decide))
      have s0 := HSZ.o (by first | rfl | trivial)
      have C9 := HCK.o (by first | rfl | trivial) ⟨k, tn, col, uid, card, ck, cv, ops, tok, 5, 5⟩ rfl ⟨s0.tn, s0.col, s0.uid, s0.card, s0.ops, s0.op⟩ Z HBZ.o
      simp only at C9
      rw [HN.o, HCV.o] at C9
      replace C9 := hd C9
      have HWZ := hd hZ
      clear hZ s0
      go_upto_region 17 with (fail)
      rw [← HWZ.o]
      clear x0 x1 x2 x3 x4 x5 x6 x7 x8 x9 x10 xl y0 y1 y2 y3 y4 y5 y6 y7 y8 y9 y10 yf0 yf1 yf2 yf3 yf4 yf5 yf6 yf7 yf8 yf9 yf10 yl
      have z0 := HZ.o.at_ 0 rfl
      have z1 := HZ.o.at_ 1 rfl
      have z2 := HZ.o.at_ 2 rfl
      have z3 := HZ.o.at_ 3 rfl
      have z4 := HZ.o.at_ 4 rfl
      have z5 := HZ.o.at_ 5 rfl
      have z6 := HZ.o.at_ 6 rfl
      have z7 := HZ.o.at_ 7 rfl
      have z8 := HZ.o.at_ 8 rfl
      have z9 := HZ.o.at_ 9 rfl
      have z10 := HZ.o.at_ 10 rfl
      go_wp2_with fail
      refine C9.o.mono ?_
      rintro e w8 ⟨rfl, hb8⟩
      have HB8 := hd (HBZ.o.trans (hb8.mono HBZ.o.size))
      clear hb8
      go_wp2
      go_ret
      exact ⟨rfl, HB8.o⟩
    ·
      obtain ⟨Z, hZ⟩ : ∃ Z, Z = (Y.setCell ⟨G, 0, none⟩ (.int .i64 77)) := ⟨_, rfl⟩
      have HZ := hd (show Blk Z G 26 #[.int .i64 77, .string (bs tn), .string (bs col), .string (bs uid), .string (bs card), .int .i64 ck, .int .i64 cv, .slice A n c, .int .i64 tok, .int .i64 most, .int .i64 ticks] by rw [hZ]; exact (KN10.o.set_ 0 _))
      have HBZ := hd (show Below w.heap.size w Z by rw [hZ]; exact (HB11.o.setCell (p := ⟨G, 0, none⟩) HGb _))
      have HCV := hd (show chk ⟨77, tn, col, uid, card, ck, cv, ops, tok, most, ticks⟩ = 12 from field_3 ⟨k, tn, col, uid, card, ck, cv, ops, tok, most, ticks⟩)
      have s0 := HSZ.o (by first | rfl | trivial)
      have C9 := HCK.o (by first | rfl | trivial) ⟨77, tn, col, uid, card, ck, cv, ops, tok, most, ticks⟩ rfl ⟨s0.tn, s0.col, s0.uid, s0.card, s0.ops, s0.op⟩ Z HBZ.o
      simp only at C9
      rw [HN.o, HCV.o] at C9
      replace C9 := hd C9
      have HWZ := hd hZ
      clear hZ s0
      go_upto_region 17 with (fail)
      rw [← HWZ.o]
      clear x0 x1 x2 x3 x4 x5 x6 x7 x8 x9 x10 xl y0 y1 y2 y3 y4 y5 y6 y7 y8 y9 y10 yf0 yf1 yf2 yf3 yf4 yf5 yf6 yf7 yf8 yf9 yf10 yl
      have z0 := HZ.o.at_ 0 rfl
      have z1 := HZ.o.at_ 1 rfl
      have z2 := HZ.o.at_ 2 rfl
      have z3 := HZ.o.at_ 3 rfl
      have z4 := HZ.o.at_ 4 rfl
      have z5 := HZ.o.at_ 5 rfl
      have z6 := HZ.o.at_ 6 rfl
      have z7 := HZ.o.at_ 7 rfl
      have z8 := HZ.o.at_ 8 rfl
      have z9 := HZ.o.at_ 9 rfl
      have z10 := HZ.o.at_ 10 rfl
      go_wp2_with fail
      refine C9.o.mono ?_
      rintro e w8 ⟨rfl, hb8⟩
      have HB8 := hd (HBZ.o.trans (hb8.mono HBZ.o.size))
      clear hb8
      go_wp2
      go_ret
      exact ⟨rfl, HB8.o⟩

end Go.Proofs.YtogjokofmfpmgaaGreatDoor
