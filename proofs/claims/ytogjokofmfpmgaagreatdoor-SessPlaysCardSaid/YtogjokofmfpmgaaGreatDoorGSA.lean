/-
  Requests: Decode.
-/
import Derived.Test.YtogjokofmfpmgaaGreatDoorGAT
import Derived.Test.YtogjokofmfpmgaaGreatDoorGAA
import Derived.Test.YtogjokofmfpmgaaGreatDoorGAU
import Derived.Test.YtogjokofmfpmgaaGreatDoorGAS
import Derived.Test.YtogjokofmfpmgaaGreatDoorGAK
import Derived.Deep.RegionHeld3
import Derived.Test.YtogjokofmfpmgaaGreatDoorGAD
set_option linter.unusedVariables false
set_option linter.unusedSimpArgs false
namespace Go.Proofs.YtogjokofmfpmgaaGreatDoor
open Go.RowKit

theorem bs_nil8 : bs [] = ⟨#[]⟩ := rfl
end Go.Proofs.YtogjokofmfpmgaaGreatDoor
namespace Go.Proofs.YtogjokofmfpmgaaGreatDoor
open Go.RowKit
theorem c11 {w : World} {g : Nat} {t : TypeId} {c0 c1 c2 c3 c4 c5 c6 c7 c8 c9 c10 : Value} (h : Blk w g t #[c0, c1, c2, c3, c4, c5, c6, c7, c8, c9, c10]) : w.cell? ⟨g, 0, none⟩ = some c0 ∧ w.cell? ⟨g, 1, none⟩ = some c1 ∧ w.cell? ⟨g, 2, none⟩ = some c2 ∧ w.cell? ⟨g, 3, none⟩ = some c3 ∧ w.cell? ⟨g, 4, none⟩ = some c4 ∧ w.cell? ⟨g, 5, none⟩ = some c5 ∧ w.cell? ⟨g, 6, none⟩ = some c6 ∧ w.cell? ⟨g, 7, none⟩ = some c7 ∧ w.cell? ⟨g, 8, none⟩ = some c8 ∧ w.cell? ⟨g, 9, none⟩ = some c9 ∧ w.cell? ⟨g, 10, none⟩ = some c10 :=
  ⟨h.at_ 0 rfl, h.at_ 1 rfl, h.at_ 2 rfl, h.at_ 3 rfl, h.at_ 4 rfl, h.at_ 5 rfl, h.at_ 6 rfl, h.at_ 7 rfl, h.at_ 8 rfl, h.at_ 9 rfl, h.at_ 10 rfl⟩
end Go.Proofs.YtogjokofmfpmgaaGreatDoor
namespace Go.Proofs.YtogjokofmfpmgaaGreatDoor
open Go.RowKit
theorem c15 {w : World} {g : Nat} {t : TypeId} {c0 c1 c2 c3 c4 c5 c6 c7 c8 c9 c10 c11 c12 c13 c14 : Value} (h : Blk w g t #[c0, c1, c2, c3, c4, c5, c6, c7, c8, c9, c10, c11, c12, c13, c14]) : w.cell? ⟨g, 0, none⟩ = some c0 ∧ w.cell? ⟨g, 1, none⟩ = some c1 ∧ w.cell? ⟨g, 2, none⟩ = some c2 ∧ w.cell? ⟨g, 3, none⟩ = some c3 ∧ w.cell? ⟨g, 4, none⟩ = some c4 ∧ w.cell? ⟨g, 5, none⟩ = some c5 ∧ w.cell? ⟨g, 6, none⟩ = some c6 ∧ w.cell? ⟨g, 7, none⟩ = some c7 ∧ w.cell? ⟨g, 8, none⟩ = some c8 ∧ w.cell? ⟨g, 9, none⟩ = some c9 ∧ w.cell? ⟨g, 10, none⟩ = some c10 ∧ w.cell? ⟨g, 11, none⟩ = some c11 ∧ w.cell? ⟨g, 12, none⟩ = some c12 ∧ w.cell? ⟨g, 13, none⟩ = some c13 ∧ w.cell? ⟨g, 14, none⟩ = some c14 :=
  ⟨h.at_ 0 rfl, h.at_ 1 rfl, h.at_ 2 rfl, h.at_ 3 rfl, h.at_ 4 rfl, h.at_ 5 rfl, h.at_ 6 rfl, h.at_ 7 rfl, h.at_ 8 rfl, h.at_ 9 rfl, h.at_ 10 rfl, h.at_ 11 rfl, h.at_ 12 rfl, h.at_ 13 rfl, h.at_ 14 rfl⟩
theorem f15 {w : World} {g : Nat} {t : TypeId} {cs : Array Value} (h : Blk w g t cs) : w.frozen? ⟨g, 0, none⟩ = false ∧ w.frozen? ⟨g, 1, none⟩ = false ∧ w.frozen? ⟨g, 2, none⟩ = false ∧ w.frozen? ⟨g, 3, none⟩ = false ∧ w.frozen? ⟨g, 4, none⟩ = false ∧ w.frozen? ⟨g, 5, none⟩ = false ∧ w.frozen? ⟨g, 6, none⟩ = false ∧ w.frozen? ⟨g, 7, none⟩ = false ∧ w.frozen? ⟨g, 8, none⟩ = false ∧ w.frozen? ⟨g, 9, none⟩ = false ∧ w.frozen? ⟨g, 10, none⟩ = false ∧ w.frozen? ⟨g, 11, none⟩ = false ∧ w.frozen? ⟨g, 12, none⟩ = false ∧ w.frozen? ⟨g, 13, none⟩ = false ∧ w.frozen? ⟨g, 14, none⟩ = false :=
  ⟨h.frozen 0, h.frozen 1, h.frozen 2, h.frozen 3, h.frozen 4, h.frozen 5, h.frozen 6, h.frozen 7, h.frozen 8, h.frozen 9, h.frozen 10, h.frozen 11, h.frozen 12, h.frozen 13, h.frozen 14⟩
theorem Row.set15 {w : World} {S : Nat → Prop} {e : TypeId} {size n c g : Nat} {A : Option Addr} {xs : List Value} {t : TypeId} {cs : Array Value} {v0 v1 v2 v3 v4 v5 v6 v7 v8 v9 v10 v11 v12 v13 v14 : Value} (h : Row w S e size A n c xs) (hb : Blk w g t cs) (ht : e ≠ t) : Row (((((((((((((((w.setCell ⟨g, 0, none⟩ v0).setCell ⟨g, 1, none⟩ v1).setCell ⟨g, 2, none⟩ v2).setCell ⟨g, 3, none⟩ v3).setCell ⟨g, 4, none⟩ v4).setCell ⟨g, 5, none⟩ v5).setCell ⟨g, 6, none⟩ v6).setCell ⟨g, 7, none⟩ v7).setCell ⟨g, 8, none⟩ v8).setCell ⟨g, 9, none⟩ v9).setCell ⟨g, 10, none⟩ v10).setCell ⟨g, 11, none⟩ v11).setCell ⟨g, 12, none⟩ v12).setCell ⟨g, 13, none⟩ v13).setCell ⟨g, 14, none⟩ v14) S e size A n c xs :=
  (h.own_.chg (chg15 (S := One g) (Chg.refl _ _) (.inl rfl)) (fun k hk h1 => by
    cases A with
    | none => exact Of.none hk
    | some a => exact h.ne_blk hb ht a rfl ((Of.some_ hk).symm.trans h1))).mono h.of_sub
end Go.Proofs.YtogjokofmfpmgaaGreatDoor
namespace Go.Proofs.YtogjokofmfpmgaaGreatDoor
open Go.RowKit

set_option maxRecDepth 100000 in
set_option maxHeartbeats 40000000 in
theorem next_ask (w : World) (g p : Nat) (s : Ss) (h : SesR w g p s) (hb : s.buf.length ≤ 1000000) (hx : lookW s = 1) (hq : 0 ≤ s.seq ∧ s.seq ≤ 1000000) (v : World) (ht : Tbs v) (hbv : Below v.heap.size v w) (hvg : v.heap.size ≤ g) (hvp : v.heap.size ≤ p) :
    Calls Tryz.prog 34 #[.pointer (some ⟨g, 0, none⟩)] w fun e w' => NextR w g p s e w' := by
  have hbr : s.broken = false ∧ frE s.buf = 0 := by
    rcases look_or s with h1 | h1 | ⟨h1, _⟩ | ⟨_, h1, h2⟩
    · omega
    · omega
    · omega
    · exact ⟨h1, h2⟩
  obtain ⟨fl1, fl2, fl3, fl4, fl5⟩ := frE_le hbr.2
  have hv : lookV s = .tuple #[.int .i64 1, .agg #[.int .i64 (frK s.buf : Nat), .string (bs (frB s.buf))], .int .i64 (frN s.buf : Nat), .int .i64 0] := by
    unfold lookV
    rw [hx, if_pos rfl]
  have HE1 := hd (fun (he : errS s ≠ 0) => next_2 hx he)
  have HE0 := hd (fun (he : errS s = 0) => next_1 hx he)
  have hER : errS s = if (decQ (frK s.buf) (frB s.buf)).2 ≠ 0 then (decQ (frK s.buf) (frB s.buf)).2 else if ((decQ (frK s.buf) (frB s.buf)).1.k = 1) ↔ (s.tn ≠ []) then 10 else 0 := rfl
  have hKS : kindS s = if 1 ≤ frK s.buf ∧ frK s.buf ≤ 11 then (frK s.buf : Int) else 0 := rfl
  have hfl : (frB s.buf).length ≤ 1000000 := by omega
  have hgo : goS s = { s with seq := s.seq + 1, buf := s.buf.drop (frN s.buf) } := rfl
  rw [hgo] at HE1 HE0
  generalize frK s.buf = K at *
  generalize frB s.buf = B at *
  generalize frN s.buf = n at *
  obtain ⟨w0, hw0⟩ : ∃ w0, w0 = w.alloc (.cells #[.int .i64 0, .int .i64 0, .int .i64 0, .int .i64 0, .string ⟨#[]⟩, .string ⟨#[]⟩, .string ⟨#[]⟩, .string ⟨#[]⟩, .int .i64 0, .int .i64 0, .slice none 0 0, .int .i64 0, .int .i64 0, .int .i64 0, .int .i64 0] 61) := ⟨_, rfl⟩
  have HZ0 := hd (show Blk w0 w.heap.size 61 #[.int .i64 0, .int .i64 0, .int .i64 0, .int .i64 0, .string ⟨#[]⟩, .string ⟨#[]⟩, .string ⟨#[]⟩, .string ⟨#[]⟩, .int .i64 0, .int .i64 0, .slice none 0 0, .int .i64 0, .int .i64 0, .int .i64 0, .int .i64 0] by rw [hw0]; exact Blk.new _ _ _)
  have HB0 := hd (show Below w.heap.size w w0 by rw [hw0]; exact (Below.refl _ w).alloc (Nat.le_refl _) _)
  have C1 := look_whole w0 g p s ⟨by rw [hw0]; exact h.b.alloc _, by rw [hw0]; exact h.p.alloc _⟩ hb
  rw [hv] at C1
  replace C1 := hd C1
  have HW0 := hd hw0
  have HH := hd h
  have HTB := hd (fun (W : World) (hW : Chg (Two g p) w W) => (ht.below (hbv.trans (hW.below (fun k hk => by rcases hk with rfl | rfl <;> assumption) hbv.size))))
  have hwr : IntKind.i64.wrap (s.seq + 1) = s.seq + 1 := by rw [IntKind.wrap_i64]; omega
  have HNB := hd (show n ≤ s.buf.length ∧ s.buf.length ≤ 1000000000 from ⟨fl1, by omega⟩)
  have hgw : g ≠ w.heap.size := Nat.ne_of_lt h.b.lt
  have hpw : p ≠ w.heap.size := Nat.ne_of_lt h.p.lt
  have HFL := hd hfl
  have HER := hd hER
  have HKS := hd hKS
  replace hbr := hd hbr
  clear hKS hER hw0 h hb hx hv hq ht hbv hvg hvp fl1 fl2 fl3 fl4 fl5 hgo hfl
  obtain ⟨QQ, hQQ⟩ : ∃ QQ, QQ = bodyPost Tryz.prog Tryz.f34 (fun e w' => NextR w g p s e w') := ⟨_, rfl⟩
  have HQQ := hd hQQ
  go_enter Tryz.func34, Tryz.ntmps34
  rw [← hQQ]
  clear hQQ
  go_upto_region 1 with (fail)
  rw [← HW0.o]
  go_upto_region 2 with (go_at_call 78; refine C1.o.mono ?_; rintro e w1 ⟨rfl, hb1⟩; have HB1 := hd (HB0.o.trans (hb1.mono HB0.o.size)); have HZ1 := hd (HZ0.o.below hb1 HZ0.o.lt); clear hb1)
  obtain ⟨w2, hw2⟩ : ∃ w2, w2 = w1.alloc (.cells #[.int .i64 (K : Nat), .string (bs B)] 75) := ⟨_, rfl⟩
  rw [← hw2]
  have HF2 := hd (show Blk w2 w1.heap.size 75 #[.int .i64 (K : Nat), .string (bs B)] by rw [hw2]; exact Blk.new _ _ _)
  have HZ2 := hd (show Blk w2 w.heap.size 61 #[.int .i64 0, .int .i64 0, .int .i64 0, .int .i64 0, .string ⟨#[]⟩, .string ⟨#[]⟩, .string ⟨#[]⟩, .string ⟨#[]⟩, .int .i64 0, .int .i64 0, .slice none 0 0, .int .i64 0, .int .i64 0, .int .i64 0, .int .i64 0] by rw [hw2]; exact HZ1.o.alloc _)
  have HB2 := hd (show Below w.heap.size w w2 by rw [hw2]; exact HB1.o.alloc HB1.o.size _)
  have hFw : w.heap.size ≤ w1.heap.size := HB1.o.size
  generalize w1.heap.size = F at *
  have hs2 := HH.o.b.below HB2.o HH.o.b.lt
  have HP2 := hd (HH.o.p.below HB2.o HH.o.p.lt)
  have q2 := hs2.at_ 2 (v := .int .i64 s.seq) rfl
  have r2 := hs2.frozen 2
  have HS2 := hd hs2
  clear hs2 hw2
  go_upto_region 5 with (fail)
  obtain ⟨w3, hw3⟩ : ∃ w3, w3 = w2.setCell ⟨g, 2, none⟩ (.int .i64 (s.seq + 1)) := ⟨_, rfl⟩
  rw [← hw3]
  have hgF : g ≠ F := Nat.ne_of_lt (Nat.lt_of_lt_of_le HH.o.b.lt hFw)
  have HF3 := hd (show Blk w3 F 75 #[.int .i64 (K : Nat), .string (bs B)] by rw [hw3]; exact HF2.o.far hgF.symm _)
  have HZ3 := hd (show Blk w3 w.heap.size 61 #[.int .i64 0, .int .i64 0, .int .i64 0, .int .i64 0, .string ⟨#[]⟩, .string ⟨#[]⟩, .string ⟨#[]⟩, .string ⟨#[]⟩, .int .i64 0, .int .i64 0, .slice none 0 0, .int .i64 0, .int .i64 0, .int .i64 0, .int .i64 0] by rw [hw3]; exact HZ2.o.far hgw.symm _)
  have hs3 : Blk w3 g 103 #[.pointer (some ⟨p, 0, none⟩), .string (bs s.tn), .int .i64 (s.seq + 1), .bool s.broken] := by rw [hw3]; simpa using HS2.o.set_ 2 (.int .i64 (s.seq + 1))
  have HP3 := hd (show Blk w3 p 123 (pipE s.room s.buf s.closed) by rw [hw3]; exact HP2.o.far (Ne.symm HH.o.ne) _)
  have HC3 := hd (show Chg (Two g p) w w3 by rw [hw3]; exact (Chg.of_below _ HB2.o).setCell (.inl (.inl rfl)) _)
  clear q2 r2 hw3
  have q2 := hs3.at_ 2 (v := .int .i64 (s.seq + 1)) rfl
  have HS3 := hd hs3
  clear hs3
  go_upto_region 6 with (fail)
  obtain ⟨w4, hw4⟩ : ∃ w4, w4 = w3.alloc (.cells #[.int .i64 1, .int .i64 (s.seq + 1), .int .i64 0, .int .i64 0, .string ⟨#[]⟩, .string ⟨#[]⟩, .string ⟨#[]⟩, .string ⟨#[]⟩, .int .i64 0, .int .i64 0, .slice none 0 0, .int .i64 0, .int .i64 0, .int .i64 0, .int .i64 0] 61) := ⟨_, rfl⟩
  rw [← hw4]
  have HT4 := hd (show Blk w4 w3.heap.size 61 #[.int .i64 1, .int .i64 (s.seq + 1), .int .i64 0, .int .i64 0, .string ⟨#[]⟩, .string ⟨#[]⟩, .string ⟨#[]⟩, .string ⟨#[]⟩, .int .i64 0, .int .i64 0, .slice none 0 0, .int .i64 0, .int .i64 0, .int .i64 0, .int .i64 0] by rw [hw4]; exact Blk.new _ _ _)
  have HF4 := hd (show Blk w4 F 75 #[.int .i64 (K : Nat), .string (bs B)] by rw [hw4]; exact HF3.o.alloc _)
  have HZ4 := hd (show Blk w4 w.heap.size 61 #[.int .i64 0, .int .i64 0, .int .i64 0, .int .i64 0, .string ⟨#[]⟩, .string ⟨#[]⟩, .string ⟨#[]⟩, .string ⟨#[]⟩, .int .i64 0, .int .i64 0, .slice none 0 0, .int .i64 0, .int .i64 0, .int .i64 0, .int .i64 0] by rw [hw4]; exact HZ3.o.alloc _)
  have hs4 : Blk w4 g 103 #[.pointer (some ⟨p, 0, none⟩), .string (bs s.tn), .int .i64 (s.seq + 1), .bool s.broken] := by rw [hw4]; exact HS3.o.alloc _
  have HP4 := hd (show Blk w4 p 123 (pipE s.room s.buf s.closed) by rw [hw4]; exact HP3.o.alloc _)
  have HC4 := hd (show Chg (Two g p) w w4 by rw [hw4]; exact HC3.o.alloc _)
  have hTw : w3.heap.size ≠ w.heap.size := Nat.ne_of_gt HZ3.o.lt
  have hTg : w3.heap.size ≠ g := Nat.ne_of_gt HS3.o.lt
  have hTp : w3.heap.size ≠ p := Nat.ne_of_gt HP3.o.lt
  have hTF : w3.heap.size ≠ F := Nat.ne_of_gt HF3.o.lt
  have hTl : w.heap.size ≤ w3.heap.size := Nat.le_of_lt HZ3.o.lt
  clear hw4 q2
  generalize w3.heap.size = T at *
  have hFp : F ≠ p := Nat.ne_of_gt (Nat.lt_of_lt_of_le HH.o.p.lt hFw)
  have q0 := hs4.at_ 0 (v := .pointer (some ⟨p, 0, none⟩)) rfl
  have HS4 := hd hs4
  clear hs4
  have C2 := hd (ptake_calls w4 p n s.room s.buf s.closed HP4.o HNB.o.1 HNB.o.2)
  go_upto_region 10 with (go_at_call 79; refine C2.o.mono ?_; rintro e w5 ⟨rfl, hp5, hc5⟩; have HP5 := hd hp5; have HC5 := hd hc5; clear hp5 hc5)
  have HT5 := hd (HT4.o.chg HC5.o (fun h => hTp h))
  have HF5 := hd (HF4.o.chg HC5.o (fun h => hFp h))
  have HZ5 := hd (HZ4.o.chg HC5.o (fun h => hpw h.symm))
  have HS5 := hd (HS4.o.chg HC5.o (fun h => HH.o.ne h))
  have HCC := hd (HC4.o.trans HC5.o (fun k hk => .inl (.inr hk)))
  clear q0 C1 C2 HW0 HZ0 HB0 HB1 HZ1 HF2 HZ2 HB2 HP2 HS2 HF3 HZ3 HP3 HC3 HS3 HT4 HF4 HZ4 HP4 HC4 HS4 HC5
  obtain ⟨kk, hkk⟩ : ∃ kk, kindS s = kk := ⟨_, rfl⟩
  obtain ⟨bK, hbK⟩ : ∃ bK, decide (1 ≤ K ∧ K ≤ 11) = bK := ⟨_, rfl⟩
  have y0 := HF5.o.at_ 0 (v := .int .i64 (K : Nat)) rfl
  have hTF2 : F ≠ T := hTF.symm
  have hTg2 : g ≠ T := hTg.symm
  have hTw2 : w.heap.size ≠ T := hTw.symm
  have hTp2 : p ≠ T := hTp.symm
  have hwg : w.heap.size ≠ g := hgw.symm
  have HbK := hd hbK
  clear hbK
  go_cut [57] from 50 to 56 (fun b wx => b = .bool bK ∧ wx = w5)
  case first =>
    by_cases c1 : 1 ≤ K
    · have d1 : decide ((1 : Int) ≤ (K : Int)) = true := by simp; omega
      by_cases c2 : K ≤ 11
      · have d2 : decide ((K : Int) ≤ 11) = true := by simp; omega
        have hb : bK = true := by rw [← HbK.o]; simp; omega
        subst hb
        go_wp2_with fail
        go_meet
        exact ⟨rfl, rfl⟩
      · have d2 : decide ((K : Int) ≤ 11) = false := by simp; omega
        have hb : bK = false := by rw [← HbK.o]; simp; omega
        subst hb
        go_wp2_with fail
        go_meet
        exact ⟨rfl, rfl⟩
    · have d1 : decide ((1 : Int) ≤ (K : Int)) = false := by simp; omega
      have hb : bK = false := by rw [← HbK.o]; simp; omega
      subst hb
      go_wp2_with fail
      go_meet
      exact ⟨rfl, rfl⟩
  case rest =>
  obtain ⟨rfl, rfl⟩ := hcut
  have j2 := HT5.o.at_ 2 (v := .int .i64 0) rfl
  have g2 := HT5.o.frozen 2
  go_upto_if 57 with (fail)
  go_cut [] from 58 to 60 (fun wx => Hd (Blk wx T 61 #[.int .i64 1, .int .i64 (s.seq + 1), .int .i64 kk, .int .i64 0, .string ⟨#[]⟩, .string ⟨#[]⟩, .string ⟨#[]⟩, .string ⟨#[]⟩, .int .i64 0, .int .i64 0, .slice none 0 0, .int .i64 0, .int .i64 0, .int .i64 0, .int .i64 0]) ∧ Hd (Blk wx F 75 #[.int .i64 (K : Nat), .string (bs B)]) ∧ Hd (Blk wx w.heap.size 61 #[.int .i64 0, .int .i64 0, .int .i64 0, .int .i64 0, .string ⟨#[]⟩, .string ⟨#[]⟩, .string ⟨#[]⟩, .string ⟨#[]⟩, .int .i64 0, .int .i64 0, .slice none 0 0, .int .i64 0, .int .i64 0, .int .i64 0, .int .i64 0]) ∧ Hd (Blk wx g 103 #[.pointer (some ⟨p, 0, none⟩), .string (bs s.tn), .int .i64 (s.seq + 1), .bool s.broken]) ∧ Hd (Blk wx p 123 (pipE s.room (s.buf.drop n) s.closed)) ∧ Hd (Chg (Two g p) w wx))
  case first =>
    cases bK with
    | false =>
      have e : kk = 0 := by
        have := of_decide_eq_false HbK.o
        rw [← hkk, HKS.o, if_neg this]
      clear hkk
      subst e
      go_wp2_with fail
      go_meet
      exact ⟨HT5, HF5, HZ5, HS5, HP5, HCC⟩
    | true =>
      have e : kk = (K : Int) := by
        have := of_decide_eq_true HbK.o
        rw [← hkk, HKS.o, if_pos this]
      clear hkk
      subst e
      go_wp2_with fail
      go_meet
      exact ⟨hd (by simpa using HT5.o.set_ 2 (.int .i64 (K : Nat))), hd (HF5.o.far hTF2 _), hd (HZ5.o.far hTw2 _), hd (HS5.o.far hTg2 _), hd (HP5.o.far hTp2 _), hd (HCC.o.setCell (.inr hTl) _)⟩
  case rest =>
  clear y0 j2 g2 HF5 HT5 HZ5 HS5 HP5 HCC
  obtain ⟨HT6, HF6, HZ6, HS6, HP6, HC6⟩ := hcut
  go_upto_region 12 with (fail)
  obtain ⟨cap, w7, hrun, hrd, hbw, hcap⟩ := conv_to (P := Tryz.prog) wc 9 27 5 Tryz.underlying9 Tryz.underlying27 Tryz.underlying5 (bs B)
  rw [bs_data] at hrd
  have hT7 : Tbs w7 := (HTB.o wc HC6.o).below hbw
  have C3 := dec_calls (K : Int) w7 _ (bs B).size cap B (bs_size B) hrd (by rw [bs_size]; exact HFL.o) hT7
  obtain ⟨q, hqd⟩ : ∃ q, (decQ (K : Int) B).1 = q := ⟨_, rfl⟩
  obtain ⟨d, hdd⟩ : ∃ d, (decQ (K : Int) B).2 = d := ⟨_, rfl⟩
  replace C3 := hd (C3.mono (R' := fun e w' => ∃ (A : Option Addr) (c : Nat), e = .returned (.tuple #[.agg #[.int .i64 q.k, .string (bs q.tn), .string (bs q.col), .string (bs q.uid), .string (bs q.card), .int .i64 q.ck, .int .i64 q.cv, .slice A q.ops.length c, .int .i64 q.tok, .int .i64 q.most, .int .i64 q.ticks], .int .i64 d]) ∧ Row w' (From w7.heap.size) 43 5 A q.ops.length c (opsE q.ops) ∧ Below w7.heap.size w7 w') (fun e w' h => by
    obtain ⟨A, c, h1, h2, h3⟩ := h.o
    rw [hqd, hdd] at h1
    rw [hqd] at h2
    exact ⟨A, c, h1, h2, h3⟩))
  have hER2 : errS s = if d ≠ 0 then d else if (q.k = 1) ↔ (s.tn ≠ []) then 10 else 0 := by rw [HER.o, hqd, hdd]
  have HN1 : errS s ≠ 0 → nextS s = (⟨2, s.seq + 1, kk, rq0, errS s⟩, { s with seq := s.seq + 1, buf := s.buf.drop n }) := fun h => by rw [HE1.o h, hkk]
  have HN0 : errS s = 0 → nextS s = (⟨1, s.seq + 1, kk, q, 0⟩, if q.k = 1 then { s with seq := s.seq + 1, buf := s.buf.drop n, tn := q.tn } else { s with seq := s.seq + 1, buf := s.buf.drop n }) := fun h => by rw [HE0.o h, hkk, hqd]
  have HER2 := hd hER2
  replace HN1 := hd HN1
  replace HN0 := hd HN0
  have y0 := HF6.o.at_ 0 (v := .int .i64 (K : Nat)) rfl
  have y1 := HF6.o.at_ 1 (v := .string (bs B)) rfl
  have HBW := hd hbw
  have h7 : wc.heap.size ≤ w7.heap.size := hbw.size
  clear hrd hbw hcap hT7 hqd hdd hER2 hkk HE1 HE0
  go_upto_region 13 with (go_at_call 17; refine C3.o.mono ?_; rintro e wd ⟨A, c, rfl, hrow, hbd⟩; have HROW := hd hrow; have HBD := hd (HBW.o.trans (hbd.mono h7)); clear hrow hbd)
  obtain ⟨w8, hw8⟩ : ∃ w8, w8 = wd.alloc (.cells #[.int .i64 q.k, .string (bs q.tn), .string (bs q.col), .string (bs q.uid), .string (bs q.card), .int .i64 q.ck, .int .i64 q.cv, .slice A q.ops.length c, .int .i64 q.tok, .int .i64 q.most, .int .i64 q.ticks] 26) := ⟨_, rfl⟩
  rw [← hw8]
  have hQl : wc.heap.size ≤ wd.heap.size := HBD.o.size
  have HQ8 := hd (show Blk w8 wd.heap.size 26 #[.int .i64 q.k, .string (bs q.tn), .string (bs q.col), .string (bs q.uid), .string (bs q.card), .int .i64 q.ck, .int .i64 q.cv, .slice A q.ops.length c, .int .i64 q.tok, .int .i64 q.most, .int .i64 q.ticks] by rw [hw8]; exact Blk.new _ _ _)
  have HT8 := hd (show Blk w8 T 61 #[.int .i64 1, .int .i64 (s.seq + 1), .int .i64 kk, .int .i64 0, .string ⟨#[]⟩, .string ⟨#[]⟩, .string ⟨#[]⟩, .string ⟨#[]⟩, .int .i64 0, .int .i64 0, .slice none 0 0, .int .i64 0, .int .i64 0, .int .i64 0, .int .i64 0] by rw [hw8]; exact (HT6.o.below HBD.o HT6.o.lt).alloc _)
  have HZ8 := hd (show Blk w8 w.heap.size 61 #[.int .i64 0, .int .i64 0, .int .i64 0, .int .i64 0, .string ⟨#[]⟩, .string ⟨#[]⟩, .string ⟨#[]⟩, .string ⟨#[]⟩, .int .i64 0, .int .i64 0, .slice none 0 0, .int .i64 0, .int .i64 0, .int .i64 0, .int .i64 0] by rw [hw8]; exact (HZ6.o.below HBD.o HZ6.o.lt).alloc _)
  have HS8 := hd (show Blk w8 g 103 #[.pointer (some ⟨p, 0, none⟩), .string (bs s.tn), .int .i64 (s.seq + 1), .bool s.broken] by rw [hw8]; exact (HS6.o.below HBD.o HS6.o.lt).alloc _)
  have HP8 := hd (show Blk w8 p 123 (pipE s.room (s.buf.drop n) s.closed) by rw [hw8]; exact (HP6.o.below HBD.o HP6.o.lt).alloc _)
  have HC8 := hd (show Chg (Two g p) w w8 by rw [hw8]; exact (HC6.o.then_below HBD.o).alloc _)
  have HR8 := hd (show Row w8 (From w.heap.size) 43 5 A q.ops.length c (opsE q.ops) by rw [hw8]; exact ((HROW.o).alloc _).mono (fun x hx => Nat.le_trans HC6.o.size (Nat.le_trans h7 hx)))
  have HR9 := hd (fun (W : World) (hW : Chg (fun x => x < w7.heap.size) w8 W) => ((show Row w8 (From w7.heap.size) 43 5 A q.ops.length c (opsE q.ops) by rw [hw8]; exact (HROW.o).alloc _).chg hW (fun x hx hx2 => absurd hx2 (Nat.not_lt.mpr hx))).mono (T := From w.heap.size) (fun x hx => Nat.le_trans HC6.o.size (Nat.le_trans h7 hx)))
  have hT7 : T < w7.heap.size := Nat.lt_of_lt_of_le HT6.o.lt h7
  have hZ7 : w.heap.size < w7.heap.size := Nat.lt_of_lt_of_le HZ6.o.lt h7
  have hG7 : g < w7.heap.size := Nat.lt_of_lt_of_le HS6.o.lt h7
  have hQT : wd.heap.size ≠ T := Nat.ne_of_gt (Nat.lt_of_lt_of_le HT6.o.lt hQl)
  have hQg : wd.heap.size ≠ g := Nat.ne_of_gt (Nat.lt_of_lt_of_le HS6.o.lt hQl)
  have hgp : g ≠ p := HH.o.ne
  clear hw8 hrun y0 y1 HROW HBD C3 HT6 HF6 HZ6 HS6 HP6 HC6 HBW h7 hQl
  generalize wd.heap.size = Q at *
  obtain ⟨tb, htb⟩ : ∃ tb, (!(bs s.tn).toList.isEmpty) = tb := ⟨_, rfl⟩
  have htb2 : tb = decide (s.tn ≠ []) := by rw [← htb]; exact bs_ne s.tn
  have htc : (bs s.tn).toList.isEmpty = !tb := by rw [← htb, Bool.not_not]
  have u0 := HQ8.o.at_ 0 (v := .int .i64 q.k) rfl
  have q1 := HS8.o.at_ 1 (v := .string (bs s.tn)) rfl
  obtain ⟨ee, hee⟩ : ∃ ee, errS s = ee := ⟨_, rfl⟩
  obtain ⟨kb, hkb, hkc⟩ : ∃ kb, (q.k == 1) = kb ∧ kb = decide (q.k = 1) := ⟨_, rfl, by by_cases h : q.k = 1 <;> simp [h]⟩
  obtain ⟨tv, htv⟩ : ∃ tv, decide (d = 0 ∧ ((q.k = 1) ↔ (s.tn ≠ []))) = tv := ⟨_, rfl⟩
  have HTV := hd htv
  have hx : d = 0 → (kb == tb) = tv := fun h => by rw [← htv, hkc, htb2]; by_cases h1 : q.k = 1 <;> by_cases h2 : s.tn = [] <;> simp [h, h1, h2]
  have HX := hd hx
  have HEE := hd (show ee = if tv = true then 10 else d by
    rw [← hee, HER2.o, ← htv]
    by_cases h1 : d = 0
    · by_cases h2 : (q.k = 1) ↔ (s.tn ≠ [])
      · rw [if_neg (fun h => h h1), if_pos h2, if_pos (decide_eq_true ⟨h1, h2⟩)]
      · rw [if_neg (fun h => h h1), if_neg h2, if_neg (fun h => h2 (of_decide_eq_true h).2), h1]
    · rw [if_pos h1, if_neg (fun h => h1 (of_decide_eq_true h).1)])
  rw [hee] at HN1 HN0
  clear htb2 htv hkc hx hee HER2
  go_cut [82] from 70 to 81 (fun b wx => b = .bool tv ∧ wx = w8.drew)
  case first =>
    by_cases hd0 : d = 0
    · subst hd0
      have hy := HX.o rfl
      go_region
      all_goals
        go_wp2_with fail
        go_meet
        refine ⟨?_, rfl⟩
        first | rfl | (simp only [hkb, htb, hy]; done) | (simp only [hkb, htc, hy]; done) | (simp [hkb, htb, htc, hy]; done) | (trace_state; fail)
    · have d0 : (d == 0) = false := by simpa using hd0
      have hz : tv = false := by rw [← HTV.o]; exact decide_eq_false (fun h => hd0 h.1)
      subst hz
      clear hd0
      go_region
      all_goals
        go_wp2_with fail
        go_meet
        exact ⟨rfl, rfl⟩
  case rest =>
  obtain ⟨rfl, rfl⟩ := hcut
  obtain ⟨w9, hw9⟩ : ∃ w9, w9 = w8.drew := ⟨_, rfl⟩
  rw [← hw9]
  have HT9 := hd (show Blk w9 T 61 #[.int .i64 1, .int .i64 (s.seq + 1), .int .i64 kk, .int .i64 0, .string ⟨#[]⟩, .string ⟨#[]⟩, .string ⟨#[]⟩, .string ⟨#[]⟩, .int .i64 0, .int .i64 0, .slice none 0 0, .int .i64 0, .int .i64 0, .int .i64 0, .int .i64 0] by rw [hw9]; exact HT8.o.drew)
  have HZ9 := hd (show Blk w9 w.heap.size 61 #[.int .i64 0, .int .i64 0, .int .i64 0, .int .i64 0, .string ⟨#[]⟩, .string ⟨#[]⟩, .string ⟨#[]⟩, .string ⟨#[]⟩, .int .i64 0, .int .i64 0, .slice none 0 0, .int .i64 0, .int .i64 0, .int .i64 0, .int .i64 0] by rw [hw9]; exact HZ8.o.drew)
  have HS9 := hd (show Blk w9 g 103 #[.pointer (some ⟨p, 0, none⟩), .string (bs s.tn), .int .i64 (s.seq + 1), .bool s.broken] by rw [hw9]; exact HS8.o.drew)
  have HP9 := hd (show Blk w9 p 123 (pipE s.room (s.buf.drop n) s.closed) by rw [hw9]; exact HP8.o.drew)
  have HQ9 := hd (show Blk w9 Q 26 #[.int .i64 q.k, .string (bs q.tn), .string (bs q.col), .string (bs q.uid), .string (bs q.card), .int .i64 q.ck, .int .i64 q.cv, .slice A q.ops.length c, .int .i64 q.tok, .int .i64 q.most, .int .i64 q.ticks] by rw [hw9]; exact HQ8.o.drew)
  have HC9 := hd (show Chg (Two g p) w w9 by rw [hw9]; exact HC8.o.drew)
  have HC98 := hd (show Chg (fun x => x < w7.heap.size) w8 w9 by rw [hw9]; exact (Chg.refl _ _).drew)
  clear hw9 u0 q1 hkb htb htc HX HT8 HZ8 HS8 HP8 HQ8 HC8
  go_upto_if 82 with (fail)
  go_cut [6] from 83 to 83 (fun e wx => e = .int .i64 ee ∧ wx = w9)
  case first =>
    cases tv with
    | true =>
      have e1 : ee = 10 := HEE.o
      subst e1
      go_wp2_with fail
      go_meet
      exact ⟨rfl, rfl⟩
    | false =>
      have e1 : ee = d := HEE.o
      subst e1
      go_wp2_with fail
      go_meet
      exact ⟨rfl, rfl⟩
  case rest =>
  obtain ⟨rfl, rfl⟩ := hcut
  clear HEE HTV
  by_cases he : ee = 0
  case neg =>
    have HN := hd (HN1.o he)
    have d1 : (ee != 0) = true := by simpa using he
    obtain ⟨y0, y1, y2, y3, y4, y5, y6, y7, y8, y9, y10, y11, y12, y13, y14⟩ := c15 HT9.o
    obtain ⟨g0, g1, g2, g3, g4, g5, g6, g7, g8, g9, g10, g11, g12, g13, g14⟩ := f15 HT9.o
    obtain ⟨z0, z1, z2, z3, z4, z5, z6, z7, z8, z9, z10, z11, z12, z13, z14⟩ := c15 HZ9.o
    obtain ⟨f0, f1, f2, f3, f4, f5, f6, f7, f8, f9, f10, f11, f12, f13, f14⟩ := f15 HZ9.o
    clear he HN1 HN0 HR9 HQ9 HC98
    go_wp2_with fail
    (try simp only [Exit.inBlock, Exit.then])
    rw [HQQ.o]
    refine bodyPost_ret (results_cell_row rfl _ _ _ _ _ _ _ rfl (set15 ((HZ9.o.far hTw2 _).far hTw2 _)) rfl rfl rfl) rfl ?_
    refine ⟨⟨none, 0, by rw [HN.o]; rfl, by rw [HN.o]; exact Row.nil _ _ _ _, ?_, ?_⟩⟩
    · rw [HN.o]; exact ⟨far15 ((HS9.o.far hTg2 _).far hTg2 _) hgw, far15 ((HP9.o.far hTp2 _).far hTp2 _) hpw⟩
    · exact chg15 ((HC9.o.setCell (.inr hTl) _).setCell (.inr hTl) _) (.inr (Nat.le_refl _))
  case pos =>
  have HN := hd (HN0.o he)
  have d1 : (ee != 0) = false := by simpa using he
  clear he HN1 HN0
  go_upto_region 18 with (fail)
  have u0 := HQ9.o.at_ 0 (v := .int .i64 q.k) rfl
  have u1 := HQ9.o.at_ 1 (v := .string (bs q.tn)) rfl
  have r1 := HS9.o.frozen 1
  have q1 := HS9.o.at_ 1 (v := .string (bs s.tn)) rfl
  obtain ⟨k1, hk1⟩ : ∃ k1, (q.k == 1) = k1 := ⟨_, rfl⟩
  have HK1 := hd hk1
  go_upto_if 91 with (fail)
  clear hk1
  go_cut [] from 92 to 96 (fun wx => Hd (SesR wx g p (nextS s).2) ∧ Hd (Blk wx T 61 #[.int .i64 1, .int .i64 (s.seq + 1), .int .i64 kk, .int .i64 0, .string ⟨#[]⟩, .string ⟨#[]⟩, .string ⟨#[]⟩, .string ⟨#[]⟩, .int .i64 0, .int .i64 0, .slice none 0 0, .int .i64 0, .int .i64 0, .int .i64 0, .int .i64 0]) ∧ Hd (Blk wx Q 26 #[.int .i64 q.k, .string (bs q.tn), .string (bs q.col), .string (bs q.uid), .string (bs q.card), .int .i64 q.ck, .int .i64 q.cv, .slice A q.ops.length c, .int .i64 q.tok, .int .i64 q.most, .int .i64 q.ticks]) ∧ Hd (Blk wx w.heap.size 61 #[.int .i64 0, .int .i64 0, .int .i64 0, .int .i64 0, .string ⟨#[]⟩, .string ⟨#[]⟩, .string ⟨#[]⟩, .string ⟨#[]⟩, .int .i64 0, .int .i64 0, .slice none 0 0, .int .i64 0, .int .i64 0, .int .i64 0, .int .i64 0]) ∧ Hd (Chg (Two g p) w wx) ∧ Hd (Chg (fun x => x < w7.heap.size) w8 wx))
  case first =>
    cases k1 with
    | true =>
      have HK := hd (show q.k = 1 by simpa using HK1.o)
      go_wp2_with fail
      go_meet
      rw [HN.o, if_pos HK.o]
      exact ⟨hd ⟨by simpa using HS9.o.set_ 1 (.string (bs q.tn)), HP9.o.far hgp.symm _⟩, hd (HT9.o.far hTg _), hd (HQ9.o.far hQg _), hd (HZ9.o.far hwg _), hd (HC9.o.setCell (.inl (.inl rfl)) _), hd (HC98.o.setCell (.inl hG7) _)⟩
    | false =>
      have HK := hd (show ¬ q.k = 1 by simpa using HK1.o)
      go_wp2_with fail
      go_meet
      rw [HN.o, if_neg HK.o]
      exact ⟨hd ⟨HS9.o, HP9.o⟩, HT9, HQ9, HZ9, HC9, HC98⟩
  case rest =>
  have HZ7 := hd hZ7
  clear u0 u1 r1 q1 HK1 HT9 HQ9 HZ9 HC9 HC98 HS9 HP9
  obtain ⟨HS10, HT10, HQ10, HZ10, HC10, HC108⟩ := hcut
  obtain ⟨y0, y1, y2, y3, y4, y5, y6, y7, y8, y9, y10, y11, y12, y13, y14⟩ := c15 HT10.o
  obtain ⟨g0, g1, g2, g3, g4, g5, g6, g7, g8, g9, g10, g11, g12, g13, g14⟩ := f15 HT10.o
  obtain ⟨u0, u1, u2, u3, u4, u5, u6, u7, u8, u9, u10⟩ := c11 HQ10.o
  go_upto_region 21 with (fail)
  obtain ⟨w11, hw11⟩ : ∃ w11, w11 = (((((((((((wc.setCell ⟨T, 3, none⟩ (.int .i64 q.k)).setCell ⟨T, 4, none⟩ (.string (bs q.tn))).setCell ⟨T, 5, none⟩ (.string (bs q.col))).setCell ⟨T, 6, none⟩ (.string (bs q.uid))).setCell ⟨T, 7, none⟩ (.string (bs q.card))).setCell ⟨T, 8, none⟩ (.int .i64 q.ck)).setCell ⟨T, 9, none⟩ (.int .i64 q.cv)).setCell ⟨T, 10, none⟩ (.slice A q.ops.length c)).setCell ⟨T, 11, none⟩ (.int .i64 q.tok)).setCell ⟨T, 12, none⟩ (.int .i64 q.most)).setCell ⟨T, 13, none⟩ (.int .i64 q.ticks)) := ⟨_, rfl⟩
  rw [← hw11]
  have HZ11 := hd (show Blk w11 w.heap.size 61 #[.int .i64 0, .int .i64 0, .int .i64 0, .int .i64 0, .string ⟨#[]⟩, .string ⟨#[]⟩, .string ⟨#[]⟩, .string ⟨#[]⟩, .int .i64 0, .int .i64 0, .slice none 0 0, .int .i64 0, .int .i64 0, .int .i64 0, .int .i64 0] by rw [hw11]; exact farq HZ10.o hTw2)
  have HT11 := hd (show Blk w11 T 61 #[.int .i64 1, .int .i64 (s.seq + 1), .int .i64 kk, .int .i64 q.k, .string (bs q.tn), .string (bs q.col), .string (bs q.uid), .string (bs q.card), .int .i64 q.ck, .int .i64 q.cv, .slice A q.ops.length c, .int .i64 q.tok, .int .i64 q.most, .int .i64 q.ticks, .int .i64 0] by rw [hw11]; exact setq HT10.o)
  have HS11 := hd (show SesR w11 g p (nextS s).2 by rw [hw11]; exact ⟨farq HS10.o.b hTg2, farq HS10.o.p hTp2⟩)
  have HC11 := hd (show Chg (Two g p) w w11 by rw [hw11]; exact chgq HC10.o (.inr hTl))
  have HC118 := hd (show Chg (fun x => x < w7.heap.size) w8 w11 by rw [hw11]; exact chgq HC108.o (.inl hT7))
  clear hw11 HT10 HZ10 HS10 HC10 HC108 HQ10 y0 g0 y1 g1 y2 g2 y3 g3 y4 g4 y5 g5 y6 g6 y7 g7 y8 g8 y9 g9 y10 g10 y11 g11 y12 g12 y13 g13 y14 g14 u0 u1 u2 u3 u4 u5 u6 u7 u8 u9 u10
  obtain ⟨y0, y1, y2, y3, y4, y5, y6, y7, y8, y9, y10, y11, y12, y13, y14⟩ := c15 HT11.o
  obtain ⟨z0, z1, z2, z3, z4, z5, z6, z7, z8, z9, z10, z11, z12, z13, z14⟩ := c15 HZ11.o
  obtain ⟨f0, f1, f2, f3, f4, f5, f6, f7, f8, f9, f10, f11, f12, f13, f14⟩ := f15 HZ11.o
  have HEQ := hd (show (nextS s).1 = ⟨1, s.seq + 1, kk, q, 0⟩ by rw [HN.o])
  have hZ7 : w.heap.size < w7.heap.size := HZ7.o
  go_wp2_with fail
  (try simp only [Exit.inBlock, Exit.then])
  rw [HQQ.o]
  refine bodyPost_ret (results_cell_row rfl _ _ _ _ _ _ _ rfl (set15 HZ11.o) rfl rfl rfl) rfl ?_
  refine ⟨⟨A, c, by rw [HEQ.o]; rfl, by rw [HEQ.o]; exact HR9.o _ (chg15 HC118.o (.inl hZ7)), ⟨far15 HS11.o.b hgw, far15 HS11.o.p hpw⟩, ?_⟩⟩
  exact chg15 HC11.o (.inr (Nat.le_refl _))
end Go.Proofs.YtogjokofmfpmgaaGreatDoor
namespace Go.Proofs.YtogjokofmfpmgaaGreatDoor
open Go.RowKit

set_option maxHeartbeats 4000000 in
theorem rpnew_calls (w : World) (r : Int) :
    Calls Tryz.prog 75 #[.int .i64 r] w fun e w' => e = .returned (.pointer (some ⟨w.heap.size, 0, none⟩)) ∧ Blk w' w.heap.size 58 (pipE (max r 0) [] false) ∧ Below w.heap.size w w' := by
  by_cases hr : r < 0
  · have hm : max r 0 = 0 := by omega
    have d1 : decide (r < 0) = true := by simpa using hr
    rw [hm]
    go_enter Tryz.func75, Tryz.ntmps75
    go_wp2
    go_ret
    exact ⟨rfl, Blk.new _ _ _, (Below.refl _ w).alloc (Nat.le_refl _) _⟩
  · have hm : max r 0 = r := by omega
    have d1 : decide (r < 0) = false := by simpa using hr
    rw [hm]
    go_enter Tryz.func75, Tryz.ntmps75
    go_wp2
    go_ret
    exact ⟨rfl, Blk.new _ _ _, (Below.refl _ w).alloc (Nat.le_refl _) _⟩

set_option maxHeartbeats 4000000 in
theorem rptake_calls (w : World) (g n : Nat) (r : Int) (b : List UInt8) (cl : Bool) (h : Blk w g 58 (pipE r b cl)) (hn : n ≤ b.length) (hb : b.length ≤ 1000000000) :
    Calls Tryz.prog 81 #[.pointer (some ⟨g, 0, none⟩), .int .i64 n] w fun e w' => e = .returned (.string (bs (b.take n))) ∧ Blk w' g 58 (pipE r (b.drop n) cl) ∧ Chg (One g) w w' := by
  have z1 : w.cell? ⟨g, 1, none⟩ = some (.string (bs b)) := h.at_ 1 rfl
  have f1 := h.frozen 1
  have H := hd h
  have hs := bs_size b
  have HX := hd (show (bs b).extract 0 n = bs (b.take n) by rw [bs_ext]; simp)
  have HY := hd (show (bs b).extract n (bs b).size = bs (b.drop n) by rw [bs_ext, bs_size, List.take_of_length_le (by simp)])
  have HF := hd (show Blk (w.setCell ⟨g, 1, none⟩ (.string (bs (b.drop n)))) g 58 (pipE r (b.drop n) cl) by have := h.set_ 1 (.string (bs (b.drop n))); simpa [pipE] using this)
  obtain ⟨s, hss⟩ : ∃ s, bs b = s := ⟨_, rfl⟩
  rw [hss] at z1 hs HX HY
  have hns : n ≤ s.size := by omega
  have hsl : s.size ≤ 1000000000 := by omega
  have hi : (n : Int) ≤ (s.size : Int) := by omega
  have h0 : (0 : Int) ≤ (n : Int) := by omega
  have m1 : max (n : Int) 0 = (n : Int) := by omega
  have m2 : min (n : Int) (s.size : Int) = (n : Int) := by omega
  clear h hss hs hn hb
  go_enter Tryz.func81, Tryz.ntmps81
  go_wp2
  go_ret
  rw [HX.o, HY.o]
  exact ⟨rfl, HF.o, chg_one _ _ _ _⟩

set_option maxHeartbeats 4000000 in
theorem rpput_calls (w : World) (g : Nat) (r : Int) (b : List UInt8) (cl : Bool) (s : ByteArray) (h : Blk w g 58 (pipE r b cl)) (hr0 : 0 ≤ r) (hr : r ≤ 9223372036854775807) (hb : b.length ≤ 1000000000) (hs : s.size ≤ 1000000000) :
    Calls Tryz.prog 31 #[.pointer (some ⟨g, 0, none⟩), .string s] w fun e w' => e = .returned (.bool (pipMay r b cl s)) ∧ Blk w' g 58 (pipE r (if pipMay r b cl s = true then b ++ s.data.toList else b) cl) ∧ Chg (One g) w w' := by
  have z0 : w.cell? ⟨g, 0, none⟩ = some (.int .i64 r) := h.at_ 0 rfl
  have z1 : w.cell? ⟨g, 1, none⟩ = some (.string (bs b)) := h.at_ 1 rfl
  have z2 : w.cell? ⟨g, 2, none⟩ = some (.bool cl) := h.at_ 2 rfl
  have f1 := h.frozen 1
  have H := hd h
  have hz := bs_size b
  have HSB := hd (show bs (b ++ s.data.toList) = bs b ++ s by apply ByteArray.ext; simp [bs])
  clear h
  cases cl with
  | true =>
    rw [show pipMay r b true s = false from rfl, if_neg (by decide)]
    go_enter Tryz.func31, Tryz.ntmps31
    go_upto_region 1 with (fail)
    go_quiet (fail)
    go_wp2
    go_ret
    exact ⟨rfl, H.o.drewN nq, (Chg.refl _ _).drewN nq⟩
  | false =>
    obtain ⟨m, hm⟩ : ∃ m, pipMay r b false s = m := ⟨_, rfl⟩
    have HT := hd (fun (hc : (s.size : Int) ≤ r - b.length) => show m = true by rw [← hm]; unfold pipMay; simpa using hc)
    have HF := hd (fun (hc : ¬ (s.size : Int) ≤ r - b.length) => show m = false by rw [← hm]; unfold pipMay; simpa using hc)
    rw [hm]
    obtain ⟨x, hx⟩ : ∃ x, bs b = x := ⟨_, rfl⟩
    rw [hx] at z1 hz HSB
    rw [← hz] at HT HF hb
    have w5 : IntKind.i64.wrap (r - (x.size : Int)) = r - (x.size : Int) := by rw [IntKind.wrap_i64]; omega
    clear hm hz hx
    by_cases hc : (s.size : Int) ≤ r - x.size
    · have d1 : decide (r - (x.size : Int) < (s.size : Int)) = false := by simp; omega
      rw [HT.o hc, if_pos rfl]
      go_enter Tryz.func31, Tryz.ntmps31
      go_upto_region 1 with (fail)
      go_quiet (fail)
      go_wp2
      go_ret
      refine ⟨rfl, ?_, ((Chg.refl (One g) w).drewN nq).setCell (p := ⟨g, 1, none⟩) (.inl rfl) _⟩
      have := (H.o.drewN nq).set_ 1 (.string (x ++ s))
      unfold pipE
      rw [HSB.o]
      simpa [pipE] using this
    · have d1 : decide (r - (x.size : Int) < (s.size : Int)) = true := by simp; omega
      rw [HF.o hc, if_neg (by decide)]
      go_enter Tryz.func31, Tryz.ntmps31
      go_upto_region 1 with (fail)
      go_quiet (fail)
      go_wp2
      go_ret
      exact ⟨rfl, H.o.drewN nq, (Chg.refl _ _).drewN nq⟩
end Go.Proofs.YtogjokofmfpmgaaGreatDoor
namespace Go.Proofs.YtogjokofmfpmgaaGreatDoor
open Go.RowKit

/-- The reference's session stands at block g; its pipe at block p. -/
structure RSesR (w : World) (g p : Nat) (s : Ss) : Prop where
  b : Blk w g 56 #[.pointer (some ⟨p, 0, none⟩), .string (bs s.tn), .int .i64 s.seq, .bool s.broken]
  p : Blk w p 58 (pipE s.room s.buf s.closed)
theorem RSesR.ne {w : World} {g p : Nat} {s : Ss} (h : RSesR w g p s) : g ≠ p := h.b.ne_ h.p (by decide)

set_option maxHeartbeats 4000000 in
theorem rsnew_calls (w : World) (r : Int) :
    Calls Tryz.prog 29 #[.int .i64 r] w fun e w' => ∃ g, e = .returned (.pointer (some ⟨g, 0, none⟩)) ∧ RSesR w' g w.heap.size (newS r) ∧ w.heap.size < g ∧ Below w.heap.size w w' := by
  have C1 := hd (rpnew_calls w r)
  go_enter Tryz.func29, Tryz.ntmps29
  go_wp2_with (go_at_call 75; refine C1.o.mono ?_; rintro e w1 ⟨rfl, hp, hb⟩; have HP := hd hp; have HB := hd hb; clear hp hb)
  go_ret
  exact ⟨_, rfl, ⟨Blk.new _ _ _, HP.o.alloc _⟩, HP.o.lt, HB.o.alloc HB.o.size _⟩
end Go.Proofs.YtogjokofmfpmgaaGreatDoor
namespace Go.Proofs.YtogjokofmfpmgaaGreatDoor
open Go.RowKit

theorem at8_s (s : ByteArray) (i : Nat) (h : i < s.size) : at8 s.data.toList i = s[i].toNat := by
  rw [at8_get (by simpa using h)]; rfl
set_option maxRecDepth 100000 in
theorem res_rfr {tmps : Array Value} {w : World} {g : Nat} {v0 v1 : Value} (hp : tmps.getD 2 undef = .pointer (some ⟨g, 0, none⟩)) (hb : Blk w g 107 #[v0, v1]) :
    (results Tryz.f80 tmps).run Tryz.prog w = .ok (.tuple #[.agg #[v0, v1], tmps.getD 3 undef, tmps.getD 4 undef]) w := res_cell2 rfl tmps w g 107 _ (0, 0) _ hp hb rfl rfl rfl

set_option maxRecDepth 100000 in
set_option maxHeartbeats 4000000 in
theorem rnext_calls (w : World) (s : ByteArray) (hs : s.size ≤ 1000000) :
    Calls Tryz.prog 80 #[.string s] w fun e w' => e = .returned (nextV s.data.toList) ∧ Below w.heap.size w w' := by
  obtain ⟨l, hl⟩ : ∃ l, s.data.toList = l := ⟨_, rfl⟩
  have hn : s.size = l.length := by rw [← hl]; simp
  rw [hl]
  obtain ⟨w0, hw0⟩ : ∃ w0, w0 = w.alloc (.cells #[.int .i64 0, .string ⟨#[]⟩] 107) := ⟨_, rfl⟩
  have HZ0 := hd (show Blk w0 w.heap.size 107 #[.int .i64 0, .string ⟨#[]⟩] by rw [hw0]; exact Blk.new _ _ _)
  have HB0 := hd (show Below w.heap.size w w0 by rw [hw0]; exact (Below.refl _ w).alloc (Nat.le_refl _) _)
  have HW0 := hd hw0
  have hz0 := HZ0.o.lt
  have z0 : w0.cell? ⟨w.heap.size, 0, none⟩ = some (.int .i64 0) := HZ0.o.at_ 0 rfl
  have z1 : w0.cell? ⟨w.heap.size, 1, none⟩ = some (.string ⟨#[]⟩) := HZ0.o.at_ 1 rfl
  have f0 := HZ0.o.frozen 0
  have f1 := HZ0.o.frozen 1
  clear hw0
  by_cases c1 : s.size < 3
  · have HV := hd (nextV_no (l := l) (x := 14) (by unfold frE; rw [if_pos (by omega)]) (by decide))
    clear hn hl
    go_enter Tryz.func80, Tryz.ntmps80
    go_upto_region 1 with (fail)
    rw [← HW0.o]
    go_wp2
    (try simp only [Exit.inBlock, Exit.then])
    refine bodyPost_ret (res_rfr rfl (set2 HZ0.o)) rfl ?_
    exact ⟨rfl.trans (congrArg Ending.returned HV.o).symm, bel2 HB0.o⟩
  have i0 : 0 < s.size := by omega
  have i1 : 1 < s.size := by omega
  have i2 : 2 < s.size := by omega
  have i0' : (0 : Int) < (s.size : Int) := by omega
  have i1' : (1 : Int) < (s.size : Int) := by omega
  have i2' : (2 : Int) < (s.size : Int) := by omega
  have hy0 := at8_s s 0 i0
  have hy1 := at8_s s 1 i1
  have hy2 := at8_s s 2 i2
  rw [hl] at hy0 hy1 hy2
  have a0 := at8_lt l 0
  have a1 := at8_lt l 1
  have a2 := at8_lt l 2
  have e1 := orJ (at8 l 0) (at8 l 1) a0 a1
  have e2 := orK (at8 l 0) (at8 l 1) (at8 l 2) a0 a1 a2
  have hz : at8 l 0 * 65536 + at8 l 1 * 256 + at8 l 2 = sizeF l := rfl
  rw [hz] at e2
  have hzl : sizeF l ≤ 16777215 := by unfold sizeF; omega
  obtain ⟨m, hm⟩ : ∃ m, at8 l 0 * 65536 + at8 l 1 * 256 = m := ⟨_, rfl⟩
  rw [hm] at e1 e2
  clear hz hm
  have g0 : (s[0].toNat : Int) = (at8 l 0 : Int) := by rw [hy0]
  have g1 : (s[1].toNat : Int) = (at8 l 1 : Int) := by rw [hy1]
  have g2 : (s[2].toNat : Int) = (at8 l 2 : Int) := by rw [hy2]
  clear hy0 hy1 hy2
  by_cases c2 : 20000 < sizeF l
  · have HV := hd (nextV_no (l := l) (x := 2) (by unfold frE; rw [if_neg (by omega), if_pos c2]) (by decide))
    have c2i : decide ((20000 : Int) < (sizeF l : Int)) = true := by simp; omega
    generalize at8 l 0 = y0 at *
    generalize at8 l 1 = y1 at *
    generalize at8 l 2 = y2 at *
    generalize sizeF l = z at *
    clear hn hl
    go_enter Tryz.func80, Tryz.ntmps80
    go_upto_region 1 with (fail)
    rw [← HW0.o]
    go_upto_region 3 with (fail)
    go_quiet (fail)
    go_wp2
    (try simp only [Exit.inBlock, Exit.then])
    refine bodyPost_ret (res_rfr rfl (set2 (HZ0.o.drewN _))) rfl ?_
    exact ⟨rfl.trans (congrArg Ending.returned HV.o).symm, bel2 (belN HB0.o)⟩
  have c2i : decide ((20000 : Int) < (sizeF l : Int)) = false := by simp; omega
  by_cases c3 : s.size < sizeF l + 6
  · have HV := hd (nextV_no (l := l) (x := 14) (by unfold frE; rw [if_neg (by omega), if_neg c2, if_pos (by omega)]) (by decide))
    generalize at8 l 0 = y0 at *
    generalize at8 l 1 = y1 at *
    generalize at8 l 2 = y2 at *
    generalize sizeF l = z at *
    clear hn hl
    go_enter Tryz.func80, Tryz.ntmps80
    go_upto_region 1 with (fail)
    rw [← HW0.o]
    go_upto_region 3 with (fail)
    go_quiet (fail)
    go_wp2
    (try simp only [Exit.inBlock, Exit.then])
    refine bodyPost_ret (res_rfr rfl (set2 (HZ0.o.drewN _))) rfl ?_
    exact ⟨rfl.trans (congrArg Ending.returned HV.o).symm, bel2 (belN HB0.o)⟩
  have c3i : ¬ (s.size : Int) < (sizeF l : Int) + 6 := by omega
  have b3 := at8_lt l 3
  have bA := at8_lt l (sizeF l + 4)
  have bB := at8_lt l (sizeF l + 5)
  have e3 := orI (at8 l (sizeF l + 4)) (at8 l (sizeF l + 5)) (by omega) (by omega) (by omega) (by omega)
  have hfl : (frB l).length = sizeF l := by unfold frB; rw [List.length_take, List.length_drop]; omega
  have HFS := hd (show sumF (at8 l 3) (frB l) = at8 l (sizeF l + 4) * 256 + at8 l (sizeF l + 5) → nextV l = .tuple #[.agg #[.int .i64 (at8 l 3 : Nat), .string (bs (frB l))], .int .i64 (sizeF l + 6 : Nat), .int .i64 0] from fun h => by
    rw [nextV_ok (by unfold frE; rw [if_neg (by omega), if_neg c2, if_neg (by omega), if_pos (show frSum l from h)])]; rfl)
  have HFN := hd (show ¬ sumF (at8 l 3) (frB l) = at8 l (sizeF l + 4) * 256 + at8 l (sizeF l + 5) → nextV l = .tuple #[.agg #[.int .i64 0, .string ⟨#[]⟩], .int .i64 0, .int .i64 1] from fun h =>
    nextV_no (by unfold frE; rw [if_neg (by omega), if_neg c2, if_neg (by omega), if_neg (show ¬ frSum l from h)]) (by decide))
  have i3 : 3 < s.size := by omega
  have i3' : (3 : Int) < (s.size : Int) := by omega
  have hy3 := at8_s s 3 i3
  obtain ⟨zA, hzA⟩ : ∃ zA, zA = sizeF l + 4 := ⟨_, rfl⟩
  obtain ⟨zB, hzB⟩ : ∃ zB, zB = sizeF l + 5 := ⟨_, rfl⟩
  have iA : zA < s.size := by omega
  have iB : zB < s.size := by omega
  have hyA := at8_s s zA iA
  have hyB := at8_s s zB iB
  rw [hl] at hy3 hyA hyB
  have g3 : (s[3].toNat : Int) = (at8 l 3 : Int) := by rw [hy3]
  have gA : (s[zA].toNat : Int) = (at8 l (sizeF l + 4) : Int) := by rw [← hyA, hzA]
  have gB : (s[zB].toNat : Int) = (at8 l (sizeF l + 5) : Int) := by rw [← hyB, hzB]
  have hx : s.extract 4 (4 + sizeF l) = bs (frB l) := by
    have : s = bs l := by rw [← hl]; rfl
    rw [this, bs_ext]
    unfold frB
    rw [show 4 + sizeF l - 4 = sizeF l by omega]
  clear hy3 hyA hyB
  generalize hz : sizeF l = z at *
  obtain ⟨bdy, hbd⟩ : ∃ bdy, bs (frB l) = bdy := ⟨_, rfl⟩
  have hbs : bdy.size ≤ 1000000000 := by rw [← hbd, bs_size, hfl]; omega
  have hbl : bdy.data.toList = frB l := by rw [← hbd, bs_data]
  rw [hbd] at HFS hx
  generalize at8 l 0 = y0 at *
  generalize at8 l 1 = y1 at *
  generalize at8 l 2 = y2 at *
  generalize at8 l 3 = y3 at *
  generalize at8 l (z + 4) = yA at *
  generalize at8 l (z + 5) = yB at *
  have HSM := hd (fun W => (rsum_calls y3 bdy b3 hbs W).mono (fun e w' (h : _ ∧ W = w') => And.intro h.1 h.2.symm))
  obtain ⟨sv, hsv⟩ : ∃ sv, sumF y3 bdy.data.toList = sv := ⟨_, rfl⟩
  rw [hsv] at HSM
  rw [← hbl, hsv] at HFS HFN
  clear hn hl hbd hfl hbl hsv
  go_enter Tryz.func80, Tryz.ntmps80
  go_upto_region 1 with (fail)
  rw [← HW0.o]
  go_upto_region 3 with (fail)
  go_quiet (fail)
  go_upto_region 8 with (fail)
  obtain ⟨W1, hW1⟩ : ∃ W1, w0.drewN nq = W1 := ⟨_, rfl⟩
  have HZ1 := hd (show Blk W1 w.heap.size 107 #[.int .i64 0, .string ⟨#[]⟩] by rw [← hW1]; exact HZ0.o.drewN _)
  have HB1 := hd (show Below w.heap.size w W1 by rw [← hW1]; exact belN HB0.o)
  rw [hW1]
  have w4 : IntKind.i64.wrap (4 + (z : Int)) = 4 + (z : Int) := by rw [IntKind.wrap_i64]; omega
  have n3' : (0 : Int) ≤ 3 := by decide
  have n4 : (4 : Int) ≤ 4 + (z : Int) := by omega
  have n5 : 4 + (z : Int) ≤ (s.size : Int) := by omega
  have nz : (4 + (z : Int)).toNat = 4 + z := by omega
  have w3 : IntKind.i64.wrap (y3 : Int) = (y3 : Int) := by rw [IntKind.wrap_i64]; omega
  clear hW1 z0 z1 f0 f1 hz0
  go_region_held3 (fun w' => Below 0 w' w') (exact Below.refl _ _) (first | fail)
  all_goals
    rename_i hheld
    clear hheld w4 n3' n4 n5 nz w3
    obtain ⟨W2, hW2⟩ : ∃ W2, W2 = (W1.alloc (.cells #[.int .i64 (y3 : Int), .string bdy] 107)).drew := ⟨_, rfl⟩
    rw [← hW2]
    have hf : Blk W2 W1.heap.size 107 #[.int .i64 (y3 : Int), .string bdy] := by rw [hW2]; exact (Blk.new _ _ _).drew
    have HZ2 := hd (show Blk W2 w.heap.size 107 #[.int .i64 0, .string ⟨#[]⟩] by rw [hW2]; exact (HZ1.o.alloc _).drew)
    have HBB := hd (show Below w.heap.size w W2 by rw [hW2]; exact (HB1.o.alloc HB1.o.size _).drew)
    have hne : W1.heap.size ≠ w.heap.size := Nat.ne_of_gt HZ1.o.lt
    obtain ⟨g6, hg6⟩ : ∃ g6, W1.heap.size = g6 := ⟨_, rfl⟩
    rw [hg6] at hf hne ⊢
    have j0 : W2.cell? ⟨g6, 0, none⟩ = some (.int .i64 (y3 : Int)) := hf.at_ 0 rfl
    have j1 : W2.cell? ⟨g6, 1, none⟩ = some (.string bdy) := hf.at_ 1 rfl
    have z0 : W2.cell? ⟨w.heap.size, 0, none⟩ = some (.int .i64 0) := HZ2.o.at_ 0 rfl
    have z1 : W2.cell? ⟨w.heap.size, 1, none⟩ = some (.string ⟨#[]⟩) := HZ2.o.at_ 1 rfl
    have f0 := HZ2.o.frozen 0
    have f1 := HZ2.o.frozen 1
    have w5 : IntKind.i64.wrap (4 + (z : Int)) = (zA : Int) := by rw [IntKind.wrap_i64]; omega
    have w6 : IntKind.i64.wrap (5 + (z : Int)) = (zB : Int) := by rw [IntKind.wrap_i64]; omega
    have lA : (zA : Int) < (s.size : Int) := by omega
    have lB : (zB : Int) < (s.size : Int) := by omega
    clear hf hg6 hW2 hx c2 c3 c3i hz hzA hzB
    go_upto_region 9 with (fail)
    go_quiet ((go_at_call 99; exact Calls.quiet_of_same (HSM.o _)))
    by_cases hf : sv = yA * 256 + yB
    · have nb : ((sv : Int) != (yA : Int) * 256 + (yB : Int)) = false := by simp; omega
      have HV := hd (HFS.o hf)
      clear HFS HFN hf
      go_wp2
      (try simp only [Exit.inBlock, Exit.then])
      refine bodyPost_ret (res_rfr rfl (set2 (HZ2.o.drewN _))) rfl ?_
      exact ⟨rfl.trans (congrArg Ending.returned HV.o).symm, bel2 (belN HBB.o)⟩
    · have nb : ((sv : Int) != (yA : Int) * 256 + (yB : Int)) = true := by simp; omega
      have HV := hd (HFN.o hf)
      clear HFS HFN hf
      go_wp2
      (try simp only [Exit.inBlock, Exit.then])
      refine bodyPost_ret (res_rfr rfl (set2 (HZ2.o.drewN _))) rfl ?_
      exact ⟨rfl.trans (congrArg Ending.returned HV.o).symm, bel2 (belN HBB.o)⟩
end Go.Proofs.YtogjokofmfpmgaaGreatDoor
namespace Go.Proofs.YtogjokofmfpmgaaGreatDoor
open Go.RowKit

theorem ready_is (s : Ss) : readyS s = (s.broken || (decide (frE s.buf ≠ 14) || s.closed)) := by
  unfold readyS lookW
  by_cases h1 : s.broken = true
  · rw [if_pos h1, h1]; rfl
  · rw [if_neg h1]
    have h1' : s.broken = false := by simpa using h1
    rw [h1']
    by_cases h2 : frE s.buf = 14
    · rw [if_pos h2, h2]
      by_cases h3 : s.closed = true
      · rw [if_pos h3, h3]; rfl
      · have h3' : s.closed = false := by simpa using h3
        rw [if_neg h3, h3']; rfl
    · rw [if_neg h2]
      by_cases h3 : frE s.buf = 0
      · rw [if_pos h3, h3]; rfl
      · rw [if_neg h3]; simp [h2]

set_option maxHeartbeats 4000000 in
theorem rready_calls (w : World) (g p : Nat) (s : Ss) (h : RSesR w g p s) (hb : s.buf.length ≤ 1000000) :
    Calls Tryz.prog 37 #[.pointer (some ⟨g, 0, none⟩)] w fun e w' => e = .returned (.bool (readyS s)) ∧ Below w.heap.size w w' := by
  rw [ready_is]
  have C1 := rnext_calls w (bs s.buf) (by rw [bs_size]; exact hb)
  rw [bs_data] at C1
  unfold nextV at C1
  have z0 : w.cell? ⟨g, 0, none⟩ = some (.pointer (some ⟨p, 0, none⟩)) := h.b.at_ 0 rfl
  have y1 : w.cell? ⟨p, 1, none⟩ = some (.string (bs s.buf)) := h.p.at_ 1 rfl
  have H := hd h
  have hgl := h.b.lt
  have hpl := h.p.lt
  obtain ⟨x, hx⟩ : ∃ x, frE s.buf = x := ⟨_, rfl⟩
  rw [hx] at C1 ⊢
  generalize (if x = 0 then frK s.buf else 0) = u1 at C1
  generalize bs (if x = 0 then frB s.buf else []) = u2 at C1
  generalize (if x = 0 then frN s.buf else 0) = u3 at C1
  replace C1 := hd C1
  clear h hx
  obtain ⟨room, buf, closed, tn, seq, broken⟩ := s
  simp only at *
  cases broken <;> cases closed <;> by_cases hx : x = 14
  all_goals
    have d1 : (x != 14) = decide (x ≠ 14) := by by_cases h14 : x = 14 <;> simp [h14]
    go_enter Tryz.func37, Tryz.ntmps37
    go_wp2_with (go_at_call 80; refine C1.o.mono ?_; rintro e w1 ⟨rfl, hb1⟩; have HB := hd hb1; have s3 := (hb1.cell (p := ⟨g, 3, none⟩) hgl).trans (H.o.b.at_ 3 rfl); have s0 := (hb1.cell (p := ⟨g, 0, none⟩) hgl).trans z0; have p2 := (hb1.cell (p := ⟨p, 2, none⟩) hpl).trans (H.o.p.at_ 2 rfl); have gl1 := Nat.lt_of_lt_of_le hgl hb1.size; have pl1 := Nat.lt_of_lt_of_le hpl hb1.size; have gn1 := Nat.ne_of_lt gl1; have pn1 := Nat.ne_of_lt pl1; (try simp only [pipE, List.getElem_toArray, List.getElem_cons_zero, List.getElem_cons_succ] at s3 s0 p2); clear hb1)
    all_goals
      go_ret
      exact ⟨by first | rfl | simp [hx] | simp_all, HB.o.alloc HB.o.size _⟩
end Go.Proofs.YtogjokofmfpmgaaGreatDoor
