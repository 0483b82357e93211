/-
  henref22.Sess: Next where something is asked: its words.
-/
import Derived.Test.YtogjokofmfpmgaaGreatDoorGSA
import Derived.Test.YtogjokofmfpmgaaGreatDoorGSB
import Derived.Test.YtogjokofmfpmgaaGreatDoorRReqI
import Derived.Test.YtogjokofmfpmgaaGreatDoorGAU
set_option linter.unusedVariables false
set_option linter.unusedSimpArgs false
namespace Go.Proofs.YtogjokofmfpmgaaGreatDoor
open Go.RowKit

/-- What the reference's Next hands back. -/
structure RNextR (w : World) (g p : Nat) (s : Ss) (e : Ending) (w' : World) : Prop where
  o : ∃ (A : Option Addr) (c : Nat), e = .returned (turnV (nextS s).1 A c) ∧ Row w' (From w.heap.size) 43 5 A (nextS s).1.q.ops.length c (opsE (nextS s).1.q.ops) ∧ RSesR w' g p (nextS s).2 ∧ Chg (Two g p) w w'
/-- Ahead of the return. -/
structure RMid (w : World) (g p T : Nat) (t : Tn) (s' : Ss) (wx : World) : Prop where
  o : ∃ (A : Option Addr) (c : Nat), Blk wx T 63 (turnE t A c).toArray ∧ Row wx (From w.heap.size) 43 5 A t.q.ops.length c (opsE t.q.ops) ∧ RSesR wx g p s' ∧ Blk wx w.heap.size 63 #[.int .i64 0, .int .i64 0, .int .i64 0, .int .i64 0, .string ⟨#[]⟩, .string ⟨#[]⟩, .string ⟨#[]⟩, .string ⟨#[]⟩, .int .i64 0, .int .i64 0, .slice none 0 0, .int .i64 0, .int .i64 0, .int .i64 0, .int .i64 0] ∧ Chg (Two g p) w wx
end Go.Proofs.YtogjokofmfpmgaaGreatDoor
namespace Go.Proofs.YtogjokofmfpmgaaGreatDoor
open Go.RowKit

set_option maxRecDepth 100000 in
set_option maxHeartbeats 40000000 in
theorem rnext_ask (w : World) (g p : Nat) (s : Ss) (h : RSesR w g p s) (hb : s.buf.length ≤ 1000000) (hx : lookW s = 1) (hq : 0 ≤ s.seq ∧ s.seq ≤ 1000000) :
    Calls Tryz.prog 35 #[.pointer (some ⟨g, 0, none⟩)] w fun e w' => RNextR w g p s e w' := by
  have hbr : s.broken = false ∧ frE s.buf = 0 := by
    rcases look_or s with h1 | h1 | ⟨h1, _⟩ | ⟨_, h1, h2⟩
    · omega
    · omega
    · omega
    · exact ⟨h1, h2⟩
  obtain ⟨fl1, fl2, fl3, fl4, fl5⟩ := frE_le hbr.2
  obtain ⟨w0, hw0⟩ : ∃ w0, w0 = w.alloc (.cells #[.int .i64 0, .int .i64 0, .int .i64 0, .int .i64 0, .string ⟨#[]⟩, .string ⟨#[]⟩, .string ⟨#[]⟩, .string ⟨#[]⟩, .int .i64 0, .int .i64 0, .slice none 0 0, .int .i64 0, .int .i64 0, .int .i64 0, .int .i64 0] 63) := ⟨_, rfl⟩
  have HZ0 := hd (show Blk w0 w.heap.size 63 #[.int .i64 0, .int .i64 0, .int .i64 0, .int .i64 0, .string ⟨#[]⟩, .string ⟨#[]⟩, .string ⟨#[]⟩, .string ⟨#[]⟩, .int .i64 0, .int .i64 0, .slice none 0 0, .int .i64 0, .int .i64 0, .int .i64 0, .int .i64 0] by rw [hw0]; exact Blk.new _ _ _)
  have HB0 := hd (show Below w.heap.size w w0 by rw [hw0]; exact (Below.refl _ w).alloc (Nat.le_refl _) _)
  have hs0 := h.b.below HB0.o h.b.lt
  have hp0 := h.p.below HB0.o h.p.lt
  have q0 := hs0.at_ 0 (v := .pointer (some ⟨p, 0, none⟩)) rfl
  have q3 := hs0.at_ 3 (v := .bool s.broken) rfl
  rw [hbr.1] at q3
  have p1 := hp0.at_ 1 (v := .string (bs s.buf)) rfl
  have C1 := rnext_calls w0 (bs s.buf) (by rw [bs_size]; exact hb)
  rw [bs_data, nextV_ok hbr.2] at C1
  have HE1 := hd (fun (he : errS s ≠ 0) => next_2 hx he)
  have HE0 := hd (fun (he : errS s = 0) => next_1 hx he)
  have hER : errS s = if (decQ (frK s.buf) (frB s.buf)).2 ≠ 0 then (decQ (frK s.buf) (frB s.buf)).2 else if ((decQ (frK s.buf) (frB s.buf)).1.k = 1) ↔ (s.tn ≠ []) then 10 else 0 := rfl
  have hKS : kindS s = if 1 ≤ frK s.buf ∧ frK s.buf ≤ 11 then (frK s.buf : Int) else 0 := rfl
  have hfl : (frB s.buf).length ≤ 1000000 := by omega
  have hgo : goS s = { s with seq := s.seq + 1, buf := s.buf.drop (frN s.buf) } := rfl
  rw [hgo] at HE1 HE0
  generalize frK s.buf = K at *
  generalize frB s.buf = B at *
  generalize frN s.buf = n at *
  replace C1 := hd C1
  have HW0 := hd hw0
  have HH := hd h
  have hwr : IntKind.i64.wrap (s.seq + 1) = s.seq + 1 := by rw [IntKind.wrap_i64]; omega
  have HNB := hd (show n ≤ s.buf.length ∧ s.buf.length ≤ 1000000000 from ⟨fl1, by omega⟩)
  have hgw : g ≠ w.heap.size := Nat.ne_of_lt h.b.lt
  have hwg : w.heap.size ≠ g := hgw.symm
  have hpw : p ≠ w.heap.size := Nat.ne_of_lt h.p.lt
  have HFL := hd hfl
  have HER := hd hER
  have HKS := hd hKS
  have HS0 := hd hs0
  have HP0 := hd hp0
  replace hbr := hd hbr
  clear hKS hER hw0 h hs0 hp0 hb hx hq fl1 fl2 fl3 fl4 fl5 hgo hfl
  obtain ⟨QQ, hQQ⟩ : ∃ QQ, QQ = bodyPost Tryz.prog Tryz.f35 (fun e w' => RNextR w g p s e w') := ⟨_, rfl⟩
  have HQQ := hd hQQ
  go_enter Tryz.func35, Tryz.ntmps35
  rw [← hQQ]
  clear hQQ
  go_upto_region 1 with (fail)
  rw [← HW0.o]
  go_upto_region 4 with (go_at_call 80; refine C1.o.mono ?_; rintro e w1 ⟨rfl, hb1⟩; have HB1 := hd (HB0.o.trans (hb1.mono HB0.o.size)); have HZ1 := hd (HZ0.o.below hb1 HZ0.o.lt); have HS1 := hd (HS0.o.below hb1 HS0.o.lt); have HP1 := hd (HP0.o.below hb1 HP0.o.lt); clear hb1)
  obtain ⟨w2, hw2⟩ : ∃ w2, w2 = w1.alloc (.cells #[.int .i64 (K : Nat), .string (bs B)] 107) := ⟨_, rfl⟩
  rw [← hw2]
  have HF2 := hd (show Blk w2 w1.heap.size 107 #[.int .i64 (K : Nat), .string (bs B)] by rw [hw2]; exact Blk.new _ _ _)
  have HZ2 := hd (show Blk w2 w.heap.size 63 #[.int .i64 0, .int .i64 0, .int .i64 0, .int .i64 0, .string ⟨#[]⟩, .string ⟨#[]⟩, .string ⟨#[]⟩, .string ⟨#[]⟩, .int .i64 0, .int .i64 0, .slice none 0 0, .int .i64 0, .int .i64 0, .int .i64 0, .int .i64 0] by rw [hw2]; exact HZ1.o.alloc _)
  have HB2 := hd (show Below w.heap.size w w2 by rw [hw2]; exact HB1.o.alloc HB1.o.size _)
  have hs2 : Blk w2 g 56 #[.pointer (some ⟨p, 0, none⟩), .string (bs s.tn), .int .i64 s.seq, .bool s.broken] := by rw [hw2]; exact HS1.o.alloc _
  have HP2 := hd (show Blk w2 p 58 (pipE s.room s.buf s.closed) by rw [hw2]; exact HP1.o.alloc _)
  have hFw : w.heap.size < w1.heap.size := HZ1.o.lt
  have t2 := hs2.at_ 2 (v := .int .i64 s.seq) rfl
  have r2 := hs2.frozen 2
  have HS2 := hd hs2
  clear hw2 hs2 q0 q3 p1
  generalize w1.heap.size = F at *
  go_upto_region 9 with (fail)
  obtain ⟨w3, hw3⟩ : ∃ w3, w3 = w2.setCell ⟨g, 2, none⟩ (.int .i64 (s.seq + 1)) := ⟨_, rfl⟩
  rw [← hw3]
  have hgF : g ≠ F := Nat.ne_of_lt (Nat.lt_trans HH.o.b.lt hFw)
  have HF3 := hd (show Blk w3 F 107 #[.int .i64 (K : Nat), .string (bs B)] by rw [hw3]; exact HF2.o.far hgF.symm _)
  have HZ3 := hd (show Blk w3 w.heap.size 63 #[.int .i64 0, .int .i64 0, .int .i64 0, .int .i64 0, .string ⟨#[]⟩, .string ⟨#[]⟩, .string ⟨#[]⟩, .string ⟨#[]⟩, .int .i64 0, .int .i64 0, .slice none 0 0, .int .i64 0, .int .i64 0, .int .i64 0, .int .i64 0] by rw [hw3]; exact HZ2.o.far hwg _)
  have hs3 : Blk w3 g 56 #[.pointer (some ⟨p, 0, none⟩), .string (bs s.tn), .int .i64 (s.seq + 1), .bool s.broken] := by rw [hw3]; simpa using HS2.o.set_ 2 (.int .i64 (s.seq + 1))
  have HP3 := hd (show Blk w3 p 58 (pipE s.room s.buf s.closed) by rw [hw3]; exact HP2.o.far (Ne.symm HH.o.ne) _)
  have HC3 := hd (show Chg (Two g p) w w3 by rw [hw3]; exact (Chg.of_below _ HB2.o).setCell (.inl (.inl rfl)) _)
  clear t2 r2 hw3
  have t0 := hs3.at_ 0 (v := .pointer (some ⟨p, 0, none⟩)) rfl
  have HS3 := hd hs3
  clear hs3
  have hFp : F ≠ p := Nat.ne_of_gt (Nat.lt_trans HH.o.p.lt hFw)
  have C2 := hd (rptake_calls w3 p n s.room s.buf s.closed HP3.o HNB.o.1 HNB.o.2)
  go_upto_region 13 with (go_at_call 81; refine C2.o.mono ?_; rintro e w4 ⟨rfl, hp4, hc4⟩; have HP4 := hd hp4; have HC4 := hd hc4; clear hp4 hc4)
  have HF4 := hd (HF3.o.chg HC4.o (fun h => hFp h))
  have HZ4 := hd (HZ3.o.chg HC4.o (fun h => hpw h.symm))
  have hs4 := HS3.o.chg HC4.o (fun h => HH.o.ne h)
  have HCC := hd (HC3.o.trans HC4.o (fun k hk => .inl (.inr hk)))
  have t2 := hs4.at_ 2 (v := .int .i64 (s.seq + 1)) rfl
  have y0 := HF4.o.at_ 0 (v := .int .i64 (K : Nat)) rfl
  have HS4 := hd hs4
  clear hs4 t0 C1 C2 HW0 HZ0 HB0 HB1 HZ1 HS1 HP1 HF2 HZ2 HB2 HP2 HS2 HF3 HZ3 HP3 HC3 HS3 HC4 HS0 HP0
  have gl4 := HS4.o.lt
  have fl4 := HF4.o.lt
  go_region
  have hTw : w4.heap.size ≠ w.heap.size := Nat.ne_of_gt HZ4.o.lt
  have hTg : w4.heap.size ≠ g := Nat.ne_of_gt HS4.o.lt
  have hTp : w4.heap.size ≠ p := Nat.ne_of_gt HP4.o.lt
  have hTF : w4.heap.size ≠ F := Nat.ne_of_gt HF4.o.lt
  have hTl : w.heap.size ≤ w4.heap.size := Nat.le_of_lt HZ4.o.lt
  rename_i K0 hK0
  refine hK0 _ _ ?_
  obtain ⟨w5, hw5⟩ : ∃ w5, w5 = (w4.alloc (.cells #[.int .i64 2, .int .i64 (s.seq + 1), .int .i64 (K : Nat), .int .i64 0, .string ⟨#[]⟩, .string ⟨#[]⟩, .string ⟨#[]⟩, .string ⟨#[]⟩, .int .i64 0, .int .i64 0, .slice none 0 0, .int .i64 0, .int .i64 0, .int .i64 0, .int .i64 0] 63)).drew := ⟨_, rfl⟩
  rw [← hw5]
  have HT5 := hd (show Blk w5 w4.heap.size 63 #[.int .i64 2, .int .i64 (s.seq + 1), .int .i64 (K : Nat), .int .i64 0, .string ⟨#[]⟩, .string ⟨#[]⟩, .string ⟨#[]⟩, .string ⟨#[]⟩, .int .i64 0, .int .i64 0, .slice none 0 0, .int .i64 0, .int .i64 0, .int .i64 0, .int .i64 0] by rw [hw5]; exact (Blk.new _ _ _).drew)
  have HF5 := hd (show Blk w5 F 107 #[.int .i64 (K : Nat), .string (bs B)] by rw [hw5]; exact (HF4.o.alloc _).drew)
  have HZ5 := hd (show Blk w5 w.heap.size 63 #[.int .i64 0, .int .i64 0, .int .i64 0, .int .i64 0, .string ⟨#[]⟩, .string ⟨#[]⟩, .string ⟨#[]⟩, .string ⟨#[]⟩, .int .i64 0, .int .i64 0, .slice none 0 0, .int .i64 0, .int .i64 0, .int .i64 0, .int .i64 0] by rw [hw5]; exact (HZ4.o.alloc _).drew)
  have HS5 := hd (show Blk w5 g 56 #[.pointer (some ⟨p, 0, none⟩), .string (bs s.tn), .int .i64 (s.seq + 1), .bool s.broken] by rw [hw5]; exact (HS4.o.alloc _).drew)
  have HP5 := hd (show Blk w5 p 58 (pipE s.room (s.buf.drop n) s.closed) by rw [hw5]; exact (HP4.o.alloc _).drew)
  have HCC5 := hd (show Chg (Two g p) w w5 by rw [hw5]; exact (HCC.o.alloc _).drew)
  clear hw5 K0 hK0 gl4 fl4 t2 y0 HF4 HZ4 HS4 HP4 HCC
  generalize w4.heap.size = T at *
  obtain ⟨kk, hkk⟩ : ∃ kk, kindS s = kk := ⟨_, rfl⟩
  have y0 := HF5.o.at_ 0 (v := .int .i64 (K : Nat)) rfl
  have hTF2 : F ≠ T := hTF.symm
  have hTg2 : g ≠ T := hTg.symm
  have hTw2 : w.heap.size ≠ T := hTw.symm
  have hTp2 : p ≠ T := hTp.symm
  obtain ⟨bK, hbK⟩ : ∃ bK, decide (K < 1 ∨ 11 < K) = bK := ⟨_, rfl⟩
  have HbK := hd hbK
  clear hbK
  go_upto_region 14 with (fail)
  go_cut [75] from 68 to 74 (fun b wx => b = .bool bK ∧ wx = w5)
  case first =>
    by_cases c1 : K < 1
    · have d1 : decide ((K : Int) < 1) = true := by simp; omega
      have hb : bK = true := by rw [← HbK.o]; simp; omega
      subst hb
      go_wp2_with fail
      go_meet
      exact ⟨rfl, rfl⟩
    · have d1 : decide ((K : Int) < 1) = false := by simp; omega
      by_cases c2 : 11 < K
      · have d2 : decide ((11 : Int) < (K : Int)) = true := by simp; omega
        have hb : bK = true := by rw [← HbK.o]; simp; omega
        subst hb
        go_wp2_with fail
        go_meet
        exact ⟨rfl, rfl⟩
      · have d2 : decide ((11 : Int) < (K : Int)) = false := by simp; omega
        have hb : bK = false := by rw [← HbK.o]; simp; omega
        subst hb
        go_wp2_with fail
        go_meet
        exact ⟨rfl, rfl⟩
  case rest =>
  obtain ⟨rfl, rfl⟩ := hcut
  have j2 := HT5.o.at_ 2 (v := .int .i64 (K : Nat)) rfl
  have g2 := HT5.o.frozen 2
  go_upto_if 75 with (fail)
  go_cut [] from 76 to 76 (fun wx => Hd (Blk wx T 63 #[.int .i64 2, .int .i64 (s.seq + 1), .int .i64 kk, .int .i64 0, .string ⟨#[]⟩, .string ⟨#[]⟩, .string ⟨#[]⟩, .string ⟨#[]⟩, .int .i64 0, .int .i64 0, .slice none 0 0, .int .i64 0, .int .i64 0, .int .i64 0, .int .i64 0]) ∧ Hd (Blk wx F 107 #[.int .i64 (K : Nat), .string (bs B)]) ∧ Hd (Blk wx w.heap.size 63 #[.int .i64 0, .int .i64 0, .int .i64 0, .int .i64 0, .string ⟨#[]⟩, .string ⟨#[]⟩, .string ⟨#[]⟩, .string ⟨#[]⟩, .int .i64 0, .int .i64 0, .slice none 0 0, .int .i64 0, .int .i64 0, .int .i64 0, .int .i64 0]) ∧ Hd (Blk wx g 56 #[.pointer (some ⟨p, 0, none⟩), .string (bs s.tn), .int .i64 (s.seq + 1), .bool s.broken]) ∧ Hd (Blk wx p 58 (pipE s.room (s.buf.drop n) s.closed)) ∧ Hd (Chg (Two g p) w wx))
  case first =>
    cases bK with
    | true =>
      have e : kk = 0 := by
        have := of_decide_eq_true HbK.o
        rw [← hkk, HKS.o, if_neg (by omega)]
      clear hkk
      subst e
      go_wp2_with fail
      go_meet
      exact ⟨hd (by simpa using HT5.o.set_ 2 (.int .i64 0)), hd (HF5.o.far hTF2 _), hd (HZ5.o.far hTw2 _), hd (HS5.o.far hTg2 _), hd (HP5.o.far hTp2 _), hd (HCC5.o.setCell (.inr hTl) _)⟩
    | false =>
      have e : kk = (K : Int) := by
        have := of_decide_eq_false HbK.o
        rw [← hkk, HKS.o, if_pos (by omega)]
      clear hkk
      subst e
      go_wp2_with fail
      go_meet
      exact ⟨HT5, HF5, HZ5, HS5, HP5, HCC5⟩
  case rest =>
  clear y0 j2 g2 HF5 HT5 HZ5 HS5 HP5 HCC5
  obtain ⟨HT6, HF6, HZ6, HS6, HP6, HC6⟩ := hcut
  go_upto_region 16 with (fail)
  obtain ⟨cap, w7, hrun, hrd, hbw, hcap⟩ := conv_to (P := Tryz.prog) wc 9 27 5 Tryz.underlying9 Tryz.underlying27 Tryz.underlying5 (bs B)
  rw [bs_data] at hrd
  have C3 := rdec_calls (K : Int) w7 _ (bs B).size cap B (bs_size B) hrd (by rw [bs_size]; exact HFL.o) hcap
  obtain ⟨q, hqd⟩ : ∃ q, (decQ (K : Int) B).1 = q := ⟨_, rfl⟩
  obtain ⟨d, hdd⟩ : ∃ d, (decQ (K : Int) B).2 = d := ⟨_, rfl⟩
  replace C3 := hd (C3.mono (R' := fun e w' => ∃ (A : Option Addr) (c : Nat), e = .returned (.tuple #[.agg #[.int .i64 q.k, .string (bs q.tn), .string (bs q.col), .string (bs q.uid), .string (bs q.card), .int .i64 q.ck, .int .i64 q.cv, .slice A q.ops.length c, .int .i64 q.tok, .int .i64 q.most, .int .i64 q.ticks], .int .i64 d]) ∧ Row w' (From w7.heap.size) 43 5 A q.ops.length c (opsE q.ops) ∧ Below w7.heap.size w7 w') (fun e w' h => by
    obtain ⟨A, c, h1, h2, h3⟩ := h.o
    rw [hqd, hdd] at h1
    rw [hqd] at h2
    exact ⟨A, c, h1, h2, h3⟩))
  have HER2 := hd (show errS s = if d ≠ 0 then d else if (q.k = 1) ↔ (s.tn ≠ []) then 10 else 0 by rw [HER.o, hqd, hdd])
  have HN1 := hd (fun (h : errS s ≠ 0) => show nextS s = (⟨2, s.seq + 1, kk, rq0, errS s⟩, { s with seq := s.seq + 1, buf := s.buf.drop n }) by rw [HE1.o h, hkk])
  have HN0 := hd (fun (h : errS s = 0) => show nextS s = (⟨1, s.seq + 1, kk, q, 0⟩, if q.k = 1 then { s with seq := s.seq + 1, buf := s.buf.drop n, tn := q.tn } else { s with seq := s.seq + 1, buf := s.buf.drop n }) by rw [HE0.o h, hkk, hqd])
  have y0 := HF6.o.at_ 0 (v := .int .i64 (K : Nat)) rfl
  have y1 := HF6.o.at_ 1 (v := .string (bs B)) rfl
  have HBW := hd hbw
  have h7 : wc.heap.size ≤ w7.heap.size := hbw.size
  clear hrd hbw hcap hqd hdd hkk HE1 HE0
  go_upto_block 0 with (go_at_call 18; refine C3.o.mono ?_; rintro e wd ⟨A, c, rfl, hrow, hbd⟩; have HROW := hd hrow; have HBD := hd (HBW.o.trans (hbd.mono h7)); clear hrow hbd)
  obtain ⟨w8, hw8⟩ : ∃ w8, w8 = wd.alloc (.cells #[.int .i64 q.k, .string (bs q.tn), .string (bs q.col), .string (bs q.uid), .string (bs q.card), .int .i64 q.ck, .int .i64 q.cv, .slice A q.ops.length c, .int .i64 q.tok, .int .i64 q.most, .int .i64 q.ticks] 26) := ⟨_, rfl⟩
  rw [← hw8]
  have hQl : wc.heap.size ≤ wd.heap.size := HBD.o.size
  have HQ8 := hd (show Blk w8 wd.heap.size 26 #[.int .i64 q.k, .string (bs q.tn), .string (bs q.col), .string (bs q.uid), .string (bs q.card), .int .i64 q.ck, .int .i64 q.cv, .slice A q.ops.length c, .int .i64 q.tok, .int .i64 q.most, .int .i64 q.ticks] by rw [hw8]; exact Blk.new _ _ _)
  have HT8 := hd (show Blk w8 T 63 #[.int .i64 2, .int .i64 (s.seq + 1), .int .i64 kk, .int .i64 0, .string ⟨#[]⟩, .string ⟨#[]⟩, .string ⟨#[]⟩, .string ⟨#[]⟩, .int .i64 0, .int .i64 0, .slice none 0 0, .int .i64 0, .int .i64 0, .int .i64 0, .int .i64 0] by rw [hw8]; exact (HT6.o.below HBD.o HT6.o.lt).alloc _)
  have HZ8 := hd (show Blk w8 w.heap.size 63 #[.int .i64 0, .int .i64 0, .int .i64 0, .int .i64 0, .string ⟨#[]⟩, .string ⟨#[]⟩, .string ⟨#[]⟩, .string ⟨#[]⟩, .int .i64 0, .int .i64 0, .slice none 0 0, .int .i64 0, .int .i64 0, .int .i64 0, .int .i64 0] by rw [hw8]; exact (HZ6.o.below HBD.o HZ6.o.lt).alloc _)
  have HS8 := hd (show Blk w8 g 56 #[.pointer (some ⟨p, 0, none⟩), .string (bs s.tn), .int .i64 (s.seq + 1), .bool s.broken] by rw [hw8]; exact (HS6.o.below HBD.o HS6.o.lt).alloc _)
  have HP8 := hd (show Blk w8 p 58 (pipE s.room (s.buf.drop n) s.closed) by rw [hw8]; exact (HP6.o.below HBD.o HP6.o.lt).alloc _)
  have HC8 := hd (show Chg (Two g p) w w8 by rw [hw8]; exact (HC6.o.then_below HBD.o).alloc _)
  have HR9 := hd (fun (W : World) (hW : Chg (fun x => x < w7.heap.size) w8 W) => ((show Row w8 (From w7.heap.size) 43 5 A q.ops.length c (opsE q.ops) by rw [hw8]; exact (HROW.o).alloc _).chg hW (fun x hx hx2 => absurd hx2 (Nat.not_lt.mpr hx))).mono (T := From w.heap.size) (fun x hx => Nat.le_trans HC6.o.size (Nat.le_trans h7 hx)))
  have hT7 : T < w7.heap.size := Nat.lt_of_lt_of_le HT6.o.lt h7
  have hG7 : g < w7.heap.size := Nat.lt_of_lt_of_le HS6.o.lt h7
  have hQT : wd.heap.size ≠ T := Nat.ne_of_gt (Nat.lt_of_lt_of_le HT6.o.lt hQl)
  have hQg : wd.heap.size ≠ g := Nat.ne_of_gt (Nat.lt_of_lt_of_le HS6.o.lt hQl)
  have hgp : g ≠ p := HH.o.ne
  clear hw8 hrun y0 y1 HROW HBD C3 HT6 HF6 HZ6 HS6 HP6 HC6 HBW h7 hQl
  generalize wd.heap.size = Q at *
  have u0 := HQ8.o.at_ 0 (v := .int .i64 q.k) rfl
  have q1 := HS8.o.at_ 1 (v := .string (bs s.tn)) rfl
  have xg14 := HT8.o.frozen 14
  have x14 := HT8.o.at_ 14 (v := .int .i64 0) rfl
  go_cut [] from 86 to 112 (fun wx => RMid w g p T (nextS s).1 (nextS s).2 wx)
  case first =>
    have HERR : ∀ (e : Int) (W : World), errS s = e → e ≠ 0 → Blk W T 63 #[.int .i64 2, .int .i64 (s.seq + 1), .int .i64 kk, .int .i64 0, .string ⟨#[]⟩, .string ⟨#[]⟩, .string ⟨#[]⟩, .string ⟨#[]⟩, .int .i64 0, .int .i64 0, .slice none 0 0, .int .i64 0, .int .i64 0, .int .i64 0, .int .i64 0] → Blk W w.heap.size 63 #[.int .i64 0, .int .i64 0, .int .i64 0, .int .i64 0, .string ⟨#[]⟩, .string ⟨#[]⟩, .string ⟨#[]⟩, .string ⟨#[]⟩, .int .i64 0, .int .i64 0, .slice none 0 0, .int .i64 0, .int .i64 0, .int .i64 0, .int .i64 0] → Blk W g 56 #[.pointer (some ⟨p, 0, none⟩), .string (bs s.tn), .int .i64 (s.seq + 1), .bool s.broken] → Blk W p 58 (pipE s.room (s.buf.drop n) s.closed) → Chg (Two g p) w W → RMid w g p T (nextS s).1 (nextS s).2 (W.setCell ⟨T, 14, none⟩ (.int .i64 e)) := by
      intro e W he h0 a1 a2 a3 a4 a5
      rw [HN1.o (by rw [he]; exact h0), he]
      exact ⟨⟨none, 0, by simpa [turnE, reqE, rq0, bs_nil8] using a1.set_ 14 (.int .i64 e), Row.nil _ _ _ _, ⟨a3.far hTg2 _, a4.far hTp2 _⟩, a2.far hTw2 _, a5.setCell (.inr hTl) _⟩⟩
    replace HERR := hd HERR
    obtain ⟨tb, htb⟩ : ∃ tb, (!(bs s.tn).toList.isEmpty) = tb := ⟨_, rfl⟩
    have htb2 : tb = decide (s.tn ≠ []) := by rw [← htb]; exact bs_ne s.tn
    have htc : (bs s.tn).toList.isEmpty = !tb := by rw [← htb, Bool.not_not]
    by_cases hd0 : d = 0
    case neg =>
      have he : errS s = d := by rw [HER2.o, if_pos hd0]
      have HE := hd he
      have HD := hd hd0
      have d1 : (d != 0) = true := by simpa using hd0
      clear he hd0 htb htb2 htc
      go_wp2_with fail
      go_meet
      exact HERR.o d w8 HE.o HD.o HT8.o HZ8.o HS8.o HP8.o HC8.o
    case pos =>
    subst hd0
    have her : errS s = if (q.k = 1) ↔ (s.tn ≠ []) then 10 else 0 := by rw [HER2.o, if_neg (by simp)]
    go_upto_region 22 with (fail)
    obtain ⟨tv, htv⟩ : ∃ tv, decide ((q.k = 1) ↔ (s.tn ≠ [])) = tv := ⟨_, rfl⟩
    have HTV := hd htv
    have hkt : ∃ kb, (q.k == 1) = kb ∧ kb = decide (q.k = 1) := ⟨_, rfl, by by_cases h : q.k = 1 <;> simp [h]⟩
    obtain ⟨kb, hkb, hkc⟩ := hkt
    have hx : (kb == tb) = tv := by rw [← htv, hkc, htb2]; by_cases h1 : q.k = 1 <;> by_cases h2 : s.tn = [] <;> simp [h1, h2]
    have HER3 := hd her
    clear htv htb2 her hkc
    go_cut [102] from 103 to 111 (fun b wx => b = .bool tv ∧ wx = w8.drew)
    case first =>
      go_region
      all_goals
        go_wp2_with fail
        go_meet
        refine ⟨?_, rfl⟩
        first | rfl | (simp only [hkb, htb, hx]; done) | (simp only [hkb, htc, hx]; done) | (simp [hkb, htb, htc, hx]; done) | (trace_state; fail)
    case rest =>
    obtain ⟨rfl, rfl⟩ := hcut
    obtain ⟨w9, hw9⟩ : ∃ w9, w9 = w8.drew := ⟨_, rfl⟩
    rw [← hw9]
    have HT9 := hd (show Blk w9 T 63 #[.int .i64 2, .int .i64 (s.seq + 1), .int .i64 kk, .int .i64 0, .string ⟨#[]⟩, .string ⟨#[]⟩, .string ⟨#[]⟩, .string ⟨#[]⟩, .int .i64 0, .int .i64 0, .slice none 0 0, .int .i64 0, .int .i64 0, .int .i64 0, .int .i64 0] by rw [hw9]; exact HT8.o.drew)
    have HZ9 := hd (show Blk w9 w.heap.size 63 #[.int .i64 0, .int .i64 0, .int .i64 0, .int .i64 0, .string ⟨#[]⟩, .string ⟨#[]⟩, .string ⟨#[]⟩, .string ⟨#[]⟩, .int .i64 0, .int .i64 0, .slice none 0 0, .int .i64 0, .int .i64 0, .int .i64 0, .int .i64 0] by rw [hw9]; exact HZ8.o.drew)
    have HS9 := hd (show Blk w9 g 56 #[.pointer (some ⟨p, 0, none⟩), .string (bs s.tn), .int .i64 (s.seq + 1), .bool s.broken] by rw [hw9]; exact HS8.o.drew)
    have HP9 := hd (show Blk w9 p 58 (pipE s.room (s.buf.drop n) s.closed) by rw [hw9]; exact HP8.o.drew)
    have HQ9 := hd (show Blk w9 Q 26 #[.int .i64 q.k, .string (bs q.tn), .string (bs q.col), .string (bs q.uid), .string (bs q.card), .int .i64 q.ck, .int .i64 q.cv, .slice A q.ops.length c, .int .i64 q.tok, .int .i64 q.most, .int .i64 q.ticks] by rw [hw9]; exact HQ8.o.drew)
    have HC9 := hd (show Chg (Two g p) w w9 by rw [hw9]; exact HC8.o.drew)
    have HC98 := hd (show Chg (fun x => x < w7.heap.size) w8 w9 by rw [hw9]; exact (Chg.refl _ _).drew)
    clear hw9 u0 q1 hkb htb htc hx x14 xg14
    cases tv with
    | true =>
      have HE := hd (show errS s = 10 by rw [HER3.o, if_pos (of_decide_eq_true HTV.o)])
      have x14 := HT9.o.at_ 14 (v := .int .i64 0) rfl
      have xg14 := HT9.o.frozen 14
      go_wp2_with fail
      go_meet
      exact HERR.o 10 w9 HE.o (by decide) HT9.o HZ9.o HS9.o HP9.o HC9.o
    | false =>
      have hnk := of_decide_eq_false HTV.o
      have HN := hd (HN0.o (by rw [HER3.o, if_neg hnk]))
      obtain ⟨u0, u1, u2, u3, u4, u5, u6, u7, u8, u9, u10⟩ := c11 HQ9.o
      obtain ⟨y0, y1, y2, y3, y4, y5, y6, y7, y8, y9, y10, y11, y12, y13, y14⟩ := c15 HT9.o
      obtain ⟨g0, g1, g2, g3, g4, g5, g6, g7, g8, g9, g10, g11, g12, g13, g14⟩ := f15 HT9.o
      have q1 := HS9.o.at_ 1 (v := .string (bs s.tn)) rfl
      have r1 := HS9.o.frozen 1
      clear hnk HERR HTV
      go_upto_region 17 with (fail)
      go_region
      rename_i K0 hK0
      refine hK0 _ _ ?_
      clear K0 hK0
      obtain ⟨w10, hw10⟩ : ∃ w10, w10 = ((((((((((((w9.setCell ⟨T, 0, none⟩ (.int .i64 1)).setCell ⟨T, 3, none⟩ (.int .i64 q.k)).setCell ⟨T, 4, none⟩ (.string (bs q.tn))).setCell ⟨T, 5, none⟩ (.string (bs q.col))).setCell ⟨T, 6, none⟩ (.string (bs q.uid))).setCell ⟨T, 7, none⟩ (.string (bs q.card))).setCell ⟨T, 8, none⟩ (.int .i64 q.ck)).setCell ⟨T, 9, none⟩ (.int .i64 q.cv)).setCell ⟨T, 10, none⟩ (.slice A q.ops.length c)).setCell ⟨T, 11, none⟩ (.int .i64 q.tok)).setCell ⟨T, 12, none⟩ (.int .i64 q.most)).setCell ⟨T, 13, none⟩ (.int .i64 q.ticks)).drew := ⟨_, rfl⟩
      rw [← hw10]
      have HT10 := hd (show Blk w10 T 63 #[.int .i64 1, .int .i64 (s.seq + 1), .int .i64 kk, .int .i64 q.k, .string (bs q.tn), .string (bs q.col), .string (bs q.uid), .string (bs q.card), .int .i64 q.ck, .int .i64 q.cv, .slice A q.ops.length c, .int .i64 q.tok, .int .i64 q.most, .int .i64 q.ticks, .int .i64 0] by rw [hw10]; exact (setq (show Blk (w9.setCell ⟨T, 0, none⟩ (.int .i64 1)) T 63 #[.int .i64 1, .int .i64 (s.seq + 1), .int .i64 kk, .int .i64 0, .string ⟨#[]⟩, .string ⟨#[]⟩, .string ⟨#[]⟩, .string ⟨#[]⟩, .int .i64 0, .int .i64 0, .slice none 0 0, .int .i64 0, .int .i64 0, .int .i64 0, .int .i64 0] by simpa using HT9.o.set_ 0 (.int .i64 1))).drew)
      have HZ10 := hd (show Blk w10 w.heap.size 63 #[.int .i64 0, .int .i64 0, .int .i64 0, .int .i64 0, .string ⟨#[]⟩, .string ⟨#[]⟩, .string ⟨#[]⟩, .string ⟨#[]⟩, .int .i64 0, .int .i64 0, .slice none 0 0, .int .i64 0, .int .i64 0, .int .i64 0, .int .i64 0] by rw [hw10]; exact (farq (HZ9.o.far hTw2 _) hTw2).drew)
      have HS10 := hd (show Blk w10 g 56 #[.pointer (some ⟨p, 0, none⟩), .string (bs s.tn), .int .i64 (s.seq + 1), .bool s.broken] by rw [hw10]; exact (farq (HS9.o.far hTg2 _) hTg2).drew)
      have HP10 := hd (show Blk w10 p 58 (pipE s.room (s.buf.drop n) s.closed) by rw [hw10]; exact (farq (HP9.o.far hTp2 _) hTp2).drew)
      have HQ10 := hd (show Blk w10 Q 26 #[.int .i64 q.k, .string (bs q.tn), .string (bs q.col), .string (bs q.uid), .string (bs q.card), .int .i64 q.ck, .int .i64 q.cv, .slice A q.ops.length c, .int .i64 q.tok, .int .i64 q.most, .int .i64 q.ticks] by rw [hw10]; exact (farq (HQ9.o.far hQT _) hQT).drew)
      have HC10 := hd (show Chg (Two g p) w w10 by rw [hw10]; exact (chgq (HC9.o.setCell (.inr hTl) _) (.inr hTl)).drew)
      have HC108 := hd (show Chg (fun x => x < w7.heap.size) w8 w10 by rw [hw10]; exact (chgq (HC98.o.setCell (.inl hT7) _) (.inl hT7)).drew)
      clear hw10 y0 g0 y1 g1 y2 g2 y3 g3 y4 g4 y5 g5 y6 g6 y7 g7 y8 g8 y9 g9 y10 g10 y11 g11 y12 g12 y13 g13 y14 g14 u0 u1 u2 u3 u4 u5 u6 u7 u8 u9 u10 q1 r1 HT9 HZ9 HS9 HP9 HQ9 HC9 HC98 HT8 HZ8 HS8 HP8 HQ8 HC8
      have v0 := HQ10.o.at_ 0 (v := .int .i64 q.k) rfl
      have v1 := HQ10.o.at_ 1 (v := .string (bs q.tn)) rfl
      have q1 := HS10.o.at_ 1 (v := .string (bs s.tn)) rfl
      have r1 := HS10.o.frozen 1
      by_cases hk : q.k = 1
      · have k1 : (q.k == 1) = true := by simpa using hk
        have HK := hd hk
        clear hk
        go_wp2_with fail
        go_meet
        rw [HN.o, if_pos HK.o]
        exact ⟨⟨A, c, HT10.o.far hTg _, HR9.o _ (HC108.o.setCell (.inl hG7) _), ⟨by simpa using HS10.o.set_ 1 (.string (bs q.tn)), HP10.o.far hgp.symm _⟩, HZ10.o.far hwg _, HC10.o.setCell (.inl (.inl rfl)) _⟩⟩
      · have k1 : (q.k == 1) = false := by simpa using hk
        have HK := hd hk
        clear hk
        go_wp2_with fail
        go_meet
        rw [HN.o, if_neg HK.o]
        exact ⟨⟨A, c, HT10.o, HR9.o _ HC108.o, ⟨HS10.o, HP10.o⟩, HZ10.o, HC10.o⟩⟩
  case rest =>
  obtain ⟨A2, c2, hT, hR, hS, hZ, hC⟩ := hcut.o
  have HFIN := hd (fun (W : World) (h1 : Row W (From w.heap.size) 43 5 A2 (nextS s).1.q.ops.length c2 (opsE (nextS s).1.q.ops)) (h2 : RSesR W g p (nextS s).2) (h3 : Chg (Two g p) w W) => show RNextR w g p s (.returned (turnV (nextS s).1 A2 c2)) W from ⟨⟨A2, c2, rfl, h1, h2, h3⟩⟩)
  generalize (nextS s).2 = s' at *
  generalize (nextS s).1 = t at *
  unfold turnE reqE at hT
  obtain ⟨y0, y1, y2, y3, y4, y5, y6, y7, y8, y9, y10, y11, y12, y13, y14⟩ := c15 (show Blk wc T 63 #[.int .i64 t.what, .int .i64 t.seq, .int .i64 t.k, .int .i64 t.q.k, .string (bs t.q.tn), .string (bs t.q.col), .string (bs t.q.uid), .string (bs t.q.card), .int .i64 t.q.ck, .int .i64 t.q.cv, .slice A2 t.q.ops.length c2, .int .i64 t.q.tok, .int .i64 t.q.most, .int .i64 t.q.ticks, .int .i64 t.e] from hT)
  obtain ⟨z0, z1, z2, z3, z4, z5, z6, z7, z8, z9, z10, z11, z12, z13, z14⟩ := c15 hZ
  obtain ⟨f0, f1, f2, f3, f4, f5, f6, f7, f8, f9, f10, f11, f12, f13, f14⟩ := f15 hZ
  have HZ := hd hZ
  have HR := hd hR
  have HS := hd hS
  have HC := hd hC
  clear hT hR hS hZ hC hcut u0 q1 xg14 x14 HQ8 HT8 HZ8 HS8 HP8 HC8 HR9
  go_wp2_with fail
  (try simp only [Exit.inBlock, Exit.then])
  rw [HQQ.o]
  refine bodyPost_ret (results_cell_row rfl _ _ _ _ _ _ _ rfl (set15 HZ.o) rfl rfl rfl) rfl ?_
  exact HFIN.o _ (HR.o.set15 HZ.o (by decide)) ⟨far15 HS.o.b hgw, far15 HS.o.p hpw⟩ (chg15 HC.o (.inr (Nat.le_refl _)))
end Go.Proofs.YtogjokofmfpmgaaGreatDoor
namespace Go.Proofs.YtogjokofmfpmgaaGreatDoor
open Go.RowKit

theorem rnext_whole (w : World) (g p : Nat) (s : Ss) (h : RSesR w g p s) (hb : s.buf.length ≤ 1000000) (hq : 0 ≤ s.seq ∧ s.seq ≤ 1000000) :
    Calls Tryz.prog 35 #[.pointer (some ⟨g, 0, none⟩)] w fun e w' => RNextR w g p s e w' := by
  have hN : ∀ (x : Int) e w', nextS s = (tn0 x, s) → (e = .returned (turnV (tn0 x) none 0) ∧ Below w.heap.size w w') → RNextR w g p s e w' := by
    rintro x e w' hn ⟨rfl, hb1⟩
    exact ⟨⟨none, 0, by rw [hn], by rw [hn]; exact Row.nil _ _ _ _, by rw [hn]; exact ⟨h.b.below hb1 h.b.lt, h.p.below hb1 h.p.lt⟩, Chg.of_below _ hb1⟩⟩
  cases hk : s.broken with
  | true =>
    have hl : lookW s = 4 := by unfold lookW; rw [if_pos hk]
    exact (rnext_over w g p s h hk).mono fun e w' k => hN 4 e w' (next_4 hl) k
  | false =>
    by_cases he : frE s.buf = 14
    · refine (rnext_short w g p s h hk hb he).mono fun e w' k => ?_
      by_cases hc : s.closed = true
      · rw [if_pos hc] at k
        exact hN 4 e w' (next_4 (by unfold lookW; rw [if_neg (by rw [hk]; decide), if_pos he, if_pos hc])) k
      · rw [if_neg hc] at k
        exact hN 0 e w' (next_0 (by unfold lookW; rw [if_neg (by rw [hk]; decide), if_pos he, if_neg hc])) k
    · by_cases he0 : frE s.buf = 0
      · exact rnext_ask w g p s h hb (by unfold lookW; rw [if_neg (by rw [hk]; decide), if_neg he, if_pos he0]) hq
      · refine (rnext_brk w g p s h hk hb he he0 hq).mono fun e w' k => ?_
        obtain ⟨rfl, hs, hc⟩ := k
        have h3 : lookW s = 3 := by unfold lookW; rw [if_neg (by rw [hk]; decide), if_neg he, if_neg he0]
        exact ⟨⟨none, 0, by rw [next_3 h3], by rw [next_3 h3]; exact Row.nil _ _ _ _, by rw [next_3 h3]; exact hs, hc⟩⟩
end Go.Proofs.YtogjokofmfpmgaaGreatDoor
