/-
  sess.Sess: Next where something is asked: way A.
-/
import Derived.Test.YtogjokofmfpmgaaGreatDoorGAU
set_option linter.unusedVariables false
set_option linter.unusedSimpArgs false
namespace Go.Proofs.YtogjokofmfpmgaaGreatDoor
open Go.RowKit

set_option maxRecDepth 100000 in
set_option maxHeartbeats 40000000 in
theorem next_askA (w : World) (g p : Nat) (s : Ss) (h : SesR w g p s) (hb : s.buf.length ≤ 1000000) (hx : lookW s = 1) (hq : 0 ≤ s.seq ∧ s.seq ≤ 1000000) (v : World) (ht : Tbs v) (hbv : Below v.heap.size v w) (hvg : v.heap.size ≤ g) (hvp : v.heap.size ≤ p) (harm : (decQ (frK s.buf) (frB s.buf)).2 ≠ 0) :
    Calls Tryz.prog 34 #[.pointer (some ⟨g, 0, none⟩)] w fun e w' => NextR w g p s e w' := by
  have hbr : s.broken = false ∧ frE s.buf = 0 := by
    rcases look_or s with h1 | h1 | ⟨h1, _⟩ | ⟨_, h1, h2⟩
    · omega
    · omega
    · omega
    · exact ⟨h1, h2⟩
  obtain ⟨fl1, fl2, fl3, fl4, fl5⟩ := frE_le hbr.2
  have hv : lookV s = .tuple #[.int .i64 1, .agg #[.int .i64 (frK s.buf : Nat), .string (bs (frB s.buf))], .int .i64 (frN s.buf : Nat), .int .i64 0] := by
    unfold lookV
    rw [hx, if_pos rfl]
  have HE1 := hd (fun (he : errS s ≠ 0) => next_2 hx he)
  have HE0 := hd (fun (he : errS s = 0) => next_1 hx he)
  have hER : errS s = if (decQ (frK s.buf) (frB s.buf)).2 ≠ 0 then (decQ (frK s.buf) (frB s.buf)).2 else if ((decQ (frK s.buf) (frB s.buf)).1.k = 1) ↔ (s.tn ≠ []) then 10 else 0 := rfl
  have hKS : kindS s = if 1 ≤ frK s.buf ∧ frK s.buf ≤ 11 then (frK s.buf : Int) else 0 := rfl
  have hfl : (frB s.buf).length ≤ 1000000 := by omega
  have hgo : goS s = { s with seq := s.seq + 1, buf := s.buf.drop (frN s.buf) } := rfl
  rw [hgo] at HE1 HE0
  generalize frK s.buf = K at *
  generalize frB s.buf = B at *
  generalize frN s.buf = n at *
  obtain ⟨w0, hw0⟩ : ∃ w0, w0 = w.alloc (.cells #[.int .i64 0, .int .i64 0, .int .i64 0, .int .i64 0, .string ⟨#[]⟩, .string ⟨#[]⟩, .string ⟨#[]⟩, .string ⟨#[]⟩, .int .i64 0, .int .i64 0, .slice none 0 0, .int .i64 0, .int .i64 0, .int .i64 0, .int .i64 0] 61) := ⟨_, rfl⟩
  have HZ0 := hd (show Blk w0 w.heap.size 61 #[.int .i64 0, .int .i64 0, .int .i64 0, .int .i64 0, .string ⟨#[]⟩, .string ⟨#[]⟩, .string ⟨#[]⟩, .string ⟨#[]⟩, .int .i64 0, .int .i64 0, .slice none 0 0, .int .i64 0, .int .i64 0, .int .i64 0, .int .i64 0] by rw [hw0]; exact Blk.new _ _ _)
  have HB0 := hd (show Below w.heap.size w w0 by rw [hw0]; exact (Below.refl _ w).alloc (Nat.le_refl _) _)
  have C1 := look_whole w0 g p s ⟨by rw [hw0]; exact h.b.alloc _, by rw [hw0]; exact h.p.alloc _⟩ hb
  rw [hv] at C1
  replace C1 := hd C1
  have HW0 := hd hw0
  have HH := hd h
  have HTB := hd (fun (W : World) (hW : Chg (Two g p) w W) => (ht.below (hbv.trans (hW.below (fun k hk => by rcases hk with rfl | rfl <;> assumption) hbv.size))))
  have hwr : IntKind.i64.wrap (s.seq + 1) = s.seq + 1 := by rw [IntKind.wrap_i64]; omega
  have HNB := hd (show n ≤ s.buf.length ∧ s.buf.length ≤ 1000000000 from ⟨fl1, by omega⟩)
  have hgw : g ≠ w.heap.size := Nat.ne_of_lt h.b.lt
  have hpw : p ≠ w.heap.size := Nat.ne_of_lt h.p.lt
  have HFL := hd hfl
  have HER := hd hER
  have HKS := hd hKS
  replace hbr := hd hbr
  clear hKS hER hw0 h hb hx hv hq ht hbv hvg hvp fl1 fl2 fl3 fl4 fl5 hgo hfl
  obtain ⟨QQ, hQQ⟩ : ∃ QQ, QQ = bodyPost Tryz.prog Tryz.f34 (fun e w' => NextR w g p s e w') := ⟨_, rfl⟩
  have HQQ := hd hQQ
  go_enter Tryz.func34, Tryz.ntmps34
  rw [← hQQ]
  clear hQQ
  go_upto_region 1 with (fail)
  rw [← HW0.o]
  go_upto_region 2 with (go_at_call 78; refine C1.o.mono ?_; rintro e w1 ⟨rfl, hb1⟩; have HB1 := hd (HB0.o.trans (hb1.mono HB0.o.size)); have HZ1 := hd (HZ0.o.below hb1 HZ0.o.lt); clear hb1)
  obtain ⟨w2, hw2⟩ : ∃ w2, w2 = w1.alloc (.cells #[.int .i64 (K : Nat), .string (bs B)] 75) := ⟨_, rfl⟩
  rw [← hw2]
  have HF2 := hd (show Blk w2 w1.heap.size 75 #[.int .i64 (K : Nat), .string (bs B)] by rw [hw2]; exact Blk.new _ _ _)
  have HZ2 := hd (show Blk w2 w.heap.size 61 #[.int .i64 0, .int .i64 0, .int .i64 0, .int .i64 0, .string ⟨#[]⟩, .string ⟨#[]⟩, .string ⟨#[]⟩, .string ⟨#[]⟩, .int .i64 0, .int .i64 0, .slice none 0 0, .int .i64 0, .int .i64 0, .int .i64 0, .int .i64 0] by rw [hw2]; exact HZ1.o.alloc _)
  have HB2 := hd (show Below w.heap.size w w2 by rw [hw2]; exact HB1.o.alloc HB1.o.size _)
  have hFw : w.heap.size ≤ w1.heap.size := HB1.o.size
  generalize w1.heap.size = F at *
  have hs2 := HH.o.b.below HB2.o HH.o.b.lt
  have HP2 := hd (HH.o.p.below HB2.o HH.o.p.lt)
  have q2 := hs2.at_ 2 (v := .int .i64 s.seq) rfl
  have r2 := hs2.frozen 2
  have HS2 := hd hs2
  clear hs2 hw2
  go_upto_region 5 with (fail)
  obtain ⟨w3, hw3⟩ : ∃ w3, w3 = w2.setCell ⟨g, 2, none⟩ (.int .i64 (s.seq + 1)) := ⟨_, rfl⟩
  rw [← hw3]
  have hgF : g ≠ F := Nat.ne_of_lt (Nat.lt_of_lt_of_le HH.o.b.lt hFw)
  have HF3 := hd (show Blk w3 F 75 #[.int .i64 (K : Nat), .string (bs B)] by rw [hw3]; exact HF2.o.far hgF.symm _)
  have HZ3 := hd (show Blk w3 w.heap.size 61 #[.int .i64 0, .int .i64 0, .int .i64 0, .int .i64 0, .string ⟨#[]⟩, .string ⟨#[]⟩, .string ⟨#[]⟩, .string ⟨#[]⟩, .int .i64 0, .int .i64 0, .slice none 0 0, .int .i64 0, .int .i64 0, .int .i64 0, .int .i64 0] by rw [hw3]; exact HZ2.o.far hgw.symm _)
  have hs3 : Blk w3 g 103 #[.pointer (some ⟨p, 0, none⟩), .string (bs s.tn), .int .i64 (s.seq + 1), .bool s.broken] := by rw [hw3]; simpa using HS2.o.set_ 2 (.int .i64 (s.seq + 1))
  have HP3 := hd (show Blk w3 p 123 (pipE s.room s.buf s.closed) by rw [hw3]; exact HP2.o.far (Ne.symm HH.o.ne) _)
  have HC3 := hd (show Chg (Two g p) w w3 by rw [hw3]; exact (Chg.of_below _ HB2.o).setCell (.inl (.inl rfl)) _)
  clear q2 r2 hw3
  have q2 := hs3.at_ 2 (v := .int .i64 (s.seq + 1)) rfl
  have HS3 := hd hs3
  clear hs3
  go_upto_region 6 with (fail)
  obtain ⟨w4, hw4⟩ : ∃ w4, w4 = w3.alloc (.cells #[.int .i64 1, .int .i64 (s.seq + 1), .int .i64 0, .int .i64 0, .string ⟨#[]⟩, .string ⟨#[]⟩, .string ⟨#[]⟩, .string ⟨#[]⟩, .int .i64 0, .int .i64 0, .slice none 0 0, .int .i64 0, .int .i64 0, .int .i64 0, .int .i64 0] 61) := ⟨_, rfl⟩
  rw [← hw4]
  have HT4 := hd (show Blk w4 w3.heap.size 61 #[.int .i64 1, .int .i64 (s.seq + 1), .int .i64 0, .int .i64 0, .string ⟨#[]⟩, .string ⟨#[]⟩, .string ⟨#[]⟩, .string ⟨#[]⟩, .int .i64 0, .int .i64 0, .slice none 0 0, .int .i64 0, .int .i64 0, .int .i64 0, .int .i64 0] by rw [hw4]; exact Blk.new _ _ _)
  have HF4 := hd (show Blk w4 F 75 #[.int .i64 (K : Nat), .string (bs B)] by rw [hw4]; exact HF3.o.alloc _)
  have HZ4 := hd (show Blk w4 w.heap.size 61 #[.int .i64 0, .int .i64 0, .int .i64 0, .int .i64 0, .string ⟨#[]⟩, .string ⟨#[]⟩, .string ⟨#[]⟩, .string ⟨#[]⟩, .int .i64 0, .int .i64 0, .slice none 0 0, .int .i64 0, .int .i64 0, .int .i64 0, .int .i64 0] by rw [hw4]; exact HZ3.o.alloc _)
  have hs4 : Blk w4 g 103 #[.pointer (some ⟨p, 0, none⟩), .string (bs s.tn), .int .i64 (s.seq + 1), .bool s.broken] := by rw [hw4]; exact HS3.o.alloc _
  have HP4 := hd (show Blk w4 p 123 (pipE s.room s.buf s.closed) by rw [hw4]; exact HP3.o.alloc _)
  have HC4 := hd (show Chg (Two g p) w w4 by rw [hw4]; exact HC3.o.alloc _)
  have hTw : w3.heap.size ≠ w.heap.size := Nat.ne_of_gt HZ3.o.lt
  have hTg : w3.heap.size ≠ g := Nat.ne_of_gt HS3.o.lt
  have hTp : w3.heap.size ≠ p := Nat.ne_of_gt HP3.o.lt
  have hTF : w3.heap.size ≠ F := Nat.ne_of_gt HF3.o.lt
  have hTl : w.heap.size ≤ w3.heap.size := Nat.le_of_lt HZ3.o.lt
  clear hw4 q2
  generalize w3.heap.size = T at *
  have hFp : F ≠ p := Nat.ne_of_gt (Nat.lt_of_lt_of_le HH.o.p.lt hFw)
  have q0 := hs4.at_ 0 (v := .pointer (some ⟨p, 0, none⟩)) rfl
  have HS4 := hd hs4
  clear hs4
  have C2 := hd (ptake_calls w4 p n s.room s.buf s.closed HP4.o HNB.o.1 HNB.o.2)
  go_upto_region 10 with (go_at_call 79; refine C2.o.mono ?_; rintro e w5 ⟨rfl, hp5, hc5⟩; have HP5 := hd hp5; have HC5 := hd hc5; clear hp5 hc5)
  have HT5 := hd (HT4.o.chg HC5.o (fun h => hTp h))
  have HF5 := hd (HF4.o.chg HC5.o (fun h => hFp h))
  have HZ5 := hd (HZ4.o.chg HC5.o (fun h => hpw h.symm))
  have HS5 := hd (HS4.o.chg HC5.o (fun h => HH.o.ne h))
  have HCC := hd (HC4.o.trans HC5.o (fun k hk => .inl (.inr hk)))
  clear q0 C1 C2 HW0 HZ0 HB0 HB1 HZ1 HF2 HZ2 HB2 HP2 HS2 HF3 HZ3 HP3 HC3 HS3 HT4 HF4 HZ4 HP4 HC4 HS4 HC5
  obtain ⟨kk, hkk⟩ : ∃ kk, kindS s = kk := ⟨_, rfl⟩
  obtain ⟨bK, hbK⟩ : ∃ bK, decide (1 ≤ K ∧ K ≤ 11) = bK := ⟨_, rfl⟩
  have y0 := HF5.o.at_ 0 (v := .int .i64 (K : Nat)) rfl
  have hTF2 : F ≠ T := hTF.symm
  have hTg2 : g ≠ T := hTg.symm
  have hTw2 : w.heap.size ≠ T := hTw.symm
  have hTp2 : p ≠ T := hTp.symm
  have hwg : w.heap.size ≠ g := hgw.symm
  have HbK := hd hbK
  clear hbK
  go_cut [57] from 50 to 56 (fun b wx => b = .bool bK ∧ wx = w5)
  case first =>
    by_cases c1 : 1 ≤ K
    · have d1 : decide ((1 : Int) ≤ (K : Int)) = true := by simp; omega
      by_cases c2 : K ≤ 11
      · have d2 : decide ((K : Int) ≤ 11) = true := by simp; omega
        have hb : bK = true := by rw [← HbK.o]; simp; omega
        subst hb
        go_wp2_with fail
        go_meet
        exact ⟨rfl, rfl⟩
      · have d2 : decide ((K : Int) ≤ 11) = false := by simp; omega
        have hb : bK = false := by rw [← HbK.o]; simp; omega
        subst hb
        go_wp2_with fail
        go_meet
        exact ⟨rfl, rfl⟩
    · have d1 : decide ((1 : Int) ≤ (K : Int)) = false := by simp; omega
      have hb : bK = false := by rw [← HbK.o]; simp; omega
      subst hb
      go_wp2_with fail
      go_meet
      exact ⟨rfl, rfl⟩
  case rest =>
  obtain ⟨rfl, rfl⟩ := hcut
  have j2 := HT5.o.at_ 2 (v := .int .i64 0) rfl
  have g2 := HT5.o.frozen 2
  go_upto_if 57 with (fail)
  go_cut [] from 58 to 60 (fun wx => Hd (Blk wx T 61 #[.int .i64 1, .int .i64 (s.seq + 1), .int .i64 kk, .int .i64 0, .string ⟨#[]⟩, .string ⟨#[]⟩, .string ⟨#[]⟩, .string ⟨#[]⟩, .int .i64 0, .int .i64 0, .slice none 0 0, .int .i64 0, .int .i64 0, .int .i64 0, .int .i64 0]) ∧ Hd (Blk wx F 75 #[.int .i64 (K : Nat), .string (bs B)]) ∧ Hd (Blk wx w.heap.size 61 #[.int .i64 0, .int .i64 0, .int .i64 0, .int .i64 0, .string ⟨#[]⟩, .string ⟨#[]⟩, .string ⟨#[]⟩, .string ⟨#[]⟩, .int .i64 0, .int .i64 0, .slice none 0 0, .int .i64 0, .int .i64 0, .int .i64 0, .int .i64 0]) ∧ Hd (Blk wx g 103 #[.pointer (some ⟨p, 0, none⟩), .string (bs s.tn), .int .i64 (s.seq + 1), .bool s.broken]) ∧ Hd (Blk wx p 123 (pipE s.room (s.buf.drop n) s.closed)) ∧ Hd (Chg (Two g p) w wx))
  case first =>
    cases bK with
    | false =>
      have e : kk = 0 := by
        have := of_decide_eq_false HbK.o
        rw [← hkk, HKS.o, if_neg this]
      clear hkk
      subst e
      go_wp2_with fail
      go_meet
      exact ⟨HT5, HF5, HZ5, HS5, HP5, HCC⟩
    | true =>
      have e : kk = (K : Int) := by
        have := of_decide_eq_true HbK.o
        rw [← hkk, HKS.o, if_pos this]
      clear hkk
      subst e
      go_wp2_with fail
      go_meet
      exact ⟨hd (by simpa using HT5.o.set_ 2 (.int .i64 (K : Nat))), hd (HF5.o.far hTF2 _), hd (HZ5.o.far hTw2 _), hd (HS5.o.far hTg2 _), hd (HP5.o.far hTp2 _), hd (HCC.o.setCell (.inr hTl) _)⟩
  case rest =>
  clear y0 j2 g2 HF5 HT5 HZ5 HS5 HP5 HCC
  obtain ⟨HT6, HF6, HZ6, HS6, HP6, HC6⟩ := hcut
  go_upto_region 12 with (fail)
  obtain ⟨cap, w7, hrun, hrd, hbw, hcap⟩ := conv_to (P := Tryz.prog) wc 9 27 5 Tryz.underlying9 Tryz.underlying27 Tryz.underlying5 (bs B)
  rw [bs_data] at hrd
  have hT7 : Tbs w7 := (HTB.o wc HC6.o).below hbw
  have C3 := dec_calls (K : Int) w7 _ (bs B).size cap B (bs_size B) hrd (by rw [bs_size]; exact HFL.o) hT7
  obtain ⟨q, hqd⟩ : ∃ q, (decQ (K : Int) B).1 = q := ⟨_, rfl⟩
  obtain ⟨d, hdd⟩ : ∃ d, (decQ (K : Int) B).2 = d := ⟨_, rfl⟩
  replace C3 := hd (C3.mono (R' := fun e w' => ∃ (A : Option Addr) (c : Nat), e = .returned (.tuple #[.agg #[.int .i64 q.k, .string (bs q.tn), .string (bs q.col), .string (bs q.uid), .string (bs q.card), .int .i64 q.ck, .int .i64 q.cv, .slice A q.ops.length c, .int .i64 q.tok, .int .i64 q.most, .int .i64 q.ticks], .int .i64 d]) ∧ Row w' (From w7.heap.size) 43 5 A q.ops.length c (opsE q.ops) ∧ Below w7.heap.size w7 w') (fun e w' h => by
    obtain ⟨A, c, h1, h2, h3⟩ := h.o
    rw [hqd, hdd] at h1
    rw [hqd] at h2
    exact ⟨A, c, h1, h2, h3⟩))
  have hER2 : errS s = if d ≠ 0 then d else if (q.k = 1) ↔ (s.tn ≠ []) then 10 else 0 := by rw [HER.o, hqd, hdd]
  have HARM := hd (show d ≠ 0 by have h := harm; (try rw [hdd] at h); (try rw [hqd] at h); exact h)
  have HN1 : errS s ≠ 0 → nextS s = (⟨2, s.seq + 1, kk, rq0, errS s⟩, { s with seq := s.seq + 1, buf := s.buf.drop n }) := fun h => by rw [HE1.o h, hkk]
  have HN0 : errS s = 0 → nextS s = (⟨1, s.seq + 1, kk, q, 0⟩, if q.k = 1 then { s with seq := s.seq + 1, buf := s.buf.drop n, tn := q.tn } else { s with seq := s.seq + 1, buf := s.buf.drop n }) := fun h => by rw [HE0.o h, hkk, hqd]
  have HER2 := hd hER2
  replace HN1 := hd HN1
  replace HN0 := hd HN0
  have y0 := HF6.o.at_ 0 (v := .int .i64 (K : Nat)) rfl
  have y1 := HF6.o.at_ 1 (v := .string (bs B)) rfl
  have HBW := hd hbw
  have h7 : wc.heap.size ≤ w7.heap.size := hbw.size
  clear harm hrd hbw hcap hT7 hqd hdd hER2 hkk HE1 HE0
  go_upto_region 13 with (go_at_call 17; refine C3.o.mono ?_; rintro e wd ⟨A, c, rfl, hrow, hbd⟩; have HROW := hd hrow; have HBD := hd (HBW.o.trans (hbd.mono h7)); clear hrow hbd)
  obtain ⟨w8, hw8⟩ : ∃ w8, w8 = wd.alloc (.cells #[.int .i64 q.k, .string (bs q.tn), .string (bs q.col), .string (bs q.uid), .string (bs q.card), .int .i64 q.ck, .int .i64 q.cv, .slice A q.ops.length c, .int .i64 q.tok, .int .i64 q.most, .int .i64 q.ticks] 26) := ⟨_, rfl⟩
  rw [← hw8]
  have hQl : wc.heap.size ≤ wd.heap.size := HBD.o.size
  have HQ8 := hd (show Blk w8 wd.heap.size 26 #[.int .i64 q.k, .string (bs q.tn), .string (bs q.col), .string (bs q.uid), .string (bs q.card), .int .i64 q.ck, .int .i64 q.cv, .slice A q.ops.length c, .int .i64 q.tok, .int .i64 q.most, .int .i64 q.ticks] by rw [hw8]; exact Blk.new _ _ _)
  have HT8 := hd (show Blk w8 T 61 #[.int .i64 1, .int .i64 (s.seq + 1), .int .i64 kk, .int .i64 0, .string ⟨#[]⟩, .string ⟨#[]⟩, .string ⟨#[]⟩, .string ⟨#[]⟩, .int .i64 0, .int .i64 0, .slice none 0 0, .int .i64 0, .int .i64 0, .int .i64 0, .int .i64 0] by rw [hw8]; exact (HT6.o.below HBD.o HT6.o.lt).alloc _)
  have HZ8 := hd (show Blk w8 w.heap.size 61 #[.int .i64 0, .int .i64 0, .int .i64 0, .int .i64 0, .string ⟨#[]⟩, .string ⟨#[]⟩, .string ⟨#[]⟩, .string ⟨#[]⟩, .int .i64 0, .int .i64 0, .slice none 0 0, .int .i64 0, .int .i64 0, .int .i64 0, .int .i64 0] by rw [hw8]; exact (HZ6.o.below HBD.o HZ6.o.lt).alloc _)
  have HS8 := hd (show Blk w8 g 103 #[.pointer (some ⟨p, 0, none⟩), .string (bs s.tn), .int .i64 (s.seq + 1), .bool s.broken] by rw [hw8]; exact (HS6.o.below HBD.o HS6.o.lt).alloc _)
  have HP8 := hd (show Blk w8 p 123 (pipE s.room (s.buf.drop n) s.closed) by rw [hw8]; exact (HP6.o.below HBD.o HP6.o.lt).alloc _)
  have HC8 := hd (show Chg (Two g p) w w8 by rw [hw8]; exact (HC6.o.then_below HBD.o).alloc _)
  have HR8 := hd (show Row w8 (From w.heap.size) 43 5 A q.ops.length c (opsE q.ops) by rw [hw8]; exact ((HROW.o).alloc _).mono (fun x hx => Nat.le_trans HC6.o.size (Nat.le_trans h7 hx)))
  have HR9 := hd (fun (W : World) (hW : Chg (fun x => x < w7.heap.size) w8 W) => ((show Row w8 (From w7.heap.size) 43 5 A q.ops.length c (opsE q.ops) by rw [hw8]; exact (HROW.o).alloc _).chg hW (fun x hx hx2 => absurd hx2 (Nat.not_lt.mpr hx))).mono (T := From w.heap.size) (fun x hx => Nat.le_trans HC6.o.size (Nat.le_trans h7 hx)))
  have hT7 : T < w7.heap.size := Nat.lt_of_lt_of_le HT6.o.lt h7
  have hZ7 : w.heap.size < w7.heap.size := Nat.lt_of_lt_of_le HZ6.o.lt h7
  have hG7 : g < w7.heap.size := Nat.lt_of_lt_of_le HS6.o.lt h7
  have hQT : wd.heap.size ≠ T := Nat.ne_of_gt (Nat.lt_of_lt_of_le HT6.o.lt hQl)
  have hQg : wd.heap.size ≠ g := Nat.ne_of_gt (Nat.lt_of_lt_of_le HS6.o.lt hQl)
  have hgp : g ≠ p := HH.o.ne
  clear hw8 hrun y0 y1 HROW HBD C3 HT6 HF6 HZ6 HS6 HP6 HC6 HBW h7 hQl
  generalize wd.heap.size = Q at *
  obtain ⟨tb, htb⟩ : ∃ tb, (!(bs s.tn).toList.isEmpty) = tb := ⟨_, rfl⟩
  have htb2 : tb = decide (s.tn ≠ []) := by rw [← htb]; exact bs_ne s.tn
  have htc : (bs s.tn).toList.isEmpty = !tb := by rw [← htb, Bool.not_not]
  have u0 := HQ8.o.at_ 0 (v := .int .i64 q.k) rfl
  have u1 := HQ8.o.at_ 1 (v := .string (bs q.tn)) rfl
  have q1 := HS8.o.at_ 1 (v := .string (bs s.tn)) rfl
  by_cases hd0 : d = 0
  · subst hd0
    have her : errS s = if (q.k = 1) ↔ (s.tn ≠ []) then 10 else 0 := by rw [HER2.o, if_neg (by simp)]
    by_cases hk : q.k = 1
    · have hkb : (q.k == 1) = true := by simpa using hk
      cases tb with
      | true =>
        have ht0 : s.tn ≠ [] := of_decide_eq_true htb2.symm
        have he : errS s = 10 := by rw [her, if_pos ⟨fun _ => ht0, fun _ => hk⟩]
        have HN := hd (HN1.o (by rw [he]; decide))
        have HE := hd he
        exfalso
        have h := HARM.o
        first | exact h rfl | exact h.2.1 hk | exact hk h.2.1 | exact h.2.2 ht0 | exact ht0 h.2.2 | exact hd0 h.1
      | false =>
        have ht0 : s.tn = [] := by simpa using htb2
        have he : errS s = 0 := by rw [her, if_neg (fun h => absurd ht0 (h.1 hk))]
        have HN := hd (HN0.o he)
        exfalso
        have h := HARM.o
        first | exact h rfl | exact h.2.1 hk | exact hk h.2.1 | exact h.2.2 ht0 | exact ht0 h.2.2 | exact hd0 h.1
    · have hkb : (q.k == 1) = false := by simpa using hk
      cases tb with
      | true =>
        have ht0 : s.tn ≠ [] := of_decide_eq_true htb2.symm
        have he : errS s = 0 := by rw [her, if_neg (fun h => hk (h.2 ht0))]
        have HN := hd (HN0.o he)
        exfalso
        have h := HARM.o
        first | exact h rfl | exact h.2.1 hk | exact hk h.2.1 | exact h.2.2 ht0 | exact ht0 h.2.2 | exact hd0 h.1
      | false =>
        have ht0 : s.tn = [] := by simpa using htb2
        have he : errS s = 10 := by rw [her, if_pos ⟨fun h => absurd h hk, fun h => absurd ht0 h⟩]
        have HN := hd (HN1.o (by rw [he]; decide))
        have HE := hd he
        exfalso
        have h := HARM.o
        first | exact h rfl | exact h.2.1 hk | exact hk h.2.1 | exact h.2.2 ht0 | exact ht0 h.2.2 | exact hd0 h.1
  · have he : errS s = d := by rw [HER2.o, if_pos hd0]
    have HN := hd (HN1.o (by rw [he]; exact hd0))
    have HE := hd he
    have d0 : (d == 0) = false := by simpa using hd0
    have d1 : (d != 0) = true := by simpa using hd0
    clear he hd0
    go_cut [82] from 70 to 81 (fun b wx => b = .bool false ∧ wx = w8.drew)
    case first =>
      go_region
      all_goals
        go_wp2_with fail
        go_meet
        refine ⟨?_, rfl⟩
        first | rfl | (simp only [htb]; done) | (simp only [htc]; rfl) | (simp only [hkb, htb]; rfl) | (simp [hkb, htb, htc]; done) | (trace_state; fail)
    case rest =>
      obtain ⟨rfl, rfl⟩ := hcut
      obtain ⟨w9, hw9⟩ : ∃ w9, w9 = w8.drew := ⟨_, rfl⟩
      rw [← hw9]
      have HT9 := hd (show Blk w9 T 61 #[.int .i64 1, .int .i64 (s.seq + 1), .int .i64 kk, .int .i64 0, .string ⟨#[]⟩, .string ⟨#[]⟩, .string ⟨#[]⟩, .string ⟨#[]⟩, .int .i64 0, .int .i64 0, .slice none 0 0, .int .i64 0, .int .i64 0, .int .i64 0, .int .i64 0] by rw [hw9]; exact HT8.o.drew)
      have HZ9 := hd (show Blk w9 w.heap.size 61 #[.int .i64 0, .int .i64 0, .int .i64 0, .int .i64 0, .string ⟨#[]⟩, .string ⟨#[]⟩, .string ⟨#[]⟩, .string ⟨#[]⟩, .int .i64 0, .int .i64 0, .slice none 0 0, .int .i64 0, .int .i64 0, .int .i64 0, .int .i64 0] by rw [hw9]; exact HZ8.o.drew)
      have HS9 := hd (show Blk w9 g 103 #[.pointer (some ⟨p, 0, none⟩), .string (bs s.tn), .int .i64 (s.seq + 1), .bool s.broken] by rw [hw9]; exact HS8.o.drew)
      have HP9 := hd (show Blk w9 p 123 (pipE s.room (s.buf.drop n) s.closed) by rw [hw9]; exact HP8.o.drew)
      have HC9 := hd (show Chg (Two g p) w w9 by rw [hw9]; exact HC8.o.drew)
      clear hw9 u0 u1 q1
      have y0 := HT9.o.at_ 0 rfl
      have y1 := HT9.o.at_ 1 rfl
      have y2 := HT9.o.at_ 2 rfl
      have y3 := HT9.o.at_ 3 rfl
      have y4 := HT9.o.at_ 4 rfl
      have y5 := HT9.o.at_ 5 rfl
      have y6 := HT9.o.at_ 6 rfl
      have y7 := HT9.o.at_ 7 rfl
      have y8 := HT9.o.at_ 8 rfl
      have y9 := HT9.o.at_ 9 rfl
      have y10 := HT9.o.at_ 10 rfl
      have y11 := HT9.o.at_ 11 rfl
      have y12 := HT9.o.at_ 12 rfl
      have y13 := HT9.o.at_ 13 rfl
      have y14 := HT9.o.at_ 14 rfl
      have g0 := HT9.o.frozen 0
      have g1 := HT9.o.frozen 1
      have g2 := HT9.o.frozen 2
      have g3 := HT9.o.frozen 3
      have g4 := HT9.o.frozen 4
      have g5 := HT9.o.frozen 5
      have g6 := HT9.o.frozen 6
      have g7 := HT9.o.frozen 7
      have g8 := HT9.o.frozen 8
      have g9 := HT9.o.frozen 9
      have g10 := HT9.o.frozen 10
      have g11 := HT9.o.frozen 11
      have g12 := HT9.o.frozen 12
      have g13 := HT9.o.frozen 13
      have g14 := HT9.o.frozen 14
      have z0 := HZ9.o.at_ 0 rfl
      have z1 := HZ9.o.at_ 1 rfl
      have z2 := HZ9.o.at_ 2 rfl
      have z3 := HZ9.o.at_ 3 rfl
      have z4 := HZ9.o.at_ 4 rfl
      have z5 := HZ9.o.at_ 5 rfl
      have z6 := HZ9.o.at_ 6 rfl
      have z7 := HZ9.o.at_ 7 rfl
      have z8 := HZ9.o.at_ 8 rfl
      have z9 := HZ9.o.at_ 9 rfl
      have z10 := HZ9.o.at_ 10 rfl
      have z11 := HZ9.o.at_ 11 rfl
      have z12 := HZ9.o.at_ 12 rfl
      have z13 := HZ9.o.at_ 13 rfl
      have z14 := HZ9.o.at_ 14 rfl
      have f0 := HZ9.o.frozen 0
      have f1 := HZ9.o.frozen 1
      have f2 := HZ9.o.frozen 2
      have f3 := HZ9.o.frozen 3
      have f4 := HZ9.o.frozen 4
      have f5 := HZ9.o.frozen 5
      have f6 := HZ9.o.frozen 6
      have f7 := HZ9.o.frozen 7
      have f8 := HZ9.o.frozen 8
      have f9 := HZ9.o.frozen 9
      have f10 := HZ9.o.frozen 10
      have f11 := HZ9.o.frozen 11
      have f12 := HZ9.o.frozen 12
      have f13 := HZ9.o.frozen 13
      have f14 := HZ9.o.frozen 14
      go_wp2_with fail
      (try simp only [Exit.inBlock, Exit.then])
      rw [HQQ.o]
      refine bodyPost_ret (results_cell_row rfl _ _ _ _ _ _ _ rfl (set15 ((HZ9.o.far hTw2 _).far hTw2 _)) rfl rfl rfl) rfl ?_
      refine ⟨⟨none, 0, by rw [HN.o, HE.o]; rfl, by rw [HN.o]; exact Row.nil _ _ _ _, ?_, ?_⟩⟩
      · rw [HN.o]; exact ⟨far15 ((HS9.o.far hTg2 _).far hTg2 _) hgw, far15 ((HP9.o.far hTp2 _).far hTp2 _) hpw⟩
      · exact chg15 ((HC9.o.setCell (.inr hTl) _).setCell (.inr hTl) _) (.inr (Nat.le_refl _))
end Go.Proofs.YtogjokofmfpmgaaGreatDoor
namespace Go.Proofs.YtogjokofmfpmgaaGreatDoor
open Go.RowKit

set_option maxRecDepth 100000 in
set_option maxHeartbeats 40000000 in
theorem next_askB (w : World) (g p : Nat) (s : Ss) (h : SesR w g p s) (hb : s.buf.length ≤ 1000000) (hx : lookW s = 1) (hq : 0 ≤ s.seq ∧ s.seq ≤ 1000000) (v : World) (ht : Tbs v) (hbv : Below v.heap.size v w) (hvg : v.heap.size ≤ g) (hvp : v.heap.size ≤ p) (harm : (decQ (frK s.buf) (frB s.buf)).2 = 0 ∧ (decQ (frK s.buf) (frB s.buf)).1.k = 1 ∧ s.tn ≠ []) :
    Calls Tryz.prog 34 #[.pointer (some ⟨g, 0, none⟩)] w fun e w' => NextR w g p s e w' := by
  have hbr : s.broken = false ∧ frE s.buf = 0 := by
    rcases look_or s with h1 | h1 | ⟨h1, _⟩ | ⟨_, h1, h2⟩
    · omega
    · omega
    · omega
    · exact ⟨h1, h2⟩
  obtain ⟨fl1, fl2, fl3, fl4, fl5⟩ := frE_le hbr.2
  have hv : lookV s = .tuple #[.int .i64 1, .agg #[.int .i64 (frK s.buf : Nat), .string (bs (frB s.buf))], .int .i64 (frN s.buf : Nat), .int .i64 0] := by
    unfold lookV
    rw [hx, if_pos rfl]
  have HE1 := hd (fun (he : errS s ≠ 0) => next_2 hx he)
  have HE0 := hd (fun (he : errS s = 0) => next_1 hx he)
  have hER : errS s = if (decQ (frK s.buf) (frB s.buf)).2 ≠ 0 then (decQ (frK s.buf) (frB s.buf)).2 else if ((decQ (frK s.buf) (frB s.buf)).1.k = 1) ↔ (s.tn ≠ []) then 10 else 0 := rfl
  have hKS : kindS s = if 1 ≤ frK s.buf ∧ frK s.buf ≤ 11 then (frK s.buf : Int) else 0 := rfl
  have hfl : (frB s.buf).length ≤ 1000000 := by omega
  have hgo : goS s = { s with seq := s.seq + 1, buf := s.buf.drop (frN s.buf) } := rfl
  rw [hgo] at HE1 HE0
  generalize frK s.buf = K at *
  generalize frB s.buf = B at *
  generalize frN s.buf = n at *
  obtain ⟨w0, hw0⟩ : ∃ w0, w0 = w.alloc (.cells #[.int .i64 0, .int .i64 0, .int .i64 0, .int .i64 0, .string ⟨#[]⟩, .string ⟨#[]⟩, .string ⟨#[]⟩, .string ⟨#[]⟩, .int .i64 0, .int .i64 0, .slice none 0 0, .int .i64 0, .int .i64 0, .int .i64 0, .int .i64 0] 61) := ⟨_, rfl⟩
  have HZ0 := hd (show Blk w0 w.heap.size 61 #[.int .i64 0, .int .i64 0, .int .i64 0, .int .i64 0, .string ⟨#[]⟩, .string ⟨#[]⟩, .string ⟨#[]⟩, .string ⟨#[]⟩, .int .i64 0, .int .i64 0, .slice none 0 0, .int .i64 0, .int .i64 0, .int .i64 0, .int .i64 0] by rw [hw0]; exact Blk.new _ _ _)
  have HB0 := hd (show Below w.heap.size w w0 by rw [hw0]; exact (Below.refl _ w).alloc (Nat.le_refl _) _)
  have C1 := look_whole w0 g p s ⟨by rw [hw0]; exact h.b.alloc _, by rw [hw0]; exact h.p.alloc _⟩ hb
  rw [hv] at C1
  replace C1 := hd C1
  have HW0 := hd hw0
  have HH := hd h
  have HTB := hd (fun (W : World) (hW : Chg (Two g p) w W) => (ht.below (hbv.trans (hW.below (fun k hk => by rcases hk with rfl | rfl <;> assumption) hbv.size))))
  have hwr : IntKind.i64.wrap (s.seq + 1) = s.seq + 1 := by rw [IntKind.wrap_i64]; omega
  have HNB := hd (show n ≤ s.buf.length ∧ s.buf.length ≤ 1000000000 from ⟨fl1, by omega⟩)
  have hgw : g ≠ w.heap.size := Nat.ne_of_lt h.b.lt
  have hpw : p ≠ w.heap.size := Nat.ne_of_lt h.p.lt
  have HFL := hd hfl
  have HER := hd hER
  have HKS := hd hKS
  replace hbr := hd hbr
  clear hKS hER hw0 h hb hx hv hq ht hbv hvg hvp fl1 fl2 fl3 fl4 fl5 hgo hfl
  obtain ⟨QQ, hQQ⟩ : ∃ QQ, QQ = bodyPost Tryz.prog Tryz.f34 (fun e w' => NextR w g p s e w') := ⟨_, rfl⟩
  have HQQ := hd hQQ
  go_enter Tryz.func34, Tryz.ntmps34
  rw [← hQQ]
  clear hQQ
  go_upto_region 1 with (fail)
  rw [← HW0.o]
  go_upto_region 2 with (go_at_call 78; refine C1.o.mono ?_; rintro e w1 ⟨rfl, hb1⟩; have HB1 := hd (HB0.o.trans (hb1.mono HB0.o.size)); have HZ1 := hd (HZ0.o.below hb1 HZ0.o.lt); clear hb1)
  obtain ⟨w2, hw2⟩ : ∃ w2, w2 = w1.alloc (.cells #[.int .i64 (K : Nat), .string (bs B)] 75) := ⟨_, rfl⟩
  rw [← hw2]
  have HF2 := hd (show Blk w2 w1.heap.size 75 #[.int .i64 (K : Nat), .string (bs B)] by rw [hw2]; exact Blk.new _ _ _)
  have HZ2 := hd (show Blk w2 w.heap.size 61 #[.int .i64 0, .int .i64 0, .int .i64 0, .int .i64 0, .string ⟨#[]⟩, .string ⟨#[]⟩, .string ⟨#[]⟩, .string ⟨#[]⟩, .int .i64 0, .int .i64 0, .slice none 0 0, .int .i64 0, .int .i64 0, .int .i64 0, .int .i64 0] by rw [hw2]; exact HZ1.o.alloc _)
  have HB2 := hd (show Below w.heap.size w w2 by rw [hw2]; exact HB1.o.alloc HB1.o.size _)
  have hFw : w.heap.size ≤ w1.heap.size := HB1.o.size
  generalize w1.heap.size = F at *
  have hs2 := HH.o.b.below HB2.o HH.o.b.lt
  have HP2 := hd (HH.o.p.below HB2.o HH.o.p.lt)
  have q2 := hs2.at_ 2 (v := .int .i64 s.seq) rfl
  have r2 := hs2.frozen 2
  have HS2 := hd hs2
  clear hs2 hw2
  go_upto_region 5 with (fail)
  obtain ⟨w3, hw3⟩ : ∃ w3, w3 = w2.setCell ⟨g, 2, none⟩ (.int .i64 (s.seq + 1)) := ⟨_, rfl⟩
  rw [← hw3]
  have hgF : g ≠ F := Nat.ne_of_lt (Nat.lt_of_lt_of_le HH.o.b.lt hFw)
  have HF3 := hd (show Blk w3 F 75 #[.int .i64 (K : Nat), .string (bs B)] by rw [hw3]; exact HF2.o.far hgF.symm _)
  have HZ3 := hd (show Blk w3 w.heap.size 61 #[.int .i64 0, .int .i64 0, .int .i64 0, .int .i64 0, .string ⟨#[]⟩, .string ⟨#[]⟩, .string ⟨#[]⟩, .string ⟨#[]⟩, .int .i64 0, .int .i64 0, .slice none 0 0, .int .i64 0, .int .i64 0, .int .i64 0, .int .i64 0] by rw [hw3]; exact HZ2.o.far hgw.symm _)
  have hs3 : Blk w3 g 103 #[.pointer (some ⟨p, 0, none⟩), .string (bs s.tn), .int .i64 (s.seq + 1), .bool s.broken] := by rw [hw3]; simpa using HS2.o.set_ 2 (.int .i64 (s.seq + 1))
  have HP3 := hd (show Blk w3 p 123 (pipE s.room s.buf s.closed) by rw [hw3]; exact HP2.o.far (Ne.symm HH.o.ne) _)
  have HC3 := hd (show Chg (Two g p) w w3 by rw [hw3]; exact (Chg.of_below _ HB2.o).setCell (.inl (.inl rfl)) _)
  clear q2 r2 hw3
  have q2 := hs3.at_ 2 (v := .int .i64 (s.seq + 1)) rfl
  have HS3 := hd hs3
  clear hs3
  go_upto_region 6 with (fail)
  obtain ⟨w4, hw4⟩ : ∃ w4, w4 = w3.alloc (.cells #[.int .i64 1, .int .i64 (s.seq + 1), .int .i64 0, .int .i64 0, .string ⟨#[]⟩, .string ⟨#[]⟩, .string ⟨#[]⟩, .string ⟨#[]⟩, .int .i64 0, .int .i64 0, .slice none 0 0, .int .i64 0, .int .i64 0, .int .i64 0, .int .i64 0] 61) := ⟨_, rfl⟩
  rw [← hw4]
  have HT4 := hd (show Blk w4 w3.heap.size 61 #[.int .i64 1, .int .i64 (s.seq + 1), .int .i64 0, .int .i64 0, .string ⟨#[]⟩, .string ⟨#[]⟩, .string ⟨#[]⟩, .string ⟨#[]⟩, .int .i64 0, .int .i64 0, .slice none 0 0, .int .i64 0, .int .i64 0, .int .i64 0, .int .i64 0] by rw [hw4]; exact Blk.new _ _ _)
  have HF4 := hd (show Blk w4 F 75 #[.int .i64 (K : Nat), .string (bs B)] by rw [hw4]; exact HF3.o.alloc _)
  have HZ4 := hd (show Blk w4 w.heap.size 61 #[.int .i64 0, .int .i64 0, .int .i64 0, .int .i64 0, .string ⟨#[]⟩, .string ⟨#[]⟩, .string ⟨#[]⟩, .string ⟨#[]⟩, .int .i64 0, .int .i64 0, .slice none 0 0, .int .i64 0, .int .i64 0, .int .i64 0, .int .i64 0] by rw [hw4]; exact HZ3.o.alloc _)
  have hs4 : Blk w4 g 103 #[.pointer (some ⟨p, 0, none⟩), .string (bs s.tn), .int .i64 (s.seq + 1), .bool s.broken] := by rw [hw4]; exact HS3.o.alloc _
  have HP4 := hd (show Blk w4 p 123 (pipE s.room s.buf s.closed) by rw [hw4]; exact HP3.o.alloc _)
  have HC4 := hd (show Chg (Two g p) w w4 by rw [hw4]; exact HC3.o.alloc _)
  have hTw : w3.heap.size ≠ w.heap.size := Nat.ne_of_gt HZ3.o.lt
  have hTg : w3.heap.size ≠ g := Nat.ne_of_gt HS3.o.lt
  have hTp : w3.heap.size ≠ p := Nat.ne_of_gt HP3.o.lt
  have hTF : w3.heap.size ≠ F := Nat.ne_of_gt HF3.o.lt
  have hTl : w.heap.size ≤ w3.heap.size := Nat.le_of_lt HZ3.o.lt
  clear hw4 q2
  generalize w3.heap.size = T at *
  have hFp : F ≠ p := Nat.ne_of_gt (Nat.lt_of_lt_of_le HH.o.p.lt hFw)
  have q0 := hs4.at_ 0 (v := .pointer (some ⟨p, 0, none⟩)) rfl
  have HS4 := hd hs4
  clear hs4
  have C2 := hd (ptake_calls w4 p n s.room s.buf s.closed HP4.o HNB.o.1 HNB.o.2)
  go_upto_region 10 with (go_at_call 79; refine C2.o.mono ?_; rintro e w5 ⟨rfl, hp5, hc5⟩; have HP5 := hd hp5; have HC5 := hd hc5; clear hp5 hc5)
  have HT5 := hd (HT4.o.chg HC5.o (fun h => hTp h))
  have HF5 := hd (HF4.o.chg HC5.o (fun h => hFp h))
  have HZ5 := hd (HZ4.o.chg HC5.o (fun h => hpw h.symm))
  have HS5 := hd (HS4.o.chg HC5.o (fun h => HH.o.ne h))
  have HCC := hd (HC4.o.trans HC5.o (fun k hk => .inl (.inr hk)))
  clear q0 C1 C2 HW0 HZ0 HB0 HB1 HZ1 HF2 HZ2 HB2 HP2 HS2 HF3 HZ3 HP3 HC3 HS3 HT4 HF4 HZ4 HP4 HC4 HS4 HC5
  obtain ⟨kk, hkk⟩ : ∃ kk, kindS s = kk := ⟨_, rfl⟩
  obtain ⟨bK, hbK⟩ : ∃ bK, decide (1 ≤ K ∧ K ≤ 11) = bK := ⟨_, rfl⟩
  have y0 := HF5.o.at_ 0 (v := .int .i64 (K : Nat)) rfl
  have hTF2 : F ≠ T := hTF.symm
  have hTg2 : g ≠ T := hTg.symm
  have hTw2 : w.heap.size ≠ T := hTw.symm
  have hTp2 : p ≠ T := hTp.symm
  have hwg : w.heap.size ≠ g := hgw.symm
  have HbK := hd hbK
  clear hbK
  go_cut [57] from 50 to 56 (fun b wx => b = .bool bK ∧ wx = w5)
  case first =>
    by_cases c1 : 1 ≤ K
    · have d1 : decide ((1 : Int) ≤ (K : Int)) = true := by simp; omega
      by_cases c2 : K ≤ 11
      · have d2 : decide ((K : Int) ≤ 11) = true := by simp; omega
        have hb : bK = true := by rw [← HbK.o]; simp; omega
        subst hb
        go_wp2_with fail
        go_meet
        exact ⟨rfl, rfl⟩
      · have d2 : decide ((K : Int) ≤ 11) = false := by simp; omega
        have hb : bK = false := by rw [← HbK.o]; simp; omega
        subst hb
        go_wp2_with fail
        go_meet
        exact ⟨rfl, rfl⟩
    · have d1 : decide ((1 : Int) ≤ (K : Int)) = false := by simp; omega
      have hb : bK = false := by rw [← HbK.o]; simp; omega
      subst hb
      go_wp2_with fail
      go_meet
      exact ⟨rfl, rfl⟩
  case rest =>
  obtain ⟨rfl, rfl⟩ := hcut
  have j2 := HT5.o.at_ 2 (v := .int .i64 0) rfl
  have g2 := HT5.o.frozen 2
  go_upto_if 57 with (fail)
  go_cut [] from 58 to 60 (fun wx => Hd (Blk wx T 61 #[.int .i64 1, .int .i64 (s.seq + 1), .int .i64 kk, .int .i64 0, .string ⟨#[]⟩, .string ⟨#[]⟩, .string ⟨#[]⟩, .string ⟨#[]⟩, .int .i64 0, .int .i64 0, .slice none 0 0, .int .i64 0, .int .i64 0, .int .i64 0, .int .i64 0]) ∧ Hd (Blk wx F 75 #[.int .i64 (K : Nat), .string (bs B)]) ∧ Hd (Blk wx w.heap.size 61 #[.int .i64 0, .int .i64 0, .int .i64 0, .int .i64 0, .string ⟨#[]⟩, .string ⟨#[]⟩, .string ⟨#[]⟩, .string ⟨#[]⟩, .int .i64 0, .int .i64 0, .slice none 0 0, .int .i64 0, .int .i64 0, .int .i64 0, .int .i64 0]) ∧ Hd (Blk wx g 103 #[.pointer (some ⟨p, 0, none⟩), .string (bs s.tn), .int .i64 (s.seq + 1), .bool s.broken]) ∧ Hd (Blk wx p 123 (pipE s.room (s.buf.drop n) s.closed)) ∧ Hd (Chg (Two g p) w wx))
  case first =>
    cases bK with
    | false =>
      have e : kk = 0 := by
        have := of_decide_eq_false HbK.o
        rw [← hkk, HKS.o, if_neg this]
      clear hkk
      subst e
      go_wp2_with fail
      go_meet
      exact ⟨HT5, HF5, HZ5, HS5, HP5, HCC⟩
    | true =>
      have e : kk = (K : Int) := by
        have := of_decide_eq_true HbK.o
        rw [← hkk, HKS.o, if_pos this]
      clear hkk
      subst e
      go_wp2_with fail
      go_meet
      exact ⟨hd (by simpa using HT5.o.set_ 2 (.int .i64 (K : Nat))), hd (HF5.o.far hTF2 _), hd (HZ5.o.far hTw2 _), hd (HS5.o.far hTg2 _), hd (HP5.o.far hTp2 _), hd (HCC.o.setCell (.inr hTl) _)⟩
  case rest =>
  clear y0 j2 g2 HF5 HT5 HZ5 HS5 HP5 HCC
  obtain ⟨HT6, HF6, HZ6, HS6, HP6, HC6⟩ := hcut
  go_upto_region 12 with (fail)
  obtain ⟨cap, w7, hrun, hrd, hbw, hcap⟩ := conv_to (P := Tryz.prog) wc 9 27 5 Tryz.underlying9 Tryz.underlying27 Tryz.underlying5 (bs B)
  rw [bs_data] at hrd
  have hT7 : Tbs w7 := (HTB.o wc HC6.o).below hbw
  have C3 := dec_calls (K : Int) w7 _ (bs B).size cap B (bs_size B) hrd (by rw [bs_size]; exact HFL.o) hT7
  obtain ⟨q, hqd⟩ : ∃ q, (decQ (K : Int) B).1 = q := ⟨_, rfl⟩
  obtain ⟨d, hdd⟩ : ∃ d, (decQ (K : Int) B).2 = d := ⟨_, rfl⟩
  replace C3 := hd (C3.mono (R' := fun e w' => ∃ (A : Option Addr) (c : Nat), e = .returned (.tuple #[.agg #[.int .i64 q.k, .string (bs q.tn), .string (bs q.col), .string (bs q.uid), .string (bs q.card), .int .i64 q.ck, .int .i64 q.cv, .slice A q.ops.length c, .int .i64 q.tok, .int .i64 q.most, .int .i64 q.ticks], .int .i64 d]) ∧ Row w' (From w7.heap.size) 43 5 A q.ops.length c (opsE q.ops) ∧ Below w7.heap.size w7 w') (fun e w' h => by
    obtain ⟨A, c, h1, h2, h3⟩ := h.o
    rw [hqd, hdd] at h1
    rw [hqd] at h2
    exact ⟨A, c, h1, h2, h3⟩))
  have hER2 : errS s = if d ≠ 0 then d else if (q.k = 1) ↔ (s.tn ≠ []) then 10 else 0 := by rw [HER.o, hqd, hdd]
  have HARM := hd (show d = 0 ∧ q.k = 1 ∧ s.tn ≠ [] by have h := harm; (try rw [hdd] at h); (try rw [hqd] at h); exact h)
  have HN1 : errS s ≠ 0 → nextS s = (⟨2, s.seq + 1, kk, rq0, errS s⟩, { s with seq := s.seq + 1, buf := s.buf.drop n }) := fun h => by rw [HE1.o h, hkk]
  have HN0 : errS s = 0 → nextS s = (⟨1, s.seq + 1, kk, q, 0⟩, if q.k = 1 then { s with seq := s.seq + 1, buf := s.buf.drop n, tn := q.tn } else { s with seq := s.seq + 1, buf := s.buf.drop n }) := fun h => by rw [HE0.o h, hkk, hqd]
  have HER2 := hd hER2
  replace HN1 := hd HN1
  replace HN0 := hd HN0
  have y0 := HF6.o.at_ 0 (v := .int .i64 (K : Nat)) rfl
  have y1 := HF6.o.at_ 1 (v := .string (bs B)) rfl
  have HBW := hd hbw
  have h7 : wc.heap.size ≤ w7.heap.size := hbw.size
  clear harm hrd hbw hcap hT7 hqd hdd hER2 hkk HE1 HE0
  go_upto_region 13 with (go_at_call 17; refine C3.o.mono ?_; rintro e wd ⟨A, c, rfl, hrow, hbd⟩; have HROW := hd hrow; have HBD := hd (HBW.o.trans (hbd.mono h7)); clear hrow hbd)
  obtain ⟨w8, hw8⟩ : ∃ w8, w8 = wd.alloc (.cells #[.int .i64 q.k, .string (bs q.tn), .string (bs q.col), .string (bs q.uid), .string (bs q.card), .int .i64 q.ck, .int .i64 q.cv, .slice A q.ops.length c, .int .i64 q.tok, .int .i64 q.most, .int .i64 q.ticks] 26) := ⟨_, rfl⟩
  rw [← hw8]
  have hQl : wc.heap.size ≤ wd.heap.size := HBD.o.size
  have HQ8 := hd (show Blk w8 wd.heap.size 26 #[.int .i64 q.k, .string (bs q.tn), .string (bs q.col), .string (bs q.uid), .string (bs q.card), .int .i64 q.ck, .int .i64 q.cv, .slice A q.ops.length c, .int .i64 q.tok, .int .i64 q.most, .int .i64 q.ticks] by rw [hw8]; exact Blk.new _ _ _)
  have HT8 := hd (show Blk w8 T 61 #[.int .i64 1, .int .i64 (s.seq + 1), .int .i64 kk, .int .i64 0, .string ⟨#[]⟩, .string ⟨#[]⟩, .string ⟨#[]⟩, .string ⟨#[]⟩, .int .i64 0, .int .i64 0, .slice none 0 0, .int .i64 0, .int .i64 0, .int .i64 0, .int .i64 0] by rw [hw8]; exact (HT6.o.below HBD.o HT6.o.lt).alloc _)
  have HZ8 := hd (show Blk w8 w.heap.size 61 #[.int .i64 0, .int .i64 0, .int .i64 0, .int .i64 0, .string ⟨#[]⟩, .string ⟨#[]⟩, .string ⟨#[]⟩, .string ⟨#[]⟩, .int .i64 0, .int .i64 0, .slice none 0 0, .int .i64 0, .int .i64 0, .int .i64 0, .int .i64 0] by rw [hw8]; exact (HZ6.o.below HBD.o HZ6.o.lt).alloc _)
  have HS8 := hd (show Blk w8 g 103 #[.pointer (some ⟨p, 0, none⟩), .string (bs s.tn), .int .i64 (s.seq + 1), .bool s.broken] by rw [hw8]; exact (HS6.o.below HBD.o HS6.o.lt).alloc _)
  have HP8 := hd (show Blk w8 p 123 (pipE s.room (s.buf.drop n) s.closed) by rw [hw8]; exact (HP6.o.below HBD.o HP6.o.lt).alloc _)
  have HC8 := hd (show Chg (Two g p) w w8 by rw [hw8]; exact (HC6.o.then_below HBD.o).alloc _)
  have HR8 := hd (show Row w8 (From w.heap.size) 43 5 A q.ops.length c (opsE q.ops) by rw [hw8]; exact ((HROW.o).alloc _).mono (fun x hx => Nat.le_trans HC6.o.size (Nat.le_trans h7 hx)))
  have HR9 := hd (fun (W : World) (hW : Chg (fun x => x < w7.heap.size) w8 W) => ((show Row w8 (From w7.heap.size) 43 5 A q.ops.length c (opsE q.ops) by rw [hw8]; exact (HROW.o).alloc _).chg hW (fun x hx hx2 => absurd hx2 (Nat.not_lt.mpr hx))).mono (T := From w.heap.size) (fun x hx => Nat.le_trans HC6.o.size (Nat.le_trans h7 hx)))
  have hT7 : T < w7.heap.size := Nat.lt_of_lt_of_le HT6.o.lt h7
  have hZ7 : w.heap.size < w7.heap.size := Nat.lt_of_lt_of_le HZ6.o.lt h7
  have hG7 : g < w7.heap.size := Nat.lt_of_lt_of_le HS6.o.lt h7
  have hQT : wd.heap.size ≠ T := Nat.ne_of_gt (Nat.lt_of_lt_of_le HT6.o.lt hQl)
  have hQg : wd.heap.size ≠ g := Nat.ne_of_gt (Nat.lt_of_lt_of_le HS6.o.lt hQl)
  have hgp : g ≠ p := HH.o.ne
  clear hw8 hrun y0 y1 HROW HBD C3 HT6 HF6 HZ6 HS6 HP6 HC6 HBW h7 hQl
  generalize wd.heap.size = Q at *
  obtain ⟨tb, htb⟩ : ∃ tb, (!(bs s.tn).toList.isEmpty) = tb := ⟨_, rfl⟩
  have htb2 : tb = decide (s.tn ≠ []) := by rw [← htb]; exact bs_ne s.tn
  have htc : (bs s.tn).toList.isEmpty = !tb := by rw [← htb, Bool.not_not]
  have u0 := HQ8.o.at_ 0 (v := .int .i64 q.k) rfl
  have u1 := HQ8.o.at_ 1 (v := .string (bs q.tn)) rfl
  have q1 := HS8.o.at_ 1 (v := .string (bs s.tn)) rfl
  by_cases hd0 : d = 0
  · subst hd0
    have her : errS s = if (q.k = 1) ↔ (s.tn ≠ []) then 10 else 0 := by rw [HER2.o, if_neg (by simp)]
    by_cases hk : q.k = 1
    · have hkb : (q.k == 1) = true := by simpa using hk
      cases tb with
      | true =>
        have ht0 : s.tn ≠ [] := of_decide_eq_true htb2.symm
        have he : errS s = 10 := by rw [her, if_pos ⟨fun _ => ht0, fun _ => hk⟩]
        have HN := hd (HN1.o (by rw [he]; decide))
        have HE := hd he
        clear her he htb2 ht0 hk
        go_cut [82] from 70 to 81 (fun b wx => b = .bool true ∧ wx = w8.drew)
        case first =>
          go_region
          all_goals
            go_wp2_with fail
            go_meet
            refine ⟨?_, rfl⟩
            first | rfl | (simp only [htb]; done) | (simp only [htc]; rfl) | (simp only [hkb, htb]; rfl) | (simp [hkb, htb, htc]; done) | (trace_state; fail)
        case rest =>
          obtain ⟨rfl, rfl⟩ := hcut
          obtain ⟨w9, hw9⟩ : ∃ w9, w9 = w8.drew := ⟨_, rfl⟩
          rw [← hw9]
          have HT9 := hd (show Blk w9 T 61 #[.int .i64 1, .int .i64 (s.seq + 1), .int .i64 kk, .int .i64 0, .string ⟨#[]⟩, .string ⟨#[]⟩, .string ⟨#[]⟩, .string ⟨#[]⟩, .int .i64 0, .int .i64 0, .slice none 0 0, .int .i64 0, .int .i64 0, .int .i64 0, .int .i64 0] by rw [hw9]; exact HT8.o.drew)
          have HZ9 := hd (show Blk w9 w.heap.size 61 #[.int .i64 0, .int .i64 0, .int .i64 0, .int .i64 0, .string ⟨#[]⟩, .string ⟨#[]⟩, .string ⟨#[]⟩, .string ⟨#[]⟩, .int .i64 0, .int .i64 0, .slice none 0 0, .int .i64 0, .int .i64 0, .int .i64 0, .int .i64 0] by rw [hw9]; exact HZ8.o.drew)
          have HS9 := hd (show Blk w9 g 103 #[.pointer (some ⟨p, 0, none⟩), .string (bs s.tn), .int .i64 (s.seq + 1), .bool s.broken] by rw [hw9]; exact HS8.o.drew)
          have HP9 := hd (show Blk w9 p 123 (pipE s.room (s.buf.drop n) s.closed) by rw [hw9]; exact HP8.o.drew)
          have HC9 := hd (show Chg (Two g p) w w9 by rw [hw9]; exact HC8.o.drew)
          clear hw9 u0 u1 q1
          have y0 := HT9.o.at_ 0 rfl
          have y1 := HT9.o.at_ 1 rfl
          have y2 := HT9.o.at_ 2 rfl
          have y3 := HT9.o.at_ 3 rfl
          have y4 := HT9.o.at_ 4 rfl
          have y5 := HT9.o.at_ 5 rfl
          have y6 := HT9.o.at_ 6 rfl
          have y7 := HT9.o.at_ 7 rfl
          have y8 := HT9.o.at_ 8 rfl
          have y9 := HT9.o.at_ 9 rfl
          have y10 := HT9.o.at_ 10 rfl
          have y11 := HT9.o.at_ 11 rfl
          have y12 := HT9.o.at_ 12 rfl
          have y13 := HT9.o.at_ 13 rfl
          have y14 := HT9.o.at_ 14 rfl
          have g0 := HT9.o.frozen 0
          have g1 := HT9.o.frozen 1
          have g2 := HT9.o.frozen 2
          have g3 := HT9.o.frozen 3
          have g4 := HT9.o.frozen 4
          have g5 := HT9.o.frozen 5
          have g6 := HT9.o.frozen 6
          have g7 := HT9.o.frozen 7
          have g8 := HT9.o.frozen 8
          have g9 := HT9.o.frozen 9
          have g10 := HT9.o.frozen 10
          have g11 := HT9.o.frozen 11
          have g12 := HT9.o.frozen 12
          have g13 := HT9.o.frozen 13
          have g14 := HT9.o.frozen 14
          have z0 := HZ9.o.at_ 0 rfl
          have z1 := HZ9.o.at_ 1 rfl
          have z2 := HZ9.o.at_ 2 rfl
          have z3 := HZ9.o.at_ 3 rfl
          have z4 := HZ9.o.at_ 4 rfl
          have z5 := HZ9.o.at_ 5 rfl
          have z6 := HZ9.o.at_ 6 rfl
          have z7 := HZ9.o.at_ 7 rfl
          have z8 := HZ9.o.at_ 8 rfl
          have z9 := HZ9.o.at_ 9 rfl
          have z10 := HZ9.o.at_ 10 rfl
          have z11 := HZ9.o.at_ 11 rfl
          have z12 := HZ9.o.at_ 12 rfl
          have z13 := HZ9.o.at_ 13 rfl
          have z14 := HZ9.o.at_ 14 rfl
          have f0 := HZ9.o.frozen 0
          have f1 := HZ9.o.frozen 1
          have f2 := HZ9.o.frozen 2
          have f3 := HZ9.o.frozen 3
          have f4 := HZ9.o.frozen 4
          have f5 := HZ9.o.frozen 5
          have f6 := HZ9.o.frozen 6
          have f7 := HZ9.o.frozen 7
          have f8 := HZ9.o.frozen 8
          have f9 := HZ9.o.frozen 9
          have f10 := HZ9.o.frozen 10
          have f11 := HZ9.o.frozen 11
          have f12 := HZ9.o.frozen 12
          have f13 := HZ9.o.frozen 13
          have f14 := HZ9.o.frozen 14
          go_wp2_with fail
          (try simp only [Exit.inBlock, Exit.then])
          rw [HQQ.o]
          refine bodyPost_ret (results_cell_row rfl _ _ _ _ _ _ _ rfl (set15 ((HZ9.o.far hTw2 _).far hTw2 _)) rfl rfl rfl) rfl ?_
          refine ⟨⟨none, 0, by rw [HN.o, HE.o]; rfl, by rw [HN.o]; exact Row.nil _ _ _ _, ?_, ?_⟩⟩
          · rw [HN.o]; exact ⟨far15 ((HS9.o.far hTg2 _).far hTg2 _) hgw, far15 ((HP9.o.far hTp2 _).far hTp2 _) hpw⟩
          · exact chg15 ((HC9.o.setCell (.inr hTl) _).setCell (.inr hTl) _) (.inr (Nat.le_refl _))
      | false =>
        have ht0 : s.tn = [] := by simpa using htb2
        have he : errS s = 0 := by rw [her, if_neg (fun h => absurd ht0 (h.1 hk))]
        have HN := hd (HN0.o he)
        exfalso
        have h := HARM.o
        first | exact h rfl | exact h.2.1 hk | exact hk h.2.1 | exact h.2.2 ht0 | exact ht0 h.2.2 | exact hd0 h.1
    · have hkb : (q.k == 1) = false := by simpa using hk
      cases tb with
      | true =>
        have ht0 : s.tn ≠ [] := of_decide_eq_true htb2.symm
        have he : errS s = 0 := by rw [her, if_neg (fun h => hk (h.2 ht0))]
        have HN := hd (HN0.o he)
        exfalso
        have h := HARM.o
        first | exact h rfl | exact h.2.1 hk | exact hk h.2.1 | exact h.2.2 ht0 | exact ht0 h.2.2 | exact hd0 h.1
      | false =>
        have ht0 : s.tn = [] := by simpa using htb2
        have he : errS s = 10 := by rw [her, if_pos ⟨fun h => absurd h hk, fun h => absurd ht0 h⟩]
        have HN := hd (HN1.o (by rw [he]; decide))
        have HE := hd he
        exfalso
        have h := HARM.o
        first | exact h rfl | exact h.2.1 hk | exact hk h.2.1 | exact h.2.2 ht0 | exact ht0 h.2.2 | exact hd0 h.1
  · exfalso
    exact hd0 HARM.o.1
end Go.Proofs.YtogjokofmfpmgaaGreatDoor
