/-
  sess.Sess: Next where something is asked: way E.
-/
import Derived.Test.YtogjokofmfpmgaaGreatDoorGAU
import Derived.Test.YtogjokofmfpmgaaGreatDoorGAV
import Derived.Test.YtogjokofmfpmgaaGreatDoorGAW
import Derived.Test.YtogjokofmfpmgaaGreatDoorGAS
import Derived.Test.YtogjokofmfpmgaaGreatDoorGAJ
import Derived.Test.YtogjokofmfpmgaaGreatDoorGAO
import Derived.Test.YtogjokofmfpmgaaGreatDoorGAA
import Derived.Test.YtogjokofmfpmgaaGreatDoorRows
import Derived.ProofKit
import Derived.OpenShut
import Derived.ShutString
import Derived.ChangeOld
import Derived.Deep.Slices
import Derived.Deep.Fields
set_option linter.unusedVariables false
set_option linter.unusedSimpArgs false
namespace Go.Proofs.YtogjokofmfpmgaaGreatDoor
open Go.RowKit

set_option maxRecDepth 100000 in
set_option maxHeartbeats 40000000 in
theorem next_askE (w : World) (g p : Nat) (s : Ss) (h : SesR w g p s) (hb : s.buf.length ≤ 1000000) (hx : lookW s = 1) (hq : 0 ≤ s.seq ∧ s.seq ≤ 1000000) (v : World) (ht : Tbs v) (hbv : Below v.heap.size v w) (hvg : v.heap.size ≤ g) (hvp : v.heap.size ≤ p) (harm : (decQ (frK s.buf) (frB s.buf)).2 = 0 ∧ ¬ (decQ (frK s.buf) (frB s.buf)).1.k = 1 ∧ s.tn = []) :
    Calls Tryz.prog 34 #[.pointer (some ⟨g, 0, none⟩)] w fun e w' => NextR w g p s e w' := by
  have hbr : s.broken = false ∧ frE s.buf = 0 := by
    rcases look_or s with h1 | h1 | ⟨h1, _⟩ | ⟨_, h1, h2⟩
    · omega
    · omega
    · omega
    · exact ⟨h1, h2⟩
  obtain ⟨fl1, fl2, fl3, fl4, fl5⟩ := frE_le hbr.2
  have hv : lookV s = .tuple #[.int .i64 1, .agg #[.int .i64 (frK s.buf : Nat), .string (bs (frB s.buf))], .int .i64 (frN s.buf : Nat), .int .i64 0] := by
    unfold lookV
    rw [hx, if_pos rfl]
  have HE1 := hd (fun (he : errS s ≠ 0) => next_2 hx he)
  have HE0 := hd (fun (he : errS s = 0) => next_1 hx he)
  have hER : errS s = if (decQ (frK s.buf) (frB s.buf)).2 ≠ 0 then (decQ (frK s.buf) (frB s.buf)).2 else if ((decQ (frK s.buf) (frB s.buf)).1.k = 1) ↔ (s.tn ≠ []) then 10 else 0 := rfl
  have hKS : kindS s = if 1 ≤ frK s.buf ∧ frK s.buf ≤ 11 then (frK s.buf : Int) else 0 := rfl
  have hfl : (frB s.buf).length ≤ 1000000 := by omega
  have hgo : goS s = { s with seq := s.seq + 1, buf := s.buf.drop (frN s.buf) } := rfl
  rw [hgo] at HE1 HE0
  generalize frK s.buf = K at *
  generalize frB s.buf = B at *
  generalize frN s.buf = n at *
  obtain ⟨w0, hw0⟩ : ∃ w0, w0 = w.alloc (.cells #[.int .i64 0, .int .i64 0, .int .i64 0, .int .i64 0, .string ⟨#[]⟩, .string ⟨#[]⟩, .string ⟨#[]⟩, .string ⟨#[]⟩, .int .i64 0, .int .i64 0, .slice none 0 0, .int .i64 0, .int .i64 0, .int .i64 0, .int .i64 0] 61) := ⟨_, rfl⟩
  have HZ0 := hd (show Blk w0 w.heap.size 61 #[.int .i64 0, .int .i64 0, .int .i64 0, .int .i64 0, .string ⟨#[]⟩, .string ⟨#[]⟩, .string ⟨#[]⟩, .string ⟨#[]⟩, .int .i64 0, .int .i64 0, .slice none 0 0, .int .i64 0, .int .i64 0, .int .i64 0, .int .i64 0] by rw [hw0]; exact Blk.new _ _ _)
  have HB0 := hd (show Below w.heap.size w w0 by rw [hw0]; exact (Below.refl _ w).alloc (Nat.le_refl _) _)
  have C1 := look_whole w0 g p s ⟨by rw [hw0]; exact h.b.alloc _, by rw [hw0]; exact h.p.alloc _⟩ hb
  rw [hv] at C1
  replace C1 := hd C1
  have HW0 := hd hw0
  have HH := hd h
  have HTB := hd (fun (W : World) (hW : Chg (Two g p) w W) => (ht.below (hbv.trans (hW.below (fun k hk => by rcases hk with rfl | rfl <;> assumption) hbv.size))))
  have hwr : IntKind.i64.wrap (s.seq + 1) = s.seq + 1 := by rw [IntKind.wrap_i64]; omega
  have HNB := hd (show n ≤ s.buf.length ∧ s.buf.length ≤ 1000000000 from ⟨fl1, by omega⟩)
  have hgw : g ≠ w.heap.size := Nat.ne_of_lt h.b.lt
  have hpw : p ≠ w.heap.size := Nat.ne_of_lt h.p.lt
  have HFL := hd hfl
  have HER := hd hER
  have HKS := hd hKS
  replace hbr := hd hbr
  clear hKS hER hw0 h hb hx hv hq ht hbv hvg hvp fl1 fl2 fl3 fl4 fl5 hgo hfl
  obtain ⟨QQ, hQQ⟩ : ∃ QQ, QQ = bodyPost Tryz.prog Tryz.f34 (fun e w' => NextR w g p s e w') := ⟨_, rfl⟩
  have HQQ := hd hQQ
  go_enter Tryz.func34, Tryz.ntmps34
  rw [← hQQ]
  clear hQQ
  go_upto_region 1 with (fail)
  rw [← HW0.o]
  go_upto_region 2 with (go_at_call 78; refine C1.o.mono ?_; rintro e w1 ⟨rfl, hb1⟩; have HB1 := hd (HB0.o.trans (hb1.mono HB0.o.size)); have HZ1 := hd (HZ0.o.below hb1 HZ0.o.lt); clear hb1)
  obtain ⟨w2, hw2⟩ : ∃ w2, w2 = w1.alloc (.cells #[.int .i64 (K : Nat), .string (bs B)] 75) := ⟨_, rfl⟩
  rw [← hw2]
  have HF2 := hd (show Blk w2 w1.heap.size 75 #[.int .i64 (K : Nat), .string (bs B)] by rw [hw2]; exact Blk.new _ _ _)
  have HZ2 := hd (show Blk w2 w.heap.size 61 #[.int .i64 0, .int .i64 0, .int .i64 0, .int .i64 0, .string ⟨#[]⟩, .string ⟨#[]⟩, .string ⟨#[]⟩, .string ⟨#[]⟩, .int .i64 0, .int .i64 0, .slice none 0 0, .int .i64 0, .int .i64 0, .int .i64 0, .int .i64 0] by rw [hw2]; exact HZ1.o.alloc _)
  have HB2 := hd (show Below w.heap.size w w2 by rw [hw2]; exact HB1.o.alloc HB1.o.size _)
  have hFw : w.heap.size ≤ w1.heap.size := HB1.o.size
  generalize w1.heap.size = F at *
  have hs2 := HH.o.b.below HB2.o HH.o.b.lt
  have HP2 := hd (HH.o.p.below HB2.o HH.o.p.lt)
  have q2 := hs2.at_ 2 (v := .int .i64 s.seq) rfl
  have r2 := hs2.frozen 2
  have HS2 := hd hs2
  clear hs2 hw2
  go_upto_region 5 with (fail)
  obtain ⟨w3, hw3⟩ : ∃ w3, w3 = w2.setCell ⟨g, 2, none⟩ (.int .i64 (s.seq + 1)) := ⟨_, rfl⟩
  rw [← hw3]
  have hgF : g ≠ F := Nat.ne_of_lt (Nat.lt_of_lt_of_le HH.o.b.lt hFw)
  have HF3 := hd (show Blk w3 F 75 #[.int .i64 (K : Nat), .string (bs B)] by rw [hw3]; exact HF2.o.far hgF.symm _)
  have HZ3 := hd (show Blk w3 w.heap.size 61 #[.int .i64 0, .int .i64 0, .int .i64 0, .int .i64 0, .string ⟨#[]⟩, .string ⟨#[]⟩, .string ⟨#[]⟩, .string ⟨#[]⟩, .int .i64 0, .int .i64 0, .slice none 0 0, .int .i64 0, .int .i64 0, .int .i64 0, .int .i64 0] by rw [hw3]; exact HZ2.o.far hgw.symm _)
  have hs3 : Blk w3 g 103 #[.pointer (some ⟨p, 0, none⟩), .string (bs s.tn), .int .i64 (s.seq + 1), .bool s.broken] := by rw [hw3]; simpa using HS2.o.set_ 2 (.int .i64 (s.seq + 1))
  have HP3 := hd (show Blk w3 p 123 (pipE s.room s.buf s.closed) by rw [hw3]; exact HP2.o.far (Ne.symm HH.o.ne) _)
  have HC3 := hd (show Chg (Two g p) w w3 by rw [hw3]; exact (Chg.of_below _ HB2.o).setCell (.inl (.inl rfl)) _)
  clear q2 r2 hw3
  have q2 := hs3.at_ 2 (v := .int .i64 (s.seq + 1)) rfl
  have HS3 := hd hs3
  clear hs3
  go_upto_region 6 with (fail)
  obtain ⟨w4, hw4⟩ : ∃ w4, w4 = w3.alloc (.cells #[.int .i64 1, .int .i64 (s.seq + 1), .int .i64 0, .int .i64 0, .string ⟨#[]⟩, .string ⟨#[]⟩, .string ⟨#[]⟩, .string ⟨#[]⟩, .int .i64 0, .int .i64 0, .slice none 0 0, .int .i64 0, .int .i64 0, .int .i64 0, .int .i64 0] 61) := ⟨_, rfl⟩
  rw [← hw4]
  have HT4 := hd (show Blk w4 w3.heap.size 61 #[.int .i64 1, .int .i64 (s.seq + 1), .int .i64 0, .int .i64 0, .string ⟨#[]⟩, .string ⟨#[]⟩, .string ⟨#[]⟩, .string ⟨#[]⟩, .int .i64 0, .int .i64 0, .slice none 0 0, .int .i64 0, .int .i64 0, .int .i64 0, .int .i64 0] by rw [hw4]; exact Blk.new _ _ _)
  have HF4 := hd (show Blk w4 F 75 #[.int .i64 (K : Nat), .string (bs B)] by rw [hw4]; exact HF3.o.alloc _)
  have HZ4 := hd (show Blk w4 w.heap.size 61 #[.int .i64 0, .int .i64 0, .int .i64 0, .int .i64 0, .string ⟨#[]⟩, .string ⟨#[]⟩, .string ⟨#[]⟩, .string ⟨#[]⟩, .int .i64 0, .int .i64 0, .slice none 0 0, .int .i64 0, .int .i64 0, .int .i64 0, .int .i64 0] by rw [hw4]; exact HZ3.o.alloc _)
  have hs4 : Blk w4 g 103 #[.pointer (some ⟨p, 0, none⟩), .string (bs s.tn), .int .i64 (s.seq + 1), .bool s.broken] := by rw [hw4]; exact HS3.o.alloc _
  have HP4 := hd (show Blk w4 p 123 (pipE s.room s.buf s.closed) by rw [hw4]; exact HP3.o.alloc _)
  have HC4 := hd (show Chg (Two g p) w w4 by rw [hw4]; exact HC3.o.alloc _)
  have hTw : w3.heap.size ≠ w.heap.size := Nat.ne_of_gt HZ3.o.lt
  have hTg : w3.heap.size ≠ g := Nat.ne_of_gt HS3.o.lt
  have hTp : w3.heap.size ≠ p := Nat.ne_of_gt HP3.o.lt
  have hTF : w3.heap.size ≠ F := Nat.ne_of_gt HF3.o.lt
  have hTl : w.heap.size ≤ w3.heap.size := Nat.le_of_lt HZ3.o.lt
  clear hw4 q2
  generalize w3.heap.size = T at *
  have hFp : F ≠ p := Nat.ne_of_gt (Nat.lt_of_lt_of_le HH.o.p.lt hFw)
  have q0 := hs4.at_ 0 (v := .pointer (some ⟨p, 0, none⟩)) rfl
  have HS4 := hd hs4
  clear hs4
  have C2 := hd (ptake_calls w4 p n s.room s.buf s.closed HP4.o HNB.o.1 HNB.o.2)
  go_upto_region 10 with (go_at_call 79; refine C2.o.mono ?_; rintro e w5 ⟨rfl, hp5, hc5⟩; have HP5 := hd hp5; have HC5 := hd hc5; clear hp5 hc5)
  have HT5 := hd (HT4.o.chg HC5.o (fun h => hTp h))
  have HF5 := hd (HF4.o.chg HC5.o (fun h => hFp h))
  have HZ5 := hd (HZ4.o.chg HC5.o (fun h => hpw h.symm))
  have HS5 := hd (HS4.o.chg HC5.o (fun h => HH.o.ne h))
  have HCC := hd (HC4.o.trans HC5.o (fun k hk => .inl (.inr hk)))
  clear q0 C1 C2 HW0 HZ0 HB0 HB1 HZ1 HF2 HZ2 HB2 HP2 HS2 HF3 HZ3 HP3 HC3 HS3 HT4 HF4 HZ4 HP4 HC4 HS4 HC5
  obtain ⟨kk, hkk⟩ : ∃ kk, kindS s = kk := ⟨_, rfl⟩
  obtain ⟨bK, hbK⟩ : ∃ bK, decide (1 ≤ K ∧ K ≤ 11) = bK := ⟨_, rfl⟩
  have y0 := HF5.o.at_ 0 (v := .int .i64 (K : Nat)) rfl
  have hTF2 : F ≠ T := hTF.symm
  have hTg2 : g ≠ T := hTg.symm
  have hTw2 : w.heap.size ≠ T := hTw.symm
  have hTp2 : p ≠ T := hTp.symm
  have hwg : w.heap.size ≠ g := hgw.symm
  have HbK := hd hbK
  clear hbK
  go_cut [57] from 50 to 56 (fun b wx => b = .bool bK ∧ wx = w5)
  case first =>
    by_cases c1 : 1 ≤ K
    · have d1 : decide ((1 : Int) ≤ (K : Int)) = true := by simp; omega
      by_cases c2 : K ≤ 11
      · have d2 : decide ((K : Int) ≤ 11) = true := by simp; omega
        have hb : bK = true := by rw [← HbK.o]; simp; omega
        subst hb
        go_wp2_with fail
        go_meet
        exact ⟨rfl, rfl⟩
      · have d2 : decide ((K : Int) ≤ 11) = false := by simp; omega
        have hb : bK = false := by rw [← HbK.o]; simp; omega
        subst hb
        go_wp2_with fail
        go_meet
        exact ⟨rfl, rfl⟩
    · have d1 : decide ((1 : Int) ≤ (K : Int)) = false := by simp; omega
      have hb : bK = false := by rw [← HbK.o]; simp; omega
      subst hb
      go_wp2_with fail
      go_meet
      exact ⟨rfl, rfl⟩
  case rest =>
  obtain ⟨rfl, rfl⟩ := hcut
  have j2 := HT5.o.at_ 2 (v := .int .i64 0) rfl
  have g2 := HT5.o.frozen 2
  go_upto_if 57 with (fail)
  go_cut [] from 58 to 60 (fun wx => Hd (Blk wx T 61 #[.int .i64 1, .int .i64 (s.seq + 1), .int .i64 kk, .int .i64 0, .string ⟨#[]⟩, .string ⟨#[]⟩, .string ⟨#[]⟩, .string ⟨#[]⟩, .int .i64 0, .int .i64 0, .slice none 0 0, .int .i64 0, .int .i64 0, .int .i64 0, .int .i64 0]) ∧ Hd (Blk wx F 75 #[.int .i64 (K : Nat), .string (bs B)]) ∧ Hd (Blk wx w.heap.size 61 #[.int .i64 0, .int .i64 0, .int .i64 0, .int .i64 0, .string ⟨#[]⟩, .string ⟨#[]⟩, .string ⟨#[]⟩, .string ⟨#[]⟩, .int .i64 0, .int .i64 0, .slice none 0 0, .int .i64 0, .int .i64 0, .int .i64 0, .int .i64 0]) ∧ Hd (Blk wx g 103 #[.pointer (some ⟨p, 0, none⟩), .string (bs s.tn), .int .i64 (s.seq + 1), .bool s.broken]) ∧ Hd (Blk wx p 123 (pipE s.room (s.buf.drop n) s.closed)) ∧ Hd (Chg (Two g p) w wx))
  case first =>
    cases bK with
    | false =>
      have e : kk = 0 := by
        have := of_decide_eq_false HbK.o
        rw [← hkk, HKS.o, if_neg this]
      clear hkk
      subst e
      go_wp2_with fail
      go_meet
      exact ⟨HT5, HF5, HZ5, HS5, HP5, HCC⟩
    | true =>
      have e : kk = (K : Int) := by
        have := of_decide_eq_true HbK.o
        rw [← hkk, HKS.o, if_pos this]
      clear hkk
      subst e
      go_wp2_with fail
      go_meet
      exact ⟨hd (by simpa using HT5.o.set_ 2 (.int .i64 (K : Nat))), hd (HF5.o.far hTF2 _), hd (HZ5.o.far hTw2 _), hd (HS5.o.far hTg2 _), hd (HP5.o.far hTp2 _), hd (HCC.o.setCell (.inr hTl) _)⟩
  case rest =>
  clear y0 j2 g2 HF5 HT5 HZ5 HS5 HP5 HCC
  obtain ⟨HT6, HF6, HZ6, HS6, HP6, HC6⟩ := hcut
  go_upto_region 12 with (fail)
  obtain ⟨cap, w7, hrun, hrd, hbw, hcap⟩ := conv_to (P := Tryz.prog) wc 9 27 5 Tryz.underlying9 Tryz.underlying27 Tryz.underlying5 (bs B)
  rw [bs_data] at hrd
  have hT7 : Tbs w7 := (HTB.o wc HC6.o).below hbw
  have C3 := dec_calls (K : Int) w7 _ (bs B).size cap B (bs_size B) hrd (by rw [bs_size]; exact HFL.o) hT7
  obtain ⟨q, hqd⟩ : ∃ q, (decQ (K : Int) B).1 = q := ⟨_, rfl⟩
  obtain ⟨d, hdd⟩ : ∃ d, (decQ (K : Int) B).2 = d := ⟨_, rfl⟩
  replace C3 := hd (C3.mono (R' := fun e w' => ∃ (A : Option Addr) (c : Nat), e = .returned (.tuple #[.agg #[.int .i64 q.k, .string (bs q.tn), .string (bs q.col), .string (bs q.uid), .string (bs q.card), .int .i64 q.ck, .int .i64 q.cv, .slice A q.ops.length c, .int .i64 q.tok, .int .i64 q.most, .int .i64 q.ticks], .int .i64 d]) ∧ Row w' (From w7.heap.size) 43 5 A q.ops.length c (opsE q.ops) ∧ Below w7.heap.size w7 w') (fun e w' h => by
    obtain ⟨A, c, h1, h2, h3⟩ := h.o
    rw [hqd, hdd] at h1
    rw [hqd] at h2
    exact ⟨A, c, h1, h2, h3⟩))
  have hER2 : errS s = if d ≠ 0 then d else if (q.k = 1) ↔ (s.tn ≠ []) then 10 else 0 := by rw [HER.o, hqd, hdd]
  have HARM := hd (show d = 0 ∧ ¬ q.k = 1 ∧ s.tn = [] by have h := harm; (try rw [hdd] at h); (try rw [hqd] at h); exact h)
  have HN1 : errS s ≠ 0 → nextS s = (⟨2, s.seq + 1, kk, rq0, errS s⟩, { s with seq := s.seq + 1, buf := s.buf.drop n }) := fun h => by rw [HE1.o h, hkk]
  have HN0 : errS s = 0 → nextS s = (⟨1, s.seq + 1, kk, q, 0⟩, if q.k = 1 then { s with seq := s.seq + 1, buf := s.buf.drop n, tn := q.tn } else { s with seq := s.seq + 1, buf := s.buf.drop n }) := fun h => by rw [HE0.o h, hkk, hqd]
  have HER2 := hd hER2
  replace HN1 := hd HN1
  replace HN0 := hd HN0
  have y0 := HF6.o.at_ 0 (v := .int .i64 (K : Nat)) rfl
  have y1 := HF6.o.at_ 1 (v := .string (bs B)) rfl
  have HBW := hd hbw
  have h7 : wc.heap.size ≤ w7.heap.size := hbw.size
  clear harm hrd hbw hcap hT7 hqd hdd hER2 hkk HE1 HE0
  go_upto_region 13 with (go_at_call 17; refine C3.o.mono ?_; rintro e wd ⟨A, c, rfl, hrow, hbd⟩; have HROW := hd hrow; have HBD := hd (HBW.o.trans (hbd.mono h7)); clear hrow hbd)
  obtain ⟨w8, hw8⟩ : ∃ w8, w8 = wd.alloc (.cells #[.int .i64 q.k, .string (bs q.tn), .string (bs q.col), .string (bs q.uid), .string (bs q.card), .int .i64 q.ck, .int .i64 q.cv, .slice A q.ops.length c, .int .i64 q.tok, .int .i64 q.most, .int .i64 q.ticks] 26) := ⟨_, rfl⟩
  rw [← hw8]
  have hQl : wc.heap.size ≤ wd.heap.size := HBD.o.size
  have HQ8 := hd (show Blk w8 wd.heap.size 26 #[.int .i64 q.k, .string (bs q.tn), .string (bs q.col), .string (bs q.uid), .string (bs q.card), .int .i64 q.ck, .int .i64 q.cv, .slice A q.ops.length c, .int .i64 q.tok, .int .i64 q.most, .int .i64 q.ticks] by rw [hw8]; exact Blk.new _ _ _)
  have HT8 := hd (show Blk w8 T 61 #[.int .i64 1, .int .i64 (s.seq + 1), .int .i64 kk, .int .i64 0, .string ⟨#[]⟩, .string ⟨#[]⟩, .string ⟨#[]⟩, .string ⟨#[]⟩, .int .i64 0, .int .i64 0, .slice none 0 0, .int .i64 0, .int .i64 0, .int .i64 0, .int .i64 0] by rw [hw8]; exact (HT6.o.below HBD.o HT6.o.lt).alloc _)
  have HZ8 := hd (show Blk w8 w.heap.size 61 #[.int .i64 0, .int .i64 0, .int .i64 0, .int .i64 0, .string ⟨#[]⟩, .string ⟨#[]⟩, .string ⟨#[]⟩, .string ⟨#[]⟩, .int .i64 0, .int .i64 0, .slice none 0 0, .int .i64 0, .int .i64 0, .int .i64 0, .int .i64 0] by rw [hw8]; exact (HZ6.o.below HBD.o HZ6.o.lt).alloc _)
  have HS8 := hd (show Blk w8 g 103 #[.pointer (some ⟨p, 0, none⟩), .string (bs s.tn), .int .i64 (s.seq + 1), .bool s.broken] by rw [hw8]; exact (HS6.o.below HBD.o HS6.o.lt).alloc _)
  have HP8 := hd (show Blk w8 p 123 (pipE s.room (s.buf.drop n) s.closed) by rw [hw8]; exact (HP6.o.below HBD.o HP6.o.lt).alloc _)
  have HC8 := hd (show Chg (Two g p) w w8 by rw [hw8]; exact (HC6.o.then_below HBD.o).alloc _)
  have HR8 := hd (show Row w8 (From w.heap.size) 43 5 A q.ops.length c (opsE q.ops) by rw [hw8]; exact ((HROW.o).alloc _).mono (fun x hx => Nat.le_trans HC6.o.size (Nat.le_trans h7 hx)))
  have HR9 := hd (fun (W : World) (hW : Chg (fun x => x < w7.heap.size) w8 W) => ((show Row w8 (From w7.heap.size) 43 5 A q.ops.length c (opsE q.ops) by rw [hw8]; exact (HROW.o).alloc _).chg hW (fun x hx hx2 => absurd hx2 (Nat.not_lt.mpr hx))).mono (T := From w.heap.size) (fun x hx => Nat.le_trans HC6.o.size (Nat.le_trans h7 hx)))
  have hT7 : T < w7.heap.size := Nat.lt_of_lt_of_le HT6.o.lt h7
  have hZ7 : w.heap.size < w7.heap.size := Nat.lt_of_lt_of_le HZ6.o.lt h7
  have hG7 : g < w7.heap.size := Nat.lt_of_lt_of_le HS6.o.lt h7
  have hQT : wd.heap.size ≠ T := Nat.ne_of_gt (Nat.lt_of_lt_of_le HT6.o.lt hQl)
  have hQg : wd.heap.size ≠ g := Nat.ne_of_gt (Nat.lt_of_lt_of_le HS6.o.lt hQl)
  have hgp : g ≠ p := HH.o.ne
  clear hw8 hrun y0 y1 HROW HBD C3 HT6 HF6 HZ6 HS6 HP6 HC6 HBW h7 hQl
  generalize wd.heap.size = Q at *
  obtain ⟨tb, htb⟩ : ∃ tb, (!(bs s.tn).toList.isEmpty) = tb := ⟨_, rfl⟩
  have htb2 : tb = decide (s.tn ≠ []) := by rw [← htb]; exact bs_ne s.tn
  have htc : (bs s.tn).toList.isEmpty = !tb := by rw [← htb, Bool.not_not]
  have u0 := HQ8.o.at_ 0 (v := .int .i64 q.k) rfl
  have u1 := HQ8.o.at_ 1 (v := .string (bs q.tn)) rfl
  have q1 := HS8.o.at_ 1 (v := .string (bs s.tn)) rfl
  by_cases hd0 : d = 0
  · subst hd0
    have her : errS s = if (q.k = 1) ↔ (s.tn ≠ []) then 10 else 0 := by rw [HER2.o, if_neg (by simp)]
    by_cases hk : q.k = 1
    · have hkb : (q.k == 1) = true := by simpa using hk
      cases tb with
      | true =>
        have ht0 : s.tn ≠ [] := of_decide_eq_true htb2.symm
        have he : errS s = 10 := by rw [her, if_pos ⟨fun _ => ht0, fun _ => hk⟩]
        have HN := hd (HN1.o (by rw [he]; decide))
        have HE := hd he
        exfalso
        have h := HARM.o
        first | exact h rfl | exact h.2.1 hk | exact hk h.2.1 | exact h.2.2 ht0 | exact ht0 h.2.2 | exact hd0 h.1
      | false =>
        have ht0 : s.tn = [] := by simpa using htb2
        have he : errS s = 0 := by rw [her, if_neg (fun h => absurd ht0 (h.1 hk))]
        have HN := hd (HN0.o he)
        exfalso
        have h := HARM.o
        first | exact h rfl | exact h.2.1 hk | exact hk h.2.1 | exact h.2.2 ht0 | exact ht0 h.2.2 | exact hd0 h.1
    · have hkb : (q.k == 1) = false := by simpa using hk
      cases tb with
      | true =>
        have ht0 : s.tn ≠ [] := of_decide_eq_true htb2.symm
        have he : errS s = 0 := by rw [her, if_neg (fun h => hk (h.2 ht0))]
        have HN := hd (HN0.o he)
        exfalso
        have h := HARM.o
        first | exact h rfl | exact h.2.1 hk | exact hk h.2.1 | exact h.2.2 ht0 | exact ht0 h.2.2 | exact hd0 h.1
      | false =>
        have ht0 : s.tn = [] := by simpa using htb2
        have he : errS s = 10 := by rw [her, if_pos ⟨fun h => absurd h hk, fun h => absurd ht0 h⟩]
        have HN := hd (HN1.o (by rw [he]; decide))
        have HE := hd he
        clear her he htb2 ht0
        go_cut [82] from 70 to 81 (fun b wx => b = .bool true ∧ wx = w8.drew)
        case first =>
          go_region
          all_goals
            go_wp2_with fail
            go_meet
            refine ⟨?_, rfl⟩
            first | rfl | (simp only [htb]; done) | (simp only [htc]; rfl) | (simp only [hkb, htb]; rfl) | (simp [hkb, htb, htc]; done) | (trace_state; fail)
        case rest =>
          obtain ⟨rfl, rfl⟩ := hcut
          obtain ⟨w9, hw9⟩ : ∃ w9, w9 = w8.drew := ⟨_, rfl⟩
          rw [← hw9]
          have HT9 := hd (show Blk w9 T 61 #[.int .i64 1, .int .i64 (s.seq + 1), .int .i64 kk, .int .i64 0, .string ⟨#[]⟩, .string ⟨#[]⟩, .string ⟨#[]⟩, .string ⟨#[]⟩, .int .i64 0, .int .i64 0, .slice none 0 0, .int .i64 0, .int .i64 0, .int .i64 0, .int .i64 0] by rw [hw9]; exact HT8.o.drew)
          have HZ9 := hd (show Blk w9 w.heap.size 61 #[.int .i64 0, .int .i64 0, .int .i64 0, .int .i64 0, .string ⟨#[]⟩, .string ⟨#[]⟩, .string ⟨#[]⟩, .string ⟨#[]⟩, .int .i64 0, .int .i64 0, .slice none 0 0, .int .i64 0, .int .i64 0, .int .i64 0, .int .i64 0] by rw [hw9]; exact HZ8.o.drew)
          have HS9 := hd (show Blk w9 g 103 #[.pointer (some ⟨p, 0, none⟩), .string (bs s.tn), .int .i64 (s.seq + 1), .bool s.broken] by rw [hw9]; exact HS8.o.drew)
          have HP9 := hd (show Blk w9 p 123 (pipE s.room (s.buf.drop n) s.closed) by rw [hw9]; exact HP8.o.drew)
          have HC9 := hd (show Chg (Two g p) w w9 by rw [hw9]; exact HC8.o.drew)
          clear hw9 u0 u1 q1
          have y0 := HT9.o.at_ 0 rfl
          have y1 := HT9.o.at_ 1 rfl
          have y2 := HT9.o.at_ 2 rfl
          have y3 := HT9.o.at_ 3 rfl
          have y4 := HT9.o.at_ 4 rfl
          have y5 := HT9.o.at_ 5 rfl
          have y6 := HT9.o.at_ 6 rfl
          have y7 := HT9.o.at_ 7 rfl
          have y8 := HT9.o.at_ 8 rfl
          have y9 := HT9.o.at_ 9 rfl
          have y10 := HT9.o.at_ 10 rfl
          have y11 := HT9.o.at_ 11 rfl
          have y12 := HT9.o.at_ 12 rfl
          have y13 := HT9.o.at_ 13 rfl
          have y14 := HT9.o.at_ 14 rfl
          have g0 := HT9.o.frozen 0
          have g1 := HT9.o.frozen 1
          have g2 := HT9.o.frozen 2
          have g3 := HT9.o.frozen 3
          have g4 := HT9.o.frozen 4
          have g5 := HT9.o.frozen 5
          have g6 := HT9.o.frozen 6
          have g7 := HT9.o.frozen 7
          have g8 := HT9.o.frozen 8
          have g9 := HT9.o.frozen 9
          have g10 := HT9.o.frozen 10
          have g11 := HT9.o.frozen 11
          have g12 := HT9.o.frozen 12
          have g13 := HT9.o.frozen 13
          have g14 := HT9.o.frozen 14
          have z0 := HZ9.o.at_ 0 rfl
          have z1 := HZ9.o.at_ 1 rfl
          have z2 := HZ9.o.at_ 2 rfl
          have z3 := HZ9.o.at_ 3 rfl
          have z4 := HZ9.o.at_ 4 rfl
          have z5 := HZ9.o.at_ 5 rfl
          have z6 := HZ9.o.at_ 6 rfl
          have z7 := HZ9.o.at_ 7 rfl
          have z8 := HZ9.o.at_ 8 rfl
          have z9 := HZ9.o.at_ 9 rfl
          have z10 := HZ9.o.at_ 10 rfl
          have z11 := HZ9.o.at_ 11 rfl
          have z12 := HZ9.o.at_ 12 rfl
          have z13 := HZ9.o.at_ 13 rfl
          have z14 := HZ9.o.at_ 14 rfl
          have f0 := HZ9.o.frozen 0
          have f1 := HZ9.o.frozen 1
          have f2 := HZ9.o.frozen 2
          have f3 := HZ9.o.frozen 3
          have f4 := HZ9.o.frozen 4
          have f5 := HZ9.o.frozen 5
          have f6 := HZ9.o.frozen 6
          have f7 := HZ9.o.frozen 7
          have f8 := HZ9.o.frozen 8
          have f9 := HZ9.o.frozen 9
          have f10 := HZ9.o.frozen 10
          have f11 := HZ9.o.frozen 11
          have f12 := HZ9.o.frozen 12
          have f13 := HZ9.o.frozen 13
          have f14 := HZ9.o.frozen 14
          go_wp2_with fail
          (try simp only [Exit.inBlock, Exit.then])
          rw [HQQ.o]
          refine bodyPost_ret (results_cell_row rfl _ _ _ _ _ _ _ rfl (set15 ((HZ9.o.far hTw2 _).far hTw2 _)) rfl rfl rfl) rfl ?_
          refine ⟨⟨none, 0, by rw [HN.o, HE.o]; rfl, by rw [HN.o]; exact Row.nil _ _ _ _, ?_, ?_⟩⟩
          · rw [HN.o]; exact ⟨far15 ((HS9.o.far hTg2 _).far hTg2 _) hgw, far15 ((HP9.o.far hTp2 _).far hTp2 _) hpw⟩
          · exact chg15 ((HC9.o.setCell (.inr hTl) _).setCell (.inr hTl) _) (.inr (Nat.le_refl _))
  · exfalso
    exact hd0 HARM.o.1
end Go.Proofs.YtogjokofmfpmgaaGreatDoor
namespace Go.Proofs.YtogjokofmfpmgaaGreatDoor
open Go.RowKit

theorem next_calls_s (w : World) (g p : Nat) (s : Ss) (h : SesR w g p s) (hb : s.buf.length ≤ 1000000) (hq : 0 ≤ s.seq ∧ s.seq ≤ 1000000) (v : World) (ht : Tbs v) (hbv : Below v.heap.size v w) (hvg : v.heap.size ≤ g) (hvp : v.heap.size ≤ p) :
    Calls Tryz.prog 34 #[.pointer (some ⟨g, 0, none⟩)] w fun e w' => NextR w g p s e w' := by
  rcases look_or s with h0 | h4 | ⟨h3, _⟩ | ⟨h1, _⟩
  · refine (next_idle w g p s h hb 0 h0 (.inl rfl)).mono ?_
    rintro e w' ⟨rfl, hb1⟩
    exact ⟨⟨none, 0, by rw [next_0 h0], by rw [next_0 h0]; exact Row.nil _ _ _ _, by rw [next_0 h0]; exact ⟨h.b.below hb1 h.b.lt, h.p.below hb1 h.p.lt⟩, Chg.of_below _ hb1⟩⟩
  · refine (next_idle w g p s h hb 4 h4 (.inr rfl)).mono ?_
    rintro e w' ⟨rfl, hb1⟩
    exact ⟨⟨none, 0, by rw [next_4 h4], by rw [next_4 h4]; exact Row.nil _ _ _ _, by rw [next_4 h4]; exact ⟨h.b.below hb1 h.b.lt, h.p.below hb1 h.p.lt⟩, Chg.of_below _ hb1⟩⟩
  · refine (next_brk w g p s h hb h3 hq).mono ?_
    rintro e w' ⟨rfl, hs, hc⟩
    exact ⟨⟨none, 0, by rw [next_3 h3], by rw [next_3 h3]; exact Row.nil _ _ _ _, by rw [next_3 h3]; exact hs, hc⟩⟩
  · by_cases hd : (decQ (frK s.buf) (frB s.buf)).2 = 0
    · by_cases hk : (decQ (frK s.buf) (frB s.buf)).1.k = 1
      · by_cases hn : s.tn = []
        · exact next_askC w g p s h hb h1 hq v ht hbv hvg hvp ⟨hd, hk, hn⟩
        · exact next_askB w g p s h hb h1 hq v ht hbv hvg hvp ⟨hd, hk, hn⟩
      · by_cases hn : s.tn = []
        · exact next_askE w g p s h hb h1 hq v ht hbv hvg hvp ⟨hd, hk, hn⟩
        · exact next_askD w g p s h hb h1 hq v ht hbv hvg hvp ⟨hd, hk, hn⟩
    · exact next_askA w g p s h hb h1 hq v ht hbv hvg hvp hd
end Go.Proofs.YtogjokofmfpmgaaGreatDoor
namespace Go.Proofs.YtogjokofmfpmgaaGreatDoor
open Go.RowKit

theorem lookV_w (s : Ss) : ∃ (k : Int) (b : ByteArray) (n e : Int), lookV s = .tuple #[.int .i64 (lookW s), .agg #[.int .i64 k, .string b], .int .i64 n, .int .i64 e] := by
  unfold lookV
  split
  · rename_i h; exact ⟨_, _, _, _, by rw [h]⟩
  · exact ⟨_, _, _, _, rfl⟩
theorem ready_eq (x : Int) : (x != 0) = decide (x ≠ 0) := by
  by_cases h : x = 0
  · subst h; rfl
  · rw [decide_eq_true h]; simpa using h
set_option maxRecDepth 100000 in
set_option maxHeartbeats 4000000 in
theorem ready_calls (w : World) (g p : Nat) (s : Ss) (h : SesR w g p s) (hb : s.buf.length ≤ 1000000) :
    Calls Tryz.prog 36 #[.pointer (some ⟨g, 0, none⟩)] w fun e w' => e = .returned (.bool (readyS s)) ∧ Below w.heap.size w w' := by
  have C1 := look_whole w g p s h hb
  obtain ⟨kf, bf, n, e0, hv⟩ := lookV_w s
  rw [hv] at C1
  have hr : readyS s = (lookW s != 0) := (ready_eq _).symm
  rw [hr]
  generalize lookW s = x at *
  replace C1 := hd C1
  clear hv hr h hb
  go_enter Tryz.func36, Tryz.ntmps36
  go_wp2_with (go_at_call 78; refine C1.o.mono ?_; rintro e w1 ⟨rfl, hb1⟩; have HB1 := hd hb1; clear hb1)
  go_ret
  exact ⟨rfl, HB1.o.alloc HB1.o.size _⟩
end Go.Proofs.YtogjokofmfpmgaaGreatDoor
namespace Go.Proofs.YtogjokofmfpmgaaGreatDoor
open Go.RowKit

def getA : Rq := ⟨6, [], [104, 111, 109, 101], [97], [], 0, 0, [], 0, 0, 0⟩
theorem chk_getA : chk getA = 0 := by
  have e1 : strayB getA = false := by decide
  have e2 : namedB getA = true := by decide
  have e3 : formedB getA = true := by
    unfold formedB getA
    simp [hCd, hCn]
  have e4 : outB getA = false := by decide
  have e0 : isK getA.k = true := by decide
  unfold chk
  rw [e0, e1, e2, e3, e4]
  simp
theorem getA_b : RqB getA := ⟨by decide, by decide, by decide, (fun o ho => by cases ho), by decide, by decide, by decide⟩
theorem getA_s : RqS getA := ⟨by decide, by decide, by decide, by decide, by decide, (fun o ho => by cases ho)⟩
theorem getA_e : frameB getA.k.toNat (encB getA) = frameB 6 [4, 104, 111, 109, 101, 1, 97] := by decide
def fA : List UInt8 := frameB 6 [4, 104, 111, 109, 101, 1, 97]
def sA0 : Ss := newS 100
def sA1 : Ss := moreS sA0 fA
def sA2 : Ss := { sA0 with seq := 1 }
theorem idle_sA0 : Idle sA0 := ⟨rfl, rfl, rfl⟩
theorem idle_sA2 : Idle sA2 := ⟨rfl, rfl, rfl⟩
theorem feed_sA : mayFeed sA0 fA = true ∧ feedS sA0 fA = sA1 := by
  have h : mayFeed sA0 fA = true := by decide
  exact ⟨h, feed_may h⟩
theorem sA1_look : lookW sA1 = 1 := by
  have := (asks_look idle_sA0 chk_getA getA_b).1
  rw [getA_e] at this
  exact this
theorem sA1_next : nextS sA1 = (⟨2, 1, 6, rq0, 10⟩, sA2) := by
  have := asks_next idle_sA0 chk_getA getA_b
  rw [getA_e, if_pos (by decide)] at this
  exact this
theorem sA2_next : nextS sA2 = (tn0 0, sA2) := next_0 (idle_look idle_sA2)

/-- A pair of blocks that a session has, above what was there. -/
structure SesA (v w : World) (g p : Nat) (s : Ss) : Prop where
  r : SesR w g p s
  g : v.heap.size ≤ g
  p : v.heap.size ≤ p
  b : Below v.heap.size v w
theorem SesA.two {v w : World} {g p : Nat} {s : Ss} (h : SesA v w g p s) : ∀ k, Two g p k → v.heap.size ≤ k := fun k hk => by rcases hk with rfl | rfl; exact h.g; exact h.p
theorem SesA.chg {v w w' : World} {g p : Nat} {s s' : Ss} (h : SesA v w g p s) (hc : Chg (Two g p) w w') (hs : SesR w' g p s') : SesA v w' g p s' :=
  ⟨hs, h.g, h.p, h.b.trans (hc.below h.two h.b.size)⟩
theorem SesA.below {v w w' : World} {g p : Nat} {s : Ss} (h : SesA v w g p s) (hb : Below w.heap.size w w') : SesA v w' g p s :=
  ⟨⟨h.r.b.below hb h.r.b.lt, h.r.p.below hb h.r.p.lt⟩, h.g, h.p, h.b.trans (hb.mono h.b.size)⟩
theorem snew_a (v w : World) (r : Int) (h : Below v.heap.size v w) : Calls Tryz.prog 28 #[.int .i64 r] w fun e w' => ∃ g p, e = .returned (.pointer (some ⟨g, 0, none⟩)) ∧ SesA v w' g p (newS r) ∧ Below w.heap.size w w' :=
  (snew_calls w r).mono fun e w' ⟨g, he, hs, hg, hb⟩ => ⟨g, w.heap.size, he, ⟨hs, Nat.le_trans h.size (Nat.le_of_lt hg), h.size, h.trans (hb.mono h.size)⟩, hb⟩
theorem next_a (v w : World) (g p : Nat) (s : Ss) (ht : Tbs v) (h : SesA v w g p s) (hb : s.buf.length ≤ 1000000) (hq : 0 ≤ s.seq ∧ s.seq ≤ 1000000) :
    Calls Tryz.prog 34 #[.pointer (some ⟨g, 0, none⟩)] w fun e w' => ∃ (A : Option Addr) (c : Nat), e = .returned (turnV (nextS s).1 A c) ∧ Row w' (From w.heap.size) 43 5 A (nextS s).1.q.ops.length c (opsE (nextS s).1.q.ops) ∧ SesA v w' g p (nextS s).2 ∧ Chg (Two g p) w w' :=
  (next_calls_s w g p s h.r hb hq v ht h.b h.g h.p).mono fun e w' ⟨⟨A, c, he, hr, hs, hc⟩⟩ => ⟨A, c, he, hr, h.chg hc hs, hc⟩
theorem feed_a (v w : World) (g p : Nat) (s : Ss) (x : ByteArray) (h : SesA v w g p s) (hr0 : 0 ≤ s.room) (hr : s.room ≤ 9223372036854775807) (hb : s.buf.length ≤ 1000000000) (hx : x.size ≤ 1000000000) :
    Calls Tryz.prog 30 #[.pointer (some ⟨g, 0, none⟩), .string x] w fun e w' => e = .returned (.bool (mayFeed s x.data.toList)) ∧ SesA v w' g p (feedS s x.data.toList) ∧ Chg (One p) w w' :=
  (feed_calls w g p s x h.r hr0 hr hb hx).mono fun e w' ⟨he, hs, hc⟩ => ⟨he, h.chg hc.two hs, hc⟩

set_option maxRecDepth 100000 in
set_option maxHeartbeats 4000000 in
theorem sfirst_calls (w : World) (ht : Tbs w) : Calls Tryz.prog 26 #[] w fun e w' => e = .returned (.bool true) ∧ Below w.heap.size w w' := by
  have C0 := hd (snew_a w w 100 (Below.refl _ _))
  have CK := hd (fun W => show Calls Tryz.prog 73 #[.agg #[.int .i64 6, .string ⟨#[]⟩, .string ⟨#[104, 111, 109, 101]⟩, .string ⟨#[97]⟩, .string ⟨#[]⟩, .int .i64 0, .int .i64 0, .slice none 0 0, .int .i64 0, .int .i64 0, .int .i64 0]] W fun e w' => e = .returned (.string (bs fA)) ∧ Below W.heap.size W w' from by
    have := kframe_calls getA none 0 W (Row.rds (Row.nil W Non 43 5)) getA_s getA_b chk_getA
    rw [getA_e] at this
    exact this)
  have HT := hd ht
  clear ht
  go_enter Tryz.func26, Tryz.ntmps26
  go_wp2_with fail
  refine C0.o.mono ?_
  rintro e w1 ⟨g, p, rfl, hs1, _⟩
  have HS1 := hd hs1
  clear hs1 C0
  go_wp2_with fail
  refine (CK.o _).mono ?_
  rintro e w2 ⟨rfl, hb2⟩
  have HS2 := hd (HS1.o.below hb2)
  have C2 := feed_a w w2 g p sA0 (bs fA) HS2.o (by decide) (by decide) (by decide) (by decide)
  rw [bs_data, feed_sA.1, feed_sA.2] at C2
  replace C2 := hd C2
  clear hb2 HS1 CK
  go_wp2_with fail
  refine C2.o.mono ?_
  rintro e w3 ⟨rfl, hs3, _⟩
  have C3 := ready_calls w3 g p sA1 hs3.r (by decide)
  rw [show readyS sA1 = true by unfold readyS; rw [sA1_look]; rfl] at C3
  have HS3 := hd hs3
  replace C3 := hd C3
  clear hs3 C2 HS2
  go_wp2_with fail
  refine C3.o.mono ?_
  rintro e w4 ⟨rfl, hb4⟩
  have HS4 := hd (HS3.o.below hb4)
  have C4 := next_a w w4 g p sA1 HT.o HS4.o (by decide) (by decide)
  rw [sA1_next] at C4
  replace C4 := hd C4
  clear hb4 C3 HS3
  go_wp2_with fail
  refine C4.o.mono ?_
  rintro e w5 ⟨A, c, he, _, hs5, _⟩
  have he2 : e = .returned (.agg #[.int .i64 2, .int .i64 1, .int .i64 6, .int .i64 0, .string ⟨#[]⟩, .string ⟨#[]⟩, .string ⟨#[]⟩, .string ⟨#[]⟩, .int .i64 0, .int .i64 0, .slice A 0 c, .int .i64 0, .int .i64 0, .int .i64 0, .int .i64 10]) := he
  subst he2
  clear he
  obtain ⟨w6, hw6⟩ : ∃ w6, w6 = w5.alloc (.cells #[.int .i64 2, .int .i64 1, .int .i64 6, .int .i64 0, .string ⟨#[]⟩, .string ⟨#[]⟩, .string ⟨#[]⟩, .string ⟨#[]⟩, .int .i64 0, .int .i64 0, .slice A 0 c, .int .i64 0, .int .i64 0, .int .i64 0, .int .i64 10] 61) := ⟨_, rfl⟩
  have HS6 := hd (hs5.below (show Below w5.heap.size w5 w6 by rw [hw6]; exact (Below.refl _ _).alloc (Nat.le_refl _) _))
  have HT6 := show Blk w6 w5.heap.size 61 _ by rw [hw6]; exact Blk.new _ _ _
  have y0 := HT6.at_ 0 rfl
  have y1 := HT6.at_ 1 rfl
  have y2 := HT6.at_ 2 rfl
  have y14 := HT6.at_ 14 rfl
  have C6 := tenant_calls w6 g p sA2 HS6.o.r
  have C7 := next_a w w6 g p sA2 HT.o HS6.o (by decide) (by decide)
  rw [sA2_next] at C7
  have HW6 := hd hw6
  replace C6 := hd C6
  replace C7 := hd C7
  clear hs5 hw6 HT6 C4 HS4
  have kt : (bs sA2.tn).toList = [] := by rw [bs_toL]; rfl
  go_upto_region 5 with (fail)
  rw [← HW6.o]
  go_wp2_with fail
  refine C6.o.mono ?_
  rintro e w' ⟨rfl, rfl⟩
  go_wp2_with fail
  refine C7.o.mono ?_
  rintro e w7 ⟨A2, c2, he, _, hs7, _⟩
  have he2 : e = .returned (.agg #[.int .i64 0, .int .i64 0, .int .i64 0, .int .i64 0, .string ⟨#[]⟩, .string ⟨#[]⟩, .string ⟨#[]⟩, .string ⟨#[]⟩, .int .i64 0, .int .i64 0, .slice A2 0 c2, .int .i64 0, .int .i64 0, .int .i64 0, .int .i64 0]) := he
  subst he2
  have HB7 := hd hs7.b
  have kf : (Instr.field 61 (.agg #[.int .i64 0, .int .i64 0, .int .i64 0, .int .i64 0, .string ⟨#[]⟩, .string ⟨#[]⟩, .string ⟨#[]⟩, .string ⟨#[]⟩, .int .i64 0, .int .i64 0, .slice A2 0 c2, .int .i64 0, .int .i64 0, .int .i64 0, .int .i64 0]) 0).run Tryz.prog w7 = .ok (.int .i64 0) w7 := by kernel_rfl
  clear he hs7
  go_wp2_with fail
  go_ret
  exact ⟨rfl, HB7.o⟩
end Go.Proofs.YtogjokofmfpmgaaGreatDoor
namespace Go.Proofs.YtogjokofmfpmgaaGreatDoor
open Go.RowKit

/-- One act: a Feed of s (op 0), a Half (1), a Next. -/
structure SAc where
  op : Int
  s : List UInt8
def sacEnc (a : SAc) : List Value := [.int .i64 a.op, .string (bs a.s)]
def sacE (l : List SAc) : List Value := l.flatMap sacEnc
theorem sacEnc_len (a : SAc) : (sacEnc a).length = 2 := rfl
theorem sacE_at (l : List SAc) (i : Nat) (h : i < l.length) (j : Nat) (hj : j < 2) : (sacE l)[i * 2 + j]? = (sacEnc l[i])[j]? := flat_at sacEnc 2 sacEnc_len l i h j hj
def lightA (x : SAc) : Bool := !decide (2000 < x.s.length)
def lightL (l : List SAc) : Bool := !decide (60 < l.length) && l.all lightA
theorem lightL_le {l : List SAc} (h : lightL l = true) : l.length ≤ 60 ∧ ∀ a ∈ l, a.s.length ≤ 2000 := by
  unfold lightL lightA at h
  simp only [Bool.and_eq_true, Bool.not_eq_true', decide_eq_false_iff_not, Nat.not_lt, List.all_eq_true] at h
  exact h

set_option maxHeartbeats 2000000 in
theorem slight_calls (w : World) (l : List SAc) (A : Option Addr) (c : Nat) (hr : Rds w A l.length 2 (sacE l)) (hlen : l.length ≤ maxLen) (heach : ∀ a ∈ l, a.s.length ≤ maxLen) :
    Calls Tryz.prog 27 #[.slice A l.length c] w fun e w' => e = .returned (.bool (lightL l)) ∧ w = w' := by
  obtain ⟨LB, hLB⟩ : ∃ LB, lightL l = LB := ⟨_, rfl⟩
  rw [hLB]
  simp only [lightL] at hLB
  obtain ⟨n, hn⟩ : ∃ n, l.length = n := ⟨_, rfl⟩
  rw [hn] at hr hlen hLB ⊢
  have HL := hd hLB
  have HN := hd hn
  have HE := hd heach
  unfold maxLen at hlen
  have HRX := hd hr
  clear hLB hn heach hr
  by_cases c0 : 60 < n
  case pos =>
    have f0 : decide ((60 : Int) < (n : Int)) = true := by simp; omega
    have HR : Hd (LB = false) := hd (by rw [← HL.o]; simp [c0])
    clear c0
    go_enter Tryz.func27, Tryz.ntmps27
    go_wp2
    go_ret
    exact ⟨ret_bool HR.o.symm, rfl⟩
  case neg =>
  have f0 : decide ((60 : Int) < (n : Int)) = false := by simp; omega
  have HR : Hd (LB = l.all lightA) := hd (by rw [← HL.o]; simp [c0])
  go_enter Tryz.func27, Tryz.ntmps27
  go_wp2_with fail
  clear f0 c0
  go_loop [3] (fun i => ∃ k : Nat, i = .int .i64 k ∧ k ≤ n ∧ Hd (∀ j (h : j < l.length), j < k → lightA l[j] = true)) (fun i => n - (intOf i).toNat)
  case atStart => exact ⟨0, rfl, Nat.zero_le _, hd (fun j _ h => absurd h (Nat.not_lt_zero _))⟩
  case round =>
    obtain ⟨k, rfl, hk, hall⟩ := hrel
    have hki : (0 : Int) ≤ (k : Int) := by omega
    by_cases hlt : k < n
    · have hlti : (k : Int) < (n : Int) := by omega
      have hkl : k < l.length := by rw [HN.o]; exact hlt
      obtain ⟨g, o, rfl, hg, hc⟩ := HRX.o.at_ (by omega)
      obtain ⟨x, hx⟩ : ∃ x, l[k]'hkl = x := ⟨_, rfl⟩
      have HX2 := hd hx
      have hes := HE.o x (by rw [← hx]; exact List.getElem_mem hkl)
      have hcell : ∀ j u, j < 2 → (sacEnc x)[j]? = some u → w.cell? ⟨g, o + (k * 2 + j), none⟩ = some u := fun j u hj hv => hc _ _ ((sacE_at l k hkl j hj).trans (by rw [hx]; exact hv))
      obtain ⟨xo, xs⟩ := x
      have k1 := hcell 1 _ (by omega) rfl
      rw [← Nat.add_assoc] at k1
      obtain ⟨vz, hvz⟩ : ∃ z, xs.length = z := ⟨_, rfl⟩
      simp only [hvz] at hes
      unfold maxLen at hes
      have hsu : (bs xs).size = vz := by rw [bs_size, hvz]
      have HBAD : Hd (2000 < vz → LB = false) := hd (fun h => by
        rw [HR.o, Bool.eq_false_iff]
        intro ha
        have := List.all_eq_true.1 ha _ (List.getElem_mem hkl)
        rw [HX2.o] at this
        simp only [lightA, hvz] at this
        simp [h] at this)
      have HG : Hd (¬ 2000 < vz → ∀ j (h : j < l.length), j < k + 1 → lightA l[j] = true) := hd (fun h1 j hj hjk => by
        by_cases hjj : j < k
        · exact hall.o j hj hjj
        · obtain rfl : j = k := by omega
          rw [HX2.o]
          simp only [lightA, hvz]
          simp [h1])
      clear hcell hc hx hvz hall
      by_cases v2 : 2000 < vz
      · have g2 : decide ((2000 : Int) < (vz : Int)) = true := by simp; omega
        have HH := hd (HBAD.o v2)
        clear v2
        go_wp2
        go_ret
        exact ⟨ret_bool HH.o.symm, rfl⟩
      · have g2 : decide ((2000 : Int) < (vz : Int)) = false := by simp; omega
        have HH := hd (HG.o v2)
        clear v2
        go_wp2
        go_round
        case rel => exact ⟨k + 1, by go_num, by omega, HH⟩
        case measure => simp [intOf]; omega
    · obtain rfl : k = n := by omega
      have HH : Hd (LB = true) := hd (by
        rw [HR.o, List.all_eq_true]
        intro x hx
        obtain ⟨j, hj, rfl⟩ := List.getElem_of_mem hx
        exact hall.o j hj (by rw [← HN.o]; exact hj))
      have hki2 : ¬ (k : Int) < (k : Int) := by omega
      clear hall
      go_wp2
      go_ret
      exact ⟨ret_bool HH.o.symm, rfl⟩
end Go.Proofs.YtogjokofmfpmgaaGreatDoor
namespace Go.Proofs.YtogjokofmfpmgaaGreatDoor
open Go.RowKit

structure SOk (k : Nat) (room : Int) (s : Ss) : Prop where
  room : s.room = max room 0
  buf : s.buf.length ≤ 2000 * k
  seq : 0 ≤ s.seq ∧ s.seq ≤ k
theorem sok_new (room : Int) : SOk 0 room (newS room) := ⟨rfl, by simp [newS], by simp [newS]⟩
theorem sok_feed {k : Nat} {room : Int} {s : Ss} (h : SOk k room s) {x : List UInt8} (hx : x.length ≤ 2000) : SOk (k + 1) room (feedS s x) := by
  have := h.seq
  have := h.buf
  unfold feedS
  split
  · exact ⟨h.room, by show (s.buf ++ x).length ≤ _; rw [List.length_append]; omega, ⟨h.seq.1, by show s.seq ≤ _; omega⟩⟩
  · exact ⟨h.room, by omega, ⟨h.seq.1, by omega⟩⟩
theorem sok_half {k : Nat} {room : Int} {s : Ss} (h : SOk k room s) : SOk (k + 1) room (halfS s) :=
  ⟨h.room, by have := h.buf; show s.buf.length ≤ _; omega, ⟨h.seq.1, by have := h.seq.2; show s.seq ≤ _; omega⟩⟩
theorem next_sizes (s : Ss) : (nextS s).2.room = s.room ∧ (nextS s).2.buf.length ≤ s.buf.length ∧ s.seq ≤ (nextS s).2.seq ∧ (nextS s).2.seq ≤ s.seq + 1 := by
  rcases look_or s with h | h | ⟨h, _⟩ | ⟨h, _⟩
  · rw [next_0 h]; exact ⟨rfl, Nat.le_refl _, Int.le_refl _, by show s.seq ≤ _; omega⟩
  · rw [next_4 h]; exact ⟨rfl, Nat.le_refl _, Int.le_refl _, by show s.seq ≤ _; omega⟩
  · rw [next_3 h]; exact ⟨rfl, Nat.le_refl _, by show s.seq ≤ s.seq + 1; omega, Int.le_refl _⟩
  · have hl : (s.buf.drop (frN s.buf)).length ≤ s.buf.length := by rw [List.length_drop]; omega
    by_cases he : errS s = 0
    · rw [next_1 h he]
      simp only
      split <;> exact ⟨rfl, hl, by show s.seq ≤ s.seq + 1; omega, Int.le_refl _⟩
    · rw [next_2 h he]; exact ⟨rfl, hl, by show s.seq ≤ s.seq + 1; omega, Int.le_refl _⟩
theorem sok_next {k : Nat} {room : Int} {s : Ss} (h : SOk k room s) : SOk (k + 1) room (nextS s).2 := by
  obtain ⟨h1, h2, h3, h4⟩ := next_sizes s
  have := h.seq
  have := h.buf
  exact ⟨h1.trans h.room, by omega, by omega, by omega⟩
theorem SOk.room_ {k : Nat} {room : Int} {s : Ss} (h : SOk k room s) (hr : room ≤ 9223372036854775807) : 0 ≤ s.room ∧ s.room ≤ 9223372036854775807 := by
  rw [h.room]; omega
end Go.Proofs.YtogjokofmfpmgaaGreatDoor
namespace Go.Proofs.YtogjokofmfpmgaaGreatDoor
open Go.RowKit

theorem ready_is0 (s : Ss) : (lookW s = 0 → readyS s = false) ∧ (lookW s ≠ 0 → readyS s = true) := by
  unfold readyS
  exact ⟨fun h => by simp [h], fun h => by simp [h]⟩
set_option maxRecDepth 100000 in
set_option maxHeartbeats 8000000 in
theorem sready_law (room : Int) (A : Option Addr) (n c : Nat) (l : List SAc) (w : World) (ht : Tbs w) (hroom : -9223372036854775808 ≤ room ∧ room ≤ 9223372036854775807) (hr : Rds w A n 2 (sacE l)) (hn : n = l.length) (hm : n ≤ maxLen) (hok : ∀ a ∈ l, a.s.length ≤ maxLen) :
    Calls Tryz.prog 9 #[.int .i64 room, .slice A n c] w fun e w' => e = .returned (.bool true) ∧ Below w.heap.size w w' := by
  cases hlt : lightL l with
  | false =>
    have HLI := fun w' (hb : Below w.heap.size w w') => slight_calls w' l A c (by rw [← hn]; exact hr.below hb) (by rw [← hn]; exact hm) hok
    rw [hlt, ← hn] at HLI
    replace HLI := hd HLI
    have HT := hd ht
    clear hr hn hm hok hlt ht hroom
    go_enter Tryz.func9, Tryz.ntmps9
    go_wp2_with fail
    refine (sfirst_calls w HT.o).mono ?_
    rintro e w1 ⟨rfl, b1⟩
    go_wp2_with fail
    refine (HLI.o w1 b1).mono ?_
    rintro e w2 ⟨rfl, rfl⟩
    go_wp2_with fail
    refine (sfirst_calls w1 (HT.o.below b1)).mono ?_
    rintro e w3 ⟨rfl, b3⟩
    go_wp2
    go_ret
    exact ⟨rfl, b1.trans (b3.mono b1.size)⟩
  | true =>
    have HLI := fun w' (hb : Below w.heap.size w w') => slight_calls w' l A c (by rw [← hn]; exact hr.below hb) (by rw [← hn]; exact hm) hok
    rw [hlt, ← hn] at HLI
    replace HLI := hd HLI
    obtain ⟨hn60, hE⟩ := lightL_le hlt
    rw [← hn] at hn60
    have HE := hd hE
    have HN := hd hn
    have HT := hd ht
    have HR := hd hr
    have HROOM := hd hroom
    unfold maxLen at hm
    clear hr hn hok hlt ht hE hroom
    go_enter Tryz.func9, Tryz.ntmps9
    go_wp2_with fail
    refine (sfirst_calls w HT.o).mono ?_
    rintro e w1 ⟨rfl, b1⟩
    go_wp2_with fail
    refine (HLI.o w1 b1).mono ?_
    rintro e w2 ⟨rfl, rfl⟩
    have B1 := hd b1
    clear b1 HLI
    go_wp2_with fail
    refine (snew_a w w1 room B1.o).mono ?_
    rintro e w2 ⟨g, p, rfl, hs2, _⟩
    have HS0 := hd hs2
    clear hs2 B1
    go_wp2_with fail
    go_loopw [6] (fun i wr => ∃ (k : Nat) (s : Ss), i = .int .i64 k ∧ k ≤ n ∧ Hd (SOk k room s) ∧ Hd (SesA w wr g p s)) (fun i _  => n - (intOf i).toNat)
    case atStart => exact ⟨0, newS room, rfl, Nat.zero_le _, hd (sok_new room), HS0⟩
    case round =>
      clear HS0
      obtain ⟨k, s, rfl, hk, HOK, HS⟩ := hrel
      obtain ⟨wi, rfl⟩ : ∃ wi : World, wi = wr := ⟨_, rfl⟩
      have hki : (0 : Int) ≤ (k : Int) := by omega
      by_cases hlt : k < n
      · have hlti : (k : Int) < (n : Int) := by omega
        have hkl : k < l.length := by rw [← HN.o]; exact hlt
        obtain ⟨g0, o, rfl, hg, hc⟩ := HR.o.at_ (by omega)
        obtain ⟨x, hx⟩ : ∃ x, l[k]'hkl = x := ⟨_, rfl⟩
        have h2000 := HE.o x (by rw [← hx]; exact List.getElem_mem hkl)
        have hcell : ∀ j u, j < 2 → (sacEnc x)[j]? = some u → wi.cell? ⟨g0, o + (k * 2 + j), none⟩ = some u := fun j u hj hv => (HS.o.b.cell (p := ⟨g0, o + (k * 2 + j), none⟩) hg).trans (hc _ _ ((sacE_at l k hkl j hj).trans (by rw [hx]; exact hv)))
        obtain ⟨xo, xs⟩ := x
        have y0 : wi.cell? ⟨g0, o + k * 2, none⟩ = some (.int .i64 xo) := hcell 0 _ (by omega) rfl
        have y1 : wi.cell? ⟨g0, o + k * 2 + 1, none⟩ = some (.string (bs xs)) := hcell 1 _ (by omega) rfl
        simp only at h2000
        have hroom := HOK.o.room_ HROOM.o.2
        have hbuf : s.buf.length ≤ 120000 := by have := HOK.o.buf; omega
        have hseq := HOK.o.seq
        have C1 := hd (feed_a w wi g p s (bs xs) HS.o hroom.1 hroom.2 (by omega) (by rw [bs_size]; omega))
        have C2 := hd (half_calls wi g p s HS.o.r)
        have C3 := hd (ready_calls wi g p s HS.o.r (by omega))
        have C6 := hd (fun W (hW : SesA w W g p s) => next_a w W g p s HT.o hW (by omega) (by omega))
        have N1 := hd (sok_feed (x := xs) HOK.o h2000)
        have N2 := hd (sok_half HOK.o)
        have N3 := hd (sok_next HOK.o)
        clear hcell hc hx hkl h2000 hroom hbuf hseq
        by_cases e0 : xo = 0
        · subst e0
          clear C2 C3 C6 N2 N3
          go_wp2_with fail
          refine C1.o.mono ?_
          rintro e w3 ⟨rfl, hs3, _⟩
          have HS3 := hd hs3
          rw [bs_data] at HS3
          clear hs3 HS HOK C1
          go_wp2
          go_roundw
          case rel => exact ⟨k + 1, _, by go_num, by omega, N1, HS3⟩
          case measure => simp [intOf]; omega
        by_cases e1 : xo = 1
        · subst e1
          clear C1 C3 C6 N1 N3
          go_wp2_with fail
          refine C2.o.mono ?_
          rintro e w3 ⟨rfl, hs3, hc3⟩
          have HS3 := hd (HS.o.chg hc3.two hs3)
          clear hs3 hc3 HS HOK C2
          go_wp2
          go_roundw
          case rel => exact ⟨k + 1, _, by go_num, by omega, N2, HS3⟩
          case measure => simp [intOf]; omega
        have b0 : (xo == 0) = false := by simpa using e0
        have b1 : (xo == 1) = false := by simpa using e1
        clear C1 C2 N1 N2 e0 e1
        by_cases h0 : lookW s = 0
        · have hr0 := (ready_is0 s).1 h0
          rw [next_0 h0] at N3
          have C7 := hd (fun W (hW : SesA w W g p s) => ready_calls W g p s hW.r (by have := HOK.o.buf; omega))
          have C6' := C6.o
          rw [next_0 h0] at C6'
          rw [hr0] at C3 C7
          have sq : (s.seq != s.seq) = false := by simp
          replace C6 := hd C6'
          clear C6' h0 hr0
          go_wp2_with fail
          refine C3.o.mono ?_
          rintro e w3 ⟨rfl, hb3⟩
          have HS3 := hd (HS.o.below hb3)
          clear hb3 HS C3 y0 y1
          go_wp2_with fail
          refine (seq_calls w3 g p s HS3.o.r).mono ?_
          rintro e w' ⟨rfl, rfl⟩
          go_wp2_with fail
          refine (tenant_calls w3 g p s HS3.o.r).mono ?_
          rintro e w' ⟨rfl, rfl⟩
          go_wp2_with fail
          refine (C6.o w3 HS3.o).mono ?_
          rintro e w4 ⟨A2, c2, he, _, hs4, _⟩
          have he2 : e = .returned (.agg #[.int .i64 0, .int .i64 0, .int .i64 0, .int .i64 0, .string ⟨#[]⟩, .string ⟨#[]⟩, .string ⟨#[]⟩, .string ⟨#[]⟩, .int .i64 0, .int .i64 0, .slice A2 0 c2, .int .i64 0, .int .i64 0, .int .i64 0, .int .i64 0]) := he
          subst he2
          obtain ⟨w5, hw5⟩ : ∃ w5, w5 = w4.alloc (.cells #[.int .i64 0, .int .i64 0, .int .i64 0, .int .i64 0, .string ⟨#[]⟩, .string ⟨#[]⟩, .string ⟨#[]⟩, .string ⟨#[]⟩, .int .i64 0, .int .i64 0, .slice A2 0 c2, .int .i64 0, .int .i64 0, .int .i64 0, .int .i64 0] 61) := ⟨_, rfl⟩
          have HS5 := hd (hs4.below (show Below w4.heap.size w4 w5 by rw [hw5]; exact (Below.refl _ _).alloc (Nat.le_refl _) _))
          have HT5 := show Blk w5 w4.heap.size 61 _ by rw [hw5]; exact Blk.new _ _ _
          have z0 := HT5.at_ 0 rfl
          have z1 := HT5.at_ 1 rfl
          have HW5 := hd hw5
          have C8 := hd (C7.o w5 HS5.o)
          have C9 := hd (seq_calls w5 g p s HS5.o.r)
          have C10 := hd (tenant_calls w5 g p s HS5.o.r)
          clear he hs4 hw5 HT5 C6 HS3 C7
          go_upto_region 14 with (fail)
          rw [← HW5.o]
          go_wp2_with fail
          refine C9.o.mono ?_
          rintro e w' ⟨rfl, rfl⟩
          go_wp2_with fail
          refine C10.o.mono ?_
          rintro e w' ⟨rfl, rfl⟩
          go_wp2_with fail
          refine C8.o.mono ?_
          rintro e w6 ⟨rfl, hb6⟩
          have HS6 := hd (HS5.o.below hb6)
          clear hb6 C8 C9 C10 z0 z1 sq HOK
          go_wp2
          go_roundw
          case rel => exact ⟨k + 1, _, by go_num, by omega, N3, HS6⟩
          case measure => simp [intOf]; omega
        · have hr0 := (ready_is0 s).2 h0
          have hw0 : (nextS s).1.what ≠ 0 := fun h => h0 ((next_what s).1.1 h)
          have a0 : ((nextS s).1.what != 0) = true := by simpa using hw0
          have a1 : ((nextS s).1.what == 0) = false := by simpa using hw0
          generalize (nextS s).2 = s' at *
          generalize (nextS s).1 = t at *
          rw [hr0] at C3
          have C6' := C6.o
          replace C6 := hd C6'
          clear C6' h0 hr0 hw0
          go_wp2_with fail
          refine C3.o.mono ?_
          rintro e w3 ⟨rfl, hb3⟩
          have HS3 := hd (HS.o.below hb3)
          clear hb3 HS C3 y0 y1
          go_wp2_with fail
          refine (seq_calls w3 g p s HS3.o.r).mono ?_
          rintro e w' ⟨rfl, rfl⟩
          go_wp2_with fail
          refine (tenant_calls w3 g p s HS3.o.r).mono ?_
          rintro e w' ⟨rfl, rfl⟩
          go_wp2_with fail
          refine (C6.o w3 HS3.o).mono ?_
          rintro e w4 ⟨A2, c2, he, _, hs4, _⟩
          have he2 : e = .returned (.agg #[.int .i64 t.what, .int .i64 t.seq, .int .i64 t.k, .int .i64 t.q.k, .string (bs t.q.tn), .string (bs t.q.col), .string (bs t.q.uid), .string (bs t.q.card), .int .i64 t.q.ck, .int .i64 t.q.cv, .slice A2 t.q.ops.length c2, .int .i64 t.q.tok, .int .i64 t.q.most, .int .i64 t.q.ticks, .int .i64 t.e]) := he
          subst he2
          obtain ⟨w5, hw5⟩ : ∃ w5, w5 = w4.alloc (.cells #[.int .i64 t.what, .int .i64 t.seq, .int .i64 t.k, .int .i64 t.q.k, .string (bs t.q.tn), .string (bs t.q.col), .string (bs t.q.uid), .string (bs t.q.card), .int .i64 t.q.ck, .int .i64 t.q.cv, .slice A2 t.q.ops.length c2, .int .i64 t.q.tok, .int .i64 t.q.most, .int .i64 t.q.ticks, .int .i64 t.e] 61) := ⟨_, rfl⟩
          have HS5 := hd (hs4.below (show Below w4.heap.size w4 w5 by rw [hw5]; exact (Below.refl _ _).alloc (Nat.le_refl _) _))
          have HT5 := show Blk w5 w4.heap.size 61 _ by rw [hw5]; exact Blk.new _ _ _
          have z0 := HT5.at_ 0 rfl
          have HW5 := hd hw5
          clear he hs4 hw5 HT5 C6 HS3
          go_upto_region 14 with (fail)
          rw [← HW5.o]
          go_wp2
          clear z0 HOK a0 a1
          go_roundw
          case rel => exact ⟨k + 1, _, by go_num, by omega, N3, HS5⟩
          case measure => simp [intOf]; omega
      · obtain rfl : k = n := by omega
        have hki2 : ¬ (k : Int) < (k : Int) := by omega
        have HB := hd HS.o.b
        clear HS HOK
        go_wp2
        go_ret
        exact ⟨rfl, HB.o⟩
end Go.Proofs.YtogjokofmfpmgaaGreatDoor
namespace Go.Proofs.YtogjokofmfpmgaaGreatDoor
open Go.ChangeShapes Go.WideShapes Go.ChangeAt Go.RowKit

theorem own : ownKnob Tryz.prog.godebug = none := by kernel_rfl
theorem choose_list {R : Type} (P : Nat → R → Prop) : ∀ n, (∀ i, i < n → ∃ r, P i r) → ∃ l : List R, l.length = n ∧ ∀ (i : Nat) (h : i < l.length), P i l[i]
  | 0, _ => ⟨[], rfl, fun i h => by simp at h⟩
  | n + 1, h => by
    obtain ⟨l, hl, hp⟩ := choose_list P n (fun i hi => h i (by omega))
    obtain ⟨r, hr⟩ := h n (by omega)
    refine ⟨l ++ [r], by simp [hl], fun i hi => ?_⟩
    by_cases hin : i < l.length
    · rw [List.getElem_append_left hin]; exact hp i hin
    · have : i = n := by simp at hi; omega
      subst this
      rw [List.getElem_append_right (by omega)]
      simp [hl]
      exact hr

theorem flat_get {R : Type} (enc : R → List Value) (k : Nat) (hk : ∀ r, (enc r).length = k) : ∀ (l : List R) (i : Nat) (h : i < l.length) (j : Nat), j < k → (l.flatMap enc)[i * k + j]? = (enc l[i])[j]?
  | a :: l, 0, _, j, hj => by
    rw [List.flatMap_cons, Nat.zero_mul, Nat.zero_add, List.getElem?_append_left (by rw [hk]; exact hj)]; rfl
  | a :: l, i + 1, h, j, hj => by
    rw [List.flatMap_cons, List.getElem?_append_right (by rw [hk, Nat.add_mul]; omega), hk, show (i + 1) * k + j - k = i * k + j by rw [Nat.add_mul]; omega]
    simpa using flat_get enc k hk l i (by simpa using h) j hj
theorem flat_len {R : Type} (enc : R → List Value) (k : Nat) (hk : ∀ r, (enc r).length = k) (l : List R) : (l.flatMap enc).length = l.length * k := by
  induction l with
  | nil => simp
  | cons a l ih => rw [List.flatMap_cons, List.length_append, ih, hk, List.length_cons, Nat.add_mul]; omega

/-- A slice of elements of k cells that came in, each read by 'hdec': a list of what was read. -/
theorem rds_of_slice {R : Type} {H : Type} {enc0 : TypeId × Value → H} {W : World} {base : Nat} {spare : Nat → Bool} {held : Bool} {t e : TypeId} {A : Option Addr} {n c : Nat} {d : DataW H} {p : List MemPlace}
    (enc : R → List Value) (k : Nat) (hk : ∀ r, (enc r).length = k) (h0 : 0 < k) (Q : R → Prop) (ht : Tryz.prog.underlying t = some (.slice e)) (hc : Tryz.prog.cellsOf e = k)
    (hdec : ∀ fuel cs x, DataW.trod enc0 Tryz.prog W base spare held fuel e cs = some x → cs.length = k → ∃ r, cs = enc r ∧ Q r)
    (h : DataW.Trod enc0 Tryz.prog W base spare held t (.slice A n c) d p) :
    ∃ l : List R, Rds W A n k (l.flatMap enc) ∧ n = l.length ∧ n ≤ maxLen ∧ ∀ r ∈ l, Q r := by
  obtain ⟨fuel, hf⟩ := h
  rcases Go.Deep.open_slice ht hf with ⟨hcs, _⟩ | ⟨a, len, cap, m, n', D, Pl, hcs, hb, hl, hm, hmm, hx, hi⟩
  · simp [Value.cells] at hcs
    obtain ⟨rfl, rfl, rfl⟩ := hcs
    exact ⟨[], ⟨by simp, fun h => by omega⟩, rfl, by simp, by simp⟩
  · simp [Value.cells] at hcs
    obtain ⟨rfl, rfl, rfl⟩ := hcs
    have hnm : n ≤ m := by rw [hmm]; split <;> omega
    rw [hc] at hi
    have hr : ∀ i, i < n → ∃ r : R, (∀ j, j < k → W.cell? (a.add (i * k + j)) = (enc r)[j]?) ∧ Q r := by
      intro i hin
      obtain ⟨cs', h1, h2⟩ := hi i (by omega)
      obtain ⟨_, h3, h4⟩ := World.cells?_some h1
      obtain ⟨r, rfl, hq⟩ := hdec _ _ _ h2 h3
      exact ⟨r, fun j hj => by rw [← h4 j hj, ← Go.Deep.add_add], hq⟩
    obtain ⟨l, hll, hlp⟩ := choose_list _ n hr
    refine ⟨l, ⟨by rw [flat_len enc k hk, hll], fun hn => ?_⟩, hll.symm, by omega, fun r hrm => ?_⟩
    · have hc0 : ∀ j u, (l.flatMap enc)[j]? = some u → W.cell? (a.add j) = some u := by
        intro j u hu
        have hj : j < l.length * k := by
          have := (List.getElem?_eq_some_iff.1 hu).1
          rwa [flat_len enc k hk] at this
        have hjk : j / k < l.length := Nat.div_lt_of_lt_mul (by rwa [Nat.mul_comm] at hj)
        have hmod := Nat.mod_lt j h0
        have hd := Nat.div_add_mod' j k
        have e1 := flat_get enc k hk l (j / k) hjk (j % k) hmod
        rw [hd, hu] at e1
        have e2 := (hlp (j / k) hjk).1 (j % k) hmod
        rw [hd, ← e1] at e2
        exact e2
      have hlen : 0 < (l.flatMap enc).length := by rw [flat_len enc k hk]; exact Nat.mul_pos (by omega) h0
      have hz := hc0 0 _ (List.getElem?_eq_getElem hlen)
      obtain ⟨g, o, sp⟩ := a
      have hsp : sp = none := by simpa [Addr.add] using World.cell?_spot hz
      subst hsp
      refine ⟨g, o, rfl, by simpa [Addr.add] using World.block_lt_of_cell? W _ hz, fun j u hu => ?_⟩
      have := hc0 j u hu
      rwa [Addr.add_lit] at this
    · obtain ⟨i, hil, rfl⟩ := List.getElem_of_mem hrm
      exact (hlp i hil).2

end Go.Proofs.YtogjokofmfpmgaaGreatDoor
namespace Go.Proofs.YtogjokofmfpmgaaGreatDoor
open Go.ChangeShapes Go.WideShapes Go.ChangeAt Go.RowKit

theorem sc_int : Tryz.prog.cellsOf 3 = 1 := by kernel_rfl
theorem sc_str : Tryz.prog.cellsOf 9 = 1 := by kernel_rfl
theorem sc_act : Tryz.prog.cellsOf 52 = 2 := by kernel_rfl
section
variable {H : Type} {enc : TypeId × Value → H} {W : World} {base : Nat} {spare : Nat → Bool} {held : Bool}

set_option maxRecDepth 100000 in
theorem rds_of_sacs {t : TypeId} {A : Option Addr} {n c : Nat} {d : DataW H} {p : List MemPlace} (ht : Tryz.prog.underlying t = some (.slice 52)) (h : DataW.Trod enc Tryz.prog W base spare held t (.slice A n c) d p) :
    ∃ l : List SAc, Rds W A n 2 (sacE l) ∧ n = l.length ∧ n ≤ maxLen ∧ (∀ a ∈ l, a.s.length ≤ maxLen) :=
  rds_of_slice (R := SAc) sacEnc 2 sacEnc_len (by decide) (fun a => a.s.length ≤ maxLen) ht sc_act (by
    intro fuel cs x hx hl
    obtain ⟨xs, m, _, _, _, hxl, hf⟩ := DataW.trod_struct Tryz.underlying52 hx
    match cs, hl with
    | [c0, c1], _ =>
      have f0 := hf 0 _ rfl
      have f1 := hf 1 _ rfl
      change DataW.trod enc Tryz.prog W base spare held m 3 (List.take (Tryz.prog.cellsOf 3) (List.drop 0 [c0, c1])) = xs[0]? at f0
      change DataW.trod enc Tryz.prog W base spare held m 9 (List.take (Tryz.prog.cellsOf 9) (List.drop 1 [c0, c1])) = xs[1]? at f1
      simp only [sc_int, sc_str, List.drop_zero, List.take_succ_cons, List.take_zero, List.drop_succ_cons] at f0 f1
      simp only [List.size_toArray, List.length_cons, List.length_nil] at hxl
      rw [List.getElem?_eq_getElem (by omega)] at f0 f1
      obtain ⟨n0, e0, _⟩ := DataW.trod_int Tryz.underlying3 f0
      obtain ⟨s1, e1, _, z1⟩ := DataW.trod_string Tryz.underlying9 f1
      simp only [List.cons.injEq, and_true] at e0 e1
      subst e0 e1
      exact ⟨⟨n0, s1.data.toList⟩, rfl, by rw [← ba_size]; exact z1⟩) h
end

end Go.Proofs.YtogjokofmfpmgaaGreatDoor
