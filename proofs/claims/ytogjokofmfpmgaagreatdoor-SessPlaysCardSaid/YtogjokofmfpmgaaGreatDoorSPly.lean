/-
  henlaw26.SessPlays.
-/
import Derived.Test.YtogjokofmfpmgaaGreatDoorGSA
import Derived.Test.YtogjokofmfpmgaaGreatDoorGSE
import Derived.Test.YtogjokofmfpmgaaGreatDoorSOk
set_option linter.unusedVariables false
set_option linter.unusedSimpArgs false
namespace Go.Proofs.YtogjokofmfpmgaaGreatDoor
open Go.RowKit

/-- Behind an act. -/
structure MidS (v : World) (g p g2 p2 k : Nat) (room : Int) (wx : World) : Prop where
  o : ∃ s : Ss, SOk k room s ∧ TwoS v wx g p g2 p2 s s
set_option maxRecDepth 100000 in
set_option maxHeartbeats 8000000 in
theorem splays_law (room : Int) (A : Option Addr) (n c : Nat) (l : List SAc) (w : World) (ht : Tbs w) (hroom : -9223372036854775808 ≤ room ∧ room ≤ 9223372036854775807) (hr : Rds w A n 2 (sacE l)) (hn : n = l.length) (hm : n ≤ maxLen) (hok : ∀ a ∈ l, a.s.length ≤ maxLen) :
    Calls Tryz.prog 8 #[.int .i64 room, .slice A n c] w fun e w' => e = .returned (.bool true) ∧ Below w.heap.size w w' := by
  cases hlt : lightL l with
  | false =>
    have HLI := fun w' (hb : Below w.heap.size w w') => slight_calls w' l A c (by rw [← hn]; exact hr.below hb) (by rw [← hn]; exact hm) hok
    rw [hlt, ← hn] at HLI
    replace HLI := hd HLI
    have HT := hd ht
    clear hr hn hm hok hlt ht hroom
    go_enter Tryz.func8, Tryz.ntmps8
    go_wp2_with fail
    refine (sfirst_calls w HT.o).mono ?_
    rintro e w1 ⟨rfl, b1⟩
    go_wp2_with fail
    refine (HLI.o w1 b1).mono ?_
    rintro e w2 ⟨rfl, rfl⟩
    go_wp2_with fail
    refine (sfirst_calls w1 (HT.o.below b1)).mono ?_
    rintro e w3 ⟨rfl, b3⟩
    go_wp2
    go_ret
    exact ⟨rfl, b1.trans (b3.mono b1.size)⟩
  | true =>
    have HLI := fun w' (hb : Below w.heap.size w w') => slight_calls w' l A c (by rw [← hn]; exact hr.below hb) (by rw [← hn]; exact hm) hok
    rw [hlt, ← hn] at HLI
    replace HLI := hd HLI
    obtain ⟨hn60, hE⟩ := lightL_le hlt
    rw [← hn] at hn60
    have HE := hd hE
    have HN := hd hn
    have HT := hd ht
    have HR := hd hr
    have HROOM := hd hroom
    unfold maxLen at hm
    clear hr hn hok hlt ht hE hroom
    go_enter Tryz.func8, Tryz.ntmps8
    go_wp2_with fail
    refine (sfirst_calls w HT.o).mono ?_
    rintro e w1 ⟨rfl, b1⟩
    go_wp2_with fail
    refine (HLI.o w1 b1).mono ?_
    rintro e w2 ⟨rfl, rfl⟩
    have B1 := hd b1
    clear b1 HLI
    go_wp2_with fail
    refine (two_new1 room B1.o).mono ?_
    rintro e w2 ⟨g, p, rfl, hs2⟩
    go_wp2_with fail
    refine (two_new2 room hs2).mono ?_
    rintro e w3 ⟨g2, p2, rfl, hs3⟩
    have HS0 := hd (show MidS w g p g2 p2 0 room w3 from ⟨⟨_, sok_new room, hs3⟩⟩)
    clear hs2 hs3 B1
    go_wp2_with fail
    go_loopw [7] (fun i wr => ∃ (k : Nat), i = .int .i64 k ∧ k ≤ n ∧ Hd (MidS w g p g2 p2 k room wr)) (fun i _  => n - (intOf i).toNat)
    case atStart => exact ⟨0, rfl, Nat.zero_le _, HS0⟩
    case round =>
      clear HS0
      obtain ⟨k, rfl, hk, hMID⟩ := hrel
      obtain ⟨wi, rfl⟩ : ∃ wi : World, wi = wr := ⟨_, rfl⟩
      obtain ⟨s, hOK, hS⟩ := hMID.o.o
      have HOK := hd hOK
      have HS := hd hS
      clear hMID hOK hS
      have hki : (0 : Int) ≤ (k : Int) := by omega
      by_cases hlt : k < n
      · have hlti : (k : Int) < (n : Int) := by omega
        have hkl : k < l.length := by rw [← HN.o]; exact hlt
        obtain ⟨g0, o, rfl, hg, hc⟩ := HR.o.at_ (by omega)
        obtain ⟨x, hx⟩ : ∃ x, l[k]'hkl = x := ⟨_, rfl⟩
        have h2000 := HE.o x (by rw [← hx]; exact List.getElem_mem hkl)
        have hcell : ∀ W j u, Below w.heap.size w W → j < 2 → (sacEnc x)[j]? = some u → W.cell? ⟨g0, o + (k * 2 + j), none⟩ = some u := fun W j u hb hj hv => (hb.cell (p := ⟨g0, o + (k * 2 + j), none⟩) hg).trans (hc _ _ ((sacE_at l k hkl j hj).trans (by rw [hx]; exact hv)))
        obtain ⟨xo, xs⟩ := x
        have y0 : wi.cell? ⟨g0, o + k * 2, none⟩ = some (.int .i64 xo) := hcell wi 0 _ HS.o.b (by omega) rfl
        have KEEP := hd (fun (W : World) (s t : Ss) (h : TwoS w W g p g2 p2 s t) => show W.cell? ⟨g0, o + k * 2 + 1, none⟩ = some (.string (bs xs)) ∧ W.cell? ⟨g2, 0, none⟩ = some (.pointer (some ⟨p2, 0, none⟩)) from ⟨hcell W 1 _ h.b (by omega) rfl, h.r.b.at_ 0 rfl⟩)
        simp only at h2000
        have hroom := HOK.o.room_ HROOM.o.2
        have hbuf : s.buf.length ≤ 120000 := by have := HOK.o.buf; omega
        have hseq := HOK.o.seq
        have F1 := hd (fun (W : World) (h : TwoS w W g p g2 p2 s s) => two_feed1 h (bs xs) hroom.1 hroom.2 (by omega) (by rw [bs_size]; omega))
        have F2 := hd (fun (W : World) (h : TwoS w W g p g2 p2 (feedS s xs) s) => two_feed2 h (bs xs) hroom.1 hroom.2 (by omega) (by rw [bs_size]; omega))
        have G1 := hd (fun (W : World) (h : TwoS w W g p g2 p2 s s) => two_half1 h)
        have X1 := hd (fun (W : World) (h : TwoS w W g p g2 p2 s s) => two_next1 HT.o h (by omega) (by omega))
        have X2 := hd (fun (W : World) (h : TwoS w W g p g2 p2 (nextS s).2 s) => two_next2 h (by omega) (by omega))
        have XL := hd (next_ops s)
        have N1 := hd (sok_feed (x := xs) HOK.o h2000)
        have N2 := hd (sok_half HOK.o)
        have N3 := hd (sok_next HOK.o)
        have b59 : k ≤ 59 := by omega
        clear hcell hc hx hkl h2000 hroom hbuf hseq HOK
        go_upto_block 2 with (fail)
        go_cut [] from 31 to 66 (fun wx => MidS w g p g2 p2 (k + 1) room wx)
        case first =>
          by_cases e0 : xo = 0
          · as_aux_lemma =>
              subst e0
              clear G1 X1 X2 XL N2 N3
              have T0 := HS.o
              obtain ⟨a0, a1⟩ := KEEP.o _ _ _ T0
              obtain ⟨mf, hmf⟩ : ∃ mf, mayFeed s xs = mf := ⟨_, rfl⟩
              have F1' := F1.o
              have F2' := F2.o
              rw [bs_data, hmf] at F1' F2'
              replace F1 := hd F1'
              replace F2 := hd F2'
              have n1 : (mf != mf) = false := by simp
              clear F1' F2' hmf HS y0
              go_upto_region 15 with (fail)
              go_region_held3 (fun w' => w'.cell? ⟨g0, o + k * 2 + 1, none⟩ = some (.string (bs xs)) ∧ w'.cell? ⟨g2, 0, none⟩ = some (.pointer (some ⟨p2, 0, none⟩))) (with_reducible first
                  | exact KEEP.o _ _ _ (by assumption)
                  | exact KEEP.o _ _ _ (TwoS.drew (by assumption)))
                (first
                  | (go_at_call 30
                     with_reducible refine (F1.o _ (by first | assumption | exact TwoS.drew (by assumption))).mono ?_
                     rintro e w6 ⟨rfl, hT1⟩)
                  | (go_at_call 31
                     with_reducible refine (F2.o _ (by first | assumption | exact TwoS.drew (by assumption))).mono ?_
                     rintro e w7 ⟨rfl, hT2⟩))
              have HO := hd (show MidS w g p g2 p2 (k + 1) room w7 from ⟨⟨_, N1.o, hT2⟩⟩)
              clear hT1 hT2 T0 F1 F2 N1 a0 a1 KEEP
              go_wp2_with fail
              go_meet
              exact HO.o
          · have b0 : (xo == 0) = false := by simpa using e0
            by_cases e1 : xo = 1
            · as_aux_lemma =>
                subst e1
                clear F1 F2 X1 X2 XL N1 N3 e0
                go_wp2_with fail
                refine (G1.o _ HS.o).mono ?_
                rintro e w3 ⟨rfl, hs3⟩
                have q0 := hs3.r.b.at_ 0 (v := .pointer (some ⟨p2, 0, none⟩)) rfl
                have q2 := hs3.r.p.at_ 2 (v := .bool s.closed) rfl
                have r2 := hs3.r.p.frozen 2
                have HO := hd (show MidS w g p g2 p2 (k + 1) room (w3.setCell ⟨p2, 2, none⟩ (.bool true)) from ⟨⟨_, N2.o, two_half2 hs3⟩⟩)
                clear hs3 HS G1 KEEP N2 y0
                go_wp2_with fail
                go_meet
                exact HO.o
            · as_aux_lemma =>
                have b1 : (xo == 1) = false := by simpa using e1
                clear F1 F2 G1 N1 N2 e0 e1 KEEP
                go_wp2_with fail
                refine (X1.o _ HS.o).mono ?_
                rintro e w3 ⟨A3, c3, rfl, hr3, hs3, hl1, hl2⟩
                have HR3 := hd hr3
                have HS3 := hd hs3
                have HL := hd (And.intro hl1 hl2)
                clear hr3 hs3 hl1 hl2 HS X1 y0
                go_wp2_with fail
                refine (X2.o _ HS3.o).mono ?_
                rintro e w4 ⟨A4, c4, rfl, hr4, hs4, hc4⟩
                have C5 := tsame_calls (nextS s).1 (nextS s).1 A3 A4 c3 c4 w4 ((HR3.o.chg hc4 (fun x hx hx2 => by rcases hx2 with rfl | rfl; exact absurd hx (Nat.not_le.mpr HL.o.1); exact absurd hx (Nat.not_le.mpr HL.o.2))).rds) hr4.rds XL.o XL.o
                rw [decide_eq_true (sameT_rfl _)] at C5
                replace C5 := hd C5
                have HO := hd (fun (W : World) (hb : Below w4.heap.size w4 W) => show MidS w g p g2 p2 (k + 1) room W from ⟨⟨_, N3.o, hs4.below hb⟩⟩)
                clear hr4 hs4 hc4 HR3 HS3 HL X2 XL N3
                go_wp2_with fail
                refine C5.o.mono ?_
                rintro e w5 ⟨rfl, hb5⟩
                have HO5 := hd (HO.o _ hb5)
                clear hb5 HO C5
                go_wp2_with fail
                go_meet
                exact HO5.o
        case rest =>
          clear F1 F2 G1 X1 X2 XL N1 N2 N3 KEEP HS y0
          obtain ⟨s1, hok1, hs1⟩ := hcut.o
          have HM := hd hcut
          clear hcut
          have hbuf : s1.buf.length ≤ 120000 := by have := hok1.buf; omega
          have T0 := hs1
          obtain ⟨rd, hrd⟩ : ∃ rd, readyS s1 = rd := ⟨_, rfl⟩
          have R1 := fun (W : World) (h : TwoS w W g p g2 p2 s1 s1) => two_ready1 h (by omega)
          have R2 := fun (W : World) (h : TwoS w W g p g2 p2 s1 s1) => two_ready2 h (by omega)
          rw [hrd] at R1 R2
          replace R1 := hd R1
          replace R2 := hd R2
          have R3 := hd (fun (W : World) (h : TwoS w W g p g2 p2 s1 s1) => two_tenant h)
          have R4 := hd (fun (W : World) (h : TwoS w W g p g2 p2 s1 s1) => two_seq h)
          have KEEP := hd (fun (W : World) (h : TwoS w W g p g2 p2 s1 s1) => show W.cell? ⟨g2, 1, none⟩ = some (.string (bs s1.tn)) ∧ W.cell? ⟨g2, 2, none⟩ = some (.int .i64 s1.seq) from ⟨h.r.b.at_ 1 rfl, h.r.b.at_ 2 rfl⟩)
          obtain ⟨a0, a1⟩ := KEEP.o _ T0
          have HOK1 := hd hok1
          have n1 : (rd != rd) = false := by simp
          have n2 : (s1.seq != s1.seq) = false := by simp
          clear hrd hok1 hs1 hbuf
          go_upto_region 20 with (fail)
          go_region_held3 (fun w' => w'.cell? ⟨g2, 1, none⟩ = some (.string (bs s1.tn)) ∧ w'.cell? ⟨g2, 2, none⟩ = some (.int .i64 s1.seq)) (with_reducible first
              | exact KEEP.o _ (by assumption)
              | exact KEEP.o _ (TwoS.drew (by assumption)))
            (first
              | (go_at_call 36
                 with_reducible refine (R1.o _ (by first | assumption | exact TwoS.drew (by assumption))).mono ?_
                 rintro e w6 ⟨rfl, hT1⟩)
              | (go_at_call 37
                 with_reducible refine (R2.o _ (by first | assumption | exact TwoS.drew (by assumption))).mono ?_
                 rintro e w7 ⟨rfl, hT2⟩)
              | (go_at_call 38
                 with_reducible refine (R3.o _ (by first | assumption | exact TwoS.drew (by assumption))).mono ?_
                 rintro e w8 ⟨rfl, hT3⟩)
              | (go_at_call 39
                 with_reducible refine (R4.o _ (by first | assumption | exact TwoS.drew (by assumption))).mono ?_
                 rintro e w9 ⟨rfl, hT4⟩))
          have HO := hd (show MidS w g p g2 p2 (k + 1) room w9 from ⟨⟨_, HOK1.o, hT4⟩⟩)
          clear hT1 hT2 hT3 hT4 T0 R1 R2 R3 R4 a0 a1 KEEP HOK1 HM n1 n2
          go_wp2
          go_roundw
          case rel => exact ⟨k + 1, by go_num, by omega, HO⟩
          case measure => simp [intOf]; omega
      · obtain rfl : k = n := by omega
        have hki2 : ¬ (k : Int) < (k : Int) := by omega
        have HB := hd HS.o.b
        clear HS HOK
        go_wp2
        go_ret
        exact ⟨rfl, HB.o⟩
end Go.Proofs.YtogjokofmfpmgaaGreatDoor
