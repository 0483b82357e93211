/-
  henlaw26.SessPieces.
-/
import Derived.Test.YtogjokofmfpmgaaGreatDoorGRA
import Derived.Test.YtogjokofmfpmgaaGreatDoorGRB
set_option linter.unusedVariables false
set_option linter.unusedSimpArgs false
namespace Go.Proofs.YtogjokofmfpmgaaGreatDoor
open Go.RowKit

theorem txE_at (l : List (List UInt8)) (i : Nat) (h : i < l.length) : (txE l)[i]? = some (.string (bs l[i])) := by
  have := flat_at txC 1 (fun _ => rfl) l i h 0 (by omega)
  rw [Nat.mul_one, Nat.add_zero] at this
  exact this
theorem take_flat (l : List (List UInt8)) (k : Nat) (h : k < l.length) : (l.take (k + 1)).flatten = (l.take k).flatten ++ l[k] := by
  rw [List.take_succ_eq_append_getElem h, List.flatten_append]; simp only [List.flatten_cons, List.flatten_nil, List.append_nil]
/-- The pieces so far. -/
structure PcA (l : List (List UInt8)) (k : Nat) (c : List UInt8) : Prop where
  eq : c = (l.take k).flatten
  len : c.length ≤ 400 * k
  each : ∀ j (h : j < l.length), j < k → l[j].length ≤ 400
set_option maxRecDepth 100000 in
set_option maxHeartbeats 8000000 in
theorem spieces_law (A : Option Addr) (n c : Nat) (l : List (List UInt8)) (w : World) (ht : Tbs w) (hr : Rds w A n 1 (txE l)) (hn : n = l.length) (hm : n ≤ maxLen) (hok : ∀ x ∈ l, x.length ≤ maxLen) :
    Calls Tryz.prog 10 #[.slice A n c] w fun e w' => e = .returned (.bool true) ∧ Below w.heap.size w w' := by
  have HT := hd ht
  have HR := hd hr
  have HN := hd hn
  have HOK := hd hok
  obtain ⟨i0, hi, hz0, hz1, hz2⟩ := info_parts turnInfo
  unfold maxLen at hm
  clear ht hr hn hok
  by_cases c1 : 40 < n
  case pos =>
    have d1 : decide ((40 : Int) < (n : Int)) = true := by simp; omega
    clear c1
    go_enter Tryz.func10, Tryz.ntmps10
    go_wp2_with fail
    refine (sfirst_calls w HT.o).mono ?_
    rintro e w1 ⟨rfl, b1⟩
    go_wp2_with fail
    refine (sfirst_calls w1 (HT.o.below b1)).mono ?_
    rintro e w3 ⟨rfl, b3⟩
    go_wp2
    go_ret
    exact ⟨rfl, b1.trans (b3.mono b1.size)⟩
  case neg =>
  have d1 : decide ((40 : Int) < (n : Int)) = false := by simp; omega
  have hn40 : n ≤ 40 := by omega
  go_enter Tryz.func10, Tryz.ntmps10
  go_wp2_with fail
  refine (sfirst_calls w HT.o).mono ?_
  rintro e w1 ⟨rfl, b1⟩
  have B1 := hd b1
  clear b1
  go_upto_region 5 with (fail)
  clear d1 c1
  go_wp2_with fail
  go_loop [4, 3] (fun i all => ∃ (k : Nat) (cc : List UInt8), i = .int .i64 k ∧ all = .string (bs cc) ∧ k ≤ n ∧ Hd (PcA l k cc)) (fun i _ => n - (intOf i).toNat)
  case atStart => exact ⟨0, [], rfl, rfl, Nat.zero_le _, hd ⟨by simp, by simp, fun j _ h => absurd h (Nat.not_lt_zero _)⟩⟩
  case round =>
    obtain ⟨k, cc, rfl, rfl, hk, HC⟩ := hrel
    have hki : (0 : Int) ≤ (k : Int) := by omega
    by_cases hlt : k < n
    · have hlti : (k : Int) < (n : Int) := by omega
      have hkl : k < l.length := by rw [← HN.o]; exact hlt
      obtain ⟨g0, o, rfl, hg, hc⟩ := HR.o.at_ (by omega)
      obtain ⟨X, hX⟩ : ∃ X, l[k]'hkl = X := ⟨_, rfl⟩
      have y0 : w1.cell? ⟨g0, o + k, none⟩ = some (.string (bs X)) := (B1.o.cell (p := ⟨g0, o + k, none⟩) hg).trans (hc _ _ ((txE_at l k hkl).trans (by rw [hX])))
      obtain ⟨xz, hxz⟩ : ∃ xz, (bs X).size = xz := ⟨_, rfl⟩
      have hcz : (bs cc).size ≤ 16000 := by rw [bs_size]; have := HC.o.len; omega
      have HXZ := hd (show X.length = xz by rw [← hxz, bs_size])
      have hxm : xz ≤ maxLen := by rw [← HXZ.o, ← hX]; exact HOK.o _ (List.getElem_mem hkl)
      unfold maxLen at hxm
      by_cases h4 : 400 < xz
      · have d4 : decide ((400 : Int) < (xz : Int)) = true := by simp; omega
        clear h4 hX hc
        go_wp2_with fail
        refine (sfirst_calls w1 (HT.o.below B1.o)).mono ?_
        rintro e w3 ⟨rfl, b3⟩
        go_wp2
        go_ret
        exact ⟨rfl, B1.o.trans (b3.mono B1.o.size)⟩
      · have d4 : decide ((400 : Int) < (xz : Int)) = false := by simp; omega
        have HNX := hd (show PcA l (k + 1) (cc ++ X) from ⟨by rw [take_flat l k hkl, ← HC.o.eq, hX], by have := HC.o.len; have := HXZ.o; rw [List.length_append]; omega, fun j hj hjk => by
          by_cases hjj : j < k
          · exact HC.o.each j hj hjj
          · obtain rfl : j = k := by omega
            rw [hX, HXZ.o]; omega⟩)
        clear HC hX hc HXZ
        go_wp2
        go_round
        case rel => exact ⟨k + 1, _, by go_num, by rw [← bs_app2], by omega, HNX⟩
        case measure => simp [intOf]; omega
    · obtain rfl : n = k := by omega
      have hki2 : ¬ (n : Int) < (n : Int) := by omega
      have HEACH := hd (fun (j : Nat) (h : j < l.length) => HC.o.each j h (by rw [HN.o]; exact h))
      have HCC := hd (show cc = l.flatten by rw [HC.o.eq, HN.o, List.take_length])
      have hcl : cc.length ≤ 16000 := by have := HC.o.len; omega
      have HCL := hd hcl
      clear HC hcl
      go_upto_region 12 with (fail)
      clear hki2 hlt hk hki
      go_wp2_with fail
      refine (snew_a w w1 20000 B1.o).mono ?_
      rintro e w2 ⟨g, p, rfl, hs2, _⟩
      have HS2 := hd hs2
      clear hs2 B1
      go_wp2_with fail
      refine (snew_p 20000 HS2.o).mono ?_
      rintro e w3 ⟨g2, p2, rfl, hs3⟩
      have HTW := hd hs3
      have CF := feed_a w w3 g p (newS 20000) (bs cc) hs3.a (by decide) (by decide) (Nat.zero_le _) (by rw [bs_size]; have := HCL.o; omega)
      have hm1 : mayFeed (newS 20000) cc = true := may_20000 rfl rfl (by have := HCL.o; show cc.length + 0 ≤ _; omega)
      rw [bs_data, hm1, feed_may hm1] at CF
      replace CF := hd CF
      clear hs3 HS2 hm1
      go_wp2_with fail
      refine CF.o.mono ?_
      rintro e w4 ⟨rfl, hs4, hc4⟩
      have HTW4 := hd (HTW.o.go1 hc4.two hs4)
      clear hs4 hc4 CF HTW
      go_wp2_with fail
      refine (half_calls w4 g p _ HTW4.o.a.r).mono ?_
      rintro e w5 ⟨rfl, hs5, hc5⟩
      have HTW5 := hd (HTW4.o.go1 hc5.two (HTW4.o.a.chg hc5.two hs5))
      clear hs5 hc5 HTW4
      have hbx : (halfS (moreS (newS 20000) cc)).buf.length ≤ 20000 := by have := HCL.o; show ([] ++ cc).length ≤ _; simp; omega
      have CX := hd (turns_calls w w5 g p _ HT.o HTW5.o.a hbx (by show 0 ≤ (0 : Int) ∧ (0 : Int) ≤ 100000; omega))
      have HBX := hd hbx
      clear hbx
      go_wp2_with fail
      refine CX.o.mono ?_
      rintro e w6 ⟨⟨Lx, sx, Ax, cx, rfl, hrun, hrow, hops, hsx, hcx⟩⟩
      have HRUNX := hd hrun
      have HXL : Lx.length ≤ 4000 := by have := runs_len hrun; rw [List.length_map] at this; have := HBX.o; omega
      have HPI := hd (show PcsI w g p g2 p2 w6.heap.size l sx Lx Ax cx 0 [] none 0 (newS 20000) w6 from
        ⟨by simpa using pieces_0 20000, by simp, ⟨Row.nil _ _ _ _, ⟨fun x hx => by cases hx⟩⟩, ⟨chg_lt hrow, hops⟩, HTW5.o.go1 hcx hsx, hsx.b.size, Nat.le_refl _⟩)
      clear hrun hrow hops hsx hcx CX HTW5 HBX
      generalize w6.heap.size = B at *
      go_wp2_with fail
      go_loopw [9, 8] (fun i yy wr => ∃ (k : Nat) (Y : List TnA) (A8 : Option Addr) (c8 : Nat) (o : Ss), i = .int .i64 k ∧ yy = .slice A8 Y.length c8 ∧ k ≤ n ∧ Hd (PcsI w g p g2 p2 B l sx Lx Ax cx k Y A8 c8 o wr)) (fun i _ _ => n - (intOf i).toNat)
      case atStart => exact ⟨0, [], none, 0, _, rfl, rfl, Nat.zero_le _, HPI⟩
      case round =>
        clear HPI
        obtain ⟨k, Y, A8, c8, o, rfl, rfl, hk, HPI⟩ := hrel
        obtain ⟨wi, rfl⟩ : ∃ wi : World, wi = wr := ⟨_, rfl⟩
        have hki : (0 : Int) ≤ (k : Int) := by omega
        obtain ⟨q1, q2, q3⟩ := runs_closed HPI.o.run
        have hsq := runs_seq HPI.o.run
        have hyl := runs_len HPI.o.run
        rw [List.length_map] at hsq hyl
        have HOC := hd (show o.closed = false from q1)
        have HOR := hd (show o.room = 20000 from q2)
        have hob : o.buf.length ≤ 400 * k := Nat.le_trans q3 (by show ([] ++ (List.take k l).flatten).length ≤ _; rw [List.nil_append]; exact HPI.o.len)
        have hyl2 : Y.length ≤ 4000 := by
          have h1 : ((moreS (newS 20000) (List.take k l).flatten).buf).length ≤ 400 * k := by show ([] ++ (List.take k l).flatten).length ≤ _; rw [List.nil_append]; exact HPI.o.len
          omega
        have hsq2 : 0 ≤ o.seq ∧ o.seq ≤ 4000 := by
          have : (moreS (newS 20000) (List.take k l).flatten).seq = 0 := rfl
          omega
        clear q1 q2 q3 hsq hyl
        by_cases hlt : k < n
        · have hlti : (k : Int) < (n : Int) := by omega
          have hkl : k < l.length := by rw [← HN.o]; exact hlt
          obtain ⟨g0, oo, rfl, hg, hc⟩ := HR.o.at_ (by omega)
          obtain ⟨X, hX⟩ : ∃ X, l[k]'hkl = X := ⟨_, rfl⟩
          have y0 : wi.cell? ⟨g0, oo + k, none⟩ = some (.string (bs X)) := (HPI.o.two.a.b.cell (p := ⟨g0, oo + k, none⟩) hg).trans (hc _ _ ((txE_at l k hkl).trans (by rw [hX])))
          have HX400 := hd (show X.length ≤ 400 from hX ▸ HEACH.o k hkl)
          have HTK := hd (show (l.take (k + 1)).flatten = (l.take k).flatten ++ X by rw [take_flat l k hkl, hX])
          have hmo : mayFeed o X = true := may_20000 HOR.o HOC.o (by have := HX400.o; omega)
          have CF := feed_a w wi g2 p2 o (bs X) HPI.o.two.r (by rw [HOR.o]; decide) (by rw [HOR.o]; decide) (by omega) (by rw [bs_size]; have := HX400.o; omega)
          rw [bs_data, hmo, feed_may hmo] at CF
          replace CF := hd CF
          clear hmo hX hc hkl HOC HOR
          go_upto_region 21 with (fail)
          go_wp2_with fail
          refine CF.o.mono ?_
          rintro e w7 ⟨rfl, hs7, hc7⟩
          have HRUN := hd HPI.o.run
          have HTW7 := hd (HPI.o.two.go2 hc7.two hs7)
          have HY7 := hd (HPI.o.y.two HPI.o.two.r.r hc7.two)
          have HX7 := hd (HPI.o.x.two HPI.o.two.r.r hc7.two)
          have HLN := hd (show (l.take (k + 1)).flatten.length ≤ 400 * (k + 1) by rw [HTK.o, List.length_append]; have := HPI.o.len; have := HX400.o; omega)
          have HVB := hd HPI.o.b
          have HBW := hd (show B ≤ w7.heap.size from Nat.le_trans HPI.o.bw hc7.size)
          clear hs7 hc7 CF HPI y0
          obtain ⟨hlw, hlast⟩ := last_what HRUN.o
          have HLW := hd hlw
          have HLAST := hd hlast
          have HL0 := hd (fun h => last_nil (Y := Y) HRUN.o h)
          obtain ⟨bb, hbb⟩ : ∃ bb, decide (lookW o = 0) = bb := ⟨_, rfl⟩
          have HBB := hd hbb
          clear hlw hlast hbb
          obtain ⟨yl, hyl⟩ : ∃ yl, Y.length = yl := ⟨_, rfl⟩
          have HYL := hd hyl
          rw [hyl] at hyl2 HL0
          rw [hyl]
          clear hyl
          go_upto_region 23 with (fail)
          go_cut [79] from 67 to 78 (fun b wx => b = .bool bb ∧ wx = w7)
          case first =>
            by_cases hy0 : yl = 0
            · have e0 : ((yl : Int) == 0) = true := by simp; omega
              have hb : bb = true := by rw [← HBB.o]; exact decide_eq_true (HL0.o hy0)
              subst hb
              clear hy0
              go_wp2_with fail
              go_meet
              exact ⟨rfl, rfl⟩
            · have e0 : ((yl : Int) == 0) = false := by simp; omega
              obtain ⟨m, rfl⟩ : ∃ m, yl = m + 1 := ⟨yl - 1, by omega⟩
              have hml : m < Y.length := by rw [HYL.o]; omega
              obtain ⟨gy, rfl, _, _, _, _, hcy, _⟩ := HY7.o.row.at_ (by omega)
              obtain ⟨T, hT⟩ : ∃ T, Y[m]'hml = T := ⟨_, rfl⟩
              have zw : w7.cell? ⟨gy, m * 15, none⟩ = some (.int .i64 T.t.what) := hcy _ _ ((tnaE_at Y m hml 0 (by omega)).trans (by rw [hT]; rfl))
              have hb : bb = (T.t.what != 4) := by
                rw [← HBB.o]
                have := HLAST.o (by rw [HYL.o]; omega)
                simp only [HYL.o, Nat.add_sub_cancel] at this
                rw [hT] at this
                by_cases h4 : T.t.what = 4
                · have h5 := this.1 h4
                  rw [h4, h5]
                  rfl
                · have h5 : lookW o = 0 := HLW.o.resolve_right (fun h => h4 (this.2 h))
                  rw [h5]
                  simpa using h4
              subst hb
              have HCY := hd hcy
              clear hy0 hcy hT hml
              have hm0 : (0 : Int) ≤ (m : Int) := by omega
              have hmi : (m : Int) < (m : Int) + 1 := by omega
              go_wp2_with fail
              go_meet
              exact ⟨rfl, rfl⟩
          case rest =>
          obtain ⟨rfl, rfl⟩ := hcut
          go_upto_if 79 with (fail)
          cases bb with
          | false =>
            have HPN := hd (show PcsI w g p g2 p2 B l sx Lx Ax cx (k + 1) Y A8 c8 (moreS o X) wc from
              ⟨by rw [HTK.o]; exact pieces_over HRUN.o (HLW.o.resolve_left (of_decide_eq_false HBB.o)), HLN.o, HY7.o, HX7.o, HTW7.o, HVB.o, HBW.o⟩)
            have HYV := hd (show Value.slice A8 yl c8 = .slice A8 Y.length c8 by rw [HYL.o])
            clear HRUN HY7 HX7 HTW7 HLN HLAST HL0 HLW HTK
            clear HX400 HVB HBW hyl2 hob hsq2 HYL HBB
            go_wp2
            go_roundw
            case rel => exact ⟨k + 1, Y, A8, c8, _, by go_num, HYV.o, by omega, HPN⟩
            case measure => simp [intOf]; omega
          | true =>
            have h0 := of_decide_eq_true HBB.o
            have hb1 : (moreS o X).buf.length ≤ 16400 := by show (o.buf ++ X).length ≤ _; rw [List.length_append]; have := HX400.o; omega
            have CT := hd (turns_calls w wc g2 p2 (moreS o X) HT.o HTW7.o.r (by omega) (by show 0 ≤ o.seq ∧ o.seq ≤ 100000; omega))
            have HB1 := hd hb1
            have H0 := hd h0
            clear h0 hb1
            go_wp2_with fail
            refine CT.o.mono ?_
            rintro e w8 ⟨⟨L2, o2, A9, c9, rfl, hrun2, hrow2, hops2, hs8, hc8⟩⟩
            have hl2 : L2.length ≤ 4000 := by have := runs_len hrun2; rw [List.length_map] at this; have := HB1.o; omega
            have HPN := hd (fun (A : Option Addr) (c m : Nat) (wN : World) (hm : m = yl + L2.length) (ho : Row wN (Plus (Of A8) w8.heap.size) 61 15 A m c (tnaE Y ++ tnaE L2)) (hc : Chg (Of A8) w8 wN) => show PcsN w g p g2 p2 B l sx Lx Ax cx (k + 1) (.slice A m c) wN from by
              obtain ⟨k1, k2, k3⟩ := app_y (by rw [HYL.o]; exact hm) (HY7.o.two HTW7.o.r.r hc8) (HX7.o.two HTW7.o.r.r hc8) hops2 (HTW7.o.go2 hc8 hs8) HVB.o (Nat.le_trans HBW.o hc8.size) ho hc
              refine ⟨⟨Y ++ L2, A, c, o2, by rw [List.length_append, HYL.o, hm], ⟨?_, HLN.o, k1, k2, k3, HVB.o, Nat.le_trans HBW.o (Nat.le_trans hc8.size hc.size)⟩⟩⟩
              rw [HTK.o, List.map_append]
              exact pieces_go HRUN.o H0.o hrun2)
            have HYR := hd (show Row w8 (From B) 61 15 A8 yl c8 (tnaE Y) by rw [← HYL.o]; exact (HY7.o.two HTW7.o.r.r hc8).row)
            have HR2 := hd hrow2
            clear hrun2 hrow2 hops2 hs8 hc8 CT HRUN HY7 HX7 HTW7 HLN HLAST HL0 HLW HTK HB1 H0
            go_wp2_with (at_builtin; refine wpList_append_rowG rfl _ _ 69 rfl (Of A8) 61 i0 (.agg #[.int .i64 0, .int .i64 0, .int .i64 0, .int .i64 0, .string ⟨#[]⟩, .string ⟨#[]⟩, .string ⟨#[]⟩, .string ⟨#[]⟩, .int .i64 0, .int .i64 0, .slice none 0 0, .int .i64 0, .int .i64 0, .int .i64 0, .int .i64 0]) 15 168 Tryz.underlying69 hi hz0 hz1 hz2 rfl A8 yl c8 (tnaE Y) rfl (HYR.o.own_) A9 L2.length c9 (tnaE L2) rfl (HR2.o.rds) (tna_ones _) (by unfold maxLen; omega) (by omega) ?_; intro AN cN wN hownN hchgN; have HOWN := hd hownN; have HCHG := hd hchgN; clear hownN hchgN)
            obtain ⟨Y3, A3, c3, o3, h3, hpi3⟩ := (HPN.o _ _ _ _ rfl HOWN.o HCHG.o).o
            have H3 := hd h3
            have HPI3 := hd hpi3
            clear h3 hpi3 HPN HOWN HCHG HYR HR2 HX400 HVB HBW hyl2 hob hsq2 HYL HBB
            go_wp2
            go_roundw
            case rel => exact ⟨k + 1, Y3, A3, c3, o3, by go_num, H3.o, by omega, HPI3⟩
            case measure => simp [intOf]; omega
        · obtain rfl : n = k := by omega
          have hki2 : ¬ (n : Int) < (n : Int) := by omega
          have HRUN := hd (show Runs (moreS (newS 20000) cc) (Y.map TnA.t) o by have := HPI.o.run; rwa [HN.o, List.take_length, ← HCC.o] at this)
          have HEND := hd (pieces_end HRUN.o HRUNX.o)
          have HTW := hd HPI.o.two
          have HVB := hd HPI.o.b
          have HY0 := hd HPI.o.y
          have HX0 := hd HPI.o.x
          have HB0 := hd HPI.o.bw
          clear HPI HOC HOR
          go_upto_region 25 with (fail)
          clear hki2 hlt
          go_wp2_with fail
          refine (half_calls wi g2 p2 o HTW.o.r.r).mono ?_
          rintro e w7 ⟨rfl, hs7, hc7⟩
          have HTW7 := hd (HTW.o.go2 hc7.two (HTW.o.r.chg hc7.two hs7))
          have HY7 := hd (HY0.o.two HTW.o.r.r hc7.two)
          have HX7 := hd (HX0.o.two HTW.o.r.r hc7.two)
          have HBW := hd (show B ≤ w7.heap.size from Nat.le_trans HB0.o hc7.size)
          clear hs7 hc7 HTW HY0 HX0 HB0
          obtain ⟨hlw, hlast⟩ := last_what HRUN.o
          have HLW := hd hlw
          have HLAST := hd hlast
          have HL0 := hd (fun h => last_nil (Y := Y) HRUN.o h)
          obtain ⟨bb, hbb⟩ : ∃ bb, decide (lookW o = 0) = bb := ⟨_, rfl⟩
          have HBB := hd hbb
          clear hlw hlast hbb
          obtain ⟨yl, hyl⟩ : ∃ yl, Y.length = yl := ⟨_, rfl⟩
          have HYL := hd hyl
          rw [hyl] at hyl2 HL0
          rw [hyl]
          clear hyl
          go_upto_region 26 with (fail)
          go_cut [98] from 86 to 97 (fun b wx => b = .bool bb ∧ wx = w7)
          case first =>
            by_cases hy0 : yl = 0
            · have e0 : ((yl : Int) == 0) = true := by simp; omega
              have hb : bb = true := by rw [← HBB.o]; exact decide_eq_true (HL0.o hy0)
              subst hb
              clear hy0
              go_wp2_with fail
              go_meet
              exact ⟨rfl, rfl⟩
            · have e0 : ((yl : Int) == 0) = false := by simp; omega
              obtain ⟨m, rfl⟩ : ∃ m, yl = m + 1 := ⟨yl - 1, by omega⟩
              have hml : m < Y.length := by rw [HYL.o]; omega
              obtain ⟨gy, rfl, _, _, _, _, hcy, _⟩ := HY7.o.row.at_ (by omega)
              obtain ⟨T, hT⟩ : ∃ T, Y[m]'hml = T := ⟨_, rfl⟩
              have zw : w7.cell? ⟨gy, m * 15, none⟩ = some (.int .i64 T.t.what) := hcy _ _ ((tnaE_at Y m hml 0 (by omega)).trans (by rw [hT]; rfl))
              have hb : bb = (T.t.what != 4) := by
                rw [← HBB.o]
                have := HLAST.o (by rw [HYL.o]; omega)
                simp only [HYL.o, Nat.add_sub_cancel] at this
                rw [hT] at this
                by_cases h4 : T.t.what = 4
                · have h5 := this.1 h4
                  rw [h4, h5]
                  rfl
                · have h5 : lookW o = 0 := HLW.o.resolve_right (fun h => h4 (this.2 h))
                  rw [h5]
                  simpa using h4
              subst hb
              have HCY := hd hcy
              clear hy0 hcy hT hml
              have hm0 : (0 : Int) ≤ (m : Int) := by omega
              have hmi : (m : Int) < (m : Int) + 1 := by omega
              go_wp2_with fail
              go_meet
              exact ⟨rfl, rfl⟩
          case rest =>
          obtain ⟨rfl, rfl⟩ := hcut
          go_upto_if 98 with (fail)
          go_cut [8] from 99 to 102 (fun yy wx => PcsF w g p g2 p2 B sx Lx Ax cx yy wx)
          case first =>
            cases bb with
            | false =>
              have HPN := hd (show PcsE w g p g2 p2 B sx Lx Ax cx Y A8 c8 wc from by
                obtain ⟨e1, e2, e3⟩ := HEND.o
                rw [if_neg (of_decide_eq_false HBB.o)] at e1
                exact ⟨e1.symm, e3, HY7.o, HX7.o, by have := HTW7.o; rwa [← e2] at this⟩)
              have HYV := hd (show Value.slice A8 yl c8 = .slice A8 Y.length c8 by rw [HYL.o])
              clear HRUN HY7 HX7 HTW7 HLAST HL0 HLW HEND
              go_wp2_with fail
              go_meet
              exact ⟨⟨Y, A8, c8, HYV.o, HPN.o⟩⟩
            | true =>
              have h0 := of_decide_eq_true HBB.o
              have hb1 : (halfS o).buf.length ≤ 16400 := by show o.buf.length ≤ _; omega
              have CT := hd (turns_calls w wc g2 p2 (halfS o) HT.o HTW7.o.r (by omega) (by show 0 ≤ o.seq ∧ o.seq ≤ 100000; omega))
              have H0 := hd h0
              clear h0 hb1
              go_wp2_with fail
              refine CT.o.mono ?_
              rintro e w8 ⟨⟨L2, o2, A9, c9, rfl, hrun2, hrow2, hops2, hs8, hc8⟩⟩
              obtain ⟨f1, f2⟩ := half_over H0.o hrun2
              have hl2 : L2.length ≤ 4000 := by have := congrArg List.length f1; rw [List.length_map] at this; simp at this; omega
              have HPN := hd (fun (A : Option Addr) (c m : Nat) (wN : World) (hm : m = yl + L2.length) (ho : Row wN (Plus (Of A8) w8.heap.size) 61 15 A m c (tnaE Y ++ tnaE L2)) (hc : Chg (Of A8) w8 wN) => show PcsF w g p g2 p2 B sx Lx Ax cx (.slice A m c) wN from by
                obtain ⟨k1, k2, k3⟩ := app_y (by rw [HYL.o]; exact hm) (HY7.o.two HTW7.o.r.r hc8) (HX7.o.two HTW7.o.r.r hc8) hops2 (HTW7.o.go2 hc8 hs8) HVB.o (Nat.le_trans HBW.o hc8.size) ho hc
                obtain ⟨e1, e2, e3⟩ := HEND.o
                rw [if_pos H0.o] at e1
                exact ⟨⟨Y ++ L2, A, c, by rw [List.length_append, HYL.o, hm], ⟨by rw [List.map_append, f1, e1], e3, k1, k2, by rw [f2, ← e2] at k3; exact k3⟩⟩⟩)
              have HYR := hd (show Row w8 (From B) 61 15 A8 yl c8 (tnaE Y) by rw [← HYL.o]; exact (HY7.o.two HTW7.o.r.r hc8).row)
              have HR2 := hd hrow2
              clear hrun2 hrow2 hops2 hs8 hc8 f1 f2 CT HRUN HY7 HX7 HTW7 HLAST HL0 HLW H0 HEND
              go_wp2_with (at_builtin; refine wpList_append_rowG rfl _ _ 69 rfl (Of A8) 61 i0 (.agg #[.int .i64 0, .int .i64 0, .int .i64 0, .int .i64 0, .string ⟨#[]⟩, .string ⟨#[]⟩, .string ⟨#[]⟩, .string ⟨#[]⟩, .int .i64 0, .int .i64 0, .slice none 0 0, .int .i64 0, .int .i64 0, .int .i64 0, .int .i64 0]) 15 168 Tryz.underlying69 hi hz0 hz1 hz2 rfl A8 yl c8 (tnaE Y) rfl (HYR.o.own_) A9 L2.length c9 (tnaE L2) rfl (HR2.o.rds) (tna_ones _) (by unfold maxLen; omega) (by omega) ?_; intro AN cN wN hownN hchgN; have HOWN := hd hownN; have HCHG := hd hchgN; clear hownN hchgN)
              go_meet
              exact HPN.o _ _ _ _ rfl HOWN.o HCHG.o
          case rest =>
          clear HRUN HY7 HX7 HTW7 HLAST HL0 HLW HEND HBB HYL hyl2 hob hsq2 HVB HBW
          obtain ⟨Y3, A3, c3, rfl, hpe⟩ := hcut.o
          have HPE := hd hpe
          have hyl3 : Y3.length = Lx.length := by have := congrArg List.length hpe.eq; simpa using this
          have HYL3 := hd hyl3
          rw [hyl3]
          clear hcut hpe hyl3
          have HOPS := hd (runs_ops HRUNX.o)
          obtain ⟨N, hN⟩ : ∃ N, Lx.length = N := ⟨_, rfl⟩
          have HNL := hd hN
          rw [hN] at HXL ⊢
          clear hN HRUNX
          have hN0 : N ≠ 0 := by
            rintro rfl
            have := HPE.o.last
            rw [List.eq_nil_of_length_eq_zero HNL.o] at this
            cases this
          have e0 : ((N : Int) == 0) = false := by simp; omega
          have e1 : ((N : Int) != (N : Int)) = false := by simp
          obtain ⟨m, rfl⟩ : ∃ m, N = m + 1 := ⟨N - 1, by omega⟩
          have hml : m < Lx.length := by rw [HNL.o]; omega
          obtain ⟨gx, rfl, _, _, _, _, hcx, _⟩ := HPE.o.x.row.at_ (by omega)
          have hT : (Lx[m]'hml).t = tn0 4 := by
            have := HPE.o.last
            rw [List.getLast?_eq_getElem?, List.length_map, HNL.o, Nat.add_sub_cancel, List.getElem?_map, List.getElem?_eq_getElem hml] at this
            exact Option.some.inj this
          have zw : wc.cell? ⟨gx, m * 15, none⟩ = some (.int .i64 4) := hcx _ _ ((tnaE_at Lx m hml 0 (by omega)).trans (by show some (Value.int .i64 (Lx[m]'hml).t.what) = _; rw [hT]; rfl))
          have hm0 : (0 : Int) ≤ (m : Int) := by omega
          have hmi : (m : Int) < (m : Int) + 1 := by omega
          clear hN0 hcx hT hml
          go_upto_region 28 with (fail)
          go_cut [122] from 103 to 121 (fun b wx => b = .bool false ∧ wx = wc)
          case first =>
            go_wp2_with fail
            go_meet
            exact ⟨rfl, rfl⟩
          case rest =>
          obtain ⟨rfl, rfl⟩ := hcut
          clear e0 e1 zw hm0 hmi
          obtain ⟨N, hN⟩ : ∃ N, m + 1 = N := ⟨_, rfl⟩
          have HNM := hd hN
          rw [hN]
          rw [hN] at HNL HXL
          clear hN
          go_upto_region 30 with (fail)
          go_wp2_with fail
          go_loopw [10] (fun i wr => ∃ k : Nat, i = .int .i64 k ∧ k ≤ N ∧ Hd (PcsE w g p g2 p2 B sx Lx (some ⟨gx, 0, none⟩) cx Y3 A3 c3 wr)) (fun i _ => N - (intOf i).toNat)
          case atStart => exact ⟨0, rfl, Nat.zero_le _, HPE⟩
          case round =>
            clear HPE
            obtain ⟨k, rfl, hk, HPE⟩ := hrel
            obtain ⟨wi, rfl⟩ : ∃ wi : World, wi = wr := ⟨_, rfl⟩
            have hki : (0 : Int) ≤ (k : Int) := by omega
            by_cases hlt : k < N
            · have hlti : (k : Int) < (N : Int) := by omega
              have hkx : k < Lx.length := by rw [HNL.o]; exact hlt
              have hky : k < Y3.length := by rw [HYL3.o]; exact hkx
              obtain ⟨gy, rfl, _, _, _, _, hcy, _⟩ := HPE.o.y.row.at_ (by omega)
              obtain ⟨TX, hTX⟩ : ∃ TX, Lx[k]'hkx = TX := ⟨_, rfl⟩
              obtain ⟨TY, hTY⟩ : ∃ TY, Y3[k]'hky = TY := ⟨_, rfl⟩
              have htt : TY.t = TX.t := by
                have h1 : (Y3.map TnA.t)[k]? = (Lx.map TnA.t)[k]? := by rw [HPE.o.eq]
                rw [List.getElem?_map, List.getElem?_map, List.getElem?_eq_getElem hkx, List.getElem?_eq_getElem hky, hTX, hTY] at h1
                exact Option.some.inj h1
              have hmx : TX ∈ Lx := by rw [← hTX]; exact List.getElem_mem hkx
              have hmy : TY ∈ Y3 := by rw [← hTY]; exact List.getElem_mem hky
              have hcx2 : ∀ (W : World) (j : Nat) (u : Value), Below wi.heap.size wi W → j < 15 → (tnaEnc TX)[j]? = some u → W.cell? ⟨gx, k * 15 + j, none⟩ = some u := fun W j u hb hj hv => (by have := (HPE.o.x.row.below hb).own.cells (g := gx) rfl _ _ ((tnaE_at Lx k hkx j hj).trans (by rw [hTX]; exact hv)); rwa [Addr.add_lit, Nat.zero_add] at this)
              have hcy2 : ∀ (W : World) (j : Nat) (u : Value), Below wi.heap.size wi W → j < 15 → (tnaEnc TY)[j]? = some u → W.cell? ⟨gy, k * 15 + j, none⟩ = some u := fun W j u hb hj hv => (by have := (HPE.o.y.row.below hb).own.cells (g := gy) rfl _ _ ((tnaE_at Y3 k hky j hj).trans (by rw [hTY]; exact hv)); rwa [Addr.add_lit, Nat.zero_add] at this)
              obtain ⟨t, AX, cX⟩ := TX
              obtain ⟨t2, AY, cY⟩ := TY
              obtain rfl : t2 = t := htt
              have HSL := hd (HOPS.o t2 (List.mem_map.2 ⟨_, hmx, rfl⟩))
              have hrx := HPE.o.x.ops.o _ hmx
              have hry := HPE.o.y.ops.o _ hmy
              have SM := fun (W : World) (h : Below wi.heap.size wi W) => (same_calls t2.q t2.q AX AY cX cY W ((hrx.below h).rds) ((hry.below h).rds) HSL.o HSL.o).mono (R' := fun e w' => e = .returned (.bool true) ∧ Below wi.heap.size wi w') (fun e w' ⟨h1, h2⟩ => ⟨by rw [h1, decide_eq_true rfl], h.trans (h2.mono h.size)⟩)
              unfold reqV reqE at SM
              replace SM := hd SM
              have KS := hd (fun (W : World) (h : Below wi.heap.size wi W) => show W.cell? ⟨gx, k * 15, none⟩ = some (.int .i64 t2.what) ∧ W.cell? ⟨gx, k * 15 + 1, none⟩ = some (.int .i64 t2.seq) ∧ W.cell? ⟨gx, k * 15 + 2, none⟩ = some (.int .i64 t2.k) ∧ W.cell? ⟨gx, k * 15 + 3, none⟩ = some (.int .i64 t2.q.k) ∧ W.cell? ⟨gx, k * 15 + 4, none⟩ = some (.string (bs t2.q.tn)) ∧ W.cell? ⟨gx, k * 15 + 5, none⟩ = some (.string (bs t2.q.col)) ∧ W.cell? ⟨gx, k * 15 + 6, none⟩ = some (.string (bs t2.q.uid)) ∧ W.cell? ⟨gx, k * 15 + 7, none⟩ = some (.string (bs t2.q.card)) ∧ W.cell? ⟨gx, k * 15 + 8, none⟩ = some (.int .i64 t2.q.ck) ∧ W.cell? ⟨gx, k * 15 + 9, none⟩ = some (.int .i64 t2.q.cv) ∧ W.cell? ⟨gx, k * 15 + 10, none⟩ = some (.slice AX t2.q.ops.length cX) ∧ W.cell? ⟨gx, k * 15 + 11, none⟩ = some (.int .i64 t2.q.tok) ∧ W.cell? ⟨gx, k * 15 + 12, none⟩ = some (.int .i64 t2.q.most) ∧ W.cell? ⟨gx, k * 15 + 13, none⟩ = some (.int .i64 t2.q.ticks) ∧ W.cell? ⟨gx, k * 15 + 14, none⟩ = some (.int .i64 t2.e) ∧ W.cell? ⟨gy, k * 15, none⟩ = some (.int .i64 t2.what) ∧ W.cell? ⟨gy, k * 15 + 1, none⟩ = some (.int .i64 t2.seq) ∧ W.cell? ⟨gy, k * 15 + 2, none⟩ = some (.int .i64 t2.k) ∧ W.cell? ⟨gy, k * 15 + 3, none⟩ = some (.int .i64 t2.q.k) ∧ W.cell? ⟨gy, k * 15 + 4, none⟩ = some (.string (bs t2.q.tn)) ∧ W.cell? ⟨gy, k * 15 + 5, none⟩ = some (.string (bs t2.q.col)) ∧ W.cell? ⟨gy, k * 15 + 6, none⟩ = some (.string (bs t2.q.uid)) ∧ W.cell? ⟨gy, k * 15 + 7, none⟩ = some (.string (bs t2.q.card)) ∧ W.cell? ⟨gy, k * 15 + 8, none⟩ = some (.int .i64 t2.q.ck) ∧ W.cell? ⟨gy, k * 15 + 9, none⟩ = some (.int .i64 t2.q.cv) ∧ W.cell? ⟨gy, k * 15 + 10, none⟩ = some (.slice AY t2.q.ops.length cY) ∧ W.cell? ⟨gy, k * 15 + 11, none⟩ = some (.int .i64 t2.q.tok) ∧ W.cell? ⟨gy, k * 15 + 12, none⟩ = some (.int .i64 t2.q.most) ∧ W.cell? ⟨gy, k * 15 + 13, none⟩ = some (.int .i64 t2.q.ticks) ∧ W.cell? ⟨gy, k * 15 + 14, none⟩ = some (.int .i64 t2.e) from ⟨hcx2 W 0 _ h (by omega) rfl, hcx2 W 1 _ h (by omega) rfl, hcx2 W 2 _ h (by omega) rfl, hcx2 W 3 _ h (by omega) rfl, hcx2 W 4 _ h (by omega) rfl, hcx2 W 5 _ h (by omega) rfl, hcx2 W 6 _ h (by omega) rfl, hcx2 W 7 _ h (by omega) rfl, hcx2 W 8 _ h (by omega) rfl, hcx2 W 9 _ h (by omega) rfl, hcx2 W 10 _ h (by omega) rfl, hcx2 W 11 _ h (by omega) rfl, hcx2 W 12 _ h (by omega) rfl, hcx2 W 13 _ h (by omega) rfl, hcx2 W 14 _ h (by omega) rfl, hcy2 W 0 _ h (by omega) rfl, hcy2 W 1 _ h (by omega) rfl, hcy2 W 2 _ h (by omega) rfl, hcy2 W 3 _ h (by omega) rfl, hcy2 W 4 _ h (by omega) rfl, hcy2 W 5 _ h (by omega) rfl, hcy2 W 6 _ h (by omega) rfl, hcy2 W 7 _ h (by omega) rfl, hcy2 W 8 _ h (by omega) rfl, hcy2 W 9 _ h (by omega) rfl, hcy2 W 10 _ h (by omega) rfl, hcy2 W 11 _ h (by omega) rfl, hcy2 W 12 _ h (by omega) rfl, hcy2 W 13 _ h (by omega) rfl, hcy2 W 14 _ h (by omega) rfl⟩)
              have HPN := hd (fun (W : World) (h : Below wi.heap.size wi W) => HPE.o.below h)
              have T0 : Below wi.heap.size wi wi := Below.refl _ _
              have n1 : (t2.what != t2.what) = false := by simp
              have n2 : (t2.seq != t2.seq) = false := by simp
              have n3 : (t2.k != t2.k) = false := by simp
              have n4 : (t2.e != t2.e) = false := by simp
              obtain ⟨x0, x1, x2, x3, x4, x5, x6, x7, x8, x9, x10, x11, x12, x13, x14, v0, v1, v2, v3, v4, v5, v6, v7, v8, v9, v10, v11, v12, v13, v14⟩ := KS.o _ T0
              clear hrx hry hcx2 hcy2 hmx hmy hTX hTY hcy hkx hky HPE
              go_upto_region 33 with (fail)
              go_region_held3 (fun W => W.cell? ⟨gx, k * 15, none⟩ = some (.int .i64 t2.what) ∧ W.cell? ⟨gx, k * 15 + 1, none⟩ = some (.int .i64 t2.seq) ∧ W.cell? ⟨gx, k * 15 + 2, none⟩ = some (.int .i64 t2.k) ∧ W.cell? ⟨gx, k * 15 + 3, none⟩ = some (.int .i64 t2.q.k) ∧ W.cell? ⟨gx, k * 15 + 4, none⟩ = some (.string (bs t2.q.tn)) ∧ W.cell? ⟨gx, k * 15 + 5, none⟩ = some (.string (bs t2.q.col)) ∧ W.cell? ⟨gx, k * 15 + 6, none⟩ = some (.string (bs t2.q.uid)) ∧ W.cell? ⟨gx, k * 15 + 7, none⟩ = some (.string (bs t2.q.card)) ∧ W.cell? ⟨gx, k * 15 + 8, none⟩ = some (.int .i64 t2.q.ck) ∧ W.cell? ⟨gx, k * 15 + 9, none⟩ = some (.int .i64 t2.q.cv) ∧ W.cell? ⟨gx, k * 15 + 10, none⟩ = some (.slice AX t2.q.ops.length cX) ∧ W.cell? ⟨gx, k * 15 + 11, none⟩ = some (.int .i64 t2.q.tok) ∧ W.cell? ⟨gx, k * 15 + 12, none⟩ = some (.int .i64 t2.q.most) ∧ W.cell? ⟨gx, k * 15 + 13, none⟩ = some (.int .i64 t2.q.ticks) ∧ W.cell? ⟨gx, k * 15 + 14, none⟩ = some (.int .i64 t2.e) ∧ W.cell? ⟨gy, k * 15, none⟩ = some (.int .i64 t2.what) ∧ W.cell? ⟨gy, k * 15 + 1, none⟩ = some (.int .i64 t2.seq) ∧ W.cell? ⟨gy, k * 15 + 2, none⟩ = some (.int .i64 t2.k) ∧ W.cell? ⟨gy, k * 15 + 3, none⟩ = some (.int .i64 t2.q.k) ∧ W.cell? ⟨gy, k * 15 + 4, none⟩ = some (.string (bs t2.q.tn)) ∧ W.cell? ⟨gy, k * 15 + 5, none⟩ = some (.string (bs t2.q.col)) ∧ W.cell? ⟨gy, k * 15 + 6, none⟩ = some (.string (bs t2.q.uid)) ∧ W.cell? ⟨gy, k * 15 + 7, none⟩ = some (.string (bs t2.q.card)) ∧ W.cell? ⟨gy, k * 15 + 8, none⟩ = some (.int .i64 t2.q.ck) ∧ W.cell? ⟨gy, k * 15 + 9, none⟩ = some (.int .i64 t2.q.cv) ∧ W.cell? ⟨gy, k * 15 + 10, none⟩ = some (.slice AY t2.q.ops.length cY) ∧ W.cell? ⟨gy, k * 15 + 11, none⟩ = some (.int .i64 t2.q.tok) ∧ W.cell? ⟨gy, k * 15 + 12, none⟩ = some (.int .i64 t2.q.most) ∧ W.cell? ⟨gy, k * 15 + 13, none⟩ = some (.int .i64 t2.q.ticks) ∧ W.cell? ⟨gy, k * 15 + 14, none⟩ = some (.int .i64 t2.e)) (with_reducible first
                  | exact KS.o _ (by assumption)
                  | exact KS.o _ (Below.drew (by assumption)))
                ((go_at_call 21
                  with_reducible refine (SM.o _ (by first | assumption | exact Below.drew (by assumption))).mono ?_
                  rintro e w9 ⟨rfl, hT9⟩))
              have HPM := hd (HPN.o _ hT9)
              clear hT9 T0 SM KS HPN x0 x1 x2 x3 x4 x5 x6 x7 x8 x9 x10 x11 x12 x13 x14 v0 v1 v2 v3 v4 v5 v6 v7 v8 v9 v10 v11 v12 v13 v14 n1 n2 n3 n4
              go_wp2
              go_roundw
              case rel => exact ⟨k + 1, by go_num, by omega, HPM⟩
              case measure => simp [intOf]; omega
            · obtain rfl : N = k := by omega
              have hki2 : ¬ (N : Int) < (N : Int) := by omega
              have C1 := hd (tenant_calls wi g p sx HPE.o.two.a.r)
              have C2 := hd (tenant_calls wi g2 p2 sx HPE.o.two.r.r)
              have C3 := hd (seq_calls wi g p sx HPE.o.two.a.r)
              have C4 := hd (seq_calls wi g2 p2 sx HPE.o.two.r.r)
              have HB9 := hd HPE.o.two.a.b
              clear HPE hlt
              go_upto_region 35 with (fail)
              clear hki2
              go_wp2_with fail
              refine C1.o.mono ?_
              rintro e w' ⟨rfl, rfl⟩
              go_wp2_with fail
              refine C2.o.mono ?_
              rintro e w' ⟨rfl, rfl⟩
              go_wp2_with fail
              refine C3.o.mono ?_
              rintro e w' ⟨rfl, rfl⟩
              go_wp2_with fail
              refine C4.o.mono ?_
              rintro e w' ⟨rfl, rfl⟩
              go_wp2_with fail
              go_ret
              exact ⟨rfl, HB9.o⟩
end Go.Proofs.YtogjokofmfpmgaaGreatDoor
