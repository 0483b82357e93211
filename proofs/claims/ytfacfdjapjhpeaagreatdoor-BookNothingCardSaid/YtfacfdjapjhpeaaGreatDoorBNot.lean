/-
  BookNothing: the walk.
-/
import Derived.Test.YtfacfdjapjhpeaaGreatDoorGRB
import Derived.Test.YtfacfdjapjhpeaaGreatDoorGAX
set_option linter.unusedVariables false
set_option linter.unusedSimpArgs false
namespace Go.Proofs.YtfacfdjapjhpeaaGreatDoor
open Go.RowKit Go.Lib

set_option maxRecDepth 100000 in
set_option maxHeartbeats 8000000 in
theorem bnot_law (c : Cf) (A : Option Addr) (n cp : Nat) (l : List BAc) (t : ByteArray) (q : Rq) (Aq : Option Addr) (cq : Nat) (w : World) (ht : Tbs w) (hs : c.start ≤ maxTok) (hr : Rds w A n 12 (bacE l)) (hn : n = l.length) (hm : n ≤ maxLen) (hok : ∀ x ∈ l, BAcOk w x) (hts : t.size ≤ maxLen) (hq : RqOk w q Aq) (hcq : q.ops.length ≤ cq) :
    Calls Tryz.prog 8 #[.agg (cfE c).toArray, .slice A n cp, .string t, .agg (reqE q Aq cq).toArray] w fun e w' => e = .returned (.bool true) ∧ Below w.heap.size w w' := by
  obtain ⟨tt, rfl⟩ : ∃ tt, t = bs tt := ⟨t.data.toList, (bs_self t).symm⟩
  obtain ⟨tz, hzz_t⟩ : ∃ tz, (bs tt).size = tz := ⟨_, rfl⟩
  have HTZ := hd (show tt.length = tz by rw [← hzz_t, bs_size])
  rw [hzz_t] at hts
  unfold maxLen at hts
  have hz1 : (w.alloc (.cells (cfE c).toArray 25)).heap.size = w.heap.size + 1 := by simp
  have hb0 : Below w.heap.size w ((w.alloc (.cells (cfE c).toArray 25)).alloc (.cells (reqE q Aq cq).toArray 45)) := ((Below.refl w.heap.size w).alloc (Nat.le_refl _) _).alloc (by omega) _
  have hk0 : Blk ((w.alloc (.cells (cfE c).toArray 25)).alloc (.cells (reqE q Aq cq).toArray 45)) w.heap.size 25 (cfE c).toArray := (Blk.new w 25 _).alloc _
  have hkq : Blk ((w.alloc (.cells (cfE c).toArray 25)).alloc (.cells (reqE q Aq cq).toArray 45)) (w.heap.size + 1) 45 (reqE q Aq cq).toArray := Blk.new_ _ _ hz1.symm _ _
  obtain ⟨w0, hw0⟩ : ∃ w0, w0 = (w.alloc (.cells (cfE c).toArray 25)).alloc (.cells (reqE q Aq cq).toArray 45) := ⟨_, rfl⟩
  rw [← hw0] at hb0 hk0 hkq
  have KQ0 := fun W (h : Below w0.heap.size w0 W) => (show W.cell? ⟨w.heap.size + 1, 0, none⟩ = some (.int .i64 q.k) ∧ W.cell? ⟨w.heap.size + 1, 1, none⟩ = some (.string (bs q.tn)) ∧ W.cell? ⟨w.heap.size + 1, 2, none⟩ = some (.string (bs q.col)) ∧ W.cell? ⟨w.heap.size + 1, 3, none⟩ = some (.string (bs q.uid)) ∧ W.cell? ⟨w.heap.size + 1, 4, none⟩ = some (.string (bs q.card)) ∧ W.cell? ⟨w.heap.size + 1, 5, none⟩ = some (.int .i64 q.ck) ∧ W.cell? ⟨w.heap.size + 1, 6, none⟩ = some (.int .i64 q.cv) ∧ W.cell? ⟨w.heap.size + 1, 7, none⟩ = some (.slice Aq q.ops.length cq) ∧ W.cell? ⟨w.heap.size + 1, 8, none⟩ = some (.int .i64 q.tok) ∧ W.cell? ⟨w.heap.size + 1, 9, none⟩ = some (.int .i64 q.most) ∧ W.cell? ⟨w.heap.size + 1, 10, none⟩ = some (.int .i64 q.ticks) from ⟨(hkq.below h hkq.lt).at_ 0 rfl, (hkq.below h hkq.lt).at_ 1 rfl, (hkq.below h hkq.lt).at_ 2 rfl, (hkq.below h hkq.lt).at_ 3 rfl, (hkq.below h hkq.lt).at_ 4 rfl, (hkq.below h hkq.lt).at_ 5 rfl, (hkq.below h hkq.lt).at_ 6 rfl, (hkq.below h hkq.lt).at_ 7 rfl, (hkq.below h hkq.lt).at_ 8 rfl, (hkq.below h hkq.lt).at_ 9 rfl, (hkq.below h hkq.lt).at_ 10 rfl⟩)
  obtain ⟨qo, hqo⟩ : ∃ z, q.ops.length = z := ⟨_, rfl⟩
  rw [hqo] at KQ0
  have KQ := hd KQ0
  have HQO := hd hqo
  have HKQ := hd hkq
  clear KQ0 hqo hkq
  have HB00 := hd hb0
  have HW0 := hd hw0
  have T0 := hd (ht.below hb0)
  have HR0 := hd (hr.below (hb0.mono (Nat.le_refl _)))
  have HN := hd hn
  have HOK0 := hd (fun x hx => (hok x hx).below hb0)
  have KC := hd (fun W (h : Below w0.heap.size w0 W) => blk8 (hk0.below h hk0.lt))
  have C0 := hd (fun W (h : Below w0.heap.size w0 W) => bfirst_calls W (T0.o.below h))
  have CL := hd (fun W (h : Below w0.heap.size w0 W) => blight_calls W l A n cp (HR0.o.below h) hn hm (fun x hx => (HOK0.o x hx).below h))
  have CR := hd (fun W => rconf_calls c W)
  have HS := hd hs
  obtain ⟨LB, hLB⟩ : ∃ LB, lightBs l = LB := ⟨_, rfl⟩
  rw [hLB] at CL
  have HLB := hd hLB
  obtain ⟨er, her⟩ : ∃ er, c.err = er := ⟨_, rfl⟩
  rw [her] at CR
  have HER := hd her
  have CQ0 := fun W (h : Below w0.heap.size w0 W) => light_calls W q Aq cq ((hq.below hb0).below h)
  simp only [reqV, reqE, HQO.o] at CQ0
  have CQ := hd CQ0
  clear CQ0
  obtain ⟨LQ, hLQ⟩ : ∃ b, lightQ q = b := ⟨_, rfl⟩
  rw [hLQ] at CQ
  have HLQ := hd hLQ
  have HQ0 := hd (hq.below hb0)
  clear hLQ hq
  have ts : (bs tt).size = tz := hzz_t
  unfold maxLen at hm
  clear hw0 hs hr hn ht hok hLB her hb0 hk0
  obtain ⟨BAD, hBAD⟩ : ∃ b, (!decide (LB = true ∧ LQ = true ∧ tz ≤ 60 ∧ er = 0)) = b := ⟨_, rfl⟩
  have HBAD : Hd ((LB = true ∧ LQ = true ∧ tz ≤ 60 ∧ er = 0) → BAD = false) := hd (fun h => by rw [← hBAD, decide_eq_true h]; rfl)
  have HBAX : Hd (¬ (LB = true ∧ LQ = true ∧ tz ≤ 60 ∧ er = 0) → BAD = true) := hd (fun h => by rw [← hBAD, decide_eq_false h]; rfl)
  have HGOOD : Hd (BAD = false → (LB = true ∧ LQ = true ∧ tz ≤ 60 ∧ er = 0)) := hd (fun h => by rw [← hBAD] at h; simpa using h)
  clear hBAD
  have HLX : Hd (LB = true → n ≤ 60 ∧ ∀ x ∈ l, lightQ x.q = true ∧ x.t.length ≤ 60) := hd (fun h => by rw [← HLB.o] at h; rw [HN.o]; exact lightBs_le h)
  obtain ⟨CF, hCF⟩ : ∃ CF, CF = c := ⟨_, rfl⟩
  obtain ⟨ST, hST⟩ : ∃ ST, runB c.q ⟨c.start, []⟩ l = ST := ⟨_, rfl⟩
  have CM : Hd (er = 0 → LB = true → ∀ W, Below w0.heap.size w0 W → Calls Tryz.prog 17 #[.agg (cfE c).toArray, .slice A n cp] W fun e w' => ∃ b y, e = .returned (.pointer (some ⟨b, 0, none⟩)) ∧ BkT w0 w' y b CF n ST ∧ (∀ k, y.lam k ≠ .no → W.heap.size ≤ k) ∧ Below W.heap.size W w') := hd (fun h0 hl W h => (made_calls W c l A n cp (T0.o.below h) (HER.o.trans h0) HS.o (HR0.o.below h) HN.o (HLX.o hl).1 (fun x hx => (HOK0.o x hx).below h) (HLX.o hl).2).mono fun e w' ⟨b, y, he, hb⟩ => ⟨b, y, he, by rw [hCF, ← hST]; exact hb.down h, hb.up, hb.b⟩)
  have HNM : Hd (er = 0 → BkNm CF.q CF.start n ST) := hd (fun h0 => by
    have := (BkNm.new (may_err (HER.o.trans h0)) HS.o).run l
    rw [Nat.zero_add, ← HN.o, hST] at this
    rw [hCF]
    exact this)
  have HU : Hd (CF.q = c.q) := hd (by rw [hCF])
  clear hCF hST
  have HCQ := hd hcq
  clear hcq
  obtain ⟨conns, start, room, shards, u1, u2, u3, u4⟩ := c
  simp only [cfE] at *
  go_enter Tryz.func8, Tryz.ntmps8
  go_upto_region 1 with (fail)
  rw [← HW0.o]
  go_wp2_with fail
  refine (C0.o _ (Below.refl _ _)).mono ?_
  rintro e w1 ⟨rfl, b1⟩
  have HB1 := hd b1
  clear b1
  go_upto_region 3 with (fail)
  go_cut [38] from 19 to 40 (fun s wx => s = .bool BAD ∧ Hd (Below w0.heap.size w0 wx))
  case first =>
    cases LB with
    | false =>
      have HV := hd (HBAX.o (fun hh => by have := hh.1; cases this))
      clear  HBAD HBAX HGOOD
      obtain ⟨k0, k1, k2, k3, k4, k5, k6, k7⟩ := KC.o w1 HB1.o
      go_wp2_with fail
      refine (CL.o _ HB1.o).mono ?_
      rintro e w2 ⟨rfl, b2⟩
      have HB2 := hd (HB1.o.trans (b2.mono HB1.o.size))
      clear b2 k0 k1 k2 k3 k4 k5 k6 k7
      go_wp2_with fail
      go_meet
      exact ⟨by rw [HV.o], hd HB2.o⟩
    | true =>
      have g0 : true = true := rfl
      cases LQ with
      | false =>
        have HV := hd (HBAX.o (fun hh => by have := hh.2.1; cases this))
        clear g0 HBAD HBAX HGOOD
        obtain ⟨k0, k1, k2, k3, k4, k5, k6, k7⟩ := KC.o w1 HB1.o
        go_wp2_with fail
        refine (CL.o _ HB1.o).mono ?_
        rintro e w2 ⟨rfl, b2⟩
        have HB2 := hd (HB1.o.trans (b2.mono HB1.o.size))
        clear b2 k0 k1 k2 k3 k4 k5 k6 k7
        obtain ⟨k0, k1, k2, k3, k4, k5, k6, k7⟩ := KC.o w2 HB2.o
        obtain ⟨r0, r1, r2, r3, r4, r5, r6, r7, r8, r9, r10⟩ := KQ.o w2 HB2.o
        go_wp2_with fail
        refine (CQ.o _ HB2.o).mono ?_
        rintro e w3 ⟨rfl, b3⟩
        have HB3 := hd (HB2.o.trans (b3.mono HB2.o.size))
        clear b3 k0 k1 k2 k3 k4 k5 k6 k7 r0 r1 r2 r3 r4 r5 r6 r7 r8 r9 r10
        go_wp2_with fail
        go_meet
        exact ⟨by rw [HV.o], hd HB3.o⟩
      | true =>
        have g1 : true = true := rfl
        by_cases g2 : tz ≤ 60
        case neg =>
          have a2 : decide ((60 : Int) < (tz : Int)) = true := by simp; omega
          have HV := hd (HBAX.o (fun hh => g2 hh.2.2.1))
          clear g0 g1 g2 HBAD HBAX HGOOD
          obtain ⟨k0, k1, k2, k3, k4, k5, k6, k7⟩ := KC.o w1 HB1.o
          go_wp2_with fail
          refine (CL.o _ HB1.o).mono ?_
          rintro e w2 ⟨rfl, b2⟩
          have HB2 := hd (HB1.o.trans (b2.mono HB1.o.size))
          clear b2 k0 k1 k2 k3 k4 k5 k6 k7
          obtain ⟨k0, k1, k2, k3, k4, k5, k6, k7⟩ := KC.o w2 HB2.o
          obtain ⟨r0, r1, r2, r3, r4, r5, r6, r7, r8, r9, r10⟩ := KQ.o w2 HB2.o
          go_wp2_with fail
          refine (CQ.o _ HB2.o).mono ?_
          rintro e w3 ⟨rfl, b3⟩
          have HB3 := hd (HB2.o.trans (b3.mono HB2.o.size))
          clear b3 k0 k1 k2 k3 k4 k5 k6 k7 r0 r1 r2 r3 r4 r5 r6 r7 r8 r9 r10
          go_wp2_with fail
          go_meet
          exact ⟨by rw [HV.o], hd HB3.o⟩
        case pos =>
          have a2 : decide ((60 : Int) < (tz : Int)) = false := by simp; omega
          by_cases g3 : er = 0
          case neg =>
            have a3 : (er == 0) = false := by simpa using g3
            have b3 : (er != 0) = true := by simpa using g3
            have HV := hd (HBAX.o (fun hh => g3 hh.2.2.2))
            clear g0 g1 g2 g3 HBAD HBAX HGOOD
            obtain ⟨k0, k1, k2, k3, k4, k5, k6, k7⟩ := KC.o w1 HB1.o
            go_wp2_with fail
            refine (CL.o _ HB1.o).mono ?_
            rintro e w2 ⟨rfl, b2⟩
            have HB2 := hd (HB1.o.trans (b2.mono HB1.o.size))
            clear b2 k0 k1 k2 k3 k4 k5 k6 k7
            obtain ⟨k0, k1, k2, k3, k4, k5, k6, k7⟩ := KC.o w2 HB2.o
            obtain ⟨r0, r1, r2, r3, r4, r5, r6, r7, r8, r9, r10⟩ := KQ.o w2 HB2.o
            go_wp2_with fail
            refine (CQ.o _ HB2.o).mono ?_
            rintro e w3 ⟨rfl, b3⟩
            have HB3 := hd (HB2.o.trans (b3.mono HB2.o.size))
            clear b3 k0 k1 k2 k3 k4 k5 k6 k7 r0 r1 r2 r3 r4 r5 r6 r7 r8 r9 r10
            obtain ⟨k0, k1, k2, k3, k4, k5, k6, k7⟩ := KC.o w3 HB3.o
            go_wp2_with fail
            refine (CR.o _).mono ?_
            rintro e w4 ⟨rfl, b4⟩
            have HB4 := hd (HB3.o.trans (b4.mono HB3.o.size))
            clear b4 k0 k1 k2 k3 k4 k5 k6 k7
            go_wp2_with fail
            go_meet
            exact ⟨by rw [HV.o], hd HB4.o⟩
          case pos =>
            subst g3
            have g3 : (0 : Int) = 0 := rfl
            have HV := hd (HBAD.o ⟨g0, g1, g2, g3⟩)
            clear g0 g1 g2 g3 HBAD HBAX HGOOD
            obtain ⟨k0, k1, k2, k3, k4, k5, k6, k7⟩ := KC.o w1 HB1.o
            go_wp2_with fail
            refine (CL.o _ HB1.o).mono ?_
            rintro e w2 ⟨rfl, b2⟩
            have HB2 := hd (HB1.o.trans (b2.mono HB1.o.size))
            clear b2 k0 k1 k2 k3 k4 k5 k6 k7
            obtain ⟨k0, k1, k2, k3, k4, k5, k6, k7⟩ := KC.o w2 HB2.o
            obtain ⟨r0, r1, r2, r3, r4, r5, r6, r7, r8, r9, r10⟩ := KQ.o w2 HB2.o
            go_wp2_with fail
            refine (CQ.o _ HB2.o).mono ?_
            rintro e w3 ⟨rfl, b3⟩
            have HB3 := hd (HB2.o.trans (b3.mono HB2.o.size))
            clear b3 k0 k1 k2 k3 k4 k5 k6 k7 r0 r1 r2 r3 r4 r5 r6 r7 r8 r9 r10
            obtain ⟨k0, k1, k2, k3, k4, k5, k6, k7⟩ := KC.o w3 HB3.o
            go_wp2_with fail
            refine (CR.o _).mono ?_
            rintro e w4 ⟨rfl, b4⟩
            have HB4 := hd (HB3.o.trans (b4.mono HB3.o.size))
            clear b4 k0 k1 k2 k3 k4 k5 k6 k7
            go_wp2_with fail
            go_meet
            exact ⟨by rw [HV.o], hd HB4.o⟩
  case rest =>
    obtain ⟨rfl, HBC⟩ := hcut
    cases BAD with
    | true =>
      clear HBAD HBAX HGOOD
      go_wp2_with fail
      refine (C0.o _ HBC.o).mono ?_
      rintro e w4 ⟨rfl, b4⟩
      have HB4 := hd (HB00.o.trans ((HBC.o.trans (b4.mono HBC.o.size)).mono HB00.o.size))
      clear b4
      go_wp2
      go_ret
      exact ⟨rfl, HB4.o⟩
    | false =>
      have HG := HGOOD.o rfl
      clear HGOOD HBAD HBAX
      obtain ⟨g1, g3, g4, g2⟩ := HG
      have CMM := hd (CM.o g2 g1)
      have HNM1 := hd (HNM.o g2)
      have HLX1 := hd (HLX.o g1)
      have HLQ1 : Hd (lightQ q = true) := hd (HLQ.o.trans g3)
      have HT6 := hd g4
      have hn60 := HLX1.o.1
      clear CM HNM HLX g1 g2 g3 g4
      obtain ⟨k0, k1, k2, k3, k4, k5, k6, k7⟩ := KC.o _ HBC.o
      have tok1 : Hd True := hd trivial
      go_wp2_with fail
      go_region_held3 (fun W => W.cell? ⟨w.heap.size, 0, none⟩ = some (.int .i64 conns) ∧ W.cell? ⟨w.heap.size, 1, none⟩ = some (.int .i64 start) ∧ W.cell? ⟨w.heap.size, 2, none⟩ = some (.int .i64 room) ∧ W.cell? ⟨w.heap.size, 3, none⟩ = some (.int .i64 shards) ∧ W.cell? ⟨w.heap.size, 4, none⟩ = some (.int .i64 u1) ∧ W.cell? ⟨w.heap.size, 5, none⟩ = some (.int .i64 u2) ∧ W.cell? ⟨w.heap.size, 6, none⟩ = some (.int .i64 u3) ∧ W.cell? ⟨w.heap.size, 7, none⟩ = some (.int .i64 u4)) (with_reducible first | go_keep | exact ⟨k0, k1, k2, k3, k4, k5, k6, k7⟩)
        (first
        | (go_at_call 17
           have _t := tok1
           with_reducible refine (CMM.o _ (by first | exact HBC.o | exact HBC.o.drew)).mono ?_
           rintro e w5 ⟨b, y, rfl, hb5, hu5, hbe5⟩
           have HK5 := hd hb5
           have HB5 := hd hb5.b
           clear k0 k1 k2 k3 k4 k5 k6 k7 hb5 hu5 hbe5 tok1 _t
           obtain ⟨k0, k1, k2, k3, k4, k5, k6, k7⟩ := KC.o _ HB5.o)
        | (go_at_call 17
           with_reducible refine (CMM.o _ (by first | exact HB5.o | exact HB5.o.drew)).mono ?_
           rintro e w6 ⟨b2, y2, rfl, hb6, hu6, hbe6⟩
           have HK6 := hd hb6
           have HK5b := hd (HK5.o.chg (Chg.of_below Non hbe6) (fun _ h => h.elim) (fun _ h => h.elim))
           have HB6 := hd hb6.b
           have HAP := hd (show Apart y y2 from fun k => by
             by_cases hk : y.lam k = .no
             · exact .inl hk
             · refine .inr (Classical.byContradiction fun hk2 => ?_)
               have h1 := HK5.o.r.lt k hk
               have h2 := hu6 k hk2
               exact Nat.lt_irrefl _ (Nat.lt_of_lt_of_le h1 h2))
           clear k0 k1 k2 k3 k4 k5 k6 k7 hb6 hu6 hbe6 HK5
           obtain ⟨k0, k1, k2, k3, k4, k5, k6, k7⟩ := KC.o _ HB6.o))
      all_goals
        have C0 := bdo_t w0 w6 y b CF n ST tt q Aq cq T0.o HK5b.o (by omega) (by have := HTZ.o; have := HT6.o; omega) (rqt_old HK5b.o HQ0.o HLQ1.o HCQ.o)
        have DT0 := do_toks CF.q ST tt q
        have hsm := fun h => DT0.same HNM1.o.ok.rise h
        have hnm := HNM1.o.step tt q
        have hga := HNM1.o.ok.lens (by have := HK6.o.len; omega)
        have hil := do_itlen HNM1.o.ok tt q
        obtain ⟨an, han⟩ : ∃ an, doB CF.q ST tt q = an := ⟨_, rfl⟩
        have hans : Same ST an.2.2 → (doB CF.q an.2.2 tt q).1 = an.1 ∧ (doB CF.q an.2.2 tt q).2.1 = an.2.1 := fun h => by
          have := h.answer CF.q tt q
          rw [han] at this
          exact this
        rw [han] at C0 DT0 hsm hnm hil
        clear han
        obtain ⟨⟨rk, re, rt, rv, rc, ri, rm⟩, its, st2⟩ := an
        obtain rfl : rk = q.k := DT0.kind
        simp only at hsm hnm hans hil
        obtain ⟨zi, hzi⟩ : ∃ z, its.length = z := ⟨_, rfl⟩
        simp only [reqV, reqE, rsEnc, HQO.o, hzi] at C0
        replace C0 := hd C0
        have HZI := hd hzi
        have DT := hd DT0
        have HSM := hd hsm
        have HNM2 := hd hnm
        have HANS := hd hans
        have HZL := hd (show zi ≤ 1000000 by rw [← hzi]; have := hil; omega)
        have HGA := hd hga
        obtain ⟨r0, r1, r2, r3, r4, r5, r6, r7, r8, r9, r10⟩ := KQ.o w6 HB6.o
        clear DT0 hsm hnm hans hzi hga hil k0 k1 k2 k3 k4 k5 k6 k7
        go_wp2_with fail
        refine C0.o.mono ?_
        rintro e w7 ⟨A2, c2, y7, he, hd7⟩
        subst he
        obtain ⟨hap7, hk7⟩ := HAP.o.step HK5b.o hd7 HK6.o
        obtain ⟨w8, hw8⟩ : ∃ w8, w8 = w7.alloc (.cells #[.int .i64 q.k, .int .i64 re, .int .i64 rt, .int .i64 rv, .string (bs rc), .int .i64 ri, .bool rm, .slice A2 zi c2] 39) := ⟨_, rfl⟩
        have hb8 : Below w7.heap.size w7 w8 := by rw [hw8]; exact (Below.refl _ _).alloc (Nat.le_refl _) _
        have hk8 : Blk w8 w7.heap.size 39 #[.int .i64 q.k, .int .i64 re, .int .i64 rt, .int .i64 rv, .string (bs rc), .int .i64 ri, .bool rm, .slice A2 zi c2] := by rw [hw8]; exact Blk.new _ _ _
        have HD := hd (hd7.r.below hb8)
        have HD2 := hd (hk7.below hb8)
        have HRI := hd (show Rds w8 A2 zi 4 (itsEnc its) by rw [← HZI.o]; exact hd7.it.below hb8)
        have HPN := hd (no_of hd7.r.r.lt (Nat.le_refl w7.heap.size))
        have HPV := hd hd7.r.b.size
        have HAP7 := hd hap7
        have HNEW := hd hd7.no
        have HK8 := hd hk8
        have HW8 := hd hw8
        clear hap7 hk7 hd7 hb8 hk8 hw8 C0 r0 r1 r2 r3 r4 r5 r6 r7 r8 r9 r10
        obtain ⟨p, hp⟩ : ∃ p, w7.heap.size = p := ⟨_, rfl⟩
        have HP := hd hp
        rw [hp] at HK8 HPN HPV
        clear hp
        go_upto_region 9 with (fail)
        rw [← HW8.o, HP.o]
        clear HW8 HP
        have KE := hd (fun W (h : Below w8.heap.size w8 W) => (show W.cell? ⟨p, 0, none⟩ = some (.int .i64 q.k) ∧ W.cell? ⟨p, 1, none⟩ = some (.int .i64 re) ∧ W.cell? ⟨p, 2, none⟩ = some (.int .i64 rt) ∧ W.cell? ⟨p, 3, none⟩ = some (.int .i64 rv) ∧ W.cell? ⟨p, 4, none⟩ = some (.string (bs rc)) ∧ W.cell? ⟨p, 5, none⟩ = some (.int .i64 ri) ∧ W.cell? ⟨p, 6, none⟩ = some (.bool rm) ∧ W.cell? ⟨p, 7, none⟩ = some (.slice A2 zi c2) from ⟨(HK8.o.below h HK8.o.lt).at_ 0 rfl, (HK8.o.below h HK8.o.lt).at_ 1 rfl, (HK8.o.below h HK8.o.lt).at_ 2 rfl, (HK8.o.below h HK8.o.lt).at_ 3 rfl, (HK8.o.below h HK8.o.lt).at_ 4 rfl, (HK8.o.below h HK8.o.lt).at_ 5 rfl, (HK8.o.below h HK8.o.lt).at_ 6 rfl, (HK8.o.below h HK8.o.lt).at_ 7 rfl⟩))
        obtain ⟨e0, e1, e2, e3, e4, e5, e6, e7⟩ := KE.o _ (Below.refl _ _)
        have r0 := (KQ.o w8 HD.o.b).1
        obtain ⟨wv, hwv⟩ : ∃ wv, writesK q.k = wv := ⟨_, rfl⟩
        have CW1 := hd (fun W => rwrites_calls q.k W)
        rw [hwv] at CW1
        have DTy := DT.o.yes
        have DTb := DT.o.bad
        simp only [hwv] at DTy DTb
        have HWV := hd hwv
        have HDY := hd DTy
        have HDB := hd DTb
        clear hwv DTy DTb
        go_cut [90] from 43 to 104 (fun s wx => s = .bool false ∧ wx = w8)
        case first =>
          have q0 : (q.k == q.k) = true := by simp
          by_cases hre : re = 0
          · have q1 : (re == 0) = true := by simpa using hre
            have q2 : (re != 0) = false := by simpa using hre
            clear hre
            go_wp2
            all_goals (go_meet; exact ⟨rfl, rfl⟩)
          · obtain ⟨z1, z2, z3, z4, z5⟩ := HDB.o hre
            have q1 : (re == 0) = false := by simpa using hre
            have hz0 : zi = 0 := by rw [← HZI.o, z5]; rfl
            have qe : (bs ([] : List UInt8)).toList.isEmpty = true := by simp [bs]
            subst z1 z2 z3 z4 hz0
            clear hre z5
            go_wp2
            all_goals (go_meet; exact ⟨rfl, rfl⟩)
        case rest =>
        obtain ⟨rfl, hww⟩ := hcut
        have hww2 := hww.symm
        subst hww2
        clear hww
        go_upto_region 11 with (fail)
        obtain ⟨WQ, hWQ⟩ : ∃ x, ((re == 0) && wv) = x := ⟨_, rfl⟩
        have HWQ := hd hWQ
        clear hWQ
        go_cut [98] from 43 to 104 (fun s wx => s = .bool WQ ∧ wx = w8)
        case first =>
          by_cases hre : re = 0
          · have q1 : (re == 0) = true := by simpa using hre
            have hx := HWQ.o
            rw [q1, Bool.true_and] at hx
            have HX := hd hx
            clear hre hx
            go_wp2_with fail
            refine (CW1.o _).mono ?_
            rintro e w9 ⟨rfl, rfl⟩
            go_wp2
            go_meet
            exact ⟨by rw [HX.o], rfl⟩
          · have q1 : (re == 0) = false := by simpa using hre
            have hx := HWQ.o
            rw [q1, Bool.false_and] at hx
            have HX := hd hx
            clear hre hx
            go_wp2
            go_meet
            exact ⟨by rw [HX.o], rfl⟩
        case rest =>
        obtain ⟨rfl, hww⟩ := hcut
        have hww2 := hww.symm
        subst hww2
        clear hww
        clear e0 e1 e2 e3 e4 e5 e6 e7 r0
        cases WQ with
        | true =>
          have hx := HWQ.o
          rw [Bool.and_eq_true] at hx
          obtain ⟨q1, q2⟩ := hx
          have q1 : re = 0 := by simpa using q1
          obtain ⟨d1, d2, _, _⟩ := HDY.o q2 q1
          have d2 : st2.ctr = ST.ctr + 1 := d2
          have hhigh := HNM1.o.ok.high
          have hlow := HNM1.o.ok.low
          have hst := HNM1.o.ok.start
          have CC1 := fun (W : World) (h : BkT w0 W y7 b CF (n + 1) st2) => bcounter_calls W y7 b CF st2 h.r
          have CC2 := hd (fun (W : World) (h : BkT w0 W y2 b2 CF n ST) => bcounter_calls W y2 b2 CF ST h.r)
          rw [d2] at CC1
          replace CC1 := hd CC1
          clear q1 q2 d2
          generalize ST.ctr = c0 at *
          have hwr : IntKind.i64.wrap (c0 + 1) = c0 + 1 := by rw [IntKind.wrap_i64]; unfold maxTok at *; omega
          have q3 : (c0 + 1 == c0 + 1) = true := by simp
          clear d1 hhigh hlow hst
          go_wp2_with fail
          refine (CC1.o _ HD.o).mono ?_
          rintro e w9 ⟨rfl, rfl⟩
          go_wp2_with fail
          refine (CC2.o _ HD2.o).mono ?_
          rintro e w9 ⟨rfl, rfl⟩
          go_wp2
          go_ret
          exact ⟨rfl, HB00.o.trans (HD.o.b.mono HB00.o.size)⟩
        | false =>
          have hsm : Same ST st2 := HSM.o (fun hh => by
            have hx := HWQ.o
            rw [Bool.and_eq_false_iff] at hx
            rcases hx with hx | hx
            · have h2 : re = 0 := hh.2
              simp [h2] at hx
            · have h1 := hh.1
              rw [HWV.o, hx] at h1
              cases h1)
          have HSA := hd hsm
          have hgb : BkL st2 := HNM2.o.ok.lens (by have := HD.o.len; omega)
          have hml : ∀ a d s', colB ST a d = some s' → s'.ml.length ≤ 1000000 := fun a d s' h => by
            have hx := (HNM1.o.ok.ten a).get h
            have h1 := hx.ok.mllen
            rw [hx.most] at h1
            have h2 := HNM1.o.ok.q.d2
            omega
          have hml2 : ∀ a d s', colB st2 a d = some s' → s'.ml.length ≤ 1000000 := fun a d s' h => hml a d s' (by rw [← hsm.col]; exact h)
          have CLb := hd (fun W (h : Below w8.heap.size w8 W) (a d : List UInt8) => show Calls Tryz.prog 30 #[.pointer (some ⟨b, 0, none⟩), .string (bs a), .string (bs d)] W fun e w' => e = .returned (.tuple #[.int .i64 (latB ST a d), .bool (isB' ST a d)]) ∧ Below W.heap.size W w' by
            have := blatest_calls W y7 b CF st2 (HD.o.below h).r hgb a d
            unfold latB isB' at this
            rw [hsm.col] at this
            exact this)
          have CLo := hd (fun W (h : Below w8.heap.size w8 W) (a d : List UInt8) => blatest_calls W y2 b2 CF ST (HD2.o.below h).r HGA.o a d)
          have CBb := hd (fun W (h : Below w8.heap.size w8 W) (a : List UInt8) => show Calls Tryz.prog 23 #[.pointer (some ⟨b, 0, none⟩), .string (bs a)] W fun e w' => e = .returned (.int .i64 (bytesT (tenB ST.ts a))) ∧ Below W.heap.size W w' by
            have := bbytes_calls W y7 b CF st2 (HD.o.below h).r hgb a
            rw [hsm.ten] at this
            exact this)
          have CBo := hd (fun W (h : Below w8.heap.size w8 W) (a : List UInt8) => bbytes_calls W y2 b2 CF ST (HD2.o.below h).r HGA.o a)
          have CVb := hd (fun W (h : Below w8.heap.size w8 W) (a d : List UInt8) => show Calls Tryz.prog 25 #[.pointer (some ⟨b, 0, none⟩), .string (bs a), .string (bs d)] W fun e w' => ∃ A cp, e = .returned (.slice A (lisB ST a d).length cp) ∧ Row w' (From W.heap.size) 63 4 A (lisB ST a d).length cp (itsEnc (lisB ST a d)) ∧ Below W.heap.size W w' by
            have := live_calls W y7 b CF st2 (HD.o.below h).r hgb a d (hml2 a d)
            unfold lisB at this
            rw [hsm.col] at this
            exact this)
          have CVo := hd (fun W (h : Below w8.heap.size w8 W) (a d : List UInt8) => live_calls W y2 b2 CF ST (HD2.o.below h).r HGA.o a d (hml a d))
          have CIT := hd (fun (W : World) (A B : Option Addr) (c c' n n' : Nat) (a d : List UInt8) (h1 : n = (lisB ST a d).length) (h2 : n' = (lisB ST a d).length) (h3 : Rds W A n 4 (itsEnc (lisB ST a d))) (h4 : Rds W B n' 4 (itsEnc (lisB ST a d))) => show Calls Tryz.prog 33 #[.slice A n c, .slice B n' c'] W fun e w' => e = .returned (.bool true) ∧ Below W.heap.size W w' by
            have hl : (lisB ST a d).length ≤ 1000000 := by
              unfold lisB
              cases hg : colB ST a d with
              | none => simp
              | some s' => simp only [liveL_len]; exact hml a d s' hg
            have := its_calls W A B n n' c c' _ _ h1 h2 h3 h4 (by omega) (by omega)
            rw [decide_eq_true rfl] at this
            exact this)
          have HVV := hd (fun a d => show (latB ST a d == latB ST a d) = true by simp)
          have HIB := hd (fun a d => show (isB' ST a d == isB' ST a d) = true by simp)
          have HYY := hd (fun a => show (bytesT (tenB ST.ts a) == bytesT (tenB ST.ts a)) = true by simp)
          clear hsm hgb hml hml2
          go_wp2_with fail
          go_loopw [12] (fun i wr => ∃ k : Nat, i = .int .i64 k ∧ k ≤ n + 1 ∧ Hd (Below w8.heap.size w8 wr)) (fun i _ => n + 1 - (RowKit.intOf i).toNat)
          case atStart => exact ⟨0, rfl, Nat.zero_le _, hd (Below.refl _ _)⟩
          case round =>
            obtain ⟨k, rfl, hk, HBR⟩ := hrel
            obtain ⟨wi, rfl⟩ : ∃ wi : World, wi = wr := ⟨_, rfl⟩
            have hki : (0 : Int) ≤ (k : Int) := by omega
            by_cases hle : k ≤ n
            · have hlei : (k : Int) ≤ (n : Int) := by omega
              have r2 := (KQ.o wi (HD.o.b.trans (HBR.o.mono HD.o.b.size))).2.2.1
              by_cases hlt : k < n
              · have hlti : (k : Int) < (n : Int) := by omega
                have hkl : k < l.length := by rw [← HN.o]; exact hlt
                obtain ⟨g0, o, rfl, KEEP0⟩ := bac_cells HR0.o k HN.o hkl
                obtain ⟨X, hX⟩ : ∃ X, l[k]'hkl = X := ⟨_, rfl⟩
                rw [hX] at KEEP0
                have KEEP := hd KEEP0
                clear KEEP0 hX hkl
                obtain ⟨xt, x, AX, cX⟩ := X
                have m0 := (KEEP.o wi (HD.o.b.trans (HBR.o.mono HD.o.b.size))).h0
                have m3 := (KEEP.o wi (HD.o.b.trans (HBR.o.mono HD.o.b.size))).h3
                simp only at m0 m3
                go_wp2_with fail
                go_region
                go_wp2_with fail
                go_region
                clear m0 m3 r2
                go_wp2_with fail
                have HBX := hd (show Below w8.heap.size w8 wi.drew.drew from HBR.o.drew.drew)
                refine (CLb.o _ HBX.o xt x.col).mono ?_
                rintro e w10 ⟨rfl, hb10⟩
                have HB10 := hd (HBX.o.trans (hb10.mono HBX.o.size))
                clear hb10
                go_wp2_with fail
                refine (CLo.o _ HB10.o xt x.col).mono ?_
                rintro e w11 ⟨rfl, hb11⟩
                have HB11 := hd (HB10.o.trans (hb11.mono HB10.o.size))
                clear hb11
                have hv := HVV.o xt x.col
                have hib := HIB.o xt x.col
                have hby := HYY.o xt
                have CBb1 := hd (fun W h => CBb.o W h xt)
                have CBo1 := hd (fun W h => CBo.o W h xt)
                have CVb1 := hd (fun W h => CVb.o W h xt x.col)
                have CVo1 := hd (fun W h => CVo.o W h xt x.col)
                have CI1 := hd (fun W A B c c' n n' h1 h2 h3 h4 => CIT.o W A B c c' n n' xt x.col h1 h2 h3 h4)
                generalize latB ST xt x.col = vv at *
                generalize isB' ST xt x.col = ib at *
                generalize bytesT (tenB ST.ts xt) = yy at *
                obtain ⟨zl, hzl⟩ : ∃ z, (lisB ST xt x.col).length = z := ⟨_, rfl⟩
                rw [hzl] at CVb1 CVo1 CI1
                generalize lisB ST xt x.col = LL at *
                clear hzl
                go_wp2_with fail
                refine (CBb1.o _ HB11.o).mono ?_
                rintro e w12 ⟨rfl, hb12⟩
                have HB12 := hd (HB11.o.trans (hb12.mono HB11.o.size))
                clear hb12
                go_wp2_with fail
                refine (CBo1.o _ HB12.o).mono ?_
                rintro e w13 ⟨rfl, hb13⟩
                have HB13 := hd (HB12.o.trans (hb13.mono HB12.o.size))
                clear hb13
                go_wp2_with fail
                refine (CVb1.o _ HB13.o).mono ?_
                rintro e w14 ⟨A3, c3, rfl, hr14, hb14⟩
                have HB14 := hd (HB13.o.trans (hb14.mono HB13.o.size))
                have HR14 := hd hr14
                clear hr14 hb14
                go_wp2_with fail
                refine (CVo1.o _ HB14.o).mono ?_
                rintro e w15 ⟨A4, c4, rfl, hr15, hb15⟩
                have HB15 := hd (HB14.o.trans (hb15.mono HB14.o.size))
                have HR15 := hd hr15
                have HR14b := hd (HR14.o.below hb15)
                clear hr15 hb15 HR14
                go_wp2_with fail
                refine (CI1.o _ A3 A4 c3 c4 zl zl rfl rfl HR14b.o.rds HR15.o.rds).mono ?_
                rintro e w16 ⟨rfl, hb16⟩
                have HB16 := hd (HB15.o.trans (hb16.mono HB15.o.size))
                clear hb16
                go_wp2_with fail
                go_roundw
                case rel => exact ⟨k + 1, by go_num, by omega, hd HB16.o⟩
                case measure => simp [RowKit.intOf]; omega
              · have hki2 : ¬ (k : Int) < (n : Int) := by omega
                go_wp2_with fail
                go_region
                clear r2
                go_wp2_with fail
                have HBX := hd (show Below w8.heap.size w8 wi.drew from HBR.o.drew)
                refine (CLb.o _ HBX.o tt q.col).mono ?_
                rintro e w10 ⟨rfl, hb10⟩
                have HB10 := hd (HBX.o.trans (hb10.mono HBX.o.size))
                clear hb10
                go_wp2_with fail
                refine (CLo.o _ HB10.o tt q.col).mono ?_
                rintro e w11 ⟨rfl, hb11⟩
                have HB11 := hd (HB10.o.trans (hb11.mono HB10.o.size))
                clear hb11
                have hv := HVV.o tt q.col
                have hib := HIB.o tt q.col
                have hby := HYY.o tt
                have CBb1 := hd (fun W h => CBb.o W h tt)
                have CBo1 := hd (fun W h => CBo.o W h tt)
                have CVb1 := hd (fun W h => CVb.o W h tt q.col)
                have CVo1 := hd (fun W h => CVo.o W h tt q.col)
                have CI1 := hd (fun W A B c c' n n' h1 h2 h3 h4 => CIT.o W A B c c' n n' tt q.col h1 h2 h3 h4)
                generalize latB ST tt q.col = vv at *
                generalize isB' ST tt q.col = ib at *
                generalize bytesT (tenB ST.ts tt) = yy at *
                obtain ⟨zl, hzl⟩ : ∃ z, (lisB ST tt q.col).length = z := ⟨_, rfl⟩
                rw [hzl] at CVb1 CVo1 CI1
                generalize lisB ST tt q.col = LL at *
                clear hzl
                go_wp2_with fail
                refine (CBb1.o _ HB11.o).mono ?_
                rintro e w12 ⟨rfl, hb12⟩
                have HB12 := hd (HB11.o.trans (hb12.mono HB11.o.size))
                clear hb12
                go_wp2_with fail
                refine (CBo1.o _ HB12.o).mono ?_
                rintro e w13 ⟨rfl, hb13⟩
                have HB13 := hd (HB12.o.trans (hb13.mono HB12.o.size))
                clear hb13
                go_wp2_with fail
                refine (CVb1.o _ HB13.o).mono ?_
                rintro e w14 ⟨A3, c3, rfl, hr14, hb14⟩
                have HB14 := hd (HB13.o.trans (hb14.mono HB13.o.size))
                have HR14 := hd hr14
                clear hr14 hb14
                go_wp2_with fail
                refine (CVo1.o _ HB14.o).mono ?_
                rintro e w15 ⟨A4, c4, rfl, hr15, hb15⟩
                have HB15 := hd (HB14.o.trans (hb15.mono HB14.o.size))
                have HR15 := hd hr15
                have HR14b := hd (HR14.o.below hb15)
                clear hr15 hb15 HR14
                go_wp2_with fail
                refine (CI1.o _ A3 A4 c3 c4 zl zl rfl rfl HR14b.o.rds HR15.o.rds).mono ?_
                rintro e w16 ⟨rfl, hb16⟩
                have HB16 := hd (HB15.o.trans (hb16.mono HB15.o.size))
                clear hb16
                go_wp2_with fail
                go_roundw
                case rel => exact ⟨k + 1, by go_num, by omega, hd HB16.o⟩
                case measure => simp [RowKit.intOf]; omega
            · have hki2 : ¬ (k : Int) ≤ (n : Int) := by omega
              have tok1 : Hd True := hd trivial
              have CC1 := hd (fun (W : World) (h : Below w8.heap.size w8 W) => show Calls Tryz.prog 15 #[.pointer (some ⟨b, 0, none⟩)] W fun e w' => e = .returned (.int .i64 ST.ctr) ∧ W = w' by
                have := bcounter_calls W y7 b CF st2 (HD.o.below h).r
                rw [HSA.o.ctr] at this
                exact this)
              have CC2 := hd (fun (W : World) (h : Below w8.heap.size w8 W) => bcounter_calls W y2 b2 CF ST (HD2.o.below h).r)
              have CDD := hd (fun (W : World) (h : Below w8.heap.size w8 W) => show Calls Tryz.prog 18 #[.pointer (some ⟨b, 0, none⟩), .string (bs tt), .agg #[.int .i64 q.k, .string (bs q.tn), .string (bs q.col), .string (bs q.uid), .string (bs q.card), .int .i64 q.ck, .int .i64 q.cv, .slice Aq qo cq, .int .i64 q.tok, .int .i64 q.most, .int .i64 q.ticks]] W fun e w' => ∃ A5 c5, e = .returned (.agg #[.int .i64 q.k, .int .i64 re, .int .i64 rt, .int .i64 rv, .string (bs rc), .int .i64 ri, .bool rm, .slice A5 zi c5]) ∧ Rds w' A5 zi 4 (itsEnc its) ∧ Rds w' A2 zi 4 (itsEnc its) ∧ Blk w' p 39 #[.int .i64 q.k, .int .i64 re, .int .i64 rt, .int .i64 rv, .string (bs rc), .int .i64 ri, .bool rm, .slice A2 zi c2] ∧ Below w0.heap.size w0 w' by
                have hc := bdo_t w0 W y7 b CF (n + 1) st2 tt q Aq cq T0.o (HD.o.below h) (by omega) (by have := HTZ.o; have := HT6.o; omega) (rqt_old (HD.o.below h) HQ0.o HLQ1.o HCQ.o)
                obtain ⟨x1, x2⟩ := HANS.o HSA.o
                rw [x1, x2] at hc
                simp only [reqV, reqE, rsEnc, HQO.o, HZI.o] at hc
                refine hc.mono fun e w' ⟨A5, c5, y9, he, hd9⟩ => ⟨A5, c5, he, ?_, ?_, ?_, hd9.r.b⟩
                · have := hd9.it
                  rw [x2, HZI.o] at this
                  exact this
                · exact (HRI.o.below h).chg hd9.chg (fun k hk hh => hh (HNEW.o k hk))
                · exact (HK8.o.below h HK8.o.lt).chg hd9.chg (fun hh => hh HPN.o))
              have CSS := hd (fun (W : World) (A5 : Option Addr) (c5 : Nat) (h1 : Rds W A2 zi 4 (itsEnc its)) (h2 : Rds W A5 zi 4 (itsEnc its)) => show Calls Tryz.prog 27 #[.agg #[.int .i64 q.k, .int .i64 re, .int .i64 rt, .int .i64 rv, .string (bs rc), .int .i64 ri, .bool rm, .slice A2 zi c2], .agg #[.int .i64 q.k, .int .i64 re, .int .i64 rt, .int .i64 rv, .string (bs rc), .int .i64 ri, .bool rm, .slice A5 zi c5]] W fun e w' => e = .returned (.bool true) ∧ Below W.heap.size W w' by
                have := sresp_calls ⟨q.k, re, rt, rv, rc, ri, rm⟩ ⟨q.k, re, rt, rv, rc, ri, rm⟩ A2 A5 zi zi c2 c5 its its W HZI.o.symm HZI.o.symm h1 h2 HZL.o HZL.o
                rw [decide_eq_true ⟨rfl, rfl⟩] at this
                exact this)
              have hb0w : Below w0.heap.size w0 wi := HD.o.b.trans (HBR.o.mono HD.o.b.size)
              obtain ⟨e0, e1, e2, e3, e4, e5, e6, e7⟩ := KE.o wi HBR.o
              obtain ⟨r0, r1, r2, r3, r4, r5, r6, r7, r8, r9, r10⟩ := KQ.o wi hb0w
              generalize ST.ctr = c0 at *
              have q3 : (c0 == c0) = true := by simp
              clear hb0w
              go_wp2_with fail
              go_region_held3 (fun W => (W.cell? ⟨p, 0, none⟩ = some (.int .i64 q.k) ∧ W.cell? ⟨p, 1, none⟩ = some (.int .i64 re) ∧ W.cell? ⟨p, 2, none⟩ = some (.int .i64 rt) ∧ W.cell? ⟨p, 3, none⟩ = some (.int .i64 rv) ∧ W.cell? ⟨p, 4, none⟩ = some (.string (bs rc)) ∧ W.cell? ⟨p, 5, none⟩ = some (.int .i64 ri) ∧ W.cell? ⟨p, 6, none⟩ = some (.bool rm) ∧ W.cell? ⟨p, 7, none⟩ = some (.slice A2 zi c2)) ∧ (W.cell? ⟨w.heap.size + 1, 0, none⟩ = some (.int .i64 q.k) ∧ W.cell? ⟨w.heap.size + 1, 1, none⟩ = some (.string (bs q.tn)) ∧ W.cell? ⟨w.heap.size + 1, 2, none⟩ = some (.string (bs q.col)) ∧ W.cell? ⟨w.heap.size + 1, 3, none⟩ = some (.string (bs q.uid)) ∧ W.cell? ⟨w.heap.size + 1, 4, none⟩ = some (.string (bs q.card)) ∧ W.cell? ⟨w.heap.size + 1, 5, none⟩ = some (.int .i64 q.ck) ∧ W.cell? ⟨w.heap.size + 1, 6, none⟩ = some (.int .i64 q.cv) ∧ W.cell? ⟨w.heap.size + 1, 7, none⟩ = some (.slice Aq qo cq) ∧ W.cell? ⟨w.heap.size + 1, 8, none⟩ = some (.int .i64 q.tok) ∧ W.cell? ⟨w.heap.size + 1, 9, none⟩ = some (.int .i64 q.most) ∧ W.cell? ⟨w.heap.size + 1, 10, none⟩ = some (.int .i64 q.ticks))) (with_reducible first | go_keep | exact ⟨⟨e0, e1, e2, e3, e4, e5, e6, e7⟩, ⟨r0, r1, r2, r3, r4, r5, r6, r7, r8, r9, r10⟩⟩)
                (first
                | (go_at_call 15
                   have _t := tok1
                   with_reducible refine (CC1.o _ (by first | exact HBR.o | exact HBR.o.drew)).mono ?_
                   rintro e w9 ⟨rfl, rfl⟩
                   clear tok1 _t)
                | (go_at_call 15
                   with_reducible refine (CC2.o _ (by first | exact HBR.o | exact HBR.o.drew)).mono ?_
                   rintro e w9 ⟨rfl, rfl⟩)
                | (go_at_call 18
                   with_reducible refine (CDD.o _ (by first | exact HBR.o | exact HBR.o.drew)).mono ?_
                   rintro e w9 ⟨A5, c5, rfl, h51, h52, h53, h54⟩
                   have H51 := hd h51
                   have H52 := hd h52
                   have H54 := hd h54
                   have H53 := hd h53
                   clear e0 e1 e2 e3 e4 e5 e6 e7 r0 r1 r2 r3 r4 r5 r6 r7 r8 r9 r10
                   obtain ⟨e0, e1, e2, e3, e4, e5, e6, e7⟩ := (show w9.cell? ⟨p, 0, none⟩ = some (.int .i64 q.k) ∧ w9.cell? ⟨p, 1, none⟩ = some (.int .i64 re) ∧ w9.cell? ⟨p, 2, none⟩ = some (.int .i64 rt) ∧ w9.cell? ⟨p, 3, none⟩ = some (.int .i64 rv) ∧ w9.cell? ⟨p, 4, none⟩ = some (.string (bs rc)) ∧ w9.cell? ⟨p, 5, none⟩ = some (.int .i64 ri) ∧ w9.cell? ⟨p, 6, none⟩ = some (.bool rm) ∧ w9.cell? ⟨p, 7, none⟩ = some (.slice A2 zi c2) from ⟨h53.at_ 0 rfl, h53.at_ 1 rfl, h53.at_ 2 rfl, h53.at_ 3 rfl, h53.at_ 4 rfl, h53.at_ 5 rfl, h53.at_ 6 rfl, h53.at_ 7 rfl⟩)
                   obtain ⟨r0, r1, r2, r3, r4, r5, r6, r7, r8, r9, r10⟩ := KQ.o w9 H54.o
                   clear h51 h52 h53 h54)
                | (go_at_call 27
                   with_reducible refine (CSS.o _ A5 c5 (by first | exact H52.o | exact H52.o.drewN 1) (by first | exact H51.o | exact H51.o.drewN 1)).mono ?_
                   rintro e w10 ⟨rfl, hb10⟩
                   have HB10 := hd (H54.o.trans (hb10.mono H54.o.size))
                   have h53 := H53.o.below hb10 H53.o.lt
                   clear e0 e1 e2 e3 e4 e5 e6 e7 r0 r1 r2 r3 r4 r5 r6 r7 r8 r9 r10 hb10
                   obtain ⟨e0, e1, e2, e3, e4, e5, e6, e7⟩ := (show w10.cell? ⟨p, 0, none⟩ = some (.int .i64 q.k) ∧ w10.cell? ⟨p, 1, none⟩ = some (.int .i64 re) ∧ w10.cell? ⟨p, 2, none⟩ = some (.int .i64 rt) ∧ w10.cell? ⟨p, 3, none⟩ = some (.int .i64 rv) ∧ w10.cell? ⟨p, 4, none⟩ = some (.string (bs rc)) ∧ w10.cell? ⟨p, 5, none⟩ = some (.int .i64 ri) ∧ w10.cell? ⟨p, 6, none⟩ = some (.bool rm) ∧ w10.cell? ⟨p, 7, none⟩ = some (.slice A2 zi c2) from ⟨h53.at_ 0 rfl, h53.at_ 1 rfl, h53.at_ 2 rfl, h53.at_ 3 rfl, h53.at_ 4 rfl, h53.at_ 5 rfl, h53.at_ 6 rfl, h53.at_ 7 rfl⟩)
                   obtain ⟨r0, r1, r2, r3, r4, r5, r6, r7, r8, r9, r10⟩ := KQ.o w10 HB10.o
                   clear h53))
              go_wp2
              go_ret
              exact ⟨rfl, HB00.o.trans (HB10.o.mono HB00.o.size)⟩
end Go.Proofs.YtfacfdjapjhpeaaGreatDoor
