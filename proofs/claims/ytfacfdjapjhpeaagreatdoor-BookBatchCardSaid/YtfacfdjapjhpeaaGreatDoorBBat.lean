/-
  BookBatch: the walk.
-/
import Derived.Test.YtfacfdjapjhpeaaGreatDoorGRC
import Derived.Test.YtfacfdjapjhpeaaGreatDoorGAX
set_option linter.unusedVariables false
set_option linter.unusedSimpArgs false
namespace Go.Proofs.YtfacfdjapjhpeaaGreatDoor
open Go.RowKit Go.Lib

theorem oneQ_s {nn : List UInt8} {o : OpV} (h : nn.length ≤ 60) (h1 : o.uid.length ≤ 60) (h2 : o.card.length ≤ 1000) : RqS (oneQ nn o) := ⟨Nat.zero_le _, by show nn.length ≤ _; omega, by show o.uid.length ≤ _; omega, by show o.card.length ≤ _; omega, Nat.zero_le _, (fun o ho => by cases ho)⟩
theorem rqt_rds {v w : World} {y : Lay} {b : Nat} {c : Cf} {n : Nat} {st : BkS} (h : BkT v w y b c n st) {q : Rq} {A : Option Addr} {cp : Nat} (hs : RqS q) (hr : Rds v A q.ops.length 5 (opsE q.ops)) (hc : q.ops.length ≤ cp) : RqT w y q A cp :=
  ⟨hs, hr.below h.b, hc, fun z hz => by
    have := hr.lt z hz
    cases hy : y.lam z with
    | no => rfl
    | _ => have := h.up z (by rw [hy]; exact nofun); omega⟩
set_option maxRecDepth 100000 in
set_option maxHeartbeats 8000000 in
theorem bbat_law (c : Cf) (A : Option Addr) (n cp : Nat) (l : List BAc) (t nb : ByteArray) (Ao : Option Addr) (no co : Nat) (ops : List OpV) (w : World) (ht : Tbs w) (hs : c.start ≤ maxTok) (hr : Rds w A n 12 (bacE l)) (hn : n = l.length) (hm : n ≤ maxLen) (hok : ∀ x ∈ l, BAcOk w x) (hts : t.size ≤ maxLen) (hns : nb.size ≤ maxLen) (hro : Rds w Ao no 5 (opsE ops)) (hno : no = ops.length) (hmo : no ≤ maxLen) (hoo : no ≤ co ∧ ∀ o ∈ ops, OpI o) :
    Calls Tryz.prog 6 #[.agg (cfE c).toArray, .slice A n cp, .string t, .string nb, .slice Ao no co] w fun e w' => e = .returned (.bool true) ∧ Below w.heap.size w w' := by
  obtain ⟨tt, rfl⟩ : ∃ tt, t = bs tt := ⟨t.data.toList, (bs_self t).symm⟩
  obtain ⟨nn, rfl⟩ : ∃ nn, nb = bs nn := ⟨nb.data.toList, (bs_self nb).symm⟩
  obtain ⟨tz, hzz_t⟩ : ∃ tz, (bs tt).size = tz := ⟨_, rfl⟩
  obtain ⟨nz, hzz_n⟩ : ∃ nz, (bs nn).size = nz := ⟨_, rfl⟩
  have HTZ := hd (show tt.length = tz by rw [← hzz_t, bs_size])
  have HNZ := hd (show nn.length = nz by rw [← hzz_n, bs_size])
  rw [hzz_t] at hts
  rw [hzz_n] at hns
  unfold maxLen at hts hns
  have hb0 : Below w.heap.size w (w.alloc (.cells (cfE c).toArray 25)) := (Below.refl w.heap.size w).alloc (Nat.le_refl _) _
  have hk0 : Blk (w.alloc (.cells (cfE c).toArray 25)) w.heap.size 25 (cfE c).toArray := Blk.new w 25 _
  obtain ⟨w0, hw0⟩ : ∃ w0, w0 = w.alloc (.cells (cfE c).toArray 25) := ⟨_, rfl⟩
  rw [← hw0] at hb0 hk0
  have HB00 := hd hb0
  have HW0 := hd hw0
  have T0 := hd (ht.below hb0)
  have HR0 := hd (hr.below (hb0.mono (Nat.le_refl _)))
  have HN := hd hn
  have HOK0 := hd (fun x hx => (hok x hx).below hb0)
  have KC := hd (fun W (h : Below w0.heap.size w0 W) => blk8 (hk0.below h hk0.lt))
  have C0 := hd (fun W (h : Below w0.heap.size w0 W) => bfirst_calls W (T0.o.below h))
  have CL := hd (fun W (h : Below w0.heap.size w0 W) => blight_calls W l A n cp (HR0.o.below h) hn hm (fun x hx => (HOK0.o x hx).below h))
  have CR := hd (fun W => rconf_calls c W)
  have HS := hd hs
  obtain ⟨LB, hLB⟩ : ∃ LB, lightBs l = LB := ⟨_, rfl⟩
  rw [hLB] at CL
  have HLB := hd hLB
  obtain ⟨er, her⟩ : ∃ er, c.err = er := ⟨_, rfl⟩
  rw [her] at CR
  have HER := hd her
  have CF1 := hd (fun W (h : Below w0.heap.size w0 W) => few_calls W Ao no co ops ((hro.below hb0).below h) hno hmo (fun x hx => ⟨(hoo.2 x hx).uid, (hoo.2 x hx).card⟩))
  obtain ⟨LF, hLF⟩ : ∃ b, fewP ops = b := ⟨_, rfl⟩
  rw [hLF] at CF1
  have HLF := hd hLF
  have HRO := hd (hro.below hb0)
  have HNO2 := hd hno
  have HCO := hd hoo.1
  clear hLF hro hno hmo hoo
  have ts : (bs tt).size = tz := hzz_t
  have ns : (bs nn).size = nz := hzz_n
  unfold maxLen at hm
  clear hw0 hs hr hn ht hok hLB her hb0 hk0
  obtain ⟨BAD, hBAD⟩ : ∃ b, (!decide (LB = true ∧ LF = true ∧ tz ≤ 60 ∧ nz ≤ 60 ∧ er = 0 ∧ c.start ≤ 1099511627776)) = b := ⟨_, rfl⟩
  have HBAD : Hd ((LB = true ∧ LF = true ∧ tz ≤ 60 ∧ nz ≤ 60 ∧ er = 0 ∧ c.start ≤ 1099511627776) → BAD = false) := hd (fun h => by rw [← hBAD, decide_eq_true h]; rfl)
  have HBAX : Hd (¬ (LB = true ∧ LF = true ∧ tz ≤ 60 ∧ nz ≤ 60 ∧ er = 0 ∧ c.start ≤ 1099511627776) → BAD = true) := hd (fun h => by rw [← hBAD, decide_eq_false h]; rfl)
  have HGOOD : Hd (BAD = false → (LB = true ∧ LF = true ∧ tz ≤ 60 ∧ nz ≤ 60 ∧ er = 0 ∧ c.start ≤ 1099511627776)) := hd (fun h => by rw [← hBAD] at h; simpa using h)
  clear hBAD
  have HLX : Hd (LB = true → n ≤ 60 ∧ ∀ x ∈ l, lightQ x.q = true ∧ x.t.length ≤ 60) := hd (fun h => by rw [← HLB.o] at h; rw [HN.o]; exact lightBs_le h)
  obtain ⟨CF, hCF⟩ : ∃ CF, CF = c := ⟨_, rfl⟩
  obtain ⟨ST, hST⟩ : ∃ ST, runB c.q ⟨c.start, []⟩ l = ST := ⟨_, rfl⟩
  have CM : Hd (er = 0 → LB = true → ∀ W, Below w0.heap.size w0 W → Calls Tryz.prog 17 #[.agg (cfE c).toArray, .slice A n cp] W fun e w' => ∃ b y, e = .returned (.pointer (some ⟨b, 0, none⟩)) ∧ BkT w0 w' y b CF n ST ∧ (∀ k, y.lam k ≠ .no → W.heap.size ≤ k) ∧ Below W.heap.size W w') := hd (fun h0 hl W h => (made_calls W c l A n cp (T0.o.below h) (HER.o.trans h0) HS.o (HR0.o.below h) HN.o (HLX.o hl).1 (fun x hx => (HOK0.o x hx).below h) (HLX.o hl).2).mono fun e w' ⟨b, y, he, hb⟩ => ⟨b, y, he, by rw [hCF, ← hST]; exact hb.down h, hb.up, hb.b⟩)
  have HNM : Hd (er = 0 → BkNm CF.q CF.start n ST) := hd (fun h0 => by
    have := (BkNm.new (may_err (HER.o.trans h0)) HS.o).run l
    rw [Nat.zero_add, ← HN.o, hST] at this
    rw [hCF]
    exact this)
  have HU : Hd (CF.q = c.q) := hd (by rw [hCF])
  have HCS : Hd (CF.start = c.start) := hd (by rw [hCF])
  clear hCF hST
  obtain ⟨conns, start, room, shards, u1, u2, u3, u4⟩ := c
  simp only [cfE] at *
  go_enter Tryz.func6, Tryz.ntmps6
  go_upto_region 1 with (fail)
  rw [← HW0.o]
  go_wp2_with fail
  refine (C0.o _ (Below.refl _ _)).mono ?_
  rintro e w1 ⟨rfl, b1⟩
  have HB1 := hd b1
  clear b1
  go_upto_region 3 with (fail)
  go_cut [51] from 22 to 52 (fun s wx => s = .bool BAD ∧ Hd (Below w0.heap.size w0 wx))
  case first =>
    cases LB with
    | false =>
      have HV := hd (HBAX.o (fun hh => by have := hh.1; cases this))
      clear  HBAD HBAX HGOOD
      obtain ⟨k0, k1, k2, k3, k4, k5, k6, k7⟩ := KC.o w1 HB1.o
      go_wp2_with fail
      refine (CL.o _ HB1.o).mono ?_
      rintro e w2 ⟨rfl, b2⟩
      have HB2 := hd (HB1.o.trans (b2.mono HB1.o.size))
      clear b2 k0 k1 k2 k3 k4 k5 k6 k7
      go_wp2_with fail
      go_meet
      exact ⟨by rw [HV.o], hd HB2.o⟩
    | true =>
      have g0 : true = true := rfl
      cases LF with
      | false =>
        have HV := hd (HBAX.o (fun hh => by have := hh.2.1; cases this))
        clear g0 HBAD HBAX HGOOD
        obtain ⟨k0, k1, k2, k3, k4, k5, k6, k7⟩ := KC.o w1 HB1.o
        go_wp2_with fail
        refine (CL.o _ HB1.o).mono ?_
        rintro e w2 ⟨rfl, b2⟩
        have HB2 := hd (HB1.o.trans (b2.mono HB1.o.size))
        clear b2 k0 k1 k2 k3 k4 k5 k6 k7
        obtain ⟨k0, k1, k2, k3, k4, k5, k6, k7⟩ := KC.o w2 HB2.o
        go_wp2_with fail
        refine (CF1.o _ HB2.o).mono ?_
        rintro e w3 ⟨rfl, b3⟩
        have HB3 := hd (HB2.o.trans (b3.mono HB2.o.size))
        clear b3 k0 k1 k2 k3 k4 k5 k6 k7
        go_wp2_with fail
        go_meet
        exact ⟨by rw [HV.o], hd HB3.o⟩
      | true =>
        have g1 : true = true := rfl
        by_cases g2 : tz ≤ 60
        case neg =>
          have a2 : decide ((60 : Int) < (tz : Int)) = true := by simp; omega
          have HV := hd (HBAX.o (fun hh => g2 hh.2.2.1))
          clear g0 g1 g2 HBAD HBAX HGOOD
          obtain ⟨k0, k1, k2, k3, k4, k5, k6, k7⟩ := KC.o w1 HB1.o
          go_wp2_with fail
          refine (CL.o _ HB1.o).mono ?_
          rintro e w2 ⟨rfl, b2⟩
          have HB2 := hd (HB1.o.trans (b2.mono HB1.o.size))
          clear b2 k0 k1 k2 k3 k4 k5 k6 k7
          obtain ⟨k0, k1, k2, k3, k4, k5, k6, k7⟩ := KC.o w2 HB2.o
          go_wp2_with fail
          refine (CF1.o _ HB2.o).mono ?_
          rintro e w3 ⟨rfl, b3⟩
          have HB3 := hd (HB2.o.trans (b3.mono HB2.o.size))
          clear b3 k0 k1 k2 k3 k4 k5 k6 k7
          go_wp2_with fail
          go_meet
          exact ⟨by rw [HV.o], hd HB3.o⟩
        case pos =>
          have a2 : decide ((60 : Int) < (tz : Int)) = false := by simp; omega
          by_cases g3 : nz ≤ 60
          case neg =>
            have a3 : decide ((60 : Int) < (nz : Int)) = true := by simp; omega
            have HV := hd (HBAX.o (fun hh => g3 hh.2.2.2.1))
            clear g0 g1 g2 g3 HBAD HBAX HGOOD
            obtain ⟨k0, k1, k2, k3, k4, k5, k6, k7⟩ := KC.o w1 HB1.o
            go_wp2_with fail
            refine (CL.o _ HB1.o).mono ?_
            rintro e w2 ⟨rfl, b2⟩
            have HB2 := hd (HB1.o.trans (b2.mono HB1.o.size))
            clear b2 k0 k1 k2 k3 k4 k5 k6 k7
            obtain ⟨k0, k1, k2, k3, k4, k5, k6, k7⟩ := KC.o w2 HB2.o
            go_wp2_with fail
            refine (CF1.o _ HB2.o).mono ?_
            rintro e w3 ⟨rfl, b3⟩
            have HB3 := hd (HB2.o.trans (b3.mono HB2.o.size))
            clear b3 k0 k1 k2 k3 k4 k5 k6 k7
            go_wp2_with fail
            go_meet
            exact ⟨by rw [HV.o], hd HB3.o⟩
          case pos =>
            have a3 : decide ((60 : Int) < (nz : Int)) = false := by simp; omega
            by_cases g4 : er = 0
            case neg =>
              have a4 : (er == 0) = false := by simpa using g4
              have b4 : (er != 0) = true := by simpa using g4
              have HV := hd (HBAX.o (fun hh => g4 hh.2.2.2.2.1))
              clear g0 g1 g2 g3 g4 HBAD HBAX HGOOD
              obtain ⟨k0, k1, k2, k3, k4, k5, k6, k7⟩ := KC.o w1 HB1.o
              go_wp2_with fail
              refine (CL.o _ HB1.o).mono ?_
              rintro e w2 ⟨rfl, b2⟩
              have HB2 := hd (HB1.o.trans (b2.mono HB1.o.size))
              clear b2 k0 k1 k2 k3 k4 k5 k6 k7
              obtain ⟨k0, k1, k2, k3, k4, k5, k6, k7⟩ := KC.o w2 HB2.o
              go_wp2_with fail
              refine (CF1.o _ HB2.o).mono ?_
              rintro e w3 ⟨rfl, b3⟩
              have HB3 := hd (HB2.o.trans (b3.mono HB2.o.size))
              clear b3 k0 k1 k2 k3 k4 k5 k6 k7
              obtain ⟨k0, k1, k2, k3, k4, k5, k6, k7⟩ := KC.o w3 HB3.o
              go_wp2_with fail
              refine (CR.o _).mono ?_
              rintro e w4 ⟨rfl, b4⟩
              have HB4 := hd (HB3.o.trans (b4.mono HB3.o.size))
              clear b4 k0 k1 k2 k3 k4 k5 k6 k7
              go_wp2_with fail
              go_meet
              exact ⟨by rw [HV.o], hd HB4.o⟩
            case pos =>
              subst g4
              have g4 : (0 : Int) = 0 := rfl
              by_cases g5 : start ≤ 1099511627776
              case neg =>
                have a5 : decide ((1099511627776 : Int) < start) = true := by simp; omega
                have HV := hd (HBAX.o (fun hh => g5 hh.2.2.2.2.2))
                clear g0 g1 g2 g3 g4 g5 HBAD HBAX HGOOD
                obtain ⟨k0, k1, k2, k3, k4, k5, k6, k7⟩ := KC.o w1 HB1.o
                go_wp2_with fail
                refine (CL.o _ HB1.o).mono ?_
                rintro e w2 ⟨rfl, b2⟩
                have HB2 := hd (HB1.o.trans (b2.mono HB1.o.size))
                clear b2 k0 k1 k2 k3 k4 k5 k6 k7
                obtain ⟨k0, k1, k2, k3, k4, k5, k6, k7⟩ := KC.o w2 HB2.o
                go_wp2_with fail
                refine (CF1.o _ HB2.o).mono ?_
                rintro e w3 ⟨rfl, b3⟩
                have HB3 := hd (HB2.o.trans (b3.mono HB2.o.size))
                clear b3 k0 k1 k2 k3 k4 k5 k6 k7
                obtain ⟨k0, k1, k2, k3, k4, k5, k6, k7⟩ := KC.o w3 HB3.o
                go_wp2_with fail
                refine (CR.o _).mono ?_
                rintro e w4 ⟨rfl, b4⟩
                have HB4 := hd (HB3.o.trans (b4.mono HB3.o.size))
                clear b4 k0 k1 k2 k3 k4 k5 k6 k7
                obtain ⟨k0, k1, k2, k3, k4, k5, k6, k7⟩ := KC.o w4 HB4.o
                go_wp2_with fail
                go_meet
                exact ⟨by rw [HV.o], hd HB4.o⟩
              case pos =>
                have a5 : decide ((1099511627776 : Int) < start) = false := by simp; omega
                have HV := hd (HBAD.o ⟨g0, g1, g2, g3, g4, g5⟩)
                clear g0 g1 g2 g3 g4 g5 HBAD HBAX HGOOD
                obtain ⟨k0, k1, k2, k3, k4, k5, k6, k7⟩ := KC.o w1 HB1.o
                go_wp2_with fail
                refine (CL.o _ HB1.o).mono ?_
                rintro e w2 ⟨rfl, b2⟩
                have HB2 := hd (HB1.o.trans (b2.mono HB1.o.size))
                clear b2 k0 k1 k2 k3 k4 k5 k6 k7
                obtain ⟨k0, k1, k2, k3, k4, k5, k6, k7⟩ := KC.o w2 HB2.o
                go_wp2_with fail
                refine (CF1.o _ HB2.o).mono ?_
                rintro e w3 ⟨rfl, b3⟩
                have HB3 := hd (HB2.o.trans (b3.mono HB2.o.size))
                clear b3 k0 k1 k2 k3 k4 k5 k6 k7
                obtain ⟨k0, k1, k2, k3, k4, k5, k6, k7⟩ := KC.o w3 HB3.o
                go_wp2_with fail
                refine (CR.o _).mono ?_
                rintro e w4 ⟨rfl, b4⟩
                have HB4 := hd (HB3.o.trans (b4.mono HB3.o.size))
                clear b4 k0 k1 k2 k3 k4 k5 k6 k7
                obtain ⟨k0, k1, k2, k3, k4, k5, k6, k7⟩ := KC.o w4 HB4.o
                go_wp2_with fail
                go_meet
                exact ⟨by rw [HV.o], hd HB4.o⟩
  case rest =>
    obtain ⟨rfl, HBC⟩ := hcut
    cases BAD with
    | true =>
      clear HBAD HBAX HGOOD
      go_wp2_with fail
      refine (C0.o _ HBC.o).mono ?_
      rintro e w4 ⟨rfl, b4⟩
      have HB4 := hd (HB00.o.trans ((HBC.o.trans (b4.mono HBC.o.size)).mono HB00.o.size))
      clear b4
      go_wp2
      go_ret
      exact ⟨rfl, HB4.o⟩
    | false =>
      have HG := HGOOD.o rfl
      clear HGOOD HBAD HBAX
      obtain ⟨g1, g6, g3, g4, g2, g5⟩ := HG
      have CMM := hd (CM.o g2 g1)
      have HNM1 := hd (HNM.o g2)
      have HLX1 := hd (HLX.o g1)
      have HT6 := hd g3
      have HN6 := hd g4
      have hfw : fewP ops = true := HLF.o.trans g6
      have hfl := fewP_len hfw
      have hfe := fewP_each hfw
      have HQS := hd (show RqS (batQ nn ops) from ⟨Nat.zero_le _, by show nn.length ≤ _; have := HNZ.o; have := HN6.o; omega, Nat.zero_le _, Nat.zero_le _, by show ops.length ≤ _; omega, fun o ho => by have := hfe o ho; omega⟩)
      have HFE := hd hfe
      have hno20 : no ≤ 20 := by have := HNO2.o; omega
      have HST := hd (show CF.start ≤ 1099511627776 from by rw [HCS.o]; exact g5)
      have hn60 := HLX1.o.1
      clear CM HNM HLX g1 g2 g3 g4 g5 g6 hfw hfl hfe
      obtain ⟨k0, k1, k2, k3, k4, k5, k6, k7⟩ := KC.o _ HBC.o
      have tok1 : Hd True := hd trivial
      go_wp2_with fail
      go_region_held3 (fun W => W.cell? ⟨w.heap.size, 0, none⟩ = some (.int .i64 conns) ∧ W.cell? ⟨w.heap.size, 1, none⟩ = some (.int .i64 start) ∧ W.cell? ⟨w.heap.size, 2, none⟩ = some (.int .i64 room) ∧ W.cell? ⟨w.heap.size, 3, none⟩ = some (.int .i64 shards) ∧ W.cell? ⟨w.heap.size, 4, none⟩ = some (.int .i64 u1) ∧ W.cell? ⟨w.heap.size, 5, none⟩ = some (.int .i64 u2) ∧ W.cell? ⟨w.heap.size, 6, none⟩ = some (.int .i64 u3) ∧ W.cell? ⟨w.heap.size, 7, none⟩ = some (.int .i64 u4)) (with_reducible first | go_keep | exact ⟨k0, k1, k2, k3, k4, k5, k6, k7⟩)
        (first
        | (go_at_call 17
           have _t := tok1
           with_reducible refine (CMM.o _ (by first | exact HBC.o | exact HBC.o.drew)).mono ?_
           rintro e w5 ⟨b, y, rfl, hb5, hu5, hbe5⟩
           have HK5 := hd hb5
           have HB5 := hd hb5.b
           clear k0 k1 k2 k3 k4 k5 k6 k7 hb5 hu5 hbe5 tok1 _t
           obtain ⟨k0, k1, k2, k3, k4, k5, k6, k7⟩ := KC.o _ HB5.o)
        | (go_at_call 17
           with_reducible refine (CMM.o _ (by first | exact HB5.o | exact HB5.o.drew)).mono ?_
           rintro e w6 ⟨b2, y2, rfl, hb6, hu6, hbe6⟩
           have HK6 := hd hb6
           have HK5b := hd (HK5.o.chg (Chg.of_below Non hbe6) (fun _ h => h.elim) (fun _ h => h.elim))
           have HB6 := hd hb6.b
           have HAP := hd (show Apart y y2 from fun k => by
             by_cases hk : y.lam k = .no
             · exact .inl hk
             · refine .inr (Classical.byContradiction fun hk2 => ?_)
               have h1 := HK5.o.r.lt k hk
               have h2 := hu6 k hk2
               exact Nat.lt_irrefl _ (Nat.lt_of_lt_of_le h1 h2))
           clear k0 k1 k2 k3 k4 k5 k6 k7 hb6 hu6 hbe6 HK5
           obtain ⟨k0, k1, k2, k3, k4, k5, k6, k7⟩ := KC.o _ HB6.o))
      all_goals
        clear k0 k1 k2 k3 k4 k5 k6 k7
        have CFST := hd C0.o
        have C0 := bdo_t w0 w6 y b CF n ST tt (batQ nn ops) Ao co T0.o HK5b.o (by omega) (by have := HTZ.o; have := HT6.o; omega) (rqt_rds HK5b.o HQS.o (by show Rds w0 Ao ops.length 5 (opsE ops); rw [← HNO2.o]; exact HRO.o) (by show ops.length ≤ co; rw [← HNO2.o]; exact HCO.o))
        have hgood := fun he => bat_s (tt := tt) (nn := nn) (ops := ops) HNM1.o HST.o (by omega) he
        have hnm := HNM1.o.step tt (batQ nn ops)
        have hk7 : (doB CF.q ST tt (batQ nn ops)).1.kind = 7 := (do_toks CF.q ST tt (batQ nn ops)).kind
        obtain ⟨an, han⟩ : ∃ an, doB CF.q ST tt (batQ nn ops) = an := ⟨_, rfl⟩
        rw [han] at C0 hgood hnm hk7
        clear han
        obtain ⟨⟨rk, re, rt, rv, rc, ri, rm⟩, its, stb⟩ := an
        simp only at hgood hnm hk7
        subst hk7
        obtain ⟨zi, hzi⟩ : ∃ z, its.length = z := ⟨_, rfl⟩
        simp only [reqV, reqE, rsEnc, hzi, batQ, HNO2.o.symm] at C0
        have C1 := hd C0
        have HGOOD := hd hgood
        have HNM2 := hd hnm
        clear C0 hgood hnm hzi
        go_wp2_with fail
        refine C1.o.mono ?_
        rintro e w7 ⟨A2, c2, y7, he, hd7⟩
        subst he
        obtain ⟨hap7, hk2⟩ := HAP.o.step HK5b.o hd7 HK6.o
        obtain ⟨w8, hw8⟩ : ∃ w8, w8 = w7.alloc (.cells #[.int .i64 7, .int .i64 re, .int .i64 rt, .int .i64 rv, .string (bs rc), .int .i64 ri, .bool rm, .slice A2 zi c2] 39) := ⟨_, rfl⟩
        have hb8 : Below w7.heap.size w7 w8 := by rw [hw8]; exact (Below.refl _ _).alloc (Nat.le_refl _) _
        have hk8 : Blk w8 w7.heap.size 39 #[.int .i64 7, .int .i64 re, .int .i64 rt, .int .i64 rv, .string (bs rc), .int .i64 ri, .bool rm, .slice A2 zi c2] := by rw [hw8]; exact Blk.new _ _ _
        have HD := hd (hd7.r.below hb8)
        have HD2 := hd (hk2.below hb8)
        have HPN := hd (no_of hd7.r.r.lt (Nat.le_refl w7.heap.size))
        have HPN2 := hd (no_of hk2.r.lt (Nat.le_refl w7.heap.size))
        have HAP7 := hd hap7
        have HK8 := hd hk8
        have HW8 := hd hw8
        clear hap7 hk2 hd7 hb8 hk8 hw8 C1 HK5b HK6 HAP
        obtain ⟨p, hp⟩ : ∃ p, w7.heap.size = p := ⟨_, rfl⟩
        have HP := hd hp
        rw [hp] at HK8 HPN HPN2
        clear hp
        go_upto_region 9 with (fail)
        rw [← HW8.o, HP.o]
        clear HW8 HP
        obtain ⟨e0, e1, e2, e3, e4, e5, e6, e7⟩ := (show w8.cell? ⟨p, 0, none⟩ = some (.int .i64 7) ∧ w8.cell? ⟨p, 1, none⟩ = some (.int .i64 re) ∧ w8.cell? ⟨p, 2, none⟩ = some (.int .i64 rt) ∧ w8.cell? ⟨p, 3, none⟩ = some (.int .i64 rv) ∧ w8.cell? ⟨p, 4, none⟩ = some (.string (bs rc)) ∧ w8.cell? ⟨p, 5, none⟩ = some (.int .i64 ri) ∧ w8.cell? ⟨p, 6, none⟩ = some (.bool rm) ∧ w8.cell? ⟨p, 7, none⟩ = some (.slice A2 zi c2) from ⟨HK8.o.at_ 0 rfl, HK8.o.at_ 1 rfl, HK8.o.at_ 2 rfl, HK8.o.at_ 3 rfl, HK8.o.at_ 4 rfl, HK8.o.at_ 5 rfl, HK8.o.at_ 6 rfl, HK8.o.at_ 7 rfl⟩)
        obtain ⟨BE, hBE⟩ : ∃ x, decide (¬ (re = 0 ∨ re = 6 ∨ re = 4 ∨ re = 7)) = x := ⟨_, rfl⟩
        have HBE := hd hBE
        clear hBE
        go_cut [88] from 53 to 109 (fun s wx => s = .bool BE ∧ wx = w8)
        case first =>
          by_cases he : re = 0 ∨ re = 6 ∨ re = 4 ∨ re = 7
          · have hv : BE = false := by rw [← HBE.o]; simp [he]
            have HV := hd hv
            clear hv
            rcases he with rfl | rfl | rfl | rfl
            all_goals
              go_wp2
              go_meet
              exact ⟨by rw [HV.o], rfl⟩
          · have hv : BE = true := by rw [← HBE.o]; simp [he]
            have HV := hd hv
            have q1 : (re == 0) = false := by simp; omega
            have q2 : (re == 6) = false := by simp; omega
            have q3 : (re == 4) = false := by simp; omega
            have q4 : (re == 7) = false := by simp; omega
            have p1 : (re != 0) = true := by simp; omega
            have p2 : (re != 6) = true := by simp; omega
            have p3 : (re != 4) = true := by simp; omega
            have p4 : (re != 7) = true := by simp; omega
            clear hv he
            go_wp2
            all_goals
              go_meet
              exact ⟨by rw [HV.o], rfl⟩
        case rest =>
        obtain ⟨rfl, hww⟩ := hcut
        have hww2 := hww.symm
        subst hww2
        clear hww
        cases BE with
        | true =>
          clear e0 e1 e2 e3 e4 e5 e6 e7
          go_wp2_with fail
          refine (CFST.o _ HD.o.b).mono ?_
          rintro e w9 ⟨rfl, hb9⟩
          go_wp2
          go_ret
          exact ⟨rfl, HB00.o.trans ((HD.o.b.trans (hb9.mono HD.o.b.size)).mono HB00.o.size)⟩
        | false =>
        have he : re = 0 ∨ re = 6 ∨ re = 4 ∨ re = 7 := by have := of_decide_eq_false HBE.o; exact Classical.not_not.1 this
        have HS := hd (HGOOD.o he)
        obtain ⟨ix1, ix2, ix3⟩ := HS.o.idx
        have ix1 : 0 ≤ ri := ix1
        have ix2 : ri < (no : Int) := by rw [HNO2.o]; exact ix2
        have HIX := hd (show re = 0 → ri = 0 from ix3)
        have HE := hd he
        clear ix3 HGOOD he
        go_upto_region 11 with (fail)
        go_cut [109] from 53 to 109 (fun s wx => s = .bool false ∧ wx = w8)
        case first =>
          have d1 : decide (ri < 0) = false := by simp; omega
          have d2 : decide ((no : Int) ≤ ri) = false := by simp; omega
          by_cases hz : re = 0
          · have hr0 := HIX.o hz
            subst hz hr0
            go_wp2
            go_meet
            exact ⟨rfl, rfl⟩
          · have q1 : (re == 0) = false := by simpa using hz
            clear hz
            go_wp2
            go_meet
            exact ⟨rfl, rfl⟩
        case rest =>
        obtain ⟨rfl, hww⟩ := hcut
        have hww2 := hww.symm
        subst hww2
        clear hww
        clear e0 e1 e2 e3 e4 e5 e6 e7
        have HINV0 := hd HS.o.start
        go_wp2_with fail
        go_loopw [14] (fun i wr => ∃ (k : Nat) (y : Lay) (st : BkS), i = .int .i64 k ∧ k ≤ no ∧ Hd (BkT w0 wr y b2 CF (n + k) st) ∧ Hd (BkT w0 wr y7 b CF (n + 1) stb) ∧ Hd (Apart y7 y) ∧ Hd (Blk wr p 39 #[.int .i64 7, .int .i64 re, .int .i64 rt, .int .i64 rv, .string (bs rc), .int .i64 ri, .bool rm, .slice A2 zi c2]) ∧ Hd (y.lam p = .no) ∧ Hd (BatInv CF.q CF.start n ST tt nn ops re ri k st)) (fun i _ => no - (RowKit.intOf i).toNat)
        case atStart => exact ⟨0, y2, ST, rfl, Nat.zero_le _, HD2, HD, HAP7, HK8, HPN2, HINV0⟩
        case round =>
          clear HINV0 HD2 HD HAP7 HK8 HPN2
          obtain ⟨k, y, st, rfl, hk, HK, HB, HA, HP8, HPY, HI⟩ := hrel
          obtain ⟨wi, rfl⟩ : ∃ wi : World, wi = wr := ⟨_, rfl⟩
          have hki : (0 : Int) ≤ (k : Int) := by omega
          by_cases hlt : k < no
          · have hlti : (k : Int) < (no : Int) := by omega
            have hkl : k < ops.length := by rw [← HNO2.o]; exact hlt
            obtain ⟨g0, o, rfl, hg0, hc0⟩ := HRO.o.at_ (by omega)
            obtain ⟨bs1, bs2⟩ := bat_step HI.o HST.o (by omega) hkl HE.o HS.o.one
            have hx1 := HFE.o _ (List.getElem_mem hkl)
            obtain ⟨X, hX⟩ : ∃ X, ops[k]'hkl = X := ⟨_, rfl⟩
            have hcell : ∀ (W : World) (j : Nat) (u : Value), Below w0.heap.size w0 W → j < 5 → (opEnc X)[j]? = some u → W.cell? ⟨g0, o + k * 5 + j, none⟩ = some u := fun W j u hb hj hv => by
              rw [Nat.add_assoc]
              exact (hb.cell (p := ⟨g0, o + (k * 5 + j), none⟩) hg0).trans (hc0 _ _ ((opsE_at ops k hkl j hj).trans (by rw [hX]; exact hv)))
            rw [hX] at bs1 bs2 hx1
            obtain ⟨del, uid, card, ck, cv⟩ := X
            have m0 := hcell wi 0 _ HK.o.b (by omega) rfl
            have m1 := hcell wi 1 _ HK.o.b (by omega) rfl
            have m2 := hcell wi 2 _ HK.o.b (by omega) rfl
            have m3 := hcell wi 3 _ HK.o.b (by omega) rfl
            have m4 := hcell wi 4 _ HK.o.b (by omega) rfl
            rw [Nat.add_zero] at m0
            have m4' : wi.cell? ⟨g0, o + k * 5 + 3 + 1, none⟩ = some (.int .i64 cv) := m4
            have hgl : g0 < wi.heap.size := Nat.lt_of_lt_of_le hg0 HK.o.b.size
            clear hc0 hX hcell
            go_wp2_with fail
            go_region
            have BS1 := hd bs1
            have BS2 := hd bs2
            have HX1 := hd hx1
            clear bs1 bs2 hx1
            obtain ⟨wq, hwq⟩ : ∃ wq, wq = (wi.alloc (.cells #[.int .i64 4, .string ⟨#[]⟩, .string (bs nn), .string (bs uid), .string (bs card), .int .i64 ck, .int .i64 cv, .slice none 0 0, .int .i64 0, .int .i64 0, .int .i64 0] 45)).drew := ⟨_, rfl⟩
            have hbq : Below wi.heap.size wi wq := by rw [hwq]; exact ((Below.refl _ _).alloc (Nat.le_refl _) _).drew
            have hkq : Blk wq wi.heap.size 45 #[.int .i64 4, .string ⟨#[]⟩, .string (bs nn), .string (bs uid), .string (bs card), .int .i64 ck, .int .i64 cv, .slice none 0 0, .int .i64 0, .int .i64 0, .int .i64 0] := by rw [hwq]; exact (Blk.new wi _ _).drew
            have HKq := hd (HK.o.below hbq)
            have HBq := hd (HB.o.below hbq)
            have HPq := hd (HP8.o.below hbq HP8.o.lt)
            have m0q : wq.cell? ⟨g0, o + k * 5, none⟩ = some (.bool del) := (hbq.cell (p := ⟨g0, o + k * 5, none⟩) hgl).trans m0
            have HPQ := hd (no_of HK.o.r.lt (Nat.le_refl wi.heap.size))
            have HPQ7 := hd (no_of HB.o.r.lt (Nat.le_refl wi.heap.size))
            have hpp : p < wi.heap.size := HP8.o.lt
            have HLW := hd HK.o.b.size
            have HWQ := hd hwq
            obtain ⟨pq, hpq⟩ : ∃ x, wi.heap.size = x := ⟨_, rfl⟩
            rw [hpq] at hkq hpp
            have HPP := hd hpq
            rw [hpq] at HPQ HPQ7 HLW
            rw [← HWQ.o, HPP.o]
            clear hbq hwq hpq m0 m1 m2 m3 m4 m4' hgl
            cases del with
            | false =>
              obtain ⟨wz, hwz⟩ : ∃ wz, wz = wq := ⟨_, rfl⟩
              subst hwz
              have hkz := hkq
              have HZK := HKq
              have HZB := HBq
              have HZP := HPq
              clear HKq HBq HPq
              obtain ⟨qq0, qq1, qq2, qq3, qq4, qq5, qq6, qq7, qq8, qq9, qq10⟩ := (show wz.cell? ⟨pq, 0, none⟩ = some (.int .i64 4) ∧ wz.cell? ⟨pq, 1, none⟩ = some (.string ⟨#[]⟩) ∧ wz.cell? ⟨pq, 2, none⟩ = some (.string (bs nn)) ∧ wz.cell? ⟨pq, 3, none⟩ = some (.string (bs uid)) ∧ wz.cell? ⟨pq, 4, none⟩ = some (.string (bs card)) ∧ wz.cell? ⟨pq, 5, none⟩ = some (.int .i64 ck) ∧ wz.cell? ⟨pq, 6, none⟩ = some (.int .i64 cv) ∧ wz.cell? ⟨pq, 7, none⟩ = some (.slice none 0 0) ∧ wz.cell? ⟨pq, 8, none⟩ = some (.int .i64 0) ∧ wz.cell? ⟨pq, 9, none⟩ = some (.int .i64 0) ∧ wz.cell? ⟨pq, 10, none⟩ = some (.int .i64 0) from ⟨hkz.at_ 0 rfl, hkz.at_ 1 rfl, hkz.at_ 2 rfl, hkz.at_ 3 rfl, hkz.at_ 4 rfl, hkz.at_ 5 rfl, hkz.at_ 6 rfl, hkz.at_ 7 rfl, hkz.at_ 8 rfl, hkz.at_ 9 rfl, hkz.at_ 10 rfl⟩)
              have C2 := bdo_t w0 wz y b2 CF (n + k) st tt (oneQ nn ⟨false, uid, card, ck, cv⟩) none 0 T0.o HZK.o (by omega) (by have := HTZ.o; have := HT6.o; omega) (rqt_none (oneQ_s (by have := HNZ.o; have := HN6.o; omega) HX1.o.1 HX1.o.2) rfl)
              have HS1 := BS1.o
              have HS2 := BS2.o
              obtain ⟨an2, han2⟩ : ∃ an, doB CF.q st tt (oneQ nn ⟨false, uid, card, ck, cv⟩) = an := ⟨_, rfl⟩
              rw [han2] at C2 HS1 HS2
              clear han2
              obtain ⟨⟨rk2, re2, rt2, rv2, rc2, ri2, rm2⟩, its2, st9⟩ := an2
              simp only at HS1 HS2
              generalize hz2 : its2.length = zi2 at C2
              simp only [reqV, reqE, rsEnc, oneQ, Bool.false_eq_true, if_false, hz2] at C2
              have C3 := hd C2
              have HS3 := hd HS1
              have HS4 := hd HS2
              clear C2 HS1 HS2 hz2
              go_wp2_with fail
              refine C3.o.mono ?_
              rintro e w9 ⟨A3, c3, y9, he9, hd9⟩
              subst he9
              have kf : (Instr.field 39 (.agg #[.int .i64 rk2, .int .i64 re2, .int .i64 rt2, .int .i64 rv2, .string (bs rc2), .int .i64 ri2, .bool rm2, .slice A3 zi2 c3]) 1).run Tryz.prog w9 = .ok (.int .i64 re2) w9 := by kernel_rfl
              obtain ⟨hap9, hkb9⟩ := (HA.o.symm).step HZK.o hd9 HZB.o
              have hp9 := HZP.o.chg hd9.chg (fun hh => hh HPY.o)
              have HPY9 := hd (sub_no hd9.sub HPY.o HZP.o.lt)
              have HK9 := hd hd9.r
              have HB9 := hd hkb9
              have HA9 := hd hap9.symm
              have e1 : w9.cell? ⟨p, 1, none⟩ = some (.int .i64 re) := hp9.at_ 1 rfl
              have e5 : w9.cell? ⟨p, 5, none⟩ = some (.int .i64 ri) := hp9.at_ 5 rfl
              have HP9 := hd hp9
              clear hd9 hap9 hkb9 hp9 C3 qq0 qq1 qq2 qq3 qq4 qq5 qq6 qq7 qq8 qq9 qq10 HZK HZB HZP HK HB HA HP8 HPY HI
              by_cases hkk : re ≠ 0 ∧ ri = k
              · have hre := HS3.o hkk
                obtain ⟨h1, h2⟩ := hkk
                subst h2
                have hre : re2 = re := hre
                subst hre
                have q1 : (re2 == 0) = false := by simpa using h1
                have q2 : (re2 != 0) = true := by simpa using h1
                have q3 : (re2 == re2) = true := by simp
                have q4 : ((k : Int) == (k : Int)) = true := by simp
                clear h1 ix1 ix2
                go_wp2
                go_ret
                exact ⟨rfl, HB00.o.trans (HK9.o.b.mono HB00.o.size)⟩
              · obtain ⟨hre, hinv⟩ := HS4.o hkk
                have hre : re2 = 0 := hre
                subst hre
                have HI9 := hd hinv
                clear hinv
                by_cases hr0 : re = 0
                · have q1 : (re == 0) = true := by simpa using hr0
                  have q2 : (re != 0) = false := by simpa using hr0
                  clear hr0 hkk
                  go_wp2_with fail
                  go_roundw
                  case rel => exact ⟨k + 1, y9, st9, by go_num, by omega, hd (by rw [show n + (k + 1) = n + k + 1 by omega]; exact HK9.o), HB9, HA9, HP9, HPY9, HI9⟩
                  case measure => simp [RowKit.intOf]; omega
                · have q1 : (re == 0) = false := by simpa using hr0
                  have q2 : (re != 0) = true := by simpa using hr0
                  have q3 : ((k : Int) == ri) = false := by
                    have : ri ≠ k := fun h => hkk ⟨hr0, h⟩
                    simp
                    omega
                  clear hr0 hkk
                  go_wp2_with fail
                  go_roundw
                  case rel => exact ⟨k + 1, y9, st9, by go_num, by omega, hd (by rw [show n + (k + 1) = n + k + 1 by omega]; exact HK9.o), HB9, HA9, HP9, HPY9, HI9⟩
                  case measure => simp [RowKit.intOf]; omega
            | true =>
              have f0 := hkq.frozen 0
              have z0 := hkq.at_ 0 rfl
              go_upto_region 19 with (fail)
              obtain ⟨wz, hwz⟩ : ∃ wz, wz = wq.setCell ⟨pq, 0, none⟩ (.int .i64 5) := ⟨_, rfl⟩
              have hcz : Chg (One pq) wq wz := by rw [hwz]; exact (Chg.refl (One pq) _).setCell (p := ⟨pq, 0, none⟩) (.inl rfl) _
              have hkz : Blk wz pq 45 #[.int .i64 5, .string ⟨#[]⟩, .string (bs nn), .string (bs uid), .string (bs card), .int .i64 ck, .int .i64 cv, .slice none 0 0, .int .i64 0, .int .i64 0, .int .i64 0] := by rw [hwz]; exact hkq.set_ 0 _
              have HZK := hd (HKq.o.chg hcz (fun k hk => by rw [show k = pq from hk]; exact HPQ.o) (fun k hk => by rw [show k = pq from hk]; exact HLW.o))
              have HZB := hd (HBq.o.chg hcz (fun k hk => by rw [show k = pq from hk]; exact HPQ7.o) (fun k hk => by rw [show k = pq from hk]; exact HLW.o))
              have HZP := hd (HPq.o.chg hcz (fun hk => by have : p = pq := hk; omega))
              have HWZ := hd hwz
              rw [← HWZ.o]
              clear hcz hwz hkq f0 z0 HKq HBq HPq m0q HWZ
              obtain ⟨qq0, qq1, qq2, qq3, qq4, qq5, qq6, qq7, qq8, qq9, qq10⟩ := (show wz.cell? ⟨pq, 0, none⟩ = some (.int .i64 5) ∧ wz.cell? ⟨pq, 1, none⟩ = some (.string ⟨#[]⟩) ∧ wz.cell? ⟨pq, 2, none⟩ = some (.string (bs nn)) ∧ wz.cell? ⟨pq, 3, none⟩ = some (.string (bs uid)) ∧ wz.cell? ⟨pq, 4, none⟩ = some (.string (bs card)) ∧ wz.cell? ⟨pq, 5, none⟩ = some (.int .i64 ck) ∧ wz.cell? ⟨pq, 6, none⟩ = some (.int .i64 cv) ∧ wz.cell? ⟨pq, 7, none⟩ = some (.slice none 0 0) ∧ wz.cell? ⟨pq, 8, none⟩ = some (.int .i64 0) ∧ wz.cell? ⟨pq, 9, none⟩ = some (.int .i64 0) ∧ wz.cell? ⟨pq, 10, none⟩ = some (.int .i64 0) from ⟨hkz.at_ 0 rfl, hkz.at_ 1 rfl, hkz.at_ 2 rfl, hkz.at_ 3 rfl, hkz.at_ 4 rfl, hkz.at_ 5 rfl, hkz.at_ 6 rfl, hkz.at_ 7 rfl, hkz.at_ 8 rfl, hkz.at_ 9 rfl, hkz.at_ 10 rfl⟩)
              have C2 := bdo_t w0 wz y b2 CF (n + k) st tt (oneQ nn ⟨true, uid, card, ck, cv⟩) none 0 T0.o HZK.o (by omega) (by have := HTZ.o; have := HT6.o; omega) (rqt_none (oneQ_s (by have := HNZ.o; have := HN6.o; omega) HX1.o.1 HX1.o.2) rfl)
              have HS1 := BS1.o
              have HS2 := BS2.o
              obtain ⟨an2, han2⟩ : ∃ an, doB CF.q st tt (oneQ nn ⟨true, uid, card, ck, cv⟩) = an := ⟨_, rfl⟩
              rw [han2] at C2 HS1 HS2
              clear han2
              obtain ⟨⟨rk2, re2, rt2, rv2, rc2, ri2, rm2⟩, its2, st9⟩ := an2
              simp only at HS1 HS2
              generalize hz2 : its2.length = zi2 at C2
              simp only [reqV, reqE, rsEnc, oneQ, if_true, hz2] at C2
              have C3 := hd C2
              have HS3 := hd HS1
              have HS4 := hd HS2
              clear C2 HS1 HS2 hz2
              go_wp2_with fail
              refine C3.o.mono ?_
              rintro e w9 ⟨A3, c3, y9, he9, hd9⟩
              subst he9
              have kf : (Instr.field 39 (.agg #[.int .i64 rk2, .int .i64 re2, .int .i64 rt2, .int .i64 rv2, .string (bs rc2), .int .i64 ri2, .bool rm2, .slice A3 zi2 c3]) 1).run Tryz.prog w9 = .ok (.int .i64 re2) w9 := by kernel_rfl
              obtain ⟨hap9, hkb9⟩ := (HA.o.symm).step HZK.o hd9 HZB.o
              have hp9 := HZP.o.chg hd9.chg (fun hh => hh HPY.o)
              have HPY9 := hd (sub_no hd9.sub HPY.o HZP.o.lt)
              have HK9 := hd hd9.r
              have HB9 := hd hkb9
              have HA9 := hd hap9.symm
              have e1 : w9.cell? ⟨p, 1, none⟩ = some (.int .i64 re) := hp9.at_ 1 rfl
              have e5 : w9.cell? ⟨p, 5, none⟩ = some (.int .i64 ri) := hp9.at_ 5 rfl
              have HP9 := hd hp9
              clear hd9 hap9 hkb9 hp9 C3 qq0 qq1 qq2 qq3 qq4 qq5 qq6 qq7 qq8 qq9 qq10 HZK HZB HZP HK HB HA HP8 HPY HI
              by_cases hkk : re ≠ 0 ∧ ri = k
              · have hre := HS3.o hkk
                obtain ⟨h1, h2⟩ := hkk
                subst h2
                have hre : re2 = re := hre
                subst hre
                have q1 : (re2 == 0) = false := by simpa using h1
                have q2 : (re2 != 0) = true := by simpa using h1
                have q3 : (re2 == re2) = true := by simp
                have q4 : ((k : Int) == (k : Int)) = true := by simp
                clear h1 ix1 ix2
                go_wp2
                go_ret
                exact ⟨rfl, HB00.o.trans (HK9.o.b.mono HB00.o.size)⟩
              · obtain ⟨hre, hinv⟩ := HS4.o hkk
                have hre : re2 = 0 := hre
                subst hre
                have HI9 := hd hinv
                clear hinv
                by_cases hr0 : re = 0
                · have q1 : (re == 0) = true := by simpa using hr0
                  have q2 : (re != 0) = false := by simpa using hr0
                  clear hr0 hkk
                  go_wp2_with fail
                  go_roundw
                  case rel => exact ⟨k + 1, y9, st9, by go_num, by omega, hd (by rw [show n + (k + 1) = n + k + 1 by omega]; exact HK9.o), HB9, HA9, HP9, HPY9, HI9⟩
                  case measure => simp [RowKit.intOf]; omega
                · have q1 : (re == 0) = false := by simpa using hr0
                  have q2 : (re != 0) = true := by simpa using hr0
                  have q3 : ((k : Int) == ri) = false := by
                    have : ri ≠ k := fun h => hkk ⟨hr0, h⟩
                    simp
                    omega
                  clear hr0 hkk
                  go_wp2_with fail
                  go_roundw
                  case rel => exact ⟨k + 1, y9, st9, by go_num, by omega, hd (by rw [show n + (k + 1) = n + k + 1 by omega]; exact HK9.o), HB9, HA9, HP9, HPY9, HI9⟩
                  case measure => simp [RowKit.intOf]; omega
          · have hno1 : 1 ≤ no := by omega
            obtain rfl : no = k := by omega
            have hki2 : ¬ (no : Int) < (no : Int) := by omega
            have hI := HI.o
            rw [HNO2.o] at hI
            have hz0 : re = 0 := bat_over hI (by have := HNO2.o; omega)
            subst hz0
            obtain ⟨s0, sb, gr, hdone⟩ := HS.o.done rfl
            have hdone : BatDone CF.q ST tt nn ops rt stb s0 sb gr := hdone
            obtain ⟨hend1, hend2⟩ := bat_end hI hdone
            have HDN := hd hdone
            have hglb : BkL stb := HNM2.o.ok.lens (by have := HB.o.len; omega)
            have hglo : BkL st := hI.ok.ok.lens (by have := HK.o.len; omega)
            have hmlx : ∀ (S : BkS) (T0 : Int), BkOk CF.q T0 S → ∀ s', colB S tt nn = some s' → s'.ml.length ≤ 1000000 := fun S T0 hS s' h => by
              have hx := (hS.ten tt).get h
              have h1 := hx.ok.mllen
              rw [hx.most] at h1
              have h2 := hS.q.d2
              omega
            have CV := fun W (h : Below wi.heap.size wi W) => live_calls W y7 b CF stb (HB.o.below h).r hglb tt nn (hmlx stb _ HNM2.o.ok)
            have CO := fun W (h : Below wi.heap.size wi W) => live_calls W y b2 CF st (HK.o.below h).r hglo tt nn (hmlx st _ hI.ok.ok)
            have CBb := fun W (h : Below wi.heap.size wi W) => bbytes_calls W y7 b CF stb (HB.o.below h).r hglb tt
            have CBo := fun W (h : Below wi.heap.size wi W) => bbytes_calls W y b2 CF st (HK.o.below h).r hglo tt
            rw [hend1] at CBo
            obtain ⟨L1, hL1⟩ : ∃ L, lisB stb tt nn = L := ⟨_, rfl⟩
            obtain ⟨L2, hL2⟩ : ∃ L, lisB st tt nn = L := ⟨_, rfl⟩
            rw [hL1, hL2] at hend2
            rw [hL1] at CV
            rw [hL2] at CO
            have hlen : L2.length = L1.length := by have := congrArg List.length hend2; simpa using this.symm
            rw [hlen] at CO
            have hzb : L1.length ≤ 1000000 := by
              rw [← hL1]
              unfold lisB
              cases hg : colB stb tt nn with
              | none => simp
              | some s' => simp only [liveL_len]; exact hmlx stb _ HNM2.o.ok s' hg
            obtain ⟨zl, hzl⟩ : ∃ z, L1.length = z := ⟨_, rfl⟩
            rw [hzl] at hzb
            rw [hzl] at CV CO hlen
            have HEQ := hd (fun (j : Nat) (h1 : j < L1.length) (h2 : j < L2.length) => (show (L1[j]'h1).uid = (L2[j]'h2).uid ∧ (L1[j]'h1).card = (L2[j]'h2).card from by
              have e1 : (L1.map (fun x => (x.uid, x.card)))[j]'(by rw [List.length_map]; exact h1) = (L2.map (fun x => (x.uid, x.card)))[j]'(by rw [List.length_map]; exact h2) := by simp only [hend2]
              rw [List.getElem_map, List.getElem_map] at e1
              injection e1 with e1 e2
              exact ⟨e1, e2⟩))
            have HZ1 := hd hzl
            have HZ2 := hd hlen
            generalize bytesT (tenB stb.ts tt) = bb at *
            have CV1 := hd CV
            have CO1 := hd CO
            have CB1 := hd CBb
            have CB2 := hd CBo
            have HIK := hd hI.ok
            clear hI hdone hend1 hend2 hglb hglo hmlx CV CO CBb CBo hL1 hL2 hlen hzl hlt
            go_wp2_with fail
            refine (CV1.o _ (Below.refl _ _)).mono ?_
            rintro e w10 ⟨A3, c3, rfl, hr10, hb10⟩
            have HB10 := hd hb10
            have HR10 := hd hr10
            clear hr10 hb10
            go_wp2_with fail
            refine (CO1.o _ HB10.o).mono ?_
            rintro e w11 ⟨A4, c4, rfl, hr11, hb11⟩
            have HB11 := hd (HB10.o.trans (hb11.mono HB10.o.size))
            have HR11 := hd hr11
            have HR11b := hd (HR10.o.below hb11)
            clear hr11 hb11 HR10
            have q0 : (zl == zl) = true := by simp
            have q1 : (bb == bb) = true := by simp
            go_wp2_with fail
            refine (CB1.o _ HB11.o).mono ?_
            rintro e w12 ⟨rfl, hb12⟩
            have HB12 := hd (HB11.o.trans (hb12.mono HB11.o.size))
            have HX1 := hd ((HR11b.o.below hb12).rds)
            have HX2 := hd ((HR11.o.below hb12).rds)
            clear hb12
            go_wp2_with fail
            refine (CB2.o _ HB12.o).mono ?_
            rintro e w13 ⟨rfl, hb13⟩
            have HB13 := hd (HB12.o.trans (hb13.mono HB12.o.size))
            have HY1 := hd (HX1.o.below hb13)
            have HY2 := hd (HX2.o.below hb13)
            clear hb13 HX1 HX2 CV1 CO1 CB1 CB2
            go_wp2_with fail
            clear q0 q1
            go_loopw [19] (fun i wr => ∃ j : Nat, i = .int .i64 j ∧ j ≤ zl ∧ Hd (Below w13.heap.size w13 wr)) (fun i _ => zl - (RowKit.intOf i).toNat)
            case atStart => exact ⟨0, rfl, Nat.zero_le _, hd (Below.refl _ _)⟩
            case round =>
              obtain ⟨j, rfl, hj, HBR⟩ := hrel
              obtain ⟨wj, rfl⟩ : ∃ wj : World, wj = wr := ⟨_, rfl⟩
              have hji : (0 : Int) ≤ (j : Int) := by omega
              by_cases hlj : j < zl
              · have hlji : (j : Int) < (zl : Int) := by omega
                have hj1 : j < L1.length := by rw [HZ1.o]; exact hlj
                have hj2 : j < L2.length := by rw [HZ2.o]; exact hlj
                obtain ⟨eu, ec⟩ := HEQ.o j hj1 hj2
                obtain ⟨ga, oa, rfl, hga, hca⟩ := (HY1.o.below HBR.o).at_ (by omega)
                obtain ⟨gb, ob, rfl, hgb, hcb⟩ := (HY2.o.below HBR.o).at_ (by omega)
                have a0 : wj.cell? ⟨ga, oa + (j * 4 + 0), none⟩ = some (.string (bs (L1[j]'hj1).uid)) := hca _ _ ((flat_at itEnc 4 itEnc_len L1 j hj1 0 (by omega)).trans rfl)
                have a3 : wj.cell? ⟨ga, oa + (j * 4 + 3), none⟩ = some (.string (bs (L1[j]'hj1).card)) := hca _ _ ((flat_at itEnc 4 itEnc_len L1 j hj1 3 (by omega)).trans rfl)
                have b0 : wj.cell? ⟨gb, ob + (j * 4 + 0), none⟩ = some (.string (bs (L2[j]'hj2).uid)) := hcb _ _ ((flat_at itEnc 4 itEnc_len L2 j hj2 0 (by omega)).trans rfl)
                have b3 : wj.cell? ⟨gb, ob + (j * 4 + 3), none⟩ = some (.string (bs (L2[j]'hj2).card)) := hcb _ _ ((flat_at itEnc 4 itEnc_len L2 j hj2 3 (by omega)).trans rfl)
                rw [← eu] at b0
                rw [← ec] at b3
                rw [← Nat.add_assoc] at a0 a3 b0 b3
                rw [Nat.add_zero] at a0 b0
                generalize (L1[j]'hj1).uid = uu at a0 b0
                generalize (L1[j]'hj1).card = dd at a3 b3
                have q5 : ((bs uu).toList == (bs uu).toList) = true := by simp
                have q6 : ((bs dd).toList == (bs dd).toList) = true := by simp
                clear eu ec hca hcb hj1 hj2
                go_wp2_with fail
                go_quiet (fail)
                go_wp2_with fail
                clear a0 a3 b0 b3 q5 q6
                go_roundw
                case rel => exact ⟨j + 1, by go_num, by omega, hd (bdrewN HBR.o _)⟩
                case measure => simp [RowKit.intOf]; omega
              · obtain rfl : zl = j := by omega
                have hji2 : ¬ (zl : Int) < (zl : Int) := by omega
                have HBj := hd (HB13.o.trans (HBR.o.mono HB13.o.size))
                have HW := hd (HB.o.below HBj.o)
                have HPW := hd (HP8.o.below HBj.o HP8.o.lt)
                clear HBR HY1 HY2 HB HP8 HK HA HPY HI
                go_wp2_with fail
                go_loopw [20] (fun i wr => ∃ (i' : Nat) (y : Lay) (st' : BkS), i = .int .i64 i' ∧ i' ≤ no ∧ Hd (BkT w0 wr y b CF (n + 1 + i') st') ∧ Hd (Same stb st') ∧ Hd (BkNm CF.q CF.start (n + 1 + i') st') ∧ Hd (Blk wr p 39 #[.int .i64 7, .int .i64 0, .int .i64 rt, .int .i64 rv, .string (bs rc), .int .i64 ri, .bool rm, .slice A2 zi c2]) ∧ Hd (y.lam p = .no)) (fun i _ => no - (RowKit.intOf i).toNat)
                case atStart => exact ⟨0, y7, stb, rfl, Nat.zero_le _, HW, hd (Same.refl _), HNM2, HPW, HPN⟩
                case round =>
                  clear HW HPW
                  obtain ⟨i', yy, sx, rfl, hi', HW, HSX, HNX, HPW, HPY⟩ := hrel
                  obtain ⟨wk, rfl⟩ : ∃ wk : World, wk = wr := ⟨_, rfl⟩
                  have hii : (0 : Int) ≤ (i' : Int) := by omega
                  by_cases hlt : i' < no
                  · have hlti : (i' : Int) < (no : Int) := by omega
                    have hkl : i' < ops.length := by rw [← HNO2.o]; exact hlt
                    obtain ⟨g0, o, rfl, hg0, hc0⟩ := HRO.o.at_ (by omega)
                    have hx1 := HFE.o _ (List.getElem_mem hkl)
                    obtain ⟨gt1, gt2⟩ := bat_get (Q := CF.q) HS.o HDN.o HSX.o i' hkl
                    obtain ⟨X, hX⟩ : ∃ X, ops[i']'hkl = X := ⟨_, rfl⟩
                    have hcell : ∀ (W : World) (j : Nat) (u : Value), Below w0.heap.size w0 W → j < 5 → (opEnc X)[j]? = some u → W.cell? ⟨g0, o + i' * 5 + j, none⟩ = some u := fun W j u hb hj hv => by
                      rw [Nat.add_assoc]
                      exact (hb.cell (p := ⟨g0, o + (i' * 5 + j), none⟩) hg0).trans (hc0 _ _ ((opsE_at ops i' hkl j hj).trans (by rw [hX]; exact hv)))
                    rw [hX] at gt1 gt2 hx1
                    obtain ⟨del, uid, card, ck, cv⟩ := X
                    have HCL := hd hcell
                    have m1 := hcell wk 1 _ HW.o.b (by omega) rfl
                    have C2 := bdo_t w0 wk yy b CF (n + 1 + i') sx tt (qGe nn uid) none 0 T0.o HW.o (by omega) (by have := HTZ.o; have := HT6.o; omega) (rqt_none (qGe_s (by have := HNZ.o; have := HN6.o; omega) hx1.1) rfl)
                    have hgs := ge_same CF.q HNX.o.ok.rise tt nn uid
                    have hns := HNX.o.step tt (qGe nn uid)
                    simp only at gt1 gt2
                    obtain ⟨an2, han2⟩ : ∃ an, doB CF.q sx tt (qGe nn uid) = an := ⟨_, rfl⟩
                    rw [han2] at C2 hgs hns gt1 gt2
                    obtain ⟨r2, its2, st9⟩ := an2
                    simp only at gt1 gt2 hgs hns
                    subst gt1 gt2
                    have HGS := hd hgs
                    have HNS := hd hns
                    clear hc0 hX hcell hgs hns han2 hx1
                    cases del with
                    | true =>
                      simp only [reqV, reqE, rsEnc, qGe, rsE, if_true, List.length_nil] at C2
                      have C3 := hd C2
                      clear C2
                      go_wp2_with fail
                      refine C3.o.mono ?_
                      rintro e w20 ⟨A5, c5, y9, he9, hd9⟩
                      subst he9
                      obtain ⟨w21, hw21⟩ : ∃ w21, w21 = w20.alloc (.cells #[.int .i64 6, .int .i64 4, .int .i64 0, .int .i64 0, .string (bs []), .int .i64 0, .bool false, .slice A5 0 c5] 39) := ⟨_, rfl⟩
                      have hb21 : Below w20.heap.size w20 w21 := by rw [hw21]; exact (Below.refl _ _).alloc (Nat.le_refl _) _
                      have hk21 : Blk w21 w20.heap.size 39 #[.int .i64 6, .int .i64 4, .int .i64 0, .int .i64 0, .string (bs []), .int .i64 0, .bool false, .slice A5 0 c5] := by rw [hw21]; exact Blk.new _ _ _
                      have hp21 := (HPW.o.chg hd9.chg (fun hh => hh HPY.o)).below hb21 (HPW.o.chg hd9.chg (fun hh => hh HPY.o)).lt
                      have HPY2 := hd (sub_no hd9.sub HPY.o HPW.o.lt)
                      have HK21 := hd (hd9.r.below hb21)
                      have HW21 := hd hw21
                      have n0 := HCL.o w21 0 _ HK21.o.b (by omega) rfl
                      have n2 := HCL.o w21 2 _ HK21.o.b (by omega) rfl
                      rw [Nat.add_zero] at n0
                      have x1 := hk21.at_ 1 rfl
                      have x3 := hk21.at_ 3 rfl
                      have x4 := hk21.at_ 4 rfl
                      have x2 : w21.cell? ⟨p, 2, none⟩ = some (.int .i64 rt) := hp21.at_ 2 rfl
                      have HP21 := hd hp21
                      have q5 : ((bs card).toList == (bs card).toList) = true := by simp
                      have q6 : (rt == rt) = true := by simp
                      clear hd9 hb21 hk21 hw21 hp21 C3 m1
                      obtain ⟨p3, hp3⟩ : ∃ x, w20.heap.size = x := ⟨_, rfl⟩
                      have HP3 := hd hp3
                      rw [hp3] at x1 x3 x4
                      clear hp3
                      go_upto_region 36 with (fail)
                      rw [← HW21.o, HP3.o]
                      clear HW21 HP3
                      go_wp2_with fail
                      go_quiet (fail)
                      go_wp2_with fail
                      clear n0 n2 x1 x2 x3 x4 q5 q6
                      go_roundw
                      case rel => exact ⟨i' + 1, y9, st9, by go_num, by omega, hd (by rw [show n + 1 + (i' + 1) = n + 1 + i' + 1 by omega]; exact HK21.o.drewN _), hd (HSX.o.trans HGS.o), hd (by rw [show n + 1 + (i' + 1) = n + 1 + i' + 1 by omega]; exact HNS.o), hd (HP21.o.drewN _), HPY2⟩
                      case measure => simp [RowKit.intOf]; omega
                    | false =>
                      simp only [reqV, reqE, rsEnc, qGe, Bool.false_eq_true, if_false, List.length_nil] at C2
                      have C3 := hd C2
                      clear C2
                      go_wp2_with fail
                      refine C3.o.mono ?_
                      rintro e w20 ⟨A5, c5, y9, he9, hd9⟩
                      subst he9
                      obtain ⟨w21, hw21⟩ : ∃ w21, w21 = w20.alloc (.cells #[.int .i64 6, .int .i64 0, .int .i64 0, .int .i64 rt, .string (bs card), .int .i64 0, .bool false, .slice A5 0 c5] 39) := ⟨_, rfl⟩
                      have hb21 : Below w20.heap.size w20 w21 := by rw [hw21]; exact (Below.refl _ _).alloc (Nat.le_refl _) _
                      have hk21 : Blk w21 w20.heap.size 39 #[.int .i64 6, .int .i64 0, .int .i64 0, .int .i64 rt, .string (bs card), .int .i64 0, .bool false, .slice A5 0 c5] := by rw [hw21]; exact Blk.new _ _ _
                      have hp21 := (HPW.o.chg hd9.chg (fun hh => hh HPY.o)).below hb21 (HPW.o.chg hd9.chg (fun hh => hh HPY.o)).lt
                      have HPY2 := hd (sub_no hd9.sub HPY.o HPW.o.lt)
                      have HK21 := hd (hd9.r.below hb21)
                      have HW21 := hd hw21
                      have n0 := HCL.o w21 0 _ HK21.o.b (by omega) rfl
                      have n2 := HCL.o w21 2 _ HK21.o.b (by omega) rfl
                      rw [Nat.add_zero] at n0
                      have x1 := hk21.at_ 1 rfl
                      have x3 := hk21.at_ 3 rfl
                      have x4 := hk21.at_ 4 rfl
                      have x2 : w21.cell? ⟨p, 2, none⟩ = some (.int .i64 rt) := hp21.at_ 2 rfl
                      have HP21 := hd hp21
                      have q5 : ((bs card).toList == (bs card).toList) = true := by simp
                      have q6 : (rt == rt) = true := by simp
                      clear hd9 hb21 hk21 hw21 hp21 C3 m1
                      obtain ⟨p3, hp3⟩ : ∃ x, w20.heap.size = x := ⟨_, rfl⟩
                      have HP3 := hd hp3
                      rw [hp3] at x1 x3 x4
                      clear hp3
                      go_upto_region 36 with (fail)
                      rw [← HW21.o, HP3.o]
                      clear HW21 HP3
                      go_wp2_with fail
                      go_quiet (fail)
                      go_wp2_with fail
                      clear n0 n2 x1 x2 x3 x4 q5 q6
                      go_roundw
                      case rel => exact ⟨i' + 1, y9, st9, by go_num, by omega, hd (by rw [show n + 1 + (i' + 1) = n + 1 + i' + 1 by omega]; exact HK21.o.drewN _), hd (HSX.o.trans HGS.o), hd (by rw [show n + 1 + (i' + 1) = n + 1 + i' + 1 by omega]; exact HNS.o), hd (HP21.o.drewN _), HPY2⟩
                      case measure => simp [RowKit.intOf]; omega
                  · obtain rfl : no = i' := by omega
                    have hii2 : ¬ (no : Int) < (no : Int) := by omega
                    have HBB := hd (HB00.o.trans (HW.o.b.mono HB00.o.size))
                    clear HW HSX HNX HPW HPY
                    go_wp2
                    go_ret
                    exact ⟨rfl, HBB.o⟩
end Go.Proofs.YtfacfdjapjhpeaaGreatDoor
