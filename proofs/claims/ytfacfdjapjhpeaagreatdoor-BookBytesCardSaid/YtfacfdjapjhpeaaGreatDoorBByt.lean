/-
  BookBytes: the walk.
-/
import Derived.Test.YtfacfdjapjhpeaaGreatDoorGAX
set_option linter.unusedVariables false
set_option linter.unusedSimpArgs false
namespace Go.Proofs.YtfacfdjapjhpeaaGreatDoor
open Go.RowKit Go.Lib

set_option maxRecDepth 100000 in
set_option maxHeartbeats 8000000 in
theorem bbytes_law (c : Cf) (A : Option Addr) (n cp : Nat) (l : List BAc) (w : World) (ht : Tbs w) (hs : c.start ≤ maxTok) (hr : Rds w A n 12 (bacE l)) (hn : n = l.length) (hm : n ≤ maxLen) (hok : ∀ x ∈ l, BAcOk w x) :
    Calls Tryz.prog 9 #[.agg (cfE c).toArray, .slice A n cp] w fun e w' => e = .returned (.bool true) ∧ Below w.heap.size w w' := by
  have hb0 : Below w.heap.size w (w.alloc (.cells (cfE c).toArray 25)) := (Below.refl w.heap.size w).alloc (Nat.le_refl _) _
  have hk0 : Blk (w.alloc (.cells (cfE c).toArray 25)) w.heap.size 25 (cfE c).toArray := Blk.new w 25 _
  obtain ⟨w0, hw0⟩ : ∃ w0, w0 = w.alloc (.cells (cfE c).toArray 25) := ⟨_, rfl⟩
  rw [← hw0] at hb0 hk0
  have HB00 := hd hb0
  have HW0 := hd hw0
  have T0 := hd (ht.below hb0)
  have HR0 := hd (hr.below (hb0.mono (Nat.le_refl _)))
  have HN := hd hn
  have HOK0 := hd (fun x hx => (hok x hx).below hb0)
  have KC := hd (fun W (h : Below w0.heap.size w0 W) => blk8 (hk0.below h hk0.lt))
  have C0 := hd (fun W (h : Below w0.heap.size w0 W) => bfirst_calls W (T0.o.below h))
  have CL := hd (fun W (h : Below w0.heap.size w0 W) => blight_calls W l A n cp (HR0.o.below h) hn hm (fun x hx => (HOK0.o x hx).below h))
  have CR := hd (fun W => rconf_calls c W)
  have HS := hd hs
  obtain ⟨LB, hLB⟩ : ∃ LB, lightBs l = LB := ⟨_, rfl⟩
  rw [hLB] at CL
  have HLB := hd hLB
  obtain ⟨er, her⟩ : ∃ er, c.err = er := ⟨_, rfl⟩
  rw [her] at CR
  have HER := hd her
  unfold maxLen at hm
  clear hw0 hs hr hn ht hok hLB her hb0 hk0
  obtain ⟨BAD, hBAD⟩ : ∃ b, (!decide (LB = true ∧ er = 0)) = b := ⟨_, rfl⟩
  have HBAD : Hd ((LB = true ∧ er = 0) → BAD = false) := hd (fun h => by rw [← hBAD, decide_eq_true h]; rfl)
  have HBAX : Hd (¬ (LB = true ∧ er = 0) → BAD = true) := hd (fun h => by rw [← hBAD, decide_eq_false h]; rfl)
  have HGOOD : Hd (BAD = false → (LB = true ∧ er = 0)) := hd (fun h => by rw [← hBAD] at h; simpa using h)
  clear hBAD
  have HLX : Hd (LB = true → n ≤ 60 ∧ ∀ x ∈ l, lightQ x.q = true ∧ x.t.length ≤ 60) := hd (fun h => by rw [← HLB.o] at h; rw [HN.o]; exact lightBs_le h)
  obtain ⟨CF, hCF⟩ : ∃ CF, CF = c := ⟨_, rfl⟩
  obtain ⟨ST, hST⟩ : ∃ ST, runB c.q ⟨c.start, []⟩ l = ST := ⟨_, rfl⟩
  have CM : Hd (er = 0 → LB = true → ∀ W, Below w0.heap.size w0 W → Calls Tryz.prog 17 #[.agg (cfE c).toArray, .slice A n cp] W fun e w' => ∃ b y, e = .returned (.pointer (some ⟨b, 0, none⟩)) ∧ BkT w0 w' y b CF n ST ∧ (∀ k, y.lam k ≠ .no → W.heap.size ≤ k) ∧ Below W.heap.size W w') := hd (fun h0 hl W h => (made_calls W c l A n cp (T0.o.below h) (HER.o.trans h0) HS.o (HR0.o.below h) HN.o (HLX.o hl).1 (fun x hx => (HOK0.o x hx).below h) (HLX.o hl).2).mono fun e w' ⟨b, y, he, hb⟩ => ⟨b, y, he, by rw [hCF, ← hST]; exact hb.down h, hb.up, hb.b⟩)
  have HNM : Hd (er = 0 → BkNm CF.q CF.start n ST) := hd (fun h0 => by
    have := (BkNm.new (may_err (HER.o.trans h0)) HS.o).run l
    rw [Nat.zero_add, ← HN.o, hST] at this
    rw [hCF]
    exact this)
  have HU : Hd (CF.q = c.q) := hd (by rw [hCF])
  clear hCF hST
  obtain ⟨conns, start, room, shards, u1, u2, u3, u4⟩ := c
  simp only [cfE] at *
  go_enter Tryz.func9, Tryz.ntmps9
  go_upto_region 1 with (fail)
  rw [← HW0.o]
  go_wp2_with fail
  refine (C0.o _ (Below.refl _ _)).mono ?_
  rintro e w1 ⟨rfl, b1⟩
  have HB1 := hd b1
  clear b1
  go_upto_region 3 with (fail)
  go_cut [23] from 14 to 24 (fun s wx => s = .bool BAD ∧ Hd (Below w0.heap.size w0 wx))
  case first =>
    cases LB with
    | false =>
      have HV := hd (HBAX.o (fun hh => by have := hh.1; cases this))
      clear  HBAD HBAX HGOOD
      obtain ⟨k0, k1, k2, k3, k4, k5, k6, k7⟩ := KC.o w1 HB1.o
      go_wp2_with fail
      refine (CL.o _ HB1.o).mono ?_
      rintro e w2 ⟨rfl, b2⟩
      have HB2 := hd (HB1.o.trans (b2.mono HB1.o.size))
      clear b2 k0 k1 k2 k3 k4 k5 k6 k7
      go_wp2_with fail
      go_meet
      exact ⟨by rw [HV.o], hd HB2.o⟩
    | true =>
      have g0 : true = true := rfl
      by_cases g1 : er = 0
      case neg =>
        have a1 : (er == 0) = false := by simpa using g1
        have b1 : (er != 0) = true := by simpa using g1
        have HV := hd (HBAX.o (fun hh => g1 hh.2))
        clear g0 g1 HBAD HBAX HGOOD
        obtain ⟨k0, k1, k2, k3, k4, k5, k6, k7⟩ := KC.o w1 HB1.o
        go_wp2_with fail
        refine (CL.o _ HB1.o).mono ?_
        rintro e w2 ⟨rfl, b2⟩
        have HB2 := hd (HB1.o.trans (b2.mono HB1.o.size))
        clear b2 k0 k1 k2 k3 k4 k5 k6 k7
        obtain ⟨k0, k1, k2, k3, k4, k5, k6, k7⟩ := KC.o w2 HB2.o
        go_wp2_with fail
        refine (CR.o _).mono ?_
        rintro e w3 ⟨rfl, b3⟩
        have HB3 := hd (HB2.o.trans (b3.mono HB2.o.size))
        clear b3 k0 k1 k2 k3 k4 k5 k6 k7
        go_wp2_with fail
        go_meet
        exact ⟨by rw [HV.o], hd HB3.o⟩
      case pos =>
        subst g1
        have g1 : (0 : Int) = 0 := rfl
        have HV := hd (HBAD.o ⟨g0, g1⟩)
        clear g0 g1 HBAD HBAX HGOOD
        obtain ⟨k0, k1, k2, k3, k4, k5, k6, k7⟩ := KC.o w1 HB1.o
        go_wp2_with fail
        refine (CL.o _ HB1.o).mono ?_
        rintro e w2 ⟨rfl, b2⟩
        have HB2 := hd (HB1.o.trans (b2.mono HB1.o.size))
        clear b2 k0 k1 k2 k3 k4 k5 k6 k7
        obtain ⟨k0, k1, k2, k3, k4, k5, k6, k7⟩ := KC.o w2 HB2.o
        go_wp2_with fail
        refine (CR.o _).mono ?_
        rintro e w3 ⟨rfl, b3⟩
        have HB3 := hd (HB2.o.trans (b3.mono HB2.o.size))
        clear b3 k0 k1 k2 k3 k4 k5 k6 k7
        go_wp2_with fail
        go_meet
        exact ⟨by rw [HV.o], hd HB3.o⟩
  case rest =>
    obtain ⟨rfl, HBC⟩ := hcut
    cases BAD with
    | true =>
      clear HBAD HBAX HGOOD
      go_wp2_with fail
      refine (C0.o _ HBC.o).mono ?_
      rintro e w4 ⟨rfl, b4⟩
      have HB4 := hd (HB00.o.trans ((HBC.o.trans (b4.mono HBC.o.size)).mono HB00.o.size))
      clear b4
      go_wp2
      go_ret
      exact ⟨rfl, HB4.o⟩
    | false =>
      have HG := HGOOD.o rfl
      clear HGOOD HBAD HBAX
      obtain ⟨g1, g2⟩ := HG
      have CMM := hd (CM.o g2 g1)
      have HNM1 := hd (HNM.o g2)
      have HLX1 := hd (HLX.o g1)
      clear CM HNM HLX g1 g2
      obtain ⟨k0, k1, k2, k3, k4, k5, k6, k7⟩ := KC.o _ HBC.o
      go_wp2_with fail
      refine (CMM.o _ HBC.o).mono ?_
      rintro e w5 ⟨b, y, rfl, hb5, _, _⟩
      have HK5 := hd hb5
      have hn60 := HLX1.o.1
      clear hb5 k0 k1 k2 k3 k4 k5 k6 k7
      go_wp2_with fail
      go_loopw [6] (fun i wr => ∃ (k : Nat) (y : Lay) (st : BkS), i = .int .i64 k ∧ k ≤ n ∧ Hd (BkT w0 wr y b CF (n + k) st) ∧ Hd (Same ST st) ∧ Hd (BkNm CF.q CF.start (n + k) st)) (fun i _ => n - (RowKit.intOf i).toNat)
      case atStart => exact ⟨0, y, ST, rfl, Nat.zero_le _, HK5, hd (Same.refl _), HNM1⟩
      case round =>
        clear HK5 HNM1
        obtain ⟨k, y, st, rfl, hk, HK, HSA, HNM⟩ := hrel
        obtain ⟨wi, rfl⟩ : ∃ wi : World, wi = wr := ⟨_, rfl⟩
        have hki : (0 : Int) ≤ (k : Int) := by omega
        by_cases hlt : k < n
        · have hlti : (k : Int) < (n : Int) := by omega
          have hkl : k < l.length := by rw [← HN.o]; exact hlt
          obtain ⟨g0, o, rfl, KEEP0⟩ := bac_cells HR0.o k HN.o hkl
          have hxl := (HLX1.o.2 _ (List.getElem_mem hkl)).2
          obtain ⟨X, hX⟩ : ∃ X, l[k]'hkl = X := ⟨_, rfl⟩
          rw [hX] at KEEP0 hxl
          have m0 := (KEEP0 wi HK.o.b).h0
          obtain ⟨xt, x, AX, cX⟩ := X
          simp only at m0 hxl
          obtain ⟨cs, hcs⟩ : ∃ cs, tenB st.ts xt = cs := ⟨_, rfl⟩
          have C := bdo_t w0 wi y b CF (n + k) st xt qLi none 0 T0.o HK.o (by omega) (by omega) (rqt_none qLi_s rfl)
          have hd1 := do_li CF.q HNM.o.nm xt
          have hsm := li_same CF.q HNM.o.ok.rise xt
          have hnm := HNM.o.step xt qLi
          rw [hcs] at hd1
          obtain ⟨an, han⟩ : ∃ an, doB CF.q st xt qLi = an := ⟨_, rfl⟩
          rw [han] at C hd1 hsm hnm
          obtain ⟨⟨rk, re, rt, rv, rc, ri, rm⟩, its, st2⟩ := an
          simp only at hd1 hsm hnm
          subst hd1
          have hten2 : tenB st2.ts xt = cs := (hsm.ten xt).trans hcs
          have hok2 := hnm.ok.ten xt
          rw [hten2] at hok2
          obtain ⟨zi, hzi⟩ : ∃ z, (listB cs).length = z := ⟨_, rfl⟩
          have hzc : cs.length = zi := by rw [← hzi, listB_len]
          have hlen2 := hok2.len
          have hby2 := hok2.bytes
          rw [HU.o, hzc] at hlen2
          rw [HU.o] at hby2
          have hub : (u3 : Int) ≤ 1048576 := by have := HNM.o.ok.q.b2; rw [HU.o] at this; exact this
          have huc : (u1 : Int) ≤ 8 := by have := HNM.o.ok.q.c2; rw [HU.o] at this; exact this
          have HTEN := hd hten2
          have HOK2 := hd hok2
          have HNM2 := hd hnm
          have HSA2 := hd (HSA.o.trans hsm)
          have HZC := hd hzc
          have HBY := hd hby2
          simp only [reqV, reqE, rsEnc, hzi] at C
          replace C := hd C
          have f1 : decide ((u1 : Int) < (zi : Int)) = false := by simpa using hlen2
          have HZI := hd hzi
          have HLN := hd hlen2
          clear KEEP0 hX hxl hcs hsm hnm han hten2 hok2 hzc hby2 hzi hkl HNM HSA
          go_wp2_with fail
          refine C.o.mono ?_
          rintro e w5 ⟨A2, c2, y2, he, hd2⟩
          subst he
          obtain ⟨w6, hw6⟩ : ∃ w6, w6 = w5.alloc (.cells #[.int .i64 rk, .int .i64 re, .int .i64 rt, .int .i64 rv, .string (bs rc), .int .i64 ri, .bool rm, .slice A2 zi c2] 39) := ⟨_, rfl⟩
          have hb6 : Below w5.heap.size w5 w6 := by rw [hw6]; exact (Below.refl _ _).alloc (Nat.le_refl _) _
          have hk6 : Blk w6 w5.heap.size 39 #[.int .i64 rk, .int .i64 re, .int .i64 rt, .int .i64 rv, .string (bs rc), .int .i64 ri, .bool rm, .slice A2 zi c2] := by rw [hw6]; exact Blk.new _ _ _
          have HD := hd (hd2.r.below hb6)
          have HRI := hd (hd2.it.below hb6)
          have HK6 := hd hk6
          have HW6 := hd hw6
          clear hd2 hb6 hw6 hk6 C m0
          obtain ⟨p, hp⟩ : ∃ p, w5.heap.size = p := ⟨_, rfl⟩
          have HP := hd hp
          rw [hp] at HK6
          clear hp
          go_upto_region 13 with (fail)
          rw [← HW6.o]
          rw [HP.o]
          clear HW6 HP
          have j7 : w6.cell? ⟨p, 7, none⟩ = some (.slice A2 zi c2) := HK6.o.at_ 7 rfl
          have k4 := (KC.o w6 HD.o.b).2.2.2.2.1
          go_wp2_with fail
          clear j7 k4
          go_loopw [10, 9] (fun i s wr => ∃ j : Nat, i = .int .i64 j ∧ s = .int .i64 (bytesT (cs.take j)) ∧ j ≤ zi ∧ Hd (Below w6.heap.size w6 wr)) (fun i _ _ => zi - (RowKit.intOf i).toNat)
          case atStart => exact ⟨0, rfl, rfl, Nat.zero_le _, hd (Below.refl _ _)⟩
          case round =>
            obtain ⟨j, rfl, rfl, hj, HBR⟩ := hrel
            obtain ⟨wj, rfl⟩ : ∃ wj : World, wj = wr := ⟨_, rfl⟩
            have hji : (0 : Int) ≤ (j : Int) := by omega
            have hjl7 := (HK6.o.below HBR.o HK6.o.lt).at_ 7 (v := .slice A2 zi c2) rfl
            by_cases hlj : j < zi
            · have hlji : (j : Int) < (zi : Int) := by omega
              have hjc : j < cs.length := by rw [HZC.o]; exact hlj
              have hla := li_at HOK2.o HTEN.o j hjc
              have ht1 := bytesT_take cs j hjc
              have htp := bytesT_part cs (j + 1)
              have htn := bytesT_nn (cs.take j)
              have hmem := (HOK2.o.each _ (List.getElem_mem hjc)).1
              have hrise := hla.rise
              have hlb := listB_at cs j hjc
              have hri : Rds w6 A2 zi 4 (itsEnc (listB cs)) := by rw [← HZI.o]; exact HRI.o
              obtain ⟨g2, o2, rfl, hg2, hc2⟩ := hri.at_ (by omega)
              have hic : ∀ (W : World) (i : Nat) (hi : i < cs.length), Below w6.heap.size w6 W → W.cell? ⟨g2, o2 + i * 4, none⟩ = some (.string (bs (cs[i]'hi).1)) ∧ W.cell? ⟨g2, o2 + i * 4 + 1, none⟩ = some (.int .i64 (cs[i]'hi).2.latest) := fun W i hi hb => by
                have hil : i < (listB cs).length := by rw [listB_len]; exact hi
                have q := fun jj (hj4 : jj < 4) => flat_at itEnc 4 itEnc_len (listB cs) i hil jj hj4
                rw [listB_at cs i hi] at q
                refine ⟨?_, ?_⟩
                · have := hc2 (i * 4 + 0) _ ((q 0 (by omega)).trans rfl)
                  exact (hb.cell (p := ⟨g2, o2 + i * 4, none⟩) hg2).trans this
                · have := hc2 (i * 4 + 1) _ ((q 1 (by omega)).trans rfl)
                  rw [← Nat.add_assoc] at this
                  exact (hb.cell (p := ⟨g2, o2 + i * 4 + 1, none⟩) hg2).trans this
              have KP := hd (fun W (h : Below w6.heap.size w6 W) => (show W.cell? ⟨p, 7, none⟩ = some (.slice (some ⟨g2, o2, none⟩) zi c2) from (HK6.o.below h HK6.o.lt).at_ 7 rfl))
              have HIC := hd hic
              have KIT0 := fun W (h : Below w6.heap.size w6 W) => hic W j hjc h
              obtain ⟨xj, hxj⟩ : ∃ x, cs[j]'hjc = x := ⟨_, rfl⟩
              rw [hxj] at hla ht1 hmem hrise KIT0
              have KIT := hd KIT0
              have HRS := hd hrise
              clear hic KIT0 hrise hlb hri hc2 hxj hjl7
              obtain ⟨cn, s⟩ := xj
              simp only at KIT ht1
              have hgl : BkL st2 := HNM2.o.ok.lens (by have := HD.o.len; omega)
              have hml : ∀ s', colB st2 xt cn = some s' → s'.ml.length ≤ 1000000 := fun s' h => by
                have := hla.col
                rw [h] at this
                injection this with this
                have h1 := hla.cards
                have h2 := HNM2.o.ok.q.d2
                rw [this]
                show s.ml.length ≤ 1000000
                have h1 : (s.ml.length : Int) ≤ CF.q.cards := h1
                omega
              have CLv := fun W (h : Below w6.heap.size w6 W) => live_calls W y2 b CF st2 (HD.o.below h).r hgl xt cn hml
              have CLa := fun W (h : Below w6.heap.size w6 W) => blatest_calls W y2 b CF st2 (HD.o.below h).r hgl xt cn
              have el : lisB st2 xt cn = liveL s.ml := hla.live
              have ei : isB' st2 xt cn = true := hla.is
              have ea : latB st2 xt cn = s.latest := hla.lat
              rw [el] at CLv
              rw [ei, ea] at CLa
              obtain ⟨L, hL⟩ : ∃ L, liveL s.ml = L := ⟨_, rfl⟩
              have hsum : sumB L = bytesM s.ml := by rw [← hL]; exact sumB_live _
              have hLc : ∀ x ∈ L, x.card.length ≤ 1000000 := fun x hx => by
                rw [← hL] at hx
                unfold liveL at hx
                obtain ⟨e, he, rfl⟩ := List.mem_map.1 hx
                have := (hmem.ml e he).2.1
                show e.2.text.length ≤ _
                omega
              have hLl : (L.length : Int) ≤ u2 := by rw [← hL, liveL_len]; have := hla.cards; rw [HU.o] at this; exact this
              have hu2 : u2 ≤ 16 := by have := HNM2.o.ok.q.d2; rw [HU.o] at this; exact this
              rw [hL] at CLv
              have CBy := fun W (A3 : Option Addr) (c3 zl : Nat) (hz : zl = L.length) (hr : Rds W A3 zl 4 (itsEnc L)) => bytes_calls W L A3 zl c3 hr hz (by omega) hLc
              rw [hsum] at CBy
              obtain ⟨zl, hzl⟩ : ∃ z, L.length = z := ⟨_, rfl⟩
              rw [hzl] at hLl CLv
              have f2 : decide ((u2 : Int) < (zl : Int)) = false := by simpa using hLl
              have HZL := hd hzl
              have HLA := hd hla
              have CLV := hd CLv
              have CLA := hd CLa
              have CBY := hd CBy
              have HT1 := hd ht1
              have hbb : bytesT (cs.take j) + bytesM s.ml ≤ u3 := by rw [← ht1]; have := HBY.o; omega
              have hbm := bytesM_nn s.ml
              generalize bytesM s.ml = sb at *
              generalize bytesT (cs.take j) = sj at *
              have hwr : IntKind.i64.wrap (sj + sb) = sj + sb := by rw [IntKind.wrap_i64]; omega
              clear hla ht1 htp hmem hgl hml CLv CLa CBy el ei ea hL hsum hLc hzl
              generalize s.latest = sl at *
              have j7 := KP.o wj HBR.o
              obtain ⟨i0, i1⟩ := KIT.o wj HBR.o
              go_wp2_with fail
              refine (CLV.o _ HBR.o).mono ?_
              rintro e w8 ⟨A3, c3, rfl, hr3, hb3⟩
              have HB8 := hd (HBR.o.trans (hb3.mono HBR.o.size))
              have HR3 := hd hr3
              clear hr3 hb3 j7 i0 i1
              have j7 := KP.o w8 HB8.o
              obtain ⟨i0, i1⟩ := KIT.o w8 HB8.o
              go_wp2_with fail
              refine (CLA.o _ HB8.o).mono ?_
              rintro e w9 ⟨rfl, hb9⟩
              have HB9 := hd (HB8.o.trans (hb9.mono HB8.o.size))
              have HR9 := hd (HR3.o.below hb9)
              clear hb9 j7 i0 i1 HR3
              have j7 := KP.o w9 HB9.o
              obtain ⟨i0, i1⟩ := KIT.o w9 HB9.o
              have k5 := (KC.o w9 (HD.o.b.trans (HB9.o.mono HD.o.b.size))).2.2.2.2.2.1
              have e1 : (sl == sl) = true := by simp
              have HRND := hd (fun (W : World) (hW : Below w9.heap.size w9 W) => CBY.o W A3 c3 zl HZL.o.symm ((HR9.o.rds).below hW))
              by_cases hj0 : j = 0
              · subst hj0
                go_wp2_with fail
                go_quiet (fail)
                go_wp2_with fail
                refine (HRND.o _ (bdrewN (Below.refl _ _) _)).mono ?_
                rintro e w10 ⟨rfl, rfl⟩
                clear j7 i0 i1 k5
                go_wp2_with fail
                go_roundw
                case rel => exact ⟨0 + 1, by go_num, by rw [HT1.o], by omega, hd (bdrewN HB9.o _)⟩
                case measure => simp [RowKit.intOf]; omega
              · obtain ⟨jj, rfl⟩ : ∃ jj, j = jj + 1 := ⟨j - 1, by omega⟩
                have hjj : jj < cs.length := by rw [HZC.o]; omega
                have hcmp := HRS.o jj hjj rfl
                have i3 := (HIC.o w9 jj hjj HB9.o).1
                obtain ⟨pn, hpn⟩ : ∃ x, (cs[jj]'hjj).1 = x := ⟨_, rfl⟩
                rw [hpn] at hcmp i3
                have hls : Op.bytesLess (bs pn).toList (bs cn).toList = true := by rw [bytesLess_dec]; simpa using hcmp
                clear hpn hjj hj0 hcmp
                go_wp2_with fail
                go_quiet (fail)
                go_wp2_with fail
                refine (HRND.o _ (bdrewN (Below.refl _ _) _)).mono ?_
                rintro e w10 ⟨rfl, rfl⟩
                clear j7 i0 i1 k5 i3 hls
                go_wp2_with fail
                go_roundw
                case rel => exact ⟨jj + 1 + 1, by go_num, by rw [HT1.o], by omega, hd (bdrewN HB9.o _)⟩
                case measure => simp [RowKit.intOf]; omega
            · obtain rfl : zi = j := by omega
              have hji2 : ¬ (zi : Int) < (zi : Int) := by omega
              have hgl : BkL st2 := HNM2.o.ok.lens (by have := HD.o.len; omega)
              have CBB := fun W (h : Below w6.heap.size w6 W) => bbytes_calls W y2 b CF st2 (HD.o.below h).r hgl xt
              rw [HTEN.o] at CBB
              have hfull : cs.take zi = cs := by rw [← HZC.o]; exact List.take_length
              rw [hfull]
              have hb3 := HBY.o
              have CBV := hd CBB
              generalize bytesT cs = sb at *
              have f3 : decide ((u3 : Int) < sb) = false := by simpa using hb3
              have e1 : (sb == sb) = true := by simp
              clear hgl CBB hfull hlj
              go_wp2_with fail
              refine (CBV.o _ HBR.o).mono ?_
              rintro e w8 ⟨rfl, hb8⟩
              have HB8 := hd (HBR.o.trans (hb8.mono HBR.o.size))
              clear hb8 hjl7
              have k6 := (KC.o w8 (HD.o.b.trans (HB8.o.mono HD.o.b.size))).2.2.2.2.2.2.1
              go_wp2_with fail
              clear k6
              go_roundw
              case rel => exact ⟨k + 1, y2, st2, by go_num, by omega, hd (by rw [show n + (k + 1) = n + k + 1 by omega]; exact HD.o.below HB8.o), HSA2, hd (by rw [show n + (k + 1) = n + k + 1 by omega]; exact HNM2.o)⟩
              case measure => simp [RowKit.intOf]; omega
        · obtain rfl : n = k := by omega
          have hki2 : ¬ (n : Int) < (n : Int) := by omega
          have HBB := hd (HB00.o.trans (HK.o.b.mono HB00.o.size))
          clear HK HSA HNM
          go_wp2
          go_ret
          exact ⟨rfl, HBB.o⟩
end Go.Proofs.YtfacfdjapjhpeaaGreatDoor
