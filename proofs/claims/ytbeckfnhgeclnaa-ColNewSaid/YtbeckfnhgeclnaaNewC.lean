/-
  ColNew, as a call: it returns true, whatever the acts and the token.
-/
import Derived.Test.YtbeckfnhgeclnaaSinceC
set_option linter.unusedVariables false
set_option linter.unusedSimpArgs false
namespace Go.Proofs.Ytbeckfnhgeclnaa
open Go.RowKit Go.Lib

theorem TwoC.far {B : Nat} {w wr w' : World} {b1 b2 : Nat} {s1 s2 : Cs} {U : Nat → Prop} (h : TwoC B w wr b1 b2 s1 s2) (hc : Chg U wr w') (hU : ∀ q, U q → B ≤ q) : TwoC B w w' b1 b2 s1 s2 := by
  obtain ⟨⟨S, T, h1, h2, h3, h4, h5⟩, h6, h7, h8, h9, h10⟩ := h
  have hB : w.heap.size ≤ B := by
    obtain ⟨A, c, A2, c2, _, _, _, hb⟩ := h2
    have := h5 _ hb
    omega
  exact ⟨⟨S, T, h1.chg hc (fun q hq hu => by have := h4 q hq; have := hU q hu; omega), h2.chg hc (fun q hq hu => by have := h5 q hq; have := hU q hu; omega), h3, h4, h5⟩, h6.trans (hc.below (fun q hq => Nat.le_trans hB (hU q hq)) h6.size), Nat.le_trans h7 hc.size, h8, h9, h10⟩
theorem row_its4 {w : World} {S : Nat → Prop} {n c g : Nat} {L : List It} (h : Row w S 41 4 (some ⟨g, 0, none⟩) n c (itsEnc L)) (k : Nat) (x : It) (hk : k < L.length) :
    Row ((((w.setCell ⟨g, k * 4, none⟩ (.string (bs x.uid))).setCell ⟨g, k * 4 + 1, none⟩ (.int .i64 x.ver)).setCell ⟨g, k * 4 + 2, none⟩ (.bool x.gone)).setCell ⟨g, k * 4 + 3, none⟩ (.string (bs x.card))) S 41 4 (some ⟨g, 0, none⟩) n c (itsEnc (L.set k x)) := by
  rw [itsEnc_set L k x hk]
  exact row_setk4 (row_setk4 (row_setk4 (row_setk4 h _ _) _ _) _ _) _ _
theorem chg_its4 {w W : World} {g k : Nat} {v0 v1 v2 v3 : Value} (h : Chg (Of (some ⟨g, 0, none⟩)) w W) :
    Chg (Of (some ⟨g, 0, none⟩)) w ((((W.setCell ⟨g, k * 4, none⟩ v0).setCell ⟨g, k * 4 + 1, none⟩ v1).setCell ⟨g, k * 4 + 2, none⟩ v2).setCell ⟨g, k * 4 + 3, none⟩ v3) := by
  have hof : ∀ i : Nat, Of (some ⟨g, 0, none⟩) (Addr.block ⟨g, i, none⟩) ∨ w.heap.size ≤ (Addr.block ⟨g, i, none⟩) := fun i => .inl rfl
  exact (((h.setCell (hof _) _).setCell (hof _) _).setCell (hof _) _).setCell (hof _) _
theorem its_same (w : World) (A A' : Option Addr) (q c c' : Nat) (l : List It) (hn : q = l.length) (hr : Rds w A q 4 (itsEnc l)) (hr' : Rds w A' q 4 (itsEnc l)) (hb : q ≤ 1000000) :
    Calls Try.prog 28 #[.slice A q c, .slice A' q c'] w fun e w' => e = .returned (.bool true) ∧ Below w.heap.size w w' := by
  have h := its_calls w A A' q q c c' l l hn hn hr hr' hb hb
  rw [decide_eq_true (rfl : l = l)] at h
  exact h
def spoilt1 : It := ⟨[115, 112, 111, 105, 108, 116], 1, false, []⟩
def spoilt2 : It := ⟨[115, 112, 111, 105, 108, 116], 2, false, []⟩

set_option maxRecDepth 100000 in
set_option maxHeartbeats 4000000 in
theorem lnew_calls (w : World) (birth cards log : Int) (A : Option Addr) (n c : Nat) (l : List ActV) (tok : Int) (hr : Rds w A n 6 (actsE l)) (hn : n = l.length) (hm : n ≤ maxLen) (hok : ∀ x ∈ l, OpOk x.1) :
    Calls Try.prog 9 #[.int .i64 birth, .int .i64 cards, .int .i64 log, .slice A n c, .int .i64 tok] w fun e w' => e = .returned (.bool true) ∧ Below w.heap.size w w' := by
  have HLI := hd (fun w' (hb : Below w.heap.size w w') => clight_calls w' A n c l (hr.below hb) hn hm hok)
  cases hlt : lightC l with
  | false =>
    rw [hlt] at HLI
    clear hn hok hr hlt
    go_enter Try.func9, Try.ntmps9
    go_wp2_with fail
    refine (cfirst_calls w).mono ?_
    rintro e w1 ⟨rfl, b1⟩
    go_wp2_with fail
    refine (HLI.o w1 b1).mono ?_
    rintro e w2 ⟨rfl, b2⟩
    go_wp2_with fail
    refine (cfirst_calls w2).mono ?_
    rintro e w3 ⟨rfl, b3⟩
    go_wp2
    go_ret
    exact ⟨rfl, b1.trans ((b2.mono b1.size).trans (b3.mono (by have := b1.size; have := b2.size; omega)))⟩
  | true =>
    rw [hlt] at HLI
    have HM := hd (fun w' (hb : Below w.heap.size w w') => made_calls w w' hb birth cards log A n c l hr hn hlt)
    have HT := hd (made_tok birth cards log l)
    obtain ⟨s, hs⟩ : ∃ s, madeF (Cs.new birth cards log) l = s := ⟨_, rfl⟩
    rw [hs] at HM HT
    clear hn hok hr hlt hs hm
    go_enter Try.func9, Try.ntmps9
    go_wp2_with fail
    refine (cfirst_calls w).mono ?_
    rintro e w1 ⟨rfl, b1⟩
    go_wp2_with fail
    refine (HLI.o w1 b1).mono ?_
    rintro e w2 ⟨rfl, b2⟩
    have b12 := hd (b1.trans (b2.mono b1.size))
    clear b1 b2
    go_wp2_with fail
    refine (HM.o w2 b12.o).mono ?_
    rintro e w3 ⟨b, b2, B, rfl, hz, hT⟩
    have HZ := hd hz
    have HO := hd hT
    have hzl := hz.ml
    have hzg := hz.log
    clear hz hT b12
    go_wp2_with fail
    refine (twoc_live1 HO.o (by omega)).mono ?_
    rintro e w4 ⟨AX, cX, rfl, hX, hO4, hb4⟩
    have HX4 := hd hX
    have HO4 := hd hO4
    clear hX hO4
    go_wp2_with fail
    refine (twoc_live1 HO4.o (by omega)).mono ?_
    rintro e w5 ⟨AY, cY, rfl, hY, hO5, hb5⟩
    have HY5 := hd hY
    have HX5 := hd (HX4.o.below hb5)
    have HO5 := hd hO5
    clear hY hO5
    go_wp2_with fail
    refine (twoc_since1 HO5.o tok (by omega) (by omega)).mono ?_
    rintro e w6 ⟨lz, ez, AZ, cZ, rfl, hsz, hZ, hO6, hb6⟩
    have HZ6 := hd hZ
    have HY6 := hd (HY5.o.below hb6)
    have HX6 := hd (HX5.o.below hb6)
    have HO6 := hd hO6
    have hlz := since_len hsz
    have HB4 := hd hb4.size
    have HB5 := hd hb5.size
    have HB6 := hd hb6.size
    have HBO := hd HO.o.le
    have HOX : Hd (∀ q, Of AX q → w3.heap.size ≤ q ∧ q < w4.heap.size) := hd (fun q hq => ⟨HX4.o.of_sub q hq, by
      cases AX with
      | none => exact (Of.none hq).elim
      | some a => rw [hq.some_]; exact HX4.o.lt rfl⟩)
    have HOY : Hd (∀ q, Of AY q → w4.heap.size ≤ q ∧ q < w5.heap.size) := hd (fun q hq => ⟨HY5.o.of_sub q hq, by
      cases AY with
      | none => exact (Of.none hq).elim
      | some a => rw [hq.some_]; exact HY5.o.lt rfl⟩)
    have HOZ : Hd (∀ q, Of AZ q → w5.heap.size ≤ q) := hd (fun q hq => HZ6.o.of_sub q hq)
    obtain ⟨m, hm⟩ : ∃ m, s.ml.length = m := ⟨_, rfl⟩
    obtain ⟨mz, hmz⟩ : ∃ m, lz.length = m := ⟨_, rfl⟩
    have HMM := hd hm
    have HMZ := hd hmz
    rw [hm] at HX6 HY6 hzl hlz
    rw [hmz] at HZ6 hlz
    simp only [hm, hmz]
    clear hsz hZ hO6 hb4 hb5 hb6 HX4 HX5 HY5 HO4 HO5 HO hm hmz
    go_wp2_with fail
    go_loopw [17] (fun i wr => ∃ (k : Nat) (L : List It), i = .int .i64 k ∧ k ≤ m ∧ Hd (L.length = m) ∧ Hd (Row wr (From w4.heap.size) 41 4 AY m cY (itsEnc L)) ∧ Hd (Chg (Of AY) w6 wr)) (fun i _ => m - (intOf i).toNat)
    case atStart => exact ⟨0, liveL s.ml, rfl, Nat.zero_le _, hd (by rw [liveL_len]; exact HMM.o), HY6, hd (Chg.refl _ _)⟩
    case round =>
      obtain ⟨k, L, rfl, hk, HL, HY, HC⟩ := hrel
      have hki : (0 : Int) ≤ (k : Int) := by omega
      by_cases hkm : k < m
      · have hkmi : (k : Int) < (m : Int) := by omega
        have hkl : k < L.length := by rw [HL.o]; exact hkm
        obtain ⟨g, rfl, hgS, hgl, _, _, hcl, hfz⟩ := HY.o.at_ (by omega)
        have hc4 : ∀ t u, t < 4 → (itEnc L[k])[t]? = some u → wr.cell? ⟨g, k * 4 + t, none⟩ = some u := fun t u ht hv => hcl _ _ ((flat_at itEnc 4 itEnc_len L k hkl t ht).trans hv)
        have x0 := hc4 0 _ (by omega) rfl
        have x1 := hc4 1 _ (by omega) rfl
        have x2 := hc4 2 _ (by omega) rfl
        have x3 := hc4 3 _ (by omega) rfl
        simp only [Nat.add_zero] at x0
        have f0 := hfz (k * 4)
        have f1 := hfz (k * 4 + 1)
        have f2 := hfz (k * 4 + 2)
        have f3 := hfz (k * 4 + 3)
        have HN := hd (row_its4 HY.o k spoilt1 hkl)
        have HCN := hd (chg_its4 (k := k) (v0 := .string (bs spoilt1.uid)) (v1 := .int .i64 spoilt1.ver) (v2 := .bool spoilt1.gone) (v3 := .string (bs spoilt1.card)) HC.o)
        generalize L[k] = xk at *
        clear hc4 hcl hfz hkl
        go_wp2
        go_roundw
        case rel => exact ⟨k + 1, L.set k spoilt1, by go_num, by omega, hd (by rw [List.length_set]; exact HL.o), HN, HCN⟩
        case measure => simp [intOf]; omega
      · obtain rfl : k = m := by omega
        have HO7 : Hd (TwoC B w wr b b2 s s) := hd (HO6.o.far HC.o (fun q hq => by have := HOY.o q hq; have := HBO.o; have := HB4.o; omega))
        have HX7 : Hd (Row wr (Of AX) 41 4 AX k cX (itsEnc (liveL s.ml))) := hd (HX6.o.own_.chg HC.o (fun q hq hq2 => by have := HOX.o q hq; have := HOY.o q hq2; omega))
        have HZ7 : Hd (Row wr (Of AZ) 41 4 AZ mz cZ (itsEnc lz)) := hd (HZ6.o.own_.chg HC.o (fun q hq hq2 => by have := HOZ.o q hq; have := HOY.o q hq2; omega))
        obtain ⟨w7, rfl⟩ : ∃ w7 : World, w7 = wr := ⟨_, rfl⟩
        clear HC HY HO6 HX6 HZ6 HY6 HL
        go_wp2_with fail
        go_loopw [18] (fun i wr => ∃ (k : Nat) (L : List It), i = .int .i64 k ∧ k ≤ mz ∧ Hd (L.length = mz) ∧ Hd (Row wr (Of AZ) 41 4 AZ mz cZ (itsEnc L)) ∧ Hd (Chg (Of AZ) w7 wr)) (fun i _ => mz - (intOf i).toNat)
        case atStart => exact ⟨0, lz, rfl, Nat.zero_le _, HMZ, HZ7, hd (Chg.refl _ _)⟩
        case round =>
          obtain ⟨j, L, rfl, hj, HL, HZZ, HC⟩ := hrel
          have hji : (0 : Int) ≤ (j : Int) := by omega
          by_cases hjm : j < mz
          · have hjmi : (j : Int) < (mz : Int) := by omega
            have hjl : j < L.length := by rw [HL.o]; exact hjm
            obtain ⟨g, rfl, hgS, hgl, _, _, hcl, hfz⟩ := HZZ.o.at_ (by omega)
            have hc4 : ∀ t u, t < 4 → (itEnc L[j])[t]? = some u → wr.cell? ⟨g, j * 4 + t, none⟩ = some u := fun t u ht hv => hcl _ _ ((flat_at itEnc 4 itEnc_len L j hjl t ht).trans hv)
            have x0 := hc4 0 _ (by omega) rfl
            have x1 := hc4 1 _ (by omega) rfl
            have x2 := hc4 2 _ (by omega) rfl
            have x3 := hc4 3 _ (by omega) rfl
            simp only [Nat.add_zero] at x0
            have f0 := hfz (j * 4)
            have f1 := hfz (j * 4 + 1)
            have f2 := hfz (j * 4 + 2)
            have f3 := hfz (j * 4 + 3)
            have HN := hd (row_its4 HZZ.o j spoilt2 hjl)
            have HCN := hd (chg_its4 (k := j) (v0 := .string (bs spoilt2.uid)) (v1 := .int .i64 spoilt2.ver) (v2 := .bool spoilt2.gone) (v3 := .string (bs spoilt2.card)) HC.o)
            generalize L[j] = xk at *
            clear hc4 hcl hfz hjl
            go_wp2
            go_roundw
            case rel => exact ⟨j + 1, L.set j spoilt2, by go_num, by omega, hd (by rw [List.length_set]; exact HL.o), HN, HCN⟩
            case measure => simp [intOf]; omega
          · obtain rfl : j = mz := by omega
            have HO8 : Hd (TwoC B w wr b b2 s s) := hd (HO7.o.far HC.o (fun q hq => by have := HOZ.o q hq; have := HBO.o; have := HB4.o; have := HB5.o; omega))
            have HX8 : Hd (Rds wr AX k 4 (itsEnc (liveL s.ml))) := hd (HX7.o.chg HC.o (fun q hq hq2 => by have := HOX.o q hq; have := HOZ.o q hq2; have := HB5.o; omega)).rds
            obtain ⟨w8, rfl⟩ : ∃ w8 : World, w8 = wr := ⟨_, rfl⟩
            have hzl2 := HZ.o.ml
            have hzg2 := HZ.o.log
            have hkm2 := HMM.o
            clear HC HZZ HO7 HX7 HZ7 HL
            go_wp2_with fail
            refine (twoc_since2 HO8.o tok (by omega) (by omega)).mono ?_
            rintro e w9 ⟨l2, e2, A2, c2, rfl, hs2, hr2, hO9, hb9⟩
            have HS2 := hd hs2
            have HR2 := hd hr2
            have HO9 := hd hO9
            have HX9 := hd (HX8.o.below hb9)
            clear hs2 hr2 hO9 hb9 HX8 HO8
            go_wp2_with fail
            refine (twoc_since1 HO9.o tok (by omega) (by omega)).mono ?_
            rintro e w10 ⟨l1, e1, A1, c1, rfl, hs1, hr1, hO10, hb10⟩
            obtain ⟨rfl, rfl⟩ := since_agree HO9.o.ok1.rise HT.o hs1 HS2.o
            have hle := since_len hs1
            have HR1 := hd hr1.rds
            have HR2' := hd (HR2.o.below hb10)
            have HO10 := hd hO10
            have HX10 := hd (HX9.o.below hb10)
            clear hs1 hr1 hO10 hb10 HX9 HO9 HR2 HS2
            obtain ⟨q, hq⟩ : ∃ q, l1.length = q := ⟨_, rfl⟩
            have HQ := hd hq.symm
            rw [hq] at HR1 HR2' hle
            simp only [hq]
            clear hq
            go_wp2_with fail
            refine (twoc_live2 HO10.o (by omega)).mono ?_
            rintro e w11 ⟨A3, c3, rfl, hr3, hO11, hb11⟩
            rw [hkm2] at hr3
            simp only [hkm2]
            have HR3 := hd hr3
            have HX11 := hd (HX10.o.below hb11)
            have HR1b := hd (HR1.o.below hb11)
            have HR2b := hd (HR2'.o.below hb11)
            have HO11 := hd hO11
            clear hr3 hO11 hb11 HX10 HO10 HR1 HR2'
            go_wp2_with fail
            refine (its_same w11 AX A3 k cX c3 (liveL s.ml) (by rw [liveL_len]; exact HMM.o.symm) HX11.o HR3.o (by omega)).mono ?_
            rintro e w12 ⟨rfl, hb12⟩
            have HX12 := hd (HX11.o.below hb12)
            have HR1c := hd (HR1b.o.below hb12)
            have HR2c := hd (HR2b.o.below hb12)
            have HO12 := hd (HO11.o.bel hb12)
            clear hb12 HX11 HO11 HR1b HR2b HR3
            go_wp2_with fail
            refine (twoc_live1 HO12.o (by omega)).mono ?_
            rintro e w13 ⟨A4, c4, rfl, hr4, hO13, hb13⟩
            rw [hkm2] at hr4
            simp only [hkm2]
            have HR4 := hd hr4.rds
            have HX13 := hd (HX12.o.below hb13)
            have HR1d := hd (HR1c.o.below hb13)
            have HR2d := hd (HR2c.o.below hb13)
            have HO13 := hd hO13
            clear hr4 hO13 hb13 HX12 HO12 HR1c HR2c
            go_wp2_with fail
            refine (its_same w13 A4 AX k c4 cX (liveL s.ml) (by rw [liveL_len]; exact HMM.o.symm) HR4.o HX13.o (by omega)).mono ?_
            rintro e w14 ⟨rfl, hb14⟩
            have HR1e := hd (HR1d.o.below hb14)
            have HR2e := hd (HR2d.o.below hb14)
            have HO14 := hd (HO13.o.bel hb14)
            clear hb14 HX13 HO13 HR1d HR2d HR4
            go_wp2_with fail
            refine (its_same w14 A1 A2 q c1 c2 l1 HQ.o HR1e.o HR2e.o (by omega)).mono ?_
            rintro e w15 ⟨rfl, hb15⟩
            have HB15 := hd (HO14.o.bel hb15).below
            clear hb15
            go_wp2
            go_ret
            exact ⟨rfl, HB15.o⟩

end Go.Proofs.Ytbeckfnhgeclnaa
