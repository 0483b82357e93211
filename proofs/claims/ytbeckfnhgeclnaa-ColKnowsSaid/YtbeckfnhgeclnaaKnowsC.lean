/-
  ColKnows, as a call: it returns true, whatever the acts and the token.
-/
import Derived.Test.YtbeckfnhgeclnaaKnowsP
import Derived.Test.YtbeckfnhgeclnaaSinceC
import Derived.Deep.CutRange
import Derived.Deep.Cut
set_option linter.unusedVariables false
set_option linter.unusedSimpArgs false
namespace Go.Proofs.Ytbeckfnhgeclnaa
open Go.RowKit Go.Lib

theorem twoc_hor {B : Nat} {w wr : World} {b1 b2 : Nat} {s1 s2 : Cs} (h : TwoC B w wr b1 b2 s1 s2) : Calls Try.prog 36 #[.pointer (some ⟨b1, 0, none⟩)] wr fun e w' => e = .returned (.int .i64 s1.horizon) ∧ wr = w' := by
  obtain ⟨S, T, h1, h2, _⟩ := h.ex
  exact chor_calls wr S b1 s1 h1
theorem twoc_latest {B : Nat} {w wr : World} {b1 b2 : Nat} {s1 s2 : Cs} (h : TwoC B w wr b1 b2 s1 s2) : Calls Try.prog 37 #[.pointer (some ⟨b1, 0, none⟩)] wr fun e w' => e = .returned (.int .i64 s1.latest) ∧ wr = w' := by
  obtain ⟨S, T, h1, h2, _⟩ := h.ex
  exact clatest_calls wr S b1 s1 h1
theorem twoc_len {B : Nat} {w wr : World} {b1 b2 : Nat} {s1 s2 : Cs} (h : TwoC B w wr b1 b2 s1 s2) : Calls Try.prog 39 #[.pointer (some ⟨b1, 0, none⟩)] wr fun e w' => e = .returned (.int .i64 (s1.ml.length : Nat)) ∧ wr = w' := by
  obtain ⟨S, T, h1, h2, _⟩ := h.ex
  exact clen_calls wr S b1 s1 h1

theorem twoc_get1b {B : Nat} {w wr : World} {b1 b2 : Nat} {s1 s2 : Cs} (h : TwoC B w wr b1 b2 s1 s2) (k : List UInt8) (hl : s1.ml.length ≤ 1000000) : Calls Try.prog 38 #[.pointer (some ⟨b1, 0, none⟩), .string (bs k)] wr fun e w' => e = .returned (.tuple #[.int .i64 (verM s1.ml k), .string (bs (txtM s1.ml k)), .bool (hasM s1.ml k)]) ∧ TwoC B w w' b1 b2 s1 s2 ∧ Below wr.heap.size wr w' := by
  obtain ⟨S, T, h1, h2, _⟩ := h.ex
  exact (cget_calls wr S b1 s1 k h1 hl).mono fun e w' ⟨he, hb⟩ => ⟨he, h.bel hb, hb⟩

set_option maxRecDepth 100000 in
set_option maxHeartbeats 4000000 in
theorem lknows_calls (w : World) (birth cards log : Int) (A : Option Addr) (n c : Nat) (l : List ActV) (tok : Int) (hr : Rds w A n 6 (actsE l)) (hn : n = l.length) (hm : n ≤ maxLen) (hok : ∀ x ∈ l, OpOk x.1) :
    Calls Try.prog 8 #[.int .i64 birth, .int .i64 cards, .int .i64 log, .slice A n c, .int .i64 tok] w fun e w' => e = .returned (.bool true) ∧ Below w.heap.size w w' := by
  have HLI := hd (fun w' (hb : Below w.heap.size w w') => clight_calls w' A n c l (hr.below hb) hn hm hok)
  cases hlt : lightC l with
  | false =>
    rw [hlt] at HLI
    clear hn hok hr hlt
    go_enter Try.func8, Try.ntmps8
    go_wp2_with fail
    refine (cfirst_calls w).mono ?_
    rintro e w1 ⟨rfl, b1⟩
    go_wp2_with fail
    refine (HLI.o w1 b1).mono ?_
    rintro e w2 ⟨rfl, b2⟩
    go_wp2_with fail
    refine (cfirst_calls w2).mono ?_
    rintro e w3 ⟨rfl, b3⟩
    go_wp2
    go_ret
    exact ⟨rfl, b1.trans ((b2.mono b1.size).trans (b3.mono (by have := b1.size; have := b2.size; omega)))⟩
  | true =>
    rw [hlt] at HLI
    have HM := hd (fun w' (hb : Below w.heap.size w w') => made_calls w w' hb birth cards log A n c l hr hn hlt)
    have HT := hd (made_tok birth cards log l)
    have HG := hd (made_good birth cards log l)
    obtain ⟨s, hs⟩ : ∃ s, madeF (Cs.new birth cards log) l = s := ⟨_, rfl⟩
    rw [hs] at HM HT HG
    clear hn hok hr hlt hs hm
    go_enter Try.func8, Try.ntmps8
    go_wp2_with fail
    refine (cfirst_calls w).mono ?_
    rintro e w1 ⟨rfl, b1⟩
    go_wp2_with fail
    refine (HLI.o w1 b1).mono ?_
    rintro e w2 ⟨rfl, b2⟩
    have b12 := hd (b1.trans (b2.mono b1.size))
    clear b1 b2
    go_wp2_with fail
    refine (HM.o w2 b12.o).mono ?_
    rintro e w3 ⟨b, b2, B, rfl, hz, hT⟩
    have HZ := hd hz
    have HO := hd hT
    clear hz hT b12
    go_wp2_with fail
    refine (twoc_since1 HO.o tok (by have := HZ.o.ml; omega) (by have := HZ.o.log; omega)).mono ?_
    rintro e w4 ⟨l1, e1, A1, c1, rfl, hs1, hr1, hO4, hb4⟩
    have HK := hd (knows HG.o HT.o hs1)
    have HR1 := hd hr1.rds
    have HO4 := hd hO4
    have hle := since_len hs1
    clear hs1 hr1 hO4 hb4 HO
    obtain ⟨q, hq⟩ : ∃ q, l1.length = q := ⟨_, rfl⟩
    have HQ := hd hq
    have hz1 := HZ.o.ml
    have hz2 := HZ.o.log
    rw [hq] at HR1 hle
    simp only [hq]
    have HHO := hd (twoc_hor HO4.o)
    have HLA := hd (twoc_latest HO4.o)
    have HIS := hd HK.o.is
    have HNO := hd HK.o.none
    have HBAD : Hd (s.bad tok = (decide (tok < s.horizon) || decide (s.latest < tok))) := hd rfl
    clear hq
    obtain ⟨ho, hho⟩ : ∃ x, s.horizon = x := ⟨_, rfl⟩
    obtain ⟨la, hla⟩ : ∃ x, s.latest = x := ⟨_, rfl⟩
    rw [hho] at HHO HBAD
    rw [hla] at HLA HBAD
    clear hho hla
    go_upto_region 9 with (fail)
    go_cut [70] from 41 to 70 (fun s70 wx => s70 = .bool false ∧ wx = w4)
    case first =>
      by_cases t0 : tok = 0
      · subst t0
        have he : e1 = 0 := by have h := HIS.o; rw [if_pos (.inl rfl)] at h; exact h
        subst he
        go_wp2
        go_meet
        exact ⟨rfl, rfl⟩
      · have f0 : (tok == 0) = false := by simpa using t0
        by_cases c1 : tok < ho
        · have f1 : decide (ho ≤ tok) = false := by simp; omega
          have he : e1 = 8 := by have h := HIS.o; rw [if_neg (by rw [HBAD.o]; simp [t0, c1])] at h; exact h
          have hl0 : l1 = [] := HNO.o (by rw [he]; decide)
          have hq0 : q = 0 := by rw [← HQ.o, hl0]; rfl
          subst he hq0
          clear t0 c1 hl0
          go_wp2_with fail
          refine HHO.o.mono ?_
          rintro e w5 ⟨rfl, rfl⟩
          go_wp2
          go_meet
          exact ⟨rfl, rfl⟩
        · have f1 : decide (ho ≤ tok) = true := by simp; omega
          by_cases c2 : la < tok
          · have f2 : decide (tok ≤ la) = false := by simp; omega
            have he : e1 = 8 := by have h := HIS.o; rw [if_neg (by rw [HBAD.o]; simp [t0, c2])] at h; exact h
            have hl0 : l1 = [] := HNO.o (by rw [he]; decide)
            have hq0 : q = 0 := by rw [← HQ.o, hl0]; rfl
            subst he hq0
            clear t0 c1 c2 hl0
            go_wp2_with fail
            refine HHO.o.mono ?_
            rintro e w5 ⟨rfl, rfl⟩
            go_wp2_with fail
            refine HLA.o.mono ?_
            rintro e w6 ⟨rfl, rfl⟩
            go_wp2
            go_meet
            exact ⟨rfl, rfl⟩
          · have f2 : decide (tok ≤ la) = true := by simp; omega
            have he : e1 = 0 := by have h := HIS.o; rw [if_pos (.inr (by rw [HBAD.o]; simp [c1, c2]))] at h; exact h
            subst he
            clear t0 c1 c2
            go_wp2_with fail
            refine HHO.o.mono ?_
            rintro e w5 ⟨rfl, rfl⟩
            go_wp2_with fail
            refine HLA.o.mono ?_
            rintro e w6 ⟨rfl, rfl⟩
            go_wp2
            go_meet
            exact ⟨rfl, rfl⟩
    case rest =>
      obtain ⟨rfl, rfl⟩ := hcut
      have HTOLD := hd HK.o.told
      have HNEXT := hd (List.pairwise_iff_getElem.1 HK.o.next)
      have HALL := hd HK.o.all
      clear HHO HLA HIS HNO HBAD
      go_wp2_with fail
      go_loopw [15, 16, 17, 18] (fun i _ _ _ wr => ∃ (k : Nat), i = .int .i64 k ∧ k ≤ q ∧ Hd (TwoC B w wr b b2 s s) ∧ Hd (Rds wr A1 q 4 (itsEnc l1))) (fun i _ _ _ _ => q - (intOf i).toNat)
      case atStart => exact ⟨0, rfl, Nat.zero_le _, HO4, HR1⟩
      case round =>
        clear HO4 HR1
        obtain ⟨k, rfl, hk, HO, HR⟩ := hrel
        have hki : (0 : Int) ≤ (k : Int) := by omega
        by_cases hkq : k < q
        · have hkqi : (k : Int) < (q : Int) := by omega
          have hkl : k < l1.length := by rw [HQ.o]; exact hkq
          obtain ⟨x, hx⟩ : ∃ x, l1[k]'hkl = x := ⟨_, rfl⟩
          have ht := HTOLD.o x (by rw [← hx]; exact List.getElem_mem hkl)
          obtain ⟨g, o, rfl, hg, hc⟩ := HR.o.at_ (by omega)
          have hcell := hd (fun (W : World) (hb : Below wr.heap.size wr W) (t : Nat) (u : Value) (ht : t < 4) (hv : (itEnc x)[t]? = some u) => (hb.cell (p := ⟨g, o + (k * 4 + t), none⟩) hg).trans (hc _ _ ((flat_at itEnc 4 itEnc_len l1 k hkl t ht).trans (by rw [hx]; exact hv))))
          have HKL := hd hkl
          have HX : Hd (l1[k]'HKL.o = x) := hd hx
          have G1 := hd (twoc_get1b HO.o x.uid (by omega))
          obtain ⟨xu, xv, xg, xc⟩ := x
          obtain ⟨tg, tt, tn, tw⟩ := ht
          simp only at tg tt tn tw G1
          have k0 := hcell.o wr (Below.refl _ _) 0 _ (by omega) rfl
          rw [← Nat.add_assoc] at k0
          simp only [Nat.add_zero] at k0
          clear hc hx hkl
          obtain ⟨gv, hgv⟩ : ∃ v, verM s.ml xu = v := ⟨_, rfl⟩
          obtain ⟨gt, hgt⟩ : ∃ v, txtM s.ml xu = v := ⟨_, rfl⟩
          rw [tg, hgv, hgt] at G1
          rw [tg, hgv, hgt] at tt
          rw [tg] at tn
          clear hgv hgt tg
          go_wp2_with fail
          refine G1.o.mono ?_
          rintro e w5 ⟨rfl, hO5, hb5⟩
          have HO5 := hd hO5
          have HR5 := hd (HR.o.below hb5)
          have k1 := hcell.o w5 hb5 1 _ (by omega) rfl
          have k2 := hcell.o w5 hb5 2 _ (by omega) rfl
          have k3 := hcell.o w5 hb5 3 _ (by omega) rfl
          rw [← Nat.add_assoc] at k1 k2 k3
          clear hO5 hb5 k0
          go_upto_region 15 with (fail)
          go_cut [140] from 88 to 140 (fun s140 wx => s140 = .bool false ∧ wx = w5)
          case first =>
            cases xg with
            | true =>
              obtain rfl : xc = [] := tn rfl
              have k3' : w5.cell? ⟨g, o + k * 4 + 3, none⟩ = some (.string ⟨#[]⟩) := k3
              clear k3 tt tn
              by_cases t0 : tok = 0
              · have f0 : (tok != 0) = false := by simpa using t0
                clear t0 tw
                go_wp2
                go_meet
                exact ⟨rfl, rfl⟩
              · have f0 : (tok != 0) = true := by simpa using t0
                have f1 : decide (xv ≤ tok) = false := by have := tw t0; simp; omega
                clear t0 tw
                go_wp2
                go_meet
                exact ⟨rfl, rfl⟩
            | false =>
              obtain ⟨rfl, rfl⟩ := tt rfl
              have f2 : (gv != gv) = false := by simp
              clear tt tn
              by_cases t0 : tok = 0
              · have f0 : (tok != 0) = false := by simpa using t0
                clear t0 tw
                go_wp2
                go_meet
                exact ⟨rfl, rfl⟩
              · have f0 : (tok != 0) = true := by simpa using t0
                have f1 : decide (gv ≤ tok) = false := by have := tw t0; simp; omega
                clear t0 tw
                go_wp2
                go_meet
                exact ⟨rfl, rfl⟩
          case rest =>
            obtain ⟨rfl, rfl⟩ := hcut
            clear k1 k2 k3 tt tn tw
            obtain ⟨g', o', hA', hg', hc'⟩ := HR5.o.at_ (by omega)
            injection hA' with hA'
            injection hA' with hgg hoo
            subst hgg hoo
            have hall : ∀ (t : Nat) (ht : t < l1.length) (z : Nat) (u : Value), z < 4 → (itEnc l1[t])[z]? = some u → wc.cell? ⟨g, o + (t * 4 + z), none⟩ = some u := fun t ht z u hz hv => hc' _ _ ((flat_at itEnc 4 itEnc_len l1 t ht z hz).trans hv)
            clear hc'
            rcases k with _ | j
            · clear hall
              go_wp2_with fail
              go_quiet (fail)
              go_wp2
              go_roundw
              case rel => exact ⟨0 + 1, by go_num, by omega, hd (HO5.o.drewN _), hd (HR5.o.drewN _)⟩
              case measure => simp [intOf]; omega
            · have hjl : j < l1.length := Nat.lt_of_succ_lt HKL.o
              have hnx := HNEXT.o j (j + 1) hjl HKL.o (Nat.lt_succ_self j)
              have x0 := hall (j + 1) HKL.o 0 _ (by omega) (by rw [HX.o]; rfl)
              have x1 := hall (j + 1) HKL.o 1 _ (by omega) (by rw [HX.o]; rfl)
              rw [HX.o] at hnx
              obtain ⟨y, hy⟩ : ∃ y, l1[j]'hjl = y := ⟨_, rfl⟩
              have y0 := hall j hjl 0 _ (by omega) (by rw [hy]; rfl)
              have y1 := hall j hjl 1 _ (by omega) (by rw [hy]; rfl)
              rw [hy] at hnx
              obtain ⟨yu, yv, yg, yc⟩ := y
              simp only [Next] at hnx
              rw [← Nat.add_assoc] at x0 x1 y0 y1
              simp only [Nat.add_zero] at x0 y0
              have hji : (0 : Int) ≤ (j : Int) := by omega
              have hjqi : (j : Int) < (q : Int) := by omega
              have hj1 : (0 : Int) < (j : Int) + 1 := by omega
              clear hall hy hjl
              by_cases v1 : yv < xv
              · have f1 : decide (xv < yv) = false := by simp; omega
                have f2 : (yv == xv) = false := by simp; omega
                clear hnx v1
                go_wp2_with fail
                go_quiet (fail)
                go_wp2
                go_roundw
                case rel => exact ⟨j + 1 + 1, by go_num, by omega, hd (HO5.o.drewN _), hd (HR5.o.drewN _)⟩
                case measure => simp [intOf]; omega
              · have hc2 : yv = xv ∧ compareBytes yu xu < 0 := hnx.resolve_left v1
                have f1 : decide (xv < yv) = false := by simp; omega
                have f2 : (yv == xv) = true := by simpa using hc2.1
                have f3 : Op.bytesLess (bs yu).toList (bs xu).toList = true := by rw [rstr_less, geq_dec]; simpa using hc2.2
                clear hnx v1 hc2
                go_wp2_with fail
                go_quiet (fail)
                go_wp2
                go_roundw
                case rel => exact ⟨j + 1 + 1, by go_num, by omega, hd (HO5.o.drewN _), hd (HR5.o.drewN _)⟩
                case measure => simp [intOf]; omega
        · obtain rfl : k = q := by omega
          have d1 : decide ((k : Int) < (k : Int)) = false := by simp
          by_cases t0 : tok = 0
          · have f0 : (tok != 0) = false := by simpa using t0
            have hal := HALL.o t0
            rw [HQ.o] at hal
            have HL := hd (twoc_len HO.o)
            rw [← hal] at HL
            have f1 : ((k : Int) == (k : Int)) = true := by simp
            clear t0 hal
            go_wp2_with fail
            refine HL.o.mono ?_
            rintro e w5 ⟨rfl, rfl⟩
            go_wp2
            go_ret
            exact ⟨rfl, HO.o.below⟩
          · have f0 : (tok != 0) = true := by simpa using t0
            clear t0
            go_wp2
            go_ret
            exact ⟨rfl, HO.o.below⟩

end Go.Proofs.Ytbeckfnhgeclnaa
