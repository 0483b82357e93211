/-
  Check, the reference's.
-/
import Derived.Test.YtbeckfnhgeclnaaChkA
import Derived.Test.YtbeckfnhgeclnaaRColA
import Derived.Deep.CutRange
import Derived.Deep.Cut
set_option linter.unusedVariables false
set_option linter.unusedSimpArgs false
namespace Go.Proofs.Ytbeckfnhgeclnaa
open Go.RowKit Go.Lib

theorem uidIn_take (l : List OpV) (u : List UInt8) (i : Nat) (h : i < l.length) : uidIn (l.take (i + 1)) u = (uidIn (l.take i) u || decide (l[i].uid = u)) := by
  rw [List.take_succ_eq_append_getElem h, uidIn_snoc]
theorem uidIn_at (l : List OpV) (u : List UInt8) (k i : Nat) (h : i < l.length) (hik : i < k) (he : l[i].uid = u) : uidIn (l.take k) u = true := by
  unfold uidIn
  rw [List.any_eq_true]
  refine ⟨l[i], ?_, by simpa using he⟩
  have : i < (l.take k).length := by rw [List.length_take]; omega
  have h2 := List.getElem_mem this
  rwa [List.getElem_take] at h2

set_option maxRecDepth 100000 in
set_option maxHeartbeats 8000000 in
theorem rcheck_calls (w : World) (S : Nat → Prop) (b : Nat) (s : Cs) (A : Option Addr) (n c : Nat) (l : List OpV) (room : Int) (h : RCol w S b s) (hri : Rising s.ml) (hl : s.ml.length ≤ 1000000) (hby : bytesM s.ml ≤ 1000000) (hr : Rds w A n 5 (opsE l)) (hn : n = l.length) (hf : fewP l = true) :
    Calls Try.prog 55 #[.pointer (some ⟨b, 0, none⟩), .slice A n c, .int .i64 room] w fun e w' => e = .returned (.tuple #[.int .i64 (chkG s room [] l (s.ml.length : Nat) 0).1, .int .i64 (chkG s room [] l (s.ml.length : Nat) 0).2.1, .int .i64 (chkG s room [] l (s.ml.length : Nat) 0).2.2]) ∧ Below w.heap.size w w' := by
  have hn20 : n ≤ 20 := by rw [hn]; exact fewP_len hf
  have HE := hd (fewP_each hf)
  have HR := hd hr
  have HN := hd hn
  have HGET := hd (fun (w' : World) (hb : Below w.heap.size w w') (u : List UInt8) => rcget_calls w' S b s u (h.below hb) hri hl)
  have HMO := hd (fun (w' : World) (hb : Below w.heap.size w w') => (by
    obtain ⟨A, c, A2, c2, h1, _⟩ := h.below hb
    exact h1.at_ 0 rfl : w'.cell? ⟨b, 0, none⟩ = some (.int .i64 s.most)))
  have HTX := hd (fun u => txtM_le (ml := s.ml) u)
  have y2 : ∃ A1 c1, w.cell? ⟨b, 2, none⟩ = some (.slice A1 s.ml.length c1) := by
    obtain ⟨A, c, A2, c2, h1, _⟩ := h
    rw [liveL_len] at h1
    exact ⟨_, _, h1.at_ 2 rfl⟩
  obtain ⟨A1, c1, y2⟩ := y2
  obtain ⟨R, hR⟩ : ∃ R, chkG s room [] l (s.ml.length : Nat) 0 = R := ⟨_, rfl⟩
  obtain ⟨m0, hm0⟩ : ∃ m, s.ml.length = m := ⟨_, rfl⟩
  rw [hR]
  rw [hm0] at hR hl y2
  have HRR := hd hR
  clear h hr hn hf hR hm0 hri
  go_enter Try.func55, Try.ntmps55
  go_wp2_with fail
  clear y2
  go_loopw [11, 10, 9, 6, 7, 8, 12, 13, 14, 15] (fun i sg sm _ _ _ _ _ _ _ wr => ∃ (k : Nat) (g m : Int), i = .int .i64 k ∧ sg = .int .i64 g ∧ sm = .int .i64 m ∧ k ≤ n ∧ (m0 : Int) - k ≤ m ∧ m ≤ m0 + k ∧ -(2000000 * (k : Int)) ≤ g ∧ g ≤ 2000000 * (k : Int) ∧ Hd (R = chkG s room (l.take k) (l.drop k) m g) ∧ Hd (Below w.heap.size w wr)) (fun i _ _ _ _ _ _ _ _ _ _ => n - (intOf i).toNat)
  case atStart => exact ⟨0, 0, _, rfl, rfl, rfl, Nat.zero_le _, by omega, by omega, by omega, by omega, hd (by rw [List.take_zero, List.drop_zero]; exact HRR.o.symm), hd (Below.refl _ _)⟩
  case round =>
    obtain ⟨k, g, m, rfl, rfl, rfl, hk, hm1, hm2, hg1, hg2, HRE, HB⟩ := hrel
    have hki : (0 : Int) ≤ (k : Int) := by omega
    by_cases hlt : k < n
    · have hlti : (k : Int) < (n : Int) := by omega
      have hkl : k < l.length := by rw [← HN.o]; exact hlt
      obtain ⟨ga, oa, rfl, hga, hc⟩ := HR.o.at_ (by omega)
      obtain ⟨x, hx⟩ : ∃ x, l[k]'hkl = x := ⟨_, rfl⟩
      have hxs := HE.o x (by rw [← hx]; exact List.getElem_mem hkl)
      have HCELL := hd (fun (W : World) (hW : Below w.heap.size w W) (j : Nat) (u : Value) (hj : j < 5) (hv : (opEnc x)[j]? = some u) => (hW.cell (p := ⟨ga, oa + (k * 5 + j), none⟩) hga).trans (hc _ _ ((opsE_at l k hkl j hj).trans (by rw [hx]; exact hv))))
      have HPRE := hd (fun (W : World) (hW : Below w.heap.size w W) (i : Nat) (hi : i < l.length) => (hW.cell (p := ⟨ga, oa + (i * 5 + 1), none⟩) hga).trans (hc _ _ ((opsE_at l i hi 1 (by omega)).trans rfl)))
      have HERR : Hd (∀ e, chkO s room (l.take k) x m g = .inl e → R = ((k : Int), 0, e)) := hd (fun e he => by rw [HRE.o]; exact chkG_err hkl (by rw [hx]; exact he))
      have HOK : Hd (∀ p, chkO s room (l.take k) x m g = .inr p → R = chkG s room (l.take (k + 1)) (l.drop (k + 1)) p.1 p.2) := hd (fun p hp => by rw [HRE.o]; exact chkG_ok hkl (by rw [hx]; exact hp))
      have HKL := hd hkl
      obtain ⟨xd, xu, xc, xk, xv⟩ := x
      have hco : chkO s room (l.take k) ⟨xd, xu, xc, xk, xv⟩ m g = (if uidIn (l.take k) xu = true then .inl 11 else if holdsP xk xv (hasM s.ml xu) (verM s.ml xu) = false then .inl 6 else if xd = true ∧ hasM s.ml xu = false then .inl 4 else if s.most < (if hasM s.ml xu = true then m - 1 else m) + (if xd = true then 0 else 1) ∨ room < (if hasM s.ml xu = true then g - ((txtM s.ml xu).length : Int) else g) + (if xd = true then 0 else (xc.length : Int)) then .inl 7 else .inr ((if hasM s.ml xu = true then m - 1 else m) + (if xd = true then 0 else 1), (if hasM s.ml xu = true then g - ((txtM s.ml xu).length : Int) else g) + (if xd = true then 0 else (xc.length : Int)))) := rfl
      have HG := hd (fun w' hb => HGET.o w' hb xu)
      have htz0 := HTX.o xu
      obtain ⟨th, hth⟩ : ∃ q, hasM s.ml xu = q := ⟨_, rfl⟩
      obtain ⟨gv, hgv⟩ : ∃ q, verM s.ml xu = q := ⟨_, rfl⟩
      obtain ⟨gt, hgt⟩ : ∃ q, txtM s.ml xu = q := ⟨_, rfl⟩
      obtain ⟨tz, htz⟩ : ∃ q, gt.length = q := ⟨_, rfl⟩
      obtain ⟨cz, hcz⟩ : ∃ q, xc.length = q := ⟨_, rfl⟩
      obtain ⟨hh, hhh⟩ : ∃ q, holdsP xk xv th gv = q := ⟨_, rfl⟩
      rw [hth, hgv, hgt, hhh, htz, hcz] at hco
      rw [hth, hgv, hgt] at HG
      rw [hgt, htz] at htz0
      have HHO := hd (fun (W : World) => rholds_calls W xk xv th gv)
      rw [hhh] at HHO
      have hst : (bs gt).size = tz := by rw [bs_sz, htz]
      have hsc : (bs xc).size = cz := by rw [bs_sz, hcz]
      simp only [hcz] at hxs
      have hcz2 : cz ≤ 1000 := hxs.2
      have htz2 : (tz : Int) ≤ 1000000 := by omega
      have HCO := hd hco
      clear hc hx hkl hco hth hgv hgt htz hcz hhh htz0 hxs
      obtain ⟨wo, rfl⟩ : ∃ wo : World, wo = wr := ⟨_, rfl⟩
      go_wp2_with fail
      go_loopw [12, 6, 7, 8] (fun j _ _ _ wr => ∃ (q : Nat), j = .int .i64 q ∧ q ≤ k ∧ Hd (uidIn (l.take q) xu = false) ∧ Hd (∃ z, wr = wo.drewN z)) (fun j _ _ _ _ => k - (intOf j).toNat)
      case atStart => exact ⟨0, rfl, Nat.zero_le _, hd rfl, hd ⟨0, rfl⟩⟩
      case round =>
        obtain ⟨q, rfl, hq, HU, HZ⟩ := hrel
        have hqi : (0 : Int) ≤ (q : Int) := by omega
        have HBi : Hd (Below w.heap.size w wr) := hd (by obtain ⟨z, rfl⟩ := HZ.o; exact bdrewN HB.o z)
        have k1 := HCELL.o wr HBi.o 1 _ (by omega) rfl
        rw [← Nat.add_assoc] at k1
        by_cases hqk : q < k
        · have hqki : (q : Int) < (k : Int) := by omega
          have hqni : (q : Int) < (n : Int) := by omega
          have hql : q < l.length := by have := HKL.o; omega
          have p1 := HPRE.o wr HBi.o q hql
          rw [← Nat.add_assoc] at p1
          obtain ⟨y, hy⟩ : ∃ y, l[q]'hql = y := ⟨_, rfl⟩
          have hsn := uidIn_take l xu q hql
          have HAT := hd (uidIn_at l xu k q hql hqk)
          rw [hy] at p1 hsn HAT
          rw [HU.o, Bool.false_or] at hsn
          obtain ⟨yd, yu, yc, yk, yv⟩ := y
          simp only [opEnc] at p1 hsn HAT
          have p1 : wr.cell? ⟨ga, oa + q * 5 + 1, none⟩ = some (.string (bs yu)) := p1
          have heq := rstr_eq yu xu
          obtain ⟨be, hbe⟩ : ∃ be : Bool, decide (yu = xu) = be := ⟨_, rfl⟩
          rw [hbe] at heq hsn
          have HSN := hd hsn
          have HBE := hd hbe
          clear hsn hy hql hbe
          cases be with
          | true =>
            have HF := hd (HERR.o 11 (by rw [HCO.o, if_pos (HAT.o (by simpa using HBE.o))]))
            clear HCO HERR HOK
            go_wp2_with fail
            go_quiet (fail)
            go_wp2
            go_ret3
            exact ⟨by rw [HF.o]; rfl, bdrewN HBi.o _⟩
          | false =>
            go_wp2_with fail
            go_quiet (fail)
            go_wp2
            go_roundw
            case rel => exact ⟨q + 1, by go_num, by omega, HSN, hd (by obtain ⟨z, hz⟩ := HZ.o; exact ⟨_, by rw [hz, drewN_add]⟩)⟩
            case measure => simp [intOf]; omega
        · obtain rfl : q = k := by omega
          have d1 : decide ((q : Int) < (q : Int)) = false := by simp
          have HCO2 := hd HCO.o
          rw [if_neg (by rw [HU.o]; simp)] at HCO2
          clear HCO HU HZ
          have HCO := hd HCO2.o
          clear HCO2
          go_wp2_with fail
          refine (HG.o _ HBi.o).mono ?_
          rintro e w2 ⟨rfl, qq, hqq⟩
          have HB3 : Hd (Below w.heap.size w w2) := hd (by rw [hqq]; exact bdrewN HBi.o _)
          clear hqq k1
          have x3 := HCELL.o w2 HB3.o 3 _ (by omega) rfl
          have x4 := HCELL.o w2 HB3.o 4 _ (by omega) rfl
          rw [← Nat.add_assoc] at x3 x4
          go_wp2_with fail
          refine (HHO.o _).mono ?_
          rintro e w3 ⟨rfl, hb4⟩
          have HB4 := hd (HB3.o.trans (hb4.mono HB3.o.size))
          clear hb4 x3 x4
          cases hh with
          | false =>
            have HF := hd (HERR.o 6 (by rw [HCO.o]; rfl))
            clear HCO HERR HOK
            go_wp2
            go_ret3
            exact ⟨by rw [HF.o]; rfl, HB4.o⟩
          | true =>
            have x0 := HCELL.o w3 HB4.o 0 _ (by omega) rfl
            have x2 := HCELL.o w3 HB4.o 2 _ (by omega) rfl
            have x9 := HMO.o _ HB4.o
            rw [← Nat.add_assoc] at x0 x2
            rw [Nat.add_zero] at x0
            cases xd with
            | true =>
              cases th with
              | false =>
                have HF := hd (HERR.o 4 (by rw [HCO.o]; rfl))
                clear HCO HERR HOK
                go_wp2
                go_ret3
                exact ⟨by rw [HF.o]; rfl, HB4.o⟩
              | true =>
                have hco : chkO s room (l.take q) ⟨true, xu, xc, xk, xv⟩ m g = if s.most < m - 1 ∨ room < g - (tz : Int) then .inl 7 else .inr (m - 1, g - (tz : Int)) := by rw [HCO.o]; simp
                by_cases q1 : s.most < m - 1
                · have f1 : decide (s.most < m - 1) = true := by simpa using q1
                  have HF := hd (HERR.o 7 (by rw [hco, if_pos (.inl q1)]))
                  clear HCO HERR HOK hco q1
                  go_wp2
                  go_ret3
                  exact ⟨by rw [HF.o]; rfl, HB4.o⟩
                · have f1 : decide (s.most < m - 1) = false := by simpa using q1
                  by_cases q2 : room < g - (tz : Int)
                  · have f2 : decide (room < g - (tz : Int)) = true := by simpa using q2
                    have HF := hd (HERR.o 7 (by rw [hco, if_pos (.inr q2)]))
                    clear HCO HERR HOK hco q1 q2
                    go_wp2
                    go_ret3
                    exact ⟨by rw [HF.o]; rfl, HB4.o⟩
                  · have f2 : decide (room < g - (tz : Int)) = false := by simpa using q2
                    have HF := hd (HOK.o _ (by rw [hco, if_neg (by rintro (h | h); exact q1 h; exact q2 h)]))
                    clear HCO HERR HOK hco q1 q2
                    go_wp2
                    go_roundw
                    case rel => exact ⟨q + 1, _, _, by go_num, rfl, rfl, by omega, by omega, by omega, by omega, by omega, HF, HB4⟩
                    case measure => simp [intOf]; omega
            | false =>
              cases th with
              | true =>
                have hco : chkO s room (l.take q) ⟨false, xu, xc, xk, xv⟩ m g = if s.most < m ∨ room < g - (tz : Int) + (cz : Int) then .inl 7 else .inr (m, g - (tz : Int) + (cz : Int)) := by rw [HCO.o]; simp
                by_cases q1 : s.most < m
                · have f1 : decide (s.most < m) = true := by simpa using q1
                  have HF := hd (HERR.o 7 (by rw [hco, if_pos (.inl q1)]))
                  clear HCO HERR HOK hco q1
                  go_wp2
                  go_ret3
                  exact ⟨by rw [HF.o]; rfl, HB4.o⟩
                · have f1 : decide (s.most < m) = false := by simpa using q1
                  by_cases q2 : room < g - (tz : Int) + (cz : Int)
                  · have f2 : decide (room < g - (tz : Int) + (cz : Int)) = true := by simpa using q2
                    have HF := hd (HERR.o 7 (by rw [hco, if_pos (.inr q2)]))
                    clear HCO HERR HOK hco q1 q2
                    go_wp2
                    go_ret3
                    exact ⟨by rw [HF.o]; rfl, HB4.o⟩
                  · have f2 : decide (room < g - (tz : Int) + (cz : Int)) = false := by simpa using q2
                    have HF := hd (HOK.o _ (by rw [hco, if_neg (by rintro (h | h); exact q1 h; exact q2 h)]))
                    clear HCO HERR HOK hco q1 q2
                    go_wp2
                    go_roundw
                    case rel => exact ⟨q + 1, _, _, by go_num, rfl, rfl, by omega, by omega, by omega, by omega, by omega, HF, HB4⟩
                    case measure => simp [intOf]; omega
              | false =>
                have hco : chkO s room (l.take q) ⟨false, xu, xc, xk, xv⟩ m g = if s.most < m + 1 ∨ room < g + (cz : Int) then .inl 7 else .inr (m + 1, g + (cz : Int)) := by rw [HCO.o]; simp
                by_cases q1 : s.most < m + 1
                · have f1 : decide (s.most < m + 1) = true := by simpa using q1
                  have HF := hd (HERR.o 7 (by rw [hco, if_pos (.inl q1)]))
                  clear HCO HERR HOK hco q1
                  go_wp2
                  go_ret3
                  exact ⟨by rw [HF.o]; rfl, HB4.o⟩
                · have f1 : decide (s.most < m + 1) = false := by simpa using q1
                  by_cases q2 : room < g + (cz : Int)
                  · have f2 : decide (room < g + (cz : Int)) = true := by simpa using q2
                    have HF := hd (HERR.o 7 (by rw [hco, if_pos (.inr q2)]))
                    clear HCO HERR HOK hco q1 q2
                    go_wp2
                    go_ret3
                    exact ⟨by rw [HF.o]; rfl, HB4.o⟩
                  · have f2 : decide (room < g + (cz : Int)) = false := by simpa using q2
                    have HF := hd (HOK.o _ (by rw [hco, if_neg (by rintro (h | h); exact q1 h; exact q2 h)]))
                    clear HCO HERR HOK hco q1 q2
                    go_wp2
                    go_roundw
                    case rel => exact ⟨q + 1, _, _, by go_num, rfl, rfl, by omega, by omega, by omega, by omega, by omega, HF, HB4⟩
                    case measure => simp [intOf]; omega
    · obtain rfl : k = n := by omega
      have HF : Hd (R = (0, g, 0)) := hd (by rw [HRE.o, List.drop_eq_nil_of_le (by rw [← HN.o]; exact Nat.le_refl _)]; rfl)
      go_wp2
      go_ret3
      exact ⟨by rw [HF.o]; rfl, HB.o⟩

end Go.Proofs.Ytbeckfnhgeclnaa
