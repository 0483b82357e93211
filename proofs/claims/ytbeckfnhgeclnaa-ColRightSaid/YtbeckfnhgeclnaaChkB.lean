/-
  Check, the program's.
-/
import Derived.Test.YtbeckfnhgeclnaaChkA
import Derived.Test.YtbeckfnhgeclnaaColF
set_option linter.unusedVariables false
set_option linter.unusedSimpArgs false
namespace Go.Proofs.Ytbeckfnhgeclnaa
open Go.RowKit Go.Lib

theorem Rds.takeO {w : World} {A : Option Addr} {n : Nat} {l : List OpV} (h : Rds w A n 5 (opsE l)) (hn : n = l.length) (m : Nat) (hm : m ≤ n) : Rds w A m 5 (opsE (l.take m)) := by
  have hfl : (opsE (l.take m)).length = (l.take m).length * 5 := flat_length opEnc 5 opEnc_len' _
  refine ⟨by rw [hfl, List.length_take]; congr 1; omega, fun h0 => ?_⟩
  obtain ⟨g, o, hA, hg, hc⟩ := h.at_ (by omega)
  refine ⟨g, o, hA, hg, fun j u hu => hc j u ?_⟩
  have e : opsE (l.take m) = (opsE l).take (m * 5) := (flat_take opEnc 5 opEnc_len' l m).symm
  rw [e, List.getElem?_take] at hu
  split at hu
  · exact hu
  · cases hu

set_option maxRecDepth 100000 in
set_option maxHeartbeats 8000000 in
theorem check_calls (w : World) (S : Nat → Prop) (b : Nat) (s : Cs) (A : Option Addr) (n c : Nat) (l : List OpV) (room : Int) (h : ColR w S b s) (hl : s.ml.length ≤ 1000000) (hby : bytesM s.ml ≤ 1000000) (hr : Rds w A n 5 (opsE l)) (hn : n = l.length) (hnc : n ≤ c) (hf : fewP l = true) :
    Calls Try.prog 54 #[.pointer (some ⟨b, 0, none⟩), .slice A n c, .int .i64 room] w fun e w' => e = .returned (.tuple #[.int .i64 (chkG s room [] l (s.ml.length : Nat) 0).1, .int .i64 (chkG s room [] l (s.ml.length : Nat) 0).2.1, .int .i64 (chkG s room [] l (s.ml.length : Nat) 0).2.2]) ∧ Below w.heap.size w w' := by
  have hn20 : n ≤ 20 := by rw [hn]; exact fewP_len hf
  have HE := hd (fewP_each hf)
  have HR := hd hr
  have HN := hd hn
  have HLEN := hd (clen_calls w S b s h)
  have HGET := hd (fun (w' : World) (hb : Below w.heap.size w w') (u : List UInt8) => cget_calls w' S b s u (h.below hb) hl)
  have HMO := hd (fun (w' : World) (hb : Below w.heap.size w w') => (by
    obtain ⟨mb, rb, S1, S2, h1, _⟩ := h.below hb
    exact h1.at_ 2 rfl : w'.cell? ⟨b, 2, none⟩ = some (.int .i64 s.most)))
  have HTX := hd (fun u => txtM_le (ml := s.ml) u)
  obtain ⟨R, hR⟩ : ∃ R, chkG s room [] l (s.ml.length : Nat) 0 = R := ⟨_, rfl⟩
  obtain ⟨m0, hm0⟩ : ∃ m, s.ml.length = m := ⟨_, rfl⟩
  rw [hR]
  rw [hm0] at HLEN hR hl
  have HRR := hd hR
  clear h hr hn hf hR hm0
  go_enter Try.func54, Try.ntmps54
  go_wp2_with fail
  refine HLEN.o.mono ?_
  rintro e w1 ⟨rfl, rfl⟩
  go_wp2_with fail
  go_loopw [19, 7, 9, 6, 8, 10, 11, 12, 13, 14] (fun i sg sm _ _ _ _ _ _ _ wr => ∃ (k : Nat) (g m : Int), i = .int .i64 k ∧ sg = .int .i64 g ∧ sm = .int .i64 m ∧ k ≤ n ∧ (m0 : Int) - k ≤ m ∧ m ≤ m0 + k ∧ -(2000000 * (k : Int)) ≤ g ∧ g ≤ 2000000 * (k : Int) ∧ Hd (R = chkG s room (l.take k) (l.drop k) m g) ∧ Hd (Below w.heap.size w wr)) (fun i _ _ _ _ _ _ _ _ _ _ => n - (intOf i).toNat)
  case atStart => exact ⟨0, 0, _, rfl, rfl, rfl, Nat.zero_le _, by omega, by omega, by omega, by omega, hd (by rw [List.take_zero, List.drop_zero]; exact HRR.o.symm), hd (Below.refl _ _)⟩
  case round =>
    obtain ⟨k, g, m, rfl, rfl, rfl, hk, hm1, hm2, hg1, hg2, HRE, HB⟩ := hrel
    have hki : (0 : Int) ≤ (k : Int) := by omega
    by_cases hlt : k < n
    · have hlti : (k : Int) < (n : Int) := by omega
      have hkl : k < l.length := by rw [← HN.o]; exact hlt
      obtain ⟨ga, oa, rfl, hga, hc⟩ := HR.o.at_ (by omega)
      obtain ⟨x, hx⟩ : ∃ x, l[k]'hkl = x := ⟨_, rfl⟩
      have hxs := HE.o x (by rw [← hx]; exact List.getElem_mem hkl)
      have hcell : ∀ j u, j < 5 → (opEnc x)[j]? = some u → wr.cell? ⟨ga, oa + (k * 5 + j), none⟩ = some u := fun j u hj hv => (HB.o.cell (p := ⟨ga, oa + (k * 5 + j), none⟩) hga).trans (hc _ _ ((opsE_at l k hkl j hj).trans (by rw [hx]; exact hv)))
      have HERR : Hd (∀ e, chkO s room (l.take k) x m g = .inl e → R = ((k : Int), 0, e)) := hd (fun e he => by rw [HRE.o]; exact chkG_err hkl (by rw [hx]; exact he))
      have HOK : Hd (∀ p, chkO s room (l.take k) x m g = .inr p → R = chkG s room (l.take (k + 1)) (l.drop (k + 1)) p.1 p.2) := hd (fun p hp => by rw [HRE.o]; exact chkG_ok hkl (by rw [hx]; exact hp))
      obtain ⟨xd, xu, xc, xk, xv⟩ := x
      have k0 := hcell 0 _ (by omega) rfl
      have k1 := hcell 1 _ (by omega) rfl
      have k2 := hcell 2 _ (by omega) rfl
      have k3 := hcell 3 _ (by omega) rfl
      have k4 := hcell 4 _ (by omega) rfl
      rw [← Nat.add_assoc] at k0 k1 k2 k3 k4
      rw [Nat.add_zero] at k0
      have hbx : Blk (wr.alloc (.cells #[.bool xd, .string (bs xu), .string (bs xc), .int .i64 xk, .int .i64 xv] 65)) wr.heap.size 65 #[.bool xd, .string (bs xu), .string (bs xc), .int .i64 xk, .int .i64 xv] := Blk.new wr 65 _
      have hb1 : Below w.heap.size w (wr.alloc (.cells #[.bool xd, .string (bs xu), .string (bs xc), .int .i64 xk, .int .i64 xv] 65)) := HB.o.alloc HB.o.size _
      have HCF := hd (cfO_calls _ (some ⟨ga, oa, none⟩) k c (l.take k) wr.heap.size xu ((HR.o.below hb1).takeO HN.o k hk) (by rw [List.length_take]; omega) (by omega) (hbx.at_ 1 rfl) hbx.lt)
      have HBX := hd hbx
      have HB1 := hd hb1
      have hco : chkO s room (l.take k) ⟨xd, xu, xc, xk, xv⟩ m g = (if uidIn (l.take k) xu = true then .inl 11 else if holdsP xk xv (hasM s.ml xu) (verM s.ml xu) = false then .inl 6 else if xd = true ∧ hasM s.ml xu = false then .inl 4 else if s.most < (if hasM s.ml xu = true then m - 1 else m) + (if xd = true then 0 else 1) ∨ room < (if hasM s.ml xu = true then g - ((txtM s.ml xu).length : Int) else g) + (if xd = true then 0 else (xc.length : Int)) then .inl 7 else .inr ((if hasM s.ml xu = true then m - 1 else m) + (if xd = true then 0 else 1), (if hasM s.ml xu = true then g - ((txtM s.ml xu).length : Int) else g) + (if xd = true then 0 else (xc.length : Int)))) := rfl
      have HG := hd (fun w' hb => HGET.o w' hb xu)
      have htz0 := HTX.o xu
      have htn : hasM s.ml xu = false → txtM s.ml xu = [] := txt_none
      obtain ⟨bq, hbq⟩ : ∃ q, uidIn (l.take k) xu = q := ⟨_, rfl⟩
      obtain ⟨th, hth⟩ : ∃ q, hasM s.ml xu = q := ⟨_, rfl⟩
      obtain ⟨gv, hgv⟩ : ∃ q, verM s.ml xu = q := ⟨_, rfl⟩
      obtain ⟨gt, hgt⟩ : ∃ q, txtM s.ml xu = q := ⟨_, rfl⟩
      obtain ⟨tz, htz⟩ : ∃ q, gt.length = q := ⟨_, rfl⟩
      obtain ⟨cz, hcz⟩ : ∃ q, xc.length = q := ⟨_, rfl⟩
      obtain ⟨hh, hhh⟩ : ∃ q, holdsP xk xv th gv = q := ⟨_, rfl⟩
      rw [hbq, hth, hgv, hgt, hhh, htz, hcz] at hco
      rw [hth, hgv, hgt] at HG
      rw [hgt, htz] at htz0
      rw [hbq] at HCF
      have HHO := hd (fun (W : World) => holds_calls W xk xv th gv)
      rw [hhh] at HHO
      have hst : (bs gt).size = tz := by rw [bs_sz, htz]
      have hsc : (bs xc).size = cz := by rw [bs_sz, hcz]
      simp only [hcz] at hxs
      have hcz2 : cz ≤ 1000 := hxs.2
      have htz2 : (tz : Int) ≤ 1000000 := by omega
      have HCO := hd hco
      clear hcell hc hx hkl hbx hb1 hco hbq hth hgv hgt htz hcz hhh htz0 htn hxs
      go_wp2_with fail
      refine HCF.o.mono ?_
      rintro e w1 ⟨rfl, hb2⟩
      have HBX1 := hd (HBX.o.below hb2 (by simp))
      have HB2 := hd (HB1.o.trans (hb2.mono HB1.o.size))
      clear hb2 k0 k1 k2 k3 k4
      cases bq with
      | true =>
        have HF := hd (HERR.o 11 (by rw [HCO.o]; rfl))
        clear HCO HERR HOK
        go_wp2
        go_ret3
        exact ⟨by rw [HF.o]; rfl, HB2.o⟩
      | false =>
        have x1 := HBX1.o.at_ 1 rfl
        go_wp2_with fail
        refine (HG.o _ HB2.o).mono ?_
        rintro e w2 ⟨rfl, hb3⟩
        have HBX2 := hd (HBX1.o.below hb3 HBX1.o.lt)
        have HB3 := hd (HB2.o.trans (hb3.mono HB2.o.size))
        clear hb3 x1
        have x3 := HBX2.o.at_ 3 rfl
        have x4 := HBX2.o.at_ 4 rfl
        go_wp2_with fail
        refine (HHO.o _).mono ?_
        rintro e w3 ⟨rfl, hb4⟩
        have HBX3 := hd (HBX2.o.below hb4 HBX2.o.lt)
        have HB4 := hd (HB3.o.trans (hb4.mono HB3.o.size))
        clear hb4 x3 x4
        cases hh with
        | false =>
          have HF := hd (HERR.o 6 (by rw [HCO.o]; rfl))
          clear HCO HERR HOK
          go_wp2
          go_ret3
          exact ⟨by rw [HF.o]; rfl, HB4.o⟩
        | true =>
          have x0 := HBX3.o.at_ 0 rfl
          have x2 := HBX3.o.at_ 2 rfl
          have x9 := HMO.o _ HB4.o
          cases xd with
          | true =>
            cases th with
            | false =>
              have HF := hd (HERR.o 4 (by rw [HCO.o]; rfl))
              clear HCO HERR HOK
              go_wp2
              go_ret3
              exact ⟨by rw [HF.o]; rfl, HB4.o⟩
            | true =>
              have hco : chkO s room (l.take k) ⟨true, xu, xc, xk, xv⟩ m g = if s.most < m - 1 ∨ room < g - (tz : Int) then .inl 7 else .inr (m - 1, g - (tz : Int)) := by rw [HCO.o]; simp
              by_cases q1 : s.most < m - 1
              · have f1 : decide (s.most < m - 1) = true := by simpa using q1
                have HF := hd (HERR.o 7 (by rw [hco, if_pos (.inl q1)]))
                clear HCO HERR HOK hco q1
                go_wp2
                go_ret3
                exact ⟨by rw [HF.o]; rfl, HB4.o⟩
              · have f1 : decide (s.most < m - 1) = false := by simpa using q1
                by_cases q2 : room < g - (tz : Int)
                · have f2 : decide (room < g - (tz : Int)) = true := by simpa using q2
                  have HF := hd (HERR.o 7 (by rw [hco, if_pos (.inr q2)]))
                  clear HCO HERR HOK hco q1 q2
                  go_wp2
                  go_ret3
                  exact ⟨by rw [HF.o]; rfl, HB4.o⟩
                · have f2 : decide (room < g - (tz : Int)) = false := by simpa using q2
                  have HF := hd (HOK.o _ (by rw [hco, if_neg (by rintro (h | h); exact q1 h; exact q2 h)]))
                  clear HCO HERR HOK hco q1 q2
                  go_wp2
                  go_roundw
                  case rel => exact ⟨k + 1, _, _, by go_num, rfl, rfl, by omega, by omega, by omega, by omega, by omega, HF, HB4⟩
                  case measure => simp [intOf]; omega
          | false =>
            cases th with
            | true =>
              have hco : chkO s room (l.take k) ⟨false, xu, xc, xk, xv⟩ m g = if s.most < m ∨ room < g - (tz : Int) + (cz : Int) then .inl 7 else .inr (m, g - (tz : Int) + (cz : Int)) := by rw [HCO.o]; simp
              by_cases q1 : s.most < m
              · have f1 : decide (s.most < m) = true := by simpa using q1
                have HF := hd (HERR.o 7 (by rw [hco, if_pos (.inl q1)]))
                clear HCO HERR HOK hco q1
                go_wp2
                go_ret3
                exact ⟨by rw [HF.o]; rfl, HB4.o⟩
              · have f1 : decide (s.most < m) = false := by simpa using q1
                by_cases q2 : room < g - (tz : Int) + (cz : Int)
                · have f2 : decide (room < g - (tz : Int) + (cz : Int)) = true := by simpa using q2
                  have HF := hd (HERR.o 7 (by rw [hco, if_pos (.inr q2)]))
                  clear HCO HERR HOK hco q1 q2
                  go_wp2
                  go_ret3
                  exact ⟨by rw [HF.o]; rfl, HB4.o⟩
                · have f2 : decide (room < g - (tz : Int) + (cz : Int)) = false := by simpa using q2
                  have HF := hd (HOK.o _ (by rw [hco, if_neg (by rintro (h | h); exact q1 h; exact q2 h)]))
                  clear HCO HERR HOK hco q1 q2
                  go_wp2
                  go_roundw
                  case rel => exact ⟨k + 1, _, _, by go_num, rfl, rfl, by omega, by omega, by omega, by omega, by omega, HF, HB4⟩
                  case measure => simp [intOf]; omega
            | false =>
              have hco : chkO s room (l.take k) ⟨false, xu, xc, xk, xv⟩ m g = if s.most < m + 1 ∨ room < g + (cz : Int) then .inl 7 else .inr (m + 1, g + (cz : Int)) := by rw [HCO.o]; simp
              by_cases q1 : s.most < m + 1
              · have f1 : decide (s.most < m + 1) = true := by simpa using q1
                have HF := hd (HERR.o 7 (by rw [hco, if_pos (.inl q1)]))
                clear HCO HERR HOK hco q1
                go_wp2
                go_ret3
                exact ⟨by rw [HF.o]; rfl, HB4.o⟩
              · have f1 : decide (s.most < m + 1) = false := by simpa using q1
                by_cases q2 : room < g + (cz : Int)
                · have f2 : decide (room < g + (cz : Int)) = true := by simpa using q2
                  have HF := hd (HERR.o 7 (by rw [hco, if_pos (.inr q2)]))
                  clear HCO HERR HOK hco q1 q2
                  go_wp2
                  go_ret3
                  exact ⟨by rw [HF.o]; rfl, HB4.o⟩
                · have f2 : decide (room < g + (cz : Int)) = false := by simpa using q2
                  have HF := hd (HOK.o _ (by rw [hco, if_neg (by rintro (h | h); exact q1 h; exact q2 h)]))
                  clear HCO HERR HOK hco q1 q2
                  go_wp2
                  go_roundw
                  case rel => exact ⟨k + 1, _, _, by go_num, rfl, rfl, by omega, by omega, by omega, by omega, by omega, HF, HB4⟩
                  case measure => simp [intOf]; omega
    · obtain rfl : k = n := by omega
      have HF : Hd (R = (0, g, 0)) := hd (by rw [HRE.o, List.drop_eq_nil_of_le (by rw [← HN.o]; exact Nat.le_refl _)]; rfl)
      go_wp2
      go_ret3
      exact ⟨by rw [HF.o]; rfl, HB.o⟩

end Go.Proofs.Ytbeckfnhgeclnaa
