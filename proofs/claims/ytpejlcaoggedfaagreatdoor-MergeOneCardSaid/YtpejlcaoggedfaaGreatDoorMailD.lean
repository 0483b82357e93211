/-
  A text without blanks that say nothing, on the reference's side.
-/
import Derived.Test.YtpejlcaoggedfaaGreatDoorMailC
set_option linter.unusedVariables false
set_option linter.unusedSimpArgs false
namespace Go.Proofs.YtpejlcaoggedfaaGreatDoor
open Go.RowKit


set_option maxRecDepth 100000 in
set_option maxHeartbeats 4000000 in
theorem rclean_calls (s : ByteArray) (hs : s.size ≤ 1000000) (w : World) : Calls Tryz.prog 44 #[.string s] w fun e w' => e = .returned (.tuple #[.string (bs (cleanT s.data.toList)), .int .i64 (cleanE s.data.toList)]) ∧ Below w.heap.size w w' := by
  have HL := hd (show s.data.toList.length = s.size by simp)
  obtain ⟨T, hT⟩ : ∃ T, cleanT s.data.toList = T := ⟨_, rfl⟩
  obtain ⟨E, hE⟩ : ∃ E, cleanE s.data.toList = E := ⟨_, rfl⟩
  rw [hT, hE]
  have HR := hd (⟨hT.symm, hE.symm⟩ : T = cleanT s.data.toList ∧ E = cleanE s.data.toList)
  clear hT hE
  obtain ⟨i0, hi, hz0, hz1, hz2⟩ := info_parts u8Info
  have HB1 := hd (Below.refl w.heap.size w)
  go_enter Tryz.func44, Tryz.ntmps44
  go_wp2
  go_loop [4, 5] (fun i _ => ∃ k : Nat, i = .int .i64 k ∧ k ≤ s.size ∧ Hd (scanB (s.data.toList.drop k) = cleanB s.data.toList)) (fun i _ => s.size - (intOf i).toNat)
  case atStart => exact ⟨0, rfl, Nat.zero_le _, hd (by rw [List.drop_zero]; exact scanB_clean _)⟩
  case round =>
    obtain ⟨k, rfl, hk, hh⟩ := hrel
    by_cases hlt : k < s.size
    · have hki : (0 : Int) ≤ (k : Int) := by omega
      have hne : s.data.toList.drop k ≠ [] := fun e => by
        have := congrArg List.length e
        rw [List.length_drop, HL.o] at this
        simp at this
        omega
      have hstep := scanB_step _ hne
      have hle := sgn_le _ hne
      rw [List.length_drop, HL.o] at hle
      rw [hh.o, bt_drop, Nat.add_zero, bt_self s k hlt] at hstep
      obtain ⟨q, hq⟩ : ∃ q, sgn (s.data.toList.drop k) = q := ⟨_, rfl⟩
      have hsg := sign_calls s k (by omega) hlt w
      rw [hq] at hle hstep hsg
      have HSG := hd hsg
      have HST := hd hstep
      clear hsg hstep hne hq
      by_cases hq0 : q = 0
      · have HZ := hd (cleanB_no s.data.toList (by rw [HST.o, if_pos (.inl hq0)]))
        subst hq0
        go_wp2_with (go_at_call 73; refine HSG.o.mono ?_; rintro e w' ⟨rfl, rfl⟩)
        go_ret2
        exact ⟨retTE (by rw [HR.o.1, HZ.o.1]; rfl) (by rw [HR.o.2, HZ.o.2]), Below.refl _ _⟩
      · have n0 : ((q : Int) == 0) = false := by simp; omega
        by_cases hc : 32 ≤ s[k].toNat ∧ s[k].toNat ≠ 127
        · have HN : Hd (scanB (s.data.toList.drop (k + q)) = cleanB s.data.toList) := by
            have := HST.o
            rw [if_neg (by simp [okC, hc, hq0])] at this
            rw [this, List.drop_drop]
            rfl
          obtain ⟨hc1, hc2⟩ := hc
          have n127 : ((s[k].toNat : Int) == 127) = false := by simp; omega
          have hq1 : 1 ≤ q := by omega
          clear hc2 hq0
          go_wp2_with (go_at_call 73; refine HSG.o.mono ?_; rintro e w' ⟨rfl, rfl⟩)
          go_round
          case rel => exact ⟨k + q, by simp, by omega, HN⟩
          case measure => simp [intOf]; omega
        · have HZ := hd (cleanB_no s.data.toList (by rw [HST.o, if_pos (.inr (by simp [okC]; omega))]))
          by_cases hc1 : s[k].toNat < 32
          · clear hc hq0
            go_wp2_with (go_at_call 73; refine HSG.o.mono ?_; rintro e w' ⟨rfl, rfl⟩)
            go_ret2
            exact ⟨retTE (by rw [HR.o.1, HZ.o.1]; rfl) (by rw [HR.o.2, HZ.o.2]), Below.refl _ _⟩
          · have n127 : ((s[k].toNat : Int) == 127) = true := by simp; omega
            clear hc hq0
            go_wp2_with (go_at_call 73; refine HSG.o.mono ?_; rintro e w' ⟨rfl, rfl⟩)
            go_ret2
            exact ⟨retTE (by rw [HR.o.1, HZ.o.1]; rfl) (by rw [HR.o.2, HZ.o.2]), Below.refl _ _⟩
    · have hke : k = s.size := by omega
      subst hke
      have HCL := hd (show cleanB s.data.toList = true by
        rw [← hh.o, List.drop_of_length_le (by rw [HL.o]; exact Nat.le_refl _)]; rfl)
      go_wp2
      clear hh
      go_loopw [6, 7] (fun out i wr => ∃ (k : Nat) (A : Option Addr) (c m : Nat) (O : List UInt8), i = .int .i64 k ∧ k ≤ s.size ∧ out = .slice A m c ∧ m ≤ k ∧ Hd ((s.data.toList.take k).foldl sq [] = O) ∧ Hd (O.length = m) ∧ Row wr (From w.heap.size) 5 1 A m c (enc8 O) ∧ Below w.heap.size w wr) (fun _ i _ => s.size - (intOf i).toNat)
      case atStart => exact ⟨0, none, 0, 0, [], rfl, Nat.zero_le _, rfl, Nat.le_refl _, rfl, rfl, Row.nil _ _ _ _, HB1.o⟩
      case round =>
        obtain ⟨k, A, c, m, O, rfl, hk, rfl, hm, HO, HM, hr, hbe⟩ := hrel
        have hsz := hbe.size
        have hki : (0 : Int) ≤ (k : Int) := by omega
        by_cases hlt : k < s.size
        · by_cases h32 : s[k].toNat = 32
          · have n32 : ((s[k].toNat : Int) == 32) = true := by simp; omega
            have H32 := hd h32
            clear h32
            by_cases hm0 : m = 0
            · have HM0 := hd hm0
              obtain rfl := hm0
              go_wp2_with fail
              go_roundw
              case rel => exact ⟨k + 1, A, c, 0, O, by go_num, by omega, rfl, by omega, hd (by rw [fold_take s k hlt, HO.o]; exact sq_skip0 O _ H32.o HM.o), HM, hr, hbe⟩
              case measure => simp [intOf]; omega
            · obtain ⟨m', hm'⟩ : ∃ m', m = m' + 1 := ⟨m - 1, by omega⟩
              have n0 : ((m : Int) == 0) = false := by simp; omega
              obtain ⟨g, hA, _, hg, hmc, hcm, hcell, _⟩ := hr.at_ (by omega)
              unfold maxLen at hcm
              have hlast := hcell m' _ (enc8_get O m' (by rw [HM.o]; omega))
              have e1 : (m : Int) - 1 = (m' : Int) := by omega
              have HM' := hd hm'
              have hm1 : m' < m := by omega
              have hm2 : m ≤ 1000000 := by omega
              clear hm' hcell hm0
              subst hA
              by_cases hl : bt O m' = 32
              · have HLL := hd hl
                rw [hl] at hlast
                clear hl
                go_wp2_with fail
                go_roundw
                case rel => exact ⟨k + 1, some ⟨g, 0, none⟩, c, m, O, by go_num, by omega, rfl, by omega, hd (by rw [fold_take s k hlt, HO.o]; exact sq_skip _ H32.o (HM.o.trans HM'.o) HLL.o), HM, hr, hbe⟩
                case measure => simp [intOf]; omega
              · have nl : ((bt O m' : Int) == 32) = false := by simp; omega
                have HLL := hd hl
                clear hl
                go_wp2_with (at_builtin; go_loud (refine wpList_append_row rfl _ _ 70 rfl (Of (some ⟨g, 0, none⟩)) 5 i0 (.int .u8 0) 1 1 Tryz.underlying70 hi hz0 hz1 hz2 rfl (some ⟨g, 0, none⟩) m c (enc8 O) rfl (hr.own_.alloc _) ⟨_, 0, none⟩ 1 1 [.int .u8 (s[k].toNat : Int)] rfl rfl (cells_at (Blk.new_ _ _ (by simp) _ _) rfl) (by simp [Value.oneCell']) (by omega) (by unfold maxLen; omega) (by omega) ?_; intro A2 c2 w2 hown2 hchg2))
                go_roundw
                case rel =>
                  refine ⟨k + 1, A2, c2, m + 1, O ++ [s[k]], by go_num, by omega, rfl, by omega, hd (by rw [fold_take s k hlt, HO.o]; exact sq_put _ (HM.o.trans HM'.o) HLL.o), hd (by rw [List.length_append, HM.o]; rfl), ?_, ?_⟩
                  · rw [enc8_snoc]
                    refine hown2.mono fun q hq => ?_
                    rcases hq with hq | hq
                    · exact hr.of_sub q hq
                    · simp at hq; show w.heap.size ≤ q; omega
                  · exact hbe.trans ((((Chg.refl (From w.heap.size) wr).alloc _).trans hchg2 (fun q hq => .inl (hr.of_sub q hq))).below (fun _ h => h) hsz)
                case measure => simp [intOf]; omega
          · have n32 : ((s[k].toNat : Int) == 32) = false := by simp; omega
            have H32 := hd h32
            clear h32
            go_wp2_with (at_builtin; go_loud (refine wpList_append_row rfl _ _ 70 rfl (Of A) 5 i0 (.int .u8 0) 1 1 Tryz.underlying70 hi hz0 hz1 hz2 rfl A m c (enc8 O) rfl (hr.own_.alloc _) ⟨_, 0, none⟩ 1 1 [.int .u8 (s[k].toNat : Int)] rfl rfl (cells_at (Blk.new_ _ _ (by simp) _ _) rfl) (by simp [Value.oneCell']) (by omega) (by unfold maxLen; omega) (by omega) ?_; intro A2 c2 w2 hown2 hchg2))
            go_roundw
            case rel =>
              refine ⟨k + 1, A2, c2, m + 1, O ++ [s[k]], by go_num, by omega, rfl, by omega, hd (by rw [fold_take s k hlt, HO.o]; exact sq_other O _ H32.o), hd (by rw [List.length_append, HM.o]; rfl), ?_, ?_⟩
              · rw [enc8_snoc]
                refine hown2.mono fun q hq => ?_
                rcases hq with hq | hq
                · exact hr.of_sub q hq
                · simp at hq; show w.heap.size ≤ q; omega
              · exact hbe.trans ((((Chg.refl (From w.heap.size) wr).alloc _).trans hchg2 (fun q hq => .inl (hr.of_sub q hq))).below (fun _ h => h) hsz)
            case measure => simp [intOf]; omega
        · have hke : k = s.size := by omega
          subst hke
          clear hk
          have hfold : s.data.toList.take s.size = s.data.toList := List.take_of_length_le (by rw [HL.o]; exact Nat.le_refl _)
          rw [hfold] at HO
          clear hfold
          by_cases hm0 : m = 0
          · have HZ := hd (cleanB_0 _ HCL.o (by
              have : O = [] := List.eq_nil_of_length_eq_zero (HM.o.trans hm0)
              unfold sqz
              rw [HO.o, this]; rfl))
            have HM0 := hd hm0
            obtain rfl := hm0
            go_wp2
            go_ret2
            exact ⟨retTE (by rw [HR.o.1, HZ.o.1]; rfl) (by rw [HR.o.2, HZ.o.2]), hbe⟩
          · obtain ⟨m', rfl⟩ : ∃ m', m = m' + 1 := ⟨m - 1, by omega⟩
            clear hm0
            obtain ⟨g, rfl, _, hg, hmc, hcm, hcell, _⟩ := hr.at_ (by omega)
            unfold maxLen at hcm
            have hlast := hcell m' _ (enc8_get O m' (by rw [HM.o]; omega))
            have e1 : ((m' + 1 : Nat) : Int) - 1 = (m' : Int) := by omega
            by_cases h32 : bt O m' = 32
            · have H32 := hd h32
              rw [h32] at hlast
              clear h32
              have hfin : sqz s.data.toList = O.take m' := by unfold sqz; rw [HO.o]; exact trimE_yes HM.o H32.o
              have hlen : (O.take m').length = m' := by rw [List.length_take, HM.o]; omega
              have HFN := hd hfin
              have HLN := hd hlen
              clear hfin
              have hv := run_convert_bytes_back (P := Tryz.prog) wr 70 9 5 ⟨g, 0, none⟩ c (O.take m') Tryz.underlying70 Tryz.underlying5 Tryz.underlying9 (fun j hj => by
                have hjO : j < O.length := by rw [HLN.o] at hj; rw [HM.o]; omega
                have := hcell j _ (enc8_get O j hjO)
                rw [bt_list O j hjO] at this
                have hp : (⟨g, 0, none⟩ : Addr).add j = ⟨g, j, none⟩ := by unfold Addr.add; split <;> simp_all
                rw [hp]
                simpa using this)
              rw [hlen] at hv
              clear hlen
              by_cases q0 : m' = 0
              · have HZ := hd (cleanB_0 _ HCL.o (by rw [HFN.o]; exact List.eq_nil_of_length_eq_zero (HLN.o.trans q0)))
                subst q0
                clear hv
                go_wp2
                go_ret2
                exact ⟨retTE (by rw [HR.o.1, HZ.o.1]; rfl) (by rw [HR.o.2, HZ.o.2]), hbe⟩
              · have n0 : ((m' : Int) == 0) = false := by simp; omega
                have q0p : 1 ≤ m' := by omega
                clear q0
                by_cases q1 : 64 < m'
                · clear hv
                  have HZ := hd (cleanB_64 _ HCL.o (by rw [HFN.o, HLN.o]; omega))
                  go_wp2
                  go_ret2
                  exact ⟨retTE (by rw [HR.o.1, HZ.o.1]; rfl) (by rw [HR.o.2, HZ.o.2]), hbe⟩
                · have HZ := hd (cleanB_ok _ HCL.o (by rw [HFN.o, HLN.o]; omega) (by rw [HFN.o, HLN.o]; omega))
                  go_wp2
                  go_ret2
                  exact ⟨retTE (by rw [HR.o.1, HZ.o.1, HFN.o]; rfl) (by rw [HR.o.2, HZ.o.2]), hbe⟩
            · have n32 : ((bt O m' : Int) == 32) = false := by simp; omega
              have H32 := hd h32
              clear h32
              have hfin : sqz s.data.toList = O := by unfold sqz; rw [HO.o]; exact trimE_no HM.o H32.o
              have hlen : (O).length = m' + 1 := HM.o
              have HFN := hd hfin
              have HLN := hd hlen
              clear hfin
              have hv := run_convert_bytes_back (P := Tryz.prog) wr 70 9 5 ⟨g, 0, none⟩ c (O) Tryz.underlying70 Tryz.underlying5 Tryz.underlying9 (fun j hj => by
                have hjO : j < O.length := by rw [HLN.o] at hj; rw [HM.o]; omega
                have := hcell j _ (enc8_get O j hjO)
                rw [bt_list O j hjO] at this
                have hp : (⟨g, 0, none⟩ : Addr).add j = ⟨g, j, none⟩ := by unfold Addr.add; split <;> simp_all
                rw [hp]
                simpa using this)
              rw [hlen] at hv
              clear hlen
              by_cases q1 : 64 < m' + 1
              · clear hv
                have HZ := hd (cleanB_64 _ HCL.o (by rw [HFN.o, HLN.o]; omega))
                go_wp2
                go_ret2
                exact ⟨retTE (by rw [HR.o.1, HZ.o.1]; rfl) (by rw [HR.o.2, HZ.o.2]), hbe⟩
              · have HZ := hd (cleanB_ok _ HCL.o (by rw [HFN.o, HLN.o]; omega) (by rw [HFN.o, HLN.o]; omega))
                go_wp2
                go_ret2
                exact ⟨retTE (by rw [HR.o.1, HZ.o.1, HFN.o]; rfl) (by rw [HR.o.2, HZ.o.2]), hbe⟩

end Go.Proofs.YtpejlcaoggedfaaGreatDoor
