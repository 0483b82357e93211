/-
  Telephone numbers: a text's number, on both sides.
-/
import Derived.Test.YtpejlcaoggedfaaGreatDoorTelA
set_option linter.unusedVariables false
set_option linter.unusedSimpArgs false
namespace Go.Proofs.YtpejlcaoggedfaaGreatDoor
open Go.RowKit

theorem telC_f {c : UInt8} (h : c.toNat = 32 ∨ c.toNat = 45 ∨ c.toNat = 46 ∨ c.toNat = 47 ∨ c.toNat = 40 ∨ c.toNat = 41) : telC c = false := by
  simp only [telC, decide_eq_false_iff_not]; omega
theorem telC_t {c : UInt8} (h : ¬ (c.toNat = 32 ∨ c.toNat = 45 ∨ c.toNat = 46 ∨ c.toNat = 47 ∨ c.toNat = 40 ∨ c.toNat = 41)) : telC c = true := by
  simp only [telC, decide_eq_true_eq]; omega

set_option maxRecDepth 100000 in
set_option maxHeartbeats 4000000 in
theorem telcan_calls (s : ByteArray) (hs : s.size ≤ 1000000) (w : World) (ht : Tbl w) : Calls Tryz.prog 53 #[.string s] w fun e w' => e = .returned (.tuple #[.string (bs (telT s.data.toList)), .int .i64 (telE s.data.toList)]) ∧ Below w.heap.size w w' := by
  have C1 := hd (clean_calls s hs w ht)
  clear ht
  obtain ⟨i0, hi, hz0, hz1, hz2⟩ := info_parts u8Info
  obtain ⟨V, hV⟩ : ∃ V, telT s.data.toList = V := ⟨_, rfl⟩
  obtain ⟨F, hF⟩ : ∃ F, telE s.data.toList = F := ⟨_, rfl⟩
  rw [hV, hF]
  have HR := hd (⟨hV.symm, hF.symm⟩ : V = telT s.data.toList ∧ F = telE s.data.toList)
  clear hV hF
  have hl := cleanT_len s.data.toList
  have R1 := hd (fun h : cleanE s.data.toList ≠ 0 => tel_e h)
  have R2 := hd (fun (h : cleanE s.data.toList = 0) k => tel_yes h k)
  have R3 := hd (fun (h : cleanE s.data.toList = 0) k => tel_no h k)
  obtain ⟨T, hT⟩ : ∃ T, cleanT s.data.toList = T := ⟨_, rfl⟩
  obtain ⟨E, hE⟩ : ∃ E, cleanE s.data.toList = E := ⟨_, rfl⟩
  rw [hT, hE] at C1 R2 R3
  rw [hE] at R1
  rw [hT] at hl
  clear hT hE
  by_cases hE0 : E = 0
  · subst hE0
    have hz : (bs T).size = T.length := bs_size T
    have HZ := hd hz
    have hs64 : (bs T).size ≤ 64 := by omega
    clear hz
    go_enter Tryz.func53, Tryz.ntmps53
    go_wp2_with fail
    refine C1.o.mono ?_
    rintro e w1 ⟨rfl, hb1⟩
    have HB1 := hd hb1
    clear hb1
    go_wp2_with fail
    go_loopw [6, 18, 7] (fun out i _ wr => ∃ (k : Nat) (A : Option Addr) (c m : Nat) (O : List UInt8), i = .int .i64 k ∧ k ≤ (bs T).size ∧ out = .slice A m c ∧ m ≤ k ∧ Hd (telD (T.take k) = O) ∧ Hd (O.length = m) ∧ Hd (m = 0 → A = none ∧ c = 0) ∧ Row wr (From w.heap.size) 5 1 A m c (enc8 O) ∧ Below w.heap.size w wr) (fun _ i _ _ => (bs T).size - (intOf i).toNat)
    case atStart => exact ⟨0, none, 0, 0, [], rfl, Nat.zero_le _, rfl, Nat.le_refl _, rfl, rfl, fun _ => ⟨rfl, rfl⟩, Row.nil _ _ _ _, HB1.o⟩
    case round =>
      obtain ⟨k, A, c, m, O, rfl, hk, rfl, hm, HO, HM, H0, hr, hbe⟩ := hrel
      have hsz := hbe.size
      have hki : (0 : Int) ≤ (k : Int) := by omega
      by_cases hlt : k < (bs T).size
      · have hlT : k < T.length := by rw [← HZ.o]; exact hlt
        have ec : (bs T)[k] = T[k] := by show T.toArray[k]'(by simpa using hlT) = T[k]; exact List.getElem_toArray _
        have HC := hd ec
        by_cases hc : (bs T)[k].toNat = 32 ∨ (bs T)[k].toNat = 45 ∨ (bs T)[k].toNat = 46 ∨ (bs T)[k].toNat = 47 ∨ (bs T)[k].toNat = 40 ∨ (bs T)[k].toNat = 41
        · have HN := hd (show telD (T.take (k + 1)) = O by rw [telD_skip T k hlT (by rw [← ec]; exact telC_f hc)]; exact HO.o)
          clear ec
          rcases hc with hc | hc | hc | hc | hc | hc
          all_goals
            (first | (have n1 : (((bs T)[k].toNat : Int) == 32) = true := by simp; omega) | (have n1 : (((bs T)[k].toNat : Int) == 32) = false := by simp; omega)
             first | (have n2 : (((bs T)[k].toNat : Int) == 45) = true := by simp; omega) | (have n2 : (((bs T)[k].toNat : Int) == 45) = false := by simp; omega)
             first | (have n3 : (((bs T)[k].toNat : Int) == 46) = true := by simp; omega) | (have n3 : (((bs T)[k].toNat : Int) == 46) = false := by simp; omega)
             first | (have n4 : (((bs T)[k].toNat : Int) == 47) = true := by simp; omega) | (have n4 : (((bs T)[k].toNat : Int) == 47) = false := by simp; omega)
             first | (have n5 : (((bs T)[k].toNat : Int) == 40) = true := by simp; omega) | (have n5 : (((bs T)[k].toNat : Int) == 40) = false := by simp; omega)
             first | (have n6 : (((bs T)[k].toNat : Int) == 41) = true := by simp; omega) | (have n6 : (((bs T)[k].toNat : Int) == 41) = false := by simp; omega)
             clear hc
             go_wp2_with fail
             go_roundw
             case rel => exact ⟨k + 1, A, c, m, O, by go_num, by omega, rfl, by omega, HN, HM, H0, hr, hbe⟩
             case measure => simp [intOf]; omega)
        · have HN := hd (show telD (T.take (k + 1)) = O ++ [(bs T)[k]] by rw [telD_put T k hlT (by rw [← ec]; exact telC_t hc), HO.o, ec])
          clear ec
          have n1 : (((bs T)[k].toNat : Int) == 32) = false := by simp; omega
          have n2 : (((bs T)[k].toNat : Int) == 45) = false := by simp; omega
          have n3 : (((bs T)[k].toNat : Int) == 46) = false := by simp; omega
          have n4 : (((bs T)[k].toNat : Int) == 47) = false := by simp; omega
          have n5 : (((bs T)[k].toNat : Int) == 40) = false := by simp; omega
          have n6 : (((bs T)[k].toNat : Int) == 41) = false := by simp; omega
          clear hc
          go_wp2_with (at_builtin; go_loud (refine wpList_append_row rfl _ _ 70 rfl (Of A) 5 i0 (.int .u8 0) 1 1 Tryz.underlying70 hi hz0 hz1 hz2 rfl A m c (enc8 O) rfl (hr.own_.alloc _) ⟨_, 0, none⟩ 1 1 [.int .u8 ((bs T)[k].toNat : Int)] rfl rfl (cells_at (Blk.new_ _ _ (by simp) _ _) rfl) (by simp [Value.oneCell']) (by omega) (by unfold maxLen; omega) (by omega) ?_; intro A2 c2 w2 hown2 hchg2))
          go_roundw
          case rel =>
            refine ⟨k + 1, A2, c2, m + 1, O ++ [(bs T)[k]], by go_num, by omega, rfl, by omega, HN, hd (by rw [List.length_append, HM.o]; rfl), hd (fun h => by omega), ?_, ?_⟩
            · rw [enc8_snoc]
              refine hown2.mono fun q hq => ?_
              rcases hq with hq | hq
              · exact hr.of_sub q hq
              · simp at hq; show w.heap.size ≤ q; omega
            · exact hbe.trans ((((Chg.refl (From w.heap.size) wr).alloc _).trans hchg2 (fun q hq => .inl (hr.of_sub q hq))).below (fun _ h => h) hsz)
          case measure => simp [intOf]; omega
      · have hke : k = (bs T).size := by omega
        subst hke
        clear hk
        have hfold : T.take (bs T).size = T := List.take_of_length_le (by rw [HZ.o]; exact Nat.le_refl _)
        rw [hfold] at HO
        clear hfold
        have hv : ∃ s', s' = bs O ∧ (convert 70 9 (.slice A m c)).run Tryz.prog wr = .ok (.string s') wr := by
          refine ⟨_, rfl, ?_⟩
          by_cases hm0 : m = 0
          · obtain ⟨rfl, rfl⟩ := H0.o hm0
            subst hm0
            have : O = [] := List.eq_nil_of_length_eq_zero HM.o
            subst this
            exact run_convert_bytes_nil wr 70 5 Tryz.underlying70 Tryz.underlying5 0 0 9 Tryz.underlying9
          · obtain ⟨g, rfl, _, hg, hmc, hcm, hcell, _⟩ := hr.at_ (by omega)
            have hv := run_convert_bytes_back (P := Tryz.prog) wr 70 9 5 ⟨g, 0, none⟩ c O Tryz.underlying70 Tryz.underlying5 Tryz.underlying9 (fun j hj => by
              have := hcell j _ (enc8_get O j hj)
              rw [bt_list O j hj] at this
              have hp : (⟨g, 0, none⟩ : Addr).add j = ⟨g, j, none⟩ := by unfold Addr.add; split <;> simp_all
              rw [hp]; exact this)
            rw [HM.o] at hv
            exact hv
        obtain ⟨s', hs', hv⟩ := hv
        have hIS := istel_calls (bs O) (by rw [bs_size, HM.o]; omega)
        rw [bs_data] at hIS
        rw [← hs'] at hIS
        have HS := hd hs'
        clear hs'
        by_cases hA : TelP O
        · rw [telB_t hA] at hIS
          have HX := hd (R2.o trivial (by rw [HO.o]; exact hA))
          have HIS := hd hIS
          clear hIS hA
          go_wp2_with fail
          refine (HIS.o _).mono ?_
          rintro e w3 ⟨rfl, rfl⟩
          go_wp2_with fail
          go_ret2
          exact ⟨retTE (by rw [HS.o, HR.o.1, HX.o.1, HO.o]) (by rw [HR.o.2, HX.o.2]), hbe⟩
        · rw [telB_f hA] at hIS
          have HX := hd (R3.o trivial (by rw [HO.o]; exact hA))
          have HIS := hd hIS
          clear hIS hA
          go_wp2_with fail
          refine (HIS.o _).mono ?_
          rintro e w3 ⟨rfl, rfl⟩
          go_wp2_with fail
          go_ret2
          exact ⟨retTE (by rw [HR.o.1, HX.o.1]; rfl) (by rw [HR.o.2, HX.o.2]), hbe⟩
  · have n0 : (E != 0) = true := by simpa using hE0
    have H0 := hd (R1.o hE0)
    clear hE0
    go_enter Tryz.func53, Tryz.ntmps53
    go_wp2_with fail
    refine C1.o.mono ?_
    rintro e w1 ⟨rfl, hb1⟩
    go_wp2_with fail
    go_ret2
    exact ⟨retTE (by rw [HR.o.1, H0.o.1]; rfl) (by rw [HR.o.2, H0.o.2]), hb1⟩

theorem ext_one (T : List UInt8) (k : Nat) (h : k < T.length) : (bs T).extract k (k + 1) = bs [T[k]] := by
  apply ByteArray.ext
  apply Array.ext'
  rw [ext_data, bs_data, bs_data, Nat.add_sub_cancel_left, List.drop_eq_getElem_cons h]
  rfl
theorem bs_app (a b : List UInt8) : bs a ++ bs b = bs (a ++ b) := by
  apply ByteArray.ext
  simp [bs]

set_option maxRecDepth 100000 in
set_option maxHeartbeats 4000000 in
theorem rtel_calls (s : ByteArray) (hs : s.size ≤ 1000000) (w : World) : Calls Tryz.prog 64 #[.string s] w fun e w' => e = .returned (.tuple #[.string (bs (telT s.data.toList)), .int .i64 (telE s.data.toList)]) ∧ Below w.heap.size w w' := by
  have C1 := hd (rclean_calls s hs w)
  obtain ⟨V, hV⟩ : ∃ V, telT s.data.toList = V := ⟨_, rfl⟩
  obtain ⟨F, hF⟩ : ∃ F, telE s.data.toList = F := ⟨_, rfl⟩
  rw [hV, hF]
  have HR := hd (⟨hV.symm, hF.symm⟩ : V = telT s.data.toList ∧ F = telE s.data.toList)
  clear hV hF
  have hl := cleanT_len s.data.toList
  have R1 := hd (fun h : cleanE s.data.toList ≠ 0 => tel_e h)
  have R2 := hd (fun (h : cleanE s.data.toList = 0) k => tel_yes h k)
  have R3 := hd (fun (h : cleanE s.data.toList = 0) k => tel_no h k)
  obtain ⟨T, hT⟩ : ∃ T, cleanT s.data.toList = T := ⟨_, rfl⟩
  obtain ⟨E, hE⟩ : ∃ E, cleanE s.data.toList = E := ⟨_, rfl⟩
  rw [hT, hE] at C1 R2 R3
  rw [hE] at R1
  rw [hT] at hl
  clear hT hE
  by_cases hE0 : E = 0
  · subst hE0
    have hz : (bs T).size = T.length := bs_size T
    have HZ := hd hz
    have hs64 : (bs T).size ≤ 64 := by omega
    clear hz
    go_enter Tryz.func64, Tryz.ntmps64
    go_wp2_with fail
    refine C1.o.mono ?_
    rintro e w1 ⟨rfl, hb1⟩
    have HB1 := hd hb1
    clear hb1
    go_wp2_with fail
    go_loop [6, 7] (fun out i => ∃ (k : Nat) (t : ByteArray), i = .int .i64 k ∧ k ≤ (bs T).size ∧ out = .string t ∧ t.size ≤ k ∧ Hd (t = bs (telD (T.take k)))) (fun _ i => (bs T).size - (intOf i).toNat)
    case atStart => exact ⟨0, _, rfl, Nat.zero_le _, rfl, Nat.le_refl _, rfl⟩
    case round =>
      obtain ⟨k, t, rfl, hk, rfl, hm, HO⟩ := hrel
      have hki : (0 : Int) ≤ (k : Int) := by omega
      by_cases hlt : k < (bs T).size
      · have hlT : k < T.length := by rw [← HZ.o]; exact hlt
        have ec : (bs T)[k] = T[k] := by show T.toArray[k]'(by simpa using hlT) = T[k]; exact List.getElem_toArray _
        by_cases hc : (bs T)[k].toNat = 32 ∨ (bs T)[k].toNat = 45 ∨ (bs T)[k].toNat = 46 ∨ (bs T)[k].toNat = 47 ∨ (bs T)[k].toNat = 40 ∨ (bs T)[k].toNat = 41
        · have HN := hd (show t = bs (telD (T.take (k + 1))) by rw [telD_skip T k hlT (by rw [← ec]; exact telC_f hc)]; exact HO.o)
          clear ec
          rcases hc with hc | hc | hc | hc | hc | hc
          all_goals
            (first | (have n1 : (((bs T)[k].toNat : Int) == 32) = true := by simp; omega) | (have n1 : (((bs T)[k].toNat : Int) == 32) = false := by simp; omega)
             first | (have n2 : (((bs T)[k].toNat : Int) == 45) = true := by simp; omega) | (have n2 : (((bs T)[k].toNat : Int) == 45) = false := by simp; omega)
             first | (have n3 : (((bs T)[k].toNat : Int) == 46) = true := by simp; omega) | (have n3 : (((bs T)[k].toNat : Int) == 46) = false := by simp; omega)
             first | (have n4 : (((bs T)[k].toNat : Int) == 47) = true := by simp; omega) | (have n4 : (((bs T)[k].toNat : Int) == 47) = false := by simp; omega)
             first | (have n5 : (((bs T)[k].toNat : Int) == 40) = true := by simp; omega) | (have n5 : (((bs T)[k].toNat : Int) == 40) = false := by simp; omega)
             first | (have n6 : (((bs T)[k].toNat : Int) == 41) = true := by simp; omega) | (have n6 : (((bs T)[k].toNat : Int) == 41) = false := by simp; omega)
             clear hc
             go_wp2_with fail
             go_round
             case rel => exact ⟨k + 1, t, by go_num, by omega, rfl, by omega, HN⟩
             case measure => simp [intOf]; omega)
        · have hx : ((bs T).extract k (k + 1)).size = 1 := by rw [ext_one T k hlT, bs_size]; rfl
          have HN := hd (show t ++ (bs T).extract k (k + 1) = bs (telD (T.take (k + 1))) by rw [telD_put T k hlT (by rw [← ec]; exact telC_t hc), HO.o, ext_one T k hlT, bs_app])
          have hy : (t ++ (bs T).extract k (k + 1)).size = t.size + 1 := by rw [ByteArray.size_append, hx]
          clear ec
          have n1 : (((bs T)[k].toNat : Int) == 32) = false := by simp; omega
          have n2 : (((bs T)[k].toNat : Int) == 45) = false := by simp; omega
          have n3 : (((bs T)[k].toNat : Int) == 46) = false := by simp; omega
          have n4 : (((bs T)[k].toNat : Int) == 47) = false := by simp; omega
          have n5 : (((bs T)[k].toNat : Int) == 40) = false := by simp; omega
          have n6 : (((bs T)[k].toNat : Int) == 41) = false := by simp; omega
          clear hc
          go_wp2_with fail
          go_round
          case rel => exact ⟨k + 1, _, by go_num, by omega, rfl, by omega, HN⟩
          case measure => simp [intOf]; omega
      · have hke : k = (bs T).size := by omega
        subst hke
        clear hk
        have hfold : T.take (bs T).size = T := List.take_of_length_le (by rw [HZ.o]; exact Nat.le_refl _)
        rw [hfold] at HO
        clear hfold
        have hIS := ristel_calls t (by omega)
        have hd1 : t.data.toList = telD T := by rw [HO.o]; rfl
        rw [hd1] at hIS
        clear hd1
        by_cases hA : TelP (telD T)
        · rw [telB_t hA] at hIS
          have HX := hd (R2.o trivial hA)
          have HIS := hd hIS
          clear hIS hA
          go_wp2_with fail
          refine (HIS.o _).mono ?_
          rintro e w3 ⟨rfl, rfl⟩
          go_wp2_with fail
          go_ret2
          exact ⟨retTE (by rw [HR.o.1, HX.o.1, HO.o]) (by rw [HR.o.2, HX.o.2]), HB1.o⟩
        · rw [telB_f hA] at hIS
          have HX := hd (R3.o trivial hA)
          have HIS := hd hIS
          clear hIS hA
          go_wp2_with fail
          refine (HIS.o _).mono ?_
          rintro e w3 ⟨rfl, rfl⟩
          go_wp2_with fail
          go_ret2
          exact ⟨retTE (by rw [HR.o.1, HX.o.1]; rfl) (by rw [HR.o.2, HX.o.2]), HB1.o⟩
  · have n0 : (E != 0) = true := by simpa using hE0
    have H0 := hd (R1.o hE0)
    clear hE0
    go_enter Tryz.func64, Tryz.ntmps64
    go_wp2_with fail
    refine C1.o.mono ?_
    rintro e w1 ⟨rfl, hb1⟩
    go_wp2_with fail
    go_ret2
    exact ⟨retTE (by rw [HR.o.1, H0.o.1]; rfl) (by rw [HR.o.2, H0.o.2]), hb1⟩

end Go.Proofs.YtpejlcaoggedfaaGreatDoor
