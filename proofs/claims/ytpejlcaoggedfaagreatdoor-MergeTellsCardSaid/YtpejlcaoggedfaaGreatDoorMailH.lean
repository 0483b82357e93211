/-
  The reference's domains.
-/
import Derived.Test.YtpejlcaoggedfaaGreatDoorMailA
import Derived.Deep.DeepCutAuto
set_option linter.unusedVariables false
set_option linter.unusedSimpArgs false
namespace Go.Proofs.YtpejlcaoggedfaaGreatDoor
open Go.RowKit

theorem ext_data (s : ByteArray) (a b : Nat) : (s.extract a b).data.toList = (s.data.toList.drop a).take (b - a) := by
  rw [ByteArray.data_extract, Array.toList_extract, List.extract_eq_take_drop]
/-- What is known behind some signs: the labels ahead, and the one that is being read. -/
def DomAt (l : List UInt8) (k n f : Nat) : Prop :=
  (k ≤ l.length ∧ (∀ j, f ≤ j → j < k → labC (bt l j) ∧ bt l j ≠ 46) ∧ ∃ done, splitC 46 l = done ++ splitC 46 (l.drop f) ∧ done.length = n ∧ ∀ x ∈ done, LabP x) ∨
  (k = l.length + 1 ∧ (splitC 46 l).length = n ∧ ∀ x ∈ splitC 46 l, LabP x)
theorem domAt_start (l : List UInt8) : DomAt l 0 0 0 := .inl ⟨Nat.zero_le _, fun j _ h => absurd h (Nat.not_lt_zero _), [], by simp, rfl, fun x h => by cases h⟩
theorem domAt_sign {l : List UInt8} {k n f : Nat} (h : DomAt l k n f) (hk : k < l.length) (hc : labC (bt l k)) : DomAt l (k + 1) n f := by
  rcases h with ⟨h1, h2, h3⟩ | ⟨h1, _⟩
  · refine .inl ⟨hk, fun j hf hj => ?_, h3⟩
    by_cases e : j = k
    · subst e
      refine ⟨hc, fun e => ?_⟩
      rw [e] at hc
      revert hc
      decide
    · exact h2 j hf (by omega)
  · omega
theorem bt_seg (l : List UInt8) (f k j : Nat) (h : j < k - f) : bt ((l.drop f).take (k - f)) j = bt l (f + j) := by
  rw [← bt_drop]
  simp [bt, List.getD_eq_getElem?_getD, List.getElem?_take, h]
theorem seg_not {l : List UInt8} {k f : Nat} (hk : k ≤ l.length) (h2 : ∀ j, f ≤ j → j < k → labC (bt l j) ∧ bt l j ≠ 46) : (46 : UInt8) ∉ (l.drop f).take (k - f) := by
  intro hm
  obtain ⟨i, hi, e⟩ := mem_bt hm
  have hi' : i < k - f := by rw [List.length_take] at hi; omega
  rw [bt_seg l f k i hi'] at e
  exact (h2 (f + i) (by omega) (by omega)).2 e
/-- At a dot, or behind the last sign: one label more. -/
theorem seg_split {l : List UInt8} {k f : Nat} (hk : k ≤ l.length) (hf : f ≤ k) (h2 : ∀ j, f ≤ j → j < k → labC (bt l j) ∧ bt l j ≠ 46) (hd : k = l.length ∨ bt l k = 46) :
    splitC 46 (l.drop f) = (l.drop f).take (k - f) :: (if k = l.length then [] else splitC 46 (l.drop (k + 1))) := by
  have hn := seg_not hk h2
  by_cases he : k = l.length
  · rw [if_pos he]
    have e : (l.drop f).take (k - f) = l.drop f := List.take_of_length_le (by rw [List.length_drop]; omega)
    rw [e] at hn ⊢
    rw [splitC_not 46 _ hn]
  · rw [if_neg he]
    have hl : k < l.length := by omega
    have h46 : l[k] = 46 := by
      have := hd.resolve_left he
      rw [bt] at this
      simp [List.getD_eq_getElem?_getD, hl] at this
      exact UInt8.toNat_inj.1 this
    have e : l.drop f = (l.drop f).take (k - f) ++ 46 :: l.drop (k + 1) := by
      conv => lhs; rw [← List.take_append_drop (k - f) (l.drop f)]
      rw [List.drop_drop, show f + (k - f) = k by omega, List.drop_eq_getElem_cons hl, h46]
    conv => lhs; rw [e]
    exact splitC_app 46 _ _ hn
theorem domAt_label {l : List UInt8} {k n f : Nat} (h : DomAt l k n f) (hk : k ≤ l.length) (hf : f ≤ k) (hd : k = l.length ∨ bt l k = 46) (hp : LabP ((l.drop f).take (k - f))) : DomAt l (k + 1) (n + 1) (k + 1) := by
  rcases h with ⟨h1, h2, done, e1, e2, e3⟩ | ⟨h1, _⟩
  · have hs := seg_split hk hf h2 hd
    by_cases he : k = l.length
    · rw [if_pos he] at hs
      refine .inr ⟨by omega, ?_, ?_⟩
      · rw [e1, hs, List.length_append, e2]; rfl
      · intro x hx
        rw [e1, hs] at hx
        rcases List.mem_append.1 hx with hx | hx
        · exact e3 x hx
        · rw [List.mem_singleton.1 hx]; exact hp
    · rw [if_neg he] at hs
      refine .inl ⟨by omega, fun j h3 h4 => by omega, done ++ [(l.drop f).take (k - f)], ?_, by simp [e2], ?_⟩
      · rw [e1, hs]; simp
      · intro x hx
        rcases List.mem_append.1 hx with hx | hx
        · exact e3 x hx
        · rw [List.mem_singleton.1 hx]; exact hp
  · omega
theorem domAt_bad {l : List UInt8} {k n f : Nat} (h : DomAt l k n f) (hk : k ≤ l.length) (hf : f ≤ k) (hd : k = l.length ∨ bt l k = 46) (hp : ¬ LabP ((l.drop f).take (k - f))) : ¬ DomP l := by
  rcases h with ⟨h1, h2, done, e1, e2, e3⟩ | ⟨h1, _⟩
  · have hs := seg_split hk hf h2 hd
    intro hD
    refine hp (hD.2 _ ?_)
    rw [e1, hs]
    simp
  · omega
theorem dom_sign_bad {l : List UInt8} {k : Nat} (hk : k < l.length) (hc : ¬ labC (bt l k)) (h46 : bt l k ≠ 46) : ¬ DomP l := by
  intro hD
  obtain ⟨p, hp, hx⟩ := splitC_mem 46 l l[k] (List.getElem_mem hk) (fun e => h46 (by rw [bt]; simp [List.getD_eq_getElem?_getD, hk, e]))
  obtain ⟨i, hi, e⟩ := mem_bt hx
  have := (hD.2 p hp).2.2.2.2 i hi
  rw [e] at this
  exact hc (by rw [bt]; simpa [List.getD_eq_getElem?_getD, hk] using this)
theorem domAt_end {l : List UInt8} {n f : Nat} (h : DomAt l (l.length + 1) n f) : domB l = decide (2 ≤ n) := by
  rcases h with ⟨h1, _⟩ | ⟨_, h2, h3⟩
  · omega
  · by_cases hn : 2 ≤ n
    · rw [domB_t ⟨by omega, h3⟩]; simp [hn]
    · rw [domB_f (fun h => hn (by have := h.1; omega))]; simp [hn]
theorem domAt_labc {l : List UInt8} {k n f : Nat} (h : DomAt l k n f) (hk : k ≤ l.length) : ∀ j, j < k - f → labC (bt ((l.drop f).take (k - f)) j) := by
  rcases h with ⟨h1, h2, _⟩ | ⟨h1, _⟩
  · intro j hj
    rw [bt_seg l f k j hj]
    exact (h2 (f + j) (by omega) (by omega)).1
  · omega

set_option maxRecDepth 100000 in
set_option maxHeartbeats 8000000 in
theorem domain_calls (s : ByteArray) (hs : s.size ≤ 1000000000) (w : World) : Calls Tryz.prog 129 #[.string s] w fun e w' => e = .returned (.bool (domB s.data.toList)) ∧ w = w' := by
  obtain ⟨v, hv⟩ : ∃ v, domB s.data.toList = v := ⟨_, rfl⟩
  rw [hv]
  have HF := hd (fun h => hv.symm.trans (domB_f h) : ¬ DomP s.data.toList → v = false)
  have HV := hd hv
  clear hv
  have HL := hd (show s.data.toList.length = s.size by simp)
  go_enter Tryz.func129, Tryz.ntmps129
  go_wp2_with fail
  go_loop [3, 4, 5] (fun n f i => ∃ k nn ff : Nat, i = .int .i64 k ∧ n = .int .i64 nn ∧ f = .int .i64 ff ∧ k ≤ s.size + 1 ∧ nn ≤ k ∧ ff ≤ k ∧ Hd (DomAt s.data.toList k nn ff)) (fun _ _ i => s.size + 1 - (intOf i).toNat)
  case atStart => exact ⟨0, 0, 0, rfl, rfl, rfl, by omega, by omega, by omega, domAt_start _⟩
  case round =>
    obtain ⟨k, nn, ff, rfl, rfl, rfl, hk, hnn, hff, hh⟩ := hrel
    have hki : (0 : Int) ≤ (k : Int) := by omega
    have hfi : (0 : Int) ≤ (ff : Int) := by omega
    by_cases hle : k ≤ s.size
    · by_cases hdot : k < s.size ∧ s[k]!.toNat ≠ 46
      · obtain ⟨hlt, h46⟩ := hdot
        have e : s[k]! = s[k] := by simp [hlt]
        rw [e] at h46
        clear e
        have n46 : ((s[k].toNat : Int) != 46) = true := by simp; omega
        have BK := hd (bt_self s k hlt)
        by_cases hc : labC s[k].toNat
        · have HN := hd (domAt_sign hh.o (by rw [HL.o]; exact hlt) (by rw [BK.o]; exact hc))
          unfold labC at hc
          clear h46
          go_wp2_with (first | (go_at_call 137; refine (low_calls _ _).mono ?_; rintro e w' ⟨rfl, rfl⟩) | (go_at_call 112; refine (digit_calls _ _).mono ?_; rintro e w' ⟨rfl, rfl⟩))
          all_goals first
            | (exfalso; omega)
            | (exfalso; simp only [bne_iff_ne, ne_eq, beq_iff_eq, bne_eq_false_iff_eq, beq_eq_false_iff_ne, bne_self_eq_false, Bool.false_eq_true, Bool.not_eq_false', Bool.not_eq_true', decide_eq_true_eq, decide_eq_false_iff_not, Bool.and_eq_true, Bool.and_eq_false_iff] at *; omega)
            | (go_round
               case rel => exact ⟨k + 1, nn, ff, by go_num, rfl, rfl, by omega, by omega, by omega, HN⟩
               case measure => simp [intOf]; omega)
        · have HVV := hd (HF.o (dom_sign_bad (by rw [HL.o]; exact hlt) (by rw [BK.o]; exact hc) (by rw [BK.o]; exact h46)))
          unfold labC at hc
          have n45 : ((s[k].toNat : Int) != 45) = true := by simp; omega
          clear h46
          go_wp2_with (first | (go_at_call 137; refine (low_calls _ _).mono ?_; rintro e w' ⟨rfl, rfl⟩) | (go_at_call 112; refine (digit_calls _ _).mono ?_; rintro e w' ⟨rfl, rfl⟩))
          all_goals first
            | (exfalso; omega)
            | (exfalso; simp only [bne_iff_ne, ne_eq, beq_iff_eq, bne_eq_false_iff_eq, beq_eq_false_iff_ne, bne_self_eq_false, Bool.false_eq_true, Bool.not_eq_false', Bool.not_eq_true', decide_eq_true_eq, decide_eq_false_iff_not, Bool.and_eq_true, Bool.and_eq_false_iff] at *; omega)
            | (go_ret; exact ⟨retB HVV.o.symm, rfl⟩)
      · have hd1 : k = s.data.toList.length ∨ bt s.data.toList k = 46 := by
          by_cases hlt : k < s.size
          · refine .inr ?_
            rw [bt_self s k hlt]
            have e : s[k]! = s[k] := by simp [hlt]
            rw [e] at hdot
            omega
          · exact .inl (by rw [HL.o]; omega)
        have hz : (s.extract ff k).size = k - ff := by rw [ByteArray.size_extract]; omega
        have ht := ext_data s ff k
        have hlc := domAt_labc hh.o (by rw [HL.o]; exact hle)
        have hok := fun hp => domAt_label hh.o (by rw [HL.o]; exact hle) hff hd1 hp
        have hbad := fun hp => domAt_bad hh.o (by rw [HL.o]; exact hle) hff hd1 hp
        have hstop : (k < s.size → ((s[k]!.toNat : Int) != 46) = false) := fun hlt => by
          have : s[k]!.toNat = 46 := by omega
          simp [this]
        obtain ⟨t, htt⟩ : ∃ t, s.extract ff k = t := ⟨_, rfl⟩
        rw [htt] at hz ht
        rw [← ht] at hlc hok hbad
        have HTT := hd htt
        have HT := hd ht
        have HLC := hd hlc
        have HOK := hd hok
        have HBAD := hd (fun hp => HF.o (hbad hp))
        have HST := hd hstop
        clear htt ht hlc hok hbad hdot hd1 hstop
        have HTL := hd (show t.data.toList.length = t.size by simp)
        have HZ := hd hz
        have hts : t.size ≤ 1000000000 := by rw [HZ.o]; omega
        clear hz
        by_cases hlt : k < s.size
        · have e46 : s[k]! = s[k] := by simp [hlt]
          have n46 := HST.o hlt
          rw [e46] at n46
          clear e46
          go_upto_region 9 with (fail)
          rw [HTT.o]
          by_cases c1 : t.size < 1
          · have HX := hd (HBAD.o (fun h => by have := h.1; rw [HTL.o] at this; omega))
            go_wp2
            go_ret
            exact ⟨retB HX.o.symm, rfl⟩
          by_cases c2 : 20 < t.size
          · have HX := hd (HBAD.o (fun h => by have := h.2.1; rw [HTL.o] at this; omega))
            go_wp2
            go_ret
            exact ⟨retB HX.o.symm, rfl⟩
          have c3 : 0 < t.size := by omega
          have c4 : t.size - 1 < t.size := by omega
          have B0 := hd (bt_self t 0 c3)
          have B1 := hd (bt_self t (t.size - 1) c4)
          by_cases c5 : t[0].toNat = 45
          · have n5 : ((t[0].toNat : Int) == 45) = true := by simp; omega
            have HX := hd (HBAD.o (fun h => h.2.2.1 (B0.o.trans c5)))
            clear c5
            go_wp2
            go_ret
            exact ⟨retB HX.o.symm, rfl⟩
          have n5 : ((t[0].toNat : Int) == 45) = false := by simp; omega
          by_cases c6 : t[t.size - 1].toNat = 45
          · have n6 : ((t[t.size - 1].toNat : Int) == 45) = true := by simp; omega
            have HX := hd (HBAD.o (fun h => h.2.2.2.1 (by rw [HTL.o]; exact B1.o.trans c6)))
            clear c5 c6
            go_wp2
            go_ret
            exact ⟨retB HX.o.symm, rfl⟩
          have n6 : ((t[t.size - 1].toNat : Int) == 45) = false := by simp; omega
          have HN := hd (HOK.o ⟨by rw [HTL.o]; omega, by rw [HTL.o]; omega, by rw [B0.o]; exact c5, by rw [HTL.o, B1.o]; exact c6, fun i hi => HLC.o i (by rw [HTL.o, HZ.o] at hi; exact hi)⟩)
          clear c5 c6
          go_wp2
          go_round
          case rel => exact ⟨k + 1, nn + 1, k + 1, by go_num, by go_num, by go_num, by omega, by omega, by omega, HN⟩
          case measure => simp [intOf]; omega
        · go_upto_region 9 with (fail)
          rw [HTT.o]
          by_cases c1 : t.size < 1
          · have HX := hd (HBAD.o (fun h => by have := h.1; rw [HTL.o] at this; omega))
            go_wp2
            go_ret
            exact ⟨retB HX.o.symm, rfl⟩
          by_cases c2 : 20 < t.size
          · have HX := hd (HBAD.o (fun h => by have := h.2.1; rw [HTL.o] at this; omega))
            go_wp2
            go_ret
            exact ⟨retB HX.o.symm, rfl⟩
          have c3 : 0 < t.size := by omega
          have c4 : t.size - 1 < t.size := by omega
          have B0 := hd (bt_self t 0 c3)
          have B1 := hd (bt_self t (t.size - 1) c4)
          by_cases c5 : t[0].toNat = 45
          · have n5 : ((t[0].toNat : Int) == 45) = true := by simp; omega
            have HX := hd (HBAD.o (fun h => h.2.2.1 (B0.o.trans c5)))
            clear c5
            go_wp2
            go_ret
            exact ⟨retB HX.o.symm, rfl⟩
          have n5 : ((t[0].toNat : Int) == 45) = false := by simp; omega
          by_cases c6 : t[t.size - 1].toNat = 45
          · have n6 : ((t[t.size - 1].toNat : Int) == 45) = true := by simp; omega
            have HX := hd (HBAD.o (fun h => h.2.2.2.1 (by rw [HTL.o]; exact B1.o.trans c6)))
            clear c5 c6
            go_wp2
            go_ret
            exact ⟨retB HX.o.symm, rfl⟩
          have n6 : ((t[t.size - 1].toNat : Int) == 45) = false := by simp; omega
          have HN := hd (HOK.o ⟨by rw [HTL.o]; omega, by rw [HTL.o]; omega, by rw [B0.o]; exact c5, by rw [HTL.o, B1.o]; exact c6, fun i hi => HLC.o i (by rw [HTL.o, HZ.o] at hi; exact hi)⟩)
          clear c5 c6
          go_wp2
          go_round
          case rel => exact ⟨k + 1, nn + 1, k + 1, by go_num, by go_num, by go_num, by omega, by omega, by omega, HN⟩
          case measure => simp [intOf]; omega
    · have hke : k = s.size + 1 := by omega
      have hfin := hh.o
      rw [hke, ← HL.o] at hfin
      have HE := hd (domAt_end hfin)
      go_wp2_with fail
      go_ret
      exact ⟨retB (by rw [← HV.o, HE.o]; simp; omega), rfl⟩

end Go.Proofs.YtpejlcaoggedfaaGreatDoor
