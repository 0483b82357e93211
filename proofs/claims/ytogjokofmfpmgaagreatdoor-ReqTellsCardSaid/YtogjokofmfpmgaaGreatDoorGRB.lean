/-
  The reference's domains.
-/
import Derived.Test.YtogjokofmfpmgaaGreatDoorGAB
import Derived.Test.YtogjokofmfpmgaaGreatDoorGRA
import Derived.Test.YtogjokofmfpmgaaGreatDoorGAA
import Derived.Deep.DeepCutAuto
import Derived.IntWalk
import Derived.Test.YtogjokofmfpmgaaGreatDoorGAC
import Derived.Lib.QuietBelow
set_option linter.unusedVariables false
set_option linter.unusedSimpArgs false
namespace Go.Proofs.YtogjokofmfpmgaaGreatDoor
open Go.RowKit

/-- What is known behind some signs: the labels ahead, and the one that is being read. -/
def DomAt (l : List UInt8) (k n f : Nat) : Prop :=
  (k ≤ l.length ∧ (∀ j, f ≤ j → j < k → labC (bt l j) ∧ bt l j ≠ 46) ∧ ∃ done, splitC 46 l = done ++ splitC 46 (l.drop f) ∧ done.length = n ∧ ∀ x ∈ done, LabP x) ∨
  (k = l.length + 1 ∧ (splitC 46 l).length = n ∧ ∀ x ∈ splitC 46 l, LabP x)
theorem domAt_start (l : List UInt8) : DomAt l 0 0 0 := .inl ⟨Nat.zero_le _, fun j _ h => absurd h (Nat.not_lt_zero _), [], by simp, rfl, fun x h => by cases h⟩
theorem domAt_sign {l : List UInt8} {k n f : Nat} (h : DomAt l k n f) (hk : k < l.length) (hc : labC (bt l k)) : DomAt l (k + 1) n f := by
  rcases h with ⟨h1, h2, h3⟩ | ⟨h1, _⟩
  · refine .inl ⟨hk, fun j hf hj => ?_, h3⟩
    by_cases e : j = k
    · subst e
      refine ⟨hc, fun e => ?_⟩
      rw [e] at hc
      revert hc
      decide
    · exact h2 j hf (by omega)
  · omega
theorem bt_seg (l : List UInt8) (f k j : Nat) (h : j < k - f) : bt ((l.drop f).take (k - f)) j = bt l (f + j) := by
  rw [← bt_drop]
  simp [bt, List.getD_eq_getElem?_getD, List.getElem?_take, h]
theorem seg_not {l : List UInt8} {k f : Nat} (hk : k ≤ l.length) (h2 : ∀ j, f ≤ j → j < k → labC (bt l j) ∧ bt l j ≠ 46) : (46 : UInt8) ∉ (l.drop f).take (k - f) := by
  intro hm
  obtain ⟨i, hi, e⟩ := mem_bt hm
  have hi' : i < k - f := by rw [List.length_take] at hi; omega
  rw [bt_seg l f k i hi'] at e
  exact (h2 (f + i) (by omega) (by omega)).2 e
/-- At a dot, or behind the last sign: one label more. -/
theorem seg_split {l : List UInt8} {k f : Nat} (hk : k ≤ l.length) (hf : f ≤ k) (h2 : ∀ j, f ≤ j → j < k → labC (bt l j) ∧ bt l j ≠ 46) (hd : k = l.length ∨ bt l k = 46) :
    splitC 46 (l.drop f) = (l.drop f).take (k - f) :: (if k = l.length then [] else splitC 46 (l.drop (k + 1))) := by
  have hn := seg_not hk h2
  by_cases he : k = l.length
  · rw [if_pos he]
    have e : (l.drop f).take (k - f) = l.drop f := List.take_of_length_le (by rw [List.length_drop]; omega)
    rw [e] at hn ⊢
    rw [splitC_not 46 _ hn]
  · rw [if_neg he]
    have hl : k < l.length := by omega
    have h46 : l[k] = 46 := by
      have := hd.resolve_left he
      rw [bt] at this
      simp [List.getD_eq_getElem?_getD, hl] at this
      exact UInt8.toNat_inj.1 this
    have e : l.drop f = (l.drop f).take (k - f) ++ 46 :: l.drop (k + 1) := by
      conv => lhs; rw [← List.take_append_drop (k - f) (l.drop f)]
      rw [List.drop_drop, show f + (k - f) = k by omega, List.drop_eq_getElem_cons hl, h46]
    conv => lhs; rw [e]
    exact splitC_app 46 _ _ hn
theorem domAt_label {l : List UInt8} {k n f : Nat} (h : DomAt l k n f) (hk : k ≤ l.length) (hf : f ≤ k) (hd : k = l.length ∨ bt l k = 46) (hp : LabP ((l.drop f).take (k - f))) : DomAt l (k + 1) (n + 1) (k + 1) := by
  rcases h with ⟨h1, h2, done, e1, e2, e3⟩ | ⟨h1, _⟩
  · have hs := seg_split hk hf h2 hd
    by_cases he : k = l.length
    · rw [if_pos he] at hs
      refine .inr ⟨by omega, ?_, ?_⟩
      · rw [e1, hs, List.length_append, e2]; rfl
      · intro x hx
        rw [e1, hs] at hx
        rcases List.mem_append.1 hx with hx | hx
        · exact e3 x hx
        · rw [List.mem_singleton.1 hx]; exact hp
    · rw [if_neg he] at hs
      refine .inl ⟨by omega, fun j h3 h4 => by omega, done ++ [(l.drop f).take (k - f)], ?_, by simp [e2], ?_⟩
      · rw [e1, hs]; simp
      · intro x hx
        rcases List.mem_append.1 hx with hx | hx
        · exact e3 x hx
        · rw [List.mem_singleton.1 hx]; exact hp
  · omega
theorem domAt_bad {l : List UInt8} {k n f : Nat} (h : DomAt l k n f) (hk : k ≤ l.length) (hf : f ≤ k) (hd : k = l.length ∨ bt l k = 46) (hp : ¬ LabP ((l.drop f).take (k - f))) : ¬ DomP l := by
  rcases h with ⟨h1, h2, done, e1, e2, e3⟩ | ⟨h1, _⟩
  · have hs := seg_split hk hf h2 hd
    intro hD
    refine hp (hD.2 _ ?_)
    rw [e1, hs]
    simp
  · omega
theorem dom_sign_bad {l : List UInt8} {k : Nat} (hk : k < l.length) (hc : ¬ labC (bt l k)) (h46 : bt l k ≠ 46) : ¬ DomP l := by
  intro hD
  obtain ⟨p, hp, hx⟩ := splitC_mem 46 l l[k] (List.getElem_mem hk) (fun e => h46 (by rw [bt]; simp [List.getD_eq_getElem?_getD, hk, e]))
  obtain ⟨i, hi, e⟩ := mem_bt hx
  have := (hD.2 p hp).2.2.2.2 i hi
  rw [e] at this
  exact hc (by rw [bt]; simpa [List.getD_eq_getElem?_getD, hk] using this)
theorem domAt_end {l : List UInt8} {n f : Nat} (h : DomAt l (l.length + 1) n f) : domB l = decide (2 ≤ n) := by
  rcases h with ⟨h1, _⟩ | ⟨_, h2, h3⟩
  · omega
  · by_cases hn : 2 ≤ n
    · rw [domB_t ⟨by omega, h3⟩]; simp [hn]
    · rw [domB_f (fun h => hn (by have := h.1; omega))]; simp [hn]
theorem domAt_labc {l : List UInt8} {k n f : Nat} (h : DomAt l k n f) (hk : k ≤ l.length) : ∀ j, j < k - f → labC (bt ((l.drop f).take (k - f)) j) := by
  rcases h with ⟨h1, h2, _⟩ | ⟨h1, _⟩
  · intro j hj
    rw [bt_seg l f k j hj]
    exact (h2 (f + j) (by omega) (by omega)).1
  · omega

set_option maxRecDepth 100000 in
set_option maxHeartbeats 8000000 in
theorem domain_calls (s : ByteArray) (hs : s.size ≤ 1000000000) (w : World) : Calls Tryz.prog 189 #[.string s] w fun e w' => e = .returned (.bool (domB s.data.toList)) ∧ w = w' := by
  obtain ⟨v, hv⟩ : ∃ v, domB s.data.toList = v := ⟨_, rfl⟩
  rw [hv]
  have HF := hd (fun h => hv.symm.trans (domB_f h) : ¬ DomP s.data.toList → v = false)
  have HV := hd hv
  clear hv
  have HL := hd (show s.data.toList.length = s.size by simp)
  go_enter Tryz.func189, Tryz.ntmps189
  go_wp2_with fail
  go_loop [3, 4, 5] (fun n f i => ∃ k nn ff : Nat, i = .int .i64 k ∧ n = .int .i64 nn ∧ f = .int .i64 ff ∧ k ≤ s.size + 1 ∧ nn ≤ k ∧ ff ≤ k ∧ Hd (DomAt s.data.toList k nn ff)) (fun _ _ i => s.size + 1 - (intOf i).toNat)
  case atStart => exact ⟨0, 0, 0, rfl, rfl, rfl, by omega, by omega, by omega, domAt_start _⟩
  case round =>
    obtain ⟨k, nn, ff, rfl, rfl, rfl, hk, hnn, hff, hh⟩ := hrel
    have hki : (0 : Int) ≤ (k : Int) := by omega
    have hfi : (0 : Int) ≤ (ff : Int) := by omega
    by_cases hle : k ≤ s.size
    · by_cases hdot : k < s.size ∧ s[k]!.toNat ≠ 46
      · obtain ⟨hlt, h46⟩ := hdot
        have e : s[k]! = s[k] := by simp [hlt]
        rw [e] at h46
        clear e
        have n46 : ((s[k].toNat : Int) != 46) = true := by simp; omega
        have BK := hd (bt_self s k hlt)
        by_cases hc : labC s[k].toNat
        · have HN := hd (domAt_sign hh.o (by rw [HL.o]; exact hlt) (by rw [BK.o]; exact hc))
          unfold labC at hc
          clear h46
          go_wp2_with (first | (go_at_call 90; refine (low_calls _ _).mono ?_; rintro e w' ⟨rfl, rfl⟩) | (go_at_call 91; refine (digit_calls _ _).mono ?_; rintro e w' ⟨rfl, rfl⟩))
          all_goals first
            | (exfalso; omega)
            | (exfalso; simp only [bne_iff_ne, ne_eq, beq_iff_eq, bne_eq_false_iff_eq, beq_eq_false_iff_ne, bne_self_eq_false, Bool.false_eq_true, Bool.not_eq_false', Bool.not_eq_true', decide_eq_true_eq, decide_eq_false_iff_not, Bool.and_eq_true, Bool.and_eq_false_iff] at *; omega)
            | (go_round
               case rel => exact ⟨k + 1, nn, ff, by go_num, rfl, rfl, by omega, by omega, by omega, HN⟩
               case measure => simp [intOf]; omega)
        · have HVV := hd (HF.o (dom_sign_bad (by rw [HL.o]; exact hlt) (by rw [BK.o]; exact hc) (by rw [BK.o]; exact h46)))
          unfold labC at hc
          have n45 : ((s[k].toNat : Int) != 45) = true := by simp; omega
          clear h46
          go_wp2_with (first | (go_at_call 90; refine (low_calls _ _).mono ?_; rintro e w' ⟨rfl, rfl⟩) | (go_at_call 91; refine (digit_calls _ _).mono ?_; rintro e w' ⟨rfl, rfl⟩))
          all_goals first
            | (exfalso; omega)
            | (exfalso; simp only [bne_iff_ne, ne_eq, beq_iff_eq, bne_eq_false_iff_eq, beq_eq_false_iff_ne, bne_self_eq_false, Bool.false_eq_true, Bool.not_eq_false', Bool.not_eq_true', decide_eq_true_eq, decide_eq_false_iff_not, Bool.and_eq_true, Bool.and_eq_false_iff] at *; omega)
            | (go_ret; exact ⟨retB HVV.o.symm, rfl⟩)
      · have hd1 : k = s.data.toList.length ∨ bt s.data.toList k = 46 := by
          by_cases hlt : k < s.size
          · refine .inr ?_
            rw [bt_self s k hlt]
            have e : s[k]! = s[k] := by simp [hlt]
            rw [e] at hdot
            omega
          · exact .inl (by rw [HL.o]; omega)
        have hz : (s.extract ff k).size = k - ff := by rw [ByteArray.size_extract]; omega
        have ht := ext_data s ff k
        have hlc := domAt_labc hh.o (by rw [HL.o]; exact hle)
        have hok := fun hp => domAt_label hh.o (by rw [HL.o]; exact hle) hff hd1 hp
        have hbad := fun hp => domAt_bad hh.o (by rw [HL.o]; exact hle) hff hd1 hp
        have hstop : (k < s.size → ((s[k]!.toNat : Int) != 46) = false) := fun hlt => by
          have : s[k]!.toNat = 46 := by omega
          simp [this]
        obtain ⟨t, htt⟩ : ∃ t, s.extract ff k = t := ⟨_, rfl⟩
        rw [htt] at hz ht
        rw [← ht] at hlc hok hbad
        have HTT := hd htt
        have HT := hd ht
        have HLC := hd hlc
        have HOK := hd hok
        have HBAD := hd (fun hp => HF.o (hbad hp))
        have HST := hd hstop
        clear htt ht hlc hok hbad hdot hd1 hstop
        have HTL := hd (show t.data.toList.length = t.size by simp)
        have HZ := hd hz
        have hts : t.size ≤ 1000000000 := by rw [HZ.o]; omega
        clear hz
        by_cases hlt : k < s.size
        · have e46 : s[k]! = s[k] := by simp [hlt]
          have n46 := HST.o hlt
          rw [e46] at n46
          clear e46
          go_upto_region 9 with (fail)
          rw [HTT.o]
          by_cases c1 : t.size < 1
          · have HX := hd (HBAD.o (fun h => by have := h.1; rw [HTL.o] at this; omega))
            go_wp2
            go_ret
            exact ⟨retB HX.o.symm, rfl⟩
          by_cases c2 : 20 < t.size
          · have HX := hd (HBAD.o (fun h => by have := h.2.1; rw [HTL.o] at this; omega))
            go_wp2
            go_ret
            exact ⟨retB HX.o.symm, rfl⟩
          have c3 : 0 < t.size := by omega
          have c4 : t.size - 1 < t.size := by omega
          have B0 := hd (bt_self t 0 c3)
          have B1 := hd (bt_self t (t.size - 1) c4)
          by_cases c5 : t[0].toNat = 45
          · have n5 : ((t[0].toNat : Int) == 45) = true := by simp; omega
            have HX := hd (HBAD.o (fun h => h.2.2.1 (B0.o.trans c5)))
            clear c5
            go_wp2
            go_ret
            exact ⟨retB HX.o.symm, rfl⟩
          have n5 : ((t[0].toNat : Int) == 45) = false := by simp; omega
          by_cases c6 : t[t.size - 1].toNat = 45
          · have n6 : ((t[t.size - 1].toNat : Int) == 45) = true := by simp; omega
            have HX := hd (HBAD.o (fun h => h.2.2.2.1 (by rw [HTL.o]; exact B1.o.trans c6)))
            clear c5 c6
            go_wp2
            go_ret
            exact ⟨retB HX.o.symm, rfl⟩
          have n6 : ((t[t.size - 1].toNat : Int) == 45) = false := by simp; omega
          have HN := hd (HOK.o ⟨by rw [HTL.o]; omega, by rw [HTL.o]; omega, by rw [B0.o]; exact c5, by rw [HTL.o, B1.o]; exact c6, fun i hi => HLC.o i (by rw [HTL.o, HZ.o] at hi; exact hi)⟩)
          clear c5 c6
          go_wp2
          go_round
          case rel => exact ⟨k + 1, nn + 1, k + 1, by go_num, by go_num, by go_num, by omega, by omega, by omega, HN⟩
          case measure => simp [intOf]; omega
        · go_upto_region 9 with (fail)
          rw [HTT.o]
          by_cases c1 : t.size < 1
          · have HX := hd (HBAD.o (fun h => by have := h.1; rw [HTL.o] at this; omega))
            go_wp2
            go_ret
            exact ⟨retB HX.o.symm, rfl⟩
          by_cases c2 : 20 < t.size
          · have HX := hd (HBAD.o (fun h => by have := h.2.1; rw [HTL.o] at this; omega))
            go_wp2
            go_ret
            exact ⟨retB HX.o.symm, rfl⟩
          have c3 : 0 < t.size := by omega
          have c4 : t.size - 1 < t.size := by omega
          have B0 := hd (bt_self t 0 c3)
          have B1 := hd (bt_self t (t.size - 1) c4)
          by_cases c5 : t[0].toNat = 45
          · have n5 : ((t[0].toNat : Int) == 45) = true := by simp; omega
            have HX := hd (HBAD.o (fun h => h.2.2.1 (B0.o.trans c5)))
            clear c5
            go_wp2
            go_ret
            exact ⟨retB HX.o.symm, rfl⟩
          have n5 : ((t[0].toNat : Int) == 45) = false := by simp; omega
          by_cases c6 : t[t.size - 1].toNat = 45
          · have n6 : ((t[t.size - 1].toNat : Int) == 45) = true := by simp; omega
            have HX := hd (HBAD.o (fun h => h.2.2.2.1 (by rw [HTL.o]; exact B1.o.trans c6)))
            clear c5 c6
            go_wp2
            go_ret
            exact ⟨retB HX.o.symm, rfl⟩
          have n6 : ((t[t.size - 1].toNat : Int) == 45) = false := by simp; omega
          have HN := hd (HOK.o ⟨by rw [HTL.o]; omega, by rw [HTL.o]; omega, by rw [B0.o]; exact c5, by rw [HTL.o, B1.o]; exact c6, fun i hi => HLC.o i (by rw [HTL.o, HZ.o] at hi; exact hi)⟩)
          clear c5 c6
          go_wp2
          go_round
          case rel => exact ⟨k + 1, nn + 1, k + 1, by go_num, by go_num, by go_num, by omega, by omega, by omega, HN⟩
          case measure => simp [intOf]; omega
    · have hke : k = s.size + 1 := by omega
      have hfin := hh.o
      rw [hke, ← HL.o] at hfin
      have HE := hd (domAt_end hfin)
      go_wp2_with fail
      go_ret
      exact ⟨retB (by rw [← HV.o, HE.o]; simp; omega), rfl⟩

end Go.Proofs.YtogjokofmfpmgaaGreatDoor
namespace Go.Proofs.YtogjokofmfpmgaaGreatDoor
open Go.RowKit


set_option maxRecDepth 100000 in
set_option maxHeartbeats 4000000 in
theorem rclean_calls (s : ByteArray) (hs : s.size ≤ 1000000) (w : World) : Calls Tryz.prog 132 #[.string s] w fun e w' => e = .returned (.tuple #[.string (bs (cleanT s.data.toList)), .int .i64 (cleanE s.data.toList)]) ∧ Below w.heap.size w w' := by
  have HL := hd (show s.data.toList.length = s.size by simp)
  obtain ⟨T, hT⟩ : ∃ T, cleanT s.data.toList = T := ⟨_, rfl⟩
  obtain ⟨E, hE⟩ : ∃ E, cleanE s.data.toList = E := ⟨_, rfl⟩
  rw [hT, hE]
  have HR := hd (⟨hT.symm, hE.symm⟩ : T = cleanT s.data.toList ∧ E = cleanE s.data.toList)
  clear hT hE
  obtain ⟨i0, hi, hz0, hz1, hz2⟩ := info_parts u8Info
  have HB1 := hd (Below.refl w.heap.size w)
  go_enter Tryz.func132, Tryz.ntmps132
  go_wp2
  go_loop [4, 5] (fun i _ => ∃ k : Nat, i = .int .i64 k ∧ k ≤ s.size ∧ Hd (scanB (s.data.toList.drop k) = cleanB s.data.toList)) (fun i _ => s.size - (intOf i).toNat)
  case atStart => exact ⟨0, rfl, Nat.zero_le _, hd (by rw [List.drop_zero]; exact scanB_clean _)⟩
  case round =>
    obtain ⟨k, rfl, hk, hh⟩ := hrel
    by_cases hlt : k < s.size
    · have hki : (0 : Int) ≤ (k : Int) := by omega
      have hne : s.data.toList.drop k ≠ [] := fun e => by
        have := congrArg List.length e
        rw [List.length_drop, HL.o] at this
        simp at this
        omega
      have hstep := scanB_step _ hne
      have hle := sgn_le _ hne
      rw [List.length_drop, HL.o] at hle
      rw [hh.o, bt_drop, Nat.add_zero, bt_self s k hlt] at hstep
      obtain ⟨q, hq⟩ : ∃ q, sgn (s.data.toList.drop k) = q := ⟨_, rfl⟩
      have hsg := sign_calls s k (by omega) hlt w
      rw [hq] at hle hstep hsg
      have HSG := hd hsg
      have HST := hd hstep
      clear hsg hstep hne hq
      by_cases hq0 : q = 0
      · have HZ := hd (cleanB_no s.data.toList (by rw [HST.o, if_pos (.inl hq0)]))
        subst hq0
        go_wp2_with (go_at_call 151; refine HSG.o.mono ?_; rintro e w' ⟨rfl, rfl⟩)
        go_ret2
        exact ⟨retTE (by rw [HR.o.1, HZ.o.1]; rfl) (by rw [HR.o.2, HZ.o.2]), Below.refl _ _⟩
      · have n0 : ((q : Int) == 0) = false := by simp; omega
        by_cases hc : 32 ≤ s[k].toNat ∧ s[k].toNat ≠ 127
        · have HN : Hd (scanB (s.data.toList.drop (k + q)) = cleanB s.data.toList) := by
            have := HST.o
            rw [if_neg (by simp [okC, hc, hq0])] at this
            rw [this, List.drop_drop]
            rfl
          obtain ⟨hc1, hc2⟩ := hc
          have n127 : ((s[k].toNat : Int) == 127) = false := by simp; omega
          have hq1 : 1 ≤ q := by omega
          clear hc2 hq0
          go_wp2_with (go_at_call 151; refine HSG.o.mono ?_; rintro e w' ⟨rfl, rfl⟩)
          go_round
          case rel => exact ⟨k + q, by simp, by omega, HN⟩
          case measure => simp [intOf]; omega
        · have HZ := hd (cleanB_no s.data.toList (by rw [HST.o, if_pos (.inr (by simp [okC]; omega))]))
          by_cases hc1 : s[k].toNat < 32
          · clear hc hq0
            go_wp2_with (go_at_call 151; refine HSG.o.mono ?_; rintro e w' ⟨rfl, rfl⟩)
            go_ret2
            exact ⟨retTE (by rw [HR.o.1, HZ.o.1]; rfl) (by rw [HR.o.2, HZ.o.2]), Below.refl _ _⟩
          · have n127 : ((s[k].toNat : Int) == 127) = true := by simp; omega
            clear hc hq0
            go_wp2_with (go_at_call 151; refine HSG.o.mono ?_; rintro e w' ⟨rfl, rfl⟩)
            go_ret2
            exact ⟨retTE (by rw [HR.o.1, HZ.o.1]; rfl) (by rw [HR.o.2, HZ.o.2]), Below.refl _ _⟩
    · have hke : k = s.size := by omega
      subst hke
      have HCL := hd (show cleanB s.data.toList = true by
        rw [← hh.o, List.drop_of_length_le (by rw [HL.o]; exact Nat.le_refl _)]; rfl)
      go_wp2
      clear hh
      go_loopw [6, 7] (fun out i wr => ∃ (k : Nat) (A : Option Addr) (c m : Nat) (O : List UInt8), i = .int .i64 k ∧ k ≤ s.size ∧ out = .slice A m c ∧ m ≤ k ∧ Hd ((s.data.toList.take k).foldl sq [] = O) ∧ Hd (O.length = m) ∧ Row wr (From w.heap.size) 5 1 A m c (enc8 O) ∧ Below w.heap.size w wr) (fun _ i _ => s.size - (intOf i).toNat)
      case atStart => exact ⟨0, none, 0, 0, [], rfl, Nat.zero_le _, rfl, Nat.le_refl _, rfl, rfl, Row.nil _ _ _ _, HB1.o⟩
      case round =>
        obtain ⟨k, A, c, m, O, rfl, hk, rfl, hm, HO, HM, hr, hbe⟩ := hrel
        have hsz := hbe.size
        have hki : (0 : Int) ≤ (k : Int) := by omega
        by_cases hlt : k < s.size
        · by_cases h32 : s[k].toNat = 32
          · have n32 : ((s[k].toNat : Int) == 32) = true := by simp; omega
            have H32 := hd h32
            clear h32
            by_cases hm0 : m = 0
            · have HM0 := hd hm0
              obtain rfl := hm0
              go_wp2_with fail
              go_roundw
              case rel => exact ⟨k + 1, A, c, 0, O, by go_num, by omega, rfl, by omega, hd (by rw [fold_take s k hlt, HO.o]; exact sq_skip0 O _ H32.o HM.o), HM, hr, hbe⟩
              case measure => simp [intOf]; omega
            · obtain ⟨m', hm'⟩ : ∃ m', m = m' + 1 := ⟨m - 1, by omega⟩
              have n0 : ((m : Int) == 0) = false := by simp; omega
              obtain ⟨g, hA, _, hg, hmc, hcm, hcell, _⟩ := hr.at_ (by omega)
              unfold maxLen at hcm
              have hlast := hcell m' _ (enc8_get O m' (by rw [HM.o]; omega))
              have e1 : (m : Int) - 1 = (m' : Int) := by omega
              have HM' := hd hm'
              have hm1 : m' < m := by omega
              have hm2 : m ≤ 1000000 := by omega
              clear hm' hcell hm0
              subst hA
              by_cases hl : bt O m' = 32
              · have HLL := hd hl
                rw [hl] at hlast
                clear hl
                go_wp2_with fail
                go_roundw
                case rel => exact ⟨k + 1, some ⟨g, 0, none⟩, c, m, O, by go_num, by omega, rfl, by omega, hd (by rw [fold_take s k hlt, HO.o]; exact sq_skip _ H32.o (HM.o.trans HM'.o) HLL.o), HM, hr, hbe⟩
                case measure => simp [intOf]; omega
              · have nl : ((bt O m' : Int) == 32) = false := by simp; omega
                have HLL := hd hl
                clear hl
                go_wp2_with (at_builtin; go_loud (refine wpList_append_row rfl _ _ 27 rfl (Of (some ⟨g, 0, none⟩)) 5 i0 (.int .u8 0) 1 1 Tryz.underlying27 hi hz0 hz1 hz2 rfl (some ⟨g, 0, none⟩) m c (enc8 O) rfl (hr.own_.alloc _) ⟨_, 0, none⟩ 1 1 [.int .u8 (s[k].toNat : Int)] rfl rfl (cells_at (Blk.new_ _ _ (by simp) _ _) rfl) (by simp [Value.oneCell']) (by omega) (by unfold maxLen; omega) (by omega) ?_; intro A2 c2 w2 hown2 hchg2))
                go_roundw
                case rel =>
                  refine ⟨k + 1, A2, c2, m + 1, O ++ [s[k]], by go_num, by omega, rfl, by omega, hd (by rw [fold_take s k hlt, HO.o]; exact sq_put _ (HM.o.trans HM'.o) HLL.o), hd (by rw [List.length_append, HM.o]; rfl), ?_, ?_⟩
                  · rw [enc8_snoc]
                    refine hown2.mono fun q hq => ?_
                    rcases hq with hq | hq
                    · exact hr.of_sub q hq
                    · simp at hq; show w.heap.size ≤ q; omega
                  · exact hbe.trans ((((Chg.refl (From w.heap.size) wr).alloc _).trans hchg2 (fun q hq => .inl (hr.of_sub q hq))).below (fun _ h => h) hsz)
                case measure => simp [intOf]; omega
          · have n32 : ((s[k].toNat : Int) == 32) = false := by simp; omega
            have H32 := hd h32
            clear h32
            go_wp2_with (at_builtin; go_loud (refine wpList_append_row rfl _ _ 27 rfl (Of A) 5 i0 (.int .u8 0) 1 1 Tryz.underlying27 hi hz0 hz1 hz2 rfl A m c (enc8 O) rfl (hr.own_.alloc _) ⟨_, 0, none⟩ 1 1 [.int .u8 (s[k].toNat : Int)] rfl rfl (cells_at (Blk.new_ _ _ (by simp) _ _) rfl) (by simp [Value.oneCell']) (by omega) (by unfold maxLen; omega) (by omega) ?_; intro A2 c2 w2 hown2 hchg2))
            go_roundw
            case rel =>
              refine ⟨k + 1, A2, c2, m + 1, O ++ [s[k]], by go_num, by omega, rfl, by omega, hd (by rw [fold_take s k hlt, HO.o]; exact sq_other O _ H32.o), hd (by rw [List.length_append, HM.o]; rfl), ?_, ?_⟩
              · rw [enc8_snoc]
                refine hown2.mono fun q hq => ?_
                rcases hq with hq | hq
                · exact hr.of_sub q hq
                · simp at hq; show w.heap.size ≤ q; omega
              · exact hbe.trans ((((Chg.refl (From w.heap.size) wr).alloc _).trans hchg2 (fun q hq => .inl (hr.of_sub q hq))).below (fun _ h => h) hsz)
            case measure => simp [intOf]; omega
        · have hke : k = s.size := by omega
          subst hke
          clear hk
          have hfold : s.data.toList.take s.size = s.data.toList := List.take_of_length_le (by rw [HL.o]; exact Nat.le_refl _)
          rw [hfold] at HO
          clear hfold
          by_cases hm0 : m = 0
          · have HZ := hd (cleanB_0 _ HCL.o (by
              have : O = [] := List.eq_nil_of_length_eq_zero (HM.o.trans hm0)
              unfold sqz
              rw [HO.o, this]; rfl))
            have HM0 := hd hm0
            obtain rfl := hm0
            go_wp2
            go_ret2
            exact ⟨retTE (by rw [HR.o.1, HZ.o.1]; rfl) (by rw [HR.o.2, HZ.o.2]), hbe⟩
          · obtain ⟨m', rfl⟩ : ∃ m', m = m' + 1 := ⟨m - 1, by omega⟩
            clear hm0
            obtain ⟨g, rfl, _, hg, hmc, hcm, hcell, _⟩ := hr.at_ (by omega)
            unfold maxLen at hcm
            have hlast := hcell m' _ (enc8_get O m' (by rw [HM.o]; omega))
            have e1 : ((m' + 1 : Nat) : Int) - 1 = (m' : Int) := by omega
            by_cases h32 : bt O m' = 32
            · have H32 := hd h32
              rw [h32] at hlast
              clear h32
              have hfin : sqz s.data.toList = O.take m' := by unfold sqz; rw [HO.o]; exact trimE_yes HM.o H32.o
              have hlen : (O.take m').length = m' := by rw [List.length_take, HM.o]; omega
              have HFN := hd hfin
              have HLN := hd hlen
              clear hfin
              have hv := run_convert_bytes_back (P := Tryz.prog) wr 27 9 5 ⟨g, 0, none⟩ c (O.take m') Tryz.underlying27 Tryz.underlying5 Tryz.underlying9 (fun j hj => by
                have hjO : j < O.length := by rw [HLN.o] at hj; rw [HM.o]; omega
                have := hcell j _ (enc8_get O j hjO)
                rw [bt_list O j hjO] at this
                have hp : (⟨g, 0, none⟩ : Addr).add j = ⟨g, j, none⟩ := by unfold Addr.add; split <;> simp_all
                rw [hp]
                simpa using this)
              rw [hlen] at hv
              clear hlen
              by_cases q0 : m' = 0
              · have HZ := hd (cleanB_0 _ HCL.o (by rw [HFN.o]; exact List.eq_nil_of_length_eq_zero (HLN.o.trans q0)))
                subst q0
                clear hv
                go_wp2
                go_ret2
                exact ⟨retTE (by rw [HR.o.1, HZ.o.1]; rfl) (by rw [HR.o.2, HZ.o.2]), hbe⟩
              · have n0 : ((m' : Int) == 0) = false := by simp; omega
                have q0p : 1 ≤ m' := by omega
                clear q0
                by_cases q1 : 64 < m'
                · clear hv
                  have HZ := hd (cleanB_64 _ HCL.o (by rw [HFN.o, HLN.o]; omega))
                  go_wp2
                  go_ret2
                  exact ⟨retTE (by rw [HR.o.1, HZ.o.1]; rfl) (by rw [HR.o.2, HZ.o.2]), hbe⟩
                · have HZ := hd (cleanB_ok _ HCL.o (by rw [HFN.o, HLN.o]; omega) (by rw [HFN.o, HLN.o]; omega))
                  go_wp2
                  go_ret2
                  exact ⟨retTE (by rw [HR.o.1, HZ.o.1, HFN.o]; rfl) (by rw [HR.o.2, HZ.o.2]), hbe⟩
            · have n32 : ((bt O m' : Int) == 32) = false := by simp; omega
              have H32 := hd h32
              clear h32
              have hfin : sqz s.data.toList = O := by unfold sqz; rw [HO.o]; exact trimE_no HM.o H32.o
              have hlen : (O).length = m' + 1 := HM.o
              have HFN := hd hfin
              have HLN := hd hlen
              clear hfin
              have hv := run_convert_bytes_back (P := Tryz.prog) wr 27 9 5 ⟨g, 0, none⟩ c (O) Tryz.underlying27 Tryz.underlying5 Tryz.underlying9 (fun j hj => by
                have hjO : j < O.length := by rw [HLN.o] at hj; rw [HM.o]; omega
                have := hcell j _ (enc8_get O j hjO)
                rw [bt_list O j hjO] at this
                have hp : (⟨g, 0, none⟩ : Addr).add j = ⟨g, j, none⟩ := by unfold Addr.add; split <;> simp_all
                rw [hp]
                simpa using this)
              rw [hlen] at hv
              clear hlen
              by_cases q1 : 64 < m' + 1
              · clear hv
                have HZ := hd (cleanB_64 _ HCL.o (by rw [HFN.o, HLN.o]; omega))
                go_wp2
                go_ret2
                exact ⟨retTE (by rw [HR.o.1, HZ.o.1]; rfl) (by rw [HR.o.2, HZ.o.2]), hbe⟩
              · have HZ := hd (cleanB_ok _ HCL.o (by rw [HFN.o, HLN.o]; omega) (by rw [HFN.o, HLN.o]; omega))
                go_wp2
                go_ret2
                exact ⟨retTE (by rw [HR.o.1, HZ.o.1, HFN.o]; rfl) (by rw [HR.o.2, HZ.o.2]), hbe⟩

end Go.Proofs.YtogjokofmfpmgaaGreatDoor
namespace Go.Proofs.YtogjokofmfpmgaaGreatDoor
open Go.RowKit

theorem app_uniq (c : UInt8) : ∀ (a b a' b' : List UInt8), a ++ c :: b = a' ++ c :: b' → c ∉ a → c ∉ b' → c ∉ b → a = a' ∧ b = b'
  | [], b, [], b', h, _, _, _ => by simpa using h
  | [], b, x :: a', b', h, _, _, hb => by
    simp only [List.nil_append, List.cons_append, List.cons.injEq] at h
    exact absurd (h.2 ▸ by simp) hb
  | x :: a, b, [], b', h, ha, _, _ => by
    simp only [List.nil_append, List.cons_append, List.cons.injEq] at h
    exact absurd (by simp [h.1]) ha
  | x :: a, b, y :: a', b', h, ha, hb', hb => by
    simp only [List.cons_append, List.cons.injEq] at h
    simp only [List.mem_cons, not_or] at ha
    have := app_uniq c a b a' b' h.2 ha.2 hb' hb
    exact ⟨by rw [h.1, this.1], this.2⟩
/-- Of an address the last @ is the first one. -/
theorem addr_last {l : List UInt8} {q : Nat} (h : AddrP l) (hq : LastAt l q) : bef 64 l = l.take q ∧ aft 64 l = l.drop (q + 1) := by
  have e1 := bef_aft 64 l h.2.1
  have e2 := lastAt_split hq
  exact app_uniq 64 _ _ _ _ (e1.symm.trans e2) (bef_not 64 l) (lastAt_aft hq) (dom_no_at h.2.2.2)
theorem addr_at {l : List UInt8} {q : Nat} (hq : LastAt l q) (h1 : l.length ≤ 64) (ha : LocP (l.take q)) (hb : DomP (l.drop (q + 1))) : AddrP l ∧ bef 64 l = l.take q ∧ aft 64 l = l.drop (q + 1) := by
  have e2 := lastAt_split hq
  have := addr_of_parts (a := l.take q) (b := l.drop (q + 1)) (by rw [← e2]; exact h1) ha hb
  rw [← e2] at this
  exact this
def SeekAt (l : List UInt8) (k : Nat) (p : Int) : Prop := (p = -1 ∧ ∀ j, j < k → bt l j ≠ 64) ∨ (∃ q : Nat, p = q ∧ q < k ∧ bt l q = 64 ∧ ∀ j, q < j → j < k → bt l j ≠ 64)
theorem seek_yes {l : List UInt8} {k : Nat} (hc : bt l k = 64) : SeekAt l (k + 1) k := .inr ⟨k, rfl, by omega, hc, fun j h1 h2 => by omega⟩
theorem seek_no {l : List UInt8} {k : Nat} {p : Int} (h : SeekAt l k p) (hc : bt l k ≠ 64) : SeekAt l (k + 1) p := by
  rcases h with ⟨h1, h2⟩ | ⟨q, h1, h2, h3, h4⟩
  · refine .inl ⟨h1, fun j hj => ?_⟩
    by_cases e : j = k
    · subst e; exact hc
    · exact h2 j (by omega)
  · refine .inr ⟨q, h1, by omega, h3, fun j h5 h6 => ?_⟩
    by_cases e : j = k
    · subst e; exact hc
    · exact h4 j h5 (by omega)

set_option maxRecDepth 100000 in
set_option maxHeartbeats 4000000 in
theorem rparts_calls (s : ByteArray) (hs : s.size ≤ 1000000000) (w : World) : Calls Tryz.prog 174 #[.string s] w fun e w' => e = .returned (.tuple #[.string (bs (partA s.data.toList)), .string (bs (partB s.data.toList)), .bool (addrB s.data.toList)]) ∧ Below w.heap.size w w' := by
  obtain ⟨V, hV⟩ : ∃ V, Value.tuple #[.string (bs (partA s.data.toList)), .string (bs (partB s.data.toList)), .bool (addrB s.data.toList)] = V := ⟨_, rfl⟩
  rw [hV]
  have HNO := hd (fun (h : ¬ AddrP s.data.toList) => by rw [← hV, ← (part_no h).1, ← (part_no h).2.1, ← (part_no h).2.2] : ¬ AddrP s.data.toList → V = .tuple #[.string (bs []), .string (bs []), .bool false])
  have HYES := hd (fun (h : AddrP s.data.toList) => by rw [← hV, ← (part_yes h).1, ← (part_yes h).2.1, ← (part_yes h).2.2] : AddrP s.data.toList → V = .tuple #[.string (bs (bef 64 s.data.toList)), .string (bs (aft 64 s.data.toList)), .bool true])
  clear hV
  have HL := hd (show s.data.toList.length = s.size by simp)
  go_enter Tryz.func174, Tryz.ntmps174
  go_wp2_with fail
  go_loop [5, 6] (fun a i => ∃ k : Nat, i = .int .i64 k ∧ k ≤ s.size ∧ ∃ p : Int, a = .int .i64 p ∧ Hd (SeekAt s.data.toList k p)) (fun _ i => s.size - (intOf i).toNat)
  case atStart => exact ⟨0, rfl, Nat.zero_le _, -1, rfl, .inl ⟨rfl, fun j h => absurd h (Nat.not_lt_zero _)⟩⟩
  case round =>
    obtain ⟨k, rfl, hk, p, rfl, hh⟩ := hrel
    have hki : (0 : Int) ≤ (k : Int) := by omega
    by_cases hlt : k < s.size
    · by_cases hc : s[k].toNat = 64
      · have n64 : ((s[k].toNat : Int) == 64) = true := by simp; omega
        have HN := hd (seek_yes (l := s.data.toList) ((bt_self s k hlt).trans hc))
        clear hc
        go_wp2
        go_round
        case rel => exact ⟨k + 1, by go_num, by omega, k, rfl, HN⟩
        case measure => simp [intOf]; omega
      · have n64 : ((s[k].toNat : Int) == 64) = false := by simp; omega
        have HN := hd (seek_no hh.o (by rw [bt_self s k hlt]; exact hc))
        clear hc
        go_wp2
        go_round
        case rel => exact ⟨k + 1, by go_num, by omega, p, rfl, HN⟩
        case measure => simp [intOf]; omega
    · have hke : k = s.size := by omega
      subst hke
      rcases hh.o with ⟨rfl, h2⟩ | ⟨q, rfl, h1, h2, h3⟩
      · have HX := hd (HNO.o (fun h => no_at (by rw [HL.o]; exact h2) h.2.1))
        clear h2
        go_wp2
        go_ret3
        exact ⟨by rw [HX.o]; rfl, Below.refl _ _⟩
      · have HQ := hd (⟨by rw [HL.o]; exact h1, h2, by rw [HL.o]; exact h3⟩ : LastAt s.data.toList q)
        clear h2 h3 hh hk
        by_cases c1 : 64 < s.size
        · have HX := hd (HNO.o (fun h => by have := h.1; rw [HL.o] at this; omega))
          go_wp2
          go_ret3
          exact ⟨by rw [HX.o]; rfl, Below.refl _ _⟩
        have hz1 : (s.extract 0 q).size ≤ 1000000000 := by rw [ByteArray.size_extract]; omega
        have hz2 : (s.extract (q + 1) s.size).size ≤ 1000000000 := by rw [ByteArray.size_extract]; omega
        have hl := rlocal_calls (s.extract 0 q) hz1 w
        have hd2 := domain_calls (s.extract (q + 1) s.size) hz2 w
        have e1 : (s.extract 0 q).data.toList = s.data.toList.take q := by rw [ext_data, List.drop_zero, Nat.sub_zero]
        have e2 : (s.extract (q + 1) s.size).data.toList = s.data.toList.drop (q + 1) := by
          rw [ext_data]; exact List.take_of_length_le (by rw [List.length_drop, HL.o]; exact Nat.le_refl _)
        have b1 : s.extract 0 q = bs (s.data.toList.take q) := by rw [← e1]; exact (bs_self _).symm
        have b2 : s.extract (q + 1) s.size = bs (s.data.toList.drop (q + 1)) := by rw [← e2]; exact (bs_self _).symm
        have BE := hd (⟨b1, b2⟩ : s.extract 0 q = bs (s.data.toList.take q) ∧ s.extract (q + 1) s.size = bs (s.data.toList.drop (q + 1)))
        clear hz1 hz2 b1 b2
        rw [e1] at hl
        rw [e2] at hd2
        clear e1 e2
        by_cases c2 : LocP (s.data.toList.take q)
        · rw [locB_t c2] at hl
          have H2 := hd hl
          by_cases c3 : DomP (s.data.toList.drop (q + 1))
          · rw [domB_t c3] at hd2
            have H3 := hd hd2
            have HA := hd (addr_at HQ.o (by rw [HL.o]; omega) c2 c3)
            have HX := hd (HYES.o HA.o.1)
            clear hl hd2 c2 c3
            go_wp2_with fail
            refine H2.o.mono ?_
            rintro e w' ⟨rfl, rfl⟩
            go_wp2_with fail
            refine H3.o.mono ?_
            rintro e w' ⟨rfl, rfl⟩
            have hwr : IntKind.i64.wrap ((q : Int) + 1) = (q : Int) + 1 := IntWalk.i64_in _ (by omega)
            have hq0 : (0 : Int) ≤ (q : Int) + 1 := by omega
            have hq1 : ((q : Int) + 1).toNat = q + 1 := by omega
            have hq2 : (0 : Int) ≤ (q : Int) := by omega
            have hq3 : (q : Int) + 1 ≤ (s.size : Int) := by omega
            go_wp2_with fail
            go_quiet (fail)
            go_wp2
            go_ret3
            refine ⟨?_, bdrewN (Below.refl _ _) _⟩
            rw [HX.o, HA.o.2.1, HA.o.2.2, ← BE.o.1, ← BE.o.2]
            rfl
          · rw [domB_f c3] at hd2
            have H3 := hd hd2
            have HX := hd (HNO.o (fun h => c3 (by have e := (addr_last h HQ.o).2; rw [← e]; exact h.2.2.2)))
            clear hl hd2 c2 c3
            go_wp2_with fail
            refine H2.o.mono ?_
            rintro e w' ⟨rfl, rfl⟩
            go_wp2_with fail
            refine H3.o.mono ?_
            rintro e w' ⟨rfl, rfl⟩
            go_wp2_with fail
            go_ret3
            exact ⟨by rw [HX.o]; rfl, Below.refl _ _⟩
        · rw [locB_f c2] at hl
          have H2 := hd hl
          have HX := hd (HNO.o (fun h => c2 (by have e := (addr_last h HQ.o).1; rw [← e]; exact h.2.2.1)))
          clear hl hd2 c2
          go_wp2_with fail
          refine H2.o.mono ?_
          rintro e w' ⟨rfl, rfl⟩
          go_wp2_with fail
          go_ret3
          exact ⟨by rw [HX.o]; rfl, Below.refl _ _⟩

theorem ris_calls (s : ByteArray) (hs : s.size ≤ 1000000000) (w : World) : Calls Tryz.prog 150 #[.string s] w fun e w' => e = .returned (.bool (addrB s.data.toList)) ∧ Below w.heap.size w w' := by
  have HC := hd (rparts_calls s hs w)
  go_enter Tryz.func150, Tryz.ntmps150
  go_wp2_with fail
  refine HC.o.mono ?_
  rintro e w1 ⟨rfl, hb1⟩
  go_wp2_with fail
  go_ret
  exact ⟨rfl, hb1⟩

end Go.Proofs.YtogjokofmfpmgaaGreatDoor
namespace Go.Proofs.YtogjokofmfpmgaaGreatDoor
open Go.RowKit Go.Sort

theorem folded_from {T : List UInt8} {q : Nat} (h : LastAt T q) : ∃ C, Folded T q C := by
  refine ⟨lfold T, ?_, fun _ => rfl, fun h => h⟩
  rw [lfold_last h]
  have hq := h.1
  have h64 : T[q] = 64 := by
    have := h.2.1
    rw [bt_list T q hq] at this
    exact UInt8.toNat_inj.1 this
  rw [List.drop_eq_getElem_cons hq, h64]
  rfl
theorem folded_end {T : List UInt8} (h : (64 : UInt8) ∉ T) : ∃ C, Folded T T.length C :=
  ⟨T, by simp [foldL], fun hA => absurd hA.2.1 h, fun hA => absurd hA.2.1 (by rw [lfold_no T h]; exact h)⟩
set_option maxRecDepth 100000 in
set_option maxHeartbeats 4000000 in
theorem rmail_calls (s : ByteArray) (hs : s.size ≤ 1000000) (w : World) : Calls Tryz.prog 131 #[.string s] w fun e w' => e = .returned (.tuple #[.string (bs (canT s.data.toList)), .int .i64 (canE s.data.toList)]) ∧ Below w.heap.size w w' := by
  have C1 := hd (rclean_calls s hs w)
  obtain ⟨V, hV⟩ : ∃ V, canT s.data.toList = V := ⟨_, rfl⟩
  obtain ⟨F, hF⟩ : ∃ F, canE s.data.toList = F := ⟨_, rfl⟩
  rw [hV, hF]
  have HR := hd (⟨hV.symm, hF.symm⟩ : V = canT s.data.toList ∧ F = canE s.data.toList)
  clear hV hF
  have hl := cleanT_len s.data.toList
  have R1 := hd (fun h : cleanE s.data.toList ≠ 0 => can_e h)
  have R2 := hd (fun (h : cleanE s.data.toList = 0) k => can_yes h k)
  have R3 := hd (fun (h : cleanE s.data.toList = 0) k => can_no h k)
  obtain ⟨T, hT⟩ : ∃ T, cleanT s.data.toList = T := ⟨_, rfl⟩
  obtain ⟨E, hE⟩ : ∃ E, cleanE s.data.toList = E := ⟨_, rfl⟩
  rw [hT, hE] at C1 R2 R3
  rw [hE] at R1
  rw [hT] at hl
  clear hT hE
  by_cases hE0 : E = 0
  · have HE := hd hE0
    subst hE0
    have hz : (bs T).size = T.length := bs_size T
    have HZ := hd hz
    clear hz
    have hz1 : (bs T).size ≤ 64 := by rw [HZ.o]; exact hl
    go_enter Tryz.func131, Tryz.ntmps131
    go_wp2_with fail
    refine C1.o.mono ?_
    rintro e w1 ⟨rfl, hb1⟩
    have B1 := hd hb1
    clear hb1
    go_wp2_with fail
    go_loop [6, 7] (fun x i => ∃ k a : Nat, i = .int .i64 k ∧ x = .int .i64 a ∧ k ≤ (bs T).size ∧ Hd (∃ p : Int, SeekAt T k p ∧ ((p = -1 ∧ a = T.length) ∨ p = a))) (fun _ i => (bs T).size - (intOf i).toNat)
    case atStart => exact ⟨0, (bs T).size, rfl, rfl, Nat.zero_le _, -1, .inl ⟨rfl, fun j h => absurd h (Nat.not_lt_zero _)⟩, .inl ⟨rfl, HZ.o⟩⟩
    case round =>
      obtain ⟨k, a, rfl, rfl, hk, hh⟩ := hrel
      have hki : (0 : Int) ≤ (k : Int) := by omega
      by_cases hlt : k < (bs T).size
      · have BK := hd (bt_self (bs T) k hlt)
        rw [bs_data] at BK
        by_cases hc : (bs T)[k].toNat = 64
        · have n64 : (((bs T)[k].toNat : Int) == 64) = true := by simp; omega
          have HN : Hd (∃ p : Int, SeekAt T (k + 1) p ∧ ((p = -1 ∧ k = T.length) ∨ p = k)) := ⟨k, seek_yes (BK.o.trans hc), .inr rfl⟩
          clear hc
          go_wp2
          go_round
          case rel => exact ⟨k + 1, k, by go_num, rfl, by omega, HN⟩
          case measure => simp [intOf]; omega
        · have n64 : (((bs T)[k].toNat : Int) == 64) = false := by simp; omega
          have HN : Hd (∃ p : Int, SeekAt T (k + 1) p ∧ ((p = -1 ∧ a = T.length) ∨ p = a)) := by
            obtain ⟨p, h1, h2⟩ := hh.o
            exact ⟨p, seek_no h1 (by rw [BK.o]; exact hc), h2⟩
          clear hc
          go_wp2
          go_round
          case rel => exact ⟨k + 1, a, by go_num, rfl, by omega, HN⟩
          case measure => simp [intOf]; omega
      · have hke : k = (bs T).size := by omega
        have hC : a ≤ T.length ∧ ∃ C, Folded T a C := by
          obtain ⟨p, hseek, hx⟩ := hh.o
          rw [hke, HZ.o] at hseek
          rcases hseek with ⟨hp, hn⟩ | ⟨q, hp, h1, h2, h3⟩
          · rcases hx with ⟨_, rfl⟩ | hp'
            · exact ⟨Nat.le_refl _, folded_end (no_at hn)⟩
            · omega
          · rcases hx with ⟨hp', _⟩ | hp'
            · omega
            · obtain rfl : a = q := by omega
              exact ⟨by omega, folded_from ⟨h1, h2, h3⟩⟩
        obtain ⟨hal, C, hC⟩ := hC
        have HC := hd hC
        clear hC hke
        go_wp2_with fail
        have ha0 : (0 : Int) ≤ (a : Int) := by omega
        have ha1 : (a : Int) ≤ ((bs T).size : Int) := by rw [HZ.o]; omega
        have hzz : ((bs T).extract a (bs T).size).size ≤ 1000000000 := by rw [ByteArray.size_extract]; omega
        have FC := rfold_calls ((bs T).extract a (bs T).size) hzz
        have ef : ((bs T).extract a (bs T).size).data.toList = T.drop a := by
          rw [ext_data, bs_data]; exact List.take_of_length_le (by rw [List.length_drop, HZ.o]; exact Nat.le_refl _)
        rw [ef] at FC
        clear hzz
        have D1 := hd (fun dd os => Calls.regrown_of (FC (grow (redrawn w1 dd) os)))
        have z1 : (bs (foldL (T.drop a))).size ≤ 64 := by rw [bs_size, foldL_len, List.length_drop]; omega
        have z2 : ((bs T).extract 0 a).size ≤ 64 := by rw [ByteArray.size_extract]; omega
        clear FC ef
        refine wp_region_quiet_below (by kernel_rfl) (by kernel_rfl) ?_
        repeat (go_big_quiet_step (exact D1.o _ _))
        refine wpQuiet_nil ?_
        intro w2 hw'
        have hb2 : Below w1.heap.size w1 w2 := by
          obtain ⟨⟨dq, osq⟩, hw''⟩ := hw'
          subst hw''
          exact below_regrown w1 dq osq
        have B2 := hd (B1.o.trans (hb2.mono B1.o.size))
        clear hw' hb2
        have e4 : (bs T).extract 0 a ++ bs (foldL (T.drop a)) = bs C := by
          rw [bs_ext, List.drop_zero, Nat.sub_zero, bs_app2, HC.o.1]
        rw [e4]
        clear e4 z1 z2
        have hIS := ris_calls (bs C) (by rw [bs_size, ← HC.o.1, List.length_append, foldL_len, List.length_take, List.length_drop]; omega) w2
        rw [bs_data] at hIS
        by_cases hA : AddrP C
        · rw [addrB_t hA] at hIS
          have HX := hd (R2.o trivial (HC.o.2.1 hA ▸ hA))
          have HCL := hd (HC.o.2.1 hA)
          have HIS := hd hIS
          clear hIS hA
          go_wp2_with fail
          refine HIS.o.mono ?_
          rintro e w3 ⟨rfl, hb3⟩
          go_wp2_with fail
          go_ret2
          exact ⟨retTE (by rw [HR.o.1, HX.o.1, ← HCL.o]) (by rw [HR.o.2, HX.o.2]), B2.o.trans (hb3.mono B2.o.size)⟩
        · rw [addrB_f hA] at hIS
          have HX := hd (R3.o trivial (fun h => hA (HC.o.2.2 h)))
          have HIS := hd hIS
          clear hIS hA
          go_wp2_with fail
          refine HIS.o.mono ?_
          rintro e w3 ⟨rfl, hb3⟩
          go_wp2_with fail
          go_ret2
          exact ⟨retTE (by rw [HR.o.1, HX.o.1]; rfl) (by rw [HR.o.2, HX.o.2]), B2.o.trans (hb3.mono B2.o.size)⟩
  · have n0 : (E != 0) = true := by simpa using hE0
    have H0 := hd (R1.o hE0)
    clear hE0
    go_enter Tryz.func131, Tryz.ntmps131
    go_wp2_with fail
    refine C1.o.mono ?_
    rintro e w1 ⟨rfl, hb1⟩
    go_wp2_with fail
    go_ret2
    exact ⟨retTE (by rw [HR.o.1, H0.o.1]; rfl) (by rw [HR.o.2, H0.o.2]), hb1⟩

end Go.Proofs.YtogjokofmfpmgaaGreatDoor
namespace Go.Proofs.YtogjokofmfpmgaaGreatDoor
open Go.RowKit

set_option maxHeartbeats 1000000 in
theorem ristel_calls (s : ByteArray) (hs : s.size ≤ 1000000000) (w : World) : Calls Tryz.prog 148 #[.string s] w fun e w' => e = .returned (.bool (telB s.data.toList)) ∧ w = w' := by
  have hl : s.data.toList.length = s.size := by simp
  have HL := hd hl
  clear hl
  obtain ⟨v, hv⟩ : ∃ v, telB s.data.toList = v := ⟨_, rfl⟩
  rw [hv]
  have HF := hd (fun h => hv.symm.trans (telB_f h) : ¬ TelP s.data.toList → v = false)
  have HT := hd (fun h => hv.symm.trans (telB_t h) : TelP s.data.toList → v = true)
  clear hv
  have key : ∀ (t : ByteArray), t.data.toList = telR s.data.toList → Hd (TelP s.data.toList ↔ 3 ≤ t.size ∧ t.size ≤ 15 ∧ ∀ i, i < t.size → 48 ≤ bt t.data.toList i ∧ bt t.data.toList i ≤ 57) := by
    intro t ht
    have : t.data.toList.length = t.size := by simp
    unfold TelP
    rw [← ht, this]
    exact hd Iff.rfl
  by_cases c0 : s.size = 0
  · have HX := hd (key s (by unfold telR; rw [if_neg (by rw [HL.o]; omega)]))
    have HV := hd (HF.o (fun h => by have := (HX.o.o.1 h).1; omega))
    clear key
    go_enter Tryz.func148, Tryz.ntmps148
    go_wp2
    go_loop [3, 2] (fun i _ => ∃ k : Nat, i = .int .i64 k ∧ k ≤ s.size) (fun i _ => s.size - (intOf i).toNat)
    case atStart => exact ⟨0, rfl, Nat.zero_le _⟩
    case round =>
      obtain ⟨k, rfl, hk⟩ := hrel
      go_wp2
      all_goals first
        | (exfalso; omega)
        | (go_ret; exact ⟨retB (by first | exact HV.o.symm | (rw [HV.o]; simp; omega)), rfl⟩)
  · have c0' : 0 < s.size := by omega
    have B0 := hd (bt_self s 0 c0')
    by_cases c1 : s[0].toNat = 43
    · have n1 : ((s[0].toNat : Int) == 43) = true := by simp; omega
      have HX := hd (key (s.extract 1 s.size) (by
        unfold telR
        rw [if_pos ⟨by rw [HL.o]; exact c0', B0.o.trans c1⟩, ext_data]
        exact List.take_of_length_le (by rw [List.length_drop, HL.o]; exact Nat.le_refl _)))
      clear key c1
      have hze : (s.extract 1 s.size).size = s.size - 1 := by rw [ByteArray.size_extract]; omega
      go_enter Tryz.func148, Tryz.ntmps148
      go_wp2
      generalize s.extract 1 s.size = t at *
      go_loop [3, 2] (fun i _ => ∃ k : Nat, i = .int .i64 k ∧ k ≤ t.size ∧ Hd (∀ j, j < k → 48 ≤ bt t.data.toList j ∧ bt t.data.toList j ≤ 57)) (fun i _ => t.size - (intOf i).toNat)
      case atStart => exact ⟨0, rfl, Nat.zero_le _, fun j hj => absurd hj (Nat.not_lt_zero _)⟩
      case round =>
        obtain ⟨k, rfl, hk, hh⟩ := hrel
        have hki : (0 : Int) ≤ (k : Int) := by omega
        by_cases hlt : k < t.size
        · have BK := hd (bt_self t k hlt)
          by_cases hc : 48 ≤ t[k].toNat ∧ t[k].toNat ≤ 57
          · have HN : Hd (∀ j, j < k + 1 → 48 ≤ bt t.data.toList j ∧ bt t.data.toList j ≤ 57) := fun j hj => by
              by_cases e : j = k
              · subst e; rw [BK.o]; exact hc
              · exact hh.o j (by omega)
            have d1 : (decide ((48 : Int) ≤ (t[k].toNat : Int)) && decide ((t[k].toNat : Int) ≤ 57)) = true := by simp; omega
            clear hc
            go_wp2_with (go_at_call 91; refine (digit_calls _ _).mono ?_; rintro e w' ⟨rfl, rfl⟩)
            go_round
            case rel => exact ⟨k + 1, by go_num, by omega, HN⟩
            case measure => simp [intOf]; omega
          · have HV := hd (HF.o (fun h => hc (by rw [← BK.o]; exact (HX.o.o.1 h).2.2 k hlt)))
            have d1 : (decide ((48 : Int) ≤ (t[k].toNat : Int)) && decide ((t[k].toNat : Int) ≤ 57)) = false := by
              rw [Bool.eq_false_iff]; simp; omega
            clear hc
            go_wp2_with (go_at_call 91; refine (digit_calls _ _).mono ?_; rintro e w' ⟨rfl, rfl⟩)
            go_ret
            exact ⟨retB (by first | exact HV.o.symm | (rw [HV.o]; simp; omega)), rfl⟩
        · have hke : k = t.size := by omega
          subst hke
          clear hk hlt hki
          by_cases c3 : 3 ≤ t.size
          · by_cases c15 : t.size ≤ 15
            · have HV := hd (HT.o (HX.o.o.2 ⟨c3, c15, fun j hj => hh.o j hj⟩))
              go_wp2
              go_ret
              exact ⟨retB (by first | exact HV.o.symm | (rw [HV.o]; simp; omega)), rfl⟩
            · have HV := hd (HF.o (fun h => c15 (HX.o.o.1 h).2.1))
              go_wp2
              go_ret
              exact ⟨retB (by first | exact HV.o.symm | (rw [HV.o]; simp; omega)), rfl⟩
          · have HV := hd (HF.o (fun h => c3 (HX.o.o.1 h).1))
            go_wp2
            go_ret
            exact ⟨retB (by first | exact HV.o.symm | (rw [HV.o]; simp; omega)), rfl⟩
    · have n1 : ((s[0].toNat : Int) == 43) = false := by simp; omega
      have HX := hd (key s (by unfold telR; rw [if_neg (fun h => c1 (B0.o.symm.trans h.2))]))
      clear key c1
      go_enter Tryz.func148, Tryz.ntmps148
      go_wp2
      go_loop [3, 2] (fun i _ => ∃ k : Nat, i = .int .i64 k ∧ k ≤ s.size ∧ Hd (∀ j, j < k → 48 ≤ bt s.data.toList j ∧ bt s.data.toList j ≤ 57)) (fun i _ => s.size - (intOf i).toNat)
      case atStart => exact ⟨0, rfl, Nat.zero_le _, fun j hj => absurd hj (Nat.not_lt_zero _)⟩
      case round =>
        obtain ⟨k, rfl, hk, hh⟩ := hrel
        have hki : (0 : Int) ≤ (k : Int) := by omega
        by_cases hlt : k < s.size
        · have BK := hd (bt_self s k hlt)
          by_cases hc : 48 ≤ s[k].toNat ∧ s[k].toNat ≤ 57
          · have HN : Hd (∀ j, j < k + 1 → 48 ≤ bt s.data.toList j ∧ bt s.data.toList j ≤ 57) := fun j hj => by
              by_cases e : j = k
              · subst e; rw [BK.o]; exact hc
              · exact hh.o j (by omega)
            have d1 : (decide ((48 : Int) ≤ (s[k].toNat : Int)) && decide ((s[k].toNat : Int) ≤ 57)) = true := by simp; omega
            clear hc
            go_wp2_with (go_at_call 91; refine (digit_calls _ _).mono ?_; rintro e w' ⟨rfl, rfl⟩)
            go_round
            case rel => exact ⟨k + 1, by go_num, by omega, HN⟩
            case measure => simp [intOf]; omega
          · have HV := hd (HF.o (fun h => hc (by rw [← BK.o]; exact (HX.o.o.1 h).2.2 k hlt)))
            have d1 : (decide ((48 : Int) ≤ (s[k].toNat : Int)) && decide ((s[k].toNat : Int) ≤ 57)) = false := by
              rw [Bool.eq_false_iff]; simp; omega
            clear hc
            go_wp2_with (go_at_call 91; refine (digit_calls _ _).mono ?_; rintro e w' ⟨rfl, rfl⟩)
            go_ret
            exact ⟨retB (by first | exact HV.o.symm | (rw [HV.o]; simp; omega)), rfl⟩
        · have hke : k = s.size := by omega
          subst hke
          clear hk hlt hki
          by_cases c3 : 3 ≤ s.size
          · by_cases c15 : s.size ≤ 15
            · have HV := hd (HT.o (HX.o.o.2 ⟨c3, c15, fun j hj => hh.o j hj⟩))
              go_wp2
              go_ret
              exact ⟨retB (by first | exact HV.o.symm | (rw [HV.o]; simp; omega)), rfl⟩
            · have HV := hd (HF.o (fun h => c15 (HX.o.o.1 h).2.1))
              go_wp2
              go_ret
              exact ⟨retB (by first | exact HV.o.symm | (rw [HV.o]; simp; omega)), rfl⟩
          · have HV := hd (HF.o (fun h => c3 (HX.o.o.1 h).1))
            go_wp2
            go_ret
            exact ⟨retB (by first | exact HV.o.symm | (rw [HV.o]; simp; omega)), rfl⟩

end Go.Proofs.YtogjokofmfpmgaaGreatDoor
