/-
  The law's own test of labels.
-/
import Derived.Test.YtdnmeffglpmlaaaDoorMailM0
namespace Go.Proofs.YtdnmeffglpmlaaaDoor
open Go.RowKit

open Classical in
noncomputable def allB (l : List UInt8) : Bool := decide (AllLab l)
theorem allB_t {l : List UInt8} (h : AllLab l) : allB l = true := by simp [allB, h]
theorem allB_f {l : List UInt8} (h : ¬ AllLab l) : allB l = false := by simp [allB, h]

/-- What is known ahead of a sign: n signs of a label are read; o: they are all of a label's. -/
def LabAt (l : List UInt8) (k n : Nat) (o : Bool) : Prop :=
  (k ≤ l.length ∧ n ≤ k ∧ (∀ j, k - n ≤ j → j < k → bt l j ≠ 46) ∧ (o = true ↔ ∀ j, k - n ≤ j → j < k → labC (bt l j)) ∧ ∃ done, splitC 46 l = done ++ splitC 46 (l.drop (k - n)) ∧ ∀ x ∈ done, LabP x) ∨
  (k = l.length + 1 ∧ o = true ∧ AllLab l)
theorem labAt_start (l : List UInt8) : LabAt l 0 0 true := .inl ⟨Nat.zero_le _, Nat.le_refl _, fun j _ h => absurd h (Nat.not_lt_zero _), ⟨fun _ j _ h => absurd h (Nat.not_lt_zero _), fun _ => rfl⟩, [], by simp, fun x h => by cases h⟩
theorem labAt_sign {l : List UInt8} {k n : Nat} {o b : Bool} (h : LabAt l k n o) (hk : k < l.length) (h46 : bt l k ≠ 46) (hb : b = true ↔ (o = true ∧ labC (bt l k))) : LabAt l (k + 1) (n + 1) b := by
  rcases h with ⟨h1, h2, h3, h4, done, h5, h6⟩ | ⟨h1, _⟩
  · have e : k + 1 - (n + 1) = k - n := by omega
    refine .inl ⟨hk, by omega, fun j hj hj2 => ?_, ?_, done, by rw [e]; exact h5, h6⟩
    · rw [e] at hj
      by_cases e2 : j = k
      · subst e2; exact h46
      · exact h3 j hj (by omega)
    · rw [hb, h4, e]
      constructor
      · rintro ⟨g1, g2⟩ j hj hj2
        by_cases e2 : j = k
        · subst e2; exact g2
        · exact g1 j hj (by omega)
      · intro g
        exact ⟨fun j hj hj2 => g j hj (by omega), g k (by omega) (by omega)⟩
  · omega
/-- The label that ends here. -/
def seg (l : List UInt8) (k n : Nat) : List UInt8 := (l.drop (k - n)).take n
theorem bt_sg (l : List UInt8) (k n j : Nat) (h : j < n) : bt (seg l k n) j = bt l (k - n + j) := by
  unfold seg
  rw [← bt_drop]
  simp [bt, List.getD_eq_getElem?_getD, List.getElem?_take, h]
theorem seg_len {l : List UInt8} {k n : Nat} (hk : k ≤ l.length) (hn : n ≤ k) : (seg l k n).length = n := by
  unfold seg; rw [List.length_take, List.length_drop]; omega
theorem sg_split {l : List UInt8} {k n : Nat} (hk : k ≤ l.length) (hn : n ≤ k) (h3 : ∀ j, k - n ≤ j → j < k → bt l j ≠ 46) (hd : k = l.length ∨ bt l k = 46) :
    splitC 46 (l.drop (k - n)) = seg l k n :: (if k = l.length then [] else splitC 46 (l.drop (k + 1))) := by
  have hno : (46 : UInt8) ∉ seg l k n := fun hm => by
    obtain ⟨i, hi, e⟩ := mem_bt hm
    rw [seg_len hk hn] at hi
    rw [bt_sg l k n i hi] at e
    exact h3 _ (by omega) (by omega) e
  by_cases he : k = l.length
  · rw [if_pos he]
    have e : seg l k n = l.drop (k - n) := List.take_of_length_le (by rw [List.length_drop]; omega)
    rw [e] at hno ⊢
    rw [splitC_not 46 _ hno]
  · rw [if_neg he]
    have hl : k < l.length := by omega
    have h46 : l[k] = 46 := by
      have := hd.resolve_left he
      rw [bt_list l k hl] at this
      exact UInt8.toNat_inj.1 this
    have e : l.drop (k - n) = seg l k n ++ 46 :: l.drop (k + 1) := by
      conv => lhs; rw [← List.take_append_drop n (l.drop (k - n))]
      rw [List.drop_drop, show k - n + n = k by omega, List.drop_eq_getElem_cons hl, h46]
      rfl
    conv => lhs; rw [e]
    exact splitC_app 46 _ _ hno
theorem labAt_end {l : List UInt8} {k n : Nat} {o : Bool} (h : LabAt l k n o) (hk : k ≤ l.length) (hd : k = l.length ∨ bt l k = 46) (hp : LabP (seg l k n)) : LabAt l (k + 1) 0 true := by
  rcases h with ⟨h1, h2, h3, h4, done, h5, h6⟩ | ⟨h1, _⟩
  · have hs := sg_split hk h2 h3 hd
    by_cases he : k = l.length
    · rw [if_pos he] at hs
      refine .inr ⟨by omega, rfl, fun x hx => ?_⟩
      rw [h5, hs] at hx
      rcases List.mem_append.1 hx with hx | hx
      · exact h6 x hx
      · rw [List.mem_singleton.1 hx]; exact hp
    · rw [if_neg he] at hs
      refine .inl ⟨by omega, Nat.zero_le _, fun j g1 g2 => by omega, ⟨fun _ j g1 g2 => by omega, fun _ => rfl⟩, done ++ [seg l k n], ?_, fun x hx => ?_⟩
      · rw [h5, hs]; simp
      · rcases List.mem_append.1 hx with hx | hx
        · exact h6 x hx
        · rw [List.mem_singleton.1 hx]; exact hp
  · omega
theorem labAt_bad {l : List UInt8} {k n : Nat} {o : Bool} (h : LabAt l k n o) (hk : k ≤ l.length) (hd : k = l.length ∨ bt l k = 46) (hp : ¬ LabP (seg l k n)) : ¬ AllLab l := by
  rcases h with ⟨h1, h2, h3, h4, done, h5, h6⟩ | ⟨h1, _⟩
  · have hs := sg_split hk h2 h3 hd
    intro hA
    refine hp (hA _ ?_)
    rw [h5, hs]
    simp
  · omega
/-- When the label that ends here may be. -/
theorem seg_lab {l : List UInt8} {k n : Nat} {o : Bool} (h : LabAt l k n o) (hk : k ≤ l.length) : LabP (seg l k n) ↔ (o = true ∧ 1 ≤ n ∧ n ≤ 20 ∧ bt l (k - 1) ≠ 45 ∧ bt l (k - n) ≠ 45) := by
  rcases h with ⟨h1, h2, h3, h4, done, h5, h6⟩ | ⟨h1, _⟩
  · have hlen := seg_len hk h2
    unfold LabP
    rw [hlen, h4]
    constructor
    · rintro ⟨g1, g2, g3, g4, g5⟩
      refine ⟨fun j hj hj2 => ?_, g1, g2, ?_, ?_⟩
      · have := g5 (j - (k - n)) (by omega)
        rw [bt_sg l k n _ (by omega), show k - n + (j - (k - n)) = j by omega] at this
        exact this
      · rw [bt_sg l k n _ (by omega), show k - n + (n - 1) = k - 1 by omega] at g4
        exact g4
      · rw [bt_sg l k n _ (by omega), Nat.add_zero] at g3
        exact g3
    · rintro ⟨g0, g1, g2, g3, g4⟩
      refine ⟨g1, g2, ?_, ?_, fun i hi => ?_⟩
      · rw [bt_sg l k n _ (by omega), Nat.add_zero]; exact g4
      · rw [bt_sg l k n _ (by omega), show k - n + (n - 1) = k - 1 by omega]; exact g3
      · rw [bt_sg l k n i hi]; exact g0 _ (by omega) (by omega)
  · omega

set_option maxRecDepth 100000 in
set_option maxHeartbeats 8000000 in
theorem label_calls (s : ByteArray) (hs : s.size ≤ 1000000000) (w : World) : Calls Tryd.prog 32 #[.string s] w fun e w' => e = .returned (.bool (allB s.data.toList)) ∧ w = w' := by
  have HL := hd (show s.data.toList.length = s.size by simp)
  obtain ⟨v, hv⟩ : ∃ v, allB s.data.toList = v := ⟨_, rfl⟩
  rw [hv]
  have HF := hd (fun h => hv.symm.trans (allB_f h) : ¬ AllLab s.data.toList → v = false)
  have HT := hd (fun h => hv.symm.trans (allB_t h) : AllLab s.data.toList → v = true)
  clear hv
  go_enter Tryd.func32, Tryd.ntmps32
  go_wp2_with fail
  go_loop [3, 4, 5] (fun x y i => ∃ (k n : Nat) (o : Bool), i = .int .i64 k ∧ x = .int .i64 n ∧ y = .bool o ∧ k ≤ s.size + 1 ∧ n ≤ k ∧ Hd (LabAt s.data.toList k n o)) (fun _ _ i => s.size + 1 - (intOf i).toNat)
  case atStart => exact ⟨0, 0, true, rfl, rfl, rfl, by omega, by omega, labAt_start _⟩
  case round =>
    obtain ⟨k, n, o, rfl, rfl, rfl, hk, hn, hh⟩ := hrel
    have hki : (0 : Int) ≤ (k : Int) := by omega
    have hni : (0 : Int) ≤ (n : Int) := by omega
    by_cases hle : k ≤ s.size
    · have hkl : k ≤ s.data.toList.length := by rw [HL.o]; exact hle
      by_cases hdot : k < s.size ∧ bt s.data.toList k ≠ 46
      · obtain ⟨hlt, h46⟩ := hdot
        have hb := bt_self s k hlt
        have HS := hd (fun b => labAt_sign (b := b) hh.o (by rw [HL.o]; exact hlt) h46)
        have n46 : ((s[k].toNat : Int) == 46) = false := by simp; omega
        have nks : ((k : Int) == (s.size : Int)) = false := by simp; omega
        by_cases hc : o = true ∧ labC s[k].toNat
        · have HN := hd (HS.o true ⟨fun _ => ⟨hc.1, by rw [hb]; exact hc.2⟩, fun _ => rfl⟩)
          obtain ⟨rfl, hc⟩ := hc
          unfold labC at hc
          clear h46 hb
          go_wp2_with (go_at_call 50; refine (small_calls _ _).mono ?_; rintro e w' ⟨rfl, rfl⟩)
          all_goals first
            | (exfalso; omega)
            | (exfalso; simp only [bne_iff_ne, ne_eq, beq_iff_eq, bne_eq_false_iff_eq, beq_eq_false_iff_ne, bne_self_eq_false, Bool.false_eq_true, Bool.not_eq_false', Bool.not_eq_true', decide_eq_true_eq, decide_eq_false_iff_not, Bool.and_eq_true, Bool.and_eq_false_iff] at *; omega)
            | (go_round
               case rel => exact ⟨k + 1, n + 1, true, by go_num, by go_num, (by first | rfl | exact congrArg Value.bool (by simp only [Bool.or_eq_true, Bool.and_eq_true, decide_eq_true_eq, beq_iff_eq]; omega)), by omega, by omega, HN⟩
               case measure => simp [intOf]; omega)
        · have HN := hd (HS.o false ⟨fun e => (by cases e), fun hx => absurd ⟨hx.1, by have := hx.2; rwa [hb] at this⟩ hc⟩)
          cases o with
          | false =>
            clear hc h46 hb
            go_wp2_with fail
            go_round
            case rel => exact ⟨k + 1, n + 1, false, by go_num, by go_num, rfl, by omega, by omega, HN⟩
            case measure => simp [intOf]; omega
          | true =>
            have hc' : ¬ labC s[k].toNat := fun h => hc ⟨rfl, h⟩
            unfold labC at hc'
            have n45 : ((s[k].toNat : Int) == 45) = false := by simp; omega
            clear hc h46 hb
            go_wp2_with (go_at_call 50; refine (small_calls _ _).mono ?_; rintro e w' ⟨rfl, rfl⟩)
            all_goals first
              | (exfalso; omega)
              | (exfalso; simp only [bne_iff_ne, ne_eq, beq_iff_eq, bne_eq_false_iff_eq, beq_eq_false_iff_ne, bne_self_eq_false, Bool.false_eq_true, Bool.not_eq_false', Bool.not_eq_true', decide_eq_true_eq, decide_eq_false_iff_not, Bool.and_eq_true, Bool.and_eq_false_iff] at *; omega)
              | (go_round
                 case rel => exact ⟨k + 1, n + 1, false, by go_num, by go_num, (by first | rfl | exact congrArg Value.bool (by simp only [Bool.or_eq_false_iff, Bool.and_eq_false_iff, decide_eq_false_iff_not]; omega)), by omega, by omega, HN⟩
                 case measure => simp [intOf]; omega)
      · have hd1 : k = s.data.toList.length ∨ bt s.data.toList k = 46 := by
          by_cases hlt : k < s.size
          · exact .inr (by omega)
          · exact .inl (by rw [HL.o]; omega)
        have hiff := seg_lab hh.o hkl
        have HOK := hd (fun hp => labAt_end hh.o hkl hd1 (hiff.2 hp))
        have HBAD := hd (fun hp : ¬ (o = true ∧ 1 ≤ n ∧ n ≤ 20 ∧ bt s.data.toList (k - 1) ≠ 45 ∧ bt s.data.toList (k - n) ≠ 45) => HF.o (labAt_bad hh.o hkl hd1 (fun h => hp (hiff.1 h))))
        clear hiff
        have hend : ((k : Int) == (s.size : Int)) = true ∧ ¬ k < s.size ∨ ((k : Int) == (s.size : Int)) = false ∧ ∃ h : k < s.size, ((s[k].toNat : Int) == 46) = true := by
          by_cases hlt : k < s.size
          · refine .inr ⟨by simp; omega, hlt, ?_⟩
            have := bt_self s k hlt
            simp; omega
          · exact .inl ⟨by simp; omega, hlt⟩
        clear hd1 hdot
        by_cases q : o = true ∧ 1 ≤ n ∧ n ≤ 20
        · obtain ⟨rfl, q1, q2⟩ := q
          have l1 : k - 1 < s.size := by omega
          have l2 : k - n < s.size := by omega
          have e1 : (k : Int) - 1 = ((k - 1 : Nat) : Int) := by omega
          have e2 : (k : Int) - (n : Int) = ((k - n : Nat) : Int) := by omega
          have b1 := bt_self s (k - 1) l1
          have b2 := bt_self s (k - n) l2
          by_cases q3 : s[k - 1].toNat = 45
          · have m3 : ((s[k - 1].toNat : Int) != 45) = false := by simp; omega
            have HX := hd (HBAD.o (fun hp => hp.2.2.2.1 (b1.trans q3)))
            clear b1 b2 q3
            rcases hend with ⟨x1, x2⟩ | ⟨x1, x2, x3⟩
            all_goals
              go_wp2_with fail
              go_ret
              exact ⟨retB HX.o.symm, rfl⟩
          · have m3 : ((s[k - 1].toNat : Int) != 45) = true := by simp; omega
            by_cases q4 : s[k - n].toNat = 45
            · have m4 : ((s[k - n].toNat : Int) != 45) = false := by simp; omega
              have HX := hd (HBAD.o (fun hp => hp.2.2.2.2 (b2.trans q4)))
              clear b1 b2 q3 q4
              rcases hend with ⟨x1, x2⟩ | ⟨x1, x2, x3⟩
              all_goals
                go_wp2_with fail
                go_ret
                exact ⟨retB HX.o.symm, rfl⟩
            · have m4 : ((s[k - n].toNat : Int) != 45) = true := by simp; omega
              have HN := hd (HOK.o ⟨rfl, q1, q2, by rw [b1]; exact q3, by rw [b2]; exact q4⟩)
              clear b1 b2 q3 q4
              rcases hend with ⟨x1, x2⟩ | ⟨x1, x2, x3⟩
              all_goals
                go_wp2_with fail
                go_round
                case rel => exact ⟨k + 1, 0, true, by go_num, rfl, rfl, by omega, by omega, HN⟩
                case measure => simp [intOf]; omega
        · have HX := hd (HBAD.o (fun hp => q ⟨hp.1, hp.2.1, hp.2.2.1⟩))
          cases o with
          | false =>
            clear q
            rcases hend with ⟨x1, x2⟩ | ⟨x1, x2, x3⟩
            all_goals
              go_wp2_with fail
              go_ret
              exact ⟨retB HX.o.symm, rfl⟩
          | true =>
            by_cases q1 : n < 1
            · clear q
              rcases hend with ⟨x1, x2⟩ | ⟨x1, x2, x3⟩
              all_goals
                go_wp2_with fail
                go_ret
                exact ⟨retB HX.o.symm, rfl⟩
            · have q2 : 20 < n := by
                rcases Nat.lt_or_ge 20 n with h | h
                · exact h
                · exact absurd ⟨rfl, by omega, h⟩ q
              clear q
              rcases hend with ⟨x1, x2⟩ | ⟨x1, x2, x3⟩
              all_goals
                go_wp2_with fail
                go_ret
                exact ⟨retB HX.o.symm, rfl⟩
    · have hke : k = s.size + 1 := by omega
      have hfin : o = v := by
        rcases hh.o with ⟨h1, _⟩ | ⟨_, h2, h3⟩
        · rw [HL.o] at h1; omega
        · rw [h2, HT.o h3]
      have HFN := hd hfin
      clear hfin hke
      go_wp2_with fail
      go_ret
      exact ⟨retB HFN.o, rfl⟩

end Go.Proofs.YtdnmeffglpmlaaaDoor
