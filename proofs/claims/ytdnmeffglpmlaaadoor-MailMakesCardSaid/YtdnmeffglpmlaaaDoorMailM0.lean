/-
  The law's own tests of a local part, of labels.
-/
import Derived.Test.YtdnmeffglpmlaaaDoorMailL0
namespace Go.Proofs.YtdnmeffglpmlaaaDoor
open Go.RowKit

theorem small_calls (c : Int) (w : World) : Calls Tryd.prog 50 #[.int .u8 c] w fun e w' => e = .returned (.bool ((decide (97 ≤ c) && decide (c ≤ 122)) || (decide (48 ≤ c) && decide (c ≤ 57)))) ∧ w = w' := by
  go_enter Tryd.func50, Tryd.ntmps50
  go_wp2
  all_goals (go_ret; exact ⟨retB (by simp [*] <;> omega), rfl⟩)

def PartGood (l : List UInt8) (j : Nat) : Prop := locC (bt l j) ∧ (bt l j = 46 → 0 < j ∧ j + 1 < l.length ∧ bt l (j - 1) ≠ 46)
def PartTo (l : List UInt8) (k : Nat) : Prop := 1 ≤ l.length ∧ l.length ≤ 32 ∧ ∀ j, j < k → PartGood l j
theorem part_loc (l : List UInt8) : PartTo l l.length ↔ LocP l := by
  constructor
  · rintro ⟨h1, h2, h3⟩
    refine ⟨h1, h2, fun e => ?_, fun e => ?_, ?_, fun i hi => (h3 i hi).1⟩
    · have := (h3 0 (by omega)).2 e; omega
    · have := (h3 (l.length - 1) (by omega)).2 e; omega
    · rintro ⟨i, hi, e1, e2⟩
      have := ((h3 (i + 1) hi).2 e2).2.2
      rw [Nat.add_sub_cancel] at this
      exact this e1
  · rintro ⟨h1, h2, h3, h4, h5, h6⟩
    refine ⟨h1, h2, fun j hj => ⟨h6 j hj, fun e => ?_⟩⟩
    have hj0 : 0 < j := by
      rcases Nat.eq_zero_or_pos j with rfl | h
      · exact absurd e h3
      · exact h
    refine ⟨hj0, ?_, fun e2 => h5 ⟨j - 1, by omega, e2, by rw [Nat.sub_add_cancel hj0]; exact e⟩⟩
    rcases Nat.lt_or_ge (j + 1) l.length with h | h
    · exact h
    · have : j = l.length - 1 := by omega
      subst this
      exact absurd e h4
/-- What the mark says. -/
def PartIff (l : List UInt8) (k : Nat) (o : Bool) : Prop := o = true ↔ PartTo l k
theorem part_next {l : List UInt8} {k : Nat} {b : Bool} (h : PartTo l k) (hg : b = true ↔ PartGood l k) : PartIff l (k + 1) b := by
  constructor
  · intro hb
    refine ⟨h.1, h.2.1, fun j hj => ?_⟩
    by_cases e : j = k
    · subst e; exact hg.1 hb
    · exact h.2.2 j (by omega)
  · intro hp; exact hg.2 (hp.2.2 k (by omega))
theorem part_stay {l : List UInt8} {k : Nat} (h : PartIff l k false) : PartIff l (k + 1) false := by
  constructor
  · intro e; cases e
  · intro hp; exact h.2 ⟨hp.1, hp.2.1, fun j hj => hp.2.2 j (by omega)⟩

set_option maxRecDepth 100000 in
set_option maxHeartbeats 8000000 in
theorem part_calls (s : ByteArray) (hs : s.size ≤ 1000000000) (w : World) : Calls Tryd.prog 33 #[.string s] w fun e w' => e = .returned (.bool (locB s.data.toList)) ∧ w = w' := by
  have HL := hd (show s.data.toList.length = s.size by simp)
  obtain ⟨v, hv⟩ : ∃ v, locB s.data.toList = v := ⟨_, rfl⟩
  rw [hv]
  have HV := hd hv
  clear hv
  go_enter Tryd.func33, Tryd.ntmps33
  by_cases c1 : 1 ≤ s.size ∧ s.size ≤ 32
  · obtain ⟨c1a, c1b⟩ := c1
    have hst : PartIff s.data.toList 0 true := ⟨fun _ => ⟨by rw [HL.o]; exact c1a, by rw [HL.o]; exact c1b, fun j h => absurd h (Nat.not_lt_zero _)⟩, fun _ => rfl⟩
    have HS := hd hst
    clear hst
    have d32 : decide ((s.size : Int) ≤ 32) = true := by simp; omega
    have d1 : decide ((1 : Int) ≤ (s.size : Int)) = true := by simp; omega
    go_wp2_with fail
    go_loop [3, 4] (fun x i => ∃ (k : Nat) (o : Bool), i = .int .i64 k ∧ x = .bool o ∧ k ≤ s.size ∧ Hd (PartIff s.data.toList k o)) (fun _ i => s.size - (intOf i).toNat)
    case atStart => exact ⟨0, true, rfl, rfl, Nat.zero_le _, HS⟩
    case round =>
      obtain ⟨k, o, rfl, rfl, hk, hh⟩ := hrel
      have hki : (0 : Int) ≤ (k : Int) := by omega
      by_cases hlt : k < s.size
      · cases o with
        | false =>
          have HN := hd (part_stay hh.o)
          go_wp2_with fail
          go_round
          case rel => exact ⟨k + 1, false, by go_num, rfl, by omega, HN⟩
          case measure => simp [intOf]; omega
        | true =>
          have hP := hh.o.1 rfl
          have hb := bt_self s k hlt
          by_cases hc : locC s[k].toNat
          · by_cases h46 : s[k].toNat = 46
            · have n46 : ((s[k].toNat : Int) == 46) = true := by simp; omega
              have n95 : ((s[k].toNat : Int) == 95) = false := by simp; omega
              have n43 : ((s[k].toNat : Int) == 43) = false := by simp; omega
              have n45 : ((s[k].toNat : Int) == 45) = false := by simp; omega
              have r1 : decide ((48 : Int) ≤ (s[k].toNat : Int)) = false := by simp; omega
              have r2 : decide ((97 : Int) ≤ (s[k].toNat : Int)) = false := by simp; omega
              have r3 : decide ((65 : Int) ≤ (s[k].toNat : Int)) = false := by simp; omega
              by_cases k0 : k = 0
              · have HN := hd (part_next (b := false) hP ⟨fun e => (by cases e), fun hg => by have := (hg.2 (hb.trans h46)).1; omega⟩)
                have k0a : (k : Int) ≤ 0 := by omega
                clear hP hc h46 k0 hb
                go_wp2_with (go_at_call 50; refine (small_calls _ _).mono ?_; rintro e w' ⟨rfl, rfl⟩)
                all_goals first
                  | (exfalso; omega)
                  | (go_round
                     case rel => exact ⟨k + 1, false, by go_num, rfl, by omega, HN⟩
                     case measure => simp [intOf]; omega)
              · have k0a : (0 : Int) < (k : Int) := by omega
                by_cases k1 : k + 1 < s.size
                · have k1a : (k : Int) < (s.size : Int) - 1 := by omega
                  have hlt1 : k - 1 < s.size := by omega
                  have hkm : (k : Int) - 1 = ((k - 1 : Nat) : Int) := by omega
                  have hb1 := bt_self s (k - 1) hlt1
                  by_cases hp : s[k - 1].toNat = 46
                  · have np : ((s[k - 1].toNat : Int) != 46) = false := by simp; omega
                    have HN := hd (part_next (b := false) hP ⟨fun e => (by cases e), fun hg => absurd (hb1.trans hp) (hg.2 (hb.trans h46)).2.2⟩)
                    clear hP hc h46 k0 hb hb1 hp
                    go_wp2_with (go_at_call 50; refine (small_calls _ _).mono ?_; rintro e w' ⟨rfl, rfl⟩)
                    all_goals first
                      | (exfalso; omega)
                      | (go_round
                         case rel => exact ⟨k + 1, false, by go_num, rfl, by omega, HN⟩
                         case measure => simp [intOf]; omega)
                  · have np : ((s[k - 1].toNat : Int) != 46) = true := by simp; omega
                    have HN := hd (part_next (b := true) hP ⟨fun _ => ⟨by rw [hb]; exact hc, fun _ => ⟨by omega, by rw [HL.o]; exact k1, by rw [hb1]; exact hp⟩⟩, fun _ => rfl⟩)
                    clear hP hc h46 k0 hb hb1 hp
                    go_wp2_with (go_at_call 50; refine (small_calls _ _).mono ?_; rintro e w' ⟨rfl, rfl⟩)
                    all_goals first
                      | (exfalso; omega)
                      | (go_round
                         case rel => exact ⟨k + 1, true, by go_num, rfl, by omega, HN⟩
                         case measure => simp [intOf]; omega)
                · have k1a : (s.size : Int) - 1 ≤ (k : Int) := by omega
                  have HN := hd (part_next (b := false) hP ⟨fun e => (by cases e), fun hg => by have := (hg.2 (hb.trans h46)).2.1; rw [HL.o] at this; omega⟩)
                  clear hP hc h46 k0 hb
                  go_wp2_with (go_at_call 50; refine (small_calls _ _).mono ?_; rintro e w' ⟨rfl, rfl⟩)
                  all_goals first
                    | (exfalso; omega)
                    | (go_round
                       case rel => exact ⟨k + 1, false, by go_num, rfl, by omega, HN⟩
                       case measure => simp [intOf]; omega)
            · have HN := hd (part_next (b := true) hP ⟨fun _ => ⟨by rw [hb]; exact hc, fun e => absurd (hb.symm.trans e) h46⟩, fun _ => rfl⟩)
              have n46 : ((s[k].toNat : Int) == 46) = false := by simp; omega
              unfold locC at hc
              clear hP hb
              go_wp2_with (go_at_call 50; refine (small_calls _ _).mono ?_; rintro e w' ⟨rfl, rfl⟩)
              all_goals first
                | (exfalso; omega)
                | (exfalso; simp only [bne_iff_ne, ne_eq, beq_iff_eq, bne_eq_false_iff_eq, beq_eq_false_iff_ne, bne_self_eq_false, Bool.false_eq_true, Bool.not_eq_false', Bool.not_eq_true', decide_eq_true_eq, decide_eq_false_iff_not, Bool.and_eq_true, Bool.and_eq_false_iff] at *; omega)
                | (go_round
                   case rel => exact ⟨k + 1, true, by go_num, rfl, by omega, HN⟩
                   case measure => simp [intOf]; omega)
          · have HN := hd (part_next (b := false) hP ⟨fun e => (by cases e), fun hg => absurd (by have := hg.1; rwa [hb] at this) hc⟩)
            unfold locC at hc
            have n46 : ((s[k].toNat : Int) == 46) = false := by simp; omega
            have n95 : ((s[k].toNat : Int) == 95) = false := by simp; omega
            have n43 : ((s[k].toNat : Int) == 43) = false := by simp; omega
            have n45 : ((s[k].toNat : Int) == 45) = false := by simp; omega
            clear hP hb
            go_wp2_with (go_at_call 50; refine (small_calls _ _).mono ?_; rintro e w' ⟨rfl, rfl⟩)
            all_goals first
              | (exfalso; omega)
              | (exfalso; simp only [bne_iff_ne, ne_eq, beq_iff_eq, bne_eq_false_iff_eq, beq_eq_false_iff_ne, bne_self_eq_false, Bool.false_eq_true, Bool.not_eq_false', Bool.not_eq_true', decide_eq_true_eq, decide_eq_false_iff_not, Bool.and_eq_true, Bool.and_eq_false_iff] at *; omega)
              | (go_round
                 case rel => exact ⟨k + 1, false, by go_num, (by first | rfl | exact congrArg Value.bool (by simp only [Bool.or_eq_false_iff, Bool.and_eq_false_iff, decide_eq_false_iff_not]; omega)), by omega, HN⟩
                 case measure => simp [intOf]; omega)
      · have hke : k = s.size := by omega
        have hfin : o = v := by
          have h2 : o = true ↔ PartTo s.data.toList k := hh.o
          rw [hke, ← HL.o, part_loc] at h2
          rw [← HV.o]
          by_cases h3 : LocP s.data.toList
          · rw [locB_t h3]; exact h2.2 h3
          · rw [locB_f h3]
            cases o with
            | false => rfl
            | true => exact absurd (h2.1 rfl) h3
        have HFN := hd hfin
        clear hke hfin
        go_wp2_with fail
        go_ret
        exact ⟨retB HFN.o, rfl⟩
  · have HX := hd (show v = false by
      rw [← HV.o, locB_f]
      intro h
      have h1 := h.1
      have h2 := h.2.1
      rw [HL.o] at h1 h2
      exact c1 ⟨h1, h2⟩)
    by_cases c2 : 1 ≤ s.size
    · have c3 : 32 < s.size := by omega
      have d32 : decide ((s.size : Int) ≤ 32) = false := by simp; omega
      clear c1
      go_wp2_with fail
      go_loop [3, 4] (fun x i => ∃ (k : Nat), i = .int .i64 k ∧ x = .bool false ∧ k ≤ s.size) (fun _ i => s.size - (intOf i).toNat)
      case atStart => exact ⟨0, rfl, rfl, Nat.zero_le _⟩
      case round =>
        obtain ⟨k, rfl, rfl, hk⟩ := hrel
        have hki : (0 : Int) ≤ (k : Int) := by omega
        by_cases hlt : k < s.size
        · go_wp2_with fail
          go_round
          case rel => exact ⟨k + 1, by go_num, rfl, by omega⟩
          case measure => simp [intOf]; omega
        · go_wp2_with fail
          go_ret
          exact ⟨retB HX.o.symm, rfl⟩
    · have c3 : s.size < 1 := by omega
      have d1 : decide ((1 : Int) ≤ (s.size : Int)) = false := by simp; omega
      clear c1 c2
      go_wp2_with fail
      go_loop [3, 4] (fun x i => ∃ (k : Nat), i = .int .i64 k ∧ x = .bool false ∧ k ≤ s.size) (fun _ i => s.size - (intOf i).toNat)
      case atStart => exact ⟨0, rfl, rfl, Nat.zero_le _⟩
      case round =>
        obtain ⟨k, rfl, rfl, hk⟩ := hrel
        go_wp2_with fail
        go_ret
        exact ⟨retB HX.o.symm, rfl⟩

end Go.Proofs.YtdnmeffglpmlaaaDoor
