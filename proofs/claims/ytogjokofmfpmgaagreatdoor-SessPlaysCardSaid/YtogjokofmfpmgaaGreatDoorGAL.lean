/-
  Names, both sides.
-/
import Derived.Test.YtogjokofmfpmgaaGreatDoorGAA
import Derived.Test.YtogjokofmfpmgaaGreatDoorGAJ
import Derived.Test.YtogjokofmfpmgaaGreatDoorProg
import Derived.Laws.ResultCell
import Derived.Test.YtogjokofmfpmgaaGreatDoorGAI
import Derived.Deep.RegionHeld3
import Derived.Deep.CutRange
import Derived.Test.YtogjokofmfpmgaaGreatDoorGAF
import Derived.Test.YtogjokofmfpmgaaGreatDoorGAC
import Derived.Sort.Grow
import Derived.Shelf.SlSortCmp.NoneTotal
import Derived.Shelf.SlLaysF0
set_option linter.unusedVariables false
set_option linter.unusedSimpArgs false
namespace Go.Proofs.YtogjokofmfpmgaaGreatDoor
open Go.RowKit

def smallC (c : Nat) : Prop := lowC c ∨ (48 ≤ c ∧ c ≤ 57)
instance (c : Nat) : Decidable (smallC c) := by unfold smallC; infer_instance
theorem small_calls (c : Nat) (w : World) : Calls Tryz.prog 100 #[.int .u8 c] w fun e w' => e = .returned (.bool (decide (smallC c))) ∧ w = w' := by
  obtain ⟨v, hv⟩ : ∃ v, decide (smallC c) = v := ⟨_, rfl⟩
  rw [hv]
  have HV := hd hv
  clear hv
  by_cases h1 : (97 ≤ c ∧ c ≤ 122)
  · have HT := hd (show v = true by rw [← HV.o]; exact decide_eq_true (.inl h1))
    have a1 : decide ((97 : Int) ≤ (c : Int)) = true := by simp; omega
    have a2 : decide ((c : Int) ≤ 122) = true := by simp; omega
    clear h1
    go_enter Tryz.func100, Tryz.ntmps100
    go_wp2
    go_ret
    exact ⟨retB HT.o.symm, rfl⟩
  · by_cases h2 : (48 ≤ c ∧ c ≤ 57)
    · have HT := hd (show v = true by rw [← HV.o]; exact decide_eq_true (.inr h2))
      have a1 : decide ((97 : Int) ≤ (c : Int)) = false := by simp; omega
      have a3 : decide ((48 : Int) ≤ (c : Int)) = true := by simp; omega
      have a4 : decide ((c : Int) ≤ 57) = true := by simp; omega
      clear h1 h2
      go_enter Tryz.func100, Tryz.ntmps100
      go_wp2
      go_ret
      exact ⟨retB HT.o.symm, rfl⟩
    · have HT := hd (show v = false by rw [← HV.o]; exact decide_eq_false (fun h => h.elim h1 h2))
      by_cases b1 : 97 ≤ c
      · have a1 : decide ((97 : Int) ≤ (c : Int)) = true := by simp; omega
        have a2 : decide ((c : Int) ≤ 122) = false := by simp; omega
        have a3 : decide ((48 : Int) ≤ (c : Int)) = true := by simp; omega
        have a4 : decide ((c : Int) ≤ 57) = false := by simp; omega
        clear h1 h2 b1
        go_enter Tryz.func100, Tryz.ntmps100
        go_wp2
        go_ret
        exact ⟨retB HT.o.symm, rfl⟩
      · have a1 : decide ((97 : Int) ≤ (c : Int)) = false := by simp; omega
        by_cases b2 : 48 ≤ c
        · have a3 : decide ((48 : Int) ≤ (c : Int)) = true := by simp; omega
          have a4 : decide ((c : Int) ≤ 57) = false := by simp; omega
          clear h1 h2 b1 b2
          go_enter Tryz.func100, Tryz.ntmps100
          go_wp2
          go_ret
          exact ⟨retB HT.o.symm, rfl⟩
        · have a3 : decide ((48 : Int) ≤ (c : Int)) = false := by simp; omega
          clear h1 h2 b1 b2
          go_enter Tryz.func100, Tryz.ntmps100
          go_wp2
          go_ret
          exact ⟨retB HT.o.symm, rfl⟩

theorem head_at (s : ByteArray) (h : 0 < s.size) : (s.data.toList.headD 0).toNat = s[0].toNat := by
  have := bt_self s 0 h
  have hl : s.data.toList.length = s.size := by simp
  unfold bt at this
  cases hL : s.data.toList with
  | nil => rw [hL] at hl; simp at hl; omega
  | cons c t => rw [hL] at this; simpa using this
theorem last_at (s : ByteArray) (h : s.size - 1 < s.size) : (s.data.toList.getLastD 0).toNat = s[s.size - 1].toNat := by
  have := bt_self s (s.size - 1) h
  have hl : s.data.toList.length = s.size := by simp
  unfold bt at this
  rw [← this, List.getLastD_eq_getLast?, List.getLast?_eq_getElem?, hl, List.getD_eq_getElem?_getD]
theorem all_at (s : ByteArray) (P : Nat → Prop) : (∀ c ∈ s.data.toList, P c.toNat) ↔ ∀ k, k < s.size → P (bt s.data.toList k) := by
  have hl : s.data.toList.length = s.size := by simp
  constructor
  · intro h k hk
    have hk' : k < s.data.toList.length := by rw [hl]; exact hk
    unfold bt
    rw [List.getD_eq_getElem?_getD, List.getElem?_eq_getElem hk']
    exact h _ (List.getElem_mem hk')
  · intro h c hc
    obtain ⟨k, hk, rfl⟩ := List.getElem_of_mem hc
    have := h k (by rw [← hl]; exact hk)
    unfold bt at this
    rw [List.getD_eq_getElem?_getD, List.getElem?_eq_getElem hk] at this
    exact this

theorem nameP_iff (s : ByteArray) (h : 0 < s.size) (h' : s.size - 1 < s.size) : NameP s.data.toList ↔ s.size ≤ 16 ∧ lowC s[0].toNat ∧ s[s.size - 1].toNat ≠ 45 ∧ ∀ k, k < s.size → nameC (bt s.data.toList k) := by
  have hl : s.data.toList.length = s.size := by simp
  unfold NameP
  rw [hl, head_at s h, last_at s h', all_at s nameC]
  constructor
  · rintro ⟨_, h2, h3, h4, h5⟩; exact ⟨h2, h3, h4, h5⟩
  · rintro ⟨h2, h3, h4, h5⟩; exact ⟨h, h2, h3, h4, h5⟩
theorem nameP_short (s : ByteArray) (h : s.size < 1 ∨ 16 < s.size) : ¬ NameP s.data.toList := by
  have hl : s.data.toList.length = s.size := by simp
  unfold NameP
  rw [hl]
  rintro ⟨h1, h2, _⟩
  omega

set_option maxHeartbeats 2000000 in
theorem name_calls (s : ByteArray) (hs : s.size ≤ 1000000000) (w : World) : Calls Tryz.prog 86 #[.string s] w fun e w' => e = .returned (.bool (nameB s.data.toList)) ∧ w = w' := by
  obtain ⟨v, hv⟩ : ∃ v, nameB s.data.toList = v := ⟨_, rfl⟩
  rw [hv]
  have HF := hd (fun h => hv.symm.trans (decide_eq_false h) : ¬ NameP s.data.toList → v = false)
  have HT := hd (fun h => hv.symm.trans (decide_eq_true h) : NameP s.data.toList → v = true)
  have HSH := hd (nameP_short s)
  clear hv
  by_cases c1 : s.size < 1
  · have HV := hd (HF.o (HSH.o (.inl c1)))
    go_enter Tryz.func86, Tryz.ntmps86
    go_wp2
    go_ret
    exact ⟨retB HV.o.symm, rfl⟩
  by_cases c2 : 16 < s.size
  · have HV := hd (HF.o (HSH.o (.inr c2)))
    go_enter Tryz.func86, Tryz.ntmps86
    go_wp2
    go_ret
    exact ⟨retB HV.o.symm, rfl⟩
  have c3 : 0 < s.size := by omega
  have c4 : s.size - 1 < s.size := by omega
  have HI := hd (nameP_iff s c3 c4)
  clear HSH
  by_cases c5 : s[0].toNat < 97
  · have HV := hd (HF.o (fun h => by have := (HI.o.1 h).2.1.1; omega))
    go_enter Tryz.func86, Tryz.ntmps86
    go_wp2
    go_ret
    exact ⟨retB HV.o.symm, rfl⟩
  by_cases c6 : 122 < s[0].toNat
  · have HV := hd (HF.o (fun h => by have := (HI.o.1 h).2.1.2; omega))
    go_enter Tryz.func86, Tryz.ntmps86
    go_wp2
    go_ret
    exact ⟨retB HV.o.symm, rfl⟩
  by_cases c7 : s[s.size - 1].toNat = 45
  · have HV := hd (HF.o (fun h => (HI.o.1 h).2.2.1 c7))
    have n7 : ((s[s.size - 1].toNat : Int) == 45) = true := by simp; omega
    clear c7
    go_enter Tryz.func86, Tryz.ntmps86
    go_wp2
    go_ret
    exact ⟨retB HV.o.symm, rfl⟩
  have n7 : ((s[s.size - 1].toNat : Int) == 45) = false := by simp; omega
  have HLW := hd (show lowC s[0].toNat from ⟨by omega, by omega⟩)
  have H7 := hd c7
  clear c7
  go_enter Tryz.func86, Tryz.ntmps86
  go_wp2_with fail
  go_loop [32, 3] (fun i _ => ∃ k : Nat, i = .int .i64 k ∧ k ≤ s.size ∧ Hd (∀ j, j < k → nameC (bt s.data.toList j))) (fun i _ => s.size - (intOf i).toNat)
  case atStart => exact ⟨0, rfl, Nat.zero_le _, fun j hj => absurd hj (Nat.not_lt_zero _)⟩
  case round =>
    obtain ⟨k, rfl, hk, hh⟩ := hrel
    by_cases hlt : k < s.size
    · have BK := hd (bt_self s k hlt)
      have hki : (k : Int) < (s.size : Int) := by omega
      have hk0 : (0 : Int) ≤ (k : Int) := by omega
      have C1 := fun W => small_calls s[k].toNat W
      by_cases hc : smallC s[k].toNat
      · have HN : Hd (∀ j, j < k + 1 → nameC (bt s.data.toList j)) := fun j hj => by
          by_cases e : j = k
          · subst e; rw [BK.o]; exact hc.elim .inl (fun h => .inr (.inl h))
          · exact hh.o j (by omega)
        rw [decide_eq_true hc] at C1
        have K1 := hd C1
        clear C1 hc
        go_wp2_with (go_at_call 100; refine (K1.o _).mono ?_; rintro e w' ⟨rfl, rfl⟩)
        go_round
        case rel => exact ⟨k + 1, by go_num, by omega, HN⟩
        case measure => simp [intOf]; omega
      · rw [decide_eq_false hc] at C1
        have K1 := hd C1
        clear C1
        by_cases hm : s[k].toNat = 45
        · have HN : Hd (∀ j, j < k + 1 → nameC (bt s.data.toList j)) := fun j hj => by
            by_cases e : j = k
            · subst e; rw [BK.o]; exact .inr (.inr hm)
            · exact hh.o j (by omega)
          have nm : ((s[k].toNat : Int) != 45) = false := by simp; omega
          clear hc hm
          go_wp2_with (go_at_call 100; refine (K1.o _).mono ?_; rintro e w' ⟨rfl, rfl⟩)
          go_round
          case rel => exact ⟨k + 1, by go_num, by omega, HN⟩
          case measure => simp [intOf]; omega
        · have HV := hd (HF.o (fun h => by
            have := (HI.o.1 h).2.2.2 k hlt
            rw [BK.o] at this
            rcases this with h | h | h
            · exact hc (.inl h)
            · exact hc (.inr h)
            · exact hm h))
          have nm : ((s[k].toNat : Int) != 45) = true := by simp; omega
          clear hc hm
          go_wp2_with (go_at_call 100; refine (K1.o _).mono ?_; rintro e w' ⟨rfl, rfl⟩)
          go_ret
          exact ⟨retB HV.o.symm, rfl⟩
    · obtain rfl : k = s.size := by omega
      have HV := hd (HT.o (HI.o.2 ⟨by omega, HLW.o, H7.o, hh.o⟩))
      go_wp2
      go_ret
      exact ⟨retB HV.o.symm, rfl⟩

theorem uidP_iff (s : ByteArray) : UidP s.data.toList ↔ 1 ≤ s.size ∧ s.size ≤ 24 ∧ ∀ k, k < s.size → uidC (bt s.data.toList k) := by
  have hl : s.data.toList.length = s.size := by simp
  unfold UidP
  rw [hl, all_at s uidC]
def ubC (c : Nat) : Bool := decide (c = 45 ∨ c = 46 ∨ c = 95 ∨ c = 64)

set_option maxHeartbeats 4000000 in
theorem uid_calls (s : ByteArray) (hs : s.size ≤ 1000000000) (w : World) : Calls Tryz.prog 87 #[.string s] w fun e w' => e = .returned (.bool (uidB s.data.toList)) ∧ w = w' := by
  obtain ⟨v, hv⟩ : ∃ v, uidB s.data.toList = v := ⟨_, rfl⟩
  rw [hv]
  have HF := hd (fun h => hv.symm.trans (decide_eq_false h) : ¬ UidP s.data.toList → v = false)
  have HT := hd (fun h => hv.symm.trans (decide_eq_true h) : UidP s.data.toList → v = true)
  have HI := hd (uidP_iff s)
  clear hv
  by_cases c1 : s.size < 1
  · have HV := hd (HF.o (fun h => by have := (HI.o.1 h).1; omega))
    go_enter Tryz.func87, Tryz.ntmps87
    go_wp2
    go_ret
    exact ⟨retB HV.o.symm, rfl⟩
  by_cases c2 : 24 < s.size
  · have HV := hd (HF.o (fun h => by have := (HI.o.1 h).2.1; omega))
    go_enter Tryz.func87, Tryz.ntmps87
    go_wp2
    go_ret
    exact ⟨retB HV.o.symm, rfl⟩
  go_enter Tryz.func87, Tryz.ntmps87
  go_wp2_with fail
  go_loop [15, 3, 4] (fun i _ _ => ∃ k : Nat, i = .int .i64 k ∧ k ≤ s.size ∧ Hd (∀ j, j < k → uidC (bt s.data.toList j))) (fun i _ _ => s.size - (intOf i).toNat)
  case atStart => exact ⟨0, rfl, Nat.zero_le _, fun j hj => absurd hj (Nat.not_lt_zero _)⟩
  case round =>
    obtain ⟨k, rfl, hk, hh⟩ := hrel
    by_cases hlt : k < s.size
    · have BK := hd (bt_self s k hlt)
      have hki : (k : Int) < (s.size : Int) := by omega
      have hk0 : (0 : Int) ≤ (k : Int) := by omega
      have C1 := fun W => small_calls s[k].toNat W
      have HNX := hd (fun (hu : uidC s[k].toNat) => show ∀ j, j < k + 1 → uidC (bt s.data.toList j) from fun j hj => by
        by_cases e : j = k
        · subst e; rw [BK.o]; exact hu
        · exact hh.o j (by omega))
      have HBD := hd (fun (hu : ¬ uidC s[k].toNat) => HF.o (fun h => hu (by rw [← BK.o]; exact (HI.o.1 h).2.2 k hlt)))
      obtain ⟨c, hc⟩ : ∃ c, s[k].toNat = c := ⟨_, rfl⟩
      rw [hc] at C1 HNX HBD
      have hcv : (s[k].toNat : Int) = (c : Int) := by rw [hc]
      by_cases h1 : smallC c
      · have HN := hd (HNX.o (h1.elim .inl (fun h => .inr (.inr (.inl h)))))
        rw [decide_eq_true h1] at C1
        have K1 := hd C1
        clear C1 h1 hc
        go_wp2_with (go_at_call 100; refine (K1.o _).mono ?_; rintro e w' ⟨rfl, rfl⟩)
        go_round
        case rel => exact ⟨k + 1, by go_num, by omega, HN⟩
        case measure => simp [intOf]; omega
      · rw [decide_eq_false h1] at C1
        have K1 := hd C1
        clear C1
        by_cases h2 : 65 ≤ c ∧ c ≤ 90
        · have HN := hd (HNX.o (.inr (.inl h2)))
          have a1 : decide ((c : Int) < 65) = false := by simp; omega
          have a2 : decide ((90 : Int) < (c : Int)) = false := by simp; omega
          clear h1 h2 hc
          go_wp2_with (go_at_call 100; refine (K1.o _).mono ?_; rintro e w' ⟨rfl, rfl⟩)
          go_round
          case rel => exact ⟨k + 1, by go_num, by omega, HN⟩
          case measure => simp [intOf]; omega
        · have HXX : Hd (ubC c = true ↔ uidC c) := hd (by
            unfold ubC uidC
            rw [decide_eq_true_iff]
            constructor
            · rintro (h | h | h | h)
              · exact .inr (.inr (.inr (.inl h)))
              · exact .inr (.inr (.inr (.inr (.inl h))))
              · exact .inr (.inr (.inr (.inr (.inr (.inl h)))))
              · exact .inr (.inr (.inr (.inr (.inr (.inr h)))))
            · rintro (h | h | h | h | h | h | h)
              · exact absurd (.inl h) h1
              · exact absurd h h2
              · exact absurd (.inr h) h1
              · exact .inl h
              · exact .inr (.inl h)
              · exact .inr (.inr (.inl h))
              · exact .inr (.inr (.inr h)))
          have a12 : (decide ((c : Int) < 65) = true) ∨ (decide ((c : Int) < 65) = false ∧ decide ((90 : Int) < (c : Int)) = true) := by
            by_cases h : c < 65
            · exact .inl (by simp; omega)
            · exact .inr ⟨by simp; omega, by simp; omega⟩
          by_cases h3 : ubC c = true
          · have HN := hd (HNX.o (HXX.o.1 h3))
            unfold ubC at h3
            rw [decide_eq_true_iff] at h3
            clear h1 h2
            rcases a12 with a1 | ⟨a1, a2⟩ <;> rcases h3 with rfl | rfl | rfl | rfl
            all_goals
              clear hc
              go_wp2_with (go_at_call 100; refine (K1.o _).mono ?_; rintro e w' ⟨rfl, rfl⟩)
              go_round
              case rel => exact ⟨k + 1, by go_num, by omega, HN⟩
              case measure => simp [intOf]; omega
          · have HV := hd (HBD.o (fun h => h3 (HXX.o.2 h)))
            have m45 : ((c : Int) != 45) = true := by simp; intro h; apply h3; unfold ubC; simp; omega
            have m46 : ((c : Int) != 46) = true := by simp; intro h; apply h3; unfold ubC; simp; omega
            have m95 : ((c : Int) != 95) = true := by simp; intro h; apply h3; unfold ubC; simp; omega
            have m64 : ((c : Int) != 64) = true := by simp; intro h; apply h3; unfold ubC; simp; omega
            clear h1 h2 h3 hc
            rcases a12 with a1 | ⟨a1, a2⟩
            all_goals
              go_wp2_with (go_at_call 100; refine (K1.o _).mono ?_; rintro e w' ⟨rfl, rfl⟩)
              go_ret
              exact ⟨retB HV.o.symm, rfl⟩
    · obtain rfl : k = s.size := by omega
      have HV := hd (HT.o (HI.o.2 ⟨by omega, by omega, hh.o⟩))
      go_wp2
      go_ret
      exact ⟨retB HV.o.symm, rfl⟩

end Go.Proofs.YtogjokofmfpmgaaGreatDoor
namespace Go.Proofs.YtogjokofmfpmgaaGreatDoor
open Go.RowKit

theorem low_t {c : Nat} (h : lowC c) (w : World) : Calls Tryz.prog 90 #[.int .u8 c] w fun e w' => e = .returned (.bool true) ∧ w = w' :=
  (low_calls c w).mono fun e w' ⟨h1, h2⟩ => ⟨by rw [h1, show (decide ((97 : Int) ≤ (c : Int)) && decide ((c : Int) ≤ 122)) = true by have := h.1; have := h.2; simp; omega], h2⟩
theorem low_f {c : Nat} (h : ¬ lowC c) (w : World) : Calls Tryz.prog 90 #[.int .u8 c] w fun e w' => e = .returned (.bool false) ∧ w = w' :=
  (low_calls c w).mono fun e w' ⟨h1, h2⟩ => ⟨by rw [h1, show (decide ((97 : Int) ≤ (c : Int)) && decide ((c : Int) ≤ 122)) = false by unfold lowC at h; simp; omega], h2⟩
def digC (c : Nat) : Prop := 48 ≤ c ∧ c ≤ 57
def upC (c : Nat) : Prop := 65 ≤ c ∧ c ≤ 90
theorem dig_t {c : Nat} (h : digC c) (w : World) : Calls Tryz.prog 91 #[.int .u8 c] w fun e w' => e = .returned (.bool true) ∧ w = w' :=
  (digit_calls c w).mono fun e w' ⟨h1, h2⟩ => ⟨by rw [h1, show (decide ((48 : Int) ≤ (c : Int)) && decide ((c : Int) ≤ 57)) = true by have := h.1; have := h.2; simp; omega], h2⟩
theorem dig_f {c : Nat} (h : ¬ digC c) (w : World) : Calls Tryz.prog 91 #[.int .u8 c] w fun e w' => e = .returned (.bool false) ∧ w = w' :=
  (digit_calls c w).mono fun e w' ⟨h1, h2⟩ => ⟨by rw [h1, show (decide ((48 : Int) ≤ (c : Int)) && decide ((c : Int) ≤ 57)) = false by unfold digC at h; simp; omega], h2⟩
theorem up_t {c : Nat} (h : upC c) (w : World) : Calls Tryz.prog 92 #[.int .u8 c] w fun e w' => e = .returned (.bool true) ∧ w = w' :=
  (up_calls c w).mono fun e w' ⟨h1, h2⟩ => ⟨by rw [h1, show (decide ((65 : Int) ≤ (c : Int)) && decide ((c : Int) ≤ 90)) = true by have := h.1; have := h.2; simp; omega], h2⟩
theorem up_f {c : Nat} (h : ¬ upC c) (w : World) : Calls Tryz.prog 92 #[.int .u8 c] w fun e w' => e = .returned (.bool false) ∧ w = w' :=
  (up_calls c w).mono fun e w' ⟨h1, h2⟩ => ⟨by rw [h1, show (decide ((65 : Int) ≤ (c : Int)) && decide ((c : Int) ≤ 90)) = false by unfold upC at h; simp; omega], h2⟩

set_option maxHeartbeats 4000000 in
theorem rname_calls (s : ByteArray) (hs : s.size ≤ 1000000000) (w : World) : Calls Tryz.prog 69 #[.string s] w fun e w' => e = .returned (.bool (nameB s.data.toList)) ∧ w = w' := by
  obtain ⟨v, hv⟩ : ∃ v, nameB s.data.toList = v := ⟨_, rfl⟩
  rw [hv]
  have HF := hd (fun h => hv.symm.trans (decide_eq_false h) : ¬ NameP s.data.toList → v = false)
  have HT := hd (fun h => hv.symm.trans (decide_eq_true h) : NameP s.data.toList → v = true)
  have HSH := hd (nameP_short s)
  clear hv
  by_cases c1 : s.size < 1
  · have HV := hd (HF.o (HSH.o (.inl c1)))
    go_enter Tryz.func69, Tryz.ntmps69
    go_wp2
    go_ret
    exact ⟨retB HV.o.symm, rfl⟩
  by_cases c2 : 16 < s.size
  · have HV := hd (HF.o (HSH.o (.inr c2)))
    go_enter Tryz.func69, Tryz.ntmps69
    go_wp2
    go_ret
    exact ⟨retB HV.o.symm, rfl⟩
  have c3 : 0 < s.size := by omega
  have c4 : s.size - 1 < s.size := by omega
  have HI := hd (nameP_iff s c3 c4)
  clear HSH
  by_cases c5 : lowC s[0].toNat
  case neg =>
    have HV := hd (HF.o (fun h => c5 (HI.o.1 h).2.1))
    have K0 := hd (fun W => low_f c5 W)
    clear c5
    go_enter Tryz.func69, Tryz.ntmps69
    go_wp2_with (go_at_call 90; refine (K0.o _).mono ?_; rintro e w' ⟨rfl, rfl⟩)
    go_ret
    exact ⟨retB HV.o.symm, rfl⟩
  have K0 := hd (fun W => low_t c5 W)
  by_cases c7 : s[s.size - 1].toNat = 45
  · have HV := hd (HF.o (fun h => (HI.o.1 h).2.2.1 c7))
    have n7 : ((s[s.size - 1].toNat : Int) == 45) = true := by simp; omega
    clear c7 c5
    go_enter Tryz.func69, Tryz.ntmps69
    go_wp2_with (go_at_call 90; refine (K0.o _).mono ?_; rintro e w' ⟨rfl, rfl⟩)
    go_ret
    exact ⟨retB HV.o.symm, rfl⟩
  have n7 : ((s[s.size - 1].toNat : Int) == 45) = false := by simp; omega
  have HLW := hd c5
  have H7 := hd c7
  clear c7 c5
  go_enter Tryz.func69, Tryz.ntmps69
  go_wp2_with (go_at_call 90; refine (K0.o _).mono ?_; rintro e w' ⟨rfl, rfl⟩)
  go_loop [3] (fun i => ∃ k : Nat, i = .int .i64 k ∧ k ≤ s.size ∧ Hd (∀ j, j < k → nameC (bt s.data.toList j))) (fun i => s.size - (intOf i).toNat)
  case atStart => exact ⟨0, rfl, Nat.zero_le _, fun j hj => absurd hj (Nat.not_lt_zero _)⟩
  case round =>
    obtain ⟨k, rfl, hk, hh⟩ := hrel
    by_cases hlt : k < s.size
    · have BK := hd (bt_self s k hlt)
      have hki : (k : Int) < (s.size : Int) := by omega
      have hk0 : (0 : Int) ≤ (k : Int) := by omega
      have HNX := hd (fun (hu : nameC s[k].toNat) => show ∀ j, j < k + 1 → nameC (bt s.data.toList j) from fun j hj => by
        by_cases e : j = k
        · subst e; rw [BK.o]; exact hu
        · exact hh.o j (by omega))
      have HBD := hd (fun (hu : ¬ nameC s[k].toNat) => HF.o (fun h => hu (by rw [← BK.o]; exact (HI.o.1 h).2.2.2 k hlt)))
      by_cases h1 : lowC s[k].toNat
      · have HN := hd (HNX.o (.inl h1))
        have K1 := hd (fun W => low_t h1 W)
        clear h1
        go_wp2_with (go_at_call 90; refine (K1.o _).mono ?_; rintro e w' ⟨rfl, rfl⟩)
        go_round
        case rel => exact ⟨k + 1, by go_num, by omega, HN⟩
        case measure => simp [intOf]; omega
      · have K1 := hd (fun W => low_f h1 W)
        by_cases h2 : digC s[k].toNat
        · have HN := hd (HNX.o (.inr (.inl h2)))
          have K2 := hd (fun W => dig_t h2 W)
          clear h1 h2
          go_wp2_with (first | (go_at_call 90; refine (K1.o _).mono ?_; rintro e w' ⟨rfl, rfl⟩) | (go_at_call 91; refine (K2.o _).mono ?_; rintro e w' ⟨rfl, rfl⟩))
          go_round
          case rel => exact ⟨k + 1, by go_num, by omega, HN⟩
          case measure => simp [intOf]; omega
        · have K2 := hd (fun W => dig_f h2 W)
          by_cases h3 : s[k].toNat = 45
          · have HN := hd (HNX.o (.inr (.inr h3)))
            have nm : ((s[k].toNat : Int) != 45) = false := by simp; omega
            clear h1 h2 h3
            go_wp2_with (first | (go_at_call 90; refine (K1.o _).mono ?_; rintro e w' ⟨rfl, rfl⟩) | (go_at_call 91; refine (K2.o _).mono ?_; rintro e w' ⟨rfl, rfl⟩))
            go_round
            case rel => exact ⟨k + 1, by go_num, by omega, HN⟩
            case measure => simp [intOf]; omega
          · have HV := hd (HBD.o (fun h => by rcases h with h | h | h; exact h1 h; exact h2 h; exact h3 h))
            have nm : ((s[k].toNat : Int) != 45) = true := by simp; omega
            clear h1 h2 h3
            go_wp2_with (first | (go_at_call 90; refine (K1.o _).mono ?_; rintro e w' ⟨rfl, rfl⟩) | (go_at_call 91; refine (K2.o _).mono ?_; rintro e w' ⟨rfl, rfl⟩))
            go_ret
            exact ⟨retB HV.o.symm, rfl⟩
    · obtain rfl : k = s.size := by omega
      have HV := hd (HT.o (HI.o.2 ⟨by omega, HLW.o, H7.o, hh.o⟩))
      go_wp2
      go_ret
      exact ⟨retB HV.o.symm, rfl⟩

set_option maxHeartbeats 4000000 in
theorem ruid_calls (s : ByteArray) (hs : s.size ≤ 1000000000) (w : World) : Calls Tryz.prog 70 #[.string s] w fun e w' => e = .returned (.bool (uidB s.data.toList)) ∧ w = w' := by
  obtain ⟨v, hv⟩ : ∃ v, uidB s.data.toList = v := ⟨_, rfl⟩
  rw [hv]
  have HF := hd (fun h => hv.symm.trans (decide_eq_false h) : ¬ UidP s.data.toList → v = false)
  have HT := hd (fun h => hv.symm.trans (decide_eq_true h) : UidP s.data.toList → v = true)
  have HI := hd (uidP_iff s)
  clear hv
  by_cases c1 : s.size < 1
  · have HV := hd (HF.o (fun h => by have := (HI.o.1 h).1; omega))
    go_enter Tryz.func70, Tryz.ntmps70
    go_wp2
    go_ret
    exact ⟨retB HV.o.symm, rfl⟩
  by_cases c2 : 24 < s.size
  · have HV := hd (HF.o (fun h => by have := (HI.o.1 h).2.1; omega))
    go_enter Tryz.func70, Tryz.ntmps70
    go_wp2
    go_ret
    exact ⟨retB HV.o.symm, rfl⟩
  go_enter Tryz.func70, Tryz.ntmps70
  go_wp2_with fail
  go_loop [3, 4] (fun i _ => ∃ k : Nat, i = .int .i64 k ∧ k ≤ s.size ∧ Hd (∀ j, j < k → uidC (bt s.data.toList j))) (fun i _ => s.size - (intOf i).toNat)
  case atStart => exact ⟨0, rfl, Nat.zero_le _, fun j hj => absurd hj (Nat.not_lt_zero _)⟩
  case round =>
    obtain ⟨k, rfl, hk, hh⟩ := hrel
    by_cases hlt : k < s.size
    · have BK := hd (bt_self s k hlt)
      have hki : (k : Int) < (s.size : Int) := by omega
      have hk0 : (0 : Int) ≤ (k : Int) := by omega
      have HNX := hd (fun (hu : uidC s[k].toNat) => show ∀ j, j < k + 1 → uidC (bt s.data.toList j) from fun j hj => by
        by_cases e : j = k
        · subst e; rw [BK.o]; exact hu
        · exact hh.o j (by omega))
      have HBD := hd (fun (hu : ¬ uidC s[k].toNat) => HF.o (fun h => hu (by rw [← BK.o]; exact (HI.o.1 h).2.2 k hlt)))
      obtain ⟨c, hc⟩ : ∃ c, s[k].toNat = c := ⟨_, rfl⟩
      rw [hc] at HNX HBD
      have hcv : (s[k].toNat : Int) = (c : Int) := by rw [hc]
      by_cases h1 : lowC c
      · have HN := hd (HNX.o (.inl h1))
        have K1 := hd (fun W => low_t h1 W)
        clear h1 hc
        go_wp2_with (go_at_call 90; refine (K1.o _).mono ?_; rintro e w' ⟨rfl, rfl⟩)
        go_round
        case rel => exact ⟨k + 1, by go_num, by omega, HN⟩
        case measure => simp [intOf]; omega
      · have K1 := hd (fun W => low_f h1 W)
        by_cases h2 : upC c
        · have HN := hd (HNX.o (.inr (.inl h2)))
          have K2 := hd (fun W => up_t h2 W)
          clear h1 h2 hc
          go_wp2_with (first | (go_at_call 90; refine (K1.o _).mono ?_; rintro e w' ⟨rfl, rfl⟩) | (go_at_call 92; refine (K2.o _).mono ?_; rintro e w' ⟨rfl, rfl⟩))
          go_round
          case rel => exact ⟨k + 1, by go_num, by omega, HN⟩
          case measure => simp [intOf]; omega
        · have K2 := hd (fun W => up_f h2 W)
          by_cases h3 : digC c
          · have HN := hd (HNX.o (.inr (.inr (.inl h3))))
            have K3 := hd (fun W => dig_t h3 W)
            clear h1 h2 h3 hc
            go_wp2_with (first | (go_at_call 90; refine (K1.o _).mono ?_; rintro e w' ⟨rfl, rfl⟩) | (go_at_call 92; refine (K2.o _).mono ?_; rintro e w' ⟨rfl, rfl⟩) | (go_at_call 91; refine (K3.o _).mono ?_; rintro e w' ⟨rfl, rfl⟩))
            go_round
            case rel => exact ⟨k + 1, by go_num, by omega, HN⟩
            case measure => simp [intOf]; omega
          · have K3 := hd (fun W => dig_f h3 W)
            by_cases h4 : ubC c = true
            · have HN := hd (HNX.o (by
                unfold ubC at h4
                rw [decide_eq_true_iff] at h4
                exact .inr (.inr (.inr h4))))
              unfold ubC at h4
              rw [decide_eq_true_iff] at h4
              clear h1 h2 h3
              rcases h4 with rfl | rfl | rfl | rfl
              all_goals
                clear hc
                go_wp2_with (first | (go_at_call 90; refine (K1.o _).mono ?_; rintro e w' ⟨rfl, rfl⟩) | (go_at_call 92; refine (K2.o _).mono ?_; rintro e w' ⟨rfl, rfl⟩) | (go_at_call 91; refine (K3.o _).mono ?_; rintro e w' ⟨rfl, rfl⟩))
                go_round
                case rel => exact ⟨k + 1, by go_num, by omega, HN⟩
                case measure => simp [intOf]; omega
            · have HV := hd (HBD.o (fun h => by
                rcases h with h | h | h | h
                · exact h1 h
                · exact h2 h
                · exact h3 h
                · exact h4 (by unfold ubC; exact decide_eq_true h)))
              have m45 : ((c : Int) != 45) = true := by simp; intro h; apply h4; unfold ubC; simp; omega
              have m46 : ((c : Int) != 46) = true := by simp; intro h; apply h4; unfold ubC; simp; omega
              have m95 : ((c : Int) != 95) = true := by simp; intro h; apply h4; unfold ubC; simp; omega
              have m64 : ((c : Int) != 64) = true := by simp; intro h; apply h4; unfold ubC; simp; omega
              clear h1 h2 h3 h4 hc
              go_wp2_with (first | (go_at_call 90; refine (K1.o _).mono ?_; rintro e w' ⟨rfl, rfl⟩) | (go_at_call 92; refine (K2.o _).mono ?_; rintro e w' ⟨rfl, rfl⟩) | (go_at_call 91; refine (K3.o _).mono ?_; rintro e w' ⟨rfl, rfl⟩))
              go_ret
              exact ⟨retB HV.o.symm, rfl⟩
    · obtain rfl : k = s.size := by omega
      have HV := hd (HT.o (HI.o.2 ⟨by omega, by omega, hh.o⟩))
      go_wp2
      go_ret
      exact ⟨retB HV.o.symm, rfl⟩

end Go.Proofs.YtogjokofmfpmgaaGreatDoor
namespace Go.Proofs.YtogjokofmfpmgaaGreatDoor
open Go.RowKit

/-- A request as a value: its ops lie at A. -/
def reqE (q : Rq) (A : Option Addr) (c : Nat) : List Value := [.int .i64 q.k, .string (bs q.tn), .string (bs q.col), .string (bs q.uid), .string (bs q.card), .int .i64 q.ck, .int .i64 q.cv, .slice A q.ops.length c, .int .i64 q.tok, .int .i64 q.most, .int .i64 q.ticks]
def reqV (q : Rq) (A : Option Addr) (c : Nat) : Value := .agg (reqE q A c).toArray
def hasE (k : Int) : List Value := [.bool (hT k), .bool (hC k), .bool (hU k), .bool (hCd k), .bool (hCn k), .bool (hO k), .bool (hTk k), .bool (hM k), .bool (hTi k)]
theorem kind_or {k : Int} (h : isK k = true) : k = 1 ∨ k = 2 ∨ k = 3 ∨ k = 4 ∨ k = 5 ∨ k = 6 ∨ k = 7 ∨ k = 8 ∨ k = 9 ∨ k = 10 ∨ k = 11 := by
  unfold isK at h
  have : 1 ≤ k ∧ k ≤ 11 := by simpa using h
  omega

set_option maxRecDepth 100000 in
set_option maxHeartbeats 4000000 in
theorem fields_calls (k : Int) (h : isK k = true) (w : World) : Calls Tryz.prog 42 #[.int .i64 k] w fun e w' => e = .returned (.agg (hasE k).toArray) ∧ Below w.heap.size w w' := by
  have HB := hd ((Below.refl w.heap.size w).alloc (Nat.le_refl _) (.cells #[.bool false, .bool false, .bool false, .bool false, .bool false, .bool false, .bool false, .bool false, .bool false] 78))
  rcases kind_or h with rfl | rfl | rfl | rfl | rfl | rfl | rfl | rfl | rfl | rfl | rfl
  all_goals
    clear h
    go_enter Tryz.func42, Tryz.ntmps42
    go_wp2
    (try simp only [Exit.inBlock, Exit.then])
    refine bodyPost_ret (results_cell_row rfl _ _ w.heap.size 78 _ _ _ rfl (Blk.new w 78 _) rfl rfl rfl) rfl ⟨rfl, ?_⟩
    exact (Below.refl _ w).alloc (Nat.le_refl _) _

theorem isk_calls (k : Int) (w : World) : Calls Tryz.prog 51 #[.int .i64 k] w fun e w' => e = .returned (.bool (isK k)) ∧ w = w' := by
  obtain ⟨v, hv⟩ : ∃ v, isK k = v := ⟨_, rfl⟩
  rw [hv]
  have HV := hd hv
  clear hv
  by_cases h1 : 1 ≤ k
  · by_cases h2 : k ≤ 11
    · have HT := hd (show v = true by rw [← HV.o]; unfold isK; simp; omega)
      have a1 : decide ((1 : Int) ≤ k) = true := by simpa using h1
      have a2 : decide (k ≤ 11) = true := by simpa using h2
      go_enter Tryz.func51, Tryz.ntmps51
      go_wp2
      go_ret
      exact ⟨ret_bool HT.o.symm, rfl⟩
    · have HT := hd (show v = false by rw [← HV.o]; unfold isK; simp; omega)
      have a1 : decide ((1 : Int) ≤ k) = true := by simpa using h1
      have a2 : decide (k ≤ 11) = false := by simpa using h2
      go_enter Tryz.func51, Tryz.ntmps51
      go_wp2
      go_ret
      exact ⟨ret_bool HT.o.symm, rfl⟩
  · have HT := hd (show v = false by rw [← HV.o]; unfold isK; simp; omega)
    have a1 : decide ((1 : Int) ≤ k) = false := by simpa using h1
    go_enter Tryz.func51, Tryz.ntmps51
    go_wp2
    go_ret
    exact ⟨ret_bool HT.o.symm, rfl⟩

end Go.Proofs.YtogjokofmfpmgaaGreatDoor
namespace Go.Proofs.YtogjokofmfpmgaaGreatDoor
open Go.RowKit

theorem kindL_len (k : Int) : (kindL k).length ≤ 4 := by
  unfold kindL
  repeat' split
  all_goals simp
theorem labL_len (l : Int) : (labL l).length ≤ 5 := by
  unfold labL
  repeat' split
  all_goals simp
theorem raw_sum (k l : Int) (v : List UInt8) : bs (kindL k) ++ bs (labL l) ++ ⟨#[58]⟩ ++ bs v = bs (rawL ⟨k, l, v⟩) := by
  have : (⟨#[58]⟩ : ByteArray) = bs [58] := rfl
  rw [this, bs_app2, bs_app2, bs_app2]
  congr 1
  simp [rawL, headL]

set_option maxRecDepth 100000 in
set_option maxHeartbeats 2000000 in
theorem fline_calls (f : Fld) (hs : f.v.length ≤ 1000000) (w : World) (ht : Tbs w) : Calls Tryz.prog 115 #[fldV f] w fun e w' => e = .returned (.string (bs (lineF f))) ∧ Below w.heap.size w w' := by
  have C1 := hd (fun W h => fmay_calls f hs W (ht.below h) : ∀ W, Below w.heap.size w W → _)
  obtain ⟨L, hL⟩ : ∃ L, lineF f = L := ⟨_, rfl⟩
  rw [hL]
  have hR := raw_sum f.k f.l f.v
  have hl1 := kindL_len f.k
  have hl2 := labL_len f.l
  rw [← bs_size] at hl1 hl2
  have hz3 : (bs f.v).size ≤ 1000000 := by rw [bs_size]; exact hs
  have HB0 := hd ((Below.refl w.heap.size w).alloc (Nat.le_refl _) (.cells #[.int .i64 f.k, .int .i64 f.l, .string (bs f.v)] 128))
  have HK := hd (Blk.new w 128 #[.int .i64 f.k, .int .i64 f.l, .string (bs f.v)])
  by_cases hm : MayF f
  · rw [mayF_t hm] at C1
    have hok := may_ok hm
    obtain ⟨hk, hl⟩ := (okKL_iff _ _).1 hok
    have C2 := label_calls f.k f.l
    have C3 := kind_calls f.k
    rw [show decide (okL f.k f.l) = true by simp [hl], show labV f.k f.l = labL f.l by rw [labV, if_pos hl]] at C2
    rw [line_yes hm] at hL
    have HL := hd hL
    obtain ⟨k, l, v⟩ := f
    simp only [fldV] at C1
    change Calls _ _ #[.agg #[.int .i64 k, .int .i64 l, .string (bs v)]] _ _
    simp only at hR hl1 hl2 hz3 HB0 HK C2 C3
    obtain ⟨K, hK⟩ : ∃ K, bs (kindL k) = K := ⟨_, rfl⟩
    obtain ⟨B, hB⟩ : ∃ B, bs (labL l) = B := ⟨_, rfl⟩
    obtain ⟨V, hV⟩ : ∃ V, bs v = V := ⟨_, rfl⟩
    rw [hK] at C3 hl1
    rw [hB] at C2 hl2
    rw [hV] at C1 hz3 HB0 HK ⊢
    rw [hK, hB, hV] at hR
    have HR := hd hR
    have H2 := hd C2
    have H3 := hd C3
    clear hK hB hV hR C2 C3 hL hm hok hk hl hs ht
    go_enter Tryz.func115, Tryz.ntmps115
    go_wp2_with fail
    refine (C1.o _ HB0.o).mono ?_
    rintro e w1 ⟨rfl, hb1⟩
    have k1 := HK.o.below hb1 (by simp)
    have HB1 := hd (HB0.o.trans (hb1.mono HB0.o.size))
    have a0 := k1.at_ 0 rfl
    have a1 := k1.at_ 1 rfl
    have a2 := k1.at_ 2 rfl
    clear k1 hb1 HK HB0 C1
    go_wp2_with fail
    refine (H2.o _).mono ?_
    rintro e w2 ⟨rfl, rfl⟩
    go_wp2_with fail
    go_quiet ((go_at_call 114; exact q1 (H3.o _)))
    go_wp2
    go_ret
    exact ⟨retS (HR.o.trans (by rw [← HL.o])), bdrewN HB1.o _⟩
  · rw [mayF_f hm] at C1
    rw [line_no hm] at hL
    have HL := hd hL
    obtain ⟨k, l, v⟩ := f
    simp only [fldV] at C1
    change Calls _ _ #[.agg #[.int .i64 k, .int .i64 l, .string (bs v)]] _ _
    simp only at HB0 HK
    clear hL hm hs ht hR hl1 hl2 hz3
    go_enter Tryz.func115, Tryz.ntmps115
    go_wp2_with fail
    refine (C1.o _ HB0.o).mono ?_
    rintro e w1 ⟨rfl, hb1⟩
    have HB1 := hd (HB0.o.trans (hb1.mono HB0.o.size))
    clear hb1 HK HB0 C1
    go_wp2
    go_ret
    exact ⟨retS (by rw [← HL.o]; rfl), HB1.o⟩

def wordsC : Array Value := #[.string ⟨#[]⟩, .string ⟨#[110, 97, 109, 101]⟩, .string ⟨#[111, 114, 103]⟩, .string ⟨#[116, 101, 108]⟩, .string ⟨#[109, 97, 105, 108]⟩, .string ⟨#[100, 97, 121]⟩, .string ⟨#[110, 111, 116, 101]⟩]
def labelsC : Array Value := #[.string ⟨#[]⟩, .string ⟨#[59, 104, 111, 109, 101]⟩, .string ⟨#[59, 119, 111, 114, 107]⟩, .string ⟨#[59, 99, 101, 108, 108]⟩]
theorem words_at (j : Nat) (h : j < 7) : wordsC[j]? = some (.string (bs (kindL j))) := by
  match j, h with
  | 0, _ => rfl
  | 1, _ => rfl
  | 2, _ => rfl
  | 3, _ => rfl
  | 4, _ => rfl
  | 5, _ => rfl
  | 6, _ => rfl
theorem labels_at (j : Nat) (h : j < 4) : labelsC[j]? = some (.string (bs (labL j))) := by
  match j, h with
  | 0, _ => rfl
  | 1, _ => rfl
  | 2, _ => rfl
  | 3, _ => rfl
theorem words_calls (w : World) : Calls Tryz.prog 107 #[] w fun e w' => e = .returned (.slice (some ⟨w.heap.size, 0, none⟩) 7 7) ∧ w.alloc (.cells wordsC 9) = w' := by
  go_enter Tryz.func107, Tryz.ntmps107
  go_wp2
  go_ret
  exact ⟨rfl, rfl⟩
theorem labels_calls (w : World) : Calls Tryz.prog 108 #[] w fun e w' => e = .returned (.slice (some ⟨w.heap.size, 0, none⟩) 4 4) ∧ w.alloc (.cells labelsC 9) = w' := by
  go_enter Tryz.func108, Tryz.ntmps108
  go_wp2
  go_ret
  exact ⟨rfl, rfl⟩

end Go.Proofs.YtogjokofmfpmgaaGreatDoor
namespace Go.Proofs.YtogjokofmfpmgaaGreatDoor
open Go.RowKit

theorem shapeA {k : Int} (h : isK k = true) : (hT k = true ∧ hC k = false ∧ hU k = false ∧ hCd k = false ∧ hCn k = false) ∨ (hT k = false ∧ hC k = true ∧ hU k = false ∧ hCd k = false ∧ hCn k = false) ∨ (hT k = false ∧ hC k = true ∧ hU k = true ∧ hCd k = true ∧ hCn k = true) ∨
    (hT k = false ∧ hC k = true ∧ hU k = true ∧ hCd k = false ∧ hCn k = true) ∨ (hT k = false ∧ hC k = true ∧ hU k = true ∧ hCd k = false ∧ hCn k = false) ∨ (hT k = false ∧ hC k = false ∧ hU k = false ∧ hCd k = false ∧ hCn k = false) := by
  rcases kind_or h with rfl | rfl | rfl | rfl | rfl | rfl | rfl | rfl | rfl | rfl | rfl <;> decide
theorem shapeB {k : Int} (h : isK k = true) : (hO k = true ∧ hTk k = false ∧ hM k = false ∧ hTi k = false) ∨ (hO k = false ∧ hTk k = true ∧ hM k = true ∧ hTi k = false) ∨ (hO k = false ∧ hTk k = true ∧ hM k = false ∧ hTi k = true) ∨ (hO k = false ∧ hTk k = false ∧ hM k = false ∧ hTi k = false) := by
  rcases kind_or h with rfl | rfl | rfl | rfl | rfl | rfl | rfl | rfl | rfl | rfl | rfl <;> decide
/-- The three parts of 'stray'. -/
def strA (h1 h2 h3 h4 h5 : Bool) (tn col uid card : List UInt8) (ck cv : Int) : Bool := (!h1 && decide (tn ≠ [])) || (!h2 && decide (col ≠ [])) || (!h3 && decide (uid ≠ [])) || (!h4 && decide (card ≠ [])) || (!h5 && (decide (ck ≠ 0) || decide (cv ≠ 0)))
def strB (h6 h7 h8 h9 : Bool) (ops : List OpV) (tok most ticks : Int) : Bool := (!h6 && decide (ops ≠ [])) || (!h7 && decide (tok ≠ 0)) || (!h8 && decide (most ≠ 0)) || (!h9 && decide (ticks ≠ 0))
def strC (ops : List OpV) : Bool := ops.any (fun o => o.del && decide (o.card ≠ []))
theorem str_parts (q : Rq) : strayB q = (strA (hT q.k) (hC q.k) (hU q.k) (hCd q.k) (hCn q.k) q.tn q.col q.uid q.card q.ck q.cv || (strB (hO q.k) (hTk q.k) (hM q.k) (hTi q.k) q.ops q.tok q.most q.ticks || strC q.ops)) := by
  unfold strayB strA strB strC
  simp only [Bool.or_assoc]
structure SA (h1 h2 h3 h4 h5 : Bool) (tn col uid card : List UInt8) (ck cv : Int) (sa : Bool) : Prop where
  a1 : h1 = false → ¬ (bs tn).toList = [] → sa = true
  a2 : h2 = false → ¬ (bs col).toList = [] → sa = true
  a3 : h3 = false → ¬ (bs uid).toList = [] → sa = true
  a4 : h4 = false → ¬ (bs card).toList = [] → sa = true
  a5 : h5 = false → ¬ ck = 0 → sa = true
  a6 : h5 = false → ¬ cv = 0 → sa = true
  a0 : (h1 = false → (bs tn).toList = []) → (h2 = false → (bs col).toList = []) → (h3 = false → (bs uid).toList = []) → (h4 = false → (bs card).toList = []) → (h5 = false → ck = 0 ∧ cv = 0) → sa = false
theorem SA.mk_ {h1 h2 h3 h4 h5 : Bool} {tn col uid card : List UInt8} {ck cv : Int} {sa : Bool} (hA : strA h1 h2 h3 h4 h5 tn col uid card ck cv = sa) : SA h1 h2 h3 h4 h5 tn col uid card ck cv sa := by
  have a1 : h1 = false → ¬ (bs tn).toList = [] → sa = true := fun e1 e2 => by rw [bs_toL] at e2; rw [← hA, strA, e1]; simp [e2]
  have a2 : h2 = false → ¬ (bs col).toList = [] → sa = true := fun e1 e2 => by rw [bs_toL] at e2; rw [← hA, strA, e1]; simp [e2]
  have a3 : h3 = false → ¬ (bs uid).toList = [] → sa = true := fun e1 e2 => by rw [bs_toL] at e2; rw [← hA, strA, e1]; simp [e2]
  have a4 : h4 = false → ¬ (bs card).toList = [] → sa = true := fun e1 e2 => by rw [bs_toL] at e2; rw [← hA, strA, e1]; simp [e2]
  have a5 : h5 = false → ¬ ck = 0 → sa = true := fun e1 e2 => by rw [← hA, strA, e1]; simp [e2]
  have a6 : h5 = false → ¬ cv = 0 → sa = true := fun e1 e2 => by rw [← hA, strA, e1]; simp [e2]
  have a0 : (h1 = false → (bs tn).toList = []) → (h2 = false → (bs col).toList = []) → (h3 = false → (bs uid).toList = []) → (h4 = false → (bs card).toList = []) → (h5 = false → ck = 0 ∧ cv = 0) → sa = false := fun e1 e2 e3 e4 e5 => by
    rw [bs_toL] at e1 e2 e3 e4
    rw [← hA, strA]
    cases h1 <;> cases h2 <;> cases h3 <;> cases h4 <;> cases h5 <;> simp_all
  exact ⟨a1, a2, a3, a4, a5, a6, a0⟩
structure SZ (h6 h7 h8 h9 : Bool) (n : Nat) (tok most ticks : Int) (sB : Bool) : Prop where
  z1 : h6 = false → 0 < n → sB = true
  z2 : h7 = false → ¬ tok = 0 → sB = true
  z3 : h8 = false → ¬ most = 0 → sB = true
  z4 : h9 = false → (ticks != 0) = true → sB = true
  z0 : (h6 = false → ¬ 0 < n) → (h7 = false → tok = 0) → (h8 = false → most = 0) → (h9 = false → (ticks != 0) = false) → sB = false
  zt : (h6 = false → ¬ 0 < n) → (h7 = false → tok = 0) → (h8 = false → most = 0) → h9 = false → (ticks != 0) = sB
theorem SZ.mk_ {h6 h7 h8 h9 : Bool} {ops : List OpV} {tok most ticks : Int} {sB : Bool} (hB : strB h6 h7 h8 h9 ops tok most ticks = sB) : SZ h6 h7 h8 h9 ops.length tok most ticks sB := by
  have z1 : h6 = false → 0 < ops.length → sB = true := fun e1 e2 => by rw [← hB, strB, e1]; simp [List.ne_nil_of_length_pos e2]
  have z2 : h7 = false → ¬ tok = 0 → sB = true := fun e1 e2 => by rw [← hB, strB, e1]; simp [e2]
  have z3 : h8 = false → ¬ most = 0 → sB = true := fun e1 e2 => by rw [← hB, strB, e1]; simp [e2]
  have z4 : h9 = false → (ticks != 0) = true → sB = true := fun e1 e2 => by rw [← hB, strB, e1]; simp at e2; simp [e2]
  have z0 : (h6 = false → ¬ 0 < ops.length) → (h7 = false → tok = 0) → (h8 = false → most = 0) → (h9 = false → (ticks != 0) = false) → sB = false := fun e1 e2 e3 e4 => by
    have e1' : h6 = false → ops = [] := fun h => List.eq_nil_of_length_eq_zero (by have := e1 h; omega)
    have e4' : h9 = false → ticks = 0 := fun h => by have := e4 h; simpa using this
    rw [← hB, strB]
    cases h6 <;> cases h7 <;> cases h8 <;> cases h9 <;> simp_all
  exact ⟨z1, z2, z3, z4, z0, fun e1 e2 e3 e4 => by
    cases ht : (ticks != 0) with
    | true => exact (z4 e4 ht).symm
    | false => exact (z0 e1 e2 e3 (fun _ => ht)).symm⟩
theorem vb {a b : Bool} (h : a = b) : Value.bool a = Value.bool b := by rw [h]

set_option maxRecDepth 100000 in
set_option maxHeartbeats 8000000 in
theorem stray_calls (q : Rq) (A : Option Addr) (c : Nat) (h : isK q.k = true) (w : World) (hr : Rds w A q.ops.length 5 (opsE q.ops)) (hb : q.ops.length ≤ 1000000) :
    Calls Tryz.prog 66 #[reqV q A c, .agg (hasE q.k).toArray] w fun e w' => e = .returned (.bool (strayB q)) ∧ Below w.heap.size w w' := by
  have hsa := shapeA h
  have hsb := shapeB h
  obtain ⟨sb, hsq⟩ : ∃ sb, strayB q = sb := ⟨_, rfl⟩
  rw [hsq]
  rw [str_parts q] at hsq
  obtain ⟨k, tn, col, uid, card, ck, cv, ops, tok, most, ticks⟩ := q
  simp only at *
  unfold reqV reqE hasE
  simp only
  generalize hT k = h1 at *
  generalize hC k = h2 at *
  generalize hU k = h3 at *
  generalize hCd k = h4 at *
  generalize hCn k = h5 at *
  generalize hO k = h6 at *
  generalize hTk k = h7 at *
  generalize hM k = h8 at *
  generalize hTi k = h9 at *
  obtain ⟨sa, hA⟩ : ∃ sa, strA h1 h2 h3 h4 h5 tn col uid card ck cv = sa := ⟨_, rfl⟩
  obtain ⟨sB, hB⟩ : ∃ sB, strB h6 h7 h8 h9 ops tok most ticks = sB := ⟨_, rfl⟩
  rw [hA, hB] at hsq
  have HS := hd hsq
  have FA := hd (SA.mk_ hA)
  have FZ := SZ.mk_ hB
  obtain ⟨n, hn⟩ : ∃ n, ops.length = n := ⟨_, rfl⟩
  have HN := hd hn
  rw [hn] at hr hb FZ ⊢
  replace FZ := hd FZ
  have HR := hd hr
  clear hA hB hsq hn hr
  obtain ⟨X, hX⟩ : ∃ X, X = (w.alloc (.cells #[.int .i64 k, .string (bs tn), .string (bs col), .string (bs uid), .string (bs card), .int .i64 ck, .int .i64 cv, .slice A n c, .int .i64 tok, .int .i64 most, .int .i64 ticks] 26)).alloc (.cells #[.bool h1, .bool h2, .bool h3, .bool h4, .bool h5, .bool h6, .bool h7, .bool h8, .bool h9] 78) := ⟨_, rfl⟩
  have q1 : Blk X w.heap.size 26 #[.int .i64 k, .string (bs tn), .string (bs col), .string (bs uid), .string (bs card), .int .i64 ck, .int .i64 cv, .slice A n c, .int .i64 tok, .int .i64 most, .int .i64 ticks] := by rw [hX]; exact (Blk.new _ _ _).alloc _
  have q2 : Blk X (w.heap.size + 1) 78 #[.bool h1, .bool h2, .bool h3, .bool h4, .bool h5, .bool h6, .bool h7, .bool h8, .bool h9] := by rw [hX]; exact Blk.new_ _ _ (by simp) _ _
  have HBX := hd (show Below w.heap.size w X by rw [hX]; exact twoB _ _ _)
  have r1 := q1.at_ 1 rfl
  have r2 := q1.at_ 2 rfl
  have r3 := q1.at_ 3 rfl
  have r4 := q1.at_ 4 rfl
  have r5 := q1.at_ 5 rfl
  have r6 := q1.at_ 6 rfl
  have r7 := q1.at_ 7 rfl
  have r8 := q1.at_ 8 rfl
  have r9 := q1.at_ 9 rfl
  have r10 := q1.at_ 10 rfl
  have t0 := q2.at_ 0 rfl
  have t1 := q2.at_ 1 rfl
  have t2 := q2.at_ 2 rfl
  have t3 := q2.at_ 3 rfl
  have t4 := q2.at_ 4 rfl
  have t5 := q2.at_ 5 rfl
  have t6 := q2.at_ 6 rfl
  have t7 := q2.at_ 7 rfl
  have t8 := q2.at_ 8 rfl
  have HX := hd hX
  clear q1 q2 hX
  go_enter Tryz.func66, Tryz.ntmps66
  go_upto_region 1 with (fail)
  rw [← HX.o]
  go_cut [0, 1, 55] from 7 to 55 (fun _ _ s55 wx => s55 = .bool sa ∧ wx = X)
  case first =>
    clear hsb h
    rcases hsa with ⟨rfl, rfl, rfl, rfl, rfl⟩ | ⟨rfl, rfl, rfl, rfl, rfl⟩ | ⟨rfl, rfl, rfl, rfl, rfl⟩ | ⟨rfl, rfl, rfl, rfl, rfl⟩ | ⟨rfl, rfl, rfl, rfl, rfl⟩ | ⟨rfl, rfl, rfl, rfl, rfl⟩
    all_goals
      go_wp2_with fail
      all_goals
        go_meet
        first
          | exact ⟨vb (FA.o.a1 rfl (by assumption)).symm, rfl⟩
          | exact ⟨vb (FA.o.a2 rfl (by assumption)).symm, rfl⟩
          | exact ⟨vb (FA.o.a3 rfl (by assumption)).symm, rfl⟩
          | exact ⟨vb (FA.o.a4 rfl (by assumption)).symm, rfl⟩
          | exact ⟨vb (FA.o.a5 rfl (by assumption)).symm, rfl⟩
          | exact ⟨vb (FA.o.a6 rfl (by assumption)).symm, rfl⟩
          | exact ⟨vb (FA.o.a0 (fun h => by first | assumption | cases h) (fun h => by first | assumption | cases h) (fun h => by first | assumption | cases h) (fun h => by first | assumption | cases h) (fun h => by first | exact ⟨by first | assumption | rfl, by first | assumption | rfl⟩ | cases h)).symm, rfl⟩
  case rest =>
  obtain ⟨rfl, hwc⟩ := hcut
  subst hwc
  cases sa with
  | true =>
    go_wp2
    go_ret
    exact ⟨ret_bool (by rw [← HS.o]; rfl), HBX.o⟩
  | false =>
  go_upto_region 3 with (fail)
  go_cut [55, 94] from 56 to 94 (fun _ s94 wx => s94 = .bool sB ∧ wx = wc)
  case first =>
    rcases hsb with ⟨rfl, rfl, rfl, rfl⟩ | ⟨rfl, rfl, rfl, rfl⟩ | ⟨rfl, rfl, rfl, rfl⟩ | ⟨rfl, rfl, rfl, rfl⟩
    all_goals
      go_wp2_with fail
      all_goals
        go_meet
        first
          | exact ⟨vb (FZ.o.z1 rfl (by first | assumption | omega)).symm, rfl⟩
          | exact ⟨vb (FZ.o.z2 rfl (by assumption)).symm, rfl⟩
          | exact ⟨vb (FZ.o.z3 rfl (by assumption)).symm, rfl⟩
          | exact ⟨vb (FZ.o.z4 rfl (by assumption)).symm, rfl⟩
          | exact ⟨vb (FZ.o.z0 (fun h => by first | assumption | omega | cases h) (fun h => by first | assumption | cases h) (fun h => by first | assumption | cases h) (fun h => by first | assumption | cases h)).symm, rfl⟩
          | exact ⟨vb (FZ.o.zt (fun h => by first | assumption | omega | cases h) (fun h => by first | assumption | cases h) (fun h => by first | assumption | cases h) rfl), rfl⟩
  case rest =>
  obtain ⟨rfl, hwd⟩ := hcut
  obtain rfl := hwd
  cases sB with
  | true =>
    go_wp2
    go_ret
    exact ⟨ret_bool (by rw [← HS.o]; rfl), HBX.o⟩
  | false =>
  have HS2 := hd (show strC ops = sb by rw [← HS.o]; rfl)
  clear hsa hsb t0 t1 t2 t3 t4 t5 t6 t7 t8 r1 r2 r3 r4 r5 r6 r8 r9 r10 FA FZ
  go_wp2_with fail
  go_loopw [98, 6] (fun i _ wr => ∃ k : Nat, i = .int .i64 k ∧ k ≤ n ∧ Hd (strC (ops.take k) = false) ∧ Hd (Below w.heap.size w wr) ∧ Hd (Below wc.heap.size wc wr)) (fun i _ _ => n - (intOf i).toNat)
  case atStart => exact ⟨0, rfl, Nat.zero_le _, hd rfl, HBX, hd (Below.refl _ _)⟩
  case round =>
    obtain ⟨k, rfl, hk, HV, HB, HBC⟩ := hrel
    have hki : (0 : Int) ≤ (k : Int) := by omega
    by_cases hlt : k < n
    · have hlti : (k : Int) < (n : Int) := by omega
      have hkl : k < ops.length := by rw [HN.o]; exact hlt
      obtain ⟨g, o, rfl, hg, hc⟩ := HR.o.at_ (by omega)
      obtain ⟨x, hx⟩ : ∃ x, ops[k]'hkl = x := ⟨_, rfl⟩
      have HT : Hd (ops.take (k + 1) = ops.take k ++ [x]) := hd (by rw [List.take_succ_eq_append_getElem hkl, hx])
      have HMEM : Hd (x ∈ ops) := hd (by rw [← hx]; exact List.getElem_mem hkl)
      have hcell : ∀ j u, j < 5 → (opEnc x)[j]? = some u → wr.cell? ⟨g, o + (k * 5 + j), none⟩ = some u := fun j u hj hv => (HB.o.cell (p := ⟨g, o + (k * 5 + j), none⟩) hg).trans (hc _ _ ((opsE_at ops k hkl j hj).trans (by rw [hx]; exact hv)))
      obtain ⟨xd, xu, xc, xk, xv⟩ := x
      have k0 := hcell 0 _ (by omega) rfl
      have k1 := hcell 1 _ (by omega) rfl
      have k2 := hcell 2 _ (by omega) rfl
      have k3 := hcell 3 _ (by omega) rfl
      have k4 := hcell 4 _ (by omega) rfl
      rw [← Nat.add_assoc] at k0 k1 k2 k3 k4
      rw [Nat.add_zero] at k0
      have HA := hd (HB.o.alloc HB.o.size (.cells #[.bool xd, .string (bs xu), .string (bs xc), .int .i64 xk, .int .i64 xv] 43))
      have HAC := hd (HBC.o.alloc HBC.o.size (.cells #[.bool xd, .string (bs xu), .string (bs xc), .int .i64 xk, .int .i64 xv] 43))
      have HBAD := hd (show (xd && decide (xc ≠ [])) = true → sb = true from fun h => by
        rw [← HS2.o, strC]
        exact List.any_eq_true.2 ⟨_, HMEM.o, h⟩)
      have HGO := hd (show (xd && decide (xc ≠ [])) = false → strC (ops.take (k + 1)) = false from fun h => by
        have := HV.o
        unfold strC at *
        rw [HT.o, List.any_append, this]
        simpa using h)
      clear hcell hc hx hkl
      cases xd with
      | false =>
        have HG := hd (HGO.o rfl)
        go_wp2
        go_roundw
        case rel => exact ⟨k + 1, by go_num, by omega, HG, HA, HAC⟩
        case measure => simp [intOf]; omega
      | true =>
        by_cases hcc : (bs xc).toList = []
        · have HG := hd (HGO.o (by rw [bs_toL] at hcc; rw [hcc]; rfl))
          go_wp2
          exact ⟨⟨k + 1, by go_num, by omega, HG, HA, HAC⟩, by simp [intOf]; omega⟩
        · have HG := hd (HBAD.o (by rw [bs_toL] at hcc; simpa using hcc))
          have hcc1 : (!(bs xc).toList.isEmpty) = true := by simpa using hcc
          have hcc2 : ((bs xc).toList != []) = true := by simpa using hcc
          have hcc3 : (bs xc).toList.isEmpty = false := by simpa using hcc
          go_wp2
          go_ret
          exact ⟨ret_bool HG.o.symm, HA.o⟩
    · obtain rfl : k = n := by omega
      have HE : Hd (sb = false) := hd (by
        rw [← HS2.o, ← HV.o, List.take_of_length_le (by rw [HN.o]; exact Nat.le_refl _)])
      go_wp2
      go_ret
      exact ⟨ret_bool HE.o.symm, HB.o⟩

end Go.Proofs.YtogjokofmfpmgaaGreatDoor
namespace Go.Proofs.YtogjokofmfpmgaaGreatDoor
open Go.RowKit Go.Sort

def fEnc (f : Fld) : List Value := [.int .i64 f.k, .int .i64 f.l, .string (bs f.v)]
def fsE (l : List Fld) : List Value := l.flatMap fEnc
theorem fEnc_len (f : Fld) : (fEnc f).length = 3 := rfl
theorem fsE_at (l : List Fld) (i : Nat) (h : i < l.length) (j : Nat) (hj : j < 3) : (fsE l)[i * 3 + j]? = (fEnc l[i])[j]? := flat_at fEnc 3 fEnc_len l i h j hj
theorem fsE_app (a b : List Fld) : fsE (a ++ b) = fsE a ++ fsE b := by unfold fsE; rw [List.flatMap_append]
theorem fsE_snoc (a : List Fld) (f : Fld) : fsE (a ++ [f]) = fsE a ++ fEnc f := by rw [fsE_app]; simp [fsE]
theorem fEnc_one (f : Fld) (v : Value) (h : v ∈ fEnc f) : v.oneCell' = true := by
  simp only [fEnc, List.mem_cons, List.mem_nil_iff, or_false] at h
  rcases h with rfl | rfl | rfl <;> rfl
/-- Two boxes behind each other. -/
def two_c (w' w : World) (t : TypeId) (c1 c2 : Array Value) : Prop := Blk w' w.heap.size t c1 ∧ Blk w' (w.heap.size + 1) t c2
theorem two_c_of (w : World) (t : TypeId) (c1 c2 : Array Value) (os : Array Obj) : two_c (grow ((w.alloc (.cells c1 t)).alloc (.cells c2 t)) os) w t c1 c2 := by
  have h1 : Blk ((w.alloc (.cells c1 t)).alloc (.cells c2 t)) w.heap.size t c1 := (Blk.new w t c1).alloc _
  have h2 : Blk ((w.alloc (.cells c1 t)).alloc (.cells c2 t)) (w.heap.size + 1) t c2 := Blk.new_ _ _ (by simp) _ _
  exact ⟨(heap_grow_old _ _ h1.lt).trans h1, (heap_grow_old _ _ h2.lt).trans h2⟩

end Go.Proofs.YtogjokofmfpmgaaGreatDoor
namespace Go.Proofs.YtogjokofmfpmgaaGreatDoor
open Go.Shelf
def sortFs_ren : Go.Shelf.Ren := ⟨fun | 6 => 124 | 15 => 145 | 14 => 144 | 28 => 171 | 29 => 172 | 20 => 163 | 21 => 164 | 22 => 165 | 23 => 166 | 24 => 167 | 25 => 168 | 26 => 169 | 27 => 170 | 46 => 183 | 47 => 184 | 48 => 185 | 49 => 186 | 50 => 187 | 57 => 197 | n => n, fun | 22 => 118 | 24 => 128 | 25 => 147 | 3 => 3 | 39 => 110 | 0 => 0 | 53 => 171 | 55 => 126 | 4 => 4 | 46 => 178 | 45 => 177 | 50 => 182 | 5 => 5 | 9 => 9 | 66 => 197 | 70 => 201 | 76 => 205 | 77 => 206 | n => n, fun | n => n⟩
theorem sortFs : Go.Proofs.SlLaysF0.n6 Tryz.prog sortFs_ren := {
  mixed := by kernel_rfl
  f6 := ⟨Tryz.f124.name, by decide, Tryz.func124.trans (congrArg some (by kernel_rfl))⟩
  f14 := ⟨Tryz.f144.name, by decide, Tryz.func144.trans (congrArg some (by kernel_rfl))⟩
  f15 := Tryz.func145.trans (congrArg some (by kernel_rfl))
  f20 := ⟨Tryz.f163.name, by decide, Tryz.func163.trans (congrArg some (by kernel_rfl))⟩
  f21 := ⟨Tryz.f164.name, by decide, Tryz.func164.trans (congrArg some (by kernel_rfl))⟩
  f22 := ⟨Tryz.f165.name, by decide, Tryz.func165.trans (congrArg some (by kernel_rfl))⟩
  f23 := ⟨Tryz.f166.name, by decide, Tryz.func166.trans (congrArg some (by kernel_rfl))⟩
  f24 := ⟨Tryz.f167.name, by decide, Tryz.func167.trans (congrArg some (by kernel_rfl))⟩
  f25 := ⟨Tryz.f168.name, by decide, Tryz.func168.trans (congrArg some (by kernel_rfl))⟩
  f26 := ⟨Tryz.f169.name, by decide, Tryz.func169.trans (congrArg some (by kernel_rfl))⟩
  f27 := ⟨Tryz.f170.name, by decide, Tryz.func170.trans (congrArg some (by kernel_rfl))⟩
  f28 := Tryz.func171.trans (congrArg some (by kernel_rfl))
  f29 := Tryz.func172.trans (congrArg some (by kernel_rfl))
  f46 := ⟨Tryz.f183.name, by decide, Tryz.func183.trans (congrArg some (by kernel_rfl))⟩
  f47 := Tryz.func184.trans (congrArg some (by kernel_rfl))
  f48 := Tryz.func185.trans (congrArg some (by kernel_rfl))
  f49 := ⟨Tryz.f186.name, by decide, Tryz.func186.trans (congrArg some (by kernel_rfl))⟩
  f50 := ⟨Tryz.f187.name, by decide, Tryz.func187.trans (congrArg some (by kernel_rfl))⟩
  f57 := ⟨Tryz.f197.name, by decide, Tryz.func197.trans (congrArg some (by kernel_rfl))⟩
  t0 := Tryz.underlying0
  a0 := Tryz.isAgg0
  z0 := Tryz.sizeOf0
  v0 := Tryz.zeroValue0
  t3 := Tryz.underlying3
  a3 := Tryz.isAgg3
  z3 := Tryz.sizeOf3
  v3 := Tryz.zeroValue3
  t4 := Tryz.underlying4
  a4 := Tryz.isAgg4
  z4 := Tryz.sizeOf4
  v4 := Tryz.zeroValue4
  t5 := Tryz.underlying5
  a5 := Tryz.isAgg5
  z5 := Tryz.sizeOf5
  v5 := Tryz.zeroValue5
  t9 := Tryz.underlying9
  a9 := Tryz.isAgg9
  z9 := Tryz.sizeOf9
  v9 := Tryz.zeroValue9
  t22 := Tryz.underlying118
  a22 := Tryz.isAgg118
  z22 := Tryz.sizeOf118
  v22 := Tryz.zeroValue118
  t25 := Tryz.underlying147
  a25 := Tryz.isAgg147
  z25 := Tryz.sizeOf147
  v25 := Tryz.zeroValue147
  t39 := Tryz.underlying110
  a39 := Tryz.isAgg110
  z39 := Tryz.sizeOf110
  v39 := Tryz.zeroValue110
  t45 := Tryz.underlying177
  a45 := Tryz.isAgg177
  z45 := Tryz.sizeOf177
  v45 := Tryz.zeroValue177
  t46 := Tryz.underlying178
  a46 := Tryz.isAgg178
  z46 := Tryz.sizeOf178
  v46 := Tryz.zeroValue178
  t50 := Tryz.underlying182
  a50 := Tryz.isAgg182
  z50 := Tryz.sizeOf182
  v50 := Tryz.zeroValue182
  t53 := Tryz.underlying171
  a53 := Tryz.isAgg171
  z53 := Tryz.sizeOf171
  v53 := Tryz.zeroValue171
  t55 := Tryz.underlying126
  a55 := Tryz.isAgg126
  z55 := Tryz.sizeOf126
  v55 := Tryz.zeroValue126
  t66 := Tryz.underlying197
  a66 := Tryz.isAgg197
  z66 := Tryz.sizeOf197
  v66 := Tryz.zeroValue197
  t70 := Tryz.underlying201
  a70 := Tryz.isAgg201
  z70 := Tryz.sizeOf201
  v70 := Tryz.zeroValue201
  t76 := Tryz.underlying205
  a76 := Tryz.isAgg205
  z76 := Tryz.sizeOf205
  v76 := Tryz.zeroValue205
  t77 := Tryz.underlying206
  a77 := Tryz.isAgg206
  z77 := Tryz.sizeOf206
  v77 := Tryz.zeroValue206 }
end Go.Proofs.YtogjokofmfpmgaaGreatDoor
