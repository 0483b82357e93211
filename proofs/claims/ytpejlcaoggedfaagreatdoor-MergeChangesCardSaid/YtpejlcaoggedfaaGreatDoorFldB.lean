/-
  Fields: the canonical field, on both sides.
-/
import Derived.Test.YtpejlcaoggedfaaGreatDoorFldA
import Derived.Test.YtpejlcaoggedfaaGreatDoorFldD
import Derived.Test.YtpejlcaoggedfaaGreatDoorFldE
import Derived.Test.YtpejlcaoggedfaaGreatDoorFldM
import Derived.Test.YtpejlcaoggedfaaGreatDoorTellE
set_option linter.unusedVariables false
set_option linter.unusedSimpArgs false
namespace Go.Proofs.YtpejlcaoggedfaaGreatDoor
open Go.RowKit

/-- Both tables. -/
def Tbs (w : World) : Prop := Tbl w ∧ Tab w
theorem Tbs.below {w w' : World} (h : Tbs w) (hb : Below w.heap.size w w') : Tbs w' := ⟨h.1.below hb, h.2.below hb⟩
open Classical in
noncomputable def dayE (l : List UInt8) : Int := if DayT l then 0 else 1
theorem parse_day (l : List UInt8) (hl : l.length ≤ 64) : ∃ y m d : Int, (∀ W, Tab W → Calls Tryz.prog 56 #[.string (bs l)] W fun e w' => e = .returned (dateV y m d (dayE l)) ∧ Below W.heap.size W w') ∧
    (∀ W, Calls Tryz.prog 66 #[.string (bs l)] W fun e w' => e = .returned (dateV y m d (dayE l)) ∧ Below W.heap.size W w') := by
  obtain ⟨y, m, d, k, hk, h1, h2⟩ := parse_both (bs l) (by rw [bs_size]; exact hl)
  have e : k = dayE l := by
    unfold dayE DayT
    rcases hk with ⟨rfl, h⟩ | ⟨rfl, h⟩
    · rw [bs_data] at h; rw [if_pos h]
    · rw [bs_data] at h; rw [if_neg h]
  subst e
  exact ⟨y, m, d, h1, h2⟩
/-- What a value's cleaning answers, before the day. -/
noncomputable def preE (k : Int) (v : List UInt8) : Int := if k = 3 then telE v else if k = 4 then canE v else cleanE v
theorem valE_pre (k : Int) (v : List UInt8) : valE k v = if preE k v = 0 ∧ k = 5 then dayE (valT k v) else preE k v := by
  unfold valE preE valT dayE
  by_cases k3 : k = 3
  · rw [if_pos k3, if_pos k3, if_pos k3, if_neg (by omega)]
  · by_cases k4 : k = 4
    · rw [if_neg k3, if_neg k3, if_neg k3, if_pos k4, if_pos k4, if_pos k4, if_neg (by omega)]
    · rw [if_neg k3, if_neg k3, if_neg k3, if_neg k4, if_neg k4, if_neg k4]
      by_cases k5 : k = 5
      · by_cases e : cleanE v = 0
        · by_cases hD : DayT (cleanT v)
          · rw [if_neg (by simp [hD]), if_pos ⟨e, k5⟩, if_pos hD, e]
          · rw [if_pos ⟨e, k5, hD⟩, if_pos ⟨e, k5⟩, if_neg hD]
        · rw [if_neg (by simp [e]), if_neg (by simp [e])]
      · rw [if_neg (by simp [k5]), if_neg (by simp [k5])]
theorem valT_len (k : Int) (v : List UInt8) : (valT k v).length ≤ 64 := by
  unfold valT
  by_cases k3 : k = 3
  · rw [if_pos k3]
    by_cases h : telE v = 0
    · have := (tel_len (tel_ok h)).2; omega
    · rw [tel_fail h]; simp
  · by_cases k4 : k = 4
    · rw [if_neg k3, if_pos k4]
      by_cases h : canE v = 0
      · exact (can_ok h).1
      · rw [(can_fail h).1]; simp
    · rw [if_neg k3, if_neg k4]; exact cleanT_len v

theorem kind_some {k : Int} (h : 1 ≤ k ∧ k ≤ 6) : ((bs (kindL k)).toList == []) = false := by
  have h1 : ¬ kindL k = [] := fun e => (kindL_ne k).1 e h
  rw [bs_toL]
  cases hk : kindL k with
  | nil => exact absurd hk h1
  | cons a t => rfl
theorem kind_none {k : Int} (h : ¬ (1 ≤ k ∧ k ≤ 6)) : kindL k = [] := (kindL_ne k).2 h
theorem fldC_res (f : Fld) : fldC f = resF ⟨f.k, f.l, valT f.k f.v⟩ (fldE f) := rfl
theorem bs_back (l : List UInt8) : (bs l).data.toList = l := rfl

theorem fcanon_calls (f : Fld) (hs : f.v.length ≤ 1000000) (w : World) (ht : Tbs w) : Calls Tryz.prog 33 #[fldV f] w fun e w' => e = .returned (fldR (fldC f) (fldE f)) ∧ Below w.heap.size w w' := by
  obtain ⟨k, l, v⟩ := f
  have hz : (bs v).size ≤ 1000000 := by rw [bs_size]; exact hs
  have HT : ∀ W, Below w.heap.size w W → Tbs W := fun W h => ht.below h
  have L1 : ∀ W, Calls Tryz.prog 51 #[.int .i64 k, .int .i64 l] W fun e w' => e = .returned (.tuple #[.string (bs (labV k l)), .bool (decide (okL k l))]) ∧ W = w' := label_calls k l
  have L2 : ∀ W, Calls Tryz.prog 52 #[.int .i64 k] W fun e w' => e = .returned (.string (bs (kindL k))) ∧ W = w' := kind_calls k
  rw [fldC_res]
  by_cases hh : okKL k l
  · have hE : fldE ⟨k, l, v⟩ = valE k v := if_pos hh
    obtain ⟨hk, hl⟩ := (okKL_iff k l).1 hh
    rw [show decide (okL k l) = true by simp [hl]] at L1
    have hkd := kind_some hk
    by_cases h3 : k = 3
    · subst h3
      have hv : valE 3 v = telE v := rfl
      rw [hE, hv]
      exact fcanon_3 l (bs v) _ _ (telT v) (telE v) (telE v) rfl w L1 L2 hkd (fun W h => telcan_calls (bs v) hz W (HT W h).1)
    by_cases h4 : k = 4
    · subst h4
      have hv : valE 4 v = canE v := rfl
      rw [hE, hv]
      exact fcanon_4 l (bs v) _ _ (canT v) (canE v) (canE v) rfl w L1 L2 hkd (fun W h => canon_calls (bs v) hz W (HT W h).1)
    · have hl0 : l = 0 := by
        rcases hl with h | ⟨_, h | h⟩ | ⟨_, h⟩
        · exact h
        · exact absurd h h3
        · exact absurd h h4
        · exact absurd h h3
      subst hl0
      have hT : valT k v = cleanT v := by unfold valT; rw [if_neg h3, if_neg h4]
      have hP : preE k v = cleanE v := by unfold preE; rw [if_neg h3, if_neg h4]
      obtain ⟨y, m, d, hp, _⟩ := parse_day (cleanT v) (cleanT_len v)
      have hv := valE_pre k v
      rw [hT, hP] at hv
      rw [hE]
      show Calls _ _ _ _ fun e w' => e = .returned (fldR (resF ⟨k, 0, valT k v⟩ _) _) ∧ _
      rw [hT]
      exact fcanon_o k hk.1 hk.2 h3 h4 (bs v) _ _ (cleanT v) (cleanE v) y m d (dayE (cleanT v)) _ hv w L1 L2 hkd (fun W h => clean_calls (bs v) hz W (HT W h).1) (fun W h => hp W (HT W h).2)
  · have hE : fldE ⟨k, l, v⟩ = 1 := if_neg hh
    rw [hE]
    show Calls _ _ _ _ fun e w' => e = .returned (fldR noFld 1) ∧ _
    by_cases hl : okL k l
    · have hk : kindL k = [] := kind_none (fun h => hh ((okKL_iff k l).2 ⟨h, hl⟩))
      rw [show decide (okL k l) = true by simp [hl]] at L1
      rw [hk] at L2
      exact fcanon_bad2 k l (bs v) _ _ w L1 L2 (by rw [bs_toL]; rfl)
    · rw [show decide (okL k l) = false by simp [hl]] at L1
      exact fcanon_bad1 k l (bs v) _ w L1

theorem rcanon_calls (f : Fld) (hs : f.v.length ≤ 1000000) (w : World) : Calls Tryz.prog 38 #[fldV f] w fun e w' => e = .returned (fldR (fldC f) (fldE f)) ∧ Below w.heap.size w w' := by
  obtain ⟨k, l, v⟩ := f
  have hz : (bs v).size ≤ 1000000 := by rw [bs_size]; exact hs
  rw [fldC_res]
  by_cases hh : okKL k l
  · have hE : fldE ⟨k, l, v⟩ = valE k v := if_pos hh
    obtain ⟨hk, hl⟩ := (okKL_iff k l).1 hh
    by_cases h3 : k = 3
    · subst h3
      have hv : valE 3 v = telE v := rfl
      rw [hE, hv]
      exact rcanon_3 l (by unfold okL at hl; omega) (bs v) (telT v) (telE v) (telE v) rfl w (fun W h => rtel_calls (bs v) hz W)
    by_cases h4 : k = 4
    · subst h4
      have hv : valE 4 v = canE v := rfl
      rw [hE, hv]
      exact rcanon_4 l (by unfold okL at hl; omega) (bs v) (canT v) (canE v) (canE v) rfl w (fun W h => rmail_calls (bs v) hz W)
    · have hl0 : l = 0 := by unfold okL at hl; omega
      subst hl0
      have hT : valT k v = cleanT v := by unfold valT; rw [if_neg h3, if_neg h4]
      have hP : preE k v = cleanE v := by unfold preE; rw [if_neg h3, if_neg h4]
      obtain ⟨y, m, d, _, hp⟩ := parse_day (cleanT v) (cleanT_len v)
      have hv := valE_pre k v
      rw [hT, hP] at hv
      rw [hE]
      show Calls _ _ _ _ fun e w' => e = .returned (fldR (resF ⟨k, 0, valT k v⟩ _) _) ∧ _
      rw [hT]
      exact rcanon_o k hk.1 hk.2 h3 h4 (bs v) (cleanT v) (cleanE v) y m d (dayE (cleanT v)) _ hv w (fun W h => rclean_calls (bs v) hz W) (fun W h => hp W)
  · have hE : fldE ⟨k, l, v⟩ = 1 := if_neg hh
    rw [hE]
    show Calls _ _ _ _ fun e w' => e = .returned (fldR noFld 1) ∧ _
    exact rcanon_bad k l (bs v) w (by unfold okKL at hh; omega)

theorem mayF_dec (f : Fld) : decide (fldE f = 0 ∧ fldC f = f) = mayF f := by
  by_cases h : MayF f
  · rw [mayF_t h]; simp [h.1, may_fldC h]
  · rw [mayF_f h, decide_eq_false_iff_not]
    rintro ⟨h1, h2⟩
    have := fldC_may h1
    rw [h2] at this
    exact h this
theorem fmay_calls (f : Fld) (hs : f.v.length ≤ 1000000) (w : World) (ht : Tbs w) : Calls Tryz.prog 94 #[fldV f] w fun e w' => e = .returned (.bool (mayF f)) ∧ Below w.heap.size w w' := by
  have := may_of f (fldC f) (fldE f) w (fun W h => fcanon_calls f hs W (ht.below h))
  rwa [mayF_dec] at this
theorem rfmay_calls (f : Fld) (hs : f.v.length ≤ 1000000) (w : World) : Calls Tryz.prog 72 #[fldV f] w fun e w' => e = .returned (.bool (mayF f)) ∧ Below w.heap.size w w' := by
  have := rmay_of f (fldC f) (fldE f) w (fun W h => rcanon_calls f hs W)
  rwa [mayF_dec] at this

end Go.Proofs.YtpejlcaoggedfaaGreatDoor
