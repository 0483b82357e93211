/-
  Telephone numbers, plain.
-/
import Derived.Test.YtpejlcaoggedfaaGreatDoorClnP
set_option linter.unusedVariables false
set_option linter.unusedSimpArgs false
namespace Go.Proofs.YtpejlcaoggedfaaGreatDoor
open Go.RowKit

def telC (c : UInt8) : Bool := decide (c.toNat ≠ 32 ∧ c.toNat ≠ 45 ∧ c.toNat ≠ 46 ∧ c.toNat ≠ 47 ∧ c.toNat ≠ 40 ∧ c.toNat ≠ 41)
def telD (l : List UInt8) : List UInt8 := l.filter telC
def telR (l : List UInt8) : List UInt8 := if 0 < l.length ∧ bt l 0 = 43 then l.drop 1 else l
def TelP (l : List UInt8) : Prop := 3 ≤ (telR l).length ∧ (telR l).length ≤ 15 ∧ ∀ i, i < (telR l).length → 48 ≤ bt (telR l) i ∧ bt (telR l) i ≤ 57
open Classical in
noncomputable def telB (l : List UInt8) : Bool := decide (TelP l)
theorem telB_t {l : List UInt8} (h : TelP l) : telB l = true := by simp [telB, h]
theorem telB_f {l : List UInt8} (h : ¬ TelP l) : telB l = false := by simp [telB, h]
open Classical in
noncomputable def telT (l : List UInt8) : List UInt8 := if cleanE l = 0 ∧ TelP (telD (cleanT l)) then telD (cleanT l) else []
open Classical in
noncomputable def telE (l : List UInt8) : Int := if cleanE l = 0 then (if TelP (telD (cleanT l)) then 0 else 1) else cleanE l
theorem tel_e {l : List UInt8} (h : cleanE l ≠ 0) : telT l = [] ∧ telE l = cleanE l := by simp [telT, telE, h]
theorem tel_yes {l : List UInt8} (h : cleanE l = 0) (k : TelP (telD (cleanT l))) : telT l = telD (cleanT l) ∧ telE l = 0 := by simp [telT, telE, h, k]
theorem tel_no {l : List UInt8} (h : cleanE l = 0) (k : ¬ TelP (telD (cleanT l))) : telT l = [] ∧ telE l = 1 := by simp [telT, telE, h, k]
theorem telD_next (l : List UInt8) (k : Nat) (h : k < l.length) : telD (l.take (k + 1)) = telD (l.take k) ++ (if telC l[k] = true then [l[k]] else []) := by
  unfold telD
  rw [List.take_succ_eq_append_getElem h, List.filter_append]
  congr 1
  by_cases hc : telC l[k] = true <;> simp [hc]
theorem telD_skip (l : List UInt8) (k : Nat) (h : k < l.length) (c : telC l[k] = false) : telD (l.take (k + 1)) = telD (l.take k) := by
  rw [telD_next l k h, c]; simp
theorem telD_put (l : List UInt8) (k : Nat) (h : k < l.length) (c : telC l[k] = true) : telD (l.take (k + 1)) = telD (l.take k) ++ [l[k]] := by
  rw [telD_next l k h, c]; simp
theorem telD_len (l : List UInt8) (k : Nat) : (telD (l.take k)).length ≤ k := by
  have := List.length_filter_le telC (l.take k)
  rw [List.length_take] at this
  unfold telD
  omega
theorem mem_bt_of {l : List UInt8} {P : Nat → Prop} (h : ∀ i, i < l.length → P (bt l i)) : ∀ c ∈ l, P c.toNat := by
  intro c hc
  obtain ⟨i, hi, e⟩ := mem_bt hc
  rw [← e]; exact h i hi
theorem tel_sign {l : List UInt8} (h : TelP l) : ∀ c ∈ l, c.toNat = 43 ∨ (48 ≤ c.toNat ∧ c.toNat ≤ 57) := by
  have hr := mem_bt_of (P := fun n => 48 ≤ n ∧ n ≤ 57) h.2.2
  intro c hc
  unfold telR at hr
  split at hr
  · next k =>
    cases l with
    | nil => cases hc
    | cons b t =>
      rcases List.mem_cons.1 hc with rfl | hc
      · exact .inl k.2
      · exact .inr (hr c hc)
  · exact .inr (hr c hc)
theorem tel_len {l : List UInt8} (h : TelP l) : 3 ≤ l.length ∧ l.length ≤ 16 := by
  have h1 := h.1
  have h2 := h.2.1
  unfold telR at h1 h2
  split at h1
  · next k => rw [if_pos k] at h2; rw [List.length_drop] at h1 h2; omega
  · next k => rw [if_neg k] at h2; omega
theorem telD_self {l : List UInt8} (h : TelP l) : telD l = l := by
  unfold telD
  rw [List.filter_eq_self]
  intro c hc
  have := tel_sign h c hc
  simp only [telC, decide_eq_true_eq]
  omega
/-- A number is its own form. -/
theorem tel_self {l : List UInt8} (h : TelP l) : telT l = l ∧ telE l = 0 := by
  have hl := tel_len h
  have hc := clean_plain (l := l) (fun c hc => by have := tel_sign h c hc; omega) (by omega) (by omega)
  have := tel_yes hc.2 (by rw [hc.1, telD_self h]; exact h)
  rwa [hc.1, telD_self h] at this
theorem tel_ok {l : List UInt8} (h : telE l = 0) : TelP (telT l) := by
  by_cases c : cleanE l = 0
  · by_cases k : TelP (telD (cleanT l))
    · rw [(tel_yes c k).1]; exact k
    · have := (tel_no c k).2; omega
  · have := (tel_e c).2; omega
theorem tel_fail {l : List UInt8} (h : telE l ≠ 0) : telT l = [] := by
  by_cases c : cleanE l = 0
  · by_cases k : TelP (telD (cleanT l))
    · exact absurd (tel_yes c k).2 h
    · exact (tel_no c k).1
  · exact (tel_e c).1

end Go.Proofs.YtpejlcaoggedfaaGreatDoor
