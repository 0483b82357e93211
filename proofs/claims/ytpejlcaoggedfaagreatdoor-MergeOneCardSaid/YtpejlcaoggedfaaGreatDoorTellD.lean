/-
  The reference's days: the date of a text.
-/
import Derived.Test.YtpejlcaoggedfaaGreatDoorTellB
import Derived.Test.YtpejlcaoggedfaaGreatDoorDayW
set_option linter.unusedVariables false
set_option linter.unusedSimpArgs false
namespace Go.Proofs.YtpejlcaoggedfaaGreatDoor
open Go.RowKit Go.Sort

/-- What a sign at a place adds. -/
def stp (len i : Nat) (c : Nat) (t : Int × Int × Int) : Int × Int × Int :=
  if c < 48 ∨ 57 < c then t
  else if (i : Int) < len - 6 then (10 * t.1 + ((c : Int) - 48), t.2.1, t.2.2)
  else if (i : Int) = len - 5 ∨ (i : Int) = len - 4 then (t.1, 10 * t.2.1 + ((c : Int) - 48), t.2.2)
  else if (len : Int) - 2 ≤ i then (t.1, t.2.1, 10 * t.2.2 + ((c : Int) - 48))
  else t
def pdF (len : Nat) : Nat → List UInt8 → Int × Int × Int → Int × Int × Int
  | _, [], t => t
  | i, c :: r, t => pdF len (i + 1) r (stp len i c.toNat t)
theorem pdF_at (s : ByteArray) (i : Nat) (hi : i < s.size) (t v : Int × Int × Int) (h : pdF s.size i (s.data.toList.drop i) t = v) : pdF s.size (i + 1) (s.data.toList.drop (i + 1)) (stp s.size i s[i].toNat t) = v := by
  have hl : i < s.data.toList.length := by simpa using hi
  have e : s.data.toList.drop i = s[i] :: s.data.toList.drop (i + 1) := by rw [List.drop_eq_getElem_cons hl]; rfl
  rw [e, pdF] at h
  exact h
theorem stp_bd (len i c : Nat) (t : Int × Int × Int) (hc : c < 256) (B : Int) (h0 : 0 ≤ t.1 ∧ t.1 < B) (h1 : 0 ≤ t.2.1 ∧ t.2.1 < B) (h2 : 0 ≤ t.2.2 ∧ t.2.2 < B) :
    (0 ≤ (stp len i c t).1 ∧ (stp len i c t).1 < 10 * B) ∧ (0 ≤ (stp len i c t).2.1 ∧ (stp len i c t).2.1 < 10 * B) ∧ (0 ≤ (stp len i c t).2.2 ∧ (stp len i c t).2.2 < 10 * B) := by
  unfold stp
  split
  · omega
  · split
    · simp only []; omega
    · split
      · simp only []; omega
      · split
        · simp only []; omega
        · omega

end Go.Proofs.YtpejlcaoggedfaaGreatDoor
