/-
  The order of texts by their bytes, and maps that rise by it: plain.
-/
import Derived.Lib.Bytealg
set_option linter.unusedVariables false
set_option linter.unusedSimpArgs false
namespace Go.Proofs.YtogjokofmfpmgaaGreatDoor
open Go.Lib

theorem u8_lt (a b : UInt8) : a < b ↔ a.toNat < b.toNat := UInt8.lt_iff_toNat_lt
theorem cmp_self : ∀ a : List UInt8, compareBytes a a = 0
  | [] => rfl
  | a :: as => by
    have : ¬ a < a := by rw [u8_lt]; omega
    rw [compareBytes, if_neg this, if_neg this]
    exact cmp_self as
theorem cmp_zero : ∀ {a b : List UInt8}, compareBytes a b = 0 → a = b
  | [], [], _ => rfl
  | [], _ :: _, h => by simp [compareBytes] at h
  | _ :: _, [], h => by simp [compareBytes] at h
  | a :: as, b :: bs, h => by
    rw [compareBytes] at h
    split at h
    · simp at h
    · split at h
      · simp at h
      · rename_i h1 h2
        rw [u8_lt] at h1 h2
        have : a = b := UInt8.toNat_inj.1 (by omega)
        rw [this, cmp_zero h]
theorem cmp_anti : ∀ a b : List UInt8, compareBytes b a = - compareBytes a b
  | [], [] => rfl
  | [], _ :: _ => rfl
  | _ :: _, [] => rfl
  | a :: as, b :: bs => by
    rw [compareBytes, compareBytes]
    by_cases h1 : a < b
    · have h2 : ¬ b < a := by rw [u8_lt] at *; omega
      simp [h1, h2]
    · by_cases h2 : b < a
      · simp [h1, h2]
      · simp only [if_neg h1, if_neg h2]
        exact cmp_anti as bs
theorem cmp_cons (a b : UInt8) (as bs : List UInt8) : compareBytes (a :: as) (b :: bs) = if a.toNat < b.toNat then -1 else if b.toNat < a.toNat then 1 else compareBytes as bs := by
  rw [compareBytes]
  simp only [u8_lt]
theorem cmp_trans : ∀ {a b c : List UInt8}, compareBytes a b < 0 → compareBytes b c < 0 → compareBytes a c < 0
  | [], [], _, h, _ => by simp [compareBytes] at h
  | [], _ :: _, [], _, h => by simp [compareBytes] at h
  | [], _ :: _, _ :: _, _, _ => by simp [compareBytes]
  | _ :: _, [], _, h, _ => by simp [compareBytes] at h
  | _ :: _, _ :: _, [], _, h => by simp [compareBytes] at h
  | a :: as, b :: bs, c :: cs, h1, h2 => by
    rw [cmp_cons] at h1 h2 ⊢
    by_cases p1 : a.toNat < b.toNat
    · by_cases p2 : b.toNat < c.toNat
      · rw [if_pos (by omega)]; decide
      · rw [if_neg p2] at h2
        by_cases p3 : c.toNat < b.toNat
        · rw [if_pos p3] at h2; simp at h2
        · rw [if_pos (by omega)]; decide
    · rw [if_neg p1] at h1
      by_cases p4 : b.toNat < a.toNat
      · rw [if_pos p4] at h1; simp at h1
      · rw [if_neg p4] at h1
        by_cases p2 : b.toNat < c.toNat
        · rw [if_pos (by omega)]; decide
        · rw [if_neg p2] at h2
          by_cases p3 : c.toNat < b.toNat
          · rw [if_pos p3] at h2; simp at h2
          · rw [if_neg p3] at h2
            rw [if_neg (by omega), if_neg (by omega)]
            exact cmp_trans h1 h2
theorem cmp_not {a b : List UInt8} (h : ¬ compareBytes a b < 0) (hn : a ≠ b) : compareBytes b a < 0 := by
  rw [cmp_anti a b]
  have : compareBytes a b ≠ 0 := fun h => hn (cmp_zero h)
  omega

variable {V : Type}
/-- A map from texts, as a list. -/
abbrev ML (V : Type) := List (List UInt8 × V)
def Rising (l : ML V) : Prop := l.Pairwise fun x y => compareBytes x.1 y.1 < 0
def getM (l : ML V) (k : List UInt8) : Option V := (l.find? fun x => x.1 == k).map (·.2)
def hasM (l : ML V) (k : List UInt8) : Bool := (getM l k).isSome

theorem Rising.tail {x : List UInt8 × V} {l : ML V} (h : Rising (x :: l)) : Rising l := (List.pairwise_cons.1 h).2
theorem Rising.head {x : List UInt8 × V} {l : ML V} (h : Rising (x :: l)) : ∀ y ∈ l, compareBytes x.1 y.1 < 0 := (List.pairwise_cons.1 h).1
end Go.Proofs.YtogjokofmfpmgaaGreatDoor
