/-
  Items, entries of a map: plain.
-/
import Derived.Test.YtpejlcaoggedfaaGreatDoorBytesOrd
import Derived.Test.YtpejlcaoggedfaaGreatDoorBase
set_option linter.unusedVariables false
set_option linter.unusedSimpArgs false
namespace Go.Proofs.YtpejlcaoggedfaaGreatDoor
open Go.RowKit

/-- An item: UID, version, whether it is gone, its card. -/
structure It where
  uid : List UInt8
  ver : Int
  gone : Bool
  card : List UInt8
  deriving DecidableEq
def itEnc (x : It) : List Value := [.string (bs x.uid), .int .i64 x.ver, .bool x.gone, .string (bs x.card)]
/-- A card of a collection: version, text. -/
structure Ce where
  ver : Int
  text : List UInt8
  deriving DecidableEq
def ceEnc (x : Ce) : List Value := [.int .i64 x.ver, .string (bs x.text)]

theorem flat_at {R : Type} (enc : R → List Value) (k : Nat) (hk : ∀ r, (enc r).length = k) : ∀ (l : List R) (i : Nat) (h : i < l.length) (j : Nat), j < k → (l.flatMap enc)[i * k + j]? = (enc l[i])[j]?
  | [], i, h, _, _ => by simp at h
  | a :: l, 0, _, j, hj => by
    rw [List.flatMap_cons, Nat.zero_mul, Nat.zero_add, List.getElem?_append_left (by rw [hk]; exact hj)]
    rfl
  | a :: l, i + 1, h, j, hj => by
    have e : (i + 1) * k + j = k + (i * k + j) := by rw [Nat.add_mul, Nat.one_mul]; omega
    rw [List.flatMap_cons, e, List.getElem?_append_right (by rw [hk]; omega), hk, show k + (i * k + j) - k = i * k + j by omega, flat_at enc k hk l i (by simpa using h) j hj]
    rfl
theorem flat_length {R : Type} (enc : R → List Value) (k : Nat) (hk : ∀ r, (enc r).length = k) (l : List R) : (l.flatMap enc).length = l.length * k := by
  induction l with
  | nil => simp
  | cons a l ih => rw [List.flatMap_cons, List.length_append, hk, ih, List.length_cons, Nat.add_mul]; omega
theorem flat_take {R : Type} (enc : R → List Value) (k : Nat) (hk : ∀ r, (enc r).length = k) : ∀ (l : List R) (i : Nat), (l.flatMap enc).take (i * k) = (l.take i).flatMap enc
  | [], i => by simp
  | a :: l, 0 => by simp
  | a :: l, i + 1 => by
    rw [List.flatMap_cons, Nat.add_mul, Nat.one_mul, Nat.add_comm, List.take_succ_cons, List.flatMap_cons, ← flat_take enc k hk l i]
    rw [List.take_append, hk, List.take_of_length_le (by rw [hk]; omega)]
    congr 2
    omega
theorem flat_drop {R : Type} (enc : R → List Value) (k : Nat) (hk : ∀ r, (enc r).length = k) : ∀ (l : List R) (i : Nat), (l.flatMap enc).drop (i * k) = (l.drop i).flatMap enc
  | [], i => by simp
  | a :: l, 0 => by simp
  | a :: l, i + 1 => by
    rw [List.flatMap_cons, Nat.add_mul, Nat.one_mul, Nat.add_comm, List.drop_succ_cons, ← flat_drop enc k hk l i]
    rw [List.drop_append, hk, List.drop_of_length_le (by rw [hk]; omega), List.nil_append]
    congr 1
    omega
theorem flat_set {R : Type} (enc : R → List Value) (l : List R) (i : Nat) (h : i < l.length) (x : R) : (l.set i x).flatMap enc = (l.take i).flatMap enc ++ enc x ++ (l.drop (i + 1)).flatMap enc := by
  rw [List.set_eq_take_append_cons_drop, if_pos h, List.flatMap_append, List.flatMap_cons, List.append_assoc]

end Go.Proofs.YtpejlcaoggedfaaGreatDoor
