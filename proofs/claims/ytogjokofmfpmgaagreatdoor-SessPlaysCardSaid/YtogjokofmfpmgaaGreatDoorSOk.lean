/-
  Sessions along acts: sizes, plain.
-/
import Derived.Test.YtogjokofmfpmgaaGreatDoorGAO
import Derived.Test.YtogjokofmfpmgaaGreatDoorSesJ
set_option linter.unusedVariables false
set_option linter.unusedSimpArgs false
namespace Go.Proofs.YtogjokofmfpmgaaGreatDoor
open Go.RowKit

structure SOk (k : Nat) (room : Int) (s : Ss) : Prop where
  room : s.room = max room 0
  buf : s.buf.length ≤ 2000 * k
  seq : 0 ≤ s.seq ∧ s.seq ≤ k
theorem sok_new (room : Int) : SOk 0 room (newS room) := ⟨rfl, by simp [newS], by simp [newS]⟩
theorem sok_feed {k : Nat} {room : Int} {s : Ss} (h : SOk k room s) {x : List UInt8} (hx : x.length ≤ 2000) : SOk (k + 1) room (feedS s x) := by
  have := h.seq
  have := h.buf
  unfold feedS
  split
  · exact ⟨h.room, by show (s.buf ++ x).length ≤ _; rw [List.length_append]; omega, ⟨h.seq.1, by show s.seq ≤ _; omega⟩⟩
  · exact ⟨h.room, by omega, ⟨h.seq.1, by omega⟩⟩
theorem sok_half {k : Nat} {room : Int} {s : Ss} (h : SOk k room s) : SOk (k + 1) room (halfS s) :=
  ⟨h.room, by have := h.buf; show s.buf.length ≤ _; omega, ⟨h.seq.1, by have := h.seq.2; show s.seq ≤ _; omega⟩⟩
theorem next_sizes (s : Ss) : (nextS s).2.room = s.room ∧ (nextS s).2.buf.length ≤ s.buf.length ∧ s.seq ≤ (nextS s).2.seq ∧ (nextS s).2.seq ≤ s.seq + 1 := by
  rcases look_or s with h | h | ⟨h, _⟩ | ⟨h, _⟩
  · rw [next_0 h]; exact ⟨rfl, Nat.le_refl _, Int.le_refl _, by show s.seq ≤ _; omega⟩
  · rw [next_4 h]; exact ⟨rfl, Nat.le_refl _, Int.le_refl _, by show s.seq ≤ _; omega⟩
  · rw [next_3 h]; exact ⟨rfl, Nat.le_refl _, by show s.seq ≤ s.seq + 1; omega, Int.le_refl _⟩
  · have hl : (s.buf.drop (frN s.buf)).length ≤ s.buf.length := by rw [List.length_drop]; omega
    by_cases he : errS s = 0
    · rw [next_1 h he]
      simp only
      split <;> exact ⟨rfl, hl, by show s.seq ≤ s.seq + 1; omega, Int.le_refl _⟩
    · rw [next_2 h he]; exact ⟨rfl, hl, by show s.seq ≤ s.seq + 1; omega, Int.le_refl _⟩
theorem sok_next {k : Nat} {room : Int} {s : Ss} (h : SOk k room s) : SOk (k + 1) room (nextS s).2 := by
  obtain ⟨h1, h2, h3, h4⟩ := next_sizes s
  have := h.seq
  have := h.buf
  exact ⟨h1.trans h.room, by omega, by omega, by omega⟩
theorem SOk.room_ {k : Nat} {room : Int} {s : Ss} (h : SOk k room s) (hr : room ≤ 9223372036854775807) : 0 ≤ s.room ∧ s.room ≤ 9223372036854775807 := by
  rw [h.room]; omega
end Go.Proofs.YtogjokofmfpmgaaGreatDoor
