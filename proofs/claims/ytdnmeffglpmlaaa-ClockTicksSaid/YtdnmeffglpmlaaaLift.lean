/-
  From a reading of an argument to what the walks ask: slices of numbers.
-/
import Derived.Test.YtdnmeffglpmlaaaBase
import Derived.Test.YtdnmeffglpmlaaaRows
import Derived.ProofKit
import Derived.OpenShut
import Derived.ShutString
import Derived.ChangeOld
namespace Go.Proofs.Ytdnmeffglpmlaaa
open Go.ChangeShapes Go.WideShapes Go.ChangeAt Go.RowKit

theorem own : ownKnob Try.prog.godebug = none := by kernel_rfl
theorem laidOut : laidOutB Try.prog = true := by kernel_rfl

/-- What a slice of numbers that came in says of memory. -/
theorem rds_of_ints {H : Type} {enc : TypeId × Value → H} {W : World} {base : Nat} {spare : Nat → Bool} {held : Bool} {t : TypeId} {A : Option Addr} {n c : Nat} {d : DataW H} {p : List MemPlace}
    (ht : Try.prog.underlying t = some (.slice 3)) (h : DataW.Trod enc Try.prog W base spare held t (.slice A n c) d p) :
    ∃ l : List Int, Rds W A n 1 (l.map (Value.int .i64)) ∧ n = l.length ∧ n ≤ maxLen ∧ (∀ x ∈ l, (Lit.int .i64 x).wf = true) ∧ ∀ a, A = some a → (0 < n → a.block < W.heap.size) := by
  obtain ⟨fuel, hf⟩ := h
  rcases open_ints ht Try.underlying3 (by kernel_rfl) hf with ⟨hcs, _⟩ | ⟨x, len, cap, zs, hcs, _, hl, hm, hz, _, hcell, hwz⟩
  · simp [Value.cells] at hcs
    obtain ⟨rfl, rfl, rfl⟩ := hcs
    exact ⟨[], ⟨rfl, fun h => by omega⟩, rfl, by simp, by simp, fun _ h => by cases h⟩
  · simp [Value.cells] at hcs
    obtain ⟨rfl, rfl, rfl⟩ := hcs
    have hz' : n ≤ zs.length := by rw [hz]; split <;> omega
    clear hz
    have hlen : (zs.take n).length = n := by simp; omega
    have hb : 0 < n → ∃ g o, x = ⟨g, o, none⟩ ∧ g < W.heap.size := by
      intro hn
      have h0 := hcell 0 (by omega)
      obtain ⟨g, o, sp⟩ := x
      have hsp : sp = none := by simpa [Addr.add] using World.cell?_spot h0
      subst hsp
      have := World.block_lt_of_cell? W _ h0
      exact ⟨g, o, rfl, by simpa [Addr.add] using this⟩
    refine ⟨zs.take n, ⟨by simp; omega, fun hn => ?_⟩, hlen.symm, by omega, fun y hy => hwz y (List.mem_of_mem_take hy), fun a ha hn => ?_⟩
    · obtain ⟨g, o, rfl, hg⟩ := hb hn
      refine ⟨g, o, rfl, hg, fun j u hu => ?_⟩
      have hj : j < n := by
        have := (List.getElem?_eq_some_iff.1 hu).1
        simp at this; omega
      have := hcell j (by omega)
      rw [Addr.add_lit] at this
      rw [this]
      simp [hj] at hu
      obtain ⟨y, hy, rfl⟩ := hu
      simp [List.getD, hy]
    · obtain ⟨g, o, rfl, hg⟩ := hb hn
      cases ha
      exact hg

end Go.Proofs.Ytdnmeffglpmlaaa
