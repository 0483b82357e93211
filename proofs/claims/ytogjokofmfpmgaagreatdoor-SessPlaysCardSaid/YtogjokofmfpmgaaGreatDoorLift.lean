/-
  From a reading of an argument to what the walks ask: slices of numbers.
-/
import Derived.Test.YtogjokofmfpmgaaGreatDoorGAA
import Derived.Test.YtogjokofmfpmgaaGreatDoorRows
import Derived.ProofKit
import Derived.OpenShut
import Derived.ShutString
import Derived.ChangeOld
import Derived.Deep.Slices
import Derived.Deep.Fields
set_option linter.unusedVariables false
set_option linter.unusedSimpArgs false
namespace Go.Proofs.YtogjokofmfpmgaaGreatDoor
open Go.ChangeShapes Go.WideShapes Go.ChangeAt Go.RowKit

theorem own : ownKnob Tryz.prog.godebug = none := by kernel_rfl
theorem choose_list {R : Type} (P : Nat → R → Prop) : ∀ n, (∀ i, i < n → ∃ r, P i r) → ∃ l : List R, l.length = n ∧ ∀ (i : Nat) (h : i < l.length), P i l[i]
  | 0, _ => ⟨[], rfl, fun i h => by simp at h⟩
  | n + 1, h => by
    obtain ⟨l, hl, hp⟩ := choose_list P n (fun i hi => h i (by omega))
    obtain ⟨r, hr⟩ := h n (by omega)
    refine ⟨l ++ [r], by simp [hl], fun i hi => ?_⟩
    by_cases hin : i < l.length
    · rw [List.getElem_append_left hin]; exact hp i hin
    · have : i = n := by simp at hi; omega
      subst this
      rw [List.getElem_append_right (by omega)]
      simp [hl]
      exact hr

theorem flat_get {R : Type} (enc : R → List Value) (k : Nat) (hk : ∀ r, (enc r).length = k) : ∀ (l : List R) (i : Nat) (h : i < l.length) (j : Nat), j < k → (l.flatMap enc)[i * k + j]? = (enc l[i])[j]?
  | a :: l, 0, _, j, hj => by
    rw [List.flatMap_cons, Nat.zero_mul, Nat.zero_add, List.getElem?_append_left (by rw [hk]; exact hj)]; rfl
  | a :: l, i + 1, h, j, hj => by
    rw [List.flatMap_cons, List.getElem?_append_right (by rw [hk, Nat.add_mul]; omega), hk, show (i + 1) * k + j - k = i * k + j by rw [Nat.add_mul]; omega]
    simpa using flat_get enc k hk l i (by simpa using h) j hj
theorem flat_len {R : Type} (enc : R → List Value) (k : Nat) (hk : ∀ r, (enc r).length = k) (l : List R) : (l.flatMap enc).length = l.length * k := by
  induction l with
  | nil => simp
  | cons a l ih => rw [List.flatMap_cons, List.length_append, ih, hk, List.length_cons, Nat.add_mul]; omega

/-- A slice of elements of k cells that came in, each read by 'hdec': a list of what was read. -/
theorem rds_of_slice {R : Type} {H : Type} {enc0 : TypeId × Value → H} {W : World} {base : Nat} {spare : Nat → Bool} {held : Bool} {t e : TypeId} {A : Option Addr} {n c : Nat} {d : DataW H} {p : List MemPlace}
    (enc : R → List Value) (k : Nat) (hk : ∀ r, (enc r).length = k) (h0 : 0 < k) (Q : R → Prop) (ht : Tryz.prog.underlying t = some (.slice e)) (hc : Tryz.prog.cellsOf e = k)
    (hdec : ∀ fuel cs x, DataW.trod enc0 Tryz.prog W base spare held fuel e cs = some x → cs.length = k → ∃ r, cs = enc r ∧ Q r)
    (h : DataW.Trod enc0 Tryz.prog W base spare held t (.slice A n c) d p) :
    ∃ l : List R, Rds W A n k (l.flatMap enc) ∧ n = l.length ∧ n ≤ maxLen ∧ ∀ r ∈ l, Q r := by
  obtain ⟨fuel, hf⟩ := h
  rcases Go.Deep.open_slice ht hf with ⟨hcs, _⟩ | ⟨a, len, cap, m, n', D, Pl, hcs, hb, hl, hm, hmm, hx, hi⟩
  · simp [Value.cells] at hcs
    obtain ⟨rfl, rfl, rfl⟩ := hcs
    exact ⟨[], ⟨by simp, fun h => by omega⟩, rfl, by simp, by simp⟩
  · simp [Value.cells] at hcs
    obtain ⟨rfl, rfl, rfl⟩ := hcs
    have hnm : n ≤ m := by rw [hmm]; split <;> omega
    rw [hc] at hi
    have hr : ∀ i, i < n → ∃ r : R, (∀ j, j < k → W.cell? (a.add (i * k + j)) = (enc r)[j]?) ∧ Q r := by
      intro i hin
      obtain ⟨cs', h1, h2⟩ := hi i (by omega)
      obtain ⟨_, h3, h4⟩ := World.cells?_some h1
      obtain ⟨r, rfl, hq⟩ := hdec _ _ _ h2 h3
      exact ⟨r, fun j hj => by rw [← h4 j hj, ← Go.Deep.add_add], hq⟩
    obtain ⟨l, hll, hlp⟩ := choose_list _ n hr
    refine ⟨l, ⟨by rw [flat_len enc k hk, hll], fun hn => ?_⟩, hll.symm, by omega, fun r hrm => ?_⟩
    · have hc0 : ∀ j u, (l.flatMap enc)[j]? = some u → W.cell? (a.add j) = some u := by
        intro j u hu
        have hj : j < l.length * k := by
          have := (List.getElem?_eq_some_iff.1 hu).1
          rwa [flat_len enc k hk] at this
        have hjk : j / k < l.length := Nat.div_lt_of_lt_mul (by rwa [Nat.mul_comm] at hj)
        have hmod := Nat.mod_lt j h0
        have hd := Nat.div_add_mod' j k
        have e1 := flat_get enc k hk l (j / k) hjk (j % k) hmod
        rw [hd, hu] at e1
        have e2 := (hlp (j / k) hjk).1 (j % k) hmod
        rw [hd, ← e1] at e2
        exact e2
      have hlen : 0 < (l.flatMap enc).length := by rw [flat_len enc k hk]; exact Nat.mul_pos (by omega) h0
      have hz := hc0 0 _ (List.getElem?_eq_getElem hlen)
      obtain ⟨g, o, sp⟩ := a
      have hsp : sp = none := by simpa [Addr.add] using World.cell?_spot hz
      subst hsp
      refine ⟨g, o, rfl, by simpa [Addr.add] using World.block_lt_of_cell? W _ hz, fun j u hu => ?_⟩
      have := hc0 j u hu
      rwa [Addr.add_lit] at this
    · obtain ⟨i, hil, rfl⟩ := List.getElem_of_mem hrm
      exact (hlp i hil).2

end Go.Proofs.YtogjokofmfpmgaaGreatDoor
