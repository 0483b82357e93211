/-
  The reference's put, fold and get: plain.
-/
import Derived.Test.YtbeckfnhgeclnaaRepP
import Derived.Lib.Strings
set_option linter.unusedVariables false
set_option linter.unusedSimpArgs false
namespace Go.Proofs.Ytbeckfnhgeclnaa
open Go.RowKit Go.Lib

theorem less_cmp : ∀ a b : List UInt8, Op.bytesLess a b = decide (compareBytes a b < 0)
  | [], [] => by simp [Op.bytesLess, compareBytes]
  | [], _ :: _ => by simp [Op.bytesLess, compareBytes]
  | _ :: _, [] => by simp [Op.bytesLess, compareBytes]
  | a :: as, b :: bs => by
    rw [Op.bytesLess, cmp_cons, less_cmp as bs]
    by_cases h1 : a.toNat < b.toNat
    · have h : a < b := (u8_lt a b).2 h1
      simp [h1, h]
    · have h : ¬ a < b := fun h => h1 ((u8_lt a b).1 h)
      by_cases h2 : b.toNat < a.toNat
      · have hne : ¬ a = b := fun e => by rw [e] at h2; omega
        simp [h1, h2, h, hne]
      · have he : a = b := UInt8.toNat_inj.1 (by omega)
        subst he
        simp [h1]
/-- Is a text not below another one? -/
def geqT (a b : List UInt8) : Bool := !decide (compareBytes a b < 0)
theorem geq_str (a b : List UInt8) : (!(Op.bytesLess (bs a).toList (bs b).toList)) = geqT a b := by
  rw [less_cmp, toList_data, toList_data]
  rfl

/-- put, by lists. -/
def rput (x : It) : List It → List It
  | [] => if x.gone = true then [] else [x]
  | y :: l => if geqT y.uid x.uid = true then (if x.gone = true then [] else [x]) ++ (if y.uid = x.uid then l else y :: l) else y :: rput x l
/-- Where put's loop stands behind k items. -/
def PutAt (x : It) (l : List It) (k : Nat) (done : Bool) (out : List It) : Prop := rput x l = out ++ (if done = true then l.drop k else rput x (l.drop k)) ∧ out.length ≤ k + 1 ∧ (done = false → out.length ≤ k)
theorem putAt_zero (x : It) (l : List It) : PutAt x l 0 false [] := ⟨by simp, by simp, by simp⟩
theorem putAt_low {x y : It} {l : List It} {k : Nat} {out : List It} (h : PutAt x l k false out) (hk : k < l.length) (hy : l[k] = y) (hg : geqT y.uid x.uid = false) : PutAt x l (k + 1) false (out ++ [y]) := by
  obtain ⟨h1, h2, h3⟩ := h
  refine ⟨?_, by simp; omega, by have := h3 rfl; simp; omega⟩
  simp only [Bool.false_eq_true, if_false] at h1 ⊢
  rw [h1, List.drop_eq_getElem_cons hk, hy]
  simp [rput, hg]
theorem putAt_rest {x y : It} {l : List It} {k : Nat} {out : List It} (h : PutAt x l k true out) (hk : k < l.length) (hy : l[k] = y) : PutAt x l (k + 1) true (out ++ [y]) := by
  obtain ⟨h1, h2, h3⟩ := h
  refine ⟨?_, by simp; omega, by simp⟩
  simp only [if_true] at h1 ⊢
  rw [h1, List.drop_eq_getElem_cons hk, hy]
  simp
/-- The item that is put stands now: the one at its place is kept, if it is another one's. -/
theorem putAt_here {x y : It} {l : List It} {k : Nat} {out : List It} (h : PutAt x l k false out) (hk : k < l.length) (hy : l[k] = y) (hg : geqT y.uid x.uid = true) :
    PutAt x l (k + 1) true (out ++ (if x.gone = true then [] else [x]) ++ (if y.uid = x.uid then [] else [y])) := by
  obtain ⟨h1, h2, h3⟩ := h
  have h3 := h3 rfl
  refine ⟨?_, ?_, by simp⟩
  · simp only [if_true, Bool.false_eq_true, if_false] at h1 ⊢
    rw [h1, List.drop_eq_getElem_cons hk, hy]
    simp only [rput, hg, if_true]
    by_cases he : y.uid = x.uid <;> simp [he]
  · by_cases h4 : x.gone = true <;> by_cases h5 : y.uid = x.uid <;> simp [h4, h5] <;> omega
theorem putAt_end {x : It} {l : List It} {done : Bool} {out : List It} (h : PutAt x l l.length done out) : rput x l = (if done = true then out else out ++ (if x.gone = true then [] else [x])) := by
  obtain ⟨h1, h2⟩ := h
  rw [h1]
  cases done <;> simp [rput]
theorem rput_len (x : It) : ∀ l, (rput x l).length ≤ l.length + 1
  | [] => by unfold rput; split <;> simp
  | y :: l => by
    have := rput_len x l
    unfold rput
    by_cases h1 : geqT y.uid x.uid = true
    · rw [if_pos h1]
      by_cases h2 : x.gone = true <;> by_cases h3 : y.uid = x.uid <;> simp [h2, h3] <;> omega
    · rw [if_neg h1]
      simp; omega

/-- Each card lies at its own UID, and is there. -/
def KeyUid (ml : ML It) : Prop := ∀ e ∈ ml, e.2.uid = e.1
theorem KeyUid.tail {e : List UInt8 × It} {ml : ML It} (h : KeyUid (e :: ml)) : KeyUid ml := fun a ha => h a (List.mem_cons_of_mem _ ha)
theorem stepIt_key {ml : ML It} (hr : Rising ml) (h : KeyUid ml) (x : It) : KeyUid (stepIt ml x) := by
  intro e he
  unfold stepIt at he
  split at he
  · exact h e ((delM_spec x.uid hr).2.2 e he)
  · rcases (putM_spec x.uid _ hr).2.2 e he with rfl | he
    · rfl
    · exact h e he
theorem stepIt_rput : ∀ {ml : ML It}, Rising ml → KeyUid ml → ∀ x : It, (stepIt ml x).map (·.2) = rput x (ml.map (·.2))
  | [], _, _, x => by
    obtain ⟨u, v, g, c⟩ := x
    cases g <;> simp [stepIt, rput, delM, putM, hasM, getM, place]
  | e :: ml, hr, hk, x => by
    have hu : e.2.uid = e.1 := hk e (List.mem_cons_self ..)
    have ih := stepIt_rput hr.tail hk.tail x
    obtain ⟨u, v, g, c⟩ := x
    simp only [List.map_cons, rput, geqT, hu]
    by_cases h : compareBytes e.1 u < 0
    · have e1 : stepIt (e :: ml) ⟨u, v, g, c⟩ = e :: stepIt ml ⟨u, v, g, c⟩ := by
        unfold stepIt
        simp only
        split
        · exact delM_cons_lt h
        · exact putM_cons_lt h
      rw [e1, List.map_cons, ih]
      simp [h]
    · by_cases he : e.1 = u
      · cases g with
        | true =>
          have e1 : stepIt (e :: ml) ⟨u, v, true, c⟩ = ml := by simp [stepIt, delM, hasM_cons_eq he, place_cons_ge hr h]
          rw [e1]
          simp [he, cmp_self]
        | false =>
          have e1 : stepIt (e :: ml) ⟨u, v, false, c⟩ = (u, ⟨u, v, false, c⟩) :: ml := by simp [stepIt, putM, hasM_cons_eq he, place_cons_ge hr h]
          rw [e1]
          simp [he, cmp_self]
      · cases g with
        | true =>
          have e1 : stepIt (e :: ml) ⟨u, v, true, c⟩ = e :: ml := by simp [stepIt, delM, hasM_cons_gt hr h he]
          rw [e1]
          simp [h, he]
        | false =>
          have e1 : stepIt (e :: ml) ⟨u, v, false, c⟩ = (u, ⟨u, v, false, c⟩) :: e :: ml := by simp [stepIt, putM, hasM_cons_gt hr h he, place_cons_ge hr h]
          rw [e1]
          simp [h, he]
theorem foldIts_key {ml : ML It} (hr : Rising ml) (h : KeyUid ml) : ∀ l, KeyUid (foldIts ml l) := by
  intro l
  induction l generalizing ml with
  | nil => exact h
  | cons x l ih => exact ih (stepIt_rise hr x) (stepIt_key hr h x)
theorem foldSem_key {s : St} (hr : Rising s.ml) (h : KeyUid s.ml) (asked : Int) (r : Rs) (l : List It) : KeyUid (foldSem s asked r l).2.ml := by
  by_cases h1 : r.kind ≠ 8 ∨ asked ≠ s.token
  · rw [fold_kind h1]; exact h
  · have h2 : r.kind = 8 := Decidable.byContradiction fun hn => h1 (.inl hn)
    have h3 : asked = s.token := Decidable.byContradiction fun hn => h1 (.inr hn)
    by_cases h4 : r.err = 8
    · rw [fold_tok h2 h3 h4]; exact fun _ he => by cases he
    · by_cases h5 : r.err = 0
      · by_cases h6 : r.token < asked
        · rw [fold_low h2 h3 h5 h6]; exact h
        · by_cases h7 : okIts asked l
          · rw [fold_ok h2 h3 h5 h6 h7]
            refine foldIts_key ?_ ?_ l
            · split
              · exact List.Pairwise.nil
              · exact hr
            · split
              · exact fun _ he => by cases he
              · exact h
          · rw [fold_bad h2 h3 h5 h6 h7]; exact h
      · rw [fold_err h2 h3 h4 h5]; exact h
/-- The first of a list with a UID. -/
def findIt (l : List It) (k : List UInt8) : Option It := l.find? fun x => x.uid == k
theorem find_get : ∀ {ml : ML It}, KeyUid ml → ∀ k, findIt (ml.map (·.2)) k = getM ml k
  | [], _, _ => rfl
  | e :: ml, hk, k => by
    have hu : e.2.uid = e.1 := hk e (List.mem_cons_self ..)
    have ih := find_get hk.tail k
    unfold findIt at ih ⊢
    rw [List.map_cons, List.find?_cons]
    by_cases h : e.1 = k
    · rw [getM_cons_eq h]; simp [hu, h]
    · rw [getM_cons_ne h, ← ih]
      have : (e.2.uid == k) = false := by rw [hu]; simpa using h
      rw [this]

end Go.Proofs.Ytbeckfnhgeclnaa
