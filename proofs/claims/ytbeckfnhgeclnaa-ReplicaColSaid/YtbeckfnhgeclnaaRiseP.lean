/-
  Sorting by swaps, plainly.
-/
import Derived.Test.YtbeckfnhgeclnaaColS
set_option linter.unusedVariables false
set_option linter.unusedSimpArgs false
namespace Go.Proofs.Ytbeckfnhgeclnaa
open Go.RowKit Go.Lib

theorem itLt_asym {x y : It} (h : itLt x y = true) : itLt y x = false := by
  cases h2 : itLt y x with
  | false => rfl
  | true =>
    have := swo_it.trans x y x (by rw [ltOf_it]; exact h) (by rw [ltOf_it]; exact h2)
    have h3 := swo_it.irrefl x
    rw [h3] at this
    cases this
theorem itLt_ntrans {x y z : It} (h1 : itLt x y = false) (h2 : itLt y z = false) : itLt x z = false := by
  have := swo_it.ntrans x y z (by rw [ltOf_it]; exact h1) (by rw [ltOf_it]; exact h2)
  rwa [ltOf_it] at this
/-- Two neighbours changed. -/
def swp (L : List It) (j : Nat) (h : j + 1 < L.length) : List It := (L.set (j + 1) (L[j]'(by omega))).set j L[j + 1]
theorem swp_len (L : List It) (j : Nat) (h : j + 1 < L.length) : (swp L j h).length = L.length := by simp [swp]
theorem swp_perm : ∀ (L : List It) (j : Nat) (h : j + 1 < L.length), (swp L j h).Perm L
  | [], _, h => by simp at h
  | [_], _, h => by simp at h
  | a :: b :: t, 0, _ => by simpa [swp] using List.Perm.swap a b t
  | a :: b :: t, j + 1, h => by
    have := swp_perm (b :: t) j (by simpa using h)
    simp only [swp, List.set_cons_succ, List.getElem_cons_succ] at this ⊢
    exact this.cons a
theorem swp_at (L : List It) (j : Nat) (h : j + 1 < L.length) (i : Nat) (hi : i < L.length) : (swp L j h)[i]'(by rw [swp_len]; exact hi) = if i = j then L[j + 1] else if i = j + 1 then L[j]'(by omega) else L[i] := by
  unfold swp
  simp only [List.getElem_set]
  by_cases h1 : i = j
  · simp [h1]
  · by_cases h2 : i = j + 1
    · simp [h2]
    · rw [if_neg (by omega), if_neg (by omega), if_neg h1, if_neg h2]
/-- The first m rise. -/
def Srt (L : List It) (m : Nat) : Prop := ∀ a b (ha : a < b) (hb : b < L.length), b < m → itLt L[b] (L[a]'(by omega)) = false
/-- But for the k-th against those ahead of it. -/
def Inn (L : List It) (i k : Nat) : Prop := ∀ a b (ha : a < b) (hb : b < L.length), b ≤ i → b ≠ k → itLt L[b] (L[a]'(by omega)) = false
theorem srt_one (L : List It) (m : Nat) (h : m ≤ 1) : Srt L m := fun a b ha hb hm => by omega
theorem inn_start {L : List It} {i : Nat} (h : Srt L i) : Inn L i i := fun a b ha hb hi hk => h a b ha hb (by omega)
theorem inn_zero {L : List It} {i : Nat} (h : Inn L i 0) : Srt L (i + 1) := fun a b ha hb hi => h a b ha hb (by omega) (by omega)
theorem inn_end {L : List It} {i j : Nat} (hj : j + 1 < L.length) (h : Inn L i (j + 1)) (hji : j + 1 ≤ i) (hn : itLt L[j + 1] (L[j]'(by omega)) = false) : Srt L (i + 1) := fun a b ha hb hi => by
  by_cases hbk : b = j + 1
  · subst hbk
    by_cases haj : a = j
    · subst haj; exact hn
    · exact itLt_ntrans hn (h a j (by omega) (by omega) (by omega) (by omega))
  · exact h a b ha hb (by omega) hbk
theorem inn_step {L : List It} {i j : Nat} (hj : j + 1 < L.length) (h : Inn L i (j + 1)) (hji : j + 1 ≤ i) (hlt : itLt L[j + 1] (L[j]'(by omega)) = true) : Inn (swp L j hj) i j := fun a b ha hb hi hk => by
  rw [swp_len] at hb
  rw [swp_at L j hj b hb, swp_at L j hj a (by omega)]
  rw [if_neg hk]
  by_cases h1 : b = j + 1
  · subst h1
    rw [if_pos rfl]
    by_cases h2 : a = j
    · rw [if_pos h2]; exact itLt_asym hlt
    · rw [if_neg h2, if_neg (by omega)]
      exact h a j (by omega) (by omega) (by omega) (by omega)
  · rw [if_neg h1]
    by_cases h2 : a = j
    · rw [if_pos h2]; exact h (j + 1) b (by omega) hb hi h1
    · rw [if_neg h2]
      by_cases h3 : a = j + 1
      · rw [if_pos h3]; exact h j b (by omega) hb hi h1
      · rw [if_neg h3]; exact h a b ha hb hi h1
theorem srt_all {L : List It} {m : Nat} (h : Srt L m) (hm : L.length ≤ m) : L.Pairwise (fun x y => itLt y x = false) := by
  rw [List.pairwise_iff_getElem]
  intro a b ha hb hab
  exact h a b hab hb (by omega)

/-- The cells behind a write of one item. -/
theorem itsEnc_set : ∀ (L : List It) (i : Nat) (x : It), i < L.length → itsEnc (L.set i x) = ((((itsEnc L).set (i * 4) (.string (bs x.uid))).set (i * 4 + 1) (.int .i64 x.ver)).set (i * 4 + 2) (.bool x.gone)).set (i * 4 + 3) (.string (bs x.card))
  | [], _, _, h => by simp at h
  | a :: t, 0, x, _ => by simp [itsEnc, itEnc]
  | a :: t, i + 1, x, h => by
    have ih := itsEnc_set t i x (by simpa using h)
    have e : ∀ l : List It, itsEnc (a :: l) = itEnc a ++ itsEnc l := fun l => rfl
    have hs : ∀ (xs : List Value) (j : Nat) (v : Value), (itEnc a ++ xs).set ((i + 1) * 4 + j) v = itEnc a ++ xs.set (i * 4 + j) v := fun xs j v => by
      rw [List.set_append_right _ _ (by rw [itEnc_len]; omega), itEnc_len]
      congr 2
      omega
    have h0 := hs (itsEnc t) 0
    simp only [Nat.add_zero] at h0
    rw [List.set_cons_succ, e, e, ih, h0, hs, hs, hs]
theorem swp_enc (L : List It) (j : Nat) (h : j + 1 < L.length) (x y : It) (hx : L[j]'(by omega) = x) (hy : L[j + 1] = y) :
    itsEnc (swp L j h) = ((((((((itsEnc L).set ((j + 1) * 4) (.string (bs x.uid))).set ((j + 1) * 4 + 1) (.int .i64 x.ver)).set ((j + 1) * 4 + 2) (.bool x.gone)).set ((j + 1) * 4 + 3) (.string (bs x.card))).set (j * 4) (.string (bs y.uid))).set (j * 4 + 1) (.int .i64 y.ver)).set (j * 4 + 2) (.bool y.gone)).set (j * 4 + 3) (.string (bs y.card)) := by
  unfold swp
  rw [hx, hy, itsEnc_set _ j y (by simp; omega), itsEnc_set L (j + 1) x h]

/-- Sorted lists of distinct items are the same. -/
theorem sorted_same {l l1 l2 : List It} (h1 : SortedOf l l1) (h2 : SortedOf l l2) (hu : ∀ x ∈ l, ∀ y ∈ l, x.uid = y.uid → x = y) : l1 = l2 := by
  refine List.Perm.eq_of_pairwise (le := fun x y => itLt y x = false) ?_ h1.2 h2.2 (h1.1.trans h2.1.symm)
  intro x y hx hy hxy hyx
  refine hu x (h1.1.mem_iff.1 hx) y (h2.1.mem_iff.1 hy) ?_
  by_cases hv : x.ver = y.ver
  · refine Decidable.byContradiction fun hne => ?_
    have k1 : ¬ itLt x y = true := by simp [hyx]
    have k2 : ¬ itLt y x = true := by simp [hxy]
    rw [itLt_eq] at k1 k2
    have a1 : ¬ compareBytes x.uid y.uid < 0 := fun h => k1 (.inr ⟨hv, h⟩)
    exact k2 (.inr ⟨hv.symm, cmp_not a1 hne⟩)
  · have k1 : ¬ itLt x y = true := by simp [hyx]
    have k2 : ¬ itLt y x = true := by simp [hxy]
    rw [itLt_eq] at k1 k2
    have : ¬ x.ver < y.ver := fun h => k1 (.inl h)
    have : ¬ y.ver < x.ver := fun h => k2 (.inl h)
    omega

end Go.Proofs.Ytbeckfnhgeclnaa
