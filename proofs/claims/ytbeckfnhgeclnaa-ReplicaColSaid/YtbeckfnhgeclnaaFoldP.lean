/-
  In which order the items stand; an answer that comes in two: plain.
-/
import Derived.Test.YtbeckfnhgeclnaaRepP
set_option linter.unusedVariables false
set_option linter.unusedSimpArgs false
namespace Go.Proofs.Ytbeckfnhgeclnaa

theorem pairwise_of_take {R : It → It → Prop} (hs : ∀ x y, R x y → R y x) : ∀ (l : List It), (∀ k (h : k < l.length), ∀ y ∈ l.take k, R y l[k]) → l.Pairwise R := by
  intro l h
  rw [List.pairwise_iff_getElem]
  intro i j hi hj hij
  exact h j hj l[i] (by
    have : i < (l.take j).length := by rw [List.length_take]; omega
    have h2 := List.getElem_mem this
    rwa [List.getElem_take] at h2)

/-- Which items are taken: by what they are, and that no UID stands twice. -/
theorem okIts_iff (asked : Int) (l : List It) : okIts asked l ↔ (∀ x ∈ l, 1 ≤ x.ver ∧ (asked = 0 ∨ asked < x.ver)) ∧ l.Pairwise (fun x y => x.uid ≠ y.uid) := by
  constructor
  · intro h
    refine ⟨fun x hx => ?_, pairwise_of_take (fun x y h e => h e.symm) l fun k hk y hy => ?_⟩
    · obtain ⟨k, hk, rfl⟩ := List.getElem_of_mem hx
      have := h k hk
      simp only [badIt, Bool.or_eq_false_iff, decide_eq_false_iff_not, Bool.and_eq_false_iff, bne_eq_false_iff_eq] at this
      obtain ⟨⟨h1, h2⟩, _⟩ := this
      refine ⟨by omega, ?_⟩
      rcases h2 with h2 | h2
      · exact .inl h2
      · exact .inr (by omega)
    · have := h k hk
      simp only [badIt, Bool.or_eq_false_iff, List.any_eq_false] at this
      have h2 := this.2 y hy
      simpa using h2
  · rintro ⟨h1, h2⟩ k hk
    have hx := h1 _ (List.getElem_mem hk)
    simp only [badIt, Bool.or_eq_false_iff, decide_eq_false_iff_not, Bool.and_eq_false_iff, bne_eq_false_iff_eq, List.any_eq_false]
    refine ⟨⟨by omega, ?_⟩, fun y hy => ?_⟩
    · rcases hx.2 with h | h
      · exact .inl h
      · exact .inr (by omega)
    · obtain ⟨i, hi, rfl⟩ := List.getElem_of_mem hy
      have hik : i < k := by rw [List.length_take] at hi; omega
      rw [List.getElem_take]
      have := List.pairwise_iff_getElem.1 h2 i k (by omega) hk hik
      simpa using this
theorem okIts_perm {asked : Int} {l l' : List It} (hp : l.Perm l') (h : okIts asked l) : okIts asked l' := by
  rw [okIts_iff] at h ⊢
  exact ⟨fun x hx => h.1 x (hp.mem_iff.2 hx), (hp.pairwise_iff (fun h e => h e.symm)).1 h.2⟩

def Uniq (l : List It) : Prop := l.Pairwise fun x y => x.uid ≠ y.uid
def itNew (x : It) : It := ⟨x.uid, x.ver, false, x.card⟩
/-- What an item leaves at its key. -/
def itLeft (x : It) : Option It := if x.gone = true then none else some (itNew x)
theorem stepIt_get {ml : ML It} (h : Rising ml) (x : It) (k : List UInt8) : getM (stepIt ml x) k = if k = x.uid then itLeft x else getM ml k := by
  unfold stepIt itLeft
  by_cases hg : x.gone = true
  · rw [if_pos hg, if_pos hg, (delM_spec x.uid h).2.1]
  · rw [if_neg hg, if_neg hg, (putM_spec x.uid _ h).2.1]
    rfl
theorem foldIts_get {ml : ML It} (h : Rising ml) {l : List It} (hu : Uniq l) : ∀ k, (∀ x ∈ l, x.uid = k → getM (foldIts ml l) k = itLeft x) ∧ ((∀ x ∈ l, x.uid ≠ k) → getM (foldIts ml l) k = getM ml k) := by
  induction l generalizing ml with
  | nil => intro k; exact ⟨fun x hx => (by cases hx), fun _ => rfl⟩
  | cons x l ih =>
    intro k
    obtain ⟨h1, h2⟩ := List.pairwise_cons.1 hu
    obtain ⟨i1, i2⟩ := ih (stepIt_rise h x) h2 k
    have e : foldIts ml (x :: l) = foldIts (stepIt ml x) l := rfl
    rw [e]
    refine ⟨fun y hy hk => ?_, fun hn => ?_⟩
    · rcases List.mem_cons.1 hy with rfl | hy
      · rw [i2 (fun z hz hzk => h1 z hz (hk.trans hzk.symm)), stepIt_get h, if_pos hk.symm]
      · exact i1 y hy hk
    · rw [i2 (fun z hz => hn z (List.mem_cons_of_mem _ hz)), stepIt_get h, if_neg (fun e => hn x (List.mem_cons_self ..) e.symm)]
theorem foldIts_perm {ml : ML It} (h : Rising ml) {l l' : List It} (hu : Uniq l) (hp : l.Perm l') : foldIts ml l = foldIts ml l' := by
  have hu' : Uniq l' := (hp.pairwise_iff (fun h e => h e.symm)).1 hu
  refine rising_ext (foldIts_rise h l) (foldIts_rise h l') fun k => ?_
  obtain ⟨a1, a2⟩ := foldIts_get h hu k
  obtain ⟨b1, b2⟩ := foldIts_get h hu' k
  by_cases hk : ∃ x ∈ l, x.uid = k
  · obtain ⟨x, hx, hxk⟩ := hk
    rw [a1 x hx hxk, b1 x (hp.mem_iff.1 hx) hxk]
  · have hn : ∀ x ∈ l, x.uid ≠ k := fun x hx e => hk ⟨x, hx, e⟩
    rw [a2 hn, b2 (fun x hx => hn x (hp.mem_iff.2 hx))]

theorem foldSem_rise {s : St} (h : Rising s.ml) (asked : Int) (r : Rs) (l : List It) : Rising (foldSem s asked r l).2.ml := by
  by_cases h1 : r.kind ≠ 8 ∨ asked ≠ s.token
  · rw [fold_kind h1]; exact h
  · have h2 : r.kind = 8 := Decidable.byContradiction fun hn => h1 (.inl hn)
    have h3 : asked = s.token := Decidable.byContradiction fun hn => h1 (.inr hn)
    by_cases h4 : r.err = 8
    · rw [fold_tok h2 h3 h4]; exact List.Pairwise.nil
    · by_cases h5 : r.err = 0
      · by_cases h6 : r.token < asked
        · rw [fold_low h2 h3 h5 h6]; exact h
        · by_cases h7 : okIts asked l
          · rw [fold_ok h2 h3 h5 h6 h7]
            simp only
            split
            · exact foldIts_rise List.Pairwise.nil l
            · exact foldIts_rise h l
          · rw [fold_bad h2 h3 h5 h6 h7]; exact h
      · rw [fold_err h2 h3 h4 h5]; exact h
/-- In which order the items stand makes no difference. -/
theorem foldSem_perm {s : St} (h : Rising s.ml) (asked : Int) (r : Rs) {l l' : List It} (hp : l.Perm l') : foldSem s asked r l = foldSem s asked r l' := by
  by_cases h1 : r.kind ≠ 8 ∨ asked ≠ s.token
  · rw [fold_kind h1, fold_kind h1]
  · have h2 : r.kind = 8 := Decidable.byContradiction fun hn => h1 (.inl hn)
    have h3 : asked = s.token := Decidable.byContradiction fun hn => h1 (.inr hn)
    by_cases h4 : r.err = 8
    · rw [fold_tok h2 h3 h4, fold_tok h2 h3 h4]
    · by_cases h5 : r.err = 0
      · by_cases h6 : r.token < asked
        · rw [fold_low h2 h3 h5 h6, fold_low h2 h3 h5 h6]
        · by_cases h7 : okIts asked l
          · rw [fold_ok h2 h3 h5 h6 h7, fold_ok h2 h3 h5 h6 (okIts_perm hp h7)]
            have hu : Uniq l := ((okIts_iff asked l).1 h7).2
            have hr : Rising (if asked = 0 then ([] : ML It) else s.ml) := by
              split
              · exact List.Pairwise.nil
              · exact h
            rw [foldIts_perm hr hu hp]
          · rw [fold_bad h2 h3 h5 h6 h7, fold_bad h2 h3 h5 h6 (fun h => h7 (okIts_perm hp.symm h))]
      · rw [fold_err h2 h3 h4 h5, fold_err h2 h3 h4 h5]

/-- The first part of what is taken is taken. -/
theorem okIts_take {asked : Int} {l : List It} (h : okIts asked l) (n : Nat) : okIts asked (l.take n) := by
  rw [okIts_iff] at h ⊢
  exact ⟨fun x hx => h.1 x (List.mem_of_mem_take hx), h.2.sublist (List.take_sublist n l)⟩
/-- The second part, asked with a token that is below all that it brings. -/
theorem okIts_drop {l : List It} (h : okIts 0 l) (n : Nat) {m : Int} (hm : ∀ x ∈ l.drop n, m < x.ver) : okIts m (l.drop n) := by
  rw [okIts_iff] at h ⊢
  exact ⟨fun x hx => ⟨(h.1 x (List.mem_of_mem_drop hx)).1, .inr (hm x hx)⟩, h.2.sublist (List.drop_sublist n l)⟩
theorem foldIts_split (ml : ML It) (l : List It) (n : Nat) : foldIts (foldIts ml (l.take n)) (l.drop n) = foldIts ml l := by
  unfold foldIts
  rw [← List.foldl_append, List.take_append_drop]
theorem fold_taken {s : St} {asked : Int} {r : Rs} {l : List It} (h : (foldSem s asked r l).1 = 0) (he : r.err = 0) : r.kind = 8 ∧ asked = s.token ∧ ¬ r.token < asked ∧ okIts asked l := by
  by_cases h1 : r.kind ≠ 8 ∨ asked ≠ s.token
  · rw [fold_kind h1] at h; exact absurd h (show ¬ (10 : Int) = 0 by decide)
  · have h2 : r.kind = 8 := Decidable.byContradiction fun hn => h1 (.inl hn)
    have h3 : asked = s.token := Decidable.byContradiction fun hn => h1 (.inr hn)
    by_cases h6 : r.token < asked
    · rw [fold_low h2 h3 he h6] at h; exact absurd h (show ¬ (1 : Int) = 0 by decide)
    · by_cases h7 : okIts asked l
      · exact ⟨h2, h3, h6, h7⟩
      · rw [fold_bad h2 h3 he h6 h7] at h; exact absurd h (show ¬ (1 : Int) = 0 by decide)

end Go.Proofs.Ytbeckfnhgeclnaa
