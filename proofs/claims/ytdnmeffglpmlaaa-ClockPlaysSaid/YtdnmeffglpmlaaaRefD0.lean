/-
  Insertion into a sorted row of pairs, by exchanges: plain.
-/
import Derived.Test.YtdnmeffglpmlaaaRefB
namespace Go.Proofs.Ytdnmeffglpmlaaa

/-- A store into a row of single cells. -/
theorem row_set1 {w : World} {S : Nat → Prop} {e n c g j : Nat} {xs : List Value} (h : Row w S e 1 (some ⟨g, 0, none⟩) n c xs) (u : Value) : Row (w.setCell ⟨g, j, none⟩ u) S e 1 (some ⟨g, 0, none⟩) n c (xs.set j u) := by
  obtain ⟨g', cur, e1, hS, hB, hnc, hcm, hcs, ht⟩ := h.block rfl
  injection e1 with e1
  subst e1
  refine Row.of_block (hB.set_ j u) hS hnc hcm (by simp [hcs]) ?_ (by simpa using h.len)
  rw [← ht]
  simp [List.take_set]
/-- The exchange of two neighbours, in the row of one of their halves. -/
theorem iEnc_swap (f : Int × Int → Int) (pre post : Al) (x y : Int × Int) : ((iEnc ((pre ++ [y] ++ x :: post).map f)).set pre.length (.int .i64 (f x))).set (pre.length + 1) (.int .i64 (f y)) = iEnc ((pre ++ x :: (y :: post)).map f) := by
  simp [iEnc, List.set_append]
theorem iEnc_at0 (f : Int × Int → Int) (pre post : Al) (x y : Int × Int) : (iEnc ((pre ++ [y] ++ x :: post).map f))[pre.length]? = some (.int .i64 (f y)) := by
  simp [iEnc]
theorem iEnc_at1 (f : Int × Int → Int) (pre post : Al) (x y : Int × Int) : (iEnc ((pre ++ [y] ++ x :: post).map f))[pre.length + 1]? = some (.int .i64 (f x)) := by
  simp [iEnc, List.getElem?_append]

def SortedAl (l : Al) : Prop := l.Pairwise fun x y => alLt y x = false

theorem alLt_iff (x y : Int × Int) : alLt x y = true ↔ x.2 < y.2 ∨ (x.2 = y.2 ∧ x.1 < y.1) := by
  simp [alLt]
theorem alLt_not (x y : Int × Int) : alLt x y = false ↔ ¬ (x.2 < y.2 ∨ (x.2 = y.2 ∧ x.1 < y.1)) := by
  rw [← alLt_iff]; simp
theorem alLt_anti (x y : Int × Int) (h1 : alLt x y = false) (h2 : alLt y x = false) : x = y := by
  rw [alLt_not] at h1 h2
  exact Prod.ext (by omega) (by omega)

/-- Two sorted rows of the same pairs are one. -/
theorem sorted_eq : ∀ (l l' : Al), l.Perm l' → SortedAl l → SortedAl l' → l = l'
  | [], l', h, _, _ => h.nil_eq
  | x :: l, l', h, h1, h2 => by
    cases l' with
    | nil => exact absurd h.symm.nil_eq (by simp)
    | cons y l' =>
      obtain ⟨a1, b1⟩ := List.pairwise_cons.1 h1
      obtain ⟨a2, b2⟩ := List.pairwise_cons.1 h2
      have e : x = y := by
        by_cases hxy : x = y
        · exact hxy
        · have m1 : x ∈ l' := by
            have : x ∈ y :: l' := h.subset (List.mem_cons_self ..)
            rcases List.mem_cons.1 this with h | h
            · exact absurd h hxy
            · exact h
          have m2 : y ∈ l := by
            have : y ∈ x :: l := h.symm.subset (List.mem_cons_self ..)
            rcases List.mem_cons.1 this with h | h
            · exact absurd h.symm hxy
            · exact h
          exact alLt_anti _ _ (a2 _ m1) (a1 _ m2)
      subst e
      rw [sorted_eq l l' (List.Perm.cons_inv h) b1 b2]

/-- Where the new one stands: all behind it are greater. -/
def Mid (p : Al) (x : Int × Int) (pre post : Al) : Prop := pre ++ post = p ∧ ∀ z ∈ post, alLt x z = true
theorem Mid.start (p : Al) (x : Int × Int) : Mid p x p [] := ⟨by simp, fun _ h => by cases h⟩
theorem Mid.step {p : Al} {x y : Int × Int} {pre post : Al} (h : Mid p x (pre ++ [y]) post) (hy : alLt x y = true) : Mid p x pre (y :: post) :=
  ⟨by rw [← h.1]; simp, fun z hz => by
    rcases List.mem_cons.1 hz with rfl | hz
    · exact hy
    · exact h.2 z hz⟩
theorem Mid.perm {p : Al} {x : Int × Int} {pre post : Al} (h : Mid p x pre post) : (pre ++ x :: post).Perm (p ++ [x]) := by
  rw [← h.1, List.append_assoc]
  exact List.Perm.append_left _ (List.perm_append_comm (l₁ := [x]))
theorem Mid.sorted {p : Al} {x : Int × Int} {pre post : Al} (h : Mid p x pre post) (hp : SortedAl p) (hl : ∀ y ∈ pre, alLt x y = false) : SortedAl (pre ++ x :: post) := by
  unfold SortedAl at hp ⊢
  rw [← h.1, List.pairwise_append] at hp
  obtain ⟨h1, h2, h3⟩ := hp
  rw [List.pairwise_append]
  refine ⟨h1, List.pairwise_cons.2 ⟨fun z hz => ?_, h2⟩, fun a ha b hb => ?_⟩
  · have := h.2 z hz
    rw [alLt_iff] at this
    rw [alLt_not]
    omega
  · rcases List.mem_cons.1 hb with rfl | hb
    · exact hl a ha
    · exact h3 a ha b hb
/-- The last of a sorted row is not greater than x: then none is. -/
theorem last_all {pre : Al} {x y : Int × Int} (hp : SortedAl (pre ++ [y])) (hy : alLt x y = false) : ∀ z ∈ pre ++ [y], alLt x z = false := by
  intro z hz
  unfold SortedAl at hp
  rw [List.pairwise_append] at hp
  rcases List.mem_append.1 hz with hz | hz
  · have := hp.2.2 z hz y (List.mem_singleton.2 rfl)
    rw [alLt_not] at this hy ⊢
    omega
  · rw [List.mem_singleton.1 hz]
    exact hy

end Go.Proofs.Ytdnmeffglpmlaaa
