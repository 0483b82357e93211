/-
  Plain facts on alarms: each one's at most once.
-/
import Derived.Test.YtdnmeffglpmlaaaClkB
namespace Go.Proofs.Ytdnmeffglpmlaaa

def Nod (al : Al) : Prop := (al.map (·.1)).Nodup

theorem nod_uniq {al : Al} (hn : Nod al) {i j : Nat} (hi : i < al.length) (hj : j < al.length) (h : al[i].1 = al[j].1) : i = j := by
  unfold Nod List.Nodup at hn
  rw [List.pairwise_iff_getElem] at hn
  rcases Nat.lt_trichotomy i j with h' | h' | h'
  · exact absurd (by rw [List.getElem_map, List.getElem_map]; exact h) (hn i j (by simpa using hi) (by simpa using hj) h')
  · exact h'
  · exact absurd (by rw [List.getElem_map, List.getElem_map]; exact h.symm) (hn j i (by simpa using hj) (by simpa using hi) h')

theorem posOf_none_iff (al : Al) (who : Int) : posOf al who = none ↔ ∀ x ∈ al, x.1 ≠ who := by
  rw [posOf, List.findIdx?_eq_none_iff]
  simp

theorem posOf_get {al : Al} {who : Int} {i : Nat} (h : posOf al who = some i) : ∃ hi : i < al.length, al[i].1 = who := by
  rw [posOf, List.findIdx?_eq_some_iff_getElem] at h
  obtain ⟨hi, h, _⟩ := h
  exact ⟨hi, by simpa using h⟩

/-- One's time, as membership. -/
theorem atOf_iff {al : Al} (hn : Nod al) (who y : Int) : atOf al who = some y ↔ (who, y) ∈ al := by
  constructor
  · intro h
    unfold atOf at h
    cases hp : posOf al who with
    | none => simp [hp] at h
    | some i =>
      obtain ⟨hi, h1⟩ := posOf_get hp
      simp [hp, hi] at h
      have : al[i] = (who, y) := Prod.ext h1 h
      rw [← this]
      exact List.getElem_mem hi
  · intro h
    cases hp : posOf al who with
    | none => exact absurd rfl ((posOf_none_iff al who).1 hp _ h)
    | some i =>
      obtain ⟨hi, h1⟩ := posOf_get hp
      obtain ⟨j, hj, h2⟩ := List.getElem_of_mem h
      have : i = j := nod_uniq hn hi hj (by rw [h1, h2])
      subst this
      simp [atOf, hp, hi, h2]

theorem dropAl_mem {al : Al} (hn : Nod al) (who : Int) (x : Int × Int) : x ∈ dropAl al who ↔ x ∈ al ∧ x.1 ≠ who := by
  unfold dropAl
  cases hp : posOf al who with
  | none =>
    have := (posOf_none_iff al who).1 hp
    exact ⟨fun h => ⟨h, this x h⟩, fun h => h.1⟩
  | some i =>
    obtain ⟨hi, h1⟩ := posOf_get hp
    have huni : ∀ j (hj : j < al.length), al[j].1 = who → j = i := fun j hj h2 => nod_uniq hn hj hi (by rw [h1, h2])
    simp only [List.mem_eraseIdx_iff_getElem]
    constructor
    · rintro ⟨j, hj, hne, rfl⟩
      exact ⟨List.getElem_mem hj, fun h => hne (huni j hj h)⟩
    · rintro ⟨h, hw⟩
      obtain ⟨j, hj, rfl⟩ := List.getElem_of_mem h
      exact ⟨j, hj, fun e => hw (by subst e; exact h1), rfl⟩

theorem dropAl_nod {al : Al} (hn : Nod al) (who : Int) : Nod (dropAl al who) := by
  unfold dropAl
  split
  · unfold Nod at *
    rename_i i _
    exact hn.sublist ((List.eraseIdx_sublist al i).map _)
  · exact hn

theorem setAl_nod {al : Al} (hn : Nod al) (who y : Int) : Nod (setAl al who y) := by
  unfold setAl Nod
  rw [List.map_append, List.nodup_append]
  refine ⟨dropAl_nod hn who, by simp, ?_⟩
  intro a ha b hb
  simp only [List.map_cons, List.map_nil, List.mem_singleton] at hb
  rw [hb]
  obtain ⟨x, hx, rfl⟩ := List.mem_map.1 ha
  exact ((dropAl_mem hn who x).1 hx).2

theorem atOf_set {al : Al} (hn : Nod al) (who y : Int) : atOf (setAl al who y) who = some y :=
  (atOf_iff (setAl_nod hn who y) who y).2 (by simp [setAl])

theorem atOf_drop {al : Al} (hn : Nod al) (who : Int) : atOf (dropAl al who) who = none := by
  cases h : atOf (dropAl al who) who with
  | none => rfl
  | some y =>
    have := (atOf_iff (dropAl_nod hn who) who y).1 h
    exact absurd rfl ((dropAl_mem hn who _).1 this).2

theorem atOf_none {al : Al} {who : Int} : atOf al who = none ↔ posOf al who = none := by simp [atOf]
theorem setAl_len (al : Al) (who y : Int) : (setAl al who y).length ≤ al.length + 1 := by
  have := dropAl_len al who
  simp [setAl]; omega

end Go.Proofs.Ytdnmeffglpmlaaa
