/-
  The order of texts by their bytes, and maps that rise by it: plain.
-/
import Derived.Lib.Bytealg
set_option linter.unusedVariables false
set_option linter.unusedSimpArgs false
namespace Go.Proofs.YtfacfdjapjhpeaaGreatDoor
open Go.Lib

theorem u8_lt (a b : UInt8) : a < b ↔ a.toNat < b.toNat := UInt8.lt_iff_toNat_lt
theorem cmp_self : ∀ a : List UInt8, compareBytes a a = 0
  | [] => rfl
  | a :: as => by
    have : ¬ a < a := by rw [u8_lt]; omega
    rw [compareBytes, if_neg this, if_neg this]
    exact cmp_self as
theorem cmp_zero : ∀ {a b : List UInt8}, compareBytes a b = 0 → a = b
  | [], [], _ => rfl
  | [], _ :: _, h => by simp [compareBytes] at h
  | _ :: _, [], h => by simp [compareBytes] at h
  | a :: as, b :: bs, h => by
    rw [compareBytes] at h
    split at h
    · simp at h
    · split at h
      · simp at h
      · rename_i h1 h2
        rw [u8_lt] at h1 h2
        have : a = b := UInt8.toNat_inj.1 (by omega)
        rw [this, cmp_zero h]
theorem cmp_anti : ∀ a b : List UInt8, compareBytes b a = - compareBytes a b
  | [], [] => rfl
  | [], _ :: _ => rfl
  | _ :: _, [] => rfl
  | a :: as, b :: bs => by
    rw [compareBytes, compareBytes]
    by_cases h1 : a < b
    · have h2 : ¬ b < a := by rw [u8_lt] at *; omega
      simp [h1, h2]
    · by_cases h2 : b < a
      · simp [h1, h2]
      · simp only [if_neg h1, if_neg h2]
        exact cmp_anti as bs
theorem cmp_cons (a b : UInt8) (as bs : List UInt8) : compareBytes (a :: as) (b :: bs) = if a.toNat < b.toNat then -1 else if b.toNat < a.toNat then 1 else compareBytes as bs := by
  rw [compareBytes]
  simp only [u8_lt]
theorem cmp_trans : ∀ {a b c : List UInt8}, compareBytes a b < 0 → compareBytes b c < 0 → compareBytes a c < 0
  | [], [], _, h, _ => by simp [compareBytes] at h
  | [], _ :: _, [], _, h => by simp [compareBytes] at h
  | [], _ :: _, _ :: _, _, _ => by simp [compareBytes]
  | _ :: _, [], _, h, _ => by simp [compareBytes] at h
  | _ :: _, _ :: _, [], _, h => by simp [compareBytes] at h
  | a :: as, b :: bs, c :: cs, h1, h2 => by
    rw [cmp_cons] at h1 h2 ⊢
    by_cases p1 : a.toNat < b.toNat
    · by_cases p2 : b.toNat < c.toNat
      · rw [if_pos (by omega)]; decide
      · rw [if_neg p2] at h2
        by_cases p3 : c.toNat < b.toNat
        · rw [if_pos p3] at h2; simp at h2
        · rw [if_pos (by omega)]; decide
    · rw [if_neg p1] at h1
      by_cases p4 : b.toNat < a.toNat
      · rw [if_pos p4] at h1; simp at h1
      · rw [if_neg p4] at h1
        by_cases p2 : b.toNat < c.toNat
        · rw [if_pos (by omega)]; decide
        · rw [if_neg p2] at h2
          by_cases p3 : c.toNat < b.toNat
          · rw [if_pos p3] at h2; simp at h2
          · rw [if_neg p3] at h2
            rw [if_neg (by omega), if_neg (by omega)]
            exact cmp_trans h1 h2
theorem cmp_ne {a b : List UInt8} (h : compareBytes a b < 0) : a ≠ b := by
  rintro rfl
  rw [cmp_self] at h
  omega
theorem cmp_not {a b : List UInt8} (h : ¬ compareBytes a b < 0) (hn : a ≠ b) : compareBytes b a < 0 := by
  rw [cmp_anti a b]
  have : compareBytes a b ≠ 0 := fun h => hn (cmp_zero h)
  omega

variable {V : Type}
/-- A map from texts, as a list. -/
abbrev ML (V : Type) := List (List UInt8 × V)
def Rising (l : ML V) : Prop := l.Pairwise fun x y => compareBytes x.1 y.1 < 0
/-- How many keys are below one. -/
def place (l : ML V) (k : List UInt8) : Nat := l.countP fun x => decide (compareBytes x.1 k < 0)
def getM (l : ML V) (k : List UInt8) : Option V := (l.find? fun x => x.1 == k).map (·.2)
def hasM (l : ML V) (k : List UInt8) : Bool := (getM l k).isSome

theorem place_le (l : ML V) (k : List UInt8) : place l k ≤ l.length := List.countP_le_length
theorem place_cons_lt {x : List UInt8 × V} {l : ML V} {k : List UInt8} (h : compareBytes x.1 k < 0) : place (x :: l) k = place l k + 1 := by
  unfold place
  rw [List.countP_cons_of_pos (by simpa using h)]
theorem place_cons_ge {x : List UInt8 × V} {l : ML V} {k : List UInt8} (hr : Rising (x :: l)) (h : ¬ compareBytes x.1 k < 0) : place (x :: l) k = 0 := by
  unfold place
  rw [List.countP_eq_zero]
  intro y hy
  rcases List.mem_cons.1 hy with rfl | hy
  · simpa using h
  · have := (List.pairwise_cons.1 hr).1 y hy
    intro hc
    exact h (cmp_trans this (by simpa using hc))
theorem Rising.tail {x : List UInt8 × V} {l : ML V} (h : Rising (x :: l)) : Rising l := (List.pairwise_cons.1 h).2
theorem Rising.head {x : List UInt8 × V} {l : ML V} (h : Rising (x :: l)) : ∀ y ∈ l, compareBytes x.1 y.1 < 0 := (List.pairwise_cons.1 h).1
/-- Of a rising list those below a key stand ahead. -/
theorem place_lt : ∀ {l : ML V} {k : List UInt8}, Rising l → ∀ (t : Nat) (ht : t < l.length), t < place l k ↔ compareBytes l[t].1 k < 0
  | [], _, _, t, ht => by simp at ht
  | x :: l, k, hr, t, ht => by
    by_cases h : compareBytes x.1 k < 0
    · rw [place_cons_lt h]
      cases t with
      | zero => simp [h]
      | succ t =>
        have := place_lt (l := l) (k := k) hr.tail t (by simpa using ht)
        simp only [List.getElem_cons_succ]
        rw [← this]
        omega
    · rw [place_cons_ge hr h]
      refine ⟨fun hc => by omega, fun hc => ?_⟩
      exfalso
      cases t with
      | zero => exact h (by simpa using hc)
      | succ t =>
        simp only [List.getElem_cons_succ] at hc
        exact h (cmp_trans (hr.head _ (List.getElem_mem (by simpa using ht))) hc)
theorem getM_cons_eq {x : List UInt8 × V} {l : ML V} {k : List UInt8} (h : x.1 = k) : getM (x :: l) k = some x.2 := by simp [getM, h]
theorem getM_cons_ne {x : List UInt8 × V} {l : ML V} {k : List UInt8} (h : x.1 ≠ k) : getM (x :: l) k = getM l k := by simp [getM, h]
theorem getM_none {l : ML V} {k : List UInt8} (h : ∀ x ∈ l, x.1 ≠ k) : getM l k = none := by
  unfold getM
  rw [List.find?_eq_none.2 (by simpa using fun a b hx => h (a, b) hx)]
  rfl
/-- What is at a key stands at its place. -/
theorem getM_place : ∀ {l : ML V} {k : List UInt8}, Rising l → getM l k = match l[place l k]? with | some x => if x.1 = k then some x.2 else none | none => none
  | [], _, _ => rfl
  | x :: l, k, hr => by
    by_cases h : compareBytes x.1 k < 0
    · rw [place_cons_lt h, getM_cons_ne (cmp_ne h), getM_place hr.tail]
      simp
    · rw [place_cons_ge hr h]
      by_cases he : x.1 = k
      · rw [getM_cons_eq he]; simp [he]
      · rw [getM_cons_ne he, getM_none]
        · simp [he]
        · intro y hy hye
          have h1 := hr.head y hy
          rw [hye] at h1
          exact h h1
theorem getM_mem {l : ML V} {k : List UInt8} {v : V} (h : getM l k = some v) : (k, v) ∈ l := by
  unfold getM at h
  cases hf : l.find? (fun x => x.1 == k) with
  | none => simp [hf] at h
  | some x =>
    simp [hf] at h
    have h1 := List.find?_some hf
    have h2 := List.mem_of_find?_eq_some hf
    simp at h1
    rw [← h, ← h1]
    exact h2
theorem mem_getM : ∀ {l : ML V} {k : List UInt8} {v : V}, Rising l → (k, v) ∈ l → getM l k = some v
  | [], _, _, _, h => by cases h
  | x :: l, k, v, hr, h => by
    rcases List.mem_cons.1 h with h | h
    · rw [← h]; exact getM_cons_eq rfl
    · rw [getM_cons_ne (cmp_ne (hr.head _ h))]
      exact mem_getM hr.tail h

/-- Two that rise and have the same at each key are one. -/
theorem rising_ext : ∀ {l l' : ML V}, Rising l → Rising l' → (∀ k, getM l k = getM l' k) → l = l'
  | [], [], _, _, _ => rfl
  | [], y :: l', _, _, h => by
    have := h y.1
    rw [getM_cons_eq rfl] at this
    simp [getM] at this
  | x :: l, [], _, _, h => by
    have := h x.1
    rw [getM_cons_eq rfl] at this
    simp [getM] at this
  | x :: l, y :: l', hr, hr', h => by
    have key : ∀ {x y : List UInt8 × V} {l l' : ML V}, Rising (x :: l) → Rising (y :: l') → (∀ k, getM (x :: l) k = getM (y :: l') k) → ¬ compareBytes x.1 y.1 < 0 := by
      intro x y l l' hr hr' h hc
      have h1 := h x.1
      rw [getM_cons_eq rfl, getM_cons_ne (fun e => cmp_ne hc e.symm), getM_none (fun z hz e => ?_)] at h1
      · cases h1
      · have := cmp_trans hc (hr'.head z hz)
        rw [e, cmp_self] at this
        omega
    have he : x.1 = y.1 := by
      have a := key hr hr' h
      have b := key hr' hr (fun k => (h k).symm)
      rw [cmp_anti x.1 y.1] at b
      exact cmp_zero (by omega)
    have h1 := h x.1
    rw [getM_cons_eq rfl, getM_cons_eq he.symm] at h1
    injection h1 with h1
    have hxy : x = y := Prod.ext he h1
    subst hxy
    rw [rising_ext hr.tail hr'.tail (fun k => ?_)]
    have h2 := h k
    by_cases hk : x.1 = k
    · subst hk
      rw [getM_none (fun z hz => fun e => cmp_ne (hr.head z hz) e.symm), getM_none (fun z hz => fun e => cmp_ne (hr'.head z hz) e.symm)]
    · rwa [getM_cons_ne hk, getM_cons_ne hk] at h2

/-- Put, Del. -/
def putM (l : ML V) (k : List UInt8) (v : V) : ML V := if hasM l k = true then l.set (place l k) (k, v) else l.take (place l k) ++ (k, v) :: l.drop (place l k)
def delM (l : ML V) (k : List UInt8) : ML V := if hasM l k = true then l.eraseIdx (place l k) else l

theorem hasM_cons_lt {x : List UInt8 × V} {l : ML V} {k : List UInt8} (h : compareBytes x.1 k < 0) : hasM (x :: l) k = hasM l k := by rw [hasM, getM_cons_ne (cmp_ne h)]; rfl
theorem putM_cons_lt {x : List UInt8 × V} {l : ML V} {k : List UInt8} {v : V} (h : compareBytes x.1 k < 0) : putM (x :: l) k v = x :: putM l k v := by
  unfold putM
  rw [hasM_cons_lt h, place_cons_lt h]
  split <;> simp
theorem delM_cons_lt {x : List UInt8 × V} {l : ML V} {k : List UInt8} (h : compareBytes x.1 k < 0) : delM (x :: l) k = x :: delM l k := by
  unfold delM
  rw [hasM_cons_lt h, place_cons_lt h]
  split <;> simp
theorem hasM_cons_eq {x : List UInt8 × V} {l : ML V} {k : List UInt8} (h : x.1 = k) : hasM (x :: l) k = true := by simp [hasM, getM_cons_eq h]
theorem hasM_cons_gt {x : List UInt8 × V} {l : ML V} {k : List UInt8} (hr : Rising (x :: l)) (h : ¬ compareBytes x.1 k < 0) (he : x.1 ≠ k) : hasM (x :: l) k = false := by
  rw [hasM, getM_none]; · rfl
  intro y hy
  rcases List.mem_cons.1 hy with rfl | hy
  · exact he
  · intro e
    exact h (e ▸ hr.head y hy)
theorem putM_spec : ∀ {l : ML V} (k : List UInt8) (v : V), Rising l → Rising (putM l k v) ∧ (∀ k', getM (putM l k v) k' = if k' = k then some v else getM l k') ∧ (∀ x ∈ putM l k v, x = (k, v) ∨ x ∈ l)
  | [], k, v, _ => by
    refine ⟨by simp [putM, hasM, getM, place, Rising], fun k' => ?_, fun x hx => ?_⟩
    · by_cases h : k' = k
      · simp [putM, hasM, getM, place, h]
      · have h' : ¬ k = k' := fun e => h e.symm
        simp [putM, hasM, getM, place, h, h']
    · simp [putM, hasM, getM, place] at hx
      exact .inl hx
  | x :: l, k, v, hr => by
    by_cases h : compareBytes x.1 k < 0
    · obtain ⟨h1, h2, h3⟩ := putM_spec k v hr.tail
      rw [putM_cons_lt h]
      refine ⟨List.pairwise_cons.2 ⟨fun y hy => ?_, h1⟩, fun k' => ?_, fun y hy => ?_⟩
      · rcases h3 y hy with rfl | hy
        · exact h
        · exact hr.head y hy
      · by_cases hk : x.1 = k'
        · rw [getM_cons_eq hk, getM_cons_eq hk, if_neg (fun e => cmp_ne h (by rw [hk, e]))]
        · rw [getM_cons_ne hk, getM_cons_ne hk, h2]
      · rcases List.mem_cons.1 hy with rfl | hy
        · exact .inr (List.mem_cons_self ..)
        · rcases h3 y hy with rfl | hy
          · exact .inl rfl
          · exact .inr (List.mem_cons_of_mem _ hy)
    · by_cases he : x.1 = k
      · have e : putM (x :: l) k v = (k, v) :: l := by simp [putM, hasM_cons_eq he, place_cons_ge hr h]
        rw [e]
        refine ⟨List.pairwise_cons.2 ⟨fun y hy => by have := hr.head y hy; rwa [he] at this, hr.tail⟩, fun k' => ?_, fun y hy => ?_⟩
        · by_cases hk : k' = k
          · rw [if_pos hk, getM_cons_eq hk.symm]
          · rw [if_neg hk, getM_cons_ne (fun e => hk e.symm), getM_cons_ne (fun e => hk (by rw [← e, he]))]
        · rcases List.mem_cons.1 hy with rfl | hy
          · exact .inl rfl
          · exact .inr (List.mem_cons_of_mem _ hy)
      · have e : putM (x :: l) k v = (k, v) :: x :: l := by simp [putM, hasM_cons_gt hr h he, place_cons_ge hr h]
        rw [e]
        refine ⟨List.pairwise_cons.2 ⟨fun y hy => ?_, hr⟩, fun k' => ?_, fun y hy => ?_⟩
        · have hx := cmp_not h he
          rcases List.mem_cons.1 hy with rfl | hy
          · exact hx
          · exact cmp_trans hx (hr.head y hy)
        · by_cases hk : k' = k
          · rw [if_pos hk, getM_cons_eq hk.symm]
          · rw [if_neg hk, getM_cons_ne (fun e => hk e.symm)]
        · rcases List.mem_cons.1 hy with rfl | hy
          · exact .inl rfl
          · exact .inr hy
theorem delM_spec : ∀ {l : ML V} (k : List UInt8), Rising l → Rising (delM l k) ∧ (∀ k', getM (delM l k) k' = if k' = k then none else getM l k') ∧ (∀ x ∈ delM l k, x ∈ l)
  | [], k, _ => by
    have e : delM ([] : ML V) k = [] := by simp [delM, hasM, getM]
    rw [e]
    exact ⟨List.Pairwise.nil, fun k' => by simp [getM], fun x hx => hx⟩
  | x :: l, k, hr => by
    by_cases h : compareBytes x.1 k < 0
    · obtain ⟨h1, h2, h3⟩ := delM_spec k hr.tail
      rw [delM_cons_lt h]
      refine ⟨List.pairwise_cons.2 ⟨fun y hy => hr.head y (h3 y hy), h1⟩, fun k' => ?_, fun y hy => ?_⟩
      · by_cases hk : x.1 = k'
        · rw [getM_cons_eq hk, getM_cons_eq hk, if_neg (fun e => cmp_ne h (by rw [hk, e]))]
        · rw [getM_cons_ne hk, getM_cons_ne hk, h2]
      · rcases List.mem_cons.1 hy with rfl | hy
        · exact List.mem_cons_self ..
        · exact List.mem_cons_of_mem _ (h3 y hy)
    · by_cases he : x.1 = k
      · have e : delM (x :: l) k = l := by simp [delM, hasM_cons_eq he, place_cons_ge hr h]
        rw [e]
        refine ⟨hr.tail, fun k' => ?_, fun y hy => List.mem_cons_of_mem _ hy⟩
        by_cases hk : k' = k
        · rw [if_pos hk, getM_none]
          intro z hz e
          have := hr.head z hz
          rw [e, hk, he, cmp_self] at this
          omega
        · rw [if_neg hk, getM_cons_ne (fun e => hk (by rw [← e, he]))]
      · have e : delM (x :: l) k = x :: l := by simp [delM, hasM_cons_gt hr h he]
        rw [e]
        refine ⟨hr, fun k' => ?_, fun y hy => hy⟩
        by_cases hk : k' = k
        · subst hk
          rw [if_pos rfl]
          have := hasM_cons_gt hr h he
          simpa [hasM] using this
        · rw [if_neg hk]
theorem putM_len (l : ML V) (k : List UInt8) (v : V) : (putM l k v).length ≤ l.length + 1 := by
  unfold putM
  split
  · simp
  · have := place_le l k
    simp; omega
theorem delM_len (l : ML V) (k : List UInt8) : (delM l k).length ≤ l.length := by
  unfold delM
  split
  · rw [List.length_eraseIdx]; split <;> omega
  · exact Nat.le_refl _

end Go.Proofs.YtfacfdjapjhpeaaGreatDoor
