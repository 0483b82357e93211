/-
  Cards, plain: fields in their order, each once; the text; what a text is parsed to.
-/
import Derived.Test.YtogjokofmfpmgaaGreatDoorGAF
import Derived.Test.YtogjokofmfpmgaaGreatDoorBytesOrd
import Derived.Test.YtogjokofmfpmgaaGreatDoorGAI
import Derived.Deep.RegionHeld3
import Derived.Deep.QuietTactic
import Derived.Laws.BitsLemmas
set_option linter.unusedVariables false
set_option linter.unusedSimpArgs false
namespace Go.Proofs.YtogjokofmfpmgaaGreatDoor
open Go.RowKit Go.Lib

def Rises (l : List Fld) : Prop := l.Pairwise LessP
theorem rises_ext : ∀ {l m : List Fld}, Rises l → Rises m → (∀ x, x ∈ l ↔ x ∈ m) → l = m
  | [], [], _, _, _ => rfl
  | [], b :: m, _, _, h => by have := (h b).2 (by simp); cases this
  | a :: l, [], _, _, h => by have := (h a).1 (by simp); cases this
  | a :: l, b :: m, hl, hm, h => by
    have l1 := (List.pairwise_cons.1 hl).1
    have m1 := (List.pairwise_cons.1 hm).1
    have e : a = b := by
      rcases List.mem_cons.1 ((h a).1 (by simp)) with e | e
      · exact e
      · rcases List.mem_cons.1 ((h b).2 (by simp)) with e' | e'
        · exact e'.symm
        · exact absurd (l1 b e') (less_asym (m1 a e))
    subst e
    have := rises_ext (List.pairwise_cons.1 hl).2 (List.pairwise_cons.1 hm).2 (fun x => by
      constructor
      · intro hx
        rcases List.mem_cons.1 ((h x).1 (by simp [hx])) with e | e
        · exact absurd (l1 x hx) (by rw [e]; exact less_irr a)
        · exact e
      · intro hx
        rcases List.mem_cons.1 ((h x).2 (by simp [hx])) with e | e
        · exact absurd (m1 x hx) (by rw [e]; exact less_irr a)
        · exact e)
    rw [this]

/-- Put where it belongs, unless it is there. -/
def putF (x : Fld) : List Fld → List Fld
  | [] => [x]
  | y :: t => if LessP y x then y :: putF x t else x :: y :: t
def insF (o : List Fld) (x : Fld) : List Fld := if x ∈ o then o else putF x o
theorem mem_putF (x : Fld) : ∀ (o : List Fld) (y : Fld), y ∈ putF x o ↔ y = x ∨ y ∈ o
  | [], y => by simp [putF]
  | z :: t, y => by
    unfold putF
    split
    · rw [List.mem_cons, mem_putF x t y, List.mem_cons]
      constructor
      · rintro (h | h | h)
        · exact .inr (.inl h)
        · exact .inl h
        · exact .inr (.inr h)
      · rintro (h | h | h)
        · exact .inr (.inl h)
        · exact .inl h
        · exact .inr (.inr h)
    · simp
theorem putF_rises (x : Fld) : ∀ (o : List Fld), Rises o → x ∉ o → Rises (putF x o)
  | [], _, _ => by simp [putF, Rises]
  | y :: t, h, hn => by
    have h1 := (List.pairwise_cons.1 h).1
    have h2 := (List.pairwise_cons.1 h).2
    unfold putF
    split
    · next hl =>
      refine List.pairwise_cons.2 ⟨fun z hz => ?_, putF_rises x t h2 (fun hm => hn (by simp [hm]))⟩
      rcases (mem_putF x t z).1 hz with rfl | hz
      · exact hl
      · exact h1 z hz
    · next hl =>
      have hxy : LessP x y := less_not hl (fun e => hn (by simp [e]))
      refine List.pairwise_cons.2 ⟨fun z hz => ?_, h⟩
      rcases List.mem_cons.1 hz with rfl | hz
      · exact hxy
      · exact less_trans hxy (h1 z hz)
theorem putF_len (x : Fld) : ∀ o : List Fld, (putF x o).length = o.length + 1
  | [] => rfl
  | y :: t => by unfold putF; split <;> simp [putF_len x t]
theorem mem_insF (o : List Fld) (x y : Fld) : y ∈ insF o x ↔ y ∈ o ∨ y = x := by
  unfold insF
  split
  · next h => constructor
              · exact .inl
              · rintro (h' | rfl); exact h'; exact h
  · rw [mem_putF]; exact Or.comm
theorem insF_rises {o : List Fld} (h : Rises o) (x : Fld) : Rises (insF o x) := by
  unfold insF
  split
  · exact h
  · next hn => exact putF_rises x o h hn
theorem insF_len (o : List Fld) (x : Fld) : (insF o x).length ≤ o.length + 1 := by
  unfold insF
  split
  · omega
  · rw [putF_len]; exact Nat.le_refl _
def riseF (l : List Fld) : List Fld := l.foldl insF []
theorem fold_ins : ∀ (l o : List Fld), Rises o → Rises (l.foldl insF o) ∧ (∀ y, y ∈ l.foldl insF o ↔ y ∈ o ∨ y ∈ l) ∧ (l.foldl insF o).length ≤ o.length + l.length
  | [], o, h => ⟨h, fun y => by simp, by simp⟩
  | x :: t, o, h => by
    obtain ⟨h1, h2, h3⟩ := fold_ins t (insF o x) (insF_rises h x)
    refine ⟨h1, fun y => ?_, ?_⟩
    · rw [List.foldl_cons, h2 y, mem_insF, List.mem_cons]
      constructor
      · rintro ((h | h) | h)
        · exact .inl h
        · exact .inr (.inl h)
        · exact .inr (.inr h)
      · rintro (h | h | h)
        · exact .inl (.inl h)
        · exact .inl (.inr h)
        · exact .inr h
    · have := insF_len o x
      rw [List.foldl_cons, List.length_cons]
      omega
theorem rise_rises (l : List Fld) : Rises (riseF l) := (fold_ins l [] List.Pairwise.nil).1
theorem mem_rise (l : List Fld) (y : Fld) : y ∈ riseF l ↔ y ∈ l := by
  have := (fold_ins l [] List.Pairwise.nil).2.1 y
  unfold riseF
  simpa using this
theorem rise_len (l : List Fld) : (riseF l).length ≤ l.length := by
  have := (fold_ins l [] List.Pairwise.nil).2.2
  unfold riseF
  simpa using this
theorem rise_of {l m : List Fld} (h : Rises m) (hm : ∀ x, x ∈ m ↔ x ∈ l) : m = riseF l := rises_ext h (rise_rises l) (fun x => (hm x).trans (mem_rise l x).symm)
theorem rise_take (l : List Fld) (k : Nat) (h : k < l.length) : riseF (l.take (k + 1)) = insF (riseF (l.take k)) l[k] := by
  unfold riseF
  rw [List.take_succ_eq_append_getElem h, List.foldl_append]
  rfl

/-- Neighbours that are alike, once. -/
def dd1 (o : List Fld) (x : Fld) : List Fld := if o.getLast? = some x then o else o ++ [x]
def dedup (l : List Fld) : List Fld := l.foldl dd1 []
theorem dedup_take (l : List Fld) (k : Nat) (h : k < l.length) : dedup (l.take (k + 1)) = dd1 (dedup (l.take k)) l[k] := by
  unfold dedup
  rw [List.take_succ_eq_append_getElem h, List.foldl_append]
  rfl
theorem dd1_last (o : List Fld) (x : Fld) : (dd1 o x).getLast? = some x := by
  unfold dd1
  split
  · next h => exact h
  · simp
theorem dedup_last (l : List Fld) (k : Nat) (h : k < l.length) : (dedup (l.take (k + 1))).getLast? = some l[k] := by
  rw [dedup_take l k h, dd1_last]
theorem dedup_same (l : List Fld) (k : Nat) (h : k + 1 < l.length) (e : l[k + 1] = l[k]) : dedup (l.take (k + 2)) = dedup (l.take (k + 1)) := by
  rw [dedup_take l (k + 1) h, dd1, if_pos]
  rw [dedup_last l k (by omega), e]
theorem dedup_new (l : List Fld) (k : Nat) (h : k + 1 < l.length) (e : l[k + 1] ≠ l[k]) : dedup (l.take (k + 2)) = dedup (l.take (k + 1)) ++ [l[k + 1]] := by
  rw [dedup_take l (k + 1) h, dd1, if_neg]
  rw [dedup_last l k (by omega)]
  intro h; injection h with h; exact e h.symm
theorem dedup_one (l : List Fld) (h : 0 < l.length) : dedup (l.take 1) = l.take 1 := by
  cases l with
  | nil => simp at h
  | cons a t => simp [dedup, dd1]
theorem dedup_facts : ∀ (l o : List Fld), Rises o → (∀ x ∈ o, ∀ y ∈ l, ¬ LessP y x) → l.Pairwise (fun x y => ¬ LessP y x) →
    Rises (l.foldl dd1 o) ∧ ∀ y, y ∈ l.foldl dd1 o ↔ y ∈ o ∨ y ∈ l
  | [], o, h, _, _ => ⟨h, fun y => by simp⟩
  | x :: t, o, h, h1, h2 => by
    have p1 := (List.pairwise_cons.1 h2).1
    have p2 := (List.pairwise_cons.1 h2).2
    rw [List.foldl_cons]
    have hm : ∀ y, y ∈ dd1 o x ↔ y ∈ o ∨ y = x := by
      intro y
      unfold dd1
      split
      · next hl =>
        have := List.mem_of_getLast? hl
        constructor
        · exact .inl
        · rintro (h | rfl); exact h; exact this
      · simp
    have hr : Rises (dd1 o x) := by
      unfold dd1
      split
      · exact h
      · next hl =>
        refine List.pairwise_append.2 ⟨h, by simp, fun a ha b hb => ?_⟩
        have hb : b = x := by simpa using hb
        subst hb
        have hn := h1 a ha b (by simp)
        by_cases e : a = b
        · subst e
          exfalso
          rcases List.eq_nil_or_concat o with rfl | ⟨o', z, rfl⟩
          · cases ha
          · rw [List.concat_eq_append] at *
            have hz : z ≠ a := fun e => hl (by simp [e])
            rcases List.mem_append.1 ha with ha' | ha'
            · have := (List.pairwise_append.1 h).2.2 a ha' z (by simp)
              exact h1 z (by simp) a (by simp) this
            · exact hz (List.mem_singleton.1 ha').symm
        · exact less_not hn (fun e' => e e'.symm)
    obtain ⟨r1, r2⟩ := dedup_facts t (dd1 o x) hr (fun a ha y hy => by
      rcases (hm a).1 ha with ha | rfl
      · exact h1 a ha y (by simp [hy])
      · exact p1 y hy) p2
    refine ⟨r1, fun y => ?_⟩
    rw [r2 y, hm y, List.mem_cons]
    constructor
    · rintro ((h | h) | h)
      · exact .inl h
      · exact .inr (.inl h)
      · exact .inr (.inr h)
    · rintro (h | h | h)
      · exact .inl (.inl h)
      · exact .inl (.inr h)
      · exact .inr h
/-- Sorted, then each once: that is the order. -/
theorem dedup_sorted {l m : List Fld} (hp : m.Perm l) (hs : m.Pairwise (fun x y => ¬ LessP y x)) : dedup m = riseF l := by
  obtain ⟨h1, h2⟩ := dedup_facts m [] List.Pairwise.nil (fun x hx => by cases hx) hs
  refine rise_of h1 (fun x => ?_)
  rw [show x ∈ dedup m ↔ x ∈ [] ∨ x ∈ m from h2 x]
  simp [hp.mem_iff]

/-- The first error. -/
noncomputable def errL : List Fld → Int
  | [] => 0
  | f :: t => if fldE f = 0 then errL t else fldE f
def cntK (k : Int) (l : List Fld) : Nat := l.countP (fun f => decide (f.k = k))
noncomputable def textL (l : List Fld) : List UInt8 := l.flatMap (fun f => lineF f ++ [10])
noncomputable def cans (l : List Fld) : List Fld := riseF (l.map fldC)
def CntP (l : List Fld) : Prop := cntK 1 l = 1 ∧ cntK 2 l ≤ 1 ∧ cntK 5 l ≤ 1
instance (l : List Fld) : Decidable (CntP l) := by unfold CntP; infer_instance
noncomputable def cardE (l : List Fld) : Int :=
  if errL l ≠ 0 then errL l else if 12 < (cans l).length then 2 else if ¬ CntP (cans l) then 1 else if 900 < (textL (cans l)).length then 2 else 0
noncomputable def cardC (l : List Fld) : List Fld := if cardE l = 0 then cans l else []
noncomputable def cardT (l : List Fld) : List UInt8 := if cardE l = 0 then textL (cans l) else []
theorem errL_0 : ∀ {l : List Fld}, errL l = 0 → ∀ f ∈ l, fldE f = 0
  | [], _, f, hf => by cases hf
  | g :: t, h, f, hf => by
    unfold errL at h
    split at h
    · next c =>
      rcases List.mem_cons.1 hf with rfl | hf
      · exact c
      · exact errL_0 h f hf
    · next c => exact absurd h c
theorem errL_of : ∀ {l : List Fld}, (∀ f ∈ l, fldE f = 0) → errL l = 0
  | [], _ => rfl
  | g :: t, h => by
    unfold errL
    rw [if_pos (h g (by simp))]
    exact errL_of (fun f hf => h f (by simp [hf]))
theorem cardE_0 {l : List Fld} (h : cardE l = 0) : errL l = 0 ∧ (cans l).length ≤ 12 ∧ CntP (cans l) ∧ (textL (cans l)).length ≤ 900 := by
  unfold cardE at h
  split at h
  · next c => exact absurd h c
  · next c =>
    split at h
    · omega
    · split at h
      · omega
      · next c3 =>
        split at h
        · omega
        · exact ⟨Decidable.not_not.1 c, by omega, Decidable.not_not.1 c3, by omega⟩
theorem cardE_of {l : List Fld} (h1 : errL l = 0) (h2 : (cans l).length ≤ 12) (h3 : CntP (cans l)) (h4 : (textL (cans l)).length ≤ 900) : cardE l = 0 := by
  unfold cardE
  rw [if_neg (by simp [h1]), if_neg (by omega), if_neg (by simp [h3]), if_neg (by omega)]
def AllMay (l : List Fld) : Prop := ∀ f ∈ l, MayF f
theorem cans_may {l : List Fld} (h : errL l = 0) : AllMay (cans l) := by
  intro f hf
  obtain ⟨g, hg, rfl⟩ := List.mem_map.1 ((mem_rise _ f).1 hf)
  exact fldC_may (errL_0 h g hg)
/-- A card's fields. -/
def CardOk (l : List Fld) : Prop := cardE l = 0 ∧ cans l = l
theorem ok_may {l : List Fld} (h : CardOk l) : AllMay l := by
  have := cans_may (cardE_0 h.1).1
  rwa [h.2] at this
theorem textL_cons (f : Fld) (t : List Fld) (h : MayF f) : textL (f :: t) = rawL f ++ 10 :: textL t := by
  unfold textL
  rw [List.flatMap_cons, line_yes h]
  simp
theorem textL_app (a b : List Fld) : textL (a ++ b) = textL a ++ textL b := by
  unfold textL; rw [List.flatMap_append]
theorem textL_snoc (a : List Fld) (f : Fld) : textL (a ++ [f]) = textL a ++ (lineF f ++ [10]) := by
  rw [textL_app]; simp [textL]
theorem textL_take (l : List Fld) (k : Nat) (h : k < l.length) : textL (l.take (k + 1)) = textL (l.take k) ++ (lineF l[k] ++ [10]) := by
  rw [List.take_succ_eq_append_getElem h, textL_snoc]
theorem textL_len : ∀ l : List Fld, (textL l).length ≤ l.length * 75
  | [] => by simp [textL]
  | f :: t => by
    have := textL_len t
    have := line_len f
    unfold textL at *
    rw [List.flatMap_cons, List.length_append, List.length_append, List.length_cons]
    simp only [List.length_cons, List.length_nil]
    omega
theorem app_uniq1 (c : UInt8) {a b a' b' : List UInt8} (h : a ++ c :: b = a' ++ c :: b') (ha : c ∉ a) (ha' : c ∉ a') : a = a' ∧ b = b' := by
  obtain ⟨e1, e2⟩ := bef_app c a b ha
  obtain ⟨e3, e4⟩ := bef_app c a' b' ha'
  rw [h] at e1 e2
  exact ⟨e1.symm.trans e3, e2.symm.trans e4⟩
/-- What a text begins with. -/
theorem text_split : ∀ (l m : List Fld) (r : List UInt8), AllMay l → AllMay m → textL m = textL l ++ r → ∃ m', m = l ++ m' ∧ textL m' = r
  | [], m, r, _, _, h => ⟨m, rfl, by simpa [textL] using h⟩
  | f :: t, [], r, hl, _, h => by
    rw [textL_cons f t (hl f (by simp))] at h
    have := congrArg List.length h
    simp [textL] at this
  | f :: t, g :: m, r, hl, hm, h => by
    have hf := hl f (by simp)
    have hg := hm g (by simp)
    rw [textL_cons f t hf, textL_cons g m hg, List.append_assoc, List.cons_append] at h
    obtain ⟨e1, e2⟩ := app_uniq1 10 h (raw_10 hg) (raw_10 hf)
    have e : g = f := found_uniq (s := rawL g) ⟨hg, rfl⟩ ⟨hf, e1.symm⟩
    subst e
    obtain ⟨m', h1, h2⟩ := text_split t m r (fun f hf => hl f (by simp [hf])) (fun f hf => hm f (by simp [hf])) e2
    exact ⟨m', by rw [h1]; rfl, h2⟩
theorem text_nil {m : List Fld} (hm : AllMay m) (h : (10 : UInt8) ∉ textL m) : m = [] := by
  cases m with
  | nil => rfl
  | cons g m => rw [textL_cons g m (hm g (by simp))] at h; simp at h
theorem text_inj {l m : List Fld} (hl : AllMay l) (hm : AllMay m) (h : textL m = textL l) : m = l := by
  obtain ⟨m', e, h'⟩ := text_split l m [] hl hm (by simpa using h)
  have := text_nil (m := m') (fun f hf => hm f (by rw [e]; simp [hf])) (by rw [h']; simp)
  rw [e, this, List.append_nil]
/-- The fields that a text is parsed to. -/
def Reads (s : List UInt8) (l : List Fld) : Prop := CardOk l ∧ textL l = s
theorem reads_uniq {s : List UInt8} {l m : List Fld} (h : Reads s l) (h' : Reads s m) : m = l := text_inj (ok_may h.1) (ok_may h'.1) (h'.2.trans h.2.symm)
open Classical in
noncomputable def crdF (s : List UInt8) : List Fld := if h : ∃ l, Reads s l then h.choose else []
open Classical in
noncomputable def crdE (s : List UInt8) : Int := if ∃ l, Reads s l then 0 else 1
theorem crd_yes {s : List UInt8} {l : List Fld} (h : Reads s l) : crdF s = l ∧ crdE s = 0 := by
  have hx : ∃ f, Reads s f := ⟨l, h⟩
  refine ⟨?_, by simp only [crdE, if_pos hx]⟩
  rw [crdF, dif_pos hx]
  exact (reads_uniq h hx.choose_spec)
theorem crd_no {s : List UInt8} (h : ∀ f, ¬ Reads s f) : crdF s = [] ∧ crdE s = 1 := by
  have hx : ¬ ∃ f, Reads s f := fun ⟨f, hf⟩ => h f hf
  exact ⟨by rw [crdF, dif_neg hx], by simp only [crdE, if_neg hx]⟩
theorem crd_or (s : List UInt8) : (∃ l, Reads s l ∧ crdF s = l ∧ crdE s = 0) ∨ ((∀ l, ¬ Reads s l) ∧ crdF s = [] ∧ crdE s = 1) := by
  by_cases h : ∃ f, Reads s f
  · obtain ⟨f, hf⟩ := h; exact .inl ⟨f, hf, crd_yes hf⟩
  · have : ∀ f, ¬ Reads s f := fun f hf => h ⟨f, hf⟩
    exact .inr ⟨this, crd_no this⟩
theorem reads_len {s : List UInt8} {l : List Fld} (h : Reads s l) : s.length ≤ 900 ∧ l.length ≤ 12 := by
  have := cardE_0 h.1.1
  rw [h.1.2] at this
  exact ⟨by rw [← h.2]; exact this.2.2.2, this.2.1⟩
/-- The lines so far, and what is left. -/
theorem reads_line {s : List UInt8} {l m : List Fld} {r : List UInt8} (hl : AllMay l) (hs : s = textL l ++ r) (h : Reads s m) : ∃ m', m = l ++ m' ∧ textL m' = r ∧ AllMay m' := by
  obtain ⟨m', e, h'⟩ := text_split l m r hl (ok_may h.1) (h.2.trans hs)
  exact ⟨m', e, h', fun f hf => ok_may h.1 f (by rw [e]; simp [hf])⟩
theorem reads_cut {s : List UInt8} {l m : List Fld} {a b : List UInt8} (hl : AllMay l) (hs : s = textL l ++ (a ++ 10 :: b)) (ha : (10 : UInt8) ∉ a) (h : Reads s m) : ∃ f, Found a f := by
  obtain ⟨m', e, h', hm⟩ := reads_line hl hs h
  cases m' with
  | nil => have := congrArg List.length h'; simp [textL] at this
  | cons g t =>
    have hg := hm g (by simp)
    rw [textL_cons g t hg] at h'
    obtain ⟨e1, _⟩ := app_uniq1 10 h' (raw_10 hg) ha
    exact ⟨g, hg, e1⟩
theorem reads_end {s : List UInt8} {l m : List Fld} {r : List UInt8} (hl : AllMay l) (hs : s = textL l ++ r) (hr : (10 : UInt8) ∉ r) (h : Reads s m) : m = l ∧ r = [] := by
  obtain ⟨m', e, h', hm⟩ := reads_line hl hs h
  have := text_nil hm (by rw [h']; exact hr)
  subst this
  exact ⟨by rw [e, List.append_nil], by rw [← h']; rfl⟩
/-- What is checked at the end. -/
theorem reads_of {s : List UInt8} {l : List Fld} {r : List UInt8} (hl : AllMay l) (hs : s = textL l ++ r) (he : cardE l = 0) (ht : cardT l = s) : Reads s l := by
  rw [cardT, if_pos he] at ht
  have hm := cans_may (cardE_0 he).1
  obtain ⟨m', e, h'⟩ := text_split l (cans l) r hl hm (ht.trans hs)
  have hlen := rise_len (l.map fldC)
  rw [List.length_map] at hlen
  have e2 := congrArg List.length e
  rw [List.length_append] at e2
  have : m' = [] := List.eq_nil_of_length_eq_zero (by unfold cans at e2; omega)
  subst this
  rw [List.append_nil] at e
  exact ⟨⟨he, e⟩, by rw [← ht, e]⟩
theorem reads_text {s : List UInt8} {l : List Fld} (h : Reads s l) : cardE l = 0 ∧ cardT l = s := ⟨h.1.1, by rw [cardT, if_pos h.1.1, h.1.2]; exact h.2⟩
end Go.Proofs.YtogjokofmfpmgaaGreatDoor
namespace Go.Proofs.YtogjokofmfpmgaaGreatDoor
open Go.RowKit

/-- A request. -/
structure Rq where
  k : Int
  tn : List UInt8
  col : List UInt8
  uid : List UInt8
  card : List UInt8
  ck : Int
  cv : Int
  ops : List OpV
  tok : Int
  most : Int
  ticks : Int
  deriving DecidableEq
def rq0 : Rq := ⟨0, [], [], [], [], 0, 0, [], 0, 0, 0⟩
/-- Which fields a kind has. -/
def hT (k : Int) : Bool := decide (k = 1)
def hC (k : Int) : Bool := decide (2 ≤ k) && decide (k ≤ 9)
def hU (k : Int) : Bool := decide (4 ≤ k) && decide (k ≤ 6)
def hCd (k : Int) : Bool := decide (k = 4)
def hCn (k : Int) : Bool := decide (4 ≤ k) && decide (k ≤ 5)
def hO (k : Int) : Bool := decide (k = 7)
def hTk (k : Int) : Bool := decide (8 ≤ k) && decide (k ≤ 9)
def hM (k : Int) : Bool := decide (k = 8)
def hTi (k : Int) : Bool := decide (k = 9)
def isK (k : Int) : Bool := decide (1 ≤ k) && decide (k ≤ 11)
/-- Names. -/
def lowC (c : Nat) : Prop := 97 ≤ c ∧ c ≤ 122
def nameC (c : Nat) : Prop := lowC c ∨ (48 ≤ c ∧ c ≤ 57) ∨ c = 45
def uidC (c : Nat) : Prop := lowC c ∨ (65 ≤ c ∧ c ≤ 90) ∨ (48 ≤ c ∧ c ≤ 57) ∨ c = 45 ∨ c = 46 ∨ c = 95 ∨ c = 64
instance (c : Nat) : Decidable (lowC c) := by unfold lowC; infer_instance
instance (c : Nat) : Decidable (nameC c) := by unfold nameC; infer_instance
instance (c : Nat) : Decidable (uidC c) := by unfold uidC; infer_instance
def NameP (s : List UInt8) : Prop := 1 ≤ s.length ∧ s.length ≤ 16 ∧ lowC (s.headD 0).toNat ∧ (s.getLastD 0).toNat ≠ 45 ∧ ∀ c ∈ s, nameC c.toNat
def UidP (s : List UInt8) : Prop := 1 ≤ s.length ∧ s.length ≤ 24 ∧ ∀ c ∈ s, uidC c.toNat
instance (s : List UInt8) : Decidable (NameP s) := by unfold NameP; infer_instance
instance (s : List UInt8) : Decidable (UidP s) := by unfold UidP; infer_instance
def nameB (s : List UInt8) : Bool := decide (NameP s)
def uidB (s : List UInt8) : Bool := decide (UidP s)

/-- Why a request may not be. -/
def strayB (q : Rq) : Bool :=
  (!hT q.k && decide (q.tn ≠ [])) || (!hC q.k && decide (q.col ≠ [])) || (!hU q.k && decide (q.uid ≠ [])) || (!hCd q.k && decide (q.card ≠ [])) ||
  (!hCn q.k && (decide (q.ck ≠ 0) || decide (q.cv ≠ 0))) || (!hO q.k && decide (q.ops ≠ [])) || (!hTk q.k && decide (q.tok ≠ 0)) || (!hM q.k && decide (q.most ≠ 0)) || (!hTi q.k && decide (q.ticks ≠ 0)) ||
  q.ops.any (fun o => o.del && decide (o.card ≠ []))
def namedB (q : Rq) : Bool := (!hT q.k || nameB q.tn) && (!hC q.k || nameB q.col) && (!hU q.k || uidB q.uid) && q.ops.all (fun o => uidB o.uid)
noncomputable def isB (s : List UInt8) : Bool := decide (crdE s = 0)
noncomputable def formedB (q : Rq) : Bool := (!hCd q.k || isB q.card) && (!hCn q.k || mayP q.ck q.cv) && q.ops.all (fun o => (o.del || isB o.card) && mayP o.ck o.cv)
def outB (q : Rq) : Bool := (hO q.k && (decide (q.ops.length < 1) || decide (8 < q.ops.length))) || decide (q.tok < 0) || (hM q.k && (decide (q.most < 1) || decide (1000 < q.most))) || decide (q.ticks < 0) || decide (1048576 < q.ticks)
noncomputable def chk (q : Rq) : Int :=
  if isK q.k = false then 12 else if strayB q = true then 1 else if namedB q = false then 3 else if formedB q = false then 1 else if outB q = true then 12 else 0
theorem chk_0 {q : Rq} (h : chk q = 0) : isK q.k = true ∧ strayB q = false ∧ namedB q = true ∧ formedB q = true ∧ outB q = false := by
  unfold chk at h
  cases h1 : isK q.k <;> cases h2 : strayB q <;> cases h3 : namedB q <;> cases h4 : formedB q <;> cases h5 : outB q <;> simp [h1, h2, h3, h4, h5] at h ⊢

/-- Bytes. -/
def condB (ck cv : Int) : List UInt8 := numB ck ++ numB cv
def opB (o : OpV) : List UInt8 := if o.del then numB 1 ++ (textB o.uid ++ condB o.ck o.cv) else numB 0 ++ (textB o.uid ++ (textB o.card ++ condB o.ck o.cv))
def opsB (l : List OpV) : List UInt8 := l.flatMap opB
theorem opsB_snoc (l : List OpV) (o : OpV) : opsB (l ++ [o]) = opsB l ++ opB o := by simp [opsB]
theorem opsB_take (l : List OpV) (k : Nat) (h : k < l.length) : opsB (l.take (k + 1)) = opsB (l.take k) ++ opB l[k] := by
  rw [List.take_succ_eq_append_getElem h, opsB_snoc]
def eT (b : Bool) (s : List UInt8) : List UInt8 := if b then textB s else []
def eN (b : Bool) (n : Int) : List UInt8 := if b then numB n else []
def eC (b : Bool) (ck cv : Int) : List UInt8 := if b then condB ck cv else []
def eO (b : Bool) (l : List OpV) : List UInt8 := if b then numB l.length ++ opsB l else []
def encB (q : Rq) : List UInt8 :=
  eT (hT q.k) q.tn ++ (eT (hC q.k) q.col ++ (eT (hU q.k) q.uid ++ (eT (hCd q.k) q.card ++ (eC (hCn q.k) q.ck q.cv ++ (eO (hO q.k) q.ops ++ (eN (hTk q.k) q.tok ++ (eN (hM q.k) q.most ++ eN (hTi q.k) q.ticks)))))))
/-- What bytes ask. -/
def smallAt (l : List UInt8) : Option (Int × List UInt8) := (numAt l).bind fun p => if p.1 ≤ 2147483647 then some p else none
def condAt (l : List UInt8) : Option ((Int × Int) × List UInt8) := (smallAt l).bind fun p => (numAt p.2).bind fun r => some ((p.1, r.1), r.2)
def opAt (l : List UInt8) : Option (OpV × List UInt8) :=
  (numAt l).bind fun m => if 1 < m.1 then none else (textAt 20000 m.2).bind fun u =>
    if m.1 = 1 then (condAt u.2).bind fun c => some (⟨true, u.1, [], c.1.1, c.1.2⟩, c.2)
    else (textAt 20000 u.2).bind fun t => (condAt t.2).bind fun c => some (⟨false, u.1, t.1, c.1.1, c.1.2⟩, c.2)
def opsN : Nat → List UInt8 → Option (List OpV × List UInt8)
  | 0, l => some ([], l)
  | n + 1, l => (opsN n l).bind fun p => (opAt p.2).bind fun o => some (p.1 ++ [o.1], o.2)
def opsAt (l : List UInt8) : Option (List OpV × List UInt8) := (smallAt l).bind fun p => if 16 < p.1 then none else opsN p.1.toNat p.2
def oT (b : Bool) (l : List UInt8) : Option (List UInt8 × List UInt8) := if b then textAt 20000 l else some ([], l)
def oN (b : Bool) (l : List UInt8) : Option (Int × List UInt8) := if b then numAt l else some (0, l)
def oS (b : Bool) (l : List UInt8) : Option (Int × List UInt8) := if b then smallAt l else some (0, l)
def oC (b : Bool) (l : List UInt8) : Option ((Int × Int) × List UInt8) := if b then condAt l else some ((0, 0), l)
def oO (b : Bool) (l : List UInt8) : Option (List OpV × List UInt8) := if b then opsAt l else some ([], l)
def rawAt (k : Int) (l : List UInt8) : Option (Rq × List UInt8) :=
  (oT (hT k) l).bind fun t => (oT (hC k) t.2).bind fun c => (oT (hU k) c.2).bind fun u => (oT (hCd k) u.2).bind fun d => (oC (hCn k) d.2).bind fun n =>
  (oO (hO k) n.2).bind fun o => (oN (hTk k) o.2).bind fun x => (oS (hM k) x.2).bind fun m => (oS (hTi k) m.2).bind fun i =>
  some (⟨k, t.1, c.1, u.1, d.1, n.1.1, n.1.2, o.1, x.1, m.1, i.1⟩, i.2)
open Classical in
noncomputable def decQ (k : Int) (l : List UInt8) : Rq × Int :=
  if isK k = false then (rq0, 12) else
  match rawAt k l with
  | some (q, []) => if chk q = 0 then (q, 0) else (rq0, chk q)
  | _ => (rq0, 1)

/-- What can stand in bytes. -/
def RawOp (o : OpV) : Prop := o.uid.length ≤ 20000 ∧ o.card.length ≤ 20000 ∧ (o.del = true → o.card = []) ∧ 0 ≤ o.ck ∧ o.ck ≤ 2147483647 ∧ 0 ≤ o.cv ∧ o.cv < 2 ^ 63
structure RawOk (q : Rq) : Prop where
  tn : q.tn.length ≤ 20000 ∧ (hT q.k = false → q.tn = [])
  col : q.col.length ≤ 20000 ∧ (hC q.k = false → q.col = [])
  uid : q.uid.length ≤ 20000 ∧ (hU q.k = false → q.uid = [])
  card : q.card.length ≤ 20000 ∧ (hCd q.k = false → q.card = [])
  cond : 0 ≤ q.ck ∧ q.ck ≤ 2147483647 ∧ 0 ≤ q.cv ∧ q.cv < 2 ^ 63 ∧ (hCn q.k = false → q.ck = 0 ∧ q.cv = 0)
  ops : q.ops.length ≤ 16 ∧ (∀ o ∈ q.ops, RawOp o) ∧ (hO q.k = false → q.ops = [])
  tok : 0 ≤ q.tok ∧ q.tok < 2 ^ 63 ∧ (hTk q.k = false → q.tok = 0)
  most : 0 ≤ q.most ∧ q.most ≤ 2147483647 ∧ (hM q.k = false → q.most = 0)
  ticks : 0 ≤ q.ticks ∧ q.ticks ≤ 2147483647 ∧ (hTi q.k = false → q.ticks = 0)

theorem smallAt_num {n : Int} (h : 0 ≤ n) (h2 : n ≤ 2147483647) (r : List UInt8) : smallAt (numB n ++ r) = some (n, r) := by
  unfold smallAt
  rw [numAt_num h (by omega)]
  simp only [Option.bind_some]
  rw [if_pos h2]
theorem smallAt_some {l r : List UInt8} {n : Int} (h : smallAt l = some (n, r)) : l = numB n ++ r ∧ 0 ≤ n ∧ n ≤ 2147483647 := by
  unfold smallAt at h
  obtain ⟨p, hp, h⟩ := Option.bind_eq_some_iff.1 h
  split at h
  · next h2 =>
    injection h with h
    subst h
    obtain ⟨h3, h4, _⟩ := numAt_some hp
    exact ⟨h3, h4, h2⟩
  · cases h
theorem condAt_cond {ck cv : Int} (h : 0 ≤ ck ∧ ck ≤ 2147483647 ∧ 0 ≤ cv ∧ cv < 2 ^ 63) (r : List UInt8) : condAt (condB ck cv ++ r) = some ((ck, cv), r) := by
  unfold condAt condB
  rw [List.append_assoc, smallAt_num h.1 h.2.1]
  simp only [Option.bind_some]
  rw [numAt_num h.2.2.1 h.2.2.2]
  rfl
theorem condAt_some {l r : List UInt8} {c : Int × Int} (h : condAt l = some (c, r)) : l = condB c.1 c.2 ++ r ∧ 0 ≤ c.1 ∧ c.1 ≤ 2147483647 ∧ 0 ≤ c.2 ∧ c.2 < 2 ^ 63 := by
  unfold condAt at h
  obtain ⟨p, hp, h⟩ := Option.bind_eq_some_iff.1 h
  obtain ⟨v, hv, h⟩ := Option.bind_eq_some_iff.1 h
  injection h with h
  injection h with h1 h2
  subst h1 h2
  obtain ⟨a1, a2, a3⟩ := smallAt_some hp
  obtain ⟨b1, b2, b3⟩ := numAt_some hv
  exact ⟨by unfold condB; rw [List.append_assoc, ← b1, ← a1], a2, a3, b2, b3⟩
theorem opAt_op {o : OpV} (h : RawOp o) (r : List UInt8) : opAt (opB o ++ r) = some (o, r) := by
  obtain ⟨h1, h2, h3, h4⟩ := h
  obtain ⟨del, uid, card, ck, cv⟩ := o
  simp only at h1 h2 h3 h4
  unfold opAt opB
  cases del with
  | true =>
    simp only [if_true]
    rw [List.append_assoc, numAt_num (by decide) (by decide)]
    simp only [Option.bind_some]
    rw [if_neg (by decide), List.append_assoc, textAt_text h1 (by omega)]
    simp only [Option.bind_some, if_true]
    rw [condAt_cond h4]
    simp only [Option.bind_some]
    rw [h3 rfl]
  | false =>
    simp only [Bool.false_eq_true, if_false]
    rw [List.append_assoc, numAt_num (by decide) (by decide)]
    simp only [Option.bind_some]
    rw [if_neg (by decide), List.append_assoc, textAt_text h1 (by omega)]
    simp only [Option.bind_some]
    rw [if_neg (by decide), List.append_assoc, textAt_text h2 (by omega)]
    simp only [Option.bind_some]
    rw [condAt_cond h4]
    rfl
theorem opAt_some {l r : List UInt8} {o : OpV} (h : opAt l = some (o, r)) : l = opB o ++ r ∧ RawOp o := by
  unfold opAt at h
  obtain ⟨m, hm, h⟩ := Option.bind_eq_some_iff.1 h
  obtain ⟨a1, a2, a3⟩ := numAt_some hm
  split at h
  · cases h
  · next hm1 =>
    obtain ⟨u, hu, h⟩ := Option.bind_eq_some_iff.1 h
    obtain ⟨b1, b2⟩ := textAt_some hu
    split at h
    · next h1 =>
      obtain ⟨c, hc, h⟩ := Option.bind_eq_some_iff.1 h
      injection h with h
      injection h with e1 e2
      subst e1 e2
      obtain ⟨c1, c2⟩ := condAt_some hc
      refine ⟨?_, b2, by simp, fun _ => rfl, c2⟩
      unfold opB
      simp only [if_true]
      rw [List.append_assoc, List.append_assoc, ← c1, ← b1, ← h1, ← a1]
    · next h1 =>
      obtain ⟨t, ht, h⟩ := Option.bind_eq_some_iff.1 h
      obtain ⟨d1, d2⟩ := textAt_some ht
      obtain ⟨c, hc, h⟩ := Option.bind_eq_some_iff.1 h
      injection h with h
      injection h with e1 e2
      subst e1 e2
      obtain ⟨c1, c2⟩ := condAt_some hc
      refine ⟨?_, b2, d2, fun h => (by cases h), c2⟩
      unfold opB
      simp only [Bool.false_eq_true, if_false]
      rw [List.append_assoc, List.append_assoc, List.append_assoc, ← c1, ← d1, ← b1, show (0 : Int) = m.1 by omega, ← a1]
theorem opsN_ops (L : List OpV) (hL : ∀ o ∈ L, RawOp o) (r : List UInt8) : ∀ n, n ≤ L.length → opsN n (opsB L ++ r) = some (L.take n, opsB (L.drop n) ++ r)
  | 0, _ => by simp [opsN]
  | n + 1, h => by
    have hn : n < L.length := h
    rw [opsN, opsN_ops L hL r n (by omega)]
    simp only [Option.bind_some]
    have e : L.drop n = L[n] :: L.drop (n + 1) := List.drop_eq_getElem_cons hn
    rw [e]
    show (opAt (opsB (L[n] :: L.drop (n + 1)) ++ r)).bind _ = _
    have e2 : opsB (L[n] :: L.drop (n + 1)) = opB L[n] ++ opsB (L.drop (n + 1)) := by unfold opsB; rw [List.flatMap_cons]
    rw [e2, List.append_assoc, opAt_op (hL _ (List.getElem_mem _))]
    simp only [Option.bind_some]
    rw [List.take_succ_eq_append_getElem hn]
theorem opsN_some : ∀ {n : Nat} {l r : List UInt8} {L : List OpV}, opsN n l = some (L, r) → l = opsB L ++ r ∧ L.length = n ∧ ∀ o ∈ L, RawOp o
  | 0, l, r, L, h => by
    rw [opsN] at h
    injection h with h
    injection h with h1 h2
    subst h1 h2
    exact ⟨rfl, rfl, fun o ho => by cases ho⟩
  | n + 1, l, r, L, h => by
    rw [opsN] at h
    obtain ⟨p, hp, h⟩ := Option.bind_eq_some_iff.1 h
    obtain ⟨o, ho, h⟩ := Option.bind_eq_some_iff.1 h
    injection h with h
    injection h with h1 h2
    subst h1 h2
    obtain ⟨a1, a2, a3⟩ := opsN_some hp
    obtain ⟨b1, b2⟩ := opAt_some ho
    refine ⟨by rw [opsB_snoc, List.append_assoc, ← b1, ← a1], by rw [List.length_append, a2]; rfl, fun x hx => ?_⟩
    rcases List.mem_append.1 hx with hx | hx
    · exact a3 x hx
    · rw [List.mem_singleton.1 hx]; exact b2
theorem oT_enc {b : Bool} {s : List UInt8} (h : s.length ≤ 20000 ∧ (b = false → s = [])) (r : List UInt8) : oT b (eT b s ++ r) = some (s, r) := by
  cases b with
  | true => exact textAt_text h.1 (by have := h.1; omega) r
  | false => rw [h.2 rfl]; rfl
theorem oT_some {b : Bool} {l s r : List UInt8} (h : oT b l = some (s, r)) : l = eT b s ++ r ∧ s.length ≤ 20000 ∧ (b = false → s = []) := by
  cases b with
  | true => have := textAt_some h; exact ⟨this.1, this.2, fun h => by cases h⟩
  | false => injection h with h; injection h with h1 h2; subst h1 h2; exact ⟨rfl, by simp, fun _ => rfl⟩
theorem oN_enc {b : Bool} {n : Int} (h : 0 ≤ n ∧ n < 2 ^ 63 ∧ (b = false → n = 0)) (r : List UInt8) : oN b (eN b n ++ r) = some (n, r) := by
  cases b with
  | true => exact numAt_num h.1 h.2.1 r
  | false => rw [h.2.2 rfl]; rfl
theorem oN_some {b : Bool} {l r : List UInt8} {n : Int} (h : oN b l = some (n, r)) : l = eN b n ++ r ∧ 0 ≤ n ∧ n < 2 ^ 63 ∧ (b = false → n = 0) := by
  cases b with
  | true => have := numAt_some h; exact ⟨this.1, this.2.1, this.2.2, fun h => by cases h⟩
  | false => injection h with h; injection h with h1 h2; subst h1 h2; exact ⟨rfl, by decide, by decide, fun _ => rfl⟩
theorem oS_enc {b : Bool} {n : Int} (h : 0 ≤ n ∧ n ≤ 2147483647 ∧ (b = false → n = 0)) (r : List UInt8) : oS b (eN b n ++ r) = some (n, r) := by
  cases b with
  | true => exact smallAt_num h.1 h.2.1 r
  | false => rw [h.2.2 rfl]; rfl
theorem oS_some {b : Bool} {l r : List UInt8} {n : Int} (h : oS b l = some (n, r)) : l = eN b n ++ r ∧ 0 ≤ n ∧ n ≤ 2147483647 ∧ (b = false → n = 0) := by
  cases b with
  | true => have := smallAt_some h; exact ⟨this.1, this.2.1, this.2.2, fun h => by cases h⟩
  | false => injection h with h; injection h with h1 h2; subst h1 h2; exact ⟨rfl, by decide, by decide, fun _ => rfl⟩
theorem oC_enc {b : Bool} {ck cv : Int} (h : 0 ≤ ck ∧ ck ≤ 2147483647 ∧ 0 ≤ cv ∧ cv < 2 ^ 63 ∧ (b = false → ck = 0 ∧ cv = 0)) (r : List UInt8) : oC b (eC b ck cv ++ r) = some ((ck, cv), r) := by
  cases b with
  | true => exact condAt_cond ⟨h.1, h.2.1, h.2.2.1, h.2.2.2.1⟩ r
  | false => rw [(h.2.2.2.2 rfl).1, (h.2.2.2.2 rfl).2]; rfl
theorem oC_some {b : Bool} {l r : List UInt8} {c : Int × Int} (h : oC b l = some (c, r)) : l = eC b c.1 c.2 ++ r ∧ 0 ≤ c.1 ∧ c.1 ≤ 2147483647 ∧ 0 ≤ c.2 ∧ c.2 < 2 ^ 63 ∧ (b = false → c.1 = 0 ∧ c.2 = 0) := by
  cases b with
  | true => have := condAt_some h; exact ⟨this.1, this.2.1, this.2.2.1, this.2.2.2.1, this.2.2.2.2, fun h => by cases h⟩
  | false => injection h with h; injection h with h1 h2; subst h1 h2; exact ⟨rfl, by decide, by decide, by decide, by decide, fun _ => ⟨rfl, rfl⟩⟩
theorem oO_enc {b : Bool} {L : List OpV} (h : L.length ≤ 16 ∧ (∀ o ∈ L, RawOp o) ∧ (b = false → L = [])) (r : List UInt8) : oO b (eO b L ++ r) = some (L, r) := by
  cases b with
  | true =>
    show opsAt ((numB L.length ++ opsB L) ++ r) = _
    unfold opsAt
    rw [List.append_assoc, smallAt_num (by omega) (by omega)]
    simp only [Option.bind_some]
    rw [if_neg (by omega), Int.toNat_natCast, opsN_ops L h.2.1 r L.length (Nat.le_refl _)]
    simp [opsB]
  | false => rw [h.2.2 rfl]; rfl
theorem oO_some {b : Bool} {l r : List UInt8} {L : List OpV} (h : oO b l = some (L, r)) : l = eO b L ++ r ∧ L.length ≤ 16 ∧ (∀ o ∈ L, RawOp o) ∧ (b = false → L = []) := by
  cases b with
  | true =>
    have h : opsAt l = some (L, r) := h
    unfold opsAt at h
    obtain ⟨p, hp, h⟩ := Option.bind_eq_some_iff.1 h
    obtain ⟨a1, a2, a3⟩ := smallAt_some hp
    split at h
    · cases h
    · next h16 =>
      obtain ⟨b1, b2, b3⟩ := opsN_some h
      refine ⟨?_, by omega, b3, fun h => by cases h⟩
      show l = (numB L.length ++ opsB L) ++ r
      rw [List.append_assoc, ← b1, show ((L.length : Nat) : Int) = p.1 by omega, ← a1]
  | false => injection h with h; injection h with h1 h2; subst h1 h2; exact ⟨rfl, by simp, (fun o ho => by cases ho), fun _ => rfl⟩
theorem raw_enc {q : Rq} (h : RawOk q) (r : List UInt8) : rawAt q.k (encB q ++ r) = some (q, r) := by
  unfold rawAt encB
  simp only [List.append_assoc]
  rw [oT_enc h.tn, Option.bind_some, oT_enc h.col, Option.bind_some, oT_enc h.uid, Option.bind_some, oT_enc h.card, Option.bind_some, oC_enc h.cond, Option.bind_some, oO_enc h.ops, Option.bind_some, oN_enc h.tok, Option.bind_some, oS_enc h.most, Option.bind_some, oS_enc h.ticks, Option.bind_some]
theorem raw_some {k : Int} {l r : List UInt8} {q : Rq} (h : rawAt k l = some (q, r)) : l = encB q ++ r ∧ q.k = k ∧ RawOk q := by
  unfold rawAt at h
  obtain ⟨t, ht, h⟩ := Option.bind_eq_some_iff.1 h
  obtain ⟨c, hc, h⟩ := Option.bind_eq_some_iff.1 h
  obtain ⟨u, hu, h⟩ := Option.bind_eq_some_iff.1 h
  obtain ⟨d, hd, h⟩ := Option.bind_eq_some_iff.1 h
  obtain ⟨n, hn, h⟩ := Option.bind_eq_some_iff.1 h
  obtain ⟨o, ho, h⟩ := Option.bind_eq_some_iff.1 h
  obtain ⟨x, hx, h⟩ := Option.bind_eq_some_iff.1 h
  obtain ⟨m, hm, h⟩ := Option.bind_eq_some_iff.1 h
  obtain ⟨i, hi, h⟩ := Option.bind_eq_some_iff.1 h
  injection h with h
  injection h with e1 e2
  subst e1 e2
  obtain ⟨t1, t2⟩ := oT_some ht
  obtain ⟨c1, c2⟩ := oT_some hc
  obtain ⟨u1, u2⟩ := oT_some hu
  obtain ⟨d1, d2⟩ := oT_some hd
  obtain ⟨n1, n2⟩ := oC_some hn
  obtain ⟨o1, o2⟩ := oO_some ho
  obtain ⟨x1, x2⟩ := oN_some hx
  obtain ⟨m1, m2⟩ := oS_some hm
  obtain ⟨i1, i2⟩ := oS_some hi
  refine ⟨?_, rfl, ⟨t2, c2, u2, d2, n2, o2, x2, m2, i2⟩⟩
  unfold encB
  simp only [List.append_assoc]
  rw [← i1, ← m1, ← x1, ← o1, ← n1, ← d1, ← u1, ← c1, ← t1]

/-- Numbers that a machine holds. -/
structure RqB (q : Rq) : Prop where
  k : -9223372036854775808 ≤ q.k ∧ q.k ≤ 9223372036854775807
  ck : -9223372036854775808 ≤ q.ck ∧ q.ck ≤ 9223372036854775807
  cv : -9223372036854775808 ≤ q.cv ∧ q.cv ≤ 9223372036854775807
  ops : ∀ o ∈ q.ops, (-9223372036854775808 ≤ o.ck ∧ o.ck ≤ 9223372036854775807) ∧ -9223372036854775808 ≤ o.cv ∧ o.cv ≤ 9223372036854775807
  tok : -9223372036854775808 ≤ q.tok ∧ q.tok ≤ 9223372036854775807
  most : -9223372036854775808 ≤ q.most ∧ q.most ≤ 9223372036854775807
  ticks : -9223372036854775808 ≤ q.ticks ∧ q.ticks ≤ 9223372036854775807
theorem may_nn {ck cv : Int} (h : mayP ck cv = true) : 0 ≤ ck ∧ ck ≤ 3 ∧ 0 ≤ cv := by
  unfold mayP at h
  split at h
  · next c =>
    have : cv = 0 := by simpa using h
    omega
  · split at h
    · next c =>
      have : 1 ≤ cv := by simpa using h
      omega
    · cases h
theorem is_len {s : List UInt8} (h : isB s = true) : s.length ≤ 900 := by
  have h : crdE s = 0 := of_decide_eq_true h
  rcases crd_or s with ⟨l, h1, _, _⟩ | ⟨_, _, e⟩
  · exact (reads_len h1).1
  · rw [e] at h; cases h
theorem name_len {s : List UInt8} (h : nameB s = true) : s.length ≤ 16 := (of_decide_eq_true h : NameP s).2.1
theorem uid_len {s : List UInt8} (h : uidB s = true) : s.length ≤ 24 := (of_decide_eq_true h : UidP s).2.1

/-- Which of a request's fields are there. -/
structure Shape (q : Rq) : Prop where
  tn : hT q.k = false → q.tn = []
  col : hC q.k = false → q.col = []
  uid : hU q.k = false → q.uid = []
  card : hCd q.k = false → q.card = []
  cond : hCn q.k = false → q.ck = 0 ∧ q.cv = 0
  ops : hO q.k = false → q.ops = []
  tok : hTk q.k = false → q.tok = 0
  most : hM q.k = false → q.most = 0
  ticks : hTi q.k = false → q.ticks = 0
  del : ∀ o ∈ q.ops, o.del = true → o.card = []
theorem stray_iff (q : Rq) : strayB q = false ↔ Shape q := by
  unfold strayB
  simp only [Bool.or_eq_false_iff, Bool.and_eq_false_iff, Bool.not_eq_false', decide_eq_false_iff_not, Decidable.not_not, List.any_eq_false, Bool.and_eq_true, decide_eq_true_eq, not_and]
  constructor
  · rintro ⟨⟨⟨⟨⟨⟨⟨⟨⟨a, b⟩, c⟩, d⟩, e⟩, f⟩, g⟩, h⟩, i⟩, j⟩
    have w : ∀ {x : Bool} {P : Prop}, (x = true ∨ P) → x = false → P := fun h k => h.elim (fun h => by rw [k] at h; cases h) id
    exact ⟨w a, w b, w c, w d, w e, w f, w g, w h, w i, fun o ho hd => j o ho hd⟩
  · rintro ⟨a, b, c, d, e, f, g, h, i, j⟩
    have w : ∀ {x : Bool} {P : Prop}, (x = false → P) → x = true ∨ P := fun {x P} h => by cases x; exact .inr (h rfl); exact .inl rfl
    exact ⟨⟨⟨⟨⟨⟨⟨⟨⟨w a, w b⟩, w c⟩, w d⟩, w e⟩, w f⟩, w g⟩, w h⟩, w i⟩, fun o ho hd => j o ho hd⟩
theorem raw_of {q : Rq} (h : chk q = 0) (hb : RqB q) : RawOk q := by
  obtain ⟨h1, h2, h3, h4, h5⟩ := chk_0 h
  have s := (stray_iff q).1 h2
  unfold namedB at h3
  simp only [Bool.and_eq_true, Bool.or_eq_true, Bool.not_eq_true', List.all_eq_true] at h3
  unfold formedB at h4
  simp only [Bool.and_eq_true, Bool.or_eq_true, Bool.not_eq_true', List.all_eq_true] at h4
  unfold outB at h5
  simp only [Bool.or_eq_false_iff, Bool.and_eq_false_iff, decide_eq_false_iff_not] at h5
  have e0 : ∀ {s : List UInt8}, s = [] → s.length ≤ 20000 := fun h => by rw [h]; simp
  obtain ⟨⟨⟨⟨r1, r2⟩, r3⟩, r4⟩, r5⟩ := h5
  refine ⟨⟨?_, s.tn⟩, ⟨?_, s.col⟩, ⟨?_, s.uid⟩, ⟨?_, s.card⟩, ?_, ⟨?_, ?_, s.ops⟩, ⟨by omega, by have := hb.tok; omega, s.tok⟩, ?_, ⟨by omega, by omega, s.ticks⟩⟩
  · rcases h3.1.1.1 with h | h
    · exact e0 (s.tn h)
    · have := name_len h; omega
  · rcases h3.1.1.2 with h | h
    · exact e0 (s.col h)
    · have := name_len h; omega
  · rcases h3.1.2 with h | h
    · exact e0 (s.uid h)
    · have := uid_len h; omega
  · rcases h4.1.1 with h | h
    · exact e0 (s.card h)
    · have := is_len h; omega
  · rcases h4.1.2 with h | h
    · obtain ⟨e1, e2⟩ := s.cond h
      rw [e1, e2]
      exact ⟨by decide, by decide, by decide, by decide, fun _ => ⟨rfl, rfl⟩⟩
    · have := may_nn h
      have := hb.cv
      exact ⟨by omega, by omega, by omega, by omega, s.cond⟩
  · rcases r1 with h | h
    · rw [s.ops h]; simp
    · omega
  · intro o ho
    have hu := uid_len (h3.2 o ho)
    have hf := h4.2 o ho
    have hm := may_nn hf.2
    have hv := (hb.ops o ho).2
    refine ⟨by omega, ?_, s.del o ho, by omega, by omega, by omega, by omega⟩
    rcases hf.1 with h | h
    · exact e0 (s.del o ho h)
    · have := is_len h; omega
  · rcases r3 with h | h
    · rw [s.most h]; exact ⟨by decide, by decide, fun _ => rfl⟩
    · exact ⟨by omega, by omega, s.most⟩

/-- Decoded as it was. -/
theorem dec_enc {q : Rq} (h : chk q = 0) (hb : RqB q) : decQ q.k (encB q) = (q, 0) := by
  have h1 := (chk_0 h).1
  have hr := raw_enc (raw_of h hb) []
  rw [List.append_nil] at hr
  unfold decQ
  rw [if_neg (by rw [h1]; decide), hr]
  simp only
  rw [if_pos h]
theorem dec_ok {k : Int} {l : List UInt8} (h : (decQ k l).2 = 0) : (decQ k l).1.k = k ∧ chk (decQ k l).1 = 0 ∧ encB (decQ k l).1 = l ∧ RawOk (decQ k l).1 := by
  unfold decQ at h ⊢
  split at h
  · cases h
  · next hk =>
    rw [if_neg hk]
    split at h
    · next q hq =>
      split at h
      · next hc =>
        rw [if_pos hc]
        obtain ⟨e1, e2, e3⟩ := raw_some hq
        exact ⟨e2, hc, by rw [e1, List.append_nil], e3⟩
      · next hc => exact absurd h hc
    · cases h
end Go.Proofs.YtogjokofmfpmgaaGreatDoor
namespace Go.Proofs.YtogjokofmfpmgaaGreatDoor
open Go.RowKit

def opsE (l : List OpV) : List Value := l.flatMap opEnc
theorem opsE_at (l : List OpV) (i : Nat) (h : i < l.length) (j : Nat) (hj : j < 5) : (opsE l)[i * 5 + j]? = (opEnc l[i])[j]? := flat_at opEnc 5 opEnc_len l i h j hj
end Go.Proofs.YtogjokofmfpmgaaGreatDoor
namespace Go.Proofs.YtogjokofmfpmgaaGreatDoor
open Go.RowKit

theorem undr {B : Nat} {a w : World} (h : Below B a.drew w) : Below B a w := ⟨h.os, h.tape, h.output, h.size, h.block⟩
def I64b (v : Int) : Prop := -9223372036854775808 ≤ v ∧ v ≤ 9223372036854775807
theorem numB_len9 {v : Int} (h : I64b v) : (numB v).length ≤ 9 := numB_len v (by have := h.2; omega)

end Go.Proofs.YtogjokofmfpmgaaGreatDoor
namespace Go.Proofs.YtogjokofmfpmgaaGreatDoor
open Go.RowKit

theorem and255 (x : Int) (h0 : 0 ≤ x) (h1 : x ≤ 9223372036854775807) : bits .and .i64 x 255 = x % 256 := by
  obtain ⟨a, rfl⟩ := Int.eq_ofNat_of_zero_le h0
  have key : (BitVec.ofInt 64 (a : Int) &&& BitVec.ofInt 64 255).toNat = a % 256 := by
    rw [BitVec.toNat_and, BitVec.toNat_ofInt, BitVec.toNat_ofInt]
    rw [show ((a : Int) % ((2 ^ 64 : Nat) : Int)).toNat = a by omega, show ((255 : Int) % ((2 ^ 64 : Nat) : Int)).toNat = 2 ^ 8 - 1 by decide]
    rw [Nat.and_two_pow_sub_one_eq_mod]
  show IntKind.i64.wrap ((BitVec.ofInt 64 (a : Int) &&& BitVec.ofInt 64 255).toNat : Nat) = _
  rw [key, IntKind.wrap_i64]
  omega

theorem row_one {w : World} {B : Nat} (hB : B ≤ w.heap.size) (t : TypeId) (v : Value) : Row (w.alloc (.cells #[v] t)) (From B) t 1 (some ⟨w.heap.size, 0, none⟩) 1 1 [v] :=
  Row.of_block (Blk.new _ _ _) hB (Nat.le_refl _) (by decide) rfl rfl rfl
theorem row_zero {w : World} {B : Nat} (hB : B ≤ w.heap.size) (t : TypeId) : Row (w.alloc (.cells #[] t)) (From B) t 1 (some ⟨w.heap.size, 0, none⟩) 0 0 [] :=
  Row.of_block (Blk.new _ _ _) hB (Nat.le_refl _) (Nat.zero_le _) rfl rfl rfl

set_option maxRecDepth 100000 in
set_option maxHeartbeats 4000000 in
theorem rpnum_calls (w : World) (A : Option Addr) (n c : Nat) (l : List UInt8) (m : Int) (hn : n = l.length) (hr : Rds w A n 1 (u8E l)) (hb : n ≤ 1000000) (hm : m ≤ 9223372036854775807) (hm0 : -9223372036854775808 ≤ m) :
    Calls Tryz.prog 49 #[.slice A n c, .int .i64 m] w fun e w' => BytR 5 w (l ++ numB m) e w' := by
  obtain ⟨i0, hi, hz0, hz1, hz2⟩ := info_parts pkInfo
  have HN := hd hn
  have HR := hd (hr.alloc (.cells #[] 5))
  have HB0 := hd (show Below w.heap.size w (w.alloc (.cells #[] 5)) from (Below.refl _ w).alloc (Nat.le_refl _) _)
  have HR0 := hd (row_zero (w := w) (B := w.heap.size) (Nat.le_refl _) 5)
  have tok1 : True := trivial
  clear hn hr
  by_cases h0 : m < 0
  · have HV := hd (show numB m = [] by unfold numB; rw [if_pos h0])
    go_enter Tryz.func49, Tryz.ntmps49
    go_wp2_with (at_builtin; have _t := tok1; refine wpList_append_rowG rfl _ _ 27 rfl (From w.heap.size) 5 i0 (.int .u8 0) 1 1 Tryz.underlying27 hi hz0 hz1 hz2 rfl _ 0 0 [] rfl HR0.o A n c (u8E l) rfl HR.o (u8E_one _) (by unfold maxLen; omega) (by omega) ?_; intro A2 c2 w2 hown hchg; have HR2 := hd (show Row w2 (From w.heap.size) 5 1 A2 n c2 (u8E l) by simpa using hown.mono (fun q hq => hq.elim id (fun hq => Nat.le_trans HB0.o.size hq))); have HB2 := hd (HB0.o.trans (hchg.below (fun _ h => h) HB0.o.size)); have hs2 := HB2.o.size; clear hown hchg HR0 tok1 _t; simp only [Nat.zero_add])
    go_ret
    exact ⟨⟨A2, n, c2, rfl, by rw [HV.o, List.append_nil]; exact HN.o, by rw [HV.o, List.append_nil]; exact HR2.o, HB2.o⟩⟩
  · by_cases h1 : m < 248
    · have HV := hd (show numB m = [UInt8.ofNat m.toNat] by unfold numB; rw [if_neg h0, if_pos (by omega)])
      have HU := hd (show ((UInt8.ofNat m.toNat).toNat : Int) = m by rw [ofNat_toNat]; omega)
      go_enter Tryz.func49, Tryz.ntmps49
      go_wp2_with (first
        | (at_builtin; have _t := tok1; refine wpList_append_rowG rfl _ _ 27 rfl (From w.heap.size) 5 i0 (.int .u8 0) 1 1 Tryz.underlying27 hi hz0 hz1 hz2 rfl _ 0 0 [] rfl HR0.o A n c (u8E l) rfl HR.o (u8E_one _) (by unfold maxLen; omega) (by omega) ?_; intro A2 c2 w2 hown hchg; have HR2 := hd (show Row w2 (From w.heap.size) 5 1 A2 n c2 (u8E l) by simpa using hown.mono (fun q hq => hq.elim id (fun hq => Nat.le_trans HB0.o.size hq))); have HB2 := hd (HB0.o.trans (hchg.below (fun _ h => h) HB0.o.size)); have hs2 := HB2.o.size; clear hown hchg HR0 tok1 _t; simp only [Nat.zero_add])
        | (at_builtin; refine wpList_append_row rfl _ _ 27 rfl (From w.heap.size) 5 i0 (.int .u8 0) 1 1 Tryz.underlying27 hi hz0 hz1 hz2 rfl A2 n c2 (u8E l) rfl (HR2.o.alloc _) ⟨_, 0, none⟩ 1 1 [.int .u8 m] rfl rfl (cells_at8 (Blk.new_ _ _ (by simp) _ _) rfl) (by simp [Value.oneCell']) (by omega) (by unfold maxLen; omega) (by omega) ?_; intro A3 c3 w3 hown3 hchg3))
      go_ret
      refine ⟨⟨A3, n + 1, c3, rfl, ?_, ?_, ?_⟩⟩
      · rw [HV.o, List.length_append, ← HN.o]; rfl
      · rw [HV.o, u8E_app, show u8E [UInt8.ofNat m.toNat] = [.int .u8 m] by show [Value.int .u8 ((UInt8.ofNat m.toNat).toNat : Int)] = _; rw [HU.o]]
        exact hown3.mono (fun q hq => hq.elim id (fun hq => by simp at hq; show w.heap.size ≤ q; omega))
      · exact HB2.o.trans (((Chg.refl (From w.heap.size) w2).alloc _).trans hchg3 (fun q hq => .inl hq) |>.below (fun _ h => h) hs2)
    · have HV := hd (show numB m = UInt8.ofNat (247 + nb m.toNat) :: be (nb m.toNat) m.toNat by unfold numB; rw [if_neg h0, if_neg (by omega)])
      obtain ⟨M, rfl⟩ : ∃ M : Nat, m = M := ⟨m.toNat, by omega⟩
      rw [Int.toNat_natCast] at HV
      have hM : M < 256 ^ 8 := by have : (256 : Nat) ^ 8 = 18446744073709551616 := by decide
                                  omega
      have HM8 := hd (nb_le hM)
      have HM0 := hd (show M ≠ 0 by omega)
      clear hM
      go_enter Tryz.func49, Tryz.ntmps49
      go_wp2_with (at_builtin; have _t := tok1; refine wpList_append_rowG rfl _ _ 27 rfl (From w.heap.size) 5 i0 (.int .u8 0) 1 1 Tryz.underlying27 hi hz0 hz1 hz2 rfl _ 0 0 [] rfl HR0.o A n c (u8E l) rfl HR.o (u8E_one _) (by unfold maxLen; omega) (by omega) ?_; intro A2 c2 w2 hown hchg; have HR2 := hd (show Row w2 (From w.heap.size) 5 1 A2 n c2 (u8E l) by simpa using hown.mono (fun q hq => hq.elim id (fun hq => Nat.le_trans HB0.o.size hq))); have HB2 := hd (HB0.o.trans (hchg.below (fun _ h => h) HB0.o.size)); have hs2 := HB2.o.size; clear hown hchg HR0 tok1 _t; simp only [Nat.zero_add])
      go_loopw [1, 6] (fun x ll wr => ∃ (j : Nat) (A4 : Option Addr) (c4 : Nat), x = .int .i64 ((M / 256 ^ j : Nat) : Int) ∧ ll = .slice A4 j c4 ∧ j ≤ 8 ∧ Hd (∀ i, i < j → M / 256 ^ i ≠ 0) ∧ Hd (Row wr (From w2.heap.size) 5 1 A4 j c4 (u8E (tl j M))) ∧ Hd (Below w2.heap.size w2 wr)) (fun x _ _ => (intOf x).toNat)
      case atStart => exact ⟨0, none, 0, by simp, rfl, by omega, hd (fun i hi => by omega), hd (Row.nil _ _ _ _), hd (Below.refl _ _)⟩
      case round =>
        obtain ⟨j, A4, c4, rfl, rfl, hj8, HNZ, HR4, HB4⟩ := hrel
        obtain ⟨wi, rfl⟩ : ∃ wi : World, wi = wr := ⟨_, rfl⟩
        have hs4 := HB4.o.size
        obtain ⟨X, hX⟩ : ∃ X, M / 256 ^ j = X := ⟨_, rfl⟩
        have hXM : X ≤ M := by rw [← hX]; exact Nat.div_le_self _ _
        have HX := hd hX
        rw [hX]
        by_cases hz : X = 0
        · subst hz
          have HNB := hd (show nb M = j from nb_of HX.o HNZ.o)
          have HTL := hd (show u8E (l ++ [UInt8.ofNat (247 + nb M)]) = u8E l ++ [.int .u8 (247 + (j : Int))] by
            rw [u8E_app, HNB.o]
            show _ ++ [Value.int .u8 ((UInt8.ofNat (247 + j)).toNat : Int)] = _
            rw [ofNat_toNat, Nat.mod_eq_of_lt (by omega), Int.natCast_add]
            rfl)
          have tok2 : True := trivial
          have HRA := hd ((HR2.o.below HB4.o).alloc (.cells #[.int .u8 (247 + (j : Int))] 5))
          have HBA := hd (HB2.o.trans (HB4.o.mono hs2))
          have HBC := hd (HBA.o.alloc HBA.o.size (.cells #[.int .u8 (247 + (j : Int))] 5))
          clear HX
          have HFR := hd (show ∀ w5 A5 c5, Chg (Of A2) (wi.alloc (.cells #[.int .u8 (247 + (j : Int))] 5)) w5 → Row w5 (Plus (Of A2) (wi.alloc (.cells #[.int .u8 (247 + (j : Int))] 5)).heap.size) 5 1 A5 (n + 1) c5 (u8E l ++ [.int .u8 (247 + (j : Int))]) → Row w5 (From w.heap.size) 5 1 A5 (n + 1) c5 (u8E (l ++ [UInt8.ofNat (247 + nb M)])) ∧ Rds w5 A4 j 1 (u8E (tl j M)) ∧ Below w.heap.size w w5 from fun w5 A5 c5 hc hr => by
            have hsub := HRA.o.of_sub
            refine ⟨?_, ?_, ?_⟩
            · rw [HTL.o]
              exact hr.mono (fun q hq => hq.elim (fun h => hsub q h) (fun h => Nat.le_trans HBC.o.size h))
            · refine (HR4.o.alloc _).rds.chg hc (fun q hq hq2 => ?_)
              have h1 := HR4.o.of_sub q hq
              cases A2 with
              | none => exact Of.none hq2
              | some a => have h2 := HR2.o.lt rfl; have := hq2.some_; have h1 : w2.heap.size ≤ q := h1; omega
            · exact HBC.o.trans (hc.below (fun q hq => hsub q hq) HBC.o.size))
          go_wp2_with (first
            | (at_builtin; have _t := tok2; refine wpList_append_row rfl _ _ 27 rfl (Of A2) 5 i0 (.int .u8 0) 1 1 Tryz.underlying27 hi hz0 hz1 hz2 rfl A2 n c2 (u8E l) rfl HRA.o.own_ ⟨_, 0, none⟩ 1 1 [.int .u8 (247 + (j : Int))] rfl rfl (cells_at8 (Blk.new_ _ _ (by simp) _ _) rfl) (by simp [Value.oneCell']) (by omega) (by unfold maxLen; omega) (by omega) ?_; intro A5 c5 w5 hown5 hchg5; have HF := hd (HFR.o _ _ _ hchg5 hown5); clear tok2 _t hown5 hchg5)
            | (at_builtin; refine wpList_append_rowG rfl _ _ 27 rfl (From w.heap.size) 5 i0 (.int .u8 0) 1 1 Tryz.underlying27 hi hz0 hz1 hz2 rfl A5 (n + 1) c5 (u8E (l ++ [UInt8.ofNat (247 + nb M)])) rfl HF.o.1 A4 j c4 (u8E (tl j M)) rfl HF.o.2.1 (u8E_one _) (by unfold maxLen; omega) (by omega) ?_; intro A6 c6 w6 hown6 hchg6))
          go_ret
          refine ⟨⟨A6, n + 1 + j, c6, rfl, ?_, ?_, HF.o.2.2.trans (hchg6.below (fun _ h => h) HF.o.2.2.size)⟩⟩
          · rw [HV.o, HNB.o, List.length_append, List.length_cons, be_len, ← HN.o]; omega
          · have e : l ++ numB (M : Int) = (l ++ [UInt8.ofNat (247 + nb M)]) ++ tl j M := by
              rw [HV.o, HNB.o, be_tl]; simp
            rw [e, u8E_app]
            exact hown6.mono (fun q hq => hq.elim id (fun hq => Nat.le_trans HF.o.2.2.size hq))
        · have hXp : (0 : Int) < (X : Int) := by omega
          have hXd : decide ((0 : Int) < (X : Int)) = true := by simpa using hXp
          have HAN := hd (show bits BinOp.and IntKind.i64 (X : Int) 255 % 256 = ((UInt8.ofNat X).toNat : Int) by
            rw [and255 X (by omega) (by omega), ofNat_toNat]; omega)
          have hj7 : j < 8 := by
            rcases Nat.lt_or_ge j 8 with h | h
            · exact h
            · exfalso
              apply hz
              rw [← HX.o, show j = 8 by omega]
              exact Nat.div_eq_of_lt (by have : (256 : Nat) ^ 8 = 18446744073709551616 := by decide
                                         omega)
          have HNZ2 := hd (show ∀ i, i < j + 1 → M / 256 ^ i ≠ 0 from fun i hi => by
            by_cases e : i = j
            · rw [e, HX.o]; exact hz
            · exact HNZ.o i (by omega))
          have HDV := hd (show M / 256 ^ (j + 1) = X / 256 by rw [Nat.pow_succ, ← Nat.div_div_eq_div_mul, HX.o])
          have HTL := hd (show u8E (tl (j + 1) M) = [.int .u8 (bits BinOp.and IntKind.i64 (X : Int) 255 % 256)] ++ u8E (tl j M) by
            rw [HAN.o, tl, HX.o]; rfl)
          have HRO := hd (row_one (w := wi) (B := w2.heap.size) hs4 5 (.int .u8 (bits BinOp.and IntKind.i64 (X : Int) 255 % 256)))
          have HBO := hd (HB4.o.alloc hs4 (.cells #[.int .u8 (bits BinOp.and IntKind.i64 (X : Int) 255 % 256)] 5))
          have HR4a := hd (HR4.o.rds.alloc (.cells #[.int .u8 (bits BinOp.and IntKind.i64 (X : Int) 255 % 256)] 5))
          clear hz
          go_wp2_with (at_builtin; refine wpList_append_rowG rfl _ _ 27 rfl (From w2.heap.size) 5 i0 (.int .u8 0) 1 1 Tryz.underlying27 hi hz0 hz1 hz2 rfl _ 1 1 [.int .u8 (bits BinOp.and IntKind.i64 (X : Int) 255 % 256)] rfl HRO.o A4 j c4 (u8E (tl j M)) rfl HR4a.o (u8E_one _) (by unfold maxLen; omega) (by omega) ?_; intro A5 c5 w5 hown5 hchg5)
          have HR5 := hd (show Row w5 (From w2.heap.size) 5 1 A5 (j + 1) c5 (u8E (tl (j + 1) M)) by
            rw [HTL.o, Nat.add_comm j 1]
            exact hown5.mono (fun q hq => hq.elim id (fun hq => Nat.le_trans HBO.o.size hq)))
          have HB5 := hd (HBO.o.trans (hchg5.below (fun _ h => h) HBO.o.size))
          clear hown5 hchg5
          go_roundw
          case rel => exact ⟨j + 1, A5, c5, by rw [HDV.o] <;> (try go_num), by rw [Nat.add_comm] <;> rfl, by omega, HNZ2, HR5, HB5⟩
          case measure => simp [intOf]; omega

end Go.Proofs.YtogjokofmfpmgaaGreatDoor
