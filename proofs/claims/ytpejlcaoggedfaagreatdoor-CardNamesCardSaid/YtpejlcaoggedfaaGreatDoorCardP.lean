/-
  Cards, plain: fields in their order, each once; the text; what a text is parsed to.
-/
import Derived.Test.YtpejlcaoggedfaaGreatDoorFldP
import Derived.Test.YtpejlcaoggedfaaGreatDoorBytesOrd
set_option linter.unusedVariables false
set_option linter.unusedSimpArgs false
namespace Go.Proofs.YtpejlcaoggedfaaGreatDoor
open Go.RowKit Go.Lib

def Rises (l : List Fld) : Prop := l.Pairwise LessP
theorem rises_ext : ∀ {l m : List Fld}, Rises l → Rises m → (∀ x, x ∈ l ↔ x ∈ m) → l = m
  | [], [], _, _, _ => rfl
  | [], b :: m, _, _, h => by have := (h b).2 (by simp); cases this
  | a :: l, [], _, _, h => by have := (h a).1 (by simp); cases this
  | a :: l, b :: m, hl, hm, h => by
    have l1 := (List.pairwise_cons.1 hl).1
    have m1 := (List.pairwise_cons.1 hm).1
    have e : a = b := by
      rcases List.mem_cons.1 ((h a).1 (by simp)) with e | e
      · exact e
      · rcases List.mem_cons.1 ((h b).2 (by simp)) with e' | e'
        · exact e'.symm
        · exact absurd (l1 b e') (less_asym (m1 a e))
    subst e
    have := rises_ext (List.pairwise_cons.1 hl).2 (List.pairwise_cons.1 hm).2 (fun x => by
      constructor
      · intro hx
        rcases List.mem_cons.1 ((h x).1 (by simp [hx])) with e | e
        · exact absurd (l1 x hx) (by rw [e]; exact less_irr a)
        · exact e
      · intro hx
        rcases List.mem_cons.1 ((h x).2 (by simp [hx])) with e | e
        · exact absurd (m1 x hx) (by rw [e]; exact less_irr a)
        · exact e)
    rw [this]

/-- Put where it belongs, unless it is there. -/
def putF (x : Fld) : List Fld → List Fld
  | [] => [x]
  | y :: t => if LessP y x then y :: putF x t else x :: y :: t
def insF (o : List Fld) (x : Fld) : List Fld := if x ∈ o then o else putF x o
theorem mem_putF (x : Fld) : ∀ (o : List Fld) (y : Fld), y ∈ putF x o ↔ y = x ∨ y ∈ o
  | [], y => by simp [putF]
  | z :: t, y => by
    unfold putF
    split
    · rw [List.mem_cons, mem_putF x t y, List.mem_cons]
      constructor
      · rintro (h | h | h)
        · exact .inr (.inl h)
        · exact .inl h
        · exact .inr (.inr h)
      · rintro (h | h | h)
        · exact .inr (.inl h)
        · exact .inl h
        · exact .inr (.inr h)
    · simp
theorem putF_rises (x : Fld) : ∀ (o : List Fld), Rises o → x ∉ o → Rises (putF x o)
  | [], _, _ => by simp [putF, Rises]
  | y :: t, h, hn => by
    have h1 := (List.pairwise_cons.1 h).1
    have h2 := (List.pairwise_cons.1 h).2
    unfold putF
    split
    · next hl =>
      refine List.pairwise_cons.2 ⟨fun z hz => ?_, putF_rises x t h2 (fun hm => hn (by simp [hm]))⟩
      rcases (mem_putF x t z).1 hz with rfl | hz
      · exact hl
      · exact h1 z hz
    · next hl =>
      have hxy : LessP x y := less_not hl (fun e => hn (by simp [e]))
      refine List.pairwise_cons.2 ⟨fun z hz => ?_, h⟩
      rcases List.mem_cons.1 hz with rfl | hz
      · exact hxy
      · exact less_trans hxy (h1 z hz)
theorem putF_len (x : Fld) : ∀ o : List Fld, (putF x o).length = o.length + 1
  | [] => rfl
  | y :: t => by unfold putF; split <;> simp [putF_len x t]
theorem mem_insF (o : List Fld) (x y : Fld) : y ∈ insF o x ↔ y ∈ o ∨ y = x := by
  unfold insF
  split
  · next h => constructor
              · exact .inl
              · rintro (h' | rfl); exact h'; exact h
  · rw [mem_putF]; exact Or.comm
theorem insF_rises {o : List Fld} (h : Rises o) (x : Fld) : Rises (insF o x) := by
  unfold insF
  split
  · exact h
  · next hn => exact putF_rises x o h hn
theorem insF_len (o : List Fld) (x : Fld) : (insF o x).length ≤ o.length + 1 := by
  unfold insF
  split
  · omega
  · rw [putF_len]; exact Nat.le_refl _
def riseF (l : List Fld) : List Fld := l.foldl insF []
theorem fold_ins : ∀ (l o : List Fld), Rises o → Rises (l.foldl insF o) ∧ (∀ y, y ∈ l.foldl insF o ↔ y ∈ o ∨ y ∈ l) ∧ (l.foldl insF o).length ≤ o.length + l.length
  | [], o, h => ⟨h, fun y => by simp, by simp⟩
  | x :: t, o, h => by
    obtain ⟨h1, h2, h3⟩ := fold_ins t (insF o x) (insF_rises h x)
    refine ⟨h1, fun y => ?_, ?_⟩
    · rw [List.foldl_cons, h2 y, mem_insF, List.mem_cons]
      constructor
      · rintro ((h | h) | h)
        · exact .inl h
        · exact .inr (.inl h)
        · exact .inr (.inr h)
      · rintro (h | h | h)
        · exact .inl (.inl h)
        · exact .inl (.inr h)
        · exact .inr h
    · have := insF_len o x
      rw [List.foldl_cons, List.length_cons]
      omega
theorem rise_rises (l : List Fld) : Rises (riseF l) := (fold_ins l [] List.Pairwise.nil).1
theorem mem_rise (l : List Fld) (y : Fld) : y ∈ riseF l ↔ y ∈ l := by
  have := (fold_ins l [] List.Pairwise.nil).2.1 y
  unfold riseF
  simpa using this
theorem rise_len (l : List Fld) : (riseF l).length ≤ l.length := by
  have := (fold_ins l [] List.Pairwise.nil).2.2
  unfold riseF
  simpa using this
theorem rise_self {l : List Fld} (h : Rises l) : riseF l = l := rises_ext (rise_rises l) h (mem_rise l)
theorem rise_of {l m : List Fld} (h : Rises m) (hm : ∀ x, x ∈ m ↔ x ∈ l) : m = riseF l := rises_ext h (rise_rises l) (fun x => (hm x).trans (mem_rise l x).symm)
theorem rise_same {l m : List Fld} (h : ∀ x, x ∈ l ↔ x ∈ m) : riseF l = riseF m := rise_of (rise_rises l) (fun x => (mem_rise l x).trans (h x))
theorem rise_take (l : List Fld) (k : Nat) (h : k < l.length) : riseF (l.take (k + 1)) = insF (riseF (l.take k)) l[k] := by
  unfold riseF
  rw [List.take_succ_eq_append_getElem h, List.foldl_append]
  rfl

/-- Neighbours that are alike, once. -/
def dd1 (o : List Fld) (x : Fld) : List Fld := if o.getLast? = some x then o else o ++ [x]
def dedup (l : List Fld) : List Fld := l.foldl dd1 []
theorem dedup_take (l : List Fld) (k : Nat) (h : k < l.length) : dedup (l.take (k + 1)) = dd1 (dedup (l.take k)) l[k] := by
  unfold dedup
  rw [List.take_succ_eq_append_getElem h, List.foldl_append]
  rfl
theorem dd1_last (o : List Fld) (x : Fld) : (dd1 o x).getLast? = some x := by
  unfold dd1
  split
  · next h => exact h
  · simp
theorem dedup_last (l : List Fld) (k : Nat) (h : k < l.length) : (dedup (l.take (k + 1))).getLast? = some l[k] := by
  rw [dedup_take l k h, dd1_last]
theorem dedup_same (l : List Fld) (k : Nat) (h : k + 1 < l.length) (e : l[k + 1] = l[k]) : dedup (l.take (k + 2)) = dedup (l.take (k + 1)) := by
  rw [dedup_take l (k + 1) h, dd1, if_pos]
  rw [dedup_last l k (by omega), e]
theorem dedup_new (l : List Fld) (k : Nat) (h : k + 1 < l.length) (e : l[k + 1] ≠ l[k]) : dedup (l.take (k + 2)) = dedup (l.take (k + 1)) ++ [l[k + 1]] := by
  rw [dedup_take l (k + 1) h, dd1, if_neg]
  rw [dedup_last l k (by omega)]
  intro h; injection h with h; exact e h.symm
theorem dedup_one (l : List Fld) (h : 0 < l.length) : dedup (l.take 1) = l.take 1 := by
  cases l with
  | nil => simp at h
  | cons a t => simp [dedup, dd1]
theorem dedup_facts : ∀ (l o : List Fld), Rises o → (∀ x ∈ o, ∀ y ∈ l, ¬ LessP y x) → l.Pairwise (fun x y => ¬ LessP y x) →
    Rises (l.foldl dd1 o) ∧ ∀ y, y ∈ l.foldl dd1 o ↔ y ∈ o ∨ y ∈ l
  | [], o, h, _, _ => ⟨h, fun y => by simp⟩
  | x :: t, o, h, h1, h2 => by
    have p1 := (List.pairwise_cons.1 h2).1
    have p2 := (List.pairwise_cons.1 h2).2
    rw [List.foldl_cons]
    have hm : ∀ y, y ∈ dd1 o x ↔ y ∈ o ∨ y = x := by
      intro y
      unfold dd1
      split
      · next hl =>
        have := List.mem_of_getLast? hl
        constructor
        · exact .inl
        · rintro (h | rfl); exact h; exact this
      · simp
    have hr : Rises (dd1 o x) := by
      unfold dd1
      split
      · exact h
      · next hl =>
        refine List.pairwise_append.2 ⟨h, by simp, fun a ha b hb => ?_⟩
        have hb : b = x := by simpa using hb
        subst hb
        have hn := h1 a ha b (by simp)
        by_cases e : a = b
        · subst e
          exfalso
          rcases List.eq_nil_or_concat o with rfl | ⟨o', z, rfl⟩
          · cases ha
          · rw [List.concat_eq_append] at *
            have hz : z ≠ a := fun e => hl (by simp [e])
            rcases List.mem_append.1 ha with ha' | ha'
            · have := (List.pairwise_append.1 h).2.2 a ha' z (by simp)
              exact h1 z (by simp) a (by simp) this
            · exact hz (List.mem_singleton.1 ha').symm
        · exact less_not hn (fun e' => e e'.symm)
    obtain ⟨r1, r2⟩ := dedup_facts t (dd1 o x) hr (fun a ha y hy => by
      rcases (hm a).1 ha with ha | rfl
      · exact h1 a ha y (by simp [hy])
      · exact p1 y hy) p2
    refine ⟨r1, fun y => ?_⟩
    rw [r2 y, hm y, List.mem_cons]
    constructor
    · rintro ((h | h) | h)
      · exact .inl h
      · exact .inr (.inl h)
      · exact .inr (.inr h)
    · rintro (h | h | h)
      · exact .inl (.inl h)
      · exact .inl (.inr h)
      · exact .inr h
/-- Sorted, then each once: that is the order. -/
theorem dedup_sorted {l m : List Fld} (hp : m.Perm l) (hs : m.Pairwise (fun x y => ¬ LessP y x)) : dedup m = riseF l := by
  obtain ⟨h1, h2⟩ := dedup_facts m [] List.Pairwise.nil (fun x hx => by cases hx) hs
  refine rise_of h1 (fun x => ?_)
  rw [show x ∈ dedup m ↔ x ∈ [] ∨ x ∈ m from h2 x]
  simp [hp.mem_iff]

/-- The first error. -/
noncomputable def errL : List Fld → Int
  | [] => 0
  | f :: t => if fldE f = 0 then errL t else fldE f
def cntK (k : Int) (l : List Fld) : Nat := l.countP (fun f => decide (f.k = k))
noncomputable def textL (l : List Fld) : List UInt8 := l.flatMap (fun f => lineF f ++ [10])
noncomputable def cans (l : List Fld) : List Fld := riseF (l.map fldC)
def CntP (l : List Fld) : Prop := cntK 1 l = 1 ∧ cntK 2 l ≤ 1 ∧ cntK 5 l ≤ 1
instance (l : List Fld) : Decidable (CntP l) := by unfold CntP; infer_instance
noncomputable def cardE (l : List Fld) : Int :=
  if errL l ≠ 0 then errL l else if 12 < (cans l).length then 2 else if ¬ CntP (cans l) then 1 else if 900 < (textL (cans l)).length then 2 else 0
noncomputable def cardC (l : List Fld) : List Fld := if cardE l = 0 then cans l else []
noncomputable def cardT (l : List Fld) : List UInt8 := if cardE l = 0 then textL (cans l) else []
theorem errL_0 : ∀ {l : List Fld}, errL l = 0 → ∀ f ∈ l, fldE f = 0
  | [], _, f, hf => by cases hf
  | g :: t, h, f, hf => by
    unfold errL at h
    split at h
    · next c =>
      rcases List.mem_cons.1 hf with rfl | hf
      · exact c
      · exact errL_0 h f hf
    · next c => exact absurd h c
theorem errL_of : ∀ {l : List Fld}, (∀ f ∈ l, fldE f = 0) → errL l = 0
  | [], _ => rfl
  | g :: t, h => by
    unfold errL
    rw [if_pos (h g (by simp))]
    exact errL_of (fun f hf => h f (by simp [hf]))
theorem cardE_0 {l : List Fld} (h : cardE l = 0) : errL l = 0 ∧ (cans l).length ≤ 12 ∧ CntP (cans l) ∧ (textL (cans l)).length ≤ 900 := by
  unfold cardE at h
  split at h
  · next c => exact absurd h c
  · next c =>
    split at h
    · omega
    · split at h
      · omega
      · next c3 =>
        split at h
        · omega
        · exact ⟨Decidable.not_not.1 c, by omega, Decidable.not_not.1 c3, by omega⟩
theorem cardE_of {l : List Fld} (h1 : errL l = 0) (h2 : (cans l).length ≤ 12) (h3 : CntP (cans l)) (h4 : (textL (cans l)).length ≤ 900) : cardE l = 0 := by
  unfold cardE
  rw [if_neg (by simp [h1]), if_neg (by omega), if_neg (by simp [h3]), if_neg (by omega)]
def AllMay (l : List Fld) : Prop := ∀ f ∈ l, MayF f
theorem map_may {l : List Fld} (h : AllMay l) : l.map fldC = l := by
  induction l with
  | nil => rfl
  | cons a t ih =>
    rw [List.map_cons, may_fldC (h a (by simp)), ih (fun f hf => h f (by simp [hf]))]
theorem cans_may {l : List Fld} (h : errL l = 0) : AllMay (cans l) := by
  intro f hf
  obtain ⟨g, hg, rfl⟩ := List.mem_map.1 ((mem_rise _ f).1 hf)
  exact fldC_may (errL_0 h g hg)
/-- A card's fields. -/
def CardOk (l : List Fld) : Prop := cardE l = 0 ∧ cans l = l
theorem cans_self {l : List Fld} (h : AllMay l) (hr : Rises l) : cans l = l := by
  rw [cans, map_may h, rise_self hr]
theorem card_twice {l : List Fld} (h : cardE l = 0) : CardOk (cans l) := by
  obtain ⟨h1, h2, h3, h4⟩ := cardE_0 h
  have hm := cans_may h1
  have hs : cans (cans l) = cans l := cans_self hm (rise_rises _)
  refine ⟨cardE_of (errL_of fun f hf => (hm f hf).1) ?_ ?_ ?_, hs⟩ <;> rw [hs] <;> assumption
theorem ok_may {l : List Fld} (h : CardOk l) : AllMay l := by
  have := cans_may (cardE_0 h.1).1
  rwa [h.2] at this
theorem ok_rises {l : List Fld} (h : CardOk l) : Rises l := by
  have := rise_rises (l.map fldC)
  rw [show riseF (l.map fldC) = l from h.2] at this
  exact this
theorem textL_cons (f : Fld) (t : List Fld) (h : MayF f) : textL (f :: t) = rawL f ++ 10 :: textL t := by
  unfold textL
  rw [List.flatMap_cons, line_yes h]
  simp
theorem textL_app (a b : List Fld) : textL (a ++ b) = textL a ++ textL b := by
  unfold textL; rw [List.flatMap_append]
theorem textL_snoc (a : List Fld) (f : Fld) : textL (a ++ [f]) = textL a ++ (lineF f ++ [10]) := by
  rw [textL_app]; simp [textL]
theorem textL_take (l : List Fld) (k : Nat) (h : k < l.length) : textL (l.take (k + 1)) = textL (l.take k) ++ (lineF l[k] ++ [10]) := by
  rw [List.take_succ_eq_append_getElem h, textL_snoc]
theorem textL_len : ∀ l : List Fld, (textL l).length ≤ l.length * 75
  | [] => by simp [textL]
  | f :: t => by
    have := textL_len t
    have := line_len f
    unfold textL at *
    rw [List.flatMap_cons, List.length_append, List.length_append, List.length_cons]
    simp only [List.length_cons, List.length_nil]
    omega
theorem app_uniq1 (c : UInt8) {a b a' b' : List UInt8} (h : a ++ c :: b = a' ++ c :: b') (ha : c ∉ a) (ha' : c ∉ a') : a = a' ∧ b = b' := by
  obtain ⟨e1, e2⟩ := bef_app c a b ha
  obtain ⟨e3, e4⟩ := bef_app c a' b' ha'
  rw [h] at e1 e2
  exact ⟨e1.symm.trans e3, e2.symm.trans e4⟩
/-- What a text begins with. -/
theorem text_split : ∀ (l m : List Fld) (r : List UInt8), AllMay l → AllMay m → textL m = textL l ++ r → ∃ m', m = l ++ m' ∧ textL m' = r
  | [], m, r, _, _, h => ⟨m, rfl, by simpa [textL] using h⟩
  | f :: t, [], r, hl, _, h => by
    rw [textL_cons f t (hl f (by simp))] at h
    have := congrArg List.length h
    simp [textL] at this
  | f :: t, g :: m, r, hl, hm, h => by
    have hf := hl f (by simp)
    have hg := hm g (by simp)
    rw [textL_cons f t hf, textL_cons g m hg, List.append_assoc, List.cons_append] at h
    obtain ⟨e1, e2⟩ := app_uniq1 10 h (raw_10 hg) (raw_10 hf)
    have e : g = f := found_uniq (s := rawL g) ⟨hg, rfl⟩ ⟨hf, e1.symm⟩
    subst e
    obtain ⟨m', h1, h2⟩ := text_split t m r (fun f hf => hl f (by simp [hf])) (fun f hf => hm f (by simp [hf])) e2
    exact ⟨m', by rw [h1]; rfl, h2⟩
theorem text_nil {m : List Fld} (hm : AllMay m) (h : (10 : UInt8) ∉ textL m) : m = [] := by
  cases m with
  | nil => rfl
  | cons g m => rw [textL_cons g m (hm g (by simp))] at h; simp at h
theorem text_inj {l m : List Fld} (hl : AllMay l) (hm : AllMay m) (h : textL m = textL l) : m = l := by
  obtain ⟨m', e, h'⟩ := text_split l m [] hl hm (by simpa using h)
  have := text_nil (m := m') (fun f hf => hm f (by rw [e]; simp [hf])) (by rw [h']; simp)
  rw [e, this, List.append_nil]
/-- The fields that a text is parsed to. -/
def Reads (s : List UInt8) (l : List Fld) : Prop := CardOk l ∧ textL l = s
theorem reads_uniq {s : List UInt8} {l m : List Fld} (h : Reads s l) (h' : Reads s m) : m = l := text_inj (ok_may h.1) (ok_may h'.1) (h'.2.trans h.2.symm)
open Classical in
noncomputable def crdF (s : List UInt8) : List Fld := if h : ∃ l, Reads s l then h.choose else []
open Classical in
noncomputable def crdE (s : List UInt8) : Int := if ∃ l, Reads s l then 0 else 1
theorem crd_yes {s : List UInt8} {l : List Fld} (h : Reads s l) : crdF s = l ∧ crdE s = 0 := by
  have hx : ∃ f, Reads s f := ⟨l, h⟩
  refine ⟨?_, by simp only [crdE, if_pos hx]⟩
  rw [crdF, dif_pos hx]
  exact (reads_uniq h hx.choose_spec)
theorem crd_no {s : List UInt8} (h : ∀ f, ¬ Reads s f) : crdF s = [] ∧ crdE s = 1 := by
  have hx : ¬ ∃ f, Reads s f := fun ⟨f, hf⟩ => h f hf
  exact ⟨by rw [crdF, dif_neg hx], by simp only [crdE, if_neg hx]⟩
theorem crd_or (s : List UInt8) : (∃ l, Reads s l ∧ crdF s = l ∧ crdE s = 0) ∨ ((∀ l, ¬ Reads s l) ∧ crdF s = [] ∧ crdE s = 1) := by
  by_cases h : ∃ f, Reads s f
  · obtain ⟨f, hf⟩ := h; exact .inl ⟨f, hf, crd_yes hf⟩
  · have : ∀ f, ¬ Reads s f := fun f hf => h ⟨f, hf⟩
    exact .inr ⟨this, crd_no this⟩
theorem reads_len {s : List UInt8} {l : List Fld} (h : Reads s l) : s.length ≤ 900 ∧ l.length ≤ 12 := by
  have := cardE_0 h.1.1
  rw [h.1.2] at this
  exact ⟨by rw [← h.2]; exact this.2.2.2, this.2.1⟩
/-- The lines so far, and what is left. -/
theorem reads_line {s : List UInt8} {l m : List Fld} {r : List UInt8} (hl : AllMay l) (hs : s = textL l ++ r) (h : Reads s m) : ∃ m', m = l ++ m' ∧ textL m' = r ∧ AllMay m' := by
  obtain ⟨m', e, h'⟩ := text_split l m r hl (ok_may h.1) (h.2.trans hs)
  exact ⟨m', e, h', fun f hf => ok_may h.1 f (by rw [e]; simp [hf])⟩
theorem reads_cut {s : List UInt8} {l m : List Fld} {a b : List UInt8} (hl : AllMay l) (hs : s = textL l ++ (a ++ 10 :: b)) (ha : (10 : UInt8) ∉ a) (h : Reads s m) : ∃ f, Found a f := by
  obtain ⟨m', e, h', hm⟩ := reads_line hl hs h
  cases m' with
  | nil => have := congrArg List.length h'; simp [textL] at this
  | cons g t =>
    have hg := hm g (by simp)
    rw [textL_cons g t hg] at h'
    obtain ⟨e1, _⟩ := app_uniq1 10 h' (raw_10 hg) ha
    exact ⟨g, hg, e1⟩
theorem reads_end {s : List UInt8} {l m : List Fld} {r : List UInt8} (hl : AllMay l) (hs : s = textL l ++ r) (hr : (10 : UInt8) ∉ r) (h : Reads s m) : m = l ∧ r = [] := by
  obtain ⟨m', e, h', hm⟩ := reads_line hl hs h
  have := text_nil hm (by rw [h']; exact hr)
  subst this
  exact ⟨by rw [e, List.append_nil], by rw [← h']; rfl⟩
/-- What is checked at the end. -/
theorem reads_of {s : List UInt8} {l : List Fld} {r : List UInt8} (hl : AllMay l) (hs : s = textL l ++ r) (he : cardE l = 0) (ht : cardT l = s) : Reads s l := by
  rw [cardT, if_pos he] at ht
  have hm := cans_may (cardE_0 he).1
  obtain ⟨m', e, h'⟩ := text_split l (cans l) r hl hm (ht.trans hs)
  have hlen := rise_len (l.map fldC)
  rw [List.length_map] at hlen
  have e2 := congrArg List.length e
  rw [List.length_append] at e2
  have : m' = [] := List.eq_nil_of_length_eq_zero (by unfold cans at e2; omega)
  subst this
  rw [List.append_nil] at e
  exact ⟨⟨he, e⟩, by rw [← ht, e]⟩
theorem reads_text {s : List UInt8} {l : List Fld} (h : Reads s l) : cardE l = 0 ∧ cardT l = s := ⟨h.1.1, by rw [cardT, if_pos h.1.1, h.1.2]; exact h.2⟩
theorem cnt_pos {k : Int} {l : List Fld} (h : 0 < cntK k l) : ∃ f ∈ l, f.k = k := by
  obtain ⟨f, hf, hk⟩ := List.countP_pos_iff.1 h
  exact ⟨f, hf, by simpa using hk⟩
/-- The name is ahead. -/
theorem ok_head {l : List Fld} (h : CardOk l) : ∃ f t, l = f :: t ∧ f.k = 1 := by
  have hc := (cardE_0 h.1).2.2.1
  rw [h.2] at hc
  obtain ⟨g, hg, hk⟩ := cnt_pos (k := 1) (l := l) (by rw [hc.1]; exact Nat.one_pos)
  cases l with
  | nil => cases hg
  | cons f t =>
    refine ⟨f, t, rfl, ?_⟩
    rcases List.mem_cons.1 hg with rfl | hg
    · exact hk
    · have h1 := (List.pairwise_cons.1 (ok_rises h)).1 g hg
      have h2 := (may_ok (ok_may h f (by simp))).1
      rcases h1 with h1 | ⟨h1, _⟩ <;> omega

end Go.Proofs.YtpejlcaoggedfaaGreatDoor
