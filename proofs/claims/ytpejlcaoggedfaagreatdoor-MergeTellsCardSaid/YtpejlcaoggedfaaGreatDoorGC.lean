/-
  Cards, plain: fields in their order, each once; the text; what a text is parsed to.
-/
import Derived.Test.YtpejlcaoggedfaaGreatDoorFldP
import Derived.Test.YtpejlcaoggedfaaGreatDoorBytesOrd
import Derived.Test.YtpejlcaoggedfaaGreatDoorBase
import Derived.Test.YtpejlcaoggedfaaGreatDoorFldL
import Derived.Test.YtpejlcaoggedfaaGreatDoorRowLaw
import Derived.Sort.Grow
import Derived.Shelf.SlSortCmp.NoneTotal
import Derived.Shelf.SlLaysF0
import Derived.Test.YtpejlcaoggedfaaGreatDoorProg
import Derived.Laws.StructEq
import Derived.Test.YtpejlcaoggedfaaGreatDoorFldB
import Derived.Deep.RegionHeld3
set_option linter.unusedVariables false
set_option linter.unusedSimpArgs false
namespace Go.Proofs.YtpejlcaoggedfaaGreatDoor
open Go.RowKit Go.Lib

def Rises (l : List Fld) : Prop := l.Pairwise LessP
theorem rises_ext : ∀ {l m : List Fld}, Rises l → Rises m → (∀ x, x ∈ l ↔ x ∈ m) → l = m
  | [], [], _, _, _ => rfl
  | [], b :: m, _, _, h => by have := (h b).2 (by simp); cases this
  | a :: l, [], _, _, h => by have := (h a).1 (by simp); cases this
  | a :: l, b :: m, hl, hm, h => by
    have l1 := (List.pairwise_cons.1 hl).1
    have m1 := (List.pairwise_cons.1 hm).1
    have e : a = b := by
      rcases List.mem_cons.1 ((h a).1 (by simp)) with e | e
      · exact e
      · rcases List.mem_cons.1 ((h b).2 (by simp)) with e' | e'
        · exact e'.symm
        · exact absurd (l1 b e') (less_asym (m1 a e))
    subst e
    have := rises_ext (List.pairwise_cons.1 hl).2 (List.pairwise_cons.1 hm).2 (fun x => by
      constructor
      · intro hx
        rcases List.mem_cons.1 ((h x).1 (by simp [hx])) with e | e
        · exact absurd (l1 x hx) (by rw [e]; exact less_irr a)
        · exact e
      · intro hx
        rcases List.mem_cons.1 ((h x).2 (by simp [hx])) with e | e
        · exact absurd (m1 x hx) (by rw [e]; exact less_irr a)
        · exact e)
    rw [this]

/-- Put where it belongs, unless it is there. -/
def putF (x : Fld) : List Fld → List Fld
  | [] => [x]
  | y :: t => if LessP y x then y :: putF x t else x :: y :: t
def insF (o : List Fld) (x : Fld) : List Fld := if x ∈ o then o else putF x o
theorem mem_putF (x : Fld) : ∀ (o : List Fld) (y : Fld), y ∈ putF x o ↔ y = x ∨ y ∈ o
  | [], y => by simp [putF]
  | z :: t, y => by
    unfold putF
    split
    · rw [List.mem_cons, mem_putF x t y, List.mem_cons]
      constructor
      · rintro (h | h | h)
        · exact .inr (.inl h)
        · exact .inl h
        · exact .inr (.inr h)
      · rintro (h | h | h)
        · exact .inr (.inl h)
        · exact .inl h
        · exact .inr (.inr h)
    · simp
theorem putF_rises (x : Fld) : ∀ (o : List Fld), Rises o → x ∉ o → Rises (putF x o)
  | [], _, _ => by simp [putF, Rises]
  | y :: t, h, hn => by
    have h1 := (List.pairwise_cons.1 h).1
    have h2 := (List.pairwise_cons.1 h).2
    unfold putF
    split
    · next hl =>
      refine List.pairwise_cons.2 ⟨fun z hz => ?_, putF_rises x t h2 (fun hm => hn (by simp [hm]))⟩
      rcases (mem_putF x t z).1 hz with rfl | hz
      · exact hl
      · exact h1 z hz
    · next hl =>
      have hxy : LessP x y := less_not hl (fun e => hn (by simp [e]))
      refine List.pairwise_cons.2 ⟨fun z hz => ?_, h⟩
      rcases List.mem_cons.1 hz with rfl | hz
      · exact hxy
      · exact less_trans hxy (h1 z hz)
theorem putF_len (x : Fld) : ∀ o : List Fld, (putF x o).length = o.length + 1
  | [] => rfl
  | y :: t => by unfold putF; split <;> simp [putF_len x t]
theorem mem_insF (o : List Fld) (x y : Fld) : y ∈ insF o x ↔ y ∈ o ∨ y = x := by
  unfold insF
  split
  · next h => constructor
              · exact .inl
              · rintro (h' | rfl); exact h'; exact h
  · rw [mem_putF]; exact Or.comm
theorem insF_rises {o : List Fld} (h : Rises o) (x : Fld) : Rises (insF o x) := by
  unfold insF
  split
  · exact h
  · next hn => exact putF_rises x o h hn
theorem insF_len (o : List Fld) (x : Fld) : (insF o x).length ≤ o.length + 1 := by
  unfold insF
  split
  · omega
  · rw [putF_len]; exact Nat.le_refl _
def riseF (l : List Fld) : List Fld := l.foldl insF []
theorem fold_ins : ∀ (l o : List Fld), Rises o → Rises (l.foldl insF o) ∧ (∀ y, y ∈ l.foldl insF o ↔ y ∈ o ∨ y ∈ l) ∧ (l.foldl insF o).length ≤ o.length + l.length
  | [], o, h => ⟨h, fun y => by simp, by simp⟩
  | x :: t, o, h => by
    obtain ⟨h1, h2, h3⟩ := fold_ins t (insF o x) (insF_rises h x)
    refine ⟨h1, fun y => ?_, ?_⟩
    · rw [List.foldl_cons, h2 y, mem_insF, List.mem_cons]
      constructor
      · rintro ((h | h) | h)
        · exact .inl h
        · exact .inr (.inl h)
        · exact .inr (.inr h)
      · rintro (h | h | h)
        · exact .inl (.inl h)
        · exact .inl (.inr h)
        · exact .inr h
    · have := insF_len o x
      rw [List.foldl_cons, List.length_cons]
      omega
theorem rise_rises (l : List Fld) : Rises (riseF l) := (fold_ins l [] List.Pairwise.nil).1
theorem mem_rise (l : List Fld) (y : Fld) : y ∈ riseF l ↔ y ∈ l := by
  have := (fold_ins l [] List.Pairwise.nil).2.1 y
  unfold riseF
  simpa using this
theorem rise_len (l : List Fld) : (riseF l).length ≤ l.length := by
  have := (fold_ins l [] List.Pairwise.nil).2.2
  unfold riseF
  simpa using this
theorem rise_self {l : List Fld} (h : Rises l) : riseF l = l := rises_ext (rise_rises l) h (mem_rise l)
theorem rise_of {l m : List Fld} (h : Rises m) (hm : ∀ x, x ∈ m ↔ x ∈ l) : m = riseF l := rises_ext h (rise_rises l) (fun x => (hm x).trans (mem_rise l x).symm)
theorem rise_same {l m : List Fld} (h : ∀ x, x ∈ l ↔ x ∈ m) : riseF l = riseF m := rise_of (rise_rises l) (fun x => (mem_rise l x).trans (h x))
theorem rise_take (l : List Fld) (k : Nat) (h : k < l.length) : riseF (l.take (k + 1)) = insF (riseF (l.take k)) l[k] := by
  unfold riseF
  rw [List.take_succ_eq_append_getElem h, List.foldl_append]
  rfl

/-- Neighbours that are alike, once. -/
def dd1 (o : List Fld) (x : Fld) : List Fld := if o.getLast? = some x then o else o ++ [x]
def dedup (l : List Fld) : List Fld := l.foldl dd1 []
theorem dedup_take (l : List Fld) (k : Nat) (h : k < l.length) : dedup (l.take (k + 1)) = dd1 (dedup (l.take k)) l[k] := by
  unfold dedup
  rw [List.take_succ_eq_append_getElem h, List.foldl_append]
  rfl
theorem dd1_last (o : List Fld) (x : Fld) : (dd1 o x).getLast? = some x := by
  unfold dd1
  split
  · next h => exact h
  · simp
theorem dedup_last (l : List Fld) (k : Nat) (h : k < l.length) : (dedup (l.take (k + 1))).getLast? = some l[k] := by
  rw [dedup_take l k h, dd1_last]
theorem dedup_same (l : List Fld) (k : Nat) (h : k + 1 < l.length) (e : l[k + 1] = l[k]) : dedup (l.take (k + 2)) = dedup (l.take (k + 1)) := by
  rw [dedup_take l (k + 1) h, dd1, if_pos]
  rw [dedup_last l k (by omega), e]
theorem dedup_new (l : List Fld) (k : Nat) (h : k + 1 < l.length) (e : l[k + 1] ≠ l[k]) : dedup (l.take (k + 2)) = dedup (l.take (k + 1)) ++ [l[k + 1]] := by
  rw [dedup_take l (k + 1) h, dd1, if_neg]
  rw [dedup_last l k (by omega)]
  intro h; injection h with h; exact e h.symm
theorem dedup_one (l : List Fld) (h : 0 < l.length) : dedup (l.take 1) = l.take 1 := by
  cases l with
  | nil => simp at h
  | cons a t => simp [dedup, dd1]
theorem dedup_facts : ∀ (l o : List Fld), Rises o → (∀ x ∈ o, ∀ y ∈ l, ¬ LessP y x) → l.Pairwise (fun x y => ¬ LessP y x) →
    Rises (l.foldl dd1 o) ∧ ∀ y, y ∈ l.foldl dd1 o ↔ y ∈ o ∨ y ∈ l
  | [], o, h, _, _ => ⟨h, fun y => by simp⟩
  | x :: t, o, h, h1, h2 => by
    have p1 := (List.pairwise_cons.1 h2).1
    have p2 := (List.pairwise_cons.1 h2).2
    rw [List.foldl_cons]
    have hm : ∀ y, y ∈ dd1 o x ↔ y ∈ o ∨ y = x := by
      intro y
      unfold dd1
      split
      · next hl =>
        have := List.mem_of_getLast? hl
        constructor
        · exact .inl
        · rintro (h | rfl); exact h; exact this
      · simp
    have hr : Rises (dd1 o x) := by
      unfold dd1
      split
      · exact h
      · next hl =>
        refine List.pairwise_append.2 ⟨h, by simp, fun a ha b hb => ?_⟩
        have hb : b = x := by simpa using hb
        subst hb
        have hn := h1 a ha b (by simp)
        by_cases e : a = b
        · subst e
          exfalso
          rcases List.eq_nil_or_concat o with rfl | ⟨o', z, rfl⟩
          · cases ha
          · rw [List.concat_eq_append] at *
            have hz : z ≠ a := fun e => hl (by simp [e])
            rcases List.mem_append.1 ha with ha' | ha'
            · have := (List.pairwise_append.1 h).2.2 a ha' z (by simp)
              exact h1 z (by simp) a (by simp) this
            · exact hz (List.mem_singleton.1 ha').symm
        · exact less_not hn (fun e' => e e'.symm)
    obtain ⟨r1, r2⟩ := dedup_facts t (dd1 o x) hr (fun a ha y hy => by
      rcases (hm a).1 ha with ha | rfl
      · exact h1 a ha y (by simp [hy])
      · exact p1 y hy) p2
    refine ⟨r1, fun y => ?_⟩
    rw [r2 y, hm y, List.mem_cons]
    constructor
    · rintro ((h | h) | h)
      · exact .inl h
      · exact .inr (.inl h)
      · exact .inr (.inr h)
    · rintro (h | h | h)
      · exact .inl (.inl h)
      · exact .inl (.inr h)
      · exact .inr h
/-- Sorted, then each once: that is the order. -/
theorem dedup_sorted {l m : List Fld} (hp : m.Perm l) (hs : m.Pairwise (fun x y => ¬ LessP y x)) : dedup m = riseF l := by
  obtain ⟨h1, h2⟩ := dedup_facts m [] List.Pairwise.nil (fun x hx => by cases hx) hs
  refine rise_of h1 (fun x => ?_)
  rw [show x ∈ dedup m ↔ x ∈ [] ∨ x ∈ m from h2 x]
  simp [hp.mem_iff]

/-- The first error. -/
noncomputable def errL : List Fld → Int
  | [] => 0
  | f :: t => if fldE f = 0 then errL t else fldE f
def cntK (k : Int) (l : List Fld) : Nat := l.countP (fun f => decide (f.k = k))
noncomputable def textL (l : List Fld) : List UInt8 := l.flatMap (fun f => lineF f ++ [10])
noncomputable def cans (l : List Fld) : List Fld := riseF (l.map fldC)
def CntP (l : List Fld) : Prop := cntK 1 l = 1 ∧ cntK 2 l ≤ 1 ∧ cntK 5 l ≤ 1
instance (l : List Fld) : Decidable (CntP l) := by unfold CntP; infer_instance
noncomputable def cardE (l : List Fld) : Int :=
  if errL l ≠ 0 then errL l else if 12 < (cans l).length then 2 else if ¬ CntP (cans l) then 1 else if 900 < (textL (cans l)).length then 2 else 0
noncomputable def cardC (l : List Fld) : List Fld := if cardE l = 0 then cans l else []
noncomputable def cardT (l : List Fld) : List UInt8 := if cardE l = 0 then textL (cans l) else []
theorem errL_0 : ∀ {l : List Fld}, errL l = 0 → ∀ f ∈ l, fldE f = 0
  | [], _, f, hf => by cases hf
  | g :: t, h, f, hf => by
    unfold errL at h
    split at h
    · next c =>
      rcases List.mem_cons.1 hf with rfl | hf
      · exact c
      · exact errL_0 h f hf
    · next c => exact absurd h c
theorem errL_of : ∀ {l : List Fld}, (∀ f ∈ l, fldE f = 0) → errL l = 0
  | [], _ => rfl
  | g :: t, h => by
    unfold errL
    rw [if_pos (h g (by simp))]
    exact errL_of (fun f hf => h f (by simp [hf]))
theorem cardE_0 {l : List Fld} (h : cardE l = 0) : errL l = 0 ∧ (cans l).length ≤ 12 ∧ CntP (cans l) ∧ (textL (cans l)).length ≤ 900 := by
  unfold cardE at h
  split at h
  · next c => exact absurd h c
  · next c =>
    split at h
    · omega
    · split at h
      · omega
      · next c3 =>
        split at h
        · omega
        · exact ⟨Decidable.not_not.1 c, by omega, Decidable.not_not.1 c3, by omega⟩
theorem cardE_of {l : List Fld} (h1 : errL l = 0) (h2 : (cans l).length ≤ 12) (h3 : CntP (cans l)) (h4 : (textL (cans l)).length ≤ 900) : cardE l = 0 := by
  unfold cardE
  rw [if_neg (by simp [h1]), if_neg (by omega), if_neg (by simp [h3]), if_neg (by omega)]
def AllMay (l : List Fld) : Prop := ∀ f ∈ l, MayF f
theorem map_may {l : List Fld} (h : AllMay l) : l.map fldC = l := by
  induction l with
  | nil => rfl
  | cons a t ih =>
    rw [List.map_cons, may_fldC (h a (by simp)), ih (fun f hf => h f (by simp [hf]))]
theorem cans_may {l : List Fld} (h : errL l = 0) : AllMay (cans l) := by
  intro f hf
  obtain ⟨g, hg, rfl⟩ := List.mem_map.1 ((mem_rise _ f).1 hf)
  exact fldC_may (errL_0 h g hg)
/-- A card's fields. -/
def CardOk (l : List Fld) : Prop := cardE l = 0 ∧ cans l = l
theorem cans_self {l : List Fld} (h : AllMay l) (hr : Rises l) : cans l = l := by
  rw [cans, map_may h, rise_self hr]
theorem card_twice {l : List Fld} (h : cardE l = 0) : CardOk (cans l) := by
  obtain ⟨h1, h2, h3, h4⟩ := cardE_0 h
  have hm := cans_may h1
  have hs : cans (cans l) = cans l := cans_self hm (rise_rises _)
  refine ⟨cardE_of (errL_of fun f hf => (hm f hf).1) ?_ ?_ ?_, hs⟩ <;> rw [hs] <;> assumption
theorem ok_may {l : List Fld} (h : CardOk l) : AllMay l := by
  have := cans_may (cardE_0 h.1).1
  rwa [h.2] at this
theorem ok_rises {l : List Fld} (h : CardOk l) : Rises l := by
  have := rise_rises (l.map fldC)
  rw [show riseF (l.map fldC) = l from h.2] at this
  exact this
theorem textL_cons (f : Fld) (t : List Fld) (h : MayF f) : textL (f :: t) = rawL f ++ 10 :: textL t := by
  unfold textL
  rw [List.flatMap_cons, line_yes h]
  simp
theorem textL_app (a b : List Fld) : textL (a ++ b) = textL a ++ textL b := by
  unfold textL; rw [List.flatMap_append]
theorem textL_snoc (a : List Fld) (f : Fld) : textL (a ++ [f]) = textL a ++ (lineF f ++ [10]) := by
  rw [textL_app]; simp [textL]
theorem textL_take (l : List Fld) (k : Nat) (h : k < l.length) : textL (l.take (k + 1)) = textL (l.take k) ++ (lineF l[k] ++ [10]) := by
  rw [List.take_succ_eq_append_getElem h, textL_snoc]
theorem textL_len : ∀ l : List Fld, (textL l).length ≤ l.length * 75
  | [] => by simp [textL]
  | f :: t => by
    have := textL_len t
    have := line_len f
    unfold textL at *
    rw [List.flatMap_cons, List.length_append, List.length_append, List.length_cons]
    simp only [List.length_cons, List.length_nil]
    omega
theorem app_uniq1 (c : UInt8) {a b a' b' : List UInt8} (h : a ++ c :: b = a' ++ c :: b') (ha : c ∉ a) (ha' : c ∉ a') : a = a' ∧ b = b' := by
  obtain ⟨e1, e2⟩ := bef_app c a b ha
  obtain ⟨e3, e4⟩ := bef_app c a' b' ha'
  rw [h] at e1 e2
  exact ⟨e1.symm.trans e3, e2.symm.trans e4⟩
/-- What a text begins with. -/
theorem text_split : ∀ (l m : List Fld) (r : List UInt8), AllMay l → AllMay m → textL m = textL l ++ r → ∃ m', m = l ++ m' ∧ textL m' = r
  | [], m, r, _, _, h => ⟨m, rfl, by simpa [textL] using h⟩
  | f :: t, [], r, hl, _, h => by
    rw [textL_cons f t (hl f (by simp))] at h
    have := congrArg List.length h
    simp [textL] at this
  | f :: t, g :: m, r, hl, hm, h => by
    have hf := hl f (by simp)
    have hg := hm g (by simp)
    rw [textL_cons f t hf, textL_cons g m hg, List.append_assoc, List.cons_append] at h
    obtain ⟨e1, e2⟩ := app_uniq1 10 h (raw_10 hg) (raw_10 hf)
    have e : g = f := found_uniq (s := rawL g) ⟨hg, rfl⟩ ⟨hf, e1.symm⟩
    subst e
    obtain ⟨m', h1, h2⟩ := text_split t m r (fun f hf => hl f (by simp [hf])) (fun f hf => hm f (by simp [hf])) e2
    exact ⟨m', by rw [h1]; rfl, h2⟩
theorem text_nil {m : List Fld} (hm : AllMay m) (h : (10 : UInt8) ∉ textL m) : m = [] := by
  cases m with
  | nil => rfl
  | cons g m => rw [textL_cons g m (hm g (by simp))] at h; simp at h
theorem text_inj {l m : List Fld} (hl : AllMay l) (hm : AllMay m) (h : textL m = textL l) : m = l := by
  obtain ⟨m', e, h'⟩ := text_split l m [] hl hm (by simpa using h)
  have := text_nil (m := m') (fun f hf => hm f (by rw [e]; simp [hf])) (by rw [h']; simp)
  rw [e, this, List.append_nil]
/-- The fields that a text is parsed to. -/
def Reads (s : List UInt8) (l : List Fld) : Prop := CardOk l ∧ textL l = s
theorem reads_uniq {s : List UInt8} {l m : List Fld} (h : Reads s l) (h' : Reads s m) : m = l := text_inj (ok_may h.1) (ok_may h'.1) (h'.2.trans h.2.symm)
open Classical in
noncomputable def crdF (s : List UInt8) : List Fld := if h : ∃ l, Reads s l then h.choose else []
open Classical in
noncomputable def crdE (s : List UInt8) : Int := if ∃ l, Reads s l then 0 else 1
theorem crd_yes {s : List UInt8} {l : List Fld} (h : Reads s l) : crdF s = l ∧ crdE s = 0 := by
  have hx : ∃ f, Reads s f := ⟨l, h⟩
  refine ⟨?_, by simp only [crdE, if_pos hx]⟩
  rw [crdF, dif_pos hx]
  exact (reads_uniq h hx.choose_spec)
theorem crd_no {s : List UInt8} (h : ∀ f, ¬ Reads s f) : crdF s = [] ∧ crdE s = 1 := by
  have hx : ¬ ∃ f, Reads s f := fun ⟨f, hf⟩ => h f hf
  exact ⟨by rw [crdF, dif_neg hx], by simp only [crdE, if_neg hx]⟩
theorem crd_or (s : List UInt8) : (∃ l, Reads s l ∧ crdF s = l ∧ crdE s = 0) ∨ ((∀ l, ¬ Reads s l) ∧ crdF s = [] ∧ crdE s = 1) := by
  by_cases h : ∃ f, Reads s f
  · obtain ⟨f, hf⟩ := h; exact .inl ⟨f, hf, crd_yes hf⟩
  · have : ∀ f, ¬ Reads s f := fun f hf => h ⟨f, hf⟩
    exact .inr ⟨this, crd_no this⟩
theorem reads_len {s : List UInt8} {l : List Fld} (h : Reads s l) : s.length ≤ 900 ∧ l.length ≤ 12 := by
  have := cardE_0 h.1.1
  rw [h.1.2] at this
  exact ⟨by rw [← h.2]; exact this.2.2.2, this.2.1⟩
/-- The lines so far, and what is left. -/
theorem reads_line {s : List UInt8} {l m : List Fld} {r : List UInt8} (hl : AllMay l) (hs : s = textL l ++ r) (h : Reads s m) : ∃ m', m = l ++ m' ∧ textL m' = r ∧ AllMay m' := by
  obtain ⟨m', e, h'⟩ := text_split l m r hl (ok_may h.1) (h.2.trans hs)
  exact ⟨m', e, h', fun f hf => ok_may h.1 f (by rw [e]; simp [hf])⟩
theorem reads_cut {s : List UInt8} {l m : List Fld} {a b : List UInt8} (hl : AllMay l) (hs : s = textL l ++ (a ++ 10 :: b)) (ha : (10 : UInt8) ∉ a) (h : Reads s m) : ∃ f, Found a f := by
  obtain ⟨m', e, h', hm⟩ := reads_line hl hs h
  cases m' with
  | nil => have := congrArg List.length h'; simp [textL] at this
  | cons g t =>
    have hg := hm g (by simp)
    rw [textL_cons g t hg] at h'
    obtain ⟨e1, _⟩ := app_uniq1 10 h' (raw_10 hg) ha
    exact ⟨g, hg, e1⟩
theorem reads_end {s : List UInt8} {l m : List Fld} {r : List UInt8} (hl : AllMay l) (hs : s = textL l ++ r) (hr : (10 : UInt8) ∉ r) (h : Reads s m) : m = l ∧ r = [] := by
  obtain ⟨m', e, h', hm⟩ := reads_line hl hs h
  have := text_nil hm (by rw [h']; exact hr)
  subst this
  exact ⟨by rw [e, List.append_nil], by rw [← h']; rfl⟩
/-- What is checked at the end. -/
theorem reads_of {s : List UInt8} {l : List Fld} {r : List UInt8} (hl : AllMay l) (hs : s = textL l ++ r) (he : cardE l = 0) (ht : cardT l = s) : Reads s l := by
  rw [cardT, if_pos he] at ht
  have hm := cans_may (cardE_0 he).1
  obtain ⟨m', e, h'⟩ := text_split l (cans l) r hl hm (ht.trans hs)
  have hlen := rise_len (l.map fldC)
  rw [List.length_map] at hlen
  have e2 := congrArg List.length e
  rw [List.length_append] at e2
  have : m' = [] := List.eq_nil_of_length_eq_zero (by unfold cans at e2; omega)
  subst this
  rw [List.append_nil] at e
  exact ⟨⟨he, e⟩, by rw [← ht, e]⟩
theorem reads_text {s : List UInt8} {l : List Fld} (h : Reads s l) : cardE l = 0 ∧ cardT l = s := ⟨h.1.1, by rw [cardT, if_pos h.1.1, h.1.2]; exact h.2⟩
theorem cnt_pos {k : Int} {l : List Fld} (h : 0 < cntK k l) : ∃ f ∈ l, f.k = k := by
  obtain ⟨f, hf, hk⟩ := List.countP_pos_iff.1 h
  exact ⟨f, hf, by simpa using hk⟩
/-- The name is ahead. -/
theorem ok_head {l : List Fld} (h : CardOk l) : ∃ f t, l = f :: t ∧ f.k = 1 := by
  have hc := (cardE_0 h.1).2.2.1
  rw [h.2] at hc
  obtain ⟨g, hg, hk⟩ := cnt_pos (k := 1) (l := l) (by rw [hc.1]; exact Nat.one_pos)
  cases l with
  | nil => cases hg
  | cons f t =>
    refine ⟨f, t, rfl, ?_⟩
    rcases List.mem_cons.1 hg with rfl | hg
    · exact hk
    · have h1 := (List.pairwise_cons.1 (ok_rises h)).1 g hg
      have h2 := (may_ok (ok_may h f (by simp))).1
      rcases h1 with h1 | ⟨h1, _⟩ <;> omega

end Go.Proofs.YtpejlcaoggedfaaGreatDoor
namespace Go.Proofs.YtpejlcaoggedfaaGreatDoor
open Go.RowKit

def onlyL (l : List Fld) (k : Int) : List Fld := l.filter (fun f => decide (f.k = k))
def woL (l m : List Fld) : List Fld := l.filter (fun f => decide (f ∉ m))
theorem only_take (l : List Fld) (k : Int) (q : Nat) (h : q < l.length) : onlyL (l.take (q + 1)) k = onlyL (l.take q) k ++ (if l[q].k = k then [l[q]] else []) := by
  unfold onlyL
  rw [List.take_succ_eq_append_getElem h, List.filter_append]
  congr 1
  by_cases c : l[q].k = k <;> simp [c]
theorem wo_take (l m : List Fld) (q : Nat) (h : q < l.length) : woL (l.take (q + 1)) m = woL (l.take q) m ++ (if l[q] ∈ m then [] else [l[q]]) := by
  unfold woL
  rw [List.take_succ_eq_append_getElem h, List.filter_append]
  congr 1
  by_cases c : l[q] ∈ m <;> simp [c]
theorem only_len (l : List Fld) (k : Int) : (onlyL l k).length ≤ l.length := List.length_filter_le _ _
theorem wo_len (l m : List Fld) : (woL l m).length ≤ l.length := List.length_filter_le _ _
theorem mem_only {l : List Fld} {k : Int} {f : Fld} : f ∈ onlyL l k ↔ f ∈ l ∧ f.k = k := by unfold onlyL; simp
theorem mem_wo {l m : List Fld} {f : Fld} : f ∈ woL l m ↔ f ∈ l ∧ f ∉ m := by unfold woL; simp

/-- The kinds of which a card may hold many. -/
def Many (k : Nat) : Prop := k = 3 ∨ k = 4 ∨ k = 6
instance (k : Nat) : Decidable (Many k) := by unfold Many; infer_instance
/-- What is taken of the one of two. -/
def keepL (p q r : List Fld) : List Fld := q.filter (fun f => decide (f ∈ r ∨ f ∉ p))
theorem keep_take (p q r : List Fld) (j : Nat) (h : j < q.length) : keepL p (q.take (j + 1)) r = keepL p (q.take j) r ++ (if q[j] ∈ r ∨ q[j] ∉ p then [q[j]] else []) := by
  unfold keepL
  rw [List.take_succ_eq_append_getElem h, List.filter_append]
  congr 1
  by_cases c : q[j] ∈ r ∨ q[j] ∉ p
  · rw [if_pos c]; simp [List.filter, c]
  · rw [if_neg c]; simp [List.filter, c]
theorem keep_len (p q r : List Fld) : (keepL p q r).length ≤ q.length := List.length_filter_le _ _
theorem mem_keep {p q r : List Fld} {f : Fld} : f ∈ keepL p q r ↔ f ∈ q ∧ (f ∈ r ∨ f ∉ p) := by unfold keepL; simp
def pickK (o x y : List Fld) (k : Nat) : List Fld :=
  if Many k then keepL (onlyL o k) (onlyL x k) (onlyL y k) ++ woL (woL (onlyL y k) (onlyL o k)) (onlyL x k)
  else if onlyL x k = onlyL o k then onlyL y k else onlyL x k
def tornK (o x y : List Fld) (k : Nat) : Nat :=
  if Many k ∨ onlyL x k = onlyL o k ∨ onlyL y k = onlyL o k ∨ onlyL x k = onlyL y k then 0 else 1
def mrgL (o x y : List Fld) : Nat → List Fld
  | 0 => []
  | k + 1 => mrgL o x y k ++ pickK o x y (k + 1)
def mrgN (o x y : List Fld) : Nat → Nat
  | 0 => 0
  | k + 1 => mrgN o x y k + tornK o x y (k + 1)
theorem pick_len (o x y : List Fld) (k : Nat) : (pickK o x y k).length ≤ x.length + y.length := by
  have h1 := keep_len (onlyL o k) (onlyL x k) (onlyL y k)
  have h2 := wo_len (woL (onlyL y k) (onlyL o k)) (onlyL x k)
  have h3 := wo_len (onlyL y k) (onlyL o k)
  have h4 := only_len x k
  have h5 := only_len y k
  unfold pickK
  split
  · rw [List.length_append]; omega
  · split <;> omega
theorem mrg_len (o x y : List Fld) : ∀ k, (mrgL o x y k).length ≤ k * (x.length + y.length)
  | 0 => by simp [mrgL]
  | k + 1 => by
    have := mrg_len o x y k
    have := pick_len o x y (k + 1)
    rw [mrgL, List.length_append, Nat.succ_mul]
    omega
theorem pick_mem {o x y : List Fld} {k : Nat} {f : Fld} (h : f ∈ pickK o x y k) : (f ∈ x ∨ f ∈ y) ∧ f.k = k := by
  unfold pickK at h
  split at h
  · rcases List.mem_append.1 h with h | h
    · have := mem_only.1 (mem_keep.1 h).1; exact ⟨.inl this.1, this.2⟩
    · have := mem_only.1 (mem_wo.1 (mem_wo.1 h).1).1; exact ⟨.inr this.1, this.2⟩
  · split at h
    · have := mem_only.1 h; exact ⟨.inr this.1, this.2⟩
    · have := mem_only.1 h; exact ⟨.inl this.1, this.2⟩
theorem mem_mrg {o x y : List Fld} {f : Fld} : ∀ {k : Nat}, f ∈ mrgL o x y k ↔ ∃ j, 1 ≤ j ∧ j ≤ k ∧ f ∈ pickK o x y j
  | 0 => by simp [mrgL]; intros; omega
  | k + 1 => by
    rw [mrgL, List.mem_append, mem_mrg]
    constructor
    · rintro (⟨j, h1, h2, h3⟩ | h)
      · exact ⟨j, h1, by omega, h3⟩
      · exact ⟨k + 1, by omega, by omega, h⟩
    · rintro ⟨j, h1, h2, h3⟩
      by_cases e : j = k + 1
      · subst e; exact .inr h3
      · exact .inl ⟨j, h1, by omega, h3⟩
theorem mrg_mem {o x y : List Fld} {k : Nat} {f : Fld} (h : f ∈ mrgL o x y k) : f ∈ x ∨ f ∈ y := by
  obtain ⟨j, _, _, h⟩ := mem_mrg.1 h
  exact (pick_mem h).1

end Go.Proofs.YtpejlcaoggedfaaGreatDoor
namespace Go.Proofs.YtpejlcaoggedfaaGreatDoor
open Go.RowKit

/-- An item: UID, version, whether it is gone, its card. -/
structure It where
  uid : List UInt8
  ver : Int
  gone : Bool
  card : List UInt8
  deriving DecidableEq
def itEnc (x : It) : List Value := [.string (bs x.uid), .int .i64 x.ver, .bool x.gone, .string (bs x.card)]
/-- A card of a collection: version, text. -/
structure Ce where
  ver : Int
  text : List UInt8
  deriving DecidableEq
def ceEnc (x : Ce) : List Value := [.int .i64 x.ver, .string (bs x.text)]

theorem flat_at {R : Type} (enc : R → List Value) (k : Nat) (hk : ∀ r, (enc r).length = k) : ∀ (l : List R) (i : Nat) (h : i < l.length) (j : Nat), j < k → (l.flatMap enc)[i * k + j]? = (enc l[i])[j]?
  | [], i, h, _, _ => by simp at h
  | a :: l, 0, _, j, hj => by
    rw [List.flatMap_cons, Nat.zero_mul, Nat.zero_add, List.getElem?_append_left (by rw [hk]; exact hj)]
    rfl
  | a :: l, i + 1, h, j, hj => by
    have e : (i + 1) * k + j = k + (i * k + j) := by rw [Nat.add_mul, Nat.one_mul]; omega
    rw [List.flatMap_cons, e, List.getElem?_append_right (by rw [hk]; omega), hk, show k + (i * k + j) - k = i * k + j by omega, flat_at enc k hk l i (by simpa using h) j hj]
    rfl
theorem flat_length {R : Type} (enc : R → List Value) (k : Nat) (hk : ∀ r, (enc r).length = k) (l : List R) : (l.flatMap enc).length = l.length * k := by
  induction l with
  | nil => simp
  | cons a l ih => rw [List.flatMap_cons, List.length_append, hk, ih, List.length_cons, Nat.add_mul]; omega
theorem flat_take {R : Type} (enc : R → List Value) (k : Nat) (hk : ∀ r, (enc r).length = k) : ∀ (l : List R) (i : Nat), (l.flatMap enc).take (i * k) = (l.take i).flatMap enc
  | [], i => by simp
  | a :: l, 0 => by simp
  | a :: l, i + 1 => by
    rw [List.flatMap_cons, Nat.add_mul, Nat.one_mul, Nat.add_comm, List.take_succ_cons, List.flatMap_cons, ← flat_take enc k hk l i]
    rw [List.take_append, hk, List.take_of_length_le (by rw [hk]; omega)]
    congr 2
    omega
theorem flat_drop {R : Type} (enc : R → List Value) (k : Nat) (hk : ∀ r, (enc r).length = k) : ∀ (l : List R) (i : Nat), (l.flatMap enc).drop (i * k) = (l.drop i).flatMap enc
  | [], i => by simp
  | a :: l, 0 => by simp
  | a :: l, i + 1 => by
    rw [List.flatMap_cons, Nat.add_mul, Nat.one_mul, Nat.add_comm, List.drop_succ_cons, ← flat_drop enc k hk l i]
    rw [List.drop_append, hk, List.drop_of_length_le (by rw [hk]; omega), List.nil_append]
    congr 1
    omega
theorem flat_set {R : Type} (enc : R → List Value) (l : List R) (i : Nat) (h : i < l.length) (x : R) : (l.set i x).flatMap enc = (l.take i).flatMap enc ++ enc x ++ (l.drop (i + 1)).flatMap enc := by
  rw [List.set_eq_take_append_cons_drop, if_pos h, List.flatMap_append, List.flatMap_cons, List.append_assoc]

end Go.Proofs.YtpejlcaoggedfaaGreatDoor
namespace Go.Proofs.YtpejlcaoggedfaaGreatDoor
open Go.RowKit Go.Sort

def fEnc (f : Fld) : List Value := [.int .i64 f.k, .int .i64 f.l, .string (bs f.v)]
def fsE (l : List Fld) : List Value := l.flatMap fEnc
theorem fEnc_len (f : Fld) : (fEnc f).length = 3 := rfl
theorem fsE_at (l : List Fld) (i : Nat) (h : i < l.length) (j : Nat) (hj : j < 3) : (fsE l)[i * 3 + j]? = (fEnc l[i])[j]? := flat_at fEnc 3 fEnc_len l i h j hj
theorem fsE_app (a b : List Fld) : fsE (a ++ b) = fsE a ++ fsE b := by unfold fsE; rw [List.flatMap_append]
theorem fsE_snoc (a : List Fld) (f : Fld) : fsE (a ++ [f]) = fsE a ++ fEnc f := by rw [fsE_app]; simp [fsE]
theorem fEnc_one (f : Fld) (v : Value) (h : v ∈ fEnc f) : v.oneCell' = true := by
  simp only [fEnc, List.mem_cons, List.mem_nil_iff, or_false] at h
  rcases h with rfl | rfl | rfl <;> rfl
/-- Two boxes behind each other. -/
def two_c (w' w : World) (t : TypeId) (c1 c2 : Array Value) : Prop := Blk w' w.heap.size t c1 ∧ Blk w' (w.heap.size + 1) t c2
theorem two_c_of (w : World) (t : TypeId) (c1 c2 : Array Value) (os : Array Obj) : two_c (grow ((w.alloc (.cells c1 t)).alloc (.cells c2 t)) os) w t c1 c2 := by
  have h1 : Blk ((w.alloc (.cells c1 t)).alloc (.cells c2 t)) w.heap.size t c1 := (Blk.new w t c1).alloc _
  have h2 : Blk ((w.alloc (.cells c1 t)).alloc (.cells c2 t)) (w.heap.size + 1) t c2 := Blk.new_ _ _ (by simp) _ _
  exact ⟨(heap_grow_old _ _ h1.lt).trans h1, (heap_grow_old _ _ h2.lt).trans h2⟩

end Go.Proofs.YtpejlcaoggedfaaGreatDoor
namespace Go.Proofs.YtpejlcaoggedfaaGreatDoor
open Go.Shelf
def sortFs_ren : Go.Shelf.Ren := ⟨fun | 6 => 34 | 15 => 58 | 14 => 57 | 28 => 91 | 29 => 92 | 20 => 83 | 21 => 84 | 22 => 85 | 23 => 86 | 24 => 87 | 25 => 88 | 26 => 89 | 27 => 90 | 46 => 106 | 47 => 107 | 48 => 108 | 49 => 109 | 50 => 110 | 57 => 127 | n => n, fun | 22 => 22 | 24 => 36 | 25 => 48 | 3 => 3 | 39 => 67 | 0 => 0 | 53 => 97 | 55 => 99 | 4 => 4 | 46 => 90 | 45 => 89 | 50 => 94 | 5 => 5 | 9 => 9 | 66 => 111 | 70 => 115 | 76 => 124 | 77 => 125 | n => n, fun | n => n⟩
theorem sortFs : Go.Proofs.SlLaysF0.n6 Tryz.prog sortFs_ren := {
  mixed := by kernel_rfl
  f6 := ⟨Tryz.f34.name, by decide, Tryz.func34.trans (congrArg some (by kernel_rfl))⟩
  f14 := ⟨Tryz.f57.name, by decide, Tryz.func57.trans (congrArg some (by kernel_rfl))⟩
  f15 := Tryz.func58.trans (congrArg some (by kernel_rfl))
  f20 := ⟨Tryz.f83.name, by decide, Tryz.func83.trans (congrArg some (by kernel_rfl))⟩
  f21 := ⟨Tryz.f84.name, by decide, Tryz.func84.trans (congrArg some (by kernel_rfl))⟩
  f22 := ⟨Tryz.f85.name, by decide, Tryz.func85.trans (congrArg some (by kernel_rfl))⟩
  f23 := ⟨Tryz.f86.name, by decide, Tryz.func86.trans (congrArg some (by kernel_rfl))⟩
  f24 := ⟨Tryz.f87.name, by decide, Tryz.func87.trans (congrArg some (by kernel_rfl))⟩
  f25 := ⟨Tryz.f88.name, by decide, Tryz.func88.trans (congrArg some (by kernel_rfl))⟩
  f26 := ⟨Tryz.f89.name, by decide, Tryz.func89.trans (congrArg some (by kernel_rfl))⟩
  f27 := ⟨Tryz.f90.name, by decide, Tryz.func90.trans (congrArg some (by kernel_rfl))⟩
  f28 := Tryz.func91.trans (congrArg some (by kernel_rfl))
  f29 := Tryz.func92.trans (congrArg some (by kernel_rfl))
  f46 := ⟨Tryz.f106.name, by decide, Tryz.func106.trans (congrArg some (by kernel_rfl))⟩
  f47 := Tryz.func107.trans (congrArg some (by kernel_rfl))
  f48 := Tryz.func108.trans (congrArg some (by kernel_rfl))
  f49 := ⟨Tryz.f109.name, by decide, Tryz.func109.trans (congrArg some (by kernel_rfl))⟩
  f50 := ⟨Tryz.f110.name, by decide, Tryz.func110.trans (congrArg some (by kernel_rfl))⟩
  f57 := ⟨Tryz.f127.name, by decide, Tryz.func127.trans (congrArg some (by kernel_rfl))⟩
  t0 := Tryz.underlying0
  a0 := Tryz.isAgg0
  z0 := Tryz.sizeOf0
  v0 := Tryz.zeroValue0
  t3 := Tryz.underlying3
  a3 := Tryz.isAgg3
  z3 := Tryz.sizeOf3
  v3 := Tryz.zeroValue3
  t4 := Tryz.underlying4
  a4 := Tryz.isAgg4
  z4 := Tryz.sizeOf4
  v4 := Tryz.zeroValue4
  t5 := Tryz.underlying5
  a5 := Tryz.isAgg5
  z5 := Tryz.sizeOf5
  v5 := Tryz.zeroValue5
  t9 := Tryz.underlying9
  a9 := Tryz.isAgg9
  z9 := Tryz.sizeOf9
  v9 := Tryz.zeroValue9
  t22 := Tryz.underlying22
  a22 := Tryz.isAgg22
  z22 := Tryz.sizeOf22
  v22 := Tryz.zeroValue22
  t25 := Tryz.underlying48
  a25 := Tryz.isAgg48
  z25 := Tryz.sizeOf48
  v25 := Tryz.zeroValue48
  t39 := Tryz.underlying67
  a39 := Tryz.isAgg67
  z39 := Tryz.sizeOf67
  v39 := Tryz.zeroValue67
  t45 := Tryz.underlying89
  a45 := Tryz.isAgg89
  z45 := Tryz.sizeOf89
  v45 := Tryz.zeroValue89
  t46 := Tryz.underlying90
  a46 := Tryz.isAgg90
  z46 := Tryz.sizeOf90
  v46 := Tryz.zeroValue90
  t50 := Tryz.underlying94
  a50 := Tryz.isAgg94
  z50 := Tryz.sizeOf94
  v50 := Tryz.zeroValue94
  t53 := Tryz.underlying97
  a53 := Tryz.isAgg97
  z53 := Tryz.sizeOf97
  v53 := Tryz.zeroValue97
  t55 := Tryz.underlying99
  a55 := Tryz.isAgg99
  z55 := Tryz.sizeOf99
  v55 := Tryz.zeroValue99
  t66 := Tryz.underlying111
  a66 := Tryz.isAgg111
  z66 := Tryz.sizeOf111
  v66 := Tryz.zeroValue111
  t70 := Tryz.underlying115
  a70 := Tryz.isAgg115
  z70 := Tryz.sizeOf115
  v70 := Tryz.zeroValue115
  t76 := Tryz.underlying124
  a76 := Tryz.isAgg124
  z76 := Tryz.sizeOf124
  v76 := Tryz.zeroValue124
  t77 := Tryz.underlying125
  a77 := Tryz.isAgg125
  z77 := Tryz.sizeOf125
  v77 := Tryz.zeroValue125 }
end Go.Proofs.YtpejlcaoggedfaaGreatDoor
namespace Go.Proofs.YtpejlcaoggedfaaGreatDoor
open Go.RowKit Go.Shelf Go.Lib Go.Sort

instance : Inhabited Fld := ⟨noFld⟩
def fCmp (x y : Fld) : Int := if lessF x y = true then -1 else if lessF y x = true then 1 else 0
theorem lessF_eq (x y : Fld) : lessF x y = true ↔ LessP x y := by simp [lessF]
theorem ltOf_f (x y : Fld) : ltOf fCmp x y = lessF x y := by
  rw [Bool.eq_iff_iff]
  simp only [ltOf, fCmp, decide_eq_true_iff]
  by_cases h1 : lessF x y = true
  · simp [h1]
  · by_cases h2 : lessF y x = true <;> simp [h1, h2]
theorem swo_f : SWO (ltOf fCmp) where
  irrefl x := by rw [ltOf_f]; simp [lessF, less_irr]
  trans x y z h1 h2 := by
    rw [ltOf_f, lessF_eq] at *
    exact less_trans h1 h2
  ntrans x y z h1 h2 := by
    rw [ltOf_f] at *
    have e1 : ¬ LessP x y := by rw [← lessF_eq]; simp [h1]
    have e2 : ¬ LessP y z := by rw [← lessF_eq]; simp [h2]
    have : ¬ LessP x z := by
      intro h
      by_cases hxy : x = y
      · subst hxy; exact e2 h
      · have := less_not e1 hxy
        exact e2 (less_trans this h)
    simpa [lessF] using this

set_option maxHeartbeats 1000000 in
theorem less_grow (f g : Fld) (w : World) : Calls Tryz.prog 59 #[fldV f, fldV g] w fun e w' => e = .returned (.bool (lessF f g)) ∧ ∃ os', w' = grow w os' := by
  obtain ⟨v, hv⟩ : ∃ v, lessF f g = v := ⟨_, rfl⟩
  rw [hv]
  have HV : Hd (decide (LessP f g) = v) := hd hv
  have hs := bytesLess_dec f.v g.v
  clear hv
  obtain ⟨fk, fl, fv⟩ := f
  obtain ⟨gk, gl, gv⟩ := g
  change Calls _ _ #[.agg #[.int .i64 fk, .int .i64 fl, .string (bs fv)], .agg #[.int .i64 gk, .int .i64 gl, .string (bs gv)]] _ _
  by_cases h1 : fk = gk
  · by_cases h2 : fl = gl
    · subst h1 h2
      have HX := hd (show decide (compareBytes fv gv < 0) = v by
        rw [← HV.o]; congr 1; simp [LessP])
      go_enter Tryz.func59, Tryz.ntmps59
      go_wp2
      go_ret
      exact ⟨retBB (by rw [HX.o]), _, by rw [alloc_eq_grow, alloc_eq_grow, grow_grow]⟩
    · subst h1
      have n2 : (fl != gl) = true := by simpa using h2
      have HX := hd (show decide (fl < gl) = v by
        rw [← HV.o]; congr 1; simp [LessP, h2])
      clear h2
      go_enter Tryz.func59, Tryz.ntmps59
      go_wp2
      go_ret
      exact ⟨retBB (by rw [HX.o]), _, by rw [alloc_eq_grow, alloc_eq_grow, grow_grow]⟩
  · have n1 : (fk != gk) = true := by simpa using h1
    have HX := hd (show decide (fk < gk) = v by
      rw [← HV.o]; congr 1; simp [LessP, h1])
    clear h1
    go_enter Tryz.func59, Tryz.ntmps59
    go_wp2
    go_ret
    exact ⟨retBB (by rw [HX.o]), _, by rw [alloc_eq_grow, alloc_eq_grow, grow_grow]⟩

theorem retII {a b : Int} (h : a = b) : Ending.returned (.int .i64 a) = .returned (.int .i64 b) := by rw [h]
set_option maxHeartbeats 1000000 in
theorem order_calls (x y : Fld) (W : World) : Calls Tryz.prog 35 #[.agg (fEnc x).toArray, .agg (fEnc y).toArray] W fun e w' => e = .returned (.int .i64 (fCmp x y)) ∧ ∃ q os', w' = grow (W.drewN q) os' := by
  have L1 := less_grow x y
  have L2 := less_grow y x
  obtain ⟨v, hv⟩ : ∃ v, fCmp x y = v := ⟨_, rfl⟩
  rw [hv]
  have HV := hd hv
  clear hv
  unfold fCmp at HV
  obtain ⟨xk, xl, xv⟩ := x
  obtain ⟨yk, yl, yv⟩ := y
  simp only [fldV] at L1 L2
  simp only [fEnc]
  generalize bs xv = XV at L1 L2 ⊢
  generalize bs yv = YV at L1 L2 ⊢
  have hC : ∀ os, two_c (grow ((W.alloc (.cells #[.int .i64 xk, .int .i64 xl, .string XV] 36)).alloc (.cells #[.int .i64 yk, .int .i64 yl, .string YV] 36)) os) W 36 #[.int .i64 xk, .int .i64 xl, .string XV] #[.int .i64 yk, .int .i64 yl, .string YV] := fun os => two_c_of _ _ _ _ _
  cases h1 : lessF ⟨xk, xl, xv⟩ ⟨yk, yl, yv⟩ with
  | true =>
    rw [h1] at L1 HV
    have H1 := hd L1
    clear L1 L2 h1
    go_enter Tryz.func35, Tryz.ntmps35
    go_wp2_with fail
    refine (H1.o _).mono ?_
    rintro e w1 ⟨rfl, os, rfl⟩
    go_wp2
    go_ret
    exact ⟨retII (by rw [← HV.o]; rfl), 0, _, by rw [alloc_eq_grow, alloc_eq_grow, grow_grow, grow_grow]; rfl⟩
  | false =>
    rw [h1] at L1 HV
    cases h2 : lessF ⟨yk, yl, yv⟩ ⟨xk, xl, xv⟩ with
    | true =>
      rw [h2] at L2 HV
      have H1 := hd L1
      have H2 := hd L2
      clear L1 L2 h1 h2
      go_enter Tryz.func35, Tryz.ntmps35
      go_wp2_with fail
      refine (H1.o _).mono ?_
      rintro e w1 ⟨rfl, os, rfl⟩
      obtain ⟨k1, k2⟩ := hC os
      have a0 := k1.at_ 0 rfl
      have a1 := k1.at_ 1 rfl
      have a2 := k1.at_ 2 rfl
      have b0 := k2.at_ 0 rfl
      have b1 := k2.at_ 1 rfl
      have b2 := k2.at_ 2 rfl
      clear k1 k2
      go_wp2_with fail
      clear a0 a1 a2 b0 b1 b2
      refine (H2.o _).mono ?_
      rintro e w1 ⟨rfl, os2, rfl⟩
      go_wp2
      go_ret
      exact ⟨retII (by rw [← HV.o]; rfl), 0, _, by rw [alloc_eq_grow, alloc_eq_grow, grow_grow, grow_grow, grow_grow]; rfl⟩
    | false =>
      rw [h2] at L2 HV
      have H1 := hd L1
      have H2 := hd L2
      clear L1 L2 h1 h2
      go_enter Tryz.func35, Tryz.ntmps35
      go_wp2_with fail
      refine (H1.o _).mono ?_
      rintro e w1 ⟨rfl, os, rfl⟩
      obtain ⟨k1, k2⟩ := hC os
      have a0 := k1.at_ 0 rfl
      have a1 := k1.at_ 1 rfl
      have a2 := k1.at_ 2 rfl
      have b0 := k2.at_ 0 rfl
      have b1 := k2.at_ 1 rfl
      have b2 := k2.at_ 2 rfl
      clear k1 k2
      go_wp2_with fail
      clear a0 a1 a2 b0 b1 b2
      refine (H2.o _).mono ?_
      rintro e w1 ⟨rfl, os2, rfl⟩
      go_wp2
      go_ret
      exact ⟨retII (by rw [← HV.o]; rfl), 0, _, by rw [alloc_eq_grow, alloc_eq_grow, grow_grow, grow_grow, grow_grow]; rfl⟩

theorem fsE_len (l : List Fld) : (fsE l).length = l.length * 3 := flat_length fEnc 3 fEnc_len l
theorem fsE_at3 (l : List Fld) (t : Nat) (ht : t < l.length * 3) : (fsE l)[t]? = some (fEnc (l[t / 3]?.getD default))[t % 3]! := by
  have hk : t / 3 < l.length := by omega
  have h := flat_at fEnc 3 fEnc_len l (t / 3) hk (t % 3) (Nat.mod_lt _ (by decide))
  have ht2 : t / 3 * 3 + t % 3 = t := by omega
  rw [ht2] at h
  show (l.flatMap fEnc)[t]? = _
  rw [h]
  have hx : l[t / 3]?.getD default = l[t / 3] := by simp [hk]
  rw [hx]
  have hl : t % 3 < (fEnc l[t / 3]).length := by rw [fEnc_len]; exact Nat.mod_lt _ (by decide)
  rw [getElem!_pos (fEnc (l[t / 3])) (t % 3) hl, List.getElem?_eq_getElem hl]

/-- SortFunc. -/
def SortFs : Prop := ∀ (w : World) (S : Nat → Prop) (A : Option Addr) (n c : Nat) (l : List Fld), n = l.length → Row w S 36 3 A n c (fsE l) → n ≤ 1000000 →
  Calls Tryz.prog 34 #[.slice A n c, .func (.func 35) #[] #[]] w fun e w' => e = .returned (.tuple #[]) ∧ ∃ l' : List Fld, l'.Perm l ∧ l'.Pairwise (fun x y => lessF y x = false) ∧ Row w' S 36 3 A n c (fsE l') ∧ Chg (Of A) w w'

theorem holdsK_of_row {w : World} {S : Nat → Prop} {g n c : Nat} {l : List Fld} (hr : Row w S 36 3 (some ⟨g, 0, none⟩) n c (fsE l)) (hn : n = l.length) : HoldsK fEnc 3 w g 0 l.toArray := by
  intro t ht
  rw [size_flatK] at ht
  simp only [List.size_toArray] at ht
  obtain ⟨g', hA, _, _, _, _, hc, hf⟩ := hr.at_ (by omega)
  injection hA with hA
  injection hA with hA
  subst hA
  refine ⟨?_, hf _⟩
  rw [Nat.zero_add]
  refine hc t _ ?_
  rw [get_flatK _ _ _ _ (by simpa using ht)]
  have hk : t / 3 < l.length := by omega
  have hx : (l.toArray)[t / 3]! = l[t / 3]?.getD default := by
    rw [getElem!_pos _ _ (by simpa using hk)]
    simp [hk]
  rw [hx]
  exact fsE_at3 l t (by omega)

theorem flat_toList (l : List Fld) : (flatK fEnc 3 l.toArray).toList = fsE l := by
  apply List.ext_getElem?
  intro t
  by_cases ht : t < l.length * 3
  · rw [fsE_at3 l t ht, Array.getElem?_toList, Array.getElem?_eq_getElem (by rw [size_flatK]; simpa using ht)]
    rw [← getElem!_pos _ t (by rw [size_flatK]; simpa using ht), get_flatK _ _ _ _ (by simpa using ht)]
    have hx : (l.toArray)[t / 3]! = l[t / 3]?.getD default := by
      rw [getElem!_pos _ _ (by simp; omega)]
      simp [show t / 3 < l.length by omega]
    rw [hx]
  · rw [List.getElem?_eq_none (by rw [Array.length_toList, size_flatK]; simp; omega), List.getElem?_eq_none (by rw [fsE_len]; omega)]

/-- Behind the sort the same slice owns the sorted row. -/
theorem row_sorted {w : World} {S : Nat → Prop} {g n c m : Nat} {l l' : List Fld} {os : Array Obj} (hr : Row w S 36 3 (some ⟨g, 0, none⟩) n c (fsE l)) (hn : n = l.length) (hl : l'.length = l.length) :
    Row (sortWorldK fEnc 3 w g 0 m l'.toArray os) S 36 3 (some ⟨g, 0, none⟩) n c (fsE l') ∧ Chg (Of (some ⟨g, 0, none⟩)) w (sortWorldK fEnc 3 w g 0 m l'.toArray os) := by
  obtain ⟨g', cur, e, hS, hb, hnc, hcm, hcs, ht⟩ := hr.block rfl
  injection e with e
  subst e
  have hg := hb.lt
  have hF : (flatK fEnc 3 l'.toArray).size = n * 3 := by rw [size_flatK]; simp [hl, hn]
  have hbl : Blk (sortWorldK fEnc 3 w g 0 m l'.toArray os) g 36 (putCells id 0 (flatK fEnc 3 l'.toArray) cur) := by
    unfold Blk sortWorldK
    rw [heap_grow_old _ _ (by simpa [putRowK] using hg)]
    unfold Blk at hb
    simp [putRowK, putRow, mapBlock, Sort.ahead, Array.getElem?_modify, hb, onCells]
  refine ⟨Row.of_block hbl hS hnc hcm (by simp [putCells, hcs]) ?_ (by rw [fsE_len, hl, hn]), ⟨rfl, rfl, rfl, by simp [sortWorldK, putRowK], fun k hk hne => ?_⟩⟩
  · rw [← flat_toList, ← hF]
    apply List.ext_getElem?
    intro j
    by_cases hj : j < (flatK fEnc 3 l'.toArray).size
    · have hjc : j < cur.size := by omega
      rw [List.getElem?_take_of_lt hj, Array.getElem?_toList, Array.getElem?_toList]
      generalize flatK fEnc 3 l'.toArray = F at hj hF
      simp [putCells, hj, hjc]
    · rw [List.getElem?_take_eq_none (by omega), List.getElem?_eq_none (by rw [Array.length_toList]; omega)]
  · unfold sortWorldK
    rw [heap_grow_old _ _ (by simpa [putRowK] using hk)]
    have : g ≠ k := fun e => hne (by rw [← e]; rfl)
    simp [putRowK, putRow, mapBlock, Sort.ahead, Array.getElem?_modify, this]

theorem cmpLays_f (blk off size : Nat) (w : World) : CmpLays Tryz.prog 35 #[] fEnc 3 fCmp blk off size w :=
  fun _ _ _ _ x y => order_calls x y _

theorem sortFs_holds : SortFs := by
  intro w S A n c l hn hr hsz
  cases A with
  | none =>
    obtain ⟨rfl, rfl, h3⟩ := hr.none_
    have hl : l = [] := List.eq_nil_of_length_eq_zero hn.symm
    subst hl
    have hcon := AnyF.slices_SortFunc_none sortFs none 0 (.func (.func 35) #[] #[]) w
    change Calls Tryz.prog 34 _ _ _ at hcon
    refine hcon.mono ?_
    rintro e w' ⟨rfl, rfl⟩
    exact ⟨rfl, [], List.Perm.refl _, List.Pairwise.nil, hr, Chg.refl _ _⟩
  | some a =>
    obtain ⟨g, cur, rfl, _⟩ := hr.block rfl
    have eg : ∀ args w, (callFunc 35 args).run Tryz.prog w = .ok (.enter 35 args) w := enters_of Tryz.func35 (by kernel_rfl) rfl
    by_cases h0 : n = 0
    · subst h0
      have hl : l = [] := List.eq_nil_of_length_eq_zero hn.symm
      subst hl
      have hcon := AnyF.slices_SortFunc_none sortFs (some ⟨g, 0, none⟩) c (.func (.func 35) #[] #[]) w
      change Calls Tryz.prog 34 _ _ _ at hcon
      refine hcon.mono ?_
      rintro e w' ⟨rfl, rfl⟩
      exact ⟨rfl, [], List.Perm.refl _, List.Pairwise.nil, hr, Chg.refl _ _⟩
    · have hcon := AnyQ.slices_SortFunc sortFs 3 Tryz.isAgg36 Tryz.sizeOf36 fEnc (fun _ => rfl) (fun x v hv => fEnc_one x v hv) fCmp swo_f 35 #[] g 0 c l.toArray w eg (cmpLays_f g 0 _ w) (holdsK_of_row hr hn) (hr.lt rfl) (by simp; omega)
      change Calls Tryz.prog 34 _ _ _ at hcon
      have he : l.toArray.size = n := by simp [hn]
      rw [he] at hcon
      refine hcon.mono ?_
      rintro e w' ⟨rfl, d', m, os, hp, hs, rfl⟩
      have hd : d'.toList.Perm l := by
        have := hp.2.2
        have e1 : d'.size = n := by rw [hp.1, he]
        rw [← e1, Array.extract_size] at this
        rw [show d'.size = l.toArray.size by rw [e1, he], Array.extract_size] at this
        simpa using this
      have hrow := row_sorted (m := m) (os := os) (l' := d'.toList) hr hn hd.length_eq
      simp only [Array.toArray_toList] at hrow
      refine ⟨rfl, d'.toList, hd, ?_, hrow.1, hrow.2⟩
      rw [List.pairwise_iff_getElem]
      intro i j hi hj hij
      have := hs i j (Nat.zero_le _) hij (by rw [← he, ← hp.1]; simpa using hj)
      rw [ltOf_f] at this
      simp only [Array.length_toList] at hi hj
      rw [getElem!_pos d' j hj, getElem!_pos d' i hi] at this
      simpa using this

end Go.Proofs.YtpejlcaoggedfaaGreatDoor
namespace Go.Proofs.YtpejlcaoggedfaaGreatDoor
open Go.RowKit

theorem row_setk3 {w : World} {S : Nat → Prop} {e size n c g : Nat} {xs : List Value} (h : Row w S e size (some ⟨g, 0, none⟩) n c xs) (j : Nat) (u : Value) : Row (w.setCell ⟨g, j, none⟩ u) S e size (some ⟨g, 0, none⟩) n c (xs.set j u) := by
  obtain ⟨g', cur, e1, hS, hB, hnc, hcm, hcs, ht⟩ := h.block rfl
  injection e1 with e1
  subst e1
  refine Row.of_block (hB.set_ j u) hS hnc hcm (by simp [hcs]) ?_ (by simpa using h.len)
  rw [← ht]
  simp [List.take_set]
theorem fsE_set (f : Fld) : ∀ (l : List Fld) (q : Nat), q < l.length → fsE (l.set q f) = (((fsE l).set (q * 3) (.int .i64 f.k)).set (q * 3 + 1) (.int .i64 f.l)).set (q * 3 + 2) (.string (bs f.v))
  | [], q, h => by simp at h
  | a :: t, 0, _ => by simp [fsE, fEnc]
  | a :: t, q + 1, h => by
    have ih := fsE_set f t q (by simpa using h)
    have e : (q + 1) * 3 = q * 3 + 3 := by omega
    rw [List.set_cons_succ, e]
    unfold fsE at *
    rw [List.flatMap_cons, List.flatMap_cons, ih]
    simp [fEnc]
theorem zeroCells_any (zs : List Value) (n : Nat) : ∀ v ∈ (Builtin.zeroCells zs.toArray n).toList, 0 < zs.length → v ∈ zs := by
  intro v hv h0
  simp only [Builtin.zeroCells, Array.toList_map, List.mem_map] at hv
  obtain ⟨i, _, rfl⟩ := hv
  have : i % zs.length < zs.length := Nat.mod_lt _ h0
  simp [this]
theorem run_clear_many {P : Program} (w : World) (t e : TypeId) (z : Value) (zs : List Value) (ht : P.underlying t = some (.slice e)) (hv : ∀ w, (zeroValue e).run P w = .ok z w) (hz : z.cells = zs.toArray) (h0 : 0 < zs.length) (h1 : ∀ v ∈ zs, v.oneCell' = true)
    (g o m c : Nat) (hm : 0 < m) (cur : Array Value) (hb : Blk w g e cur) (hl : o + m * zs.length ≤ cur.size) :
    ∃ ns : List Value, ns.length = m * zs.length ∧ ∀ ty, (Builtin.clear_ #[t] ty #[.slice (some ⟨g, o, none⟩) m c]).run P w = .ok (.tuple #[]) (w.setRow g (cur.toList.take o ++ ns ++ cur.toList.drop (o + ns.length)).toArray) := by
  have hln : (Builtin.zeroCells zs.toArray m).toList.length = m * zs.length := by simp [Builtin.zeroCells]
  refine ⟨(Builtin.zeroCells zs.toArray m).toList, hln, fun ty => ?_⟩
  have hst := run_storeCells_at P g o e (Builtin.zeroCells zs.toArray m).toList 0 cur w hb (by rw [hln]; simpa using hl) (fun v hv => h1 v (zeroCells_any zs m v hv h0))
  simp only [Nat.add_zero] at hst
  obtain ⟨m', rfl⟩ : ∃ k, m = k + 1 := ⟨m - 1, by omega⟩
  simp [Builtin.clear_, run_underlying ht, hv, hz, hst]

theorem dedup_len (l : List Fld) : (dedup l).length ≤ l.length := by
  have : ∀ (l o : List Fld), (l.foldl dd1 o).length ≤ o.length + l.length := by
    intro l
    induction l with
    | nil => intro o; simp
    | cons x t ih =>
      intro o
      rw [List.foldl_cons]
      have h1 := ih (dd1 o x)
      have h2 : (dd1 o x).length ≤ o.length + 1 := by
        unfold dd1; split
        · omega
        · simp
      rw [List.length_cons]; omega
  have := this l []
  unfold dedup
  simpa using this
/-- So far all are unlike. -/
def Cpo (l : List Fld) (k : Nat) : Prop := dedup (l.take k) = l.take k
/-- Behind the first two that are alike: what is left stands ahead, what is to come stands as it stood. -/
structure Cpi (l : List Fld) (p j q : Nat) (cur : List Fld) : Prop where
  len : cur.length = l.length
  hp : p + 1 < l.length
  le : q + 1 ≤ p + 1 + (j + 1)
  hq : q = (dedup (l.take (p + 1 + (j + 1)))).length
  d : cur.take q = dedup (l.take (p + 1 + (j + 1)))
  o : ∀ i, p + 1 + j ≤ i → i < l.length → cur[i]? = l[i]?
theorem cpo_1 (l : List Fld) (h : 0 < l.length) : Cpo l 1 := dedup_one l h
theorem cpo_next {l : List Fld} {p : Nat} (h : Cpo l (p + 1)) (hl : p + 1 < l.length) (hn : l[p + 1] ≠ l[p]) : Cpo l (p + 1 + 1) := by
  unfold Cpo at *
  rw [show p + 1 + 1 = p + 2 from rfl, dedup_new l p hl hn, h, List.take_succ_eq_append_getElem hl]
theorem cpi_start {l : List Fld} {p : Nat} (h : Cpo l (p + 1)) (hl : p + 1 < l.length) (hn : l[p + 1] = l[p]) : Cpi l p 0 (p + 1) l := by
  have e : dedup (l.take (p + 1 + (0 + 1))) = l.take (p + 1) := by
    show dedup (l.take (p + 2)) = _
    rw [dedup_same l p hl hn]; exact h
  refine ⟨rfl, hl, by omega, ?_, e.symm, fun _ _ _ => rfl⟩
  rw [e, List.length_take]; omega
theorem cpi_same {l cur : List Fld} {p j q : Nat} (h : Cpi l p j q cur) (hl : p + 1 + (j + 1) < l.length) (hn : l[p + 1 + (j + 1)] = l[p + 1 + j]) : Cpi l p (j + 1) q cur := by
  have e : dedup (l.take (p + 1 + (j + 1 + 1))) = dedup (l.take (p + 1 + (j + 1))) := dedup_same l (p + 1 + j) hl hn
  exact ⟨h.len, h.hp, by have := h.le; omega, by rw [e]; exact h.hq, by rw [e]; exact h.d, fun i hi hl => h.o i (by omega) hl⟩
theorem cpi_new {l cur : List Fld} {p j q : Nat} (h : Cpi l p j q cur) (hl : p + 1 + (j + 1) < l.length) (hn : l[p + 1 + (j + 1)] ≠ l[p + 1 + j]) : Cpi l p (j + 1) (q + 1) (cur.set q l[p + 1 + (j + 1)]) := by
  have e : dedup (l.take (p + 1 + (j + 1 + 1))) = dedup (l.take (p + 1 + (j + 1))) ++ [l[p + 1 + (j + 1)]] := dedup_new l (p + 1 + j) hl hn
  have hq := h.le
  have hlen := h.len
  refine ⟨by simpa using h.len, h.hp, by omega, ?_, ?_, fun i hi hl => ?_⟩
  · rw [e, List.length_append, ← h.hq]; rfl
  · rw [e, ← h.d]
    have hqc : q < cur.length := by omega
    rw [List.take_succ_eq_append_getElem (by simpa using hqc)]
    simp
    exact List.take_set_of_le (Nat.le_refl _)
  · rw [List.getElem?_set_ne (by omega)]
    exact h.o i (by omega) hl
theorem fld_cases (x y : Fld) : x = y ∨ (x.k == y.k) = false ∨ (x.k = y.k ∧ (x.l == y.l) = false) ∨ (x.k = y.k ∧ x.l = y.l ∧ ((bs x.v).toList == (bs y.v).toList) = false) := by
  have e : ∀ l : List UInt8, (bs l).toList = l := fun l => by rw [Lib.toList_data]; rfl
  rw [e, e]
  by_cases h1 : x.k = y.k
  · by_cases h2 : x.l = y.l
    · by_cases h3 : x.v = y.v
      · exact .inl (fld_ext h1 h2 h3)
      · exact .inr (.inr (.inr ⟨h1, h2, by simpa using h3⟩))
    · exact .inr (.inr (.inl ⟨h1, by simpa using h2⟩))
  · exact .inr (.inl (by simpa using h1))

set_option maxRecDepth 100000 in
set_option maxHeartbeats 8000000 in
theorem compact_calls (w : World) (S : Nat → Prop) (A : Option Addr) (n c : Nat) (l : List Fld) (hn : n = l.length) (hr : Row w S 36 3 A n c (fsE l)) (hb : n ≤ 1000000) :
    Calls Tryz.prog 36 #[.slice A n c] w fun e w' => (∃ m, e = .returned (.slice A m c) ∧ m = (dedup l).length ∧ Row w' S 36 3 A m c (fsE (dedup l))) ∧ Chg (Of A) w w' := by
  by_cases h2 : n < 2
  · have hdd : dedup l = l := by
      match l, hn with
      | [], _ => rfl
      | [a], _ => simp [dedup, dd1]
      | a :: b :: t, hn => simp at hn; omega
    have HR := hd (And.intro (show n = (dedup l).length by rw [hdd]; exact hn) (show Row w S 36 3 A n c (fsE (dedup l)) by rw [hdd]; exact hr))
    clear hr hdd hn
    go_enter Tryz.func36, Tryz.ntmps36
    go_wp2
    go_ret
    exact ⟨⟨n, rfl, HR.o.1, HR.o.2⟩, Chg.refl _ _⟩
  · obtain ⟨g, cur0, rfl, hgS, _⟩ : ∃ g cur0, A = some ⟨g, 0, none⟩ ∧ S g ∧ Blk w g 36 cur0 := by
      obtain ⟨g, rfl, hg, _⟩ := hr.at_ (by omega)
      obtain ⟨g', cur0, e1, _, hB, _⟩ := hr.block rfl
      injection e1 with e1
      subst e1
      exact ⟨g, cur0, rfl, hg, hB⟩
    have HN := hd hn
    have hcap := hr.cap
    have hc1 : n ≤ c := hcap.1
    have hc2 : c ≤ maxLen := hcap.2
    unfold maxLen at hc2
    have HR := hd hr
    clear hr hn hcap
    go_enter Tryz.func36, Tryz.ntmps36
    go_wp2_with fail
    go_loopw [3, 4, 5, 2] (fun k _ _ _ wr => ∃ (p : Nat), k = .int .i64 (p + 1 : Nat) ∧ p + 1 ≤ n ∧ Hd (Cpo l (p + 1)) ∧ Hd (Row wr S 36 3 (some ⟨g, 0, none⟩) n c (fsE l)) ∧ Hd (Chg (Of (some ⟨g, 0, none⟩)) w wr)) (fun k _ _ _ _ => n - (intOf k).toNat)
    case atStart => exact ⟨0, rfl, by omega, hd (cpo_1 l (by rw [← HN.o]; omega)), HR, hd (Chg.refl _ _)⟩
    case round =>
      obtain ⟨p, rfl, hp, HP, HRW, HC⟩ := hrel
      obtain ⟨wo, rfl⟩ : ∃ wo : World, wo = wr := ⟨_, rfl⟩
      by_cases hlt : p + 1 < n
      · have hlti : decide (((p + 1 : Nat) : Int) < (n : Int)) = true := by simp; omega
        have hpl : p + 1 < l.length := by rw [← HN.o]; exact hlt
        obtain ⟨x, hx⟩ : ∃ x, l[p]'(Nat.lt_of_succ_lt hpl) = x := ⟨_, rfl⟩
        obtain ⟨y, hy⟩ : ∃ y, l[p + 1]'hpl = y := ⟨_, rfl⟩
        have HXY := hd (And.intro hx hy)
        obtain ⟨g', hA', _, _, _, _, hcl, _⟩ := HRW.o.at_ (by omega)
        injection hA' with hA'
        injection hA' with hA'
        subst hA'
        have hcx : ∀ t u, t < 3 → (fEnc x)[t]? = some u → wo.cell? ⟨g, p * 3 + t, none⟩ = some u := fun t u ht hv => hcl _ _ ((fsE_at l p (by omega) t ht).trans (by rw [hx]; exact hv))
        have hcy : ∀ t u, t < 3 → (fEnc y)[t]? = some u → wo.cell? ⟨g, (p + 1) * 3 + t, none⟩ = some u := fun t u ht hv => hcl _ _ ((fsE_at l (p + 1) hpl t ht).trans (by rw [hy]; exact hv))
        have x0 := hcx 0 _ (by omega) rfl
        have x1 := hcx 1 _ (by omega) rfl
        have x2 := hcx 2 _ (by omega) rfl
        have y0 := hcy 0 _ (by omega) rfl
        have y1 := hcy 1 _ (by omega) rfl
        have y2 := hcy 2 _ (by omega) rfl
        simp only [Nat.add_zero] at x0 y0
        have hp0 : (0 : Int) ≤ (p : Int) := by omega
        clear hcl hcx hcy hx hy
        have hcase := fld_cases y x
        have HNE0 := hd (fun h : y ≠ x => h)
        by_cases hyx : y = x
        · have HEQ := hd (show l[p + 1]'hpl = l[p]'(Nat.lt_of_succ_lt hpl) by rw [HXY.o.1, HXY.o.2]; exact hyx)
          have HST := hd (cpi_start HP.o hpl HEQ.o)
          clear hcase HNE0 HEQ HXY
          subst hyx
          obtain ⟨yk, yl, yv⟩ := y
          have hp1 : ((p + 1 : Nat) : Int) ≤ (n : Int) := by omega
          have hnp : p + 1 ≤ n := by omega
          go_wp2_with fail
          go_quiet (fail)
          go_wp2_with fail
          clear x0 x1 x2 y0 y1 y2
          obtain ⟨wj, hwj⟩ : ∃ wj, wj = wo.drewN nq := ⟨_, rfl⟩
          have HRJ := hd (show Row wj S 36 3 (some ⟨g, 0, none⟩) n c (fsE l) by rw [hwj]; exact HRW.o.drewN _)
          have HCJ := hd (show Chg (Of (some ⟨g, 0, none⟩)) w wj by rw [hwj]; exact HC.o.drewN _)
          rw [← hwj]
          clear hwj
          go_loopw [5, 3] (fun k2 k wr => ∃ (j q : Nat) (cur : List Fld), k2 = .int .i64 (j + 1 : Nat) ∧ k = .int .i64 q ∧ p + 1 + (j + 1) ≤ n ∧ q + 1 ≤ p + 1 + (j + 1) ∧ Hd (Cpi l p j q cur) ∧ Hd (Row wr S 36 3 (some ⟨g, 0, none⟩) n c (fsE cur)) ∧ Hd (Chg (Of (some ⟨g, 0, none⟩)) w wr)) (fun k2 _ _ => n - (intOf k2).toNat)
          case atStart => exact ⟨0, p + 1, l, rfl, rfl, by omega, by omega, HST, HRJ, HCJ⟩
          case round =>
            obtain ⟨j, q, cur, rfl, rfl, hj, hq, HI, HRI, HCI⟩ := hrel
            obtain ⟨wi, rfl⟩ : ∃ wi : World, wi = wr := ⟨_, rfl⟩
            by_cases hlt2 : p + 1 + (j + 1) < n
            · have hlti2 : decide (((j + 1 : Nat) : Int) < ((n - (p + 1) : Nat) : Int)) = true := by simp; omega
              have hjl : p + 1 + (j + 1) < l.length := by rw [← HN.o]; exact hlt2
              obtain ⟨x, hx⟩ : ∃ x, l[p + 1 + j]'(Nat.lt_of_succ_lt hjl) = x := ⟨_, rfl⟩
              obtain ⟨y, hy⟩ : ∃ y, l[p + 1 + (j + 1)]'hjl = y := ⟨_, rfl⟩
              have HXY := hd (And.intro hx hy)
              have hlc := HI.o.len
              have ec1 : cur[p + 1 + j]'(by omega) = x := by
                have := HI.o.o (p + 1 + j) (by omega) (by omega)
                rw [List.getElem?_eq_getElem (by omega), List.getElem?_eq_getElem (by omega)] at this
                injection this with this
                rw [this, hx]
              have ec2 : cur[p + 1 + (j + 1)]'(by omega) = y := by
                have := HI.o.o (p + 1 + (j + 1)) (by omega) (by omega)
                rw [List.getElem?_eq_getElem (by omega), List.getElem?_eq_getElem (by omega)] at this
                injection this with this
                rw [this, hy]
              obtain ⟨g', hA', _, hgl, _, _, hcl, hfz⟩ := HRI.o.at_ (by omega)
              injection hA' with hA'
              injection hA' with hA'
              subst hA'
              have hcx : ∀ t u, t < 3 → (fEnc x)[t]? = some u → wi.cell? ⟨g, (p + 1) * 3 + j * 3 + t, none⟩ = some u := fun t u ht hv => by
                rw [show (p + 1) * 3 + j * 3 + t = (p + 1 + j) * 3 + t by omega]
                exact hcl _ _ ((fsE_at cur (p + 1 + j) (by omega) t ht).trans (by rw [ec1]; exact hv))
              have hcy : ∀ t u, t < 3 → (fEnc y)[t]? = some u → wi.cell? ⟨g, (p + 1) * 3 + (j + 1) * 3 + t, none⟩ = some u := fun t u ht hv => by
                rw [show (p + 1) * 3 + (j + 1) * 3 + t = (p + 1 + (j + 1)) * 3 + t by omega]
                exact hcl _ _ ((fsE_at cur (p + 1 + (j + 1)) (by omega) t ht).trans (by rw [ec2]; exact hv))
              have x0 := hcx 0 _ (by omega) rfl
              have x1 := hcx 1 _ (by omega) rfl
              have x2 := hcx 2 _ (by omega) rfl
              have y0 := hcy 0 _ (by omega) rfl
              have y1 := hcy 1 _ (by omega) rfl
              have y2 := hcy 2 _ (by omega) rfl
              simp only [Nat.add_zero] at x0 y0
              clear hcl hcx hcy hx hy ec1 ec2 hlc
              have hcase := fld_cases y x
              by_cases hyx : y = x
              · have HST := hd (cpi_same HI.o hjl (by rw [HXY.o.1, HXY.o.2]; exact hyx))
                clear hcase HXY
                subst hyx
                obtain ⟨yk, yl, yv⟩ := y
                go_wp2_with fail
                go_quiet (fail)
                go_wp2
                go_roundw
                case rel => exact ⟨j + 1, q, cur, by go_num, rfl, by omega, by omega, HST, hd (HRI.o.drewN _), hd (HCI.o.drewN _)⟩
                case measure => simp [intOf]; omega
              · have HST := hd (cpi_new HI.o hjl (by rw [HXY.o.1, HXY.o.2]; exact hyx))
                have hqn : q < cur.length := by rw [HI.o.len, ← HN.o]; omega
                have HEN := hd (fsE_set y cur q hqn)
                rw [HXY.o.2] at HST
                have HNE := hd hyx
                have c0 : wi.frozen? ⟨g, q * 3, none⟩ = false := hfz _
                have c1 : wi.frozen? ⟨g, q * 3 + 1, none⟩ = false := hfz _
                have c2 : wi.frozen? ⟨g, q * 3 + 2, none⟩ = false := hfz _
                have hq1 : ((q : Nat) : Int) < (n : Int) := by omega
                obtain ⟨z, hz⟩ : ∃ z, cur[q]'hqn = z := ⟨_, rfl⟩
                obtain ⟨g', hA', _, _, _, _, hcl, _⟩ := HRI.o.at_ (by omega)
                injection hA' with hA'
                injection hA' with hA'
                subst hA'
                have hcz : ∀ t u, t < 3 → (fEnc z)[t]? = some u → wi.cell? ⟨g, q * 3 + t, none⟩ = some u := fun t u ht hv => hcl _ _ ((fsE_at cur q hqn t ht).trans (by rw [hz]; exact hv))
                have z0 := hcz 0 _ (by omega) rfl
                have z1 := hcz 1 _ (by omega) rfl
                have z2 := hcz 2 _ (by omega) rfl
                simp only [Nat.add_zero] at z0
                clear hcl hcz hz hyx
                rcases hcase with he | he | ⟨he1, he2⟩ | ⟨he1, he2, he3⟩
                · exact absurd he HNE.o
                · obtain ⟨xk, xl, xv⟩ := x
                  obtain ⟨yk, yl, yv⟩ := y
                  obtain ⟨zk, zl, zv⟩ := z
                  simp only at he
                  clear HXY HNE
                  go_wp2_with fail
                  go_quiet (fail)
                  go_wp2
                  go_roundw
                  case rel =>
                    refine ⟨j + 1, q + 1, _, by go_num, by go_num, by omega, by omega, HST, hd ?_, hd ?_⟩
                    · rw [HEN.o]
                      exact row_setk3 (row_setk3 (row_setk3 (HRI.o.drewN _) _ _) _ _) _ _
                    · have hof : ∀ i : Nat, Of (some ⟨g, 0, none⟩) (Addr.block ⟨g, i, none⟩) ∨ w.heap.size ≤ (Addr.block ⟨g, i, none⟩) := fun i => .inl rfl
                      exact (((HCI.o.drewN _).setCell (hof _) _).setCell (hof _) _).setCell (hof _) _
                  case measure => simp [intOf]; omega
                · obtain ⟨xk, xl, xv⟩ := x
                  obtain ⟨yk, yl, yv⟩ := y
                  obtain ⟨zk, zl, zv⟩ := z
                  simp only at he1 he2
                  clear HXY HNE
                  subst he1
                  go_wp2_with fail
                  go_quiet (fail)
                  go_wp2
                  go_roundw
                  case rel =>
                    refine ⟨j + 1, q + 1, _, by go_num, by go_num, by omega, by omega, HST, hd ?_, hd ?_⟩
                    · rw [HEN.o]
                      exact row_setk3 (row_setk3 (row_setk3 (HRI.o.drewN _) _ _) _ _) _ _
                    · have hof : ∀ i : Nat, Of (some ⟨g, 0, none⟩) (Addr.block ⟨g, i, none⟩) ∨ w.heap.size ≤ (Addr.block ⟨g, i, none⟩) := fun i => .inl rfl
                      exact (((HCI.o.drewN _).setCell (hof _) _).setCell (hof _) _).setCell (hof _) _
                  case measure => simp [intOf]; omega
                · obtain ⟨xk, xl, xv⟩ := x
                  obtain ⟨yk, yl, yv⟩ := y
                  obtain ⟨zk, zl, zv⟩ := z
                  simp only at he1 he2 he3
                  clear HXY HNE
                  subst he1 he2
                  go_wp2_with fail
                  go_quiet (fail)
                  go_wp2
                  go_roundw
                  case rel =>
                    refine ⟨j + 1, q + 1, _, by go_num, by go_num, by omega, by omega, HST, hd ?_, hd ?_⟩
                    · rw [HEN.o]
                      exact row_setk3 (row_setk3 (row_setk3 (HRI.o.drewN _) _ _) _ _) _ _
                    · have hof : ∀ i : Nat, Of (some ⟨g, 0, none⟩) (Addr.block ⟨g, i, none⟩) ∨ w.heap.size ≤ (Addr.block ⟨g, i, none⟩) := fun i => .inl rfl
                      exact (((HCI.o.drewN _).setCell (hof _) _).setCell (hof _) _).setCell (hof _) _
                  case measure => simp [intOf]; omega
            · have hlti2 : decide (((j + 1 : Nat) : Int) < ((n - (p + 1) : Nat) : Int)) = false := by simp; omega
              have hjn : p + 1 + (j + 1) = n := by omega
              have HD := hd (show dedup (l.take (p + 1 + (j + 1))) = dedup l by rw [List.take_of_length_le (by rw [← HN.o]; omega)])
              have hqn : q < n := by omega
              have hq1 : ((q : Nat) : Int) ≤ (n : Int) := by omega
              have hq2 : ((q : Nat) : Int) ≤ (c : Int) := by omega
              obtain ⟨g', CA, e1, hS', hCA, _, _, hCs, hCt⟩ := HRI.o.block rfl
              injection e1 with e1
              subst e1
              obtain ⟨ns, hnl, hclr⟩ := run_clear_many (P := Tryz.prog) wi 22 36 (.agg #[.int .i64 0, .int .i64 0, .string ⟨#[]⟩]) [.int .i64 0, .int .i64 0, .string ⟨#[]⟩] Tryz.underlying22 Tryz.zeroValue36 rfl (by decide) (fun v hv => by simp at hv; rcases hv with rfl | rfl | rfl <;> rfl) g (q * 3) (n - q) (c - q) (by omega) CA hCA (by rw [hCs]; simp; omega)
              have hnl' : ns.length = (n - q) * 3 := hnl
              have HNL := hd hnl'
              have HCA := hd hCA
              have HCS := hd hCs
              have HCT := hd hCt
              obtain ⟨NEW, hNEW⟩ : ∃ NEW, (CA.toList.take (q * 3) ++ ns ++ CA.toList.drop (q * 3 + ns.length)).toArray = NEW := ⟨_, rfl⟩
              rw [hNEW] at hclr
              have HNEW := hd hNEW
              clear hnl hnl' hCA hCs hCt hNEW
              go_wp2
              go_ret
              refine ⟨⟨q, rfl, ?_, ?_⟩, ?_⟩
              · rw [← HD.o]; exact HI.o.hq
              · have hcl := HI.o.len
                have h4 : (fsE (dedup l)).length = q * 3 := by
                  rw [show (fsE (dedup l)).length = (dedup l).length * 3 from flat_length fEnc 3 fEnc_len _, ← HD.o, ← HI.o.hq]
                refine Row.of_block (HCA.o.setRow _) hgS (by omega) (by unfold maxLen; omega) ?_ ?_ h4
                · rw [← HNEW.o]
                  simp only [List.size_toArray, List.length_append, List.length_take, List.length_drop, Array.length_toList]
                  rw [HCS.o, HNL.o]; omega
                · rw [← HNEW.o]
                  have h5 : CA.toList.take (q * 3) = fsE (dedup l) := by
                    have : CA.toList.take (q * 3) = (fsE cur).take (q * 3) := by
                      rw [← HCT.o, List.take_take, Nat.min_eq_left (by omega)]
                    rw [this, show (fsE cur).take (q * 3) = fsE (cur.take q) from flat_take fEnc 3 fEnc_len cur q, HI.o.d, HD.o]
                  show List.take (q * 3) (List.take (q * 3) CA.toList ++ ns ++ List.drop (q * 3 + ns.length) CA.toList) = _
                  rw [h5, List.append_assoc, List.take_append_of_le_length (by rw [h4]; exact Nat.le_refl _), List.take_of_length_le (by rw [h4]; exact Nat.le_refl _)]
              · exact HCI.o.setRow (.inl rfl) _
        · have HNE := hd hyx
          clear hyx HNE0
          rcases hcase with he | he | ⟨he1, he2⟩ | ⟨he1, he2, he3⟩
          · exact absurd he HNE.o
          · have HN2 := hd (cpo_next HP.o hpl (by rw [HXY.o.1, HXY.o.2]; exact HNE.o))
            obtain ⟨xk, xl, xv⟩ := x
            obtain ⟨yk, yl, yv⟩ := y
            simp only at he
            clear HXY HNE
            go_wp2_with fail
            go_quiet (fail)
            go_wp2
            go_roundw
            case rel => exact ⟨p + 1, by go_num, by omega, HN2, hd (HRW.o.drewN _), hd (HC.o.drewN _)⟩
            case measure => simp [intOf]; omega
          · have HN2 := hd (cpo_next HP.o hpl (by rw [HXY.o.1, HXY.o.2]; exact HNE.o))
            obtain ⟨xk, xl, xv⟩ := x
            obtain ⟨yk, yl, yv⟩ := y
            simp only at he1 he2
            clear HXY HNE
            subst he1
            go_wp2_with fail
            go_quiet (fail)
            go_wp2
            go_roundw
            case rel => exact ⟨p + 1, by go_num, by omega, HN2, hd (HRW.o.drewN _), hd (HC.o.drewN _)⟩
            case measure => simp [intOf]; omega
          · have HN2 := hd (cpo_next HP.o hpl (by rw [HXY.o.1, HXY.o.2]; exact HNE.o))
            obtain ⟨xk, xl, xv⟩ := x
            obtain ⟨yk, yl, yv⟩ := y
            simp only at he1 he2 he3
            clear HXY HNE
            subst he1 he2
            go_wp2_with fail
            go_quiet (fail)
            go_wp2
            go_roundw
            case rel => exact ⟨p + 1, by go_num, by omega, HN2, hd (HRW.o.drewN _), hd (HC.o.drewN _)⟩
            case measure => simp [intOf]; omega
      · have hlti : decide (((p + 1 : Nat) : Int) < (n : Int)) = false := by simp; omega
        have HD := hd (show dedup l = l by
          have := HP.o
          unfold Cpo at this
          rwa [List.take_of_length_le (by rw [← HN.o]; omega)] at this)
        go_wp2
        go_ret
        exact ⟨⟨n, rfl, by rw [HD.o]; exact HN.o, by rw [HD.o]; exact HRW.o⟩, HC.o⟩

end Go.Proofs.YtpejlcaoggedfaaGreatDoor
namespace Go.Proofs.YtpejlcaoggedfaaGreatDoor
open Go.RowKit

theorem kindL_len (k : Int) : (kindL k).length ≤ 4 := by
  unfold kindL
  repeat' split
  all_goals simp
theorem labL_len (l : Int) : (labL l).length ≤ 5 := by
  unfold labL
  repeat' split
  all_goals simp
theorem raw_sum (k l : Int) (v : List UInt8) : bs (kindL k) ++ bs (labL l) ++ ⟨#[58]⟩ ++ bs v = bs (rawL ⟨k, l, v⟩) := by
  have : (⟨#[58]⟩ : ByteArray) = bs [58] := rfl
  rw [this, bs_app2, bs_app2, bs_app2]
  congr 1
  simp [rawL, headL]

set_option maxRecDepth 100000 in
set_option maxHeartbeats 2000000 in
theorem fline_calls (f : Fld) (hs : f.v.length ≤ 1000000) (w : World) (ht : Tbs w) : Calls Tryz.prog 61 #[fldV f] w fun e w' => e = .returned (.string (bs (lineF f))) ∧ Below w.heap.size w w' := by
  have C1 := hd (fun W h => fmay_calls f hs W (ht.below h) : ∀ W, Below w.heap.size w W → _)
  obtain ⟨L, hL⟩ : ∃ L, lineF f = L := ⟨_, rfl⟩
  rw [hL]
  have hR := raw_sum f.k f.l f.v
  have hl1 := kindL_len f.k
  have hl2 := labL_len f.l
  rw [← bs_size] at hl1 hl2
  have hz3 : (bs f.v).size ≤ 1000000 := by rw [bs_size]; exact hs
  have HB0 := hd ((Below.refl w.heap.size w).alloc (Nat.le_refl _) (.cells #[.int .i64 f.k, .int .i64 f.l, .string (bs f.v)] 36))
  have HK := hd (Blk.new w 36 #[.int .i64 f.k, .int .i64 f.l, .string (bs f.v)])
  by_cases hm : MayF f
  · rw [mayF_t hm] at C1
    have hok := may_ok hm
    obtain ⟨hk, hl⟩ := (okKL_iff _ _).1 hok
    have C2 := label_calls f.k f.l
    have C3 := kind_calls f.k
    rw [show decide (okL f.k f.l) = true by simp [hl], show labV f.k f.l = labL f.l by rw [labV, if_pos hl]] at C2
    rw [line_yes hm] at hL
    have HL := hd hL
    obtain ⟨k, l, v⟩ := f
    simp only [fldV] at C1
    change Calls _ _ #[.agg #[.int .i64 k, .int .i64 l, .string (bs v)]] _ _
    simp only at hR hl1 hl2 hz3 HB0 HK C2 C3
    obtain ⟨K, hK⟩ : ∃ K, bs (kindL k) = K := ⟨_, rfl⟩
    obtain ⟨B, hB⟩ : ∃ B, bs (labL l) = B := ⟨_, rfl⟩
    obtain ⟨V, hV⟩ : ∃ V, bs v = V := ⟨_, rfl⟩
    rw [hK] at C3 hl1
    rw [hB] at C2 hl2
    rw [hV] at C1 hz3 HB0 HK ⊢
    rw [hK, hB, hV] at hR
    have HR := hd hR
    have H2 := hd C2
    have H3 := hd C3
    clear hK hB hV hR C2 C3 hL hm hok hk hl hs ht
    go_enter Tryz.func61, Tryz.ntmps61
    go_wp2_with fail
    refine (C1.o _ HB0.o).mono ?_
    rintro e w1 ⟨rfl, hb1⟩
    have k1 := HK.o.below hb1 (by simp)
    have HB1 := hd (HB0.o.trans (hb1.mono HB0.o.size))
    have a0 := k1.at_ 0 rfl
    have a1 := k1.at_ 1 rfl
    have a2 := k1.at_ 2 rfl
    clear k1 hb1 HK HB0 C1
    go_wp2_with fail
    refine (H2.o _).mono ?_
    rintro e w2 ⟨rfl, rfl⟩
    go_wp2_with fail
    go_quiet ((go_at_call 52; exact q1 (H3.o _)))
    go_wp2
    go_ret
    exact ⟨retS (HR.o.trans (by rw [← HL.o])), bdrewN HB1.o _⟩
  · rw [mayF_f hm] at C1
    rw [line_no hm] at hL
    have HL := hd hL
    obtain ⟨k, l, v⟩ := f
    simp only [fldV] at C1
    change Calls _ _ #[.agg #[.int .i64 k, .int .i64 l, .string (bs v)]] _ _
    simp only at HB0 HK
    clear hL hm hs ht hR hl1 hl2 hz3
    go_enter Tryz.func61, Tryz.ntmps61
    go_wp2_with fail
    refine (C1.o _ HB0.o).mono ?_
    rintro e w1 ⟨rfl, hb1⟩
    have HB1 := hd (HB0.o.trans (hb1.mono HB0.o.size))
    clear hb1 HK HB0 C1
    go_wp2
    go_ret
    exact ⟨retS (by rw [← HL.o]; rfl), HB1.o⟩

def wordsC : Array Value := #[.string ⟨#[]⟩, .string ⟨#[110, 97, 109, 101]⟩, .string ⟨#[111, 114, 103]⟩, .string ⟨#[116, 101, 108]⟩, .string ⟨#[109, 97, 105, 108]⟩, .string ⟨#[100, 97, 121]⟩, .string ⟨#[110, 111, 116, 101]⟩]
def labelsC : Array Value := #[.string ⟨#[]⟩, .string ⟨#[59, 104, 111, 109, 101]⟩, .string ⟨#[59, 119, 111, 114, 107]⟩, .string ⟨#[59, 99, 101, 108, 108]⟩]
theorem words_at (j : Nat) (h : j < 7) : wordsC[j]? = some (.string (bs (kindL j))) := by
  match j, h with
  | 0, _ => rfl
  | 1, _ => rfl
  | 2, _ => rfl
  | 3, _ => rfl
  | 4, _ => rfl
  | 5, _ => rfl
  | 6, _ => rfl
theorem labels_at (j : Nat) (h : j < 4) : labelsC[j]? = some (.string (bs (labL j))) := by
  match j, h with
  | 0, _ => rfl
  | 1, _ => rfl
  | 2, _ => rfl
  | 3, _ => rfl
theorem words_calls (w : World) : Calls Tryz.prog 70 #[] w fun e w' => e = .returned (.slice (some ⟨w.heap.size, 0, none⟩) 7 7) ∧ w.alloc (.cells wordsC 9) = w' := by
  go_enter Tryz.func70, Tryz.ntmps70
  go_wp2
  go_ret
  exact ⟨rfl, rfl⟩
theorem labels_calls (w : World) : Calls Tryz.prog 71 #[] w fun e w' => e = .returned (.slice (some ⟨w.heap.size, 0, none⟩) 4 4) ∧ w.alloc (.cells labelsC 9) = w' := by
  go_enter Tryz.func71, Tryz.ntmps71
  go_wp2
  go_ret
  exact ⟨rfl, rfl⟩

end Go.Proofs.YtpejlcaoggedfaaGreatDoor
