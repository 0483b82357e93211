/-
  Fields, plain: what is a field as it should be, its line, the field of a line.
-/
import Derived.Test.YtpejlcaoggedfaaGreatDoorTelP
import Derived.Test.YtpejlcaoggedfaaGreatDoorDayB
import Derived.Test.YtpejlcaoggedfaaGreatDoorFldO
set_option linter.unusedVariables false
set_option linter.unusedSimpArgs false
namespace Go.Proofs.YtpejlcaoggedfaaGreatDoor
open Go.RowKit

def okKL (k l : Int) : Prop := 1 ≤ k ∧ k ≤ 6 ∧ (l = 0 ∨ ((l = 1 ∨ l = 2) ∧ (k = 3 ∨ k = 4)) ∨ (l = 3 ∧ k = 3))
instance (k l : Int) : Decidable (okKL k l) := by unfold okKL; infer_instance
def DayT (l : List UInt8) : Prop := ∃ y m d, mayB y m d = true ∧ showL y m d = l
noncomputable def valT (k : Int) (v : List UInt8) : List UInt8 := if k = 3 then telT v else if k = 4 then canT v else cleanT v
open Classical in
noncomputable def valE (k : Int) (v : List UInt8) : Int := if k = 3 then telE v else if k = 4 then canE v else if cleanE v = 0 ∧ k = 5 ∧ ¬ DayT (cleanT v) then 1 else cleanE v
noncomputable def fldE (f : Fld) : Int := if okKL f.k f.l then valE f.k f.v else 1
noncomputable def fldC (f : Fld) : Fld := if fldE f = 0 then ⟨f.k, f.l, valT f.k f.v⟩ else noFld
def MayF (f : Fld) : Prop := fldE f = 0 ∧ valT f.k f.v = f.v
open Classical in
noncomputable def mayF (f : Fld) : Bool := decide (MayF f)
theorem mayF_t {f : Fld} (h : MayF f) : mayF f = true := by simp [mayF, h]
theorem mayF_f {f : Fld} (h : ¬ MayF f) : mayF f = false := by simp [mayF, h]
theorem mayF_iff {f : Fld} : mayF f = true ↔ MayF f := by simp [mayF]

def kindL (k : Int) : List UInt8 := if k = 1 then [110, 97, 109, 101] else if k = 2 then [111, 114, 103] else if k = 3 then [116, 101, 108] else if k = 4 then [109, 97, 105, 108] else if k = 5 then [100, 97, 121] else if k = 6 then [110, 111, 116, 101] else []
def labL (l : Int) : List UInt8 := if l = 1 then [59, 104, 111, 109, 101] else if l = 2 then [59, 119, 111, 114, 107] else if l = 3 then [59, 99, 101, 108, 108] else []
def headL (k l : Int) : List UInt8 := kindL k ++ labL l
def rawL (f : Fld) : List UInt8 := headL f.k f.l ++ 58 :: f.v
open Classical in
noncomputable def lineF (f : Fld) : List UInt8 := if MayF f then rawL f else []
theorem line_yes {f : Fld} (h : MayF f) : lineF f = rawL f := by simp [lineF, h]
theorem line_no {f : Fld} (h : ¬ MayF f) : lineF f = [] := by simp [lineF, h]

/-- The kinds and labels that go together. -/
def prs : List (Int × Int) := [(1, 0), (2, 0), (3, 0), (3, 1), (3, 2), (3, 3), (4, 0), (4, 1), (4, 2), (5, 0), (6, 0)]
theorem ok_prs {k l : Int} (h : okKL k l) : (k, l) ∈ prs := by
  obtain ⟨h1, h2, h3⟩ := h
  have hk : k = 1 ∨ k = 2 ∨ k = 3 ∨ k = 4 ∨ k = 5 ∨ k = 6 := by omega
  rcases h3 with rfl | ⟨h3, h4⟩ | ⟨rfl, rfl⟩
  · rcases hk with rfl | rfl | rfl | rfl | rfl | rfl <;> decide
  · rcases h3 with rfl | rfl <;> rcases h4 with rfl | rfl <;> decide
  · decide
theorem head_inj' : ∀ p ∈ prs, ∀ q ∈ prs, headL p.1 p.2 = headL q.1 q.2 → p = q := by decide
theorem head_58' : ∀ p ∈ prs, (58 : UInt8) ∉ headL p.1 p.2 := by decide
theorem head_10' : ∀ p ∈ prs, (10 : UInt8) ∉ headL p.1 p.2 := by decide
theorem head_len' : ∀ p ∈ prs, (headL p.1 p.2).length ≤ 9 := by decide
theorem head_inj {k l k' l' : Int} (h : okKL k l) (h' : okKL k' l') (e : headL k l = headL k' l') : k = k' ∧ l = l' := by
  have := head_inj' _ (ok_prs h) _ (ok_prs h') e
  simpa using this
theorem head_58 {k l : Int} (h : okKL k l) : (58 : UInt8) ∉ headL k l := head_58' _ (ok_prs h)
theorem head_10 {k l : Int} (h : okKL k l) : (10 : UInt8) ∉ headL k l := head_10' _ (ok_prs h)
theorem head_len {k l : Int} (h : okKL k l) : (headL k l).length ≤ 9 := head_len' _ (ok_prs h)

theorem fldE_ok {f : Fld} (h : fldE f = 0) : okKL f.k f.l ∧ valE f.k f.v = 0 := by
  unfold fldE at h
  split at h
  · next c => exact ⟨c, h⟩
  · omega
theorem may_ok {f : Fld} (h : MayF f) : okKL f.k f.l := (fldE_ok h.1).1

theorem can_twice {l : List UInt8} (h : canE l = 0) : canE (canT l) = 0 ∧ canT (canT l) = canT l :=
  ⟨(can_addr (can_ok h)).2, (can_addr (can_ok h)).1⟩
theorem tel_twice {l : List UInt8} (h : telE l = 0) : telE (telT l) = 0 ∧ telT (telT l) = telT l :=
  ⟨(tel_self (tel_ok h)).2, (tel_self (tel_ok h)).1⟩
theorem val_twice {k : Int} {v : List UInt8} (h : valE k v = 0) : valE k (valT k v) = 0 ∧ valT k (valT k v) = valT k v := by
  unfold valE valT at *
  by_cases k3 : k = 3
  · simp only [if_pos k3] at *; exact tel_twice h
  · by_cases k4 : k = 4
    · simp only [if_neg k3, if_pos k4] at *; exact can_twice h
    · simp only [if_neg k3, if_neg k4] at *
      by_cases c : cleanE v = 0 ∧ k = 5 ∧ ¬ DayT (cleanT v)
      · rw [if_pos c] at h; omega
      · rw [if_neg c] at h
        obtain ⟨e1, e2⟩ := clean_twice h
        rw [e1, e2]
        refine ⟨?_, rfl⟩
        rw [if_neg]
        rintro ⟨_, c2, c3⟩
        refine c ⟨h, c2, ?_⟩
        rw [if_neg k3, if_neg k4, e1] at c3
        exact c3
theorem val_len (k : Int) (v : List UInt8) (h : valE k v = 0) : (valT k v).length ≤ 64 := by
  unfold valE at h
  unfold valT
  by_cases k3 : k = 3
  · rw [if_pos k3] at *; have := (tel_len (tel_ok h)).2; omega
  · by_cases k4 : k = 4
    · rw [if_neg k3, if_pos k4] at *; exact (can_ok h).1
    · rw [if_neg k3, if_neg k4] at *; exact cleanT_len v
theorem val_sign {k : Int} {v : List UInt8} (h : valE k v = 0) : ∀ c ∈ valT k v, 32 ≤ c.toNat := by
  unfold valE at h
  unfold valT
  by_cases k3 : k = 3
  · rw [if_pos k3] at *; intro c hc; have := tel_sign (tel_ok h) c hc; omega
  · by_cases k4 : k = 4
    · rw [if_neg k3, if_pos k4] at *; intro c hc; have := addr_plain (can_ok h) c hc; omega
    · rw [if_neg k3, if_neg k4] at *
      split at h
      · omega
      · exact clean_ok0 h
theorem fldC_may {f : Fld} (h : fldE f = 0) : MayF (fldC f) := by
  obtain ⟨h1, h2⟩ := fldE_ok h
  obtain ⟨e1, e2⟩ := val_twice h2
  have e : fldC f = ⟨f.k, f.l, valT f.k f.v⟩ := by rw [fldC, if_pos h]
  rw [e]
  refine ⟨?_, e2⟩
  unfold fldE
  rw [if_pos h1]
  exact e1
theorem may_fldC {f : Fld} (h : MayF f) : fldC f = f := by
  rw [fldC, if_pos h.1]
  exact fld_ext rfl rfl h.2
theorem fldC_no {f : Fld} (h : fldE f ≠ 0) : fldC f = noFld := by rw [fldC, if_neg h]
theorem may_len {f : Fld} (h : MayF f) : f.v.length ≤ 64 := by
  rw [← h.2]; exact val_len _ _ (fldE_ok h.1).2
theorem may_sign {f : Fld} (h : MayF f) : ∀ c ∈ f.v, 32 ≤ c.toNat := by
  have := val_sign (fldE_ok h.1).2
  rwa [h.2] at this
theorem raw_len {f : Fld} (h : MayF f) : (rawL f).length ≤ 74 := by
  have h1 := head_len (may_ok h)
  have h2 := may_len h
  unfold rawL
  rw [List.length_append, List.length_cons]
  omega
theorem raw_10 {f : Fld} (h : MayF f) : (10 : UInt8) ∉ rawL f := by
  intro hm
  unfold rawL at hm
  rcases List.mem_append.1 hm with hm | hm
  · exact head_10 (may_ok h) hm
  · rcases List.mem_cons.1 hm with hm | hm
    · exact absurd hm (by decide)
    · have := may_sign h _ hm; simp at this
theorem line_len (f : Fld) : (lineF f).length ≤ 74 := by
  by_cases h : MayF f
  · rw [line_yes h]; exact raw_len h
  · rw [line_no h]; simp

/-- The field of a line. -/
def Found (s : List UInt8) (f : Fld) : Prop := MayF f ∧ rawL f = s
theorem found_uniq {s : List UInt8} {f g : Fld} (hf : Found s f) (hg : Found s g) : f = g := by
  have e := hf.2.trans hg.2.symm
  unfold rawL at e
  have a1 := bef_app 58 (headL f.k f.l) f.v (head_58 (may_ok hf.1))
  have a2 := bef_app 58 (headL g.k g.l) g.v (head_58 (may_ok hg.1))
  rw [e] at a1
  obtain ⟨e1, e2⟩ := head_inj (may_ok hf.1) (may_ok hg.1) (a1.1.symm.trans a2.1)
  exact fld_ext e1 e2 (a1.2.symm.trans a2.2)
theorem found_cut {s : List UInt8} {f : Fld} (h : Found s f) : (58 : UInt8) ∈ s ∧ bef 58 s = headL f.k f.l ∧ aft 58 s = f.v := by
  obtain ⟨h1, h2⟩ := h
  have a1 := bef_app 58 (headL f.k f.l) f.v (head_58 (may_ok h1))
  unfold rawL at h2
  rw [h2] at a1
  exact ⟨by rw [← h2]; simp, a1⟩
open Classical in
noncomputable def parF (s : List UInt8) : Fld := if h : ∃ f, Found s f then h.choose else noFld
open Classical in
noncomputable def parE (s : List UInt8) : Int := if ∃ f, Found s f then 0 else 1
theorem par_yes {s : List UInt8} {f : Fld} (h : Found s f) : parF s = f ∧ parE s = 0 := by
  have hx : ∃ f, Found s f := ⟨f, h⟩
  refine ⟨?_, by simp only [parE, if_pos hx]⟩
  rw [parF, dif_pos hx]
  exact found_uniq hx.choose_spec h
theorem par_no {s : List UInt8} (h : ∀ f, ¬ Found s f) : parF s = noFld ∧ parE s = 1 := by
  have hx : ¬ ∃ f, Found s f := fun ⟨f, hf⟩ => h f hf
  exact ⟨by rw [parF, dif_neg hx], by simp only [parE, if_neg hx]⟩
theorem par_or (s : List UInt8) : (∃ f, Found s f ∧ parF s = f ∧ parE s = 0) ∨ ((∀ f, ¬ Found s f) ∧ parF s = noFld ∧ parE s = 1) := by
  by_cases h : ∃ f, Found s f
  · obtain ⟨f, hf⟩ := h; exact .inl ⟨f, hf, par_yes hf⟩
  · have : ∀ f, ¬ Found s f := fun f hf => h ⟨f, hf⟩
    exact .inr ⟨this, par_no this⟩
theorem found_line {s : List UInt8} {f : Fld} (h : Found s f) : lineF f = s := (line_yes h.1).trans h.2
theorem line_found {f : Fld} (h : MayF f) : Found (lineF f) f := ⟨h, (line_yes h).symm⟩
theorem not_may_none : ¬ MayF noFld := by
  intro h
  have := may_ok h
  simp [okKL, noFld] at this

end Go.Proofs.YtpejlcaoggedfaaGreatDoor
