/-
  Texts, in plain lists of bytes: cut, split, blanks, addresses.
-/
import Derived.Test.YtpejlcaoggedfaaGreatDoorTxt
set_option linter.unusedVariables false
set_option linter.unusedSimpArgs false
namespace Go.Proofs.YtpejlcaoggedfaaGreatDoor
open Go.Lib

theorem index_one (c : UInt8) : ∀ l : List UInt8, index l [c] = if c ∈ l then ((l.takeWhile (fun x => x != c)).length : Int) else -1
  | [] => by simp [index]
  | b :: l => by
    have ih := index_one c l
    unfold index
    by_cases h : c = b
    · subst h
      simp
    · have h1 : ([c] : List UInt8).isPrefixOf (b :: l) = false := by simp [List.isPrefixOf, h]
      have h2 : (b != c) = true := by simpa using fun e : b = c => h e.symm
      rw [h1, ih]
      by_cases hm : c ∈ l
      · have h3 : c ∈ b :: l := by simp [hm]
        rw [if_pos hm, if_pos h3, List.takeWhile_cons, if_pos h2]
        have : ¬ (((l.takeWhile (fun x => x != c)).length : Int) == -1) = true := by simp
        rw [if_neg (by simp), if_neg this]
        simp
      · have h3 : ¬ c ∈ b :: l := by simp [hm, h]
        rw [if_neg hm, if_neg h3]
        simp
/-- Up to the first c, and behind it. -/
def bef (c : UInt8) (l : List UInt8) : List UInt8 := l.takeWhile (fun x => x != c)
def aft (c : UInt8) (l : List UInt8) : List UInt8 := (l.dropWhile (fun x => x != c)).tail
theorem bef_not (c : UInt8) (l : List UInt8) : c ∉ bef c l := by
  induction l with
  | nil => simp [bef]
  | cons b l ih =>
    unfold bef at ih ⊢
    rw [List.takeWhile_cons]
    split
    · next h => simp only [List.mem_cons, not_or]; exact ⟨fun e => by simp [e] at h, ih⟩
    · simp
theorem bef_aft (c : UInt8) (l : List UInt8) (h : c ∈ l) : l = bef c l ++ c :: aft c l := by
  induction l with
  | nil => simp at h
  | cons b l ih =>
    unfold bef aft at *
    rw [List.takeWhile_cons, List.dropWhile_cons]
    by_cases hb : b = c
    · subst hb; simp
    · have h2 : (b != c) = true := by simpa using hb
      have hm : c ∈ l := by
        rcases List.mem_cons.1 h with e | e
        · exact absurd e.symm hb
        · exact e
      rw [if_pos h2, if_pos h2, List.cons_append, ← ih hm]
theorem bef_of_not (c : UInt8) (l : List UInt8) (h : c ∉ l) : bef c l = l := by
  unfold bef
  induction l with
  | nil => rfl
  | cons b l ih =>
    simp only [List.mem_cons, not_or] at h
    rw [List.takeWhile_cons, if_pos (by simpa using fun e : b = c => h.1 e.symm), ih h.2]
theorem take_bef (c : UInt8) (l : List UInt8) (h : c ∈ l) : l.take (bef c l).length = bef c l := by
  have e := bef_aft c l h
  generalize bef c l = a at *
  generalize aft c l = b at *
  subst e
  simp
theorem drop_bef (c : UInt8) (l : List UInt8) (h : c ∈ l) : l.drop ((bef c l).length + 1) = aft c l := by
  have e := bef_aft c l h
  generalize bef c l = a at *
  generalize aft c l = b at *
  subst e
  rw [show a ++ c :: b = (a ++ [c]) ++ b by simp, List.drop_left' (by simp)]
/-- What lies before the first c, and behind it, told by the two parts. -/
theorem bef_app (c : UInt8) (a b : List UInt8) (h : c ∉ a) : bef c (a ++ c :: b) = a ∧ aft c (a ++ c :: b) = b := by
  induction a with
  | nil => simp [bef, aft]
  | cons x a ih =>
    simp only [List.mem_cons, not_or] at h
    have h2 : (x != c) = true := by simpa using fun e : x = c => h.1 e.symm
    obtain ⟨i1, i2⟩ := ih h.2
    unfold bef aft at *
    rw [List.cons_append, List.takeWhile_cons, List.dropWhile_cons, if_pos h2, if_pos h2, i1]
    exact ⟨rfl, i2⟩
theorem cut_one (c : UInt8) (l : List UInt8) : cut l [c] = if c ∈ l then (bef c l, aft c l, true) else (l, [], false) := by
  unfold cut
  rw [index_one]
  by_cases h : c ∈ l
  · rw [if_pos h, if_pos (by omega), if_pos h]
    have e1 := take_bef c l h
    have e2 := drop_bef c l h
    show (l.take ((bef c l).length : Int).toNat, l.drop (((bef c l).length : Int).toNat + [c].length), true) = _
    rw [Int.toNat_natCast, e1]
    simp [e2]
  · rw [if_neg h, if_neg (by omega), if_neg h]

def splitC (c : UInt8) : List UInt8 → List (List UInt8)
  | [] => [[]]
  | b :: l => if b = c then [] :: splitC c l else match splitC c l with
    | h :: t => (b :: h) :: t
    | [] => [[b]]
theorem splitC_ne (c : UInt8) (l : List UInt8) : splitC c l ≠ [] := by
  cases l with
  | nil => simp [splitC]
  | cons b l => unfold splitC; split; simp; split <;> simp
theorem splitC_not (c : UInt8) : ∀ l : List UInt8, c ∉ l → splitC c l = [l]
  | [], _ => rfl
  | b :: l, h => by
    simp only [List.mem_cons, not_or] at h
    rw [splitC, if_neg (fun e => h.1 e.symm), splitC_not c l h.2]
theorem splitC_app (c : UInt8) (b : List UInt8) : ∀ a : List UInt8, c ∉ a → splitC c (a ++ c :: b) = a :: splitC c b
  | [], _ => by simp [splitC]
  | x :: a, h => by
    simp only [List.mem_cons, not_or] at h
    rw [List.cons_append, splitC, if_neg (fun e => h.1 e.symm), splitC_app c b a h.2]
theorem splitC_in (c : UInt8) (l : List UInt8) (h : c ∈ l) : splitC c l = bef c l :: splitC c (aft c l) := by
  conv => lhs; rw [bef_aft c l h]
  exact splitC_app c _ _ (bef_not c l)
theorem aft_len (c : UInt8) (l : List UInt8) (h : c ∈ l) : (aft c l).length < l.length := by
  have e := congrArg List.length (bef_aft c l h)
  rw [List.length_append, List.length_cons] at e
  omega
theorem splitK_one (c : UInt8) : ∀ (k : Nat) (l : List UInt8), l.count c ≤ k → splitK [c] 0 k l = splitC c l
  | 0, l, h => by
    have : c ∉ l := List.count_eq_zero.1 (by omega)
    rw [splitC_not c l this]; rfl
  | k + 1, l, h => by
    unfold splitK
    rw [index_one]
    by_cases hm : c ∈ l
    · rw [if_pos hm, if_neg (by simp), splitC_in c l hm]
      have e := bef_aft c l hm
      have e1 := take_bef c l hm
      have e2 := drop_bef c l hm
      have hc : (aft c l).count c ≤ k := by
        have : l.count c = (bef c l).count c + ((aft c l).count c + 1) := by
          conv => lhs; rw [e]
          rw [List.count_append, List.count_cons_self]
        omega
      show l.take (((bef c l).length : Int).toNat + 0) :: splitK [c] 0 k (l.drop (((bef c l).length : Int).toNat + 1)) = _
      rw [Int.toNat_natCast, Nat.add_zero, e1, e2, splitK_one c k _ hc]
    · rw [if_neg hm, if_pos (by simp), splitC_not c l hm]
theorem count_one (c : UInt8) : ∀ (n : Nat) (l : List UInt8), l.length ≤ n → count l [c] = l.count c
  | 0, l, h => by
    have : l = [] := List.eq_nil_of_length_eq_zero (by omega)
    subst this
    exact count_miss (by simp [index])
  | n + 1, l, h => by
    have hi := index_one c l
    by_cases hm : c ∈ l
    · rw [if_pos hm] at hi
      rw [count_hit (by simp) hi]
      have e := bef_aft c l hm
      have e2 := drop_bef c l hm
      have hl := aft_len c l hm
      show 1 + count (l.drop ((bef c l).length + 1)) [c] = _
      rw [e2, count_one c n _ (by omega)]
      conv => rhs; rw [e]
      rw [List.count_append, List.count_cons_self, List.count_eq_zero.2 (bef_not c l)]
      omega
    · rw [if_neg hm] at hi
      rw [count_miss hi, List.count_eq_zero.2 hm]
theorem split_one (c : UInt8) (l : List UInt8) : splitK [c] 0 (count l [c]) l = splitC c l :=
  splitK_one c _ l (Nat.le_of_eq (count_one c l.length l (Nat.le_refl _)).symm)

/-- Two dots side by side. -/
def dd (l : List UInt8) : Prop := ∃ i, i + 1 < l.length ∧ bt l i = 46 ∧ bt l (i + 1) = 46
theorem dd_cons (a : UInt8) (l : List UInt8) : dd (a :: l) ↔ (a.toNat = 46 ∧ 0 < l.length ∧ bt l 0 = 46) ∨ dd l := by
  constructor
  · rintro ⟨i, h1, h2, h3⟩
    cases i with
    | zero => exact .inl ⟨h2, by simpa using h1, h3⟩
    | succ i => exact .inr ⟨i, by simpa using h1, h2, h3⟩
  · rintro (⟨h1, h2, h3⟩ | ⟨i, h1, h2, h3⟩)
    · exact ⟨0, by simpa using h2, h1, h3⟩
    · exact ⟨i + 1, by simpa using h1, h2, h3⟩
theorem eq46 (c : UInt8) : c.toNat = 46 ↔ c = 46 := ⟨fun h => UInt8.toNat_inj.1 h, fun h => by subst h; rfl⟩
theorem contains_dd : ∀ l : List UInt8, contains l [46, 46] = true ↔ dd l
  | [] => by simp [contains, index, dd]
  | a :: l => by
    have ih := contains_dd l
    unfold contains at ih
    rw [decide_eq_true_eq] at ih
    rw [dd_cons, ← ih, contains, index, decide_eq_true_eq]
    have hge := index_ge l [46, 46]
    rw [eq46]
    cases l with
    | nil => simp [List.isPrefixOf, index]
    | cons b t =>
      rw [bt_zero, eq46]
      generalize index (b :: t) [46, 46] = z at *
      by_cases h : a = 46 ∧ b = 46
      · obtain ⟨rfl, rfl⟩ := h
        simp [List.isPrefixOf]
      · have hp : ([46, 46] : List UInt8).isPrefixOf (a :: b :: t) = false := by
          simp only [List.isPrefixOf, Bool.and_true, Bool.and_eq_false_iff, beq_eq_false_iff_ne]
          by_cases ha : a = 46
          · exact .inr fun e => h ⟨ha, e.symm⟩
          · exact .inl fun e => ha e.symm
        rw [hp, if_neg (by simp)]
        by_cases hi : z = -1
        · rw [hi, if_pos (by simp)]
          constructor
          · intro hh; omega
          · rintro (⟨h1, _, h2⟩ | hh)
            · exact absurd ⟨h1, h2⟩ h
            · omega
        · rw [if_neg (by simpa using hi)]
          constructor
          · intro _; exact .inr (by omega)
          · intro _; omega

/-- The signs of a local part, of a label. -/
def locC (n : Nat) : Prop := (97 ≤ n ∧ n ≤ 122) ∨ (65 ≤ n ∧ n ≤ 90) ∨ (48 ≤ n ∧ n ≤ 57) ∨ n = 46 ∨ n = 95 ∨ n = 43 ∨ n = 45
def labC (n : Nat) : Prop := (97 ≤ n ∧ n ≤ 122) ∨ (48 ≤ n ∧ n ≤ 57) ∨ n = 45
instance (n : Nat) : Decidable (locC n) := by unfold locC; infer_instance
instance (n : Nat) : Decidable (labC n) := by unfold labC; infer_instance
def LocP (l : List UInt8) : Prop := 1 ≤ l.length ∧ l.length ≤ 32 ∧ bt l 0 ≠ 46 ∧ bt l (l.length - 1) ≠ 46 ∧ ¬ dd l ∧ ∀ i, i < l.length → locC (bt l i)
def LabP (l : List UInt8) : Prop := 1 ≤ l.length ∧ l.length ≤ 20 ∧ bt l 0 ≠ 45 ∧ bt l (l.length - 1) ≠ 45 ∧ ∀ i, i < l.length → labC (bt l i)
def DomP (l : List UInt8) : Prop := 2 ≤ (splitC 46 l).length ∧ ∀ x ∈ splitC 46 l, LabP x
open Classical in
noncomputable def locB (l : List UInt8) : Bool := decide (LocP l)
open Classical in
noncomputable def labB (l : List UInt8) : Bool := decide (LabP l)
open Classical in
noncomputable def domB (l : List UInt8) : Bool := decide (DomP l)
theorem locB_t {l : List UInt8} (h : LocP l) : locB l = true := by simp [locB, h]
theorem locB_f {l : List UInt8} (h : ¬ LocP l) : locB l = false := by simp [locB, h]
theorem labB_t {l : List UInt8} (h : LabP l) : labB l = true := by simp [labB, h]
theorem labB_f {l : List UInt8} (h : ¬ LabP l) : labB l = false := by simp [labB, h]
theorem domB_t {l : List UInt8} (h : DomP l) : domB l = true := by simp [domB, h]
theorem domB_f {l : List UInt8} (h : ¬ DomP l) : domB l = false := by simp [domB, h]

/-- An address. -/
def AddrP (l : List UInt8) : Prop := l.length ≤ 64 ∧ 64 ∈ l ∧ LocP (bef 64 l) ∧ DomP (aft 64 l)
open Classical in
noncomputable def addrB (l : List UInt8) : Bool := decide (AddrP l)
theorem addrB_t {l : List UInt8} (h : AddrP l) : addrB l = true := by simp [addrB, h]
theorem addrB_f {l : List UInt8} (h : ¬ AddrP l) : addrB l = false := by simp [addrB, h]
noncomputable def partA (l : List UInt8) : List UInt8 := if addrB l = true then bef 64 l else []
noncomputable def partB (l : List UInt8) : List UInt8 := if addrB l = true then aft 64 l else []

theorem mem_bt {l : List UInt8} {c : UInt8} (h : c ∈ l) : ∃ i, i < l.length ∧ bt l i = c.toNat := by
  obtain ⟨i, hi, e⟩ := List.getElem_of_mem h
  exact ⟨i, hi, by simp [bt, List.getD_eq_getElem?_getD, hi, e]⟩
theorem splitC_mem (c : UInt8) : ∀ (l : List UInt8) (x : UInt8), x ∈ l → x ≠ c → ∃ p ∈ splitC c l, x ∈ p
  | b :: l, x, h, hx => by
    rcases List.mem_cons.1 h with rfl | h
    · rw [splitC, if_neg hx]
      split
      · next e => exact ⟨_, List.mem_cons_self .., by simp⟩
      · exact ⟨_, List.mem_cons_self .., by simp⟩
    · obtain ⟨p, hp, hxp⟩ := splitC_mem c l x h hx
      rw [splitC]
      split
      · exact ⟨p, by simp [hp], hxp⟩
      · split
        · next q t e =>
          rw [e] at hp
          rcases List.mem_cons.1 hp with rfl | hp
          · exact ⟨_, List.mem_cons_self .., by simp [hxp]⟩
          · exact ⟨p, by simp [hp], hxp⟩
        · next e => rw [e] at hp; simp at hp
/-- No @ in a domain, none in a local part. -/
theorem dom_no_at {l : List UInt8} (h : DomP l) : (64 : UInt8) ∉ l := by
  intro hm
  obtain ⟨p, hp, hx⟩ := splitC_mem 46 l 64 hm (by decide)
  obtain ⟨i, hi, e⟩ := mem_bt hx
  have := (h.2 p hp).2.2.2.2 i hi
  rw [e] at this
  revert this
  decide
theorem loc_no_at {l : List UInt8} (h : LocP l) : (64 : UInt8) ∉ l := by
  intro hm
  obtain ⟨i, hi, e⟩ := mem_bt hm
  have := h.2.2.2.2.2 i hi
  rw [e] at this
  revert this
  decide
/-- An address, by whichever @. -/
theorem addr_of_parts {a b : List UInt8} (h : (a ++ 64 :: b).length ≤ 64) (ha : LocP a) (hb : DomP b) : AddrP (a ++ 64 :: b) ∧ bef 64 (a ++ 64 :: b) = a ∧ aft 64 (a ++ 64 :: b) = b := by
  obtain ⟨e1, e2⟩ := bef_app 64 a b (loc_no_at ha)
  exact ⟨⟨h, by simp, by rw [e1]; exact ha, by rw [e2]; exact hb⟩, e1, e2⟩

/-- Signs as small ones. -/
def lowU (c : UInt8) : UInt8 := if 65 ≤ c.toNat ∧ c.toNat ≤ 90 then c + 32 else c
def foldL (l : List UInt8) : List UInt8 := l.map lowU

/-- Blanks that say nothing go. -/
def sq (out : List UInt8) (c : UInt8) : List UInt8 := if c = 32 ∧ (out = [] ∨ out.getLast? = some 32) then out else out ++ [c]
def trimE (out : List UInt8) : List UInt8 := if out.getLast? = some 32 then out.dropLast else out
def sqz (l : List UInt8) : List UInt8 := trimE (l.foldl sq [])
def cleanB (l : List UInt8) : Bool := validD l && l.all okB
def cleanT (l : List UInt8) : List UInt8 := if cleanB l = true then (if sqz l = [] then [] else if 64 < (sqz l).length then [] else sqz l) else []
def cleanE (l : List UInt8) : Int := if cleanB l = true then (if sqz l = [] then 14 else if 64 < (sqz l).length then 2 else 0) else 1
theorem sq_len (out : List UInt8) (c : UInt8) : (sq out c).length ≤ out.length + 1 := by unfold sq; split <;> simp
theorem fold_sq_len : ∀ (l out : List UInt8), (l.foldl sq out).length ≤ out.length + l.length
  | [], out => by simp
  | c :: l, out => by
    have := fold_sq_len l (sq out c)
    have := sq_len out c
    simp only [List.foldl_cons, List.length_cons]
    omega
theorem fold_take (s : ByteArray) (k : Nat) (h : k < s.size) : (s.data.toList.take (k + 1)).foldl sq [] = sq ((s.data.toList.take k).foldl sq []) s[k] := by
  have hl : k < s.data.toList.length := by simpa using h
  rw [List.take_succ_eq_append_getElem hl, List.foldl_append]
  rfl

end Go.Proofs.YtpejlcaoggedfaaGreatDoor
