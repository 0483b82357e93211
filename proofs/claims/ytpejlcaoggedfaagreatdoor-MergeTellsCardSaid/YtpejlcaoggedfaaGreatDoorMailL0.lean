/-
  Addresses, plain: an address is its own form; what its parts make.
-/
import Derived.Test.YtpejlcaoggedfaaGreatDoorMailJ
set_option linter.unusedVariables false
set_option linter.unusedSimpArgs false
namespace Go.Proofs.YtpejlcaoggedfaaGreatDoor
open Go.RowKit

def Plain1 (l : List UInt8) : Prop := ∀ c ∈ l, 33 ≤ c.toNat ∧ c.toNat ≤ 126
theorem scanB_ascii : ∀ l : List UInt8, (∀ c ∈ l, 32 ≤ c.toNat ∧ c.toNat ≤ 126) → scanB l = true
  | [], _ => rfl
  | c :: r, h => by
    have hc := h c (by simp)
    have hs : sgn (c :: r) = 1 := by
      unfold sgn signN
      rw [bt_zero, if_pos (by omega)]
    rw [scanB_step _ (by simp), hs, bt_zero, if_neg (by simp [okC]; omega)]
    exact scanB_ascii r (fun x hx => h x (by simp [hx]))
theorem cleanB_ascii (l : List UInt8) (h : ∀ c ∈ l, 32 ≤ c.toNat ∧ c.toNat ≤ 126) : cleanB l = true := by
  rw [← scanB_clean]; exact scanB_ascii l h
theorem sq_plain : ∀ (l out : List UInt8), Plain1 l → l.foldl sq out = out ++ l
  | [], out, _ => by simp
  | c :: r, out, h => by
    have hc := h c (by simp)
    rw [List.foldl_cons, sq_other _ _ (by omega), sq_plain r _ (fun x hx => h x (by simp [hx]))]
    simp
theorem trim_plain (l : List UInt8) (h : Plain1 l) : trimE l = l := by
  rw [trimE, if_neg]
  intro e
  have := h 32 (List.mem_of_getLast? e)
  simp at this
theorem trim_snoc (l : List UInt8) : trimE (l ++ [32]) = l := by
  rw [trimE, if_pos (by simp)]; simp
theorem locC_plain {n : Nat} (h : locC n) : 33 ≤ n ∧ n ≤ 126 := by unfold locC at h; omega
theorem labC_plain {n : Nat} (h : labC n) : 33 ≤ n ∧ n ≤ 126 := by unfold labC at h; omega
theorem loc_plain {l : List UInt8} (h : LocP l) : Plain1 l := by
  intro c hc
  obtain ⟨i, hi, e⟩ := mem_bt hc
  have := locC_plain (h.2.2.2.2.2 i hi)
  rwa [e] at this
/-- The signs of a domain. -/
theorem dom_sign {l : List UInt8} (h : ∀ x ∈ splitC 46 l, LabP x) : ∀ c ∈ l, c = 46 ∨ labC c.toNat := by
  intro c hc
  by_cases e : c = 46
  · exact .inl e
  · obtain ⟨p, hp, hx⟩ := splitC_mem 46 l c hc e
    obtain ⟨i, hi, e2⟩ := mem_bt hx
    have := (h p hp).2.2.2.2 i hi
    rw [e2] at this
    exact .inr this
theorem dom_plain {l : List UInt8} (h : DomP l) : Plain1 l := by
  intro c hc
  rcases dom_sign h.2 c hc with rfl | h2
  · decide
  · exact labC_plain h2
theorem lowU_dom {c : UInt8} (h : c = 46 ∨ labC c.toNat) : lowU c = c := by
  refine lowU_no c ?_
  rcases h with rfl | h
  · decide
  · unfold labC at h; omega
theorem foldL_dom {l : List UInt8} (h : DomP l) : foldL l = l := by
  have := dom_sign h.2
  clear h
  unfold foldL
  induction l with
  | nil => rfl
  | cons c r ih =>
    rw [List.map_cons, lowU_dom (this c (by simp)), ih (fun x hx => this x (by simp [hx]))]
theorem addr_form {l : List UInt8} (h : AddrP l) : l = bef 64 l ++ 64 :: aft 64 l := bef_aft 64 l h.2.1
theorem addr_plain {l : List UInt8} (h : AddrP l) : Plain1 l := by
  intro c hc
  rw [addr_form h] at hc
  rcases List.mem_append.1 hc with hc | hc
  · exact loc_plain h.2.2.1 c hc
  · rcases List.mem_cons.1 hc with rfl | hc
    · decide
    · exact dom_plain h.2.2.2 c hc
theorem addr_ne {l : List UInt8} (h : AddrP l) : 0 < l.length := by rw [addr_form h]; simp; omega
theorem can_addr {l : List UInt8} (h : AddrP l) : canT l = l ∧ canE l = 0 := by
  have hp := addr_plain h
  have hc := cleanB_ascii l (fun c hc => by have := hp c hc; omega)
  have hs : sqz l = l := by unfold sqz; rw [sq_plain l [] hp, List.nil_append]; exact trim_plain l hp
  obtain ⟨e1, e2⟩ := cleanB_ok l hc (by rw [hs]; exact h.1) (by rw [hs]; exact addr_ne h)
  rw [hs] at e1
  have hf : lfold l = l := by
    conv => lhs; rw [addr_form h]
    rw [lfold_at _ _ (dom_no_at h.2.2.2), foldL_dom h.2.2.2]
    exact (addr_form h).symm
  have := can_yes e2 (by rw [e1, hf]; exact h)
  rwa [e1, hf] at this
theorem can_fail {l : List UInt8} (h : canE l ≠ 0) : canT l = [] ∧ ¬ AddrP l := by
  refine ⟨?_, fun ha => h (can_addr ha).2⟩
  by_cases c : cleanE l = 0
  · by_cases k : AddrP (lfold (cleanT l))
    · exact absurd (can_yes c k).2 h
    · exact (can_no c k).1
  · exact (can_e c).1
theorem can_ok {l : List UInt8} (h : canE l = 0) : AddrP (canT l) := by
  by_cases c : cleanE l = 0
  · by_cases k : AddrP (lfold (cleanT l))
    · rw [(can_yes c k).1]; exact k
    · have := (can_no c k).2; omega
  · have := (can_e c).2; omega
/-- Signs as great ones. -/
def upU (c : UInt8) : UInt8 := if 97 ≤ c.toNat ∧ c.toNat ≤ 122 then c - 32 else c
def upL (l : List UInt8) : List UInt8 := l.map upU
theorem upU_up (c : UInt8) (h : 97 ≤ c.toNat ∧ c.toNat ≤ 122) : ((upU c).toNat : Int) = (c.toNat : Int) - 32 := by
  rw [upU, if_pos h, UInt8.toNat_sub_of_le _ _ (by rw [UInt8.le_iff_toNat_le]; show 32 ≤ c.toNat; omega), show (32 : UInt8).toNat = 32 from rfl]
  omega
theorem upU_no (c : UInt8) (h : ¬ (97 ≤ c.toNat ∧ c.toNat ≤ 122)) : upU c = c := by rw [upU, if_neg h]
theorem low_up {c : UInt8} (h : c = 46 ∨ labC c.toNat) : lowU (upU c) = c := by
  by_cases hc : 97 ≤ c.toNat ∧ c.toNat ≤ 122
  · have hu := upU_up c hc
    apply UInt8.toNat_inj.1
    have := lowU_up (upU c) (by omega)
    omega
  · rw [upU_no c hc]; exact lowU_dom h
theorem up_plain {c : UInt8} (h : 33 ≤ c.toNat ∧ c.toNat ≤ 126) : 33 ≤ (upU c).toNat ∧ (upU c).toNat ≤ 126 ∧ (c ≠ 64 → upU c ≠ 64) := by
  by_cases hc : 97 ≤ c.toNat ∧ c.toNat ≤ 122
  · have hu := upU_up c hc
    refine ⟨by omega, by omega, fun _ e => ?_⟩
    rw [e] at hu
    simp at hu
    omega
  · rw [upU_no c hc]; exact ⟨h.1, h.2, fun e => e⟩
theorem fold_up : ∀ b : List UInt8, (∀ c ∈ b, c = 46 ∨ labC c.toNat) → foldL (upL b) = b
  | [], _ => rfl
  | c :: r, h => by
    have ih := fold_up r (fun x hx => h x (by simp [hx]))
    show lowU (upU c) :: foldL (upL r) = c :: r
    rw [low_up (h c (by simp)), ih]
/-- Blanks around, the domain in great signs. -/
def dress (a b : List UInt8) : List UInt8 := [32, 32] ++ a ++ [64] ++ upL b ++ [32]
theorem can_dress {a b : List UInt8} (h : AddrP (a ++ 64 :: b)) (ha : LocP a) (hb : DomP b) : canT (dress a b) = a ++ 64 :: b ∧ canE (dress a b) = 0 := by
  have pa := loc_plain ha
  have pb := dom_plain hb
  have pu : Plain1 (upL b) := fun c hc => by
    obtain ⟨d, hd, rfl⟩ := List.mem_map.1 hc
    have := up_plain (pb d hd)
    exact ⟨this.1, this.2.1⟩
  have pm : Plain1 (a ++ 64 :: upL b) := fun c hc => by
    rcases List.mem_append.1 hc with hc | hc
    · exact pa c hc
    · rcases List.mem_cons.1 hc with rfl | hc
      · decide
      · exact pu c hc
  have hc := cleanB_ascii (dress a b) (fun c hc => by
    simp only [dress, List.mem_append, List.mem_cons, List.mem_nil_iff, or_false] at hc
    rcases hc with (((hc | hc) | hc) | hc) | hc
    · rcases hc with rfl | rfl <;> decide
    · have := pa c hc; omega
    · rw [hc]; decide
    · have := pu c hc; omega
    · rw [hc]; decide)
  have hs : sqz (dress a b) = a ++ 64 :: upL b := by
    unfold sqz dress
    rw [List.foldl_append, List.append_assoc, List.append_assoc, List.foldl_append]
    rw [show List.foldl sq [] [32, 32] = [] from by decide, show a ++ ([64] ++ upL b) = a ++ 64 :: upL b from rfl, sq_plain _ _ pm, List.nil_append, List.foldl_cons, List.foldl_nil]
    have hne : ∃ m, (a ++ 64 :: upL b).length = m + 1 := ⟨a.length + (upL b).length, by simp; omega⟩
    obtain ⟨m, hm⟩ := hne
    rw [sq_put _ hm (fun e => by
      have := (last_of hm).2 e
      have := pm 32 (List.mem_of_getLast? this)
      simp at this)]
    exact trim_snoc _
  have hl : (a ++ 64 :: upL b).length ≤ 64 := by
    have := h.1
    simp only [List.length_append, List.length_cons, upL, List.length_map] at this ⊢
    exact this
  obtain ⟨e1, e2⟩ := cleanB_ok _ hc (by rw [hs]; exact hl) (by rw [hs]; simp; omega)
  rw [hs] at e1
  have nu : (64 : UInt8) ∉ upL b := fun hm => by
    obtain ⟨d, hd, e⟩ := List.mem_map.1 hm
    have hd64 : d ≠ 64 := fun e' => dom_no_at hb (e' ▸ hd)
    exact (up_plain (pb d hd)).2.2 hd64 e
  have hf : lfold (a ++ 64 :: upL b) = a ++ 64 :: b := by
    rw [lfold_at _ _ nu]
    have : foldL (upL b) = b := fold_up b (dom_sign hb.2)
    rw [this]
  have := can_yes e2 (by rw [e1, hf]; exact h)
  rwa [e1, hf] at this
/-- The first k signs as great ones. -/
def upK (l : List UInt8) (k : Nat) : List UInt8 := (l.take k).map upU ++ l.drop k
theorem upK_len (l : List UInt8) (k : Nat) : (upK l k).length = l.length := by simp [upK]; omega
theorem upK_all (l : List UInt8) (k : Nat) (h : l.length ≤ k) : upK l k = upL l := by
  rw [upK, List.take_of_length_le h, List.drop_of_length_le h, List.append_nil, upL]
theorem upK_zero (l : List UInt8) : upK l 0 = l := by simp [upK]
theorem upK_next (l : List UInt8) (k : Nat) (h : k < l.length) : upK l (k + 1) = (upK l k).set k (upU l[k]) := by
  have e : l.drop k = l[k] :: l.drop (k + 1) := List.drop_eq_getElem_cons h
  unfold upK
  rw [List.take_succ_eq_append_getElem h, e, List.map_append]
  rw [List.set_append_right _ _ (by simp; omega), show k - ((l.take k).map upU).length = 0 by simp; omega, List.append_assoc]
  rfl
theorem upK_at (l : List UInt8) (k : Nat) (h : k < l.length) : bt (upK l k) k = bt l k := by
  unfold upK bt
  simp only [List.getD_eq_getElem?_getD]
  rw [List.getElem?_append_right (by simp; omega)]
  simp [show k - min k l.length = 0 by omega, h]
theorem upK_same (l : List UInt8) (k : Nat) (h : k < l.length) (hu : upU l[k] = l[k]) : upK l (k + 1) = upK l k := by
  have e : l.drop k = l[k] :: l.drop (k + 1) := List.drop_eq_getElem_cons h
  rw [upK_next l k h, hu]
  unfold upK
  rw [e, List.set_append_right _ _ (by simp; omega), show k - ((l.take k).map upU).length = 0 by simp; omega]
  rfl

/-- All labels of a text may be. -/
def AllLab (l : List UInt8) : Prop := ∀ x ∈ splitC 46 l, LabP x
theorem splitC_two (c : UInt8) (b : List UInt8) : ∀ a : List UInt8, splitC c (a ++ c :: b) = splitC c a ++ splitC c b
  | [] => by simp [splitC]
  | x :: a => by
    have ih := splitC_two c b a
    rw [List.cons_append, splitC, splitC, ih]
    by_cases h : x = c
    · rw [if_pos h, if_pos h]; rfl
    · rw [if_neg h, if_neg h]
      cases hs : splitC c a with
      | nil => exact absurd hs (splitC_ne c a)
      | cons p q => rfl
theorem splitC_one (c : UInt8) (l : List UInt8) : 2 ≤ (splitC c l).length ↔ c ∈ l := by
  by_cases h : c ∈ l
  · rw [splitC_in c l h]
    have := splitC_ne c (aft c l)
    have h2 : 0 < (splitC c (aft c l)).length := List.length_pos_iff.2 this
    simp only [List.length_cons]
    exact ⟨fun _ => h, fun _ => by omega⟩
  · rw [splitC_not c l h]
    simp [h]
theorem addr_parts_iff (l d : List UInt8) : AddrP (l ++ 64 :: d) ↔ (l ++ 64 :: d).length ≤ 64 ∧ LocP l ∧ DomP d := by
  constructor
  · intro h
    have e := addr_form h
    have hn : (64 : UInt8) ∉ aft 64 (l ++ 64 :: d) := dom_no_at h.2.2.2
    have hd : (64 : UInt8) ∉ l := fun hm => by
      obtain ⟨x, y, hxy⟩ := List.append_of_mem hm
      -- the first @ lies in l: behind it stands the second
      have e1 : bef 64 (l ++ 64 :: d) = bef 64 l := by
        have := bef_aft 64 l hm
        conv => lhs; rw [this]
        rw [List.append_assoc, List.cons_append]
        exact (bef_app 64 _ _ (bef_not 64 l)).1
      have e2 : aft 64 (l ++ 64 :: d) = aft 64 l ++ 64 :: d := by
        have := bef_aft 64 l hm
        conv => lhs; rw [this]
        rw [List.append_assoc, List.cons_append]
        exact (bef_app 64 _ _ (bef_not 64 l)).2
      rw [e2] at hn
      exact hn (by simp)
    obtain ⟨e1, e2⟩ := bef_app 64 l d hd
    have := h.2.2
    rw [e1, e2] at this
    exact ⟨h.1, this⟩
  · rintro ⟨h1, h2, h3⟩
    exact (addr_of_parts h1 h2 h3).1

end Go.Proofs.YtpejlcaoggedfaaGreatDoor
