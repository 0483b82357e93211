/-
  Cleaned texts, plain: what is cleaned twice is cleaned once.
-/
import Derived.Test.YtpejlcaoggedfaaGreatDoorMailL0
set_option linter.unusedVariables false
set_option linter.unusedSimpArgs false
namespace Go.Proofs.YtpejlcaoggedfaaGreatDoor
open Go.RowKit

theorem signN_to (n n' b0 b1 b2 b3 c1 c2 c3 k : Nat) (h : signN n b0 b1 b2 b3 = k) (hk : k ≠ 0) (e1 : 2 ≤ k → b1 = c1 ∧ 1 < n') (e2 : 3 ≤ k → b2 = c2 ∧ 2 < n') (e3 : 4 ≤ k → b3 = c3 ∧ 3 < n') : signN n' b0 c1 c2 c3 = k := by
  unfold signN at h ⊢
  by_cases a1 : b0 < 128
  · rw [if_pos a1] at h ⊢; exact h
  · rw [if_neg a1] at h ⊢
    by_cases a2 : 194 ≤ b0 ∧ b0 ≤ 223
    · rw [if_pos a2] at h ⊢
      by_cases a3 : 1 < n ∧ b1 / 64 = 2
      · rw [if_pos a3] at h
        obtain ⟨rfl, l1⟩ := e1 (by omega)
        rw [if_pos ⟨l1, a3.2⟩]; exact h
      · rw [if_neg a3] at h; exact absurd h.symm hk
    · rw [if_neg a2] at h ⊢
      by_cases a4 : 224 ≤ b0 ∧ b0 ≤ 239
      · rw [if_pos a4] at h ⊢
        split at h
        · next c =>
          obtain ⟨rfl, l1⟩ := e1 (by omega)
          obtain ⟨rfl, l2⟩ := e2 (by omega)
          rw [if_pos ⟨⟨l2, c.1.2⟩, c.2⟩]; exact h
        · exact absurd h.symm hk
      · rw [if_neg a4] at h ⊢
        by_cases a5 : 240 ≤ b0 ∧ b0 ≤ 244
        · rw [if_pos a5] at h ⊢
          split at h
          · next c =>
            obtain ⟨rfl, l1⟩ := e1 (by omega)
            obtain ⟨rfl, l2⟩ := e2 (by omega)
            obtain ⟨rfl, l3⟩ := e3 (by omega)
            rw [if_pos ⟨⟨l3, c.1.2⟩, c.2⟩]; exact h
          · exact absurd h.symm hk
        · rw [if_neg a5] at h; exact absurd h.symm hk
theorem bt_app (a b : List UInt8) (i : Nat) (h : i < a.length) : bt (a ++ b) i = bt a i := by
  simp [bt, List.getD_eq_getElem?_getD, List.getElem?_append_left h]
theorem bt_take (l : List UInt8) (k i : Nat) (h : i < k) : bt (l.take k) i = bt l i := by
  simp [bt, List.getD_eq_getElem?_getD, List.getElem?_take, h]
theorem sgn_to {a c : List UInt8} (ha : a ≠ []) (h : sgn a ≠ 0) (e : ∀ i, i < sgn a → bt c i = bt a i) (hl : sgn a ≤ c.length) : sgn c = sgn a := by
  have hle := sgn_le a ha
  have e0 := e 0 (by omega)
  unfold sgn
  rw [e0]
  refine signN_to a.length c.length (bt a 0) (bt a 1) (bt a 2) (bt a 3) (bt c 1) (bt c 2) (bt c 3) _ rfl h (fun hk => ?_) (fun hk => ?_) (fun hk => ?_)
  · have : 2 ≤ sgn a := hk
    exact ⟨(e 1 (by omega)).symm, by omega⟩
  · have : 3 ≤ sgn a := hk
    exact ⟨(e 2 (by omega)).symm, by omega⟩
  · have : 4 ≤ sgn a := hk
    exact ⟨(e 3 (by omega)).symm, by omega⟩
theorem sgn_app (a b : List UInt8) (ha : a ≠ []) (h : sgn a ≠ 0) : sgn (a ++ b) = sgn a := by
  have hle := sgn_le a ha
  exact sgn_to ha h (fun i hi => bt_app a b i (by omega)) (by rw [List.length_append]; omega)
theorem sgn_take (a : List UInt8) (ha : a ≠ []) (h : sgn a ≠ 0) : sgn (a.take (sgn a)) = sgn a := by
  have hle := sgn_le a ha
  exact sgn_to ha h (fun i hi => bt_take a _ i hi) (by rw [List.length_take]; omega)
theorem scanB_nil : scanB [] = true := rfl
theorem scan_head {a : List UInt8} (ha : a ≠ []) (h : scanB a = true) : sgn a ≠ 0 ∧ okC (bt a 0) = true ∧ scanB (a.drop (sgn a)) = true := by
  rw [scanB_step a ha] at h
  by_cases c : sgn a = 0 ∨ okC (bt a 0) = false
  · rw [if_pos c] at h; cases h
  · rw [if_neg c] at h
    refine ⟨fun e => c (.inl e), ?_, h⟩
    cases hb : okC (bt a 0) with
    | true => rfl
    | false => exact absurd (.inr hb) c
theorem scan_of {a : List UInt8} (ha : a ≠ []) (h1 : sgn a ≠ 0) (h2 : okC (bt a 0) = true) : scanB a = scanB (a.drop (sgn a)) := by
  rw [scanB_step a ha, if_neg (by simp [h1, h2])]
theorem scan_app : ∀ (n : Nat) (a b : List UInt8), a.length ≤ n → scanB a = true → scanB (a ++ b) = scanB b := by
  intro n
  induction n with
  | zero => intro a b h _; have : a = [] := List.eq_nil_of_length_eq_zero (by omega); subst this; rfl
  | succ n ih =>
    intro a b h hs
    by_cases ha : a = []
    · subst ha; rfl
    · obtain ⟨h1, h2, h3⟩ := scan_head ha hs
      have hle := sgn_le a ha
      have hab : a ++ b ≠ [] := by simp [ha]
      have h0 : 0 < a.length := List.length_pos_iff.2 ha
      rw [scan_of hab (by rw [sgn_app a b ha h1]; exact h1) (by rw [bt_app a b 0 h0]; exact h2), sgn_app a b ha h1, List.drop_append_of_le_length hle]
      exact ih _ b (by rw [List.length_drop]; omega) h3
theorem scan_chunk {a : List UInt8} (ha : a ≠ []) (h1 : sgn a ≠ 0) (h2 : okC (bt a 0) = true) : scanB (a.take (sgn a)) = true := by
  have hle := sgn_le a ha
  have h0 : 0 < a.length := List.length_pos_iff.2 ha
  have hn : a.take (sgn a) ≠ [] := by
    intro e
    have := congrArg List.length e
    rw [List.length_take, List.length_nil] at this
    omega
  rw [scan_of hn (by rw [sgn_take a ha h1]; exact h1) (by rw [bt_take a _ 0 (by omega)]; exact h2), sgn_take a ha h1, List.drop_take, Nat.sub_self, List.take_zero]
  rfl
theorem sgn_small (b0 : UInt8) (t : List UInt8) (h : b0.toNat < 128) : sgn (b0 :: t) = 1 := by
  unfold sgn signN; rw [bt_zero, if_pos h]
theorem chunk_hi {a : List UInt8} (ha : a ≠ []) (h : 2 ≤ sgn a) : ∀ c ∈ a.take (sgn a), 128 ≤ c.toNat := by
  cases a with
  | nil => exact absurd rfl ha
  | cons b0 t =>
    have h0 : 128 ≤ b0.toNat := by
      rcases Nat.lt_or_ge b0.toNat 128 with hh | hh
      · have := sgn_small b0 t hh; omega
      · exact hh
    rcases sgn_cases b0 t with e | e | ⟨e, b1, r, rfl, q1⟩ | ⟨e, b1, b2, r, rfl, q1, q2⟩ | ⟨e, b1, b2, b3, r, rfl, q1, q2, q3⟩
    · omega
    · omega
    · rw [e]; intro c hc; simp at hc; rcases hc with rfl | rfl <;> omega
    · rw [e]; intro c hc; simp at hc; rcases hc with rfl | rfl | rfl <;> omega
    · rw [e]; intro c hc; simp at hc; rcases hc with rfl | rfl | rfl | rfl <;> omega
theorem fold_hi : ∀ (l out : List UInt8), (∀ c ∈ l, 128 ≤ c.toNat) → l.foldl sq out = out ++ l
  | [], out, _ => by simp
  | c :: r, out, h => by
    have hc := h c (by simp)
    rw [List.foldl_cons, sq_other _ _ (by omega), fold_hi r _ (fun x hx => h x (by simp [hx]))]
    simp
def Whole (o : List UInt8) : Prop := scanB o = true ∧ (o.getLast? = some 32 → scanB o.dropLast = true)
theorem fold_scan : ∀ (n : Nat) (l out : List UInt8), l.length ≤ n → scanB l = true → Whole out → Whole (l.foldl sq out) := by
  intro n
  induction n with
  | zero => intro l out h _ ho; have : l = [] := List.eq_nil_of_length_eq_zero (by omega); subst this; exact ho
  | succ n ih =>
    intro l out h hs ho
    by_cases hl : l = []
    · subst hl; exact ho
    · obtain ⟨h1, h2, h3⟩ := scan_head hl hs
      have hle := sgn_le l hl
      have hch := scan_chunk hl h1 h2
      have e := List.take_append_drop (sgn l) l
      have key : Whole ((l.take (sgn l)).foldl sq out) := by
        by_cases k1 : sgn l = 1
        · obtain ⟨b, t, rfl⟩ := List.exists_cons_of_ne_nil hl
          rw [k1] at hch ⊢
          show Whole (sq out b)
          unfold sq
          split
          · exact ho
          · refine ⟨?_, fun _ => ?_⟩
            · rw [scan_app _ out [b] (Nat.le_refl _) ho.1]; exact hch
            · rw [List.dropLast_concat]; exact ho.1
        · have hhi := chunk_hi hl (by omega)
          rw [fold_hi _ _ hhi]
          refine ⟨by rw [scan_app _ out _ (Nat.le_refl _) ho.1]; exact hch, fun hlast => ?_⟩
          exfalso
          have hne : l.take (sgn l) ≠ [] := by
            intro e
            have := congrArg List.length e
            rw [List.length_take, List.length_nil] at this
            omega
          rw [List.getLast?_append, List.getLast?_eq_some_getLast hne, Option.some_or] at hlast
          injection hlast with hlast
          have := hhi _ (List.getLast_mem hne)
          rw [hlast] at this
          simp at this
      have := ih (l.drop (sgn l)) _ (by rw [List.length_drop]; omega) h3 key
      rw [← List.foldl_append, e] at this
      exact this
theorem sqz_scan {l : List UInt8} (h : scanB l = true) : scanB (sqz l) = true := by
  have := fold_scan l.length l [] (Nat.le_refl _) h ⟨scanB_nil, fun e => by simp at e⟩
  unfold sqz trimE
  split
  · next e => exact this.2 e
  · exact this.1
theorem fold_again : ∀ (l out : List UInt8), out.foldl sq [] = out → (l.foldl sq out).foldl sq [] = l.foldl sq out
  | [], _, h => h
  | c :: r, out, h => by
    rw [List.foldl_cons]
    refine fold_again r _ ?_
    by_cases k : c = 32 ∧ (out = [] ∨ out.getLast? = some 32)
    · rw [show sq out c = out by rw [sq, if_pos k]]; exact h
    · have e : sq out c = out ++ [c] := by rw [sq, if_neg k]
      rw [e, List.foldl_append, h]
      exact e
theorem sqz_again (l : List UInt8) : sqz (sqz l) = sqz l := by
  have h := fold_again l [] rfl
  unfold sqz
  generalize l.foldl sq [] = O at *
  by_cases k : O.getLast? = some 32
  · have e1 : trimE O = O.dropLast := by rw [trimE, if_pos k]
    rw [e1]
    have e2 : O = O.dropLast ++ [32] := by
      have hn : O ≠ [] := fun e => by rw [e] at k; simp at k
      have := List.dropLast_concat_getLast hn
      rw [List.getLast?_eq_some_getLast hn] at k
      injection k with k
      rw [k] at this
      exact this.symm
    generalize O.dropLast = D at *
    subst e2
    rw [List.foldl_append] at h
    have hlen := fold_sq_len D []
    generalize D.foldl sq [] = X at *
    have h' : sq X 32 = D ++ [32] := h
    unfold sq at h'
    split at h'
    · next c =>
      have := congrArg List.length h'
      rw [List.length_append] at this
      simp at this hlen
      omega
    · next c =>
      have e3 := List.append_cancel_right h'
      subst e3
      rw [trimE, if_neg (fun e => c ⟨rfl, .inr e⟩)]
  · have e1 : trimE O = O := by rw [trimE, if_neg k]
    rw [e1, h, e1]
theorem sq_sub : ∀ (l out : List UInt8), ∀ c ∈ l.foldl sq out, c ∈ out ∨ c ∈ l
  | [], out, c, h => .inl h
  | x :: r, out, c, h => by
    rw [List.foldl_cons] at h
    rcases sq_sub r _ c h with h | h
    · unfold sq at h
      split at h
      · exact .inl h
      · rcases List.mem_append.1 h with h | h
        · exact .inl h
        · exact .inr (by simp at h; simp [h])
    · exact .inr (by simp [h])
theorem cleanE_0 {l : List UInt8} (h : cleanE l = 0) : cleanB l = true ∧ sqz l ≠ [] ∧ (sqz l).length ≤ 64 ∧ cleanT l = sqz l := by
  unfold cleanE at h
  split at h
  · next hb =>
    split at h
    · omega
    · next hn =>
      split at h
      · omega
      · next hl =>
        have hp : 0 < (sqz l).length := List.length_pos_iff.2 hn
        exact ⟨hb, hn, by omega, (cleanB_ok l hb (by omega) hp).1⟩
  · omega
/-- Cleaned twice. -/
theorem clean_twice {l : List UInt8} (h : cleanE l = 0) : cleanT (cleanT l) = cleanT l ∧ cleanE (cleanT l) = 0 := by
  obtain ⟨h1, h2, h3, h4⟩ := cleanE_0 h
  rw [h4]
  have hb : cleanB (sqz l) = true := by
    rw [← scanB_clean] at h1 ⊢
    exact sqz_scan h1
  have hp : 0 < (sqz l).length := List.length_pos_iff.2 h2
  have := cleanB_ok (sqz l) hb (by rw [sqz_again]; exact h3) (by rw [sqz_again]; exact hp)
  rw [sqz_again] at this
  exact this
theorem clean_plain {l : List UInt8} (hp : Plain1 l) (h0 : 0 < l.length) (h64 : l.length ≤ 64) : cleanT l = l ∧ cleanE l = 0 := by
  have hc := cleanB_ascii l (fun c hc => by have := hp c hc; omega)
  have hs : sqz l = l := by unfold sqz; rw [sq_plain l [] hp, List.nil_append]; exact trim_plain l hp
  have := cleanB_ok l hc (by rw [hs]; exact h64) (by rw [hs]; exact h0)
  rw [hs] at this
  exact this
theorem clean_no {l : List UInt8} (h : cleanE l ≠ 0) : cleanT l = [] := by
  unfold cleanT
  unfold cleanE at h
  split
  · next hb =>
    rw [if_pos hb] at h
    split
    · rfl
    · next hn =>
      rw [if_neg hn] at h
      split
      · rfl
      · next hl => rw [if_neg hl] at h; exact absurd rfl h
  · rfl
theorem clean_ok0 {l : List UInt8} (h : cleanE l = 0) : ∀ c ∈ cleanT l, 32 ≤ c.toNat := by
  obtain ⟨h1, h2, h3, h4⟩ := cleanE_0 h
  have ha : l.all okB = true := by
    unfold cleanB at h1
    simp only [Bool.and_eq_true] at h1
    exact h1.2
  intro c hc
  rw [h4] at hc
  have hm : c ∈ l.foldl sq [] := by
    unfold sqz trimE at hc
    split at hc
    · exact List.dropLast_subset _ hc
    · exact hc
  rcases sq_sub l [] c hm with h | h
  · cases h
  · have := List.all_eq_true.1 ha c h
    simp [okB, okC] at this
    exact this.1

end Go.Proofs.YtpejlcaoggedfaaGreatDoor
