/-
  Texts, in plain lists of bytes: what the walks over texts compute. No program in sight.
-/
import Derived.Test.YtpejlcaoggedfaaGreatDoorBase
import Derived.Lib.DecodeN
import Derived.Lib.ValidU
import Derived.Lib.Split
import Derived.Lib.CutLaws
import Derived.Lib.CountLaws
set_option linter.unusedVariables false
set_option linter.unusedSimpArgs false
namespace Go.Proofs.YtpejlcaoggedfaaGreatDoor
open Go.Lib

/-- How many bytes the sign at the head has; 0: none. -/
def signN (n b0 b1 b2 b3 : Nat) : Nat :=
  if b0 < 128 then 1
  else if 194 ≤ b0 ∧ b0 ≤ 223 then (if 1 < n ∧ b1 / 64 = 2 then 2 else 0)
  else if 224 ≤ b0 ∧ b0 ≤ 239 then
    (if (2 < n ∧ b1 / 64 = 2 ∧ b2 / 64 = 2) ∧ ¬ (b0 % 16 * 4096 + b1 % 64 * 64 + b2 % 64 < 2048) ∧ ¬ (55296 ≤ b0 % 16 * 4096 + b1 % 64 * 64 + b2 % 64 ∧ b0 % 16 * 4096 + b1 % 64 * 64 + b2 % 64 ≤ 57343) then 3 else 0)
  else if 240 ≤ b0 ∧ b0 ≤ 244 then
    (if (3 < n ∧ b1 / 64 = 2 ∧ b2 / 64 = 2 ∧ b3 / 64 = 2) ∧ ¬ (b0 % 8 * 262144 + b1 % 64 * 4096 + b2 % 64 * 64 + b3 % 64 < 65536) ∧ ¬ (1114111 < b0 % 8 * 262144 + b1 % 64 * 4096 + b2 % 64 * 64 + b3 % 64) then 4 else 0)
  else 0
theorem sign_none (n b0 b1 b2 b3 : Nat) (e : decodeN n b0 b1 b2 b3 = (65533, 1)) (h : signN n b0 b1 b2 b3 = 0) : signN n b0 b1 b2 b3 = if (decodeN n b0 b1 b2 b3).1 = 65533 ∧ (decodeN n b0 b1 b2 b3).2 = 1 then 0 else (decodeN n b0 b1 b2 b3).2 := by
  rw [e, h]; simp
theorem sign_some (n b0 b1 b2 b3 r k : Nat) (hk : r ≠ 65533 ∨ k ≠ 1) (e : decodeN n b0 b1 b2 b3 = (r, k)) (h : signN n b0 b1 b2 b3 = k) : signN n b0 b1 b2 b3 = if (decodeN n b0 b1 b2 b3).1 = 65533 ∧ (decodeN n b0 b1 b2 b3).2 = 1 then 0 else (decodeN n b0 b1 b2 b3).2 := by
  rw [e, h, if_neg (by simp only; omega)]
set_option maxRecDepth 100000 in
set_option maxHeartbeats 4000000 in
theorem sign_dec (n b0 b1 b2 b3 : Nat) (h0 : b0 < 256) (h1 : b1 < 256) (h2 : b2 < 256) (h3 : b3 < 256) : signN n b0 b1 b2 b3 = if (decodeN n b0 b1 b2 b3).1 = 65533 ∧ (decodeN n b0 b1 b2 b3).2 = 1 then 0 else (decodeN n b0 b1 b2 b3).2 := by
  by_cases c0 : b0 < 128
  · exact sign_some n b0 b1 b2 b3 b0 1 (by omega) (by rw [decodeN, if_pos c0]) (by rw [signN, if_pos c0])
  · by_cases c1 : b0 / 32 = 6
    · by_cases c2 : 1 < n ∧ b1 / 64 = 2
      · by_cases c7 : 194 ≤ b0
        · exact sign_some n b0 b1 b2 b3 _ 2 (by omega) (by rw [decodeN, if_neg c0, if_pos ⟨c1, c2⟩, if_pos (by omega)]) (by rw [signN, if_neg c0, if_pos (by omega), if_pos c2])
        · exact sign_none n b0 b1 b2 b3 (by rw [decodeN, if_neg c0, if_pos ⟨c1, c2⟩, if_neg (by omega)]) (by rw [signN, if_neg c0, if_neg (by omega), if_neg (by omega), if_neg (by omega)])
      · exact sign_none n b0 b1 b2 b3 (by rw [decodeN, if_neg c0, if_neg (fun h => c2 h.2), if_neg (by omega), if_neg (by omega)]) (by
          rw [signN, if_neg c0]
          split <;> first | rfl | rw [if_neg c2] | rw [if_neg (by omega), if_neg (by omega)])
    · by_cases c3 : b0 / 16 = 14
      · by_cases c4 : (1 < n ∧ b1 / 64 = 2) ∧ (2 < n ∧ b2 / 64 = 2)
        · by_cases c8 : b0 % 16 * 4096 + b1 % 64 * 64 + b2 % 64 ≥ 2048 ∧ (b0 % 16 * 4096 + b1 % 64 * 64 + b2 % 64 < 55296 ∨ (57344 ≤ b0 % 16 * 4096 + b1 % 64 * 64 + b2 % 64 ∧ b0 % 16 * 4096 + b1 % 64 * 64 + b2 % 64 ≤ 1114111))
          · exact sign_some n b0 b1 b2 b3 _ 3 (by omega) (by rw [decodeN, if_neg c0, if_neg (fun h => c1 h.1), if_pos ⟨c3, c4⟩, if_pos c8]) (by rw [signN, if_neg c0, if_neg (by omega), if_pos (by omega), if_pos (by omega)])
          · exact sign_none n b0 b1 b2 b3 (by rw [decodeN, if_neg c0, if_neg (fun h => c1 h.1), if_pos ⟨c3, c4⟩, if_neg c8]) (by rw [signN, if_neg c0, if_neg (by omega), if_pos (by omega), if_neg (by omega)])
        · exact sign_none n b0 b1 b2 b3 (by rw [decodeN, if_neg c0, if_neg (fun h => c1 h.1), if_neg (fun h => c4 h.2), if_neg (by omega)]) (by rw [signN, if_neg c0, if_neg (by omega), if_pos (by omega), if_neg (by omega)])
      · by_cases c5 : b0 / 8 = 30
        · by_cases c6 : (1 < n ∧ b1 / 64 = 2) ∧ (2 < n ∧ b2 / 64 = 2) ∧ (3 < n ∧ b3 / 64 = 2)
          · by_cases c8 : b0 % 8 * 262144 + b1 % 64 * 4096 + b2 % 64 * 64 + b3 % 64 ≥ 65536 ∧ (b0 % 8 * 262144 + b1 % 64 * 4096 + b2 % 64 * 64 + b3 % 64 < 55296 ∨ (57344 ≤ b0 % 8 * 262144 + b1 % 64 * 4096 + b2 % 64 * 64 + b3 % 64 ∧ b0 % 8 * 262144 + b1 % 64 * 4096 + b2 % 64 * 64 + b3 % 64 ≤ 1114111))
            · exact sign_some n b0 b1 b2 b3 _ 4 (by omega) (by rw [decodeN, if_neg c0, if_neg (fun h => c1 h.1), if_neg (fun h => c3 h.1), if_pos ⟨c5, c6⟩, if_pos c8]) (by rw [signN, if_neg c0, if_neg (by omega), if_neg (by omega), if_pos (by omega), if_pos (by omega)])
            · exact sign_none n b0 b1 b2 b3 (by rw [decodeN, if_neg c0, if_neg (fun h => c1 h.1), if_neg (fun h => c3 h.1), if_pos ⟨c5, c6⟩, if_neg c8]) (by
                rw [signN, if_neg c0, if_neg (by omega), if_neg (by omega)]
                split
                · rw [if_neg (by omega)]
                · rfl)
          · exact sign_none n b0 b1 b2 b3 (by rw [decodeN, if_neg c0, if_neg (fun h => c1 h.1), if_neg (fun h => c3 h.1), if_neg (fun h => c6 h.2)]) (by
              rw [signN, if_neg c0, if_neg (by omega), if_neg (by omega)]
              split
              · rw [if_neg (by omega)]
              · rfl)
        · exact sign_none n b0 b1 b2 b3 (by rw [decodeN, if_neg c0, if_neg (fun h => c1 h.1), if_neg (fun h => c3 h.1), if_neg (fun h => c5 h.1)]) (by rw [signN, if_neg c0, if_neg (by omega), if_neg (by omega), if_neg (by omega)])

/-- The number at a place. -/
def bt (l : List UInt8) (i : Nat) : Nat := (l.getD i 0).toNat
theorem bt_lt (l : List UInt8) (i : Nat) : bt l i < 256 := UInt8.toNat_lt _
theorem bt_zero (c : UInt8) (l : List UInt8) : bt (c :: l) 0 = c.toNat := rfl
theorem bt_succ (c : UInt8) (l : List UInt8) (i : Nat) : bt (c :: l) (i + 1) = bt l i := rfl
theorem bt_drop (l : List UInt8) (k i : Nat) : bt (l.drop k) i = bt l (k + i) := by
  simp [bt, List.getD_eq_getElem?_getD, List.getElem?_drop]
theorem bt_self (s : ByteArray) (i : Nat) (h : i < s.size) : bt s.data.toList i = s[i].toNat := by
  have hl : i < s.data.toList.length := by simpa using h
  simp only [bt, List.getD_eq_getElem?_getD, List.getElem?_eq_getElem hl, Option.getD_some]
  rfl
theorem get_q (b : ByteArray) (i : Nat) : b.get! i = b.data.toList.getD i 0 := by
  cases b with | mk d =>
  show d[i]! = _
  simp [List.getD_eq_getElem?_getD, getElem!_def]
  cases h : d[i]? <;> rfl
theorem get_bt (l : List UInt8) (i : Nat) : ((⟨l.toArray⟩ : ByteArray).get! i).toNat = bt l i := by
  rw [get_q]; rfl
def sgn (l : List UInt8) : Nat := signN l.length (bt l 0) (bt l 1) (bt l 2) (bt l 3)
theorem decL (l : List UInt8) : decodeL l = decodeN l.length (bt l 0) (bt l 1) (bt l 2) (bt l 3) := by
  unfold decodeL
  rw [decode_at, get_bt, get_bt, get_bt, get_bt]
  rfl
theorem sgn_dec (l : List UInt8) : sgn l = if (decodeL l).1 = 65533 ∧ (decodeL l).2 = 1 then 0 else (decodeL l).2 := by
  rw [decL]
  exact sign_dec _ _ _ _ _ (bt_lt l 0) (bt_lt l 1) (bt_lt l 2) (bt_lt l 3)
/-- A sign that may stand in a text. -/
def okC (n : Nat) : Bool := decide (32 ≤ n) && decide (n ≠ 127)
def okB (c : UInt8) : Bool := okC c.toNat
theorem okC_hi (n : Nat) (h : n / 64 = 2) : okC n = true := by simp [okC]; omega
theorem sgn_cases (b0 : UInt8) (t : List UInt8) : sgn (b0 :: t) = 0 ∨ (sgn (b0 :: t) = 1) ∨
    (sgn (b0 :: t) = 2 ∧ ∃ b1 r, t = b1 :: r ∧ b1.toNat / 64 = 2) ∨ (sgn (b0 :: t) = 3 ∧ ∃ b1 b2 r, t = b1 :: b2 :: r ∧ b1.toNat / 64 = 2 ∧ b2.toNat / 64 = 2) ∨
    (sgn (b0 :: t) = 4 ∧ ∃ b1 b2 b3 r, t = b1 :: b2 :: b3 :: r ∧ b1.toNat / 64 = 2 ∧ b2.toNat / 64 = 2 ∧ b3.toNat / 64 = 2) := by
  unfold sgn signN
  split
  · exact .inr (.inl rfl)
  · split
    · split
      · next h =>
        refine .inr (.inr (.inl ⟨rfl, ?_⟩))
        cases t with
        | nil => simp at h
        | cons b1 r => exact ⟨b1, r, rfl, h.2⟩
      · exact .inl rfl
    · split
      · split
        · next h =>
          refine .inr (.inr (.inr (.inl ⟨rfl, ?_⟩)))
          match t, h with
          | b1 :: b2 :: r, h => exact ⟨b1, b2, r, rfl, h.1.2.1, h.1.2.2⟩
          | [b1], h => simp at h
          | [], h => simp at h
        · exact .inl rfl
      · split
        · split
          · next h =>
            refine .inr (.inr (.inr (.inr ⟨rfl, ?_⟩)))
            match t, h with
            | b1 :: b2 :: b3 :: r, h => exact ⟨b1, b2, b3, r, rfl, h.1.2.1, h.1.2.2.1, h.1.2.2.2⟩
            | [b1, b2], h => simp at h
            | [b1], h => simp at h
            | [], h => simp at h
          · exact .inl rfl
        · exact .inl rfl
theorem sgn_le (l : List UInt8) (h : l ≠ []) : sgn l ≤ l.length := by
  cases l with
  | nil => exact absurd rfl h
  | cons b0 t =>
    rcases sgn_cases b0 t with h | h | ⟨h, b1, r, rfl, _⟩ | ⟨h, b1, b2, r, rfl, _⟩ | ⟨h, b1, b2, b3, r, rfl, _⟩ <;> rw [h] <;> simp
/-- Sign by sign: are they whole, and may they stand? -/
def scanF : Nat → List UInt8 → Bool
  | 0, _ => true
  | n + 1, l => if l = [] then true else if sgn l = 0 ∨ okC (bt l 0) = false then false else scanF n (l.drop (sgn l))
theorem scan_eq : ∀ (n : Nat) (l : List UInt8), l.length ≤ n → scanF n l = (validGoD n l && l.all okB) := by
  intro n
  induction n with
  | zero => intro l h; have : l = [] := List.eq_nil_of_length_eq_zero (by omega); subst this; rfl
  | succ n ih =>
    intro l h
    rw [scanF, validGoD]
    by_cases hl : l = []
    · subst hl; simp
    · rw [if_neg hl, if_neg hl]
      have hd := sgn_dec l
      by_cases hv : (decodeL l).1 = 65533 ∧ (decodeL l).2 = 1
      · rw [if_pos hv] at hd
        rw [if_pos (.inl hd), if_pos hv]
        simp
      · rw [if_neg hv] at hd
        rw [if_neg hv, ← hd]
        cases l with
        | nil => exact absurd rfl hl
        | cons b0 t =>
          have hle : t.length ≤ n := by simpa using h
          have key : ∀ (r : List UInt8), r.length ≤ n → sgn (b0 :: t) ≠ 0 → (b0 :: t).drop (sgn (b0 :: t)) = r → (t.all okB = r.all okB) → (if sgn (b0 :: t) = 0 ∨ okC (bt (b0 :: t) 0) = false then false else scanF n ((b0 :: t).drop (sgn (b0 :: t)))) = (validGoD n ((b0 :: t).drop (sgn (b0 :: t))) && (b0 :: t).all okB) := by
            intro r hr h0 hdr hall
            rw [hdr, List.all_cons, hall]
            cases hb : okC (bt (b0 :: t) 0) with
            | false =>
              rw [if_pos (.inr rfl), show okB b0 = false from hb]
              simp
            | true =>
              rw [if_neg (by simp [h0]), ih r hr, show okB b0 = true from hb]
              simp
          rcases sgn_cases b0 t with h0 | h0 | ⟨h0, b1, r, rfl, q1⟩ | ⟨h0, b1, b2, r, rfl, q1, q2⟩ | ⟨h0, b1, b2, b3, r, rfl, q1, q2, q3⟩
          · exfalso
            have e : (decodeL (b0 :: t)).2 = 0 := by rw [← hd]; exact h0
            rw [decL] at e
            unfold decodeN at e
            repeat' split at e
            all_goals simp at e
          · exact key t hle (by omega) (by rw [h0]; rfl) rfl
          · exact key r (by simp at hle; omega) (by omega) (by rw [h0]; rfl) (by simp [show okB b1 = true from okC_hi _ q1])
          · exact key r (by simp at hle; omega) (by omega) (by rw [h0]; rfl) (by simp [show okB b1 = true from okC_hi _ q1, show okB b2 = true from okC_hi _ q2])
          · exact key r (by simp at hle; omega) (by omega) (by rw [h0]; rfl) (by simp [show okB b1 = true from okC_hi _ q1, show okB b2 = true from okC_hi _ q2, show okB b3 = true from okC_hi _ q3])
theorem scan_valid (l : List UInt8) : scanF l.length l = (validD l && l.all okB) := scan_eq _ l (Nat.le_refl _)

end Go.Proofs.YtpejlcaoggedfaaGreatDoor
