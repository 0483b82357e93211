/-
  From the row's list, and from a reading of a field, to what the walks ask.
-/
import Derived.Test.YtogjokofmfpmgaaGreatDoorGAF
import Derived.Test.YtogjokofmfpmgaaGreatDoorCards
import Derived.Test.YtogjokofmfpmgaaGreatDoorTie
import Derived.ProofKit
import Derived.OpenShut
import Derived.ShutString
import Derived.ChangeOld
import Derived.Deep.Slices
import Derived.Deep.Fields
import Derived.Deep.DeepHandedRow
import Derived.Lib.LaidTab
import Derived.Lib.LaidU8T
import Derived.Test.YtogjokofmfpmgaaGreatDoorGAA
import Derived.Test.YtogjokofmfpmgaaGreatDoorBytesOrd
import Derived.Test.YtogjokofmfpmgaaGreatDoorGAD
set_option linter.unusedVariables false
set_option linter.unusedSimpArgs false
namespace Go.Proofs.YtogjokofmfpmgaaGreatDoor
open Go.ChangeShapes Go.WideShapes Go.ChangeAt Go.RowKit

theorem ownT : ownKnob Tryz.prog.godebug = none := by kernel_rfl
theorem laidOutT : laidOutB Tryz.prog = true := by kernel_rfl
theorem firstIs : (Rows.laid_unicode_utf8_first : DataW Unit) = Lib.firstData := by kernel_rfl
theorem accIs : (Rows.laid_unicode_utf8_acceptRanges : DataW Unit) = Lib.acceptData := by kernel_rfl
theorem gTab : Tryz.prog.globalNamed "internal/strconv.uint64pow10" = some 3 := by kernel_rfl
theorem gTabType : (Tryz.prog.globals[3]?).map (·.type) = some 220 := by kernel_rfl
theorem tbs_of {W : World} (h : laidMetH Tryz.prog [("math/bits.deBruijn32tab", Rows.laid_math_bits_deBruijn32tab), ("math/bits.deBruijn64tab", Rows.laid_math_bits_deBruijn64tab), ("internal/strconv.uint64pow10", Rows.laid_internal_strconv_uint64pow10), ("unicode/utf8.acceptRanges", Rows.laid_unicode_utf8_acceptRanges), ("unicode/utf8.first", Rows.laid_unicode_utf8_first)] W) (hs : W.ShapedOpen Tryz.prog) : Tbs W := by
  have h' : laidMet Tryz.prog [("math/bits.deBruijn32tab", Rows.laid_math_bits_deBruijn32tab), ("math/bits.deBruijn64tab", Rows.laid_math_bits_deBruijn64tab), ("internal/strconv.uint64pow10", Rows.laid_internal_strconv_uint64pow10), ("unicode/utf8.acceptRanges", Rows.laid_unicode_utf8_acceptRanges), ("unicode/utf8.first", Rows.laid_unicode_utf8_first)] W := h
  refine ⟨?_, ?_⟩
  · rw [firstIs, accIs] at h'
    exact ⟨utf8Tabs_of_readsT (U8Types.of196 lays196) ⟨by kernel_rfl, by kernel_rfl, by kernel_rfl, by kernel_rfl, by kernel_rfl, by kernel_rfl, by kernel_rfl⟩ (Lib.laidMet.reads h' (.tail _ (.tail _ (.tail _ (.tail _ (.head _)))))) (Lib.laidMet.reads h' (.tail _ (.tail _ (.tail _ (.head _))))), laysM144.s1_3 W hs⟩
  · obtain ⟨ps, ⟨g1, t1, cs1, f1, p1, q1, _, _, _, _, ⟨g2, t2, cs2, f2, p2, q2, _, _, _, _, ⟨g3, t3, cs3, f3, p3, q3, hg3, ht3, hvar, hd3, _, _⟩, _⟩, _⟩, _⟩ := h'
    obtain rfl := Option.some.inj (gTab.symm.trans hg3)
    obtain rfl := Option.some.inj (gTabType.symm.trans ht3)
    unfold Tab Lib.TabIs
    rw [hvar, ← Lib.cells_of_tab Tryz.underlying220 Tryz.underlying126 (by kernel_rfl) (by kernel_rfl) (zs := Lib.pow10Tab) hd3]

/-- A listed table's cells. -/
def arrT (d : DataW Unit) : Array Value := match d with
  | .agg l => (l.flatMap fun
    | .lit x => [x.value]
    | .agg k => k.map fun | .lit x => x.value | _ => undef
    | _ => []).toArray
  | _ => #[]
def putT (d : DataW Unit) : Obj → Obj
  | .cells _ t frozen => .cells (arrT d) t frozen
  | o => o
noncomputable def laidWorld5 (os : Os) : World :=
  { World.holding Tryz.prog os ⟨#[], #[], []⟩ with heap := (((((World.holding Tryz.prog os ⟨#[], #[], []⟩).heap.modify 1 (putT Rows.laid_unicode_utf8_first)).modify 2 (putT Rows.laid_unicode_utf8_acceptRanges)).modify 3 (putT Rows.laid_internal_strconv_uint64pow10)).modify 4 (putT Rows.laid_math_bits_deBruijn32tab)).modify 5 (putT Rows.laid_math_bits_deBruijn64tab) }

section
variable {H : Type} {enc : TypeId × Value → H} {W : World} {base : Nat} {spare : Nat → Bool} {held : Bool}
end

end Go.Proofs.YtogjokofmfpmgaaGreatDoor
namespace Go.Proofs.YtogjokofmfpmgaaGreatDoor
open Go.RowKit

/-- How many bytes a number has. -/
def nb (n : Nat) : Nat := if h : n = 0 then 0 else nb (n / 256) + 1
termination_by n
decreasing_by omega
theorem nb_0 : nb 0 = 0 := by rw [nb]; simp
theorem nb_pos {n : Nat} (h : n ≠ 0) : nb n = nb (n / 256) + 1 := by rw [nb, dif_neg h]
theorem nb_lt (n : Nat) : n < 256 ^ nb n := by
  induction n using Nat.strongRecOn with
  | _ n ih =>
    by_cases h : n = 0
    · subst h; rw [nb_0]; decide
    · rw [nb_pos h, Nat.pow_succ]
      have := ih (n / 256) (by omega)
      omega
theorem nb_ge (n : Nat) : ∀ j, j < nb n → n / 256 ^ j ≠ 0 := by
  induction n using Nat.strongRecOn with
  | _ n ih =>
    intro j hj
    by_cases h : n = 0
    · subst h; rw [nb_0] at hj; omega
    · rw [nb_pos h] at hj
      cases j with
      | zero => simpa using h
      | succ j =>
        rw [Nat.pow_succ, Nat.mul_comm, ← Nat.div_div_eq_div_mul]
        exact ih (n / 256) (by omega) j (by omega)
theorem nb_of {n k : Nat} (h : n / 256 ^ k = 0) (h2 : ∀ j, j < k → n / 256 ^ j ≠ 0) : nb n = k := by
  rcases Nat.lt_trichotomy (nb n) k with hl | he | hg
  · exact absurd (Nat.div_eq_of_lt (nb_lt n)) (h2 _ hl)
  · exact he
  · exact absurd h (nb_ge n k hg)
theorem nb_le {n k : Nat} (h : n < 256 ^ k) : nb n ≤ k := by
  rcases Nat.lt_or_ge k (nb n) with hl | hg
  · exact absurd (Nat.div_eq_of_lt h) (nb_ge n k hl)
  · exact hg

/-- So many bytes of a number, the greatest ahead. -/
def be : Nat → Nat → List UInt8
  | 0, _ => []
  | k + 1, n => be k (n / 256) ++ [UInt8.ofNat n]
theorem be_len : ∀ (k n : Nat), (be k n).length = k
  | 0, _ => rfl
  | k + 1, n => by rw [be, List.length_append, be_len k]; rfl
/-- The last bytes, from the front. -/
def tl : Nat → Nat → List UInt8
  | 0, _ => []
  | j + 1, n => UInt8.ofNat (n / 256 ^ j) :: tl j n
theorem tl_snoc : ∀ (m n : Nat), tl m (n / 256) ++ [UInt8.ofNat n] = tl (m + 1) n
  | 0, n => by simp [tl]
  | m + 1, n => by
    rw [tl, List.cons_append, tl_snoc m n]
    show _ = UInt8.ofNat (n / 256 ^ (m + 1)) :: tl (m + 1) n
    rw [Nat.div_div_eq_div_mul, Nat.pow_succ, Nat.mul_comm]
theorem be_tl : ∀ (m n : Nat), be m n = tl m n
  | 0, _ => rfl
  | m + 1, n => by rw [be, be_tl m, tl_snoc]
theorem be_step (m n j : Nat) : be (m + 1) (n / 256 ^ j) = be m (n / 256 ^ (j + 1)) ++ [UInt8.ofNat (n / 256 ^ j)] := by
  rw [be, Nat.div_div_eq_div_mul, Nat.pow_succ]

/-- The number of some bytes. -/
def val (l : List UInt8) : Nat := l.foldl (fun u c => u * 256 + c.toNat) 0
theorem val_snoc (l : List UInt8) (c : UInt8) : val (l ++ [c]) = val l * 256 + c.toNat := by simp [val]
theorem val_take {l : List UInt8} {k : Nat} (h : k < l.length) : val (l.take (k + 1)) = val (l.take k) * 256 + l[k].toNat := by
  rw [List.take_succ_eq_append_getElem h, val_snoc]
theorem ofNat_toNat (n : Nat) : (UInt8.ofNat n).toNat = n % 256 := UInt8.toNat_ofNat ..
theorem val_be : ∀ (k n : Nat), val (be k n) = n % 256 ^ k
  | 0, n => by simp [be, val, Nat.mod_one]
  | k + 1, n => by
    rw [be, val_snoc, val_be k, ofNat_toNat, Nat.pow_succ, Nat.mul_comm (256 ^ k) 256, Nat.mod_mul, Nat.mul_comm]
    omega
theorem snoc_of {l : List UInt8} {k : Nat} (h : l.length = k + 1) : ∃ m c, l = m ++ [c] ∧ m.length = k := by
  rcases List.eq_nil_or_concat l with rfl | ⟨m, c, rfl⟩
  · cases h
  · exact ⟨m, c, by simp, by simpa using h⟩
theorem val_lt : ∀ {k : Nat} {l : List UInt8}, l.length = k → val l < 256 ^ k
  | 0, l, h => by rw [List.eq_nil_of_length_eq_zero h]; simp [val]
  | k + 1, l, h => by
    obtain ⟨m, c, rfl, hm⟩ := snoc_of h
    have := val_lt hm
    have hc := c.toNat_lt
    rw [val_snoc, Nat.pow_succ]
    omega
theorem be_val : ∀ {k : Nat} {l : List UInt8}, l.length = k → be k (val l) = l
  | 0, l, h => by rw [List.eq_nil_of_length_eq_zero h]; rfl
  | k + 1, l, h => by
    obtain ⟨m, c, rfl, hm⟩ := snoc_of h
    have hc := c.toNat_lt
    rw [val_snoc, be, show (val m * 256 + c.toNat) / 256 = val m by omega, be_val hm]
    congr 2
    apply UInt8.toNat_inj.1
    rw [ofNat_toNat]
    omega
theorem be_head {n : Nat} (h : n ≠ 0) : ∃ c t, be (nb n) n = c :: t ∧ c ≠ 0 := by
  have h1 := nb_pos h
  obtain ⟨j, hj⟩ : ∃ j, nb n = j + 1 := ⟨_, h1⟩
  refine ⟨_, _, by rw [be_tl, hj, tl], ?_⟩
  intro hc
  have h2 := nb_ge n j (by omega)
  have h3 := nb_lt n
  rw [hj, Nat.pow_succ] at h3
  have h4 : n / 256 ^ j < 256 := (Nat.div_lt_iff_lt_mul (Nat.pow_pos (by decide))).2 (by omega)
  have h5 := congrArg UInt8.toNat hc
  rw [ofNat_toNat] at h5
  have h6 : (n / 256 ^ j) % 256 = 0 := h5
  generalize n / 256 ^ j = x at *
  omega
theorem nb_val {l : List UInt8} {k : Nat} (h : l.length = k) (hk : 0 < k) (h0 : l.headD 0 ≠ 0) : nb (val l) = k := by
  refine nb_of (Nat.div_eq_of_lt (val_lt h)) ?_
  intro j hj he
  have e : be k (val l) = l := be_val h
  rw [be_tl] at e
  obtain ⟨k, rfl⟩ : ∃ k', k = k' + 1 := ⟨k - 1, by omega⟩
  rw [tl] at e
  rw [← e] at h0
  apply h0
  show UInt8.ofNat (val l / 256 ^ k) = 0
  have : val l / 256 ^ k = 0 := by
    apply Nat.div_eq_of_lt
    have h1 : val l < 256 ^ j := by
      rcases Nat.lt_or_ge (val l) (256 ^ j) with h | h
      · exact h
      · have := (Nat.le_div_iff_mul_le (Nat.pow_pos (n := j) (by decide : 0 < 256))).2 (by rw [Nat.one_mul]; exact h)
        omega
    exact Nat.lt_of_lt_of_le h1 (Nat.pow_le_pow_right (by decide) (by omega))
  rw [this]; rfl

/-- A number's bytes. -/
def numB (n : Int) : List UInt8 := if n < 0 then [] else if n ≤ 247 then [UInt8.ofNat n.toNat] else UInt8.ofNat (247 + nb n.toNat) :: be (nb n.toNat) n.toNat
def textB (s : List UInt8) : List UInt8 := numB s.length ++ s
/-- The number that stands ahead, and what is behind. -/
def numAt (l : List UInt8) : Option (Int × List UInt8) :=
  match l with
  | [] => none
  | c :: t => if c.toNat ≤ 247 then some ((c.toNat : Int), t) else
      if t.length < c.toNat - 247 then none else
      if t.headD 0 = 0 ∨ val (t.take (c.toNat - 247)) ≤ 247 ∨ 2 ^ 63 ≤ val (t.take (c.toNat - 247)) then none else
      some ((val (t.take (c.toNat - 247)) : Int), t.drop (c.toNat - 247))
theorem numAt_num {n : Int} (h : 0 ≤ n) (h2 : n < 2 ^ 63) (r : List UInt8) : numAt (numB n ++ r) = some (n, r) := by
  unfold numB
  rw [if_neg (by omega)]
  split
  · next h3 =>
    show numAt (UInt8.ofNat n.toNat :: r) = _
    have e : (UInt8.ofNat n.toNat).toNat = n.toNat := by rw [ofNat_toNat]; omega
    unfold numAt
    simp only [e]
    rw [if_pos (by omega)]
    congr 2
    omega
  · next h3 =>
    have hb : nb n.toNat ≤ 8 := nb_le (by have : (256 : Nat) ^ 8 = 18446744073709551616 := by decide
                                          rw [this]; omega)
    have hp : nb n.toNat = nb (n.toNat / 256) + 1 := nb_pos (by omega)
    have e : (UInt8.ofNat (247 + nb n.toNat)).toNat = 247 + nb n.toNat := by rw [ofNat_toNat]; omega
    rw [List.cons_append]
    unfold numAt
    simp only [e]
    have hk : 247 + nb n.toNat - 247 = nb n.toNat := by omega
    rw [if_neg (by omega), hk, if_neg (by rw [List.length_append, be_len]; omega)]
    have ht : (be (nb n.toNat) n.toNat ++ r).take (nb n.toNat) = be (nb n.toNat) n.toNat := by
      rw [List.take_append_of_le_length (by rw [be_len]; exact Nat.le_refl _), List.take_of_length_le (by rw [be_len]; exact Nat.le_refl _)]
    have hd : (be (nb n.toNat) n.toNat ++ r).drop (nb n.toNat) = r := by
      rw [List.drop_append_of_le_length (by rw [be_len]; exact Nat.le_refl _), List.drop_of_length_le (by rw [be_len]; exact Nat.le_refl _)]
      rfl
    have hv : val (be (nb n.toNat) n.toNat) = n.toNat := by rw [val_be]; exact Nat.mod_eq_of_lt (nb_lt _)
    obtain ⟨c, t, hc, hc0⟩ := be_head (n := n.toNat) (by omega)
    rw [ht, hd, hv, if_neg]
    · rw [show ((n.toNat : Nat) : Int) = n by omega]
    · rw [hc]
      rintro (h | h | h)
      · exact hc0 h
      · omega
      · omega
theorem numAt_some {l r : List UInt8} {n : Int} (h : numAt l = some (n, r)) : l = numB n ++ r ∧ 0 ≤ n ∧ n < 2 ^ 63 := by
  unfold numAt at h
  split at h
  · cases h
  · next c t =>
    split at h
    · next h1 =>
      injection h with h
      injection h with h2 h3
      subst h2 h3
      refine ⟨?_, by omega, by omega⟩
      unfold numB
      rw [if_neg (by omega), if_pos (by omega)]
      show c :: t = UInt8.ofNat _ :: t
      congr 1
      apply UInt8.toNat_inj.1
      rw [ofNat_toNat]
      have := c.toNat_lt
      omega
    · next h1 =>
      split at h
      · cases h
      · next h4 =>
        split at h
        · cases h
        · next h5 =>
          injection h with h
          injection h with h2 h3
          subst h2 h3
          have h6 : t.headD 0 ≠ 0 := fun e => h5 (.inl e)
          have h7 : ¬ val (t.take (c.toNat - 247)) ≤ 247 := fun e => h5 (.inr (.inl e))
          have h8 : ¬ 2 ^ 63 ≤ val (t.take (c.toNat - 247)) := fun e => h5 (.inr (.inr e))
          have hc := c.toNat_lt
          have hl : (t.take (c.toNat - 247)).length = c.toNat - 247 := by rw [List.length_take]; omega
          have hh : (t.take (c.toNat - 247)).headD 0 ≠ 0 := by
            cases t with
            | nil => simp at h4; omega
            | cons x t =>
              obtain ⟨k, hk⟩ : ∃ k, c.toNat - 247 = k + 1 := ⟨c.toNat - 248, by omega⟩
              rw [hk, List.take_succ_cons]
              exact h6
          have hn := nb_val hl (by omega) hh
          refine ⟨?_, by omega, by omega⟩
          unfold numB
          rw [if_neg (by omega), if_neg (by omega), Int.toNat_natCast, hn, be_val hl]
          have e : UInt8.ofNat (247 + (c.toNat - 247)) = c := by
            apply UInt8.toNat_inj.1
            rw [ofNat_toNat]
            omega
          rw [e, List.cons_append, List.take_append_drop]
theorem numB_len (n : Int) (h2 : n < 2 ^ 63) : (numB n).length ≤ 9 := by
  unfold numB
  split
  · simp
  · split
    · simp
    · have hb : nb n.toNat ≤ 8 := nb_le (by have : (256 : Nat) ^ 8 = 18446744073709551616 := by decide
                                            rw [this]; omega)
      rw [List.length_cons, be_len]
      omega
theorem numB_pos {n : Int} (h : 0 ≤ n) : 0 < (numB n).length := by
  unfold numB
  rw [if_neg (by omega)]
  split <;> simp
/-- The text that stands ahead. -/
def textAt (most : Nat) (l : List UInt8) : Option (List UInt8 × List UInt8) :=
  match numAt l with
  | none => none
  | some (n, r) => if (r.length : Int) < n ∨ (most : Int) < n then none else some (r.take n.toNat, r.drop n.toNat)
theorem textAt_text {most : Nat} {s : List UInt8} (h : s.length ≤ most) (h2 : s.length < 2 ^ 63) (r : List UInt8) : textAt most (textB s ++ r) = some (s, r) := by
  unfold textAt textB
  rw [List.append_assoc, numAt_num (by omega) (by omega)]
  simp only
  rw [if_neg (by rw [List.length_append]; omega), Int.toNat_natCast, List.take_append_of_le_length (Nat.le_refl _), List.take_of_length_le (Nat.le_refl _), List.drop_append_of_le_length (Nat.le_refl _), List.drop_of_length_le (Nat.le_refl _)]
  rfl
theorem textAt_some {most : Nat} {l s r : List UInt8} (h : textAt most l = some (s, r)) : l = textB s ++ r ∧ s.length ≤ most := by
  unfold textAt at h
  split at h
  · cases h
  · next n r' hn =>
    split at h
    · cases h
    · next hc =>
      injection h with h
      injection h with h2 h3
      obtain ⟨e, h0, _⟩ := numAt_some hn
      have h4 : ¬ (r'.length : Int) < n := fun e => hc (.inl e)
      have h5 : ¬ (most : Int) < n := fun e => hc (.inr e)
      have hl : s.length = n.toNat := by rw [← h2, List.length_take]; omega
      refine ⟨?_, by omega⟩
      unfold textB
      rw [e, show (s.length : Int) = n by omega, List.append_assoc, ← h2, ← h3, List.take_append_drop]

end Go.Proofs.YtogjokofmfpmgaaGreatDoor
namespace Go.Proofs.YtogjokofmfpmgaaGreatDoor
open Go.RowKit

/-- An item: UID, version, whether it is gone, its card. -/
structure It where
  uid : List UInt8
  ver : Int
  gone : Bool
  card : List UInt8
  deriving DecidableEq
/-- A card of a collection: version, text. -/
structure Ce where
  ver : Int
  text : List UInt8
  deriving DecidableEq
theorem flat_at {R : Type} (enc : R → List Value) (k : Nat) (hk : ∀ r, (enc r).length = k) : ∀ (l : List R) (i : Nat) (h : i < l.length) (j : Nat), j < k → (l.flatMap enc)[i * k + j]? = (enc l[i])[j]?
  | [], i, h, _, _ => by simp at h
  | a :: l, 0, _, j, hj => by
    rw [List.flatMap_cons, Nat.zero_mul, Nat.zero_add, List.getElem?_append_left (by rw [hk]; exact hj)]
    rfl
  | a :: l, i + 1, h, j, hj => by
    have e : (i + 1) * k + j = k + (i * k + j) := by rw [Nat.add_mul, Nat.one_mul]; omega
    rw [List.flatMap_cons, e, List.getElem?_append_right (by rw [hk]; omega), hk, show k + (i * k + j) - k = i * k + j by omega, flat_at enc k hk l i (by simpa using h) j hj]
    rfl
theorem flat_length {R : Type} (enc : R → List Value) (k : Nat) (hk : ∀ r, (enc r).length = k) (l : List R) : (l.flatMap enc).length = l.length * k := by
  induction l with
  | nil => simp
  | cons a l ih => rw [List.flatMap_cons, List.length_append, hk, ih, List.length_cons, Nat.add_mul]; omega
theorem flat_take {R : Type} (enc : R → List Value) (k : Nat) (hk : ∀ r, (enc r).length = k) : ∀ (l : List R) (i : Nat), (l.flatMap enc).take (i * k) = (l.take i).flatMap enc
  | [], i => by simp
  | a :: l, 0 => by simp
  | a :: l, i + 1 => by
    rw [List.flatMap_cons, Nat.add_mul, Nat.one_mul, Nat.add_comm, List.take_succ_cons, List.flatMap_cons, ← flat_take enc k hk l i]
    rw [List.take_append, hk, List.take_of_length_le (by rw [hk]; omega)]
    congr 2
    omega
end Go.Proofs.YtogjokofmfpmgaaGreatDoor
namespace Go.Proofs.YtogjokofmfpmgaaGreatDoor
open Go.RowKit Go.Lib

/-- A write. -/
structure OpV where
  del : Bool
  uid : List UInt8
  card : List UInt8
  ck : Int
  cv : Int
  deriving DecidableEq
def opEnc (o : OpV) : List Value := [.bool o.del, .string (bs o.uid), .string (bs o.card), .int .i64 o.ck, .int .i64 o.cv]
theorem opEnc_len (o : OpV) : (opEnc o).length = 5 := rfl

/-- The collection's state. -/
structure Cs where
  most : Int
  cap : Int
  ml : ML Ce
  log : List (Int × List UInt8)
  latest : Int
  horizon : Int
def Cs.no (s : Cs) (o : OpV) (t : Int) : Bool := decide (t < s.latest) || (o.del && !hasM s.ml o.uid) || (!o.del && !hasM s.ml o.uid && decide (s.most ≤ (s.ml.length : Int)))
def Cs.new (birth cards log : Int) : Cs := ⟨max cards 1, max log 1, [], [], birth, birth⟩
end Go.Proofs.YtogjokofmfpmgaaGreatDoor
namespace Go.Proofs.YtogjokofmfpmgaaGreatDoor
def mayP (ck cv : Int) : Bool := if ck = 0 ∨ ck = 1 ∨ ck = 2 then cv == 0 else if ck = 3 then decide (1 ≤ cv) else false
end Go.Proofs.YtogjokofmfpmgaaGreatDoor
namespace Go.Proofs.YtogjokofmfpmgaaGreatDoor
open Go.RowKit Go.Lib

def Rises (l : List Fld) : Prop := l.Pairwise LessP
theorem rises_ext : ∀ {l m : List Fld}, Rises l → Rises m → (∀ x, x ∈ l ↔ x ∈ m) → l = m
  | [], [], _, _, _ => rfl
  | [], b :: m, _, _, h => by have := (h b).2 (by simp); cases this
  | a :: l, [], _, _, h => by have := (h a).1 (by simp); cases this
  | a :: l, b :: m, hl, hm, h => by
    have l1 := (List.pairwise_cons.1 hl).1
    have m1 := (List.pairwise_cons.1 hm).1
    have e : a = b := by
      rcases List.mem_cons.1 ((h a).1 (by simp)) with e | e
      · exact e
      · rcases List.mem_cons.1 ((h b).2 (by simp)) with e' | e'
        · exact e'.symm
        · exact absurd (l1 b e') (less_asym (m1 a e))
    subst e
    have := rises_ext (List.pairwise_cons.1 hl).2 (List.pairwise_cons.1 hm).2 (fun x => by
      constructor
      · intro hx
        rcases List.mem_cons.1 ((h x).1 (by simp [hx])) with e | e
        · exact absurd (l1 x hx) (by rw [e]; exact less_irr a)
        · exact e
      · intro hx
        rcases List.mem_cons.1 ((h x).2 (by simp [hx])) with e | e
        · exact absurd (m1 x hx) (by rw [e]; exact less_irr a)
        · exact e)
    rw [this]

/-- Put where it belongs, unless it is there. -/
def putF (x : Fld) : List Fld → List Fld
  | [] => [x]
  | y :: t => if LessP y x then y :: putF x t else x :: y :: t
def insF (o : List Fld) (x : Fld) : List Fld := if x ∈ o then o else putF x o
theorem mem_putF (x : Fld) : ∀ (o : List Fld) (y : Fld), y ∈ putF x o ↔ y = x ∨ y ∈ o
  | [], y => by simp [putF]
  | z :: t, y => by
    unfold putF
    split
    · rw [List.mem_cons, mem_putF x t y, List.mem_cons]
      constructor
      · rintro (h | h | h)
        · exact .inr (.inl h)
        · exact .inl h
        · exact .inr (.inr h)
      · rintro (h | h | h)
        · exact .inr (.inl h)
        · exact .inl h
        · exact .inr (.inr h)
    · simp
theorem putF_rises (x : Fld) : ∀ (o : List Fld), Rises o → x ∉ o → Rises (putF x o)
  | [], _, _ => by simp [putF, Rises]
  | y :: t, h, hn => by
    have h1 := (List.pairwise_cons.1 h).1
    have h2 := (List.pairwise_cons.1 h).2
    unfold putF
    split
    · next hl =>
      refine List.pairwise_cons.2 ⟨fun z hz => ?_, putF_rises x t h2 (fun hm => hn (by simp [hm]))⟩
      rcases (mem_putF x t z).1 hz with rfl | hz
      · exact hl
      · exact h1 z hz
    · next hl =>
      have hxy : LessP x y := less_not hl (fun e => hn (by simp [e]))
      refine List.pairwise_cons.2 ⟨fun z hz => ?_, h⟩
      rcases List.mem_cons.1 hz with rfl | hz
      · exact hxy
      · exact less_trans hxy (h1 z hz)
theorem putF_len (x : Fld) : ∀ o : List Fld, (putF x o).length = o.length + 1
  | [] => rfl
  | y :: t => by unfold putF; split <;> simp [putF_len x t]
theorem mem_insF (o : List Fld) (x y : Fld) : y ∈ insF o x ↔ y ∈ o ∨ y = x := by
  unfold insF
  split
  · next h => constructor
              · exact .inl
              · rintro (h' | rfl); exact h'; exact h
  · rw [mem_putF]; exact Or.comm
theorem insF_rises {o : List Fld} (h : Rises o) (x : Fld) : Rises (insF o x) := by
  unfold insF
  split
  · exact h
  · next hn => exact putF_rises x o h hn
theorem insF_len (o : List Fld) (x : Fld) : (insF o x).length ≤ o.length + 1 := by
  unfold insF
  split
  · omega
  · rw [putF_len]; exact Nat.le_refl _
def riseF (l : List Fld) : List Fld := l.foldl insF []
theorem fold_ins : ∀ (l o : List Fld), Rises o → Rises (l.foldl insF o) ∧ (∀ y, y ∈ l.foldl insF o ↔ y ∈ o ∨ y ∈ l) ∧ (l.foldl insF o).length ≤ o.length + l.length
  | [], o, h => ⟨h, fun y => by simp, by simp⟩
  | x :: t, o, h => by
    obtain ⟨h1, h2, h3⟩ := fold_ins t (insF o x) (insF_rises h x)
    refine ⟨h1, fun y => ?_, ?_⟩
    · rw [List.foldl_cons, h2 y, mem_insF, List.mem_cons]
      constructor
      · rintro ((h | h) | h)
        · exact .inl h
        · exact .inr (.inl h)
        · exact .inr (.inr h)
      · rintro (h | h | h)
        · exact .inl (.inl h)
        · exact .inl (.inr h)
        · exact .inr h
    · have := insF_len o x
      rw [List.foldl_cons, List.length_cons]
      omega
theorem rise_rises (l : List Fld) : Rises (riseF l) := (fold_ins l [] List.Pairwise.nil).1
theorem mem_rise (l : List Fld) (y : Fld) : y ∈ riseF l ↔ y ∈ l := by
  have := (fold_ins l [] List.Pairwise.nil).2.1 y
  unfold riseF
  simpa using this
theorem rise_len (l : List Fld) : (riseF l).length ≤ l.length := by
  have := (fold_ins l [] List.Pairwise.nil).2.2
  unfold riseF
  simpa using this
theorem rise_self {l : List Fld} (h : Rises l) : riseF l = l := rises_ext (rise_rises l) h (mem_rise l)
theorem rise_of {l m : List Fld} (h : Rises m) (hm : ∀ x, x ∈ m ↔ x ∈ l) : m = riseF l := rises_ext h (rise_rises l) (fun x => (hm x).trans (mem_rise l x).symm)
/-- Neighbours that are alike, once. -/
def dd1 (o : List Fld) (x : Fld) : List Fld := if o.getLast? = some x then o else o ++ [x]
def dedup (l : List Fld) : List Fld := l.foldl dd1 []
theorem dedup_take (l : List Fld) (k : Nat) (h : k < l.length) : dedup (l.take (k + 1)) = dd1 (dedup (l.take k)) l[k] := by
  unfold dedup
  rw [List.take_succ_eq_append_getElem h, List.foldl_append]
  rfl
theorem dd1_last (o : List Fld) (x : Fld) : (dd1 o x).getLast? = some x := by
  unfold dd1
  split
  · next h => exact h
  · simp
theorem dedup_last (l : List Fld) (k : Nat) (h : k < l.length) : (dedup (l.take (k + 1))).getLast? = some l[k] := by
  rw [dedup_take l k h, dd1_last]
theorem dedup_same (l : List Fld) (k : Nat) (h : k + 1 < l.length) (e : l[k + 1] = l[k]) : dedup (l.take (k + 2)) = dedup (l.take (k + 1)) := by
  rw [dedup_take l (k + 1) h, dd1, if_pos]
  rw [dedup_last l k (by omega), e]
theorem dedup_new (l : List Fld) (k : Nat) (h : k + 1 < l.length) (e : l[k + 1] ≠ l[k]) : dedup (l.take (k + 2)) = dedup (l.take (k + 1)) ++ [l[k + 1]] := by
  rw [dedup_take l (k + 1) h, dd1, if_neg]
  rw [dedup_last l k (by omega)]
  intro h; injection h with h; exact e h.symm
theorem dedup_one (l : List Fld) (h : 0 < l.length) : dedup (l.take 1) = l.take 1 := by
  cases l with
  | nil => simp at h
  | cons a t => simp [dedup, dd1]
theorem dedup_facts : ∀ (l o : List Fld), Rises o → (∀ x ∈ o, ∀ y ∈ l, ¬ LessP y x) → l.Pairwise (fun x y => ¬ LessP y x) →
    Rises (l.foldl dd1 o) ∧ ∀ y, y ∈ l.foldl dd1 o ↔ y ∈ o ∨ y ∈ l
  | [], o, h, _, _ => ⟨h, fun y => by simp⟩
  | x :: t, o, h, h1, h2 => by
    have p1 := (List.pairwise_cons.1 h2).1
    have p2 := (List.pairwise_cons.1 h2).2
    rw [List.foldl_cons]
    have hm : ∀ y, y ∈ dd1 o x ↔ y ∈ o ∨ y = x := by
      intro y
      unfold dd1
      split
      · next hl =>
        have := List.mem_of_getLast? hl
        constructor
        · exact .inl
        · rintro (h | rfl); exact h; exact this
      · simp
    have hr : Rises (dd1 o x) := by
      unfold dd1
      split
      · exact h
      · next hl =>
        refine List.pairwise_append.2 ⟨h, by simp, fun a ha b hb => ?_⟩
        have hb : b = x := by simpa using hb
        subst hb
        have hn := h1 a ha b (by simp)
        by_cases e : a = b
        · subst e
          exfalso
          rcases List.eq_nil_or_concat o with rfl | ⟨o', z, rfl⟩
          · cases ha
          · rw [List.concat_eq_append] at *
            have hz : z ≠ a := fun e => hl (by simp [e])
            rcases List.mem_append.1 ha with ha' | ha'
            · have := (List.pairwise_append.1 h).2.2 a ha' z (by simp)
              exact h1 z (by simp) a (by simp) this
            · exact hz (List.mem_singleton.1 ha').symm
        · exact less_not hn (fun e' => e e'.symm)
    obtain ⟨r1, r2⟩ := dedup_facts t (dd1 o x) hr (fun a ha y hy => by
      rcases (hm a).1 ha with ha | rfl
      · exact h1 a ha y (by simp [hy])
      · exact p1 y hy) p2
    refine ⟨r1, fun y => ?_⟩
    rw [r2 y, hm y, List.mem_cons]
    constructor
    · rintro ((h | h) | h)
      · exact .inl h
      · exact .inr (.inl h)
      · exact .inr (.inr h)
    · rintro (h | h | h)
      · exact .inl (.inl h)
      · exact .inl (.inr h)
      · exact .inr h
/-- Sorted, then each once: that is the order. -/
theorem dedup_sorted {l m : List Fld} (hp : m.Perm l) (hs : m.Pairwise (fun x y => ¬ LessP y x)) : dedup m = riseF l := by
  obtain ⟨h1, h2⟩ := dedup_facts m [] List.Pairwise.nil (fun x hx => by cases hx) hs
  refine rise_of h1 (fun x => ?_)
  rw [show x ∈ dedup m ↔ x ∈ [] ∨ x ∈ m from h2 x]
  simp [hp.mem_iff]

/-- The first error. -/
noncomputable def errL : List Fld → Int
  | [] => 0
  | f :: t => if fldE f = 0 then errL t else fldE f
def cntK (k : Int) (l : List Fld) : Nat := l.countP (fun f => decide (f.k = k))
noncomputable def textL (l : List Fld) : List UInt8 := l.flatMap (fun f => lineF f ++ [10])
noncomputable def cans (l : List Fld) : List Fld := riseF (l.map fldC)
def CntP (l : List Fld) : Prop := cntK 1 l = 1 ∧ cntK 2 l ≤ 1 ∧ cntK 5 l ≤ 1
instance (l : List Fld) : Decidable (CntP l) := by unfold CntP; infer_instance
noncomputable def cardE (l : List Fld) : Int :=
  if errL l ≠ 0 then errL l else if 12 < (cans l).length then 2 else if ¬ CntP (cans l) then 1 else if 900 < (textL (cans l)).length then 2 else 0
noncomputable def cardC (l : List Fld) : List Fld := if cardE l = 0 then cans l else []
noncomputable def cardT (l : List Fld) : List UInt8 := if cardE l = 0 then textL (cans l) else []
theorem errL_0 : ∀ {l : List Fld}, errL l = 0 → ∀ f ∈ l, fldE f = 0
  | [], _, f, hf => by cases hf
  | g :: t, h, f, hf => by
    unfold errL at h
    split at h
    · next c =>
      rcases List.mem_cons.1 hf with rfl | hf
      · exact c
      · exact errL_0 h f hf
    · next c => exact absurd h c
theorem errL_of : ∀ {l : List Fld}, (∀ f ∈ l, fldE f = 0) → errL l = 0
  | [], _ => rfl
  | g :: t, h => by
    unfold errL
    rw [if_pos (h g (by simp))]
    exact errL_of (fun f hf => h f (by simp [hf]))
theorem cardE_0 {l : List Fld} (h : cardE l = 0) : errL l = 0 ∧ (cans l).length ≤ 12 ∧ CntP (cans l) ∧ (textL (cans l)).length ≤ 900 := by
  unfold cardE at h
  split at h
  · next c => exact absurd h c
  · next c =>
    split at h
    · omega
    · split at h
      · omega
      · next c3 =>
        split at h
        · omega
        · exact ⟨Decidable.not_not.1 c, by omega, Decidable.not_not.1 c3, by omega⟩
theorem cardE_of {l : List Fld} (h1 : errL l = 0) (h2 : (cans l).length ≤ 12) (h3 : CntP (cans l)) (h4 : (textL (cans l)).length ≤ 900) : cardE l = 0 := by
  unfold cardE
  rw [if_neg (by simp [h1]), if_neg (by omega), if_neg (by simp [h3]), if_neg (by omega)]
def AllMay (l : List Fld) : Prop := ∀ f ∈ l, MayF f
theorem map_may {l : List Fld} (h : AllMay l) : l.map fldC = l := by
  induction l with
  | nil => rfl
  | cons a t ih =>
    rw [List.map_cons, may_fldC (h a (by simp)), ih (fun f hf => h f (by simp [hf]))]
theorem cans_may {l : List Fld} (h : errL l = 0) : AllMay (cans l) := by
  intro f hf
  obtain ⟨g, hg, rfl⟩ := List.mem_map.1 ((mem_rise _ f).1 hf)
  exact fldC_may (errL_0 h g hg)
/-- A card's fields. -/
def CardOk (l : List Fld) : Prop := cardE l = 0 ∧ cans l = l
theorem cans_self {l : List Fld} (h : AllMay l) (hr : Rises l) : cans l = l := by
  rw [cans, map_may h, rise_self hr]
theorem ok_may {l : List Fld} (h : CardOk l) : AllMay l := by
  have := cans_may (cardE_0 h.1).1
  rwa [h.2] at this
theorem ok_rises {l : List Fld} (h : CardOk l) : Rises l := by
  have := rise_rises (l.map fldC)
  rw [show riseF (l.map fldC) = l from h.2] at this
  exact this
theorem textL_cons (f : Fld) (t : List Fld) (h : MayF f) : textL (f :: t) = rawL f ++ 10 :: textL t := by
  unfold textL
  rw [List.flatMap_cons, line_yes h]
  simp
theorem textL_app (a b : List Fld) : textL (a ++ b) = textL a ++ textL b := by
  unfold textL; rw [List.flatMap_append]
theorem textL_snoc (a : List Fld) (f : Fld) : textL (a ++ [f]) = textL a ++ (lineF f ++ [10]) := by
  rw [textL_app]; simp [textL]
theorem textL_take (l : List Fld) (k : Nat) (h : k < l.length) : textL (l.take (k + 1)) = textL (l.take k) ++ (lineF l[k] ++ [10]) := by
  rw [List.take_succ_eq_append_getElem h, textL_snoc]
theorem textL_len : ∀ l : List Fld, (textL l).length ≤ l.length * 75
  | [] => by simp [textL]
  | f :: t => by
    have := textL_len t
    have := line_len f
    unfold textL at *
    rw [List.flatMap_cons, List.length_append, List.length_append, List.length_cons]
    simp only [List.length_cons, List.length_nil]
    omega
theorem app_uniq1 (c : UInt8) {a b a' b' : List UInt8} (h : a ++ c :: b = a' ++ c :: b') (ha : c ∉ a) (ha' : c ∉ a') : a = a' ∧ b = b' := by
  obtain ⟨e1, e2⟩ := bef_app c a b ha
  obtain ⟨e3, e4⟩ := bef_app c a' b' ha'
  rw [h] at e1 e2
  exact ⟨e1.symm.trans e3, e2.symm.trans e4⟩
/-- What a text begins with. -/
theorem text_split : ∀ (l m : List Fld) (r : List UInt8), AllMay l → AllMay m → textL m = textL l ++ r → ∃ m', m = l ++ m' ∧ textL m' = r
  | [], m, r, _, _, h => ⟨m, rfl, by simpa [textL] using h⟩
  | f :: t, [], r, hl, _, h => by
    rw [textL_cons f t (hl f (by simp))] at h
    have := congrArg List.length h
    simp [textL] at this
  | f :: t, g :: m, r, hl, hm, h => by
    have hf := hl f (by simp)
    have hg := hm g (by simp)
    rw [textL_cons f t hf, textL_cons g m hg, List.append_assoc, List.cons_append] at h
    obtain ⟨e1, e2⟩ := app_uniq1 10 h (raw_10 hg) (raw_10 hf)
    have e : g = f := found_uniq (s := rawL g) ⟨hg, rfl⟩ ⟨hf, e1.symm⟩
    subst e
    obtain ⟨m', h1, h2⟩ := text_split t m r (fun f hf => hl f (by simp [hf])) (fun f hf => hm f (by simp [hf])) e2
    exact ⟨m', by rw [h1]; rfl, h2⟩
theorem text_nil {m : List Fld} (hm : AllMay m) (h : (10 : UInt8) ∉ textL m) : m = [] := by
  cases m with
  | nil => rfl
  | cons g m => rw [textL_cons g m (hm g (by simp))] at h; simp at h
theorem text_inj {l m : List Fld} (hl : AllMay l) (hm : AllMay m) (h : textL m = textL l) : m = l := by
  obtain ⟨m', e, h'⟩ := text_split l m [] hl hm (by simpa using h)
  have := text_nil (m := m') (fun f hf => hm f (by rw [e]; simp [hf])) (by rw [h']; simp)
  rw [e, this, List.append_nil]
/-- The fields that a text is parsed to. -/
def Reads (s : List UInt8) (l : List Fld) : Prop := CardOk l ∧ textL l = s
theorem reads_uniq {s : List UInt8} {l m : List Fld} (h : Reads s l) (h' : Reads s m) : m = l := text_inj (ok_may h.1) (ok_may h'.1) (h'.2.trans h.2.symm)
open Classical in
noncomputable def crdF (s : List UInt8) : List Fld := if h : ∃ l, Reads s l then h.choose else []
open Classical in
noncomputable def crdE (s : List UInt8) : Int := if ∃ l, Reads s l then 0 else 1
theorem crd_yes {s : List UInt8} {l : List Fld} (h : Reads s l) : crdF s = l ∧ crdE s = 0 := by
  have hx : ∃ f, Reads s f := ⟨l, h⟩
  refine ⟨?_, by simp only [crdE, if_pos hx]⟩
  rw [crdF, dif_pos hx]
  exact (reads_uniq h hx.choose_spec)
theorem crd_no {s : List UInt8} (h : ∀ f, ¬ Reads s f) : crdF s = [] ∧ crdE s = 1 := by
  have hx : ¬ ∃ f, Reads s f := fun ⟨f, hf⟩ => h f hf
  exact ⟨by rw [crdF, dif_neg hx], by simp only [crdE, if_neg hx]⟩
theorem crd_or (s : List UInt8) : (∃ l, Reads s l ∧ crdF s = l ∧ crdE s = 0) ∨ ((∀ l, ¬ Reads s l) ∧ crdF s = [] ∧ crdE s = 1) := by
  by_cases h : ∃ f, Reads s f
  · obtain ⟨f, hf⟩ := h; exact .inl ⟨f, hf, crd_yes hf⟩
  · have : ∀ f, ¬ Reads s f := fun f hf => h ⟨f, hf⟩
    exact .inr ⟨this, crd_no this⟩
theorem reads_len {s : List UInt8} {l : List Fld} (h : Reads s l) : s.length ≤ 900 ∧ l.length ≤ 12 := by
  have := cardE_0 h.1.1
  rw [h.1.2] at this
  exact ⟨by rw [← h.2]; exact this.2.2.2, this.2.1⟩
/-- The lines so far, and what is left. -/
theorem reads_line {s : List UInt8} {l m : List Fld} {r : List UInt8} (hl : AllMay l) (hs : s = textL l ++ r) (h : Reads s m) : ∃ m', m = l ++ m' ∧ textL m' = r ∧ AllMay m' := by
  obtain ⟨m', e, h'⟩ := text_split l m r hl (ok_may h.1) (h.2.trans hs)
  exact ⟨m', e, h', fun f hf => ok_may h.1 f (by rw [e]; simp [hf])⟩
theorem reads_cut {s : List UInt8} {l m : List Fld} {a b : List UInt8} (hl : AllMay l) (hs : s = textL l ++ (a ++ 10 :: b)) (ha : (10 : UInt8) ∉ a) (h : Reads s m) : ∃ f, Found a f := by
  obtain ⟨m', e, h', hm⟩ := reads_line hl hs h
  cases m' with
  | nil => have := congrArg List.length h'; simp [textL] at this
  | cons g t =>
    have hg := hm g (by simp)
    rw [textL_cons g t hg] at h'
    obtain ⟨e1, _⟩ := app_uniq1 10 h' (raw_10 hg) ha
    exact ⟨g, hg, e1⟩
theorem reads_end {s : List UInt8} {l m : List Fld} {r : List UInt8} (hl : AllMay l) (hs : s = textL l ++ r) (hr : (10 : UInt8) ∉ r) (h : Reads s m) : m = l ∧ r = [] := by
  obtain ⟨m', e, h', hm⟩ := reads_line hl hs h
  have := text_nil hm (by rw [h']; exact hr)
  subst this
  exact ⟨by rw [e, List.append_nil], by rw [← h']; rfl⟩
/-- What is checked at the end. -/
theorem reads_of {s : List UInt8} {l : List Fld} {r : List UInt8} (hl : AllMay l) (hs : s = textL l ++ r) (he : cardE l = 0) (ht : cardT l = s) : Reads s l := by
  rw [cardT, if_pos he] at ht
  have hm := cans_may (cardE_0 he).1
  obtain ⟨m', e, h'⟩ := text_split l (cans l) r hl hm (ht.trans hs)
  have hlen := rise_len (l.map fldC)
  rw [List.length_map] at hlen
  have e2 := congrArg List.length e
  rw [List.length_append] at e2
  have : m' = [] := List.eq_nil_of_length_eq_zero (by unfold cans at e2; omega)
  subst this
  rw [List.append_nil] at e
  exact ⟨⟨he, e⟩, by rw [← ht, e]⟩
theorem reads_text {s : List UInt8} {l : List Fld} (h : Reads s l) : cardE l = 0 ∧ cardT l = s := ⟨h.1.1, by rw [cardT, if_pos h.1.1, h.1.2]; exact h.2⟩
theorem cnt_pos {k : Int} {l : List Fld} (h : 0 < cntK k l) : ∃ f ∈ l, f.k = k := by
  obtain ⟨f, hf, hk⟩ := List.countP_pos_iff.1 h
  exact ⟨f, hf, by simpa using hk⟩
/-- The name is ahead. -/
theorem ok_head {l : List Fld} (h : CardOk l) : ∃ f t, l = f :: t ∧ f.k = 1 := by
  have hc := (cardE_0 h.1).2.2.1
  rw [h.2] at hc
  obtain ⟨g, hg, hk⟩ := cnt_pos (k := 1) (l := l) (by rw [hc.1]; exact Nat.one_pos)
  cases l with
  | nil => cases hg
  | cons f t =>
    refine ⟨f, t, rfl, ?_⟩
    rcases List.mem_cons.1 hg with rfl | hg
    · exact hk
    · have h1 := (List.pairwise_cons.1 (ok_rises h)).1 g hg
      have h2 := (may_ok (ok_may h f (by simp))).1
      rcases h1 with h1 | ⟨h1, _⟩ <;> omega

end Go.Proofs.YtogjokofmfpmgaaGreatDoor
