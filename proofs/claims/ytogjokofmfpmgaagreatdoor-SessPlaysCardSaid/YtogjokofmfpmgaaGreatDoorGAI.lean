/-
  Fields: the canonical field, on both sides.
-/
import Derived.Test.YtogjokofmfpmgaaGreatDoorGAF
import Derived.Test.YtogjokofmfpmgaaGreatDoorGAG
import Derived.Test.YtogjokofmfpmgaaGreatDoorGAH
import Derived.Test.YtogjokofmfpmgaaGreatDoorCards
import Derived.Test.YtogjokofmfpmgaaGreatDoorTie
import Derived.ProofKit
import Derived.OpenShut
import Derived.ShutString
import Derived.ChangeOld
import Derived.Deep.Slices
import Derived.Deep.Fields
import Derived.Deep.DeepHandedRow
import Derived.Lib.LaidTab
import Derived.Lib.LaidU8T
import Derived.Test.YtogjokofmfpmgaaGreatDoorGAA
import Derived.Test.YtogjokofmfpmgaaGreatDoorGAC
import Derived.Deep.Upon
import Derived.Laws.IdiomStrings
import Derived.Laws.BytesArg
import Derived.Deep.AppendSrc
import Derived.Test.YtogjokofmfpmgaaGreatDoorProg
import Derived.Sort.Grow
import Derived.Laws.ShiftsVar
import Derived.IntWalk
import Derived.Test.YtogjokofmfpmgaaGreatDoorBytesOrd
set_option linter.unusedVariables false
set_option linter.unusedSimpArgs false
namespace Go.Proofs.YtogjokofmfpmgaaGreatDoor
open Go.RowKit

/-- Both tables. -/
def Tbs (w : World) : Prop := Tbl w ∧ Tab w
theorem Tbs.below {w w' : World} (h : Tbs w) (hb : Below w.heap.size w w') : Tbs w' := ⟨h.1.below hb, h.2.below hb⟩
open Classical in
noncomputable def dayE (l : List UInt8) : Int := if DayT l then 0 else 1
theorem parse_day (l : List UInt8) (hl : l.length ≤ 64) : ∃ y m d : Int, (∀ W, Tab W → Calls Tryz.prog 143 #[.string (bs l)] W fun e w' => e = .returned (dateV y m d (dayE l)) ∧ Below W.heap.size W w') ∧
    (∀ W, Calls Tryz.prog 133 #[.string (bs l)] W fun e w' => e = .returned (dateV y m d (dayE l)) ∧ Below W.heap.size W w') := by
  obtain ⟨y, m, d, k, hk, h1, h2⟩ := parse_both (bs l) (by rw [bs_size]; exact hl)
  have e : k = dayE l := by
    unfold dayE DayT
    rcases hk with ⟨rfl, h⟩ | ⟨rfl, h⟩
    · rw [bs_data] at h; rw [if_pos h]
    · rw [bs_data] at h; rw [if_neg h]
  subst e
  exact ⟨y, m, d, h1, h2⟩
/-- What a value's cleaning answers, before the day. -/
noncomputable def preE (k : Int) (v : List UInt8) : Int := if k = 3 then telE v else if k = 4 then canE v else cleanE v
theorem valE_pre (k : Int) (v : List UInt8) : valE k v = if preE k v = 0 ∧ k = 5 then dayE (valT k v) else preE k v := by
  unfold valE preE valT dayE
  by_cases k3 : k = 3
  · rw [if_pos k3, if_pos k3, if_pos k3, if_neg (by omega)]
  · by_cases k4 : k = 4
    · rw [if_neg k3, if_neg k3, if_neg k3, if_pos k4, if_pos k4, if_pos k4, if_neg (by omega)]
    · rw [if_neg k3, if_neg k3, if_neg k3, if_neg k4, if_neg k4, if_neg k4]
      by_cases k5 : k = 5
      · by_cases e : cleanE v = 0
        · by_cases hD : DayT (cleanT v)
          · rw [if_neg (by simp [hD]), if_pos ⟨e, k5⟩, if_pos hD, e]
          · rw [if_pos ⟨e, k5, hD⟩, if_pos ⟨e, k5⟩, if_neg hD]
        · rw [if_neg (by simp [e]), if_neg (by simp [e])]
      · rw [if_neg (by simp [k5]), if_neg (by simp [k5])]
theorem kind_some {k : Int} (h : 1 ≤ k ∧ k ≤ 6) : ((bs (kindL k)).toList == []) = false := by
  have h1 : ¬ kindL k = [] := fun e => (kindL_ne k).1 e h
  rw [bs_toL]
  cases hk : kindL k with
  | nil => exact absurd hk h1
  | cons a t => rfl
theorem kind_none {k : Int} (h : ¬ (1 ≤ k ∧ k ≤ 6)) : kindL k = [] := (kindL_ne k).2 h
theorem fldC_res (f : Fld) : fldC f = resF ⟨f.k, f.l, valT f.k f.v⟩ (fldE f) := rfl
theorem fcanon_calls (f : Fld) (hs : f.v.length ≤ 1000000) (w : World) (ht : Tbs w) : Calls Tryz.prog 123 #[fldV f] w fun e w' => e = .returned (fldR (fldC f) (fldE f)) ∧ Below w.heap.size w w' := by
  obtain ⟨k, l, v⟩ := f
  have hz : (bs v).size ≤ 1000000 := by rw [bs_size]; exact hs
  have HT : ∀ W, Below w.heap.size w W → Tbs W := fun W h => ht.below h
  have L1 : ∀ W, Calls Tryz.prog 113 #[.int .i64 k, .int .i64 l] W fun e w' => e = .returned (.tuple #[.string (bs (labV k l)), .bool (decide (okL k l))]) ∧ W = w' := label_calls k l
  have L2 : ∀ W, Calls Tryz.prog 114 #[.int .i64 k] W fun e w' => e = .returned (.string (bs (kindL k))) ∧ W = w' := kind_calls k
  rw [fldC_res]
  by_cases hh : okKL k l
  · have hE : fldE ⟨k, l, v⟩ = valE k v := if_pos hh
    obtain ⟨hk, hl⟩ := (okKL_iff k l).1 hh
    rw [show decide (okL k l) = true by simp [hl]] at L1
    have hkd := kind_some hk
    by_cases h3 : k = 3
    · subst h3
      have hv : valE 3 v = telE v := rfl
      rw [hE, hv]
      exact fcanon_3 l (bs v) _ _ (telT v) (telE v) (telE v) rfl w L1 L2 hkd (fun W h => telcan_calls (bs v) hz W (HT W h).1)
    by_cases h4 : k = 4
    · subst h4
      have hv : valE 4 v = canE v := rfl
      rw [hE, hv]
      exact fcanon_4 l (bs v) _ _ (canT v) (canE v) (canE v) rfl w L1 L2 hkd (fun W h => canon_calls (bs v) hz W (HT W h).1)
    · have hl0 : l = 0 := by
        rcases hl with h | ⟨_, h | h⟩ | ⟨_, h⟩
        · exact h
        · exact absurd h h3
        · exact absurd h h4
        · exact absurd h h3
      subst hl0
      have hT : valT k v = cleanT v := by unfold valT; rw [if_neg h3, if_neg h4]
      have hP : preE k v = cleanE v := by unfold preE; rw [if_neg h3, if_neg h4]
      obtain ⟨y, m, d, hp, _⟩ := parse_day (cleanT v) (cleanT_len v)
      have hv := valE_pre k v
      rw [hT, hP] at hv
      rw [hE]
      show Calls _ _ _ _ fun e w' => e = .returned (fldR (resF ⟨k, 0, valT k v⟩ _) _) ∧ _
      rw [hT]
      exact fcanon_o k hk.1 hk.2 h3 h4 (bs v) _ _ (cleanT v) (cleanE v) y m d (dayE (cleanT v)) _ hv w L1 L2 hkd (fun W h => clean_calls (bs v) hz W (HT W h).1) (fun W h => hp W (HT W h).2)
  · have hE : fldE ⟨k, l, v⟩ = 1 := if_neg hh
    rw [hE]
    show Calls _ _ _ _ fun e w' => e = .returned (fldR noFld 1) ∧ _
    by_cases hl : okL k l
    · have hk : kindL k = [] := kind_none (fun h => hh ((okKL_iff k l).2 ⟨h, hl⟩))
      rw [show decide (okL k l) = true by simp [hl]] at L1
      rw [hk] at L2
      exact fcanon_bad2 k l (bs v) _ _ w L1 L2 (by rw [bs_toL]; rfl)
    · rw [show decide (okL k l) = false by simp [hl]] at L1
      exact fcanon_bad1 k l (bs v) _ w L1

theorem rcanon_calls (f : Fld) (hs : f.v.length ≤ 1000000) (w : World) : Calls Tryz.prog 118 #[fldV f] w fun e w' => e = .returned (fldR (fldC f) (fldE f)) ∧ Below w.heap.size w w' := by
  obtain ⟨k, l, v⟩ := f
  have hz : (bs v).size ≤ 1000000 := by rw [bs_size]; exact hs
  rw [fldC_res]
  by_cases hh : okKL k l
  · have hE : fldE ⟨k, l, v⟩ = valE k v := if_pos hh
    obtain ⟨hk, hl⟩ := (okKL_iff k l).1 hh
    by_cases h3 : k = 3
    · subst h3
      have hv : valE 3 v = telE v := rfl
      rw [hE, hv]
      exact rcanon_3 l (by unfold okL at hl; omega) (bs v) (telT v) (telE v) (telE v) rfl w (fun W h => rtel_calls (bs v) hz W)
    by_cases h4 : k = 4
    · subst h4
      have hv : valE 4 v = canE v := rfl
      rw [hE, hv]
      exact rcanon_4 l (by unfold okL at hl; omega) (bs v) (canT v) (canE v) (canE v) rfl w (fun W h => rmail_calls (bs v) hz W)
    · have hl0 : l = 0 := by unfold okL at hl; omega
      subst hl0
      have hT : valT k v = cleanT v := by unfold valT; rw [if_neg h3, if_neg h4]
      have hP : preE k v = cleanE v := by unfold preE; rw [if_neg h3, if_neg h4]
      obtain ⟨y, m, d, _, hp⟩ := parse_day (cleanT v) (cleanT_len v)
      have hv := valE_pre k v
      rw [hT, hP] at hv
      rw [hE]
      show Calls _ _ _ _ fun e w' => e = .returned (fldR (resF ⟨k, 0, valT k v⟩ _) _) ∧ _
      rw [hT]
      exact rcanon_o k hk.1 hk.2 h3 h4 (bs v) (cleanT v) (cleanE v) y m d (dayE (cleanT v)) _ hv w (fun W h => rclean_calls (bs v) hz W) (fun W h => hp W)
  · have hE : fldE ⟨k, l, v⟩ = 1 := if_neg hh
    rw [hE]
    show Calls _ _ _ _ fun e w' => e = .returned (fldR noFld 1) ∧ _
    exact rcanon_bad k l (bs v) w (by unfold okKL at hh; omega)

theorem mayF_dec (f : Fld) : decide (fldE f = 0 ∧ fldC f = f) = mayF f := by
  by_cases h : MayF f
  · rw [mayF_t h]; simp [h.1, may_fldC h]
  · rw [mayF_f h, decide_eq_false_iff_not]
    rintro ⟨h1, h2⟩
    have := fldC_may h1
    rw [h2] at this
    exact h this
theorem fmay_calls (f : Fld) (hs : f.v.length ≤ 1000000) (w : World) (ht : Tbs w) : Calls Tryz.prog 122 #[fldV f] w fun e w' => e = .returned (.bool (mayF f)) ∧ Below w.heap.size w w' := by
  have := may_of f (fldC f) (fldE f) w (fun W h => fcanon_calls f hs W (ht.below h))
  rwa [mayF_dec] at this
theorem rfmay_calls (f : Fld) (hs : f.v.length ≤ 1000000) (w : World) : Calls Tryz.prog 109 #[fldV f] w fun e w' => e = .returned (.bool (mayF f)) ∧ Below w.heap.size w w' := by
  have := rmay_of f (fldC f) (fldE f) w (fun W h => rcanon_calls f hs W)
  rwa [mayF_dec] at this

end Go.Proofs.YtogjokofmfpmgaaGreatDoor
namespace Go.Proofs.YtogjokofmfpmgaaGreatDoor
open Go.ChangeShapes Go.WideShapes Go.ChangeAt Go.RowKit

theorem ownT : ownKnob Tryz.prog.godebug = none := by kernel_rfl
theorem laidOutT : laidOutB Tryz.prog = true := by kernel_rfl
theorem firstIs : (Rows.laid_unicode_utf8_first : DataW Unit) = Lib.firstData := by kernel_rfl
theorem accIs : (Rows.laid_unicode_utf8_acceptRanges : DataW Unit) = Lib.acceptData := by kernel_rfl
theorem gTab : Tryz.prog.globalNamed "internal/strconv.uint64pow10" = some 3 := by kernel_rfl
theorem gTabType : (Tryz.prog.globals[3]?).map (·.type) = some 220 := by kernel_rfl
theorem tbs_of {W : World} (h : laidMetH Tryz.prog [("math/bits.deBruijn32tab", Rows.laid_math_bits_deBruijn32tab), ("math/bits.deBruijn64tab", Rows.laid_math_bits_deBruijn64tab), ("internal/strconv.uint64pow10", Rows.laid_internal_strconv_uint64pow10), ("unicode/utf8.acceptRanges", Rows.laid_unicode_utf8_acceptRanges), ("unicode/utf8.first", Rows.laid_unicode_utf8_first)] W) (hs : W.ShapedOpen Tryz.prog) : Tbs W := by
  have h' : laidMet Tryz.prog [("math/bits.deBruijn32tab", Rows.laid_math_bits_deBruijn32tab), ("math/bits.deBruijn64tab", Rows.laid_math_bits_deBruijn64tab), ("internal/strconv.uint64pow10", Rows.laid_internal_strconv_uint64pow10), ("unicode/utf8.acceptRanges", Rows.laid_unicode_utf8_acceptRanges), ("unicode/utf8.first", Rows.laid_unicode_utf8_first)] W := h
  refine ⟨?_, ?_⟩
  · rw [firstIs, accIs] at h'
    exact ⟨utf8Tabs_of_readsT (U8Types.of196 lays196) ⟨by kernel_rfl, by kernel_rfl, by kernel_rfl, by kernel_rfl, by kernel_rfl, by kernel_rfl, by kernel_rfl⟩ (Lib.laidMet.reads h' (.tail _ (.tail _ (.tail _ (.tail _ (.head _)))))) (Lib.laidMet.reads h' (.tail _ (.tail _ (.tail _ (.head _))))), laysM144.s1_3 W hs⟩
  · obtain ⟨ps, ⟨g1, t1, cs1, f1, p1, q1, _, _, _, _, ⟨g2, t2, cs2, f2, p2, q2, _, _, _, _, ⟨g3, t3, cs3, f3, p3, q3, hg3, ht3, hvar, hd3, _, _⟩, _⟩, _⟩, _⟩ := h'
    obtain rfl := Option.some.inj (gTab.symm.trans hg3)
    obtain rfl := Option.some.inj (gTabType.symm.trans ht3)
    unfold Tab Lib.TabIs
    rw [hvar, ← Lib.cells_of_tab Tryz.underlying220 Tryz.underlying126 (by kernel_rfl) (by kernel_rfl) (zs := Lib.pow10Tab) hd3]

/-- A listed table's cells. -/
def arrT (d : DataW Unit) : Array Value := match d with
  | .agg l => (l.flatMap fun
    | .lit x => [x.value]
    | .agg k => k.map fun | .lit x => x.value | _ => undef
    | _ => []).toArray
  | _ => #[]
def putT (d : DataW Unit) : Obj → Obj
  | .cells _ t frozen => .cells (arrT d) t frozen
  | o => o
noncomputable def laidWorld5 (os : Os) : World :=
  { World.holding Tryz.prog os ⟨#[], #[], []⟩ with heap := (((((World.holding Tryz.prog os ⟨#[], #[], []⟩).heap.modify 1 (putT Rows.laid_unicode_utf8_first)).modify 2 (putT Rows.laid_unicode_utf8_acceptRanges)).modify 3 (putT Rows.laid_internal_strconv_uint64pow10)).modify 4 (putT Rows.laid_math_bits_deBruijn32tab)).modify 5 (putT Rows.laid_math_bits_deBruijn64tab) }

section
variable {H : Type} {enc : TypeId × Value → H} {W : World} {base : Nat} {spare : Nat → Bool} {held : Bool}
end

end Go.Proofs.YtogjokofmfpmgaaGreatDoor
namespace Go.Proofs.YtogjokofmfpmgaaGreatDoor
open Go.RowKit

/-- How many bytes a number has. -/
def nb (n : Nat) : Nat := if h : n = 0 then 0 else nb (n / 256) + 1
termination_by n
decreasing_by omega
theorem nb_0 : nb 0 = 0 := by rw [nb]; simp
theorem nb_pos {n : Nat} (h : n ≠ 0) : nb n = nb (n / 256) + 1 := by rw [nb, dif_neg h]
theorem nb_lt (n : Nat) : n < 256 ^ nb n := by
  induction n using Nat.strongRecOn with
  | _ n ih =>
    by_cases h : n = 0
    · subst h; rw [nb_0]; decide
    · rw [nb_pos h, Nat.pow_succ]
      have := ih (n / 256) (by omega)
      omega
theorem nb_ge (n : Nat) : ∀ j, j < nb n → n / 256 ^ j ≠ 0 := by
  induction n using Nat.strongRecOn with
  | _ n ih =>
    intro j hj
    by_cases h : n = 0
    · subst h; rw [nb_0] at hj; omega
    · rw [nb_pos h] at hj
      cases j with
      | zero => simpa using h
      | succ j =>
        rw [Nat.pow_succ, Nat.mul_comm, ← Nat.div_div_eq_div_mul]
        exact ih (n / 256) (by omega) j (by omega)
theorem nb_of {n k : Nat} (h : n / 256 ^ k = 0) (h2 : ∀ j, j < k → n / 256 ^ j ≠ 0) : nb n = k := by
  rcases Nat.lt_trichotomy (nb n) k with hl | he | hg
  · exact absurd (Nat.div_eq_of_lt (nb_lt n)) (h2 _ hl)
  · exact he
  · exact absurd h (nb_ge n k hg)
theorem nb_le {n k : Nat} (h : n < 256 ^ k) : nb n ≤ k := by
  rcases Nat.lt_or_ge k (nb n) with hl | hg
  · exact absurd (Nat.div_eq_of_lt h) (nb_ge n k hl)
  · exact hg

/-- So many bytes of a number, the greatest ahead. -/
def be : Nat → Nat → List UInt8
  | 0, _ => []
  | k + 1, n => be k (n / 256) ++ [UInt8.ofNat n]
theorem be_len : ∀ (k n : Nat), (be k n).length = k
  | 0, _ => rfl
  | k + 1, n => by rw [be, List.length_append, be_len k]; rfl
/-- The last bytes, from the front. -/
def tl : Nat → Nat → List UInt8
  | 0, _ => []
  | j + 1, n => UInt8.ofNat (n / 256 ^ j) :: tl j n
theorem tl_snoc : ∀ (m n : Nat), tl m (n / 256) ++ [UInt8.ofNat n] = tl (m + 1) n
  | 0, n => by simp [tl]
  | m + 1, n => by
    rw [tl, List.cons_append, tl_snoc m n]
    show _ = UInt8.ofNat (n / 256 ^ (m + 1)) :: tl (m + 1) n
    rw [Nat.div_div_eq_div_mul, Nat.pow_succ, Nat.mul_comm]
theorem be_tl : ∀ (m n : Nat), be m n = tl m n
  | 0, _ => rfl
  | m + 1, n => by rw [be, be_tl m, tl_snoc]
/-- The number of some bytes. -/
def val (l : List UInt8) : Nat := l.foldl (fun u c => u * 256 + c.toNat) 0
theorem val_snoc (l : List UInt8) (c : UInt8) : val (l ++ [c]) = val l * 256 + c.toNat := by simp [val]
theorem val_take {l : List UInt8} {k : Nat} (h : k < l.length) : val (l.take (k + 1)) = val (l.take k) * 256 + l[k].toNat := by
  rw [List.take_succ_eq_append_getElem h, val_snoc]
theorem ofNat_toNat (n : Nat) : (UInt8.ofNat n).toNat = n % 256 := UInt8.toNat_ofNat ..
theorem val_be : ∀ (k n : Nat), val (be k n) = n % 256 ^ k
  | 0, n => by simp [be, val, Nat.mod_one]
  | k + 1, n => by
    rw [be, val_snoc, val_be k, ofNat_toNat, Nat.pow_succ, Nat.mul_comm (256 ^ k) 256, Nat.mod_mul, Nat.mul_comm]
    omega
theorem snoc_of {l : List UInt8} {k : Nat} (h : l.length = k + 1) : ∃ m c, l = m ++ [c] ∧ m.length = k := by
  rcases List.eq_nil_or_concat l with rfl | ⟨m, c, rfl⟩
  · cases h
  · exact ⟨m, c, by simp, by simpa using h⟩
theorem val_lt : ∀ {k : Nat} {l : List UInt8}, l.length = k → val l < 256 ^ k
  | 0, l, h => by rw [List.eq_nil_of_length_eq_zero h]; simp [val]
  | k + 1, l, h => by
    obtain ⟨m, c, rfl, hm⟩ := snoc_of h
    have := val_lt hm
    have hc := c.toNat_lt
    rw [val_snoc, Nat.pow_succ]
    omega
theorem be_val : ∀ {k : Nat} {l : List UInt8}, l.length = k → be k (val l) = l
  | 0, l, h => by rw [List.eq_nil_of_length_eq_zero h]; rfl
  | k + 1, l, h => by
    obtain ⟨m, c, rfl, hm⟩ := snoc_of h
    have hc := c.toNat_lt
    rw [val_snoc, be, show (val m * 256 + c.toNat) / 256 = val m by omega, be_val hm]
    congr 2
    apply UInt8.toNat_inj.1
    rw [ofNat_toNat]
    omega
theorem be_head {n : Nat} (h : n ≠ 0) : ∃ c t, be (nb n) n = c :: t ∧ c ≠ 0 := by
  have h1 := nb_pos h
  obtain ⟨j, hj⟩ : ∃ j, nb n = j + 1 := ⟨_, h1⟩
  refine ⟨_, _, by rw [be_tl, hj, tl], ?_⟩
  intro hc
  have h2 := nb_ge n j (by omega)
  have h3 := nb_lt n
  rw [hj, Nat.pow_succ] at h3
  have h4 : n / 256 ^ j < 256 := (Nat.div_lt_iff_lt_mul (Nat.pow_pos (by decide))).2 (by omega)
  have h5 := congrArg UInt8.toNat hc
  rw [ofNat_toNat] at h5
  have h6 : (n / 256 ^ j) % 256 = 0 := h5
  generalize n / 256 ^ j = x at *
  omega
theorem nb_val {l : List UInt8} {k : Nat} (h : l.length = k) (hk : 0 < k) (h0 : l.headD 0 ≠ 0) : nb (val l) = k := by
  refine nb_of (Nat.div_eq_of_lt (val_lt h)) ?_
  intro j hj he
  have e : be k (val l) = l := be_val h
  rw [be_tl] at e
  obtain ⟨k, rfl⟩ : ∃ k', k = k' + 1 := ⟨k - 1, by omega⟩
  rw [tl] at e
  rw [← e] at h0
  apply h0
  show UInt8.ofNat (val l / 256 ^ k) = 0
  have : val l / 256 ^ k = 0 := by
    apply Nat.div_eq_of_lt
    have h1 : val l < 256 ^ j := by
      rcases Nat.lt_or_ge (val l) (256 ^ j) with h | h
      · exact h
      · have := (Nat.le_div_iff_mul_le (Nat.pow_pos (n := j) (by decide : 0 < 256))).2 (by rw [Nat.one_mul]; exact h)
        omega
    exact Nat.lt_of_lt_of_le h1 (Nat.pow_le_pow_right (by decide) (by omega))
  rw [this]; rfl

/-- A number's bytes. -/
def numB (n : Int) : List UInt8 := if n < 0 then [] else if n ≤ 247 then [UInt8.ofNat n.toNat] else UInt8.ofNat (247 + nb n.toNat) :: be (nb n.toNat) n.toNat
def textB (s : List UInt8) : List UInt8 := numB s.length ++ s
/-- The number that stands ahead, and what is behind. -/
def numAt (l : List UInt8) : Option (Int × List UInt8) :=
  match l with
  | [] => none
  | c :: t => if c.toNat ≤ 247 then some ((c.toNat : Int), t) else
      if t.length < c.toNat - 247 then none else
      if t.headD 0 = 0 ∨ val (t.take (c.toNat - 247)) ≤ 247 ∨ 2 ^ 63 ≤ val (t.take (c.toNat - 247)) then none else
      some ((val (t.take (c.toNat - 247)) : Int), t.drop (c.toNat - 247))
theorem numAt_num {n : Int} (h : 0 ≤ n) (h2 : n < 2 ^ 63) (r : List UInt8) : numAt (numB n ++ r) = some (n, r) := by
  unfold numB
  rw [if_neg (by omega)]
  split
  · next h3 =>
    show numAt (UInt8.ofNat n.toNat :: r) = _
    have e : (UInt8.ofNat n.toNat).toNat = n.toNat := by rw [ofNat_toNat]; omega
    unfold numAt
    simp only [e]
    rw [if_pos (by omega)]
    congr 2
    omega
  · next h3 =>
    have hb : nb n.toNat ≤ 8 := nb_le (by have : (256 : Nat) ^ 8 = 18446744073709551616 := by decide
                                          rw [this]; omega)
    have hp : nb n.toNat = nb (n.toNat / 256) + 1 := nb_pos (by omega)
    have e : (UInt8.ofNat (247 + nb n.toNat)).toNat = 247 + nb n.toNat := by rw [ofNat_toNat]; omega
    rw [List.cons_append]
    unfold numAt
    simp only [e]
    have hk : 247 + nb n.toNat - 247 = nb n.toNat := by omega
    rw [if_neg (by omega), hk, if_neg (by rw [List.length_append, be_len]; omega)]
    have ht : (be (nb n.toNat) n.toNat ++ r).take (nb n.toNat) = be (nb n.toNat) n.toNat := by
      rw [List.take_append_of_le_length (by rw [be_len]; exact Nat.le_refl _), List.take_of_length_le (by rw [be_len]; exact Nat.le_refl _)]
    have hd : (be (nb n.toNat) n.toNat ++ r).drop (nb n.toNat) = r := by
      rw [List.drop_append_of_le_length (by rw [be_len]; exact Nat.le_refl _), List.drop_of_length_le (by rw [be_len]; exact Nat.le_refl _)]
      rfl
    have hv : val (be (nb n.toNat) n.toNat) = n.toNat := by rw [val_be]; exact Nat.mod_eq_of_lt (nb_lt _)
    obtain ⟨c, t, hc, hc0⟩ := be_head (n := n.toNat) (by omega)
    rw [ht, hd, hv, if_neg]
    · rw [show ((n.toNat : Nat) : Int) = n by omega]
    · rw [hc]
      rintro (h | h | h)
      · exact hc0 h
      · omega
      · omega
theorem numAt_some {l r : List UInt8} {n : Int} (h : numAt l = some (n, r)) : l = numB n ++ r ∧ 0 ≤ n ∧ n < 2 ^ 63 := by
  unfold numAt at h
  split at h
  · cases h
  · next c t =>
    split at h
    · next h1 =>
      injection h with h
      injection h with h2 h3
      subst h2 h3
      refine ⟨?_, by omega, by omega⟩
      unfold numB
      rw [if_neg (by omega), if_pos (by omega)]
      show c :: t = UInt8.ofNat _ :: t
      congr 1
      apply UInt8.toNat_inj.1
      rw [ofNat_toNat]
      have := c.toNat_lt
      omega
    · next h1 =>
      split at h
      · cases h
      · next h4 =>
        split at h
        · cases h
        · next h5 =>
          injection h with h
          injection h with h2 h3
          subst h2 h3
          have h6 : t.headD 0 ≠ 0 := fun e => h5 (.inl e)
          have h7 : ¬ val (t.take (c.toNat - 247)) ≤ 247 := fun e => h5 (.inr (.inl e))
          have h8 : ¬ 2 ^ 63 ≤ val (t.take (c.toNat - 247)) := fun e => h5 (.inr (.inr e))
          have hc := c.toNat_lt
          have hl : (t.take (c.toNat - 247)).length = c.toNat - 247 := by rw [List.length_take]; omega
          have hh : (t.take (c.toNat - 247)).headD 0 ≠ 0 := by
            cases t with
            | nil => simp at h4; omega
            | cons x t =>
              obtain ⟨k, hk⟩ : ∃ k, c.toNat - 247 = k + 1 := ⟨c.toNat - 248, by omega⟩
              rw [hk, List.take_succ_cons]
              exact h6
          have hn := nb_val hl (by omega) hh
          refine ⟨?_, by omega, by omega⟩
          unfold numB
          rw [if_neg (by omega), if_neg (by omega), Int.toNat_natCast, hn, be_val hl]
          have e : UInt8.ofNat (247 + (c.toNat - 247)) = c := by
            apply UInt8.toNat_inj.1
            rw [ofNat_toNat]
            omega
          rw [e, List.cons_append, List.take_append_drop]
theorem numB_len (n : Int) (h2 : n < 2 ^ 63) : (numB n).length ≤ 9 := by
  unfold numB
  split
  · simp
  · split
    · simp
    · have hb : nb n.toNat ≤ 8 := nb_le (by have : (256 : Nat) ^ 8 = 18446744073709551616 := by decide
                                            rw [this]; omega)
      rw [List.length_cons, be_len]
      omega
/-- The text that stands ahead. -/
def textAt (most : Nat) (l : List UInt8) : Option (List UInt8 × List UInt8) :=
  match numAt l with
  | none => none
  | some (n, r) => if (r.length : Int) < n ∨ (most : Int) < n then none else some (r.take n.toNat, r.drop n.toNat)
theorem textAt_text {most : Nat} {s : List UInt8} (h : s.length ≤ most) (h2 : s.length < 2 ^ 63) (r : List UInt8) : textAt most (textB s ++ r) = some (s, r) := by
  unfold textAt textB
  rw [List.append_assoc, numAt_num (by omega) (by omega)]
  simp only
  rw [if_neg (by rw [List.length_append]; omega), Int.toNat_natCast, List.take_append_of_le_length (Nat.le_refl _), List.take_of_length_le (Nat.le_refl _), List.drop_append_of_le_length (Nat.le_refl _), List.drop_of_length_le (Nat.le_refl _)]
  rfl
theorem textAt_some {most : Nat} {l s r : List UInt8} (h : textAt most l = some (s, r)) : l = textB s ++ r ∧ s.length ≤ most := by
  unfold textAt at h
  split at h
  · cases h
  · next n r' hn =>
    split at h
    · cases h
    · next hc =>
      injection h with h
      injection h with h2 h3
      obtain ⟨e, h0, _⟩ := numAt_some hn
      have h4 : ¬ (r'.length : Int) < n := fun e => hc (.inl e)
      have h5 : ¬ (most : Int) < n := fun e => hc (.inr e)
      have hl : s.length = n.toNat := by rw [← h2, List.length_take]; omega
      refine ⟨?_, by omega⟩
      unfold textB
      rw [e, show (s.length : Int) = n by omega, List.append_assoc, ← h2, ← h3, List.take_append_drop]

end Go.Proofs.YtogjokofmfpmgaaGreatDoor
namespace Go.Proofs.YtogjokofmfpmgaaGreatDoor
open Go.RowKit

def fst0 (k : Nat) : Nat × Nat := ((1 + k) % 256, (1 + k) % 256)
def fstep (p : Nat × Nat) (c : UInt8) : Nat × Nat := ((p.1 + c.toNat) % 256, (p.2 + (p.1 + c.toNat) % 256) % 256)
def fsum (k : Nat) (l : List UInt8) : Nat × Nat := l.foldl fstep (fst0 k)
theorem fsum_take (k : Nat) (l : List UInt8) (j : Nat) (h : j < l.length) : fsum k (l.take (j + 1)) = fstep (fsum k (l.take j)) l[j] := by
  unfold fsum
  rw [List.take_succ_eq_append_getElem h, List.foldl_append]
  rfl
theorem fsum_lt (k : Nat) (l : List UInt8) : (fsum k l).1 < 256 ∧ (fsum k l).2 < 256 := by
  unfold fsum
  have : ∀ (l : List UInt8) (p : Nat × Nat), p.1 < 256 ∧ p.2 < 256 → (l.foldl fstep p).1 < 256 ∧ (l.foldl fstep p).2 < 256 := by
    intro l
    induction l with
    | nil => exact fun p h => h
    | cons c t ih => exact fun p _ => ih _ ⟨Nat.mod_lt _ (by decide), Nat.mod_lt _ (by decide)⟩
  exact this l _ ⟨Nat.mod_lt _ (by decide), Nat.mod_lt _ (by decide)⟩
def sumF (k : Nat) (l : List UInt8) : Nat := (fsum k l).2 * 256 + (fsum k l).1
def frameB (k : Nat) (b : List UInt8) : List UInt8 :=
  [UInt8.ofNat (b.length / 65536), UInt8.ofNat (b.length / 256), UInt8.ofNat b.length, UInt8.ofNat k] ++ (b ++ [UInt8.ofNat (fsum k b).2, UInt8.ofNat (fsum k b).1])
theorem frameB_len (k : Nat) (b : List UInt8) : (frameB k b).length = b.length + 6 := by unfold frameB; simp
/-- The frame that stands ahead. -/
def at8 (l : List UInt8) (i : Nat) : Nat := (l.getD i 0).toNat
def sizeF (l : List UInt8) : Nat := at8 l 0 * 65536 + at8 l 1 * 256 + at8 l 2
def frK (l : List UInt8) : Nat := at8 l 3
def frB (l : List UInt8) : List UInt8 := (l.drop 4).take (sizeF l)
def frN (l : List UInt8) : Nat := sizeF l + 6
def frSum (l : List UInt8) : Prop := sumF (frK l) (frB l) = at8 l (sizeF l + 4) * 256 + at8 l (sizeF l + 5)
instance (l : List UInt8) : Decidable (frSum l) := by unfold frSum; infer_instance
def frE (l : List UInt8) : Int := if l.length < 3 then 14 else if 20000 < sizeF l then 2 else if l.length < sizeF l + 6 then 14 else if frSum l then 0 else 1
theorem at8_app {l : List UInt8} {i : Nat} (h : i < l.length) (m : List UInt8) : at8 (l ++ m) i = at8 l i := by
  unfold at8
  rw [List.getD_eq_getElem?_getD, List.getD_eq_getElem?_getD, List.getElem?_append_left h]
theorem at8_lt (l : List UInt8) (i : Nat) : at8 l i < 256 := (l.getD i 0).toNat_lt
theorem sizeF_app {l : List UInt8} (h : 3 ≤ l.length) (m : List UInt8) : sizeF (l ++ m) = sizeF l := by
  unfold sizeF
  rw [at8_app (by omega), at8_app (by omega), at8_app (by omega)]
theorem frE_or (l : List UInt8) : frE l = 14 ∨ (3 ≤ l.length ∧ 20000 < sizeF l ∧ frE l = 2) ∨ (3 ≤ l.length ∧ sizeF l ≤ 20000 ∧ frN l ≤ l.length ∧ frE l = if frSum l then 0 else 1) := by
  unfold frE frN
  by_cases h1 : l.length < 3
  · exact .inl (by rw [if_pos h1])
  · by_cases h2 : 20000 < sizeF l
    · exact .inr (.inl ⟨by omega, h2, by rw [if_neg h1, if_pos h2]⟩)
    · by_cases h3 : l.length < sizeF l + 6
      · exact .inl (by rw [if_neg h1, if_neg h2, if_pos h3])
      · exact .inr (.inr ⟨by omega, by omega, by omega, by rw [if_neg h1, if_neg h2, if_neg h3]⟩)
/-- What stands ahead stays, whatever comes behind. -/
theorem frE_app {l : List UInt8} (h : frE l ≠ 14) (m : List UInt8) : frE (l ++ m) = frE l ∧ (frE l = 0 → frK (l ++ m) = frK l ∧ frB (l ++ m) = frB l ∧ frN (l ++ m) = frN l ∧ frN l ≤ l.length) := by
  rcases frE_or l with h1 | ⟨h1, h2, h3⟩ | ⟨h1, h2, h3, h4⟩
  · exact absurd h1 h
  · refine ⟨?_, fun h0 => by rw [h3] at h0; cases h0⟩
    rw [h3, frE, if_neg (by rw [List.length_append]; omega), sizeF_app h1, if_pos h2]
  · have e1 := sizeF_app h1 m
    unfold frN at h3
    have e2 : frK (l ++ m) = frK l := at8_app (by omega) m
    have e3 : frB (l ++ m) = frB l := by
      unfold frB
      rw [e1, List.drop_append_of_le_length (by omega), List.take_append_of_le_length (by rw [List.length_drop]; omega)]
    have e4 : frSum (l ++ m) ↔ frSum l := by
      unfold frSum
      rw [e1, e2, e3, at8_app (by omega), at8_app (by omega)]
    refine ⟨?_, fun _ => ⟨e2, e3, by unfold frN; rw [e1], h3⟩⟩
    rw [h4, frE, if_neg (by rw [List.length_append]; omega), e1, if_neg (by omega), if_neg (by rw [List.length_append]; omega)]
    by_cases hs : frSum l
    · rw [if_pos hs, if_pos (e4.2 hs)]
    · rw [if_neg hs, if_neg (fun k => hs (e4.1 k))]
theorem frE_le {l : List UInt8} (h : frE l = 0) : frN l ≤ l.length ∧ frK l < 256 ∧ 6 ≤ frN l ∧ (frB l).length = sizeF l ∧ sizeF l ≤ 20000 := by
  rcases frE_or l with h1 | ⟨_, _, h3⟩ | ⟨h1, h2, h3, h4⟩
  · rw [h1] at h; cases h
  · rw [h3] at h; cases h
  · unfold frN at h3 ⊢
    refine ⟨h3, at8_lt _ _, by omega, ?_, h2⟩
    unfold frB
    rw [List.length_take, List.length_drop]
    omega
theorem getD_app2 {a b : List UInt8} {i : Nat} (h : a.length ≤ i) : (a ++ b).getD i 0 = b.getD (i - a.length) 0 := by
  rw [List.getD_eq_getElem?_getD, List.getD_eq_getElem?_getD, List.getElem?_append_right h]
/-- A frame's own bytes. -/
theorem frame_next {k : Nat} {b : List UInt8} (hk : k < 256) (hb : b.length ≤ 20000) (r : List UInt8) :
    frE (frameB k b ++ r) = 0 ∧ frK (frameB k b ++ r) = k ∧ frB (frameB k b ++ r) = b ∧ frN (frameB k b ++ r) = b.length + 6 := by
  have hl := frameB_len k b
  have hs : sizeF (frameB k b) = b.length := by
    unfold sizeF at8 frameB
    simp only [List.cons_append, List.nil_append, List.getD_cons_zero, List.getD_cons_succ, ofNat_toNat]
    omega
  have h3 : frK (frameB k b) = k := by
    unfold frK at8 frameB
    simp only [List.cons_append, List.nil_append, List.getD_cons_zero, List.getD_cons_succ, ofNat_toNat]
    omega
  have h4 : frB (frameB k b) = b := by
    unfold frB
    rw [hs]
    unfold frameB
    simp only [List.cons_append, List.nil_append, List.drop_succ_cons, List.drop_zero]
    rw [List.take_append_of_le_length (Nat.le_refl _), List.take_of_length_le (Nat.le_refl _)]
  have hlt := fsum_lt k b
  have g1 : at8 (frameB k b) (b.length + 4) = (fsum k b).2 := by
    unfold at8 frameB
    simp only [List.cons_append, List.nil_append, List.getD_cons_succ]
    rw [getD_app2 (Nat.le_refl _), Nat.sub_self]
    show (UInt8.ofNat (fsum k b).2).toNat = _
    rw [ofNat_toNat]
    omega
  have g2 : at8 (frameB k b) (b.length + 5) = (fsum k b).1 := by
    unfold at8 frameB
    simp only [List.cons_append, List.nil_append, List.getD_cons_succ]
    rw [getD_app2 (by omega), Nat.add_sub_cancel_left]
    show (UInt8.ofNat (fsum k b).1).toNat = _
    rw [ofNat_toNat]
    omega
  have h5 : frE (frameB k b) = 0 := by
    unfold frE
    rw [if_neg (by omega), hs, if_neg (by omega), if_neg (by omega), if_pos]
    unfold frSum
    rw [hs, h3, h4, g1, g2]
    rfl
  obtain ⟨e1, e2⟩ := frE_app (by rw [h5]; decide : frE (frameB k b) ≠ 14) r
  obtain ⟨e3, e4, e5, _⟩ := e2 h5
  exact ⟨e1.trans h5, e3.trans h3, e4.trans h4, by rw [e5, frN, hs]⟩

end Go.Proofs.YtogjokofmfpmgaaGreatDoor
namespace Go.Proofs.YtogjokofmfpmgaaGreatDoor
open Go.RowKit

/-- A row, or a slice with no room at all. -/
def RowO (w : World) (S : Nat → Prop) (e : TypeId) (size : Nat) (A : Option Addr) (n c : Nat) (xs : List Value) : Prop := Row w S e size A n c xs ∨ (n = 0 ∧ c = 0 ∧ xs = [])
theorem RowO.alloc {w : World} {S : Nat → Prop} {e : TypeId} {size n c : Nat} {A : Option Addr} {xs : List Value} (h : RowO w S e size A n c xs) (o : Obj) : RowO (w.alloc o) S e size A n c xs := h.imp (fun h => h.alloc o) id
theorem RowO.drew {w : World} {S : Nat → Prop} {e : TypeId} {size n c : Nat} {A : Option Addr} {xs : List Value} (h : RowO w S e size A n c xs) : RowO w.drew S e size A n c xs := h.imp (fun h => h.drew) id
theorem RowO.drewN {w : World} {S : Nat → Prop} {e : TypeId} {size n c : Nat} {A : Option Addr} {xs : List Value} (h : RowO w S e size A n c xs) (k : Nat) : RowO (w.drewN k) S e size A n c xs := h.imp (fun h => h.drewN k) id
end Go.Proofs.YtogjokofmfpmgaaGreatDoor
namespace Go.Proofs.YtogjokofmfpmgaaGreatDoor
open Go.RowKit

theorem run_append_none0 {P : Program} (w : World) (t ty e : TypeId) (i : TypeInfo) (ht : P.underlying t = some (.slice e)) (hi : P.info? e = some i) (A : Option Addr) (n cap : Nat) (hle : n ≤ cap) (B : Option Addr) (c : Nat) :
    (Builtin.append_ #[t, t] ty #[.slice A n cap, .slice B 0 c]).run P w = .ok (.slice A n cap) w := by
  have hs : Src P i.size t (.slice B 0 c) 0 [] w := by
    cases B with
    | none => exact Src.ofNil w ht c
    | some b => exact Src.ofSlice w ht b 0 c [] (by simp) (by simp) (by simp)
  exact run_append_nothing (P := P) w t t ty e i ht hi A n cap hle (.slice B 0 c) hs
theorem news_nil {size : Nat} {news : List Value} {w : World} {B : Option Addr} (h : Rds w B 0 size news) : news = [] := List.eq_nil_of_length_eq_zero (by have := h.len; simpa using this)
/-- Onto an owned row. -/
theorem run_append_rowG {P : Program} (w : World) (S : Nat → Prop) (t ty e : TypeId) (i : TypeInfo) (z : Value) (size bytes : Nat) (ht : P.underlying t = some (.slice e)) (hi : P.info? e = some i) (hz : i.zero = some z)
    (hsize : i.size = size) (hby : i.bytes = bytes) (hzs : z.cells.size = size) (A : Option Addr) (n cap : Nat) (xs : List Value) (hr : Row w S e size A n cap xs)
    (B : Option Addr) (m c : Nat) (news : List Value) (hsrc : Rds w B m size news) (h1 : ∀ u ∈ news, u.oneCell' = true)
    (h63 : n + m ≤ maxLen) (hbytes : (n + m) * bytes ≤ 140737488355328) :
    ∃ A' c' w', (Builtin.append_ #[t, t] ty #[.slice A n cap, .slice B m c]).run P w = .ok (.slice A' (n + m) c') w' ∧ Row w' (Plus S w.heap.size) e size A' (n + m) c' (xs ++ news) ∧ Chg S w w' := by
  by_cases h0 : 0 < m
  · obtain ⟨g, o, rfl, hg, hc⟩ := hsrc.at_ h0
    exact run_append_row w S t ty e i z size bytes ht hi hz hsize hby hzs A n cap xs hr ⟨g, o, none⟩ m c news hsrc.len (fun j u hu => by rw [Addr.add_lit]; exact hc j u hu) h1 h0 h63 hbytes
  · obtain rfl : m = 0 := by omega
    obtain rfl := news_nil hsrc
    exact ⟨A, cap, w, run_append_none0 w t ty e i ht hi A n cap hr.cap.1 B c, by simpa using hr.mono (fun q hq => .inl hq), Chg.refl _ _⟩
theorem wpList_append_rowG {P : Program} {w : World} {Q : Exit → Act → World → Prop} {a : Act} {ops : Array Oper} {rest : List Oper} {o : Oper} (hgd : o.guard = none) (s x : Operand) (t : TypeId)
    (ho : o.op = .call { callee := .builtin .append, args := #[s, x], argTypes := #[t, t] })
    (S : Nat → Prop) (e : TypeId) (i : TypeInfo) (z : Value) (size bytes : Nat) (ht : P.underlying t = some (.slice e)) (hi : P.info? e = some i) (hz : i.zero = some z)
    (hsize : i.size = size) (hby : i.bytes = bytes) (hzs : z.cells.size = size) (A : Option Addr) (n cap : Nat) (xs : List Value) (hs : a.eval s = .slice A n cap) (hr : Row w S e size A n cap xs)
    (B : Option Addr) (m c : Nat) (news : List Value) (hx : a.eval x = .slice B m c) (hsrc : Rds w B m size news) (h1 : ∀ u ∈ news, u.oneCell' = true)
    (h63 : n + m ≤ maxLen) (hbytes : (n + m) * bytes ≤ 140737488355328)
    (h : ∀ A' c' w', Row w' (Plus S w.heap.size) e size A' (n + m) c' (xs ++ news) → Chg S w w' → wpList P ops Q rest (a.put o.dst (.slice A' (n + m) c')) w') : wpList P ops Q (o :: rest) a w :=
  wpList_plain hgd fun K hK => by
    obtain ⟨A', c', w', hrun, h2, h3⟩ := run_append_rowG (P := P) w S t o.type e i z size bytes ht hi hz hsize hby hzs A n cap xs hr B m c news hsrc h1 h63 hbytes
    unfold Oper.wp execOp
    simp only [ho, resolve, invoke, builtin, Sem.run_bind, Sem.run_pure, Result.andThen_ok, List.map_toArray, List.map_cons, List.map_nil, hs, hx, hrun]
    exact hK _ _ (h A' c' w' h2 h3)
end Go.Proofs.YtogjokofmfpmgaaGreatDoor
namespace Go.Proofs.YtogjokofmfpmgaaGreatDoor
open Go.RowKit

def u8E (l : List UInt8) : List Value := l.map fun b => Value.int .u8 b.toNat
theorem u8E_len (l : List UInt8) : (u8E l).length = l.length := by simp [u8E]
theorem u8E_app (a b : List UInt8) : u8E (a ++ b) = u8E a ++ u8E b := by simp [u8E]
theorem u8E_one (l : List UInt8) : ∀ u ∈ u8E l, u.oneCell' = true := by
  intro u hu
  obtain ⟨c, _, rfl⟩ := List.mem_map.1 hu
  rfl
theorem u8E_at (l : List UInt8) (i : Nat) (h : i < l.length) : (u8E l)[i]? = some (.int .u8 l[i].toNat) := by simp [u8E, h]
theorem conv_back {P : Program} (w : World) (src dst e : TypeId) (hs : P.underlying src = some (.slice e)) (he : P.underlying e = some (.int .u8)) (hd : P.underlying dst = some .string) (A : Option Addr) (n c : Nat) (l : List UInt8) (hn : n = l.length) (hr : Rds w A n 1 (u8E l)) :
    (convert src dst (.slice A n c)).run P w = .ok (.string (bs l)) w := by
  by_cases h0 : 0 < n
  · obtain ⟨g, o, rfl, _, hc⟩ := hr.at_ h0
    subst hn
    exact run_convert_bytes_back w src dst e ⟨g, o, none⟩ c l hs he hd (fun j hj => by rw [Addr.add_lit]; exact hc j _ (u8E_at l j hj))
  · obtain rfl : n = 0 := by omega
    obtain rfl := List.eq_nil_of_length_eq_zero hn.symm
    rw [run_convert_bytes_string w src dst e A 0 c hs he hd]
    cases A <;> simp [Conv.bytesToString, loadCells]
    all_goals rfl
theorem conv_to {P : Program} (w : World) (src dst e : TypeId) (hs : P.underlying src = some .string) (hd : P.underlying dst = some (.slice e)) (he : P.underlying e = some (.int .u8)) (s : ByteArray) :
    ∃ cap w', (convert src dst (.string s)).run P w = .ok (.slice (some ⟨w.heap.size, 0, none⟩) s.size cap) w' ∧ Rds w' (some ⟨w.heap.size, 0, none⟩) s.size 1 (u8E s.data.toList) ∧ Below w.heap.size w w' ∧ s.size ≤ cap := by
  refine ⟨_, _, run_bytes_of_string w src dst e s hs hd he, ⟨by rw [u8E_len]; simp, fun _ => ⟨_, 0, rfl, ?_, fun j u hu => ?_⟩⟩, ?_, grownCap_ge w s.size 0 e⟩
  · simp
  · rw [Nat.zero_add]
    have h1 : (w.drew.alloc (.cells (bytesRow s (grownCap w s.size 0 e)) e ((bytesRow s (grownCap w s.size 0 e)).size, (bytesRow s (grownCap w s.size 0 e)).size + 1))).heap[w.heap.size]? = some (.cells (bytesRow s (grownCap w s.size 0 e)) e ((bytesRow s (grownCap w s.size 0 e)).size, (bytesRow s (grownCap w s.size 0 e)).size + 1)) := heap_alloc_new w.drew _
    rw [cell_of_row _ w.heap.size j _ e _ h1]
    have hj : j < s.data.toList.length := by
      rcases Nat.lt_or_ge j s.data.toList.length with h | h
      · exact h
      · rw [List.getElem?_eq_none (by rw [u8E_len]; exact h)] at hu; cases hu
    have hj' : j < s.data.size := by simpa using hj
    rw [u8E_at _ _ hj] at hu
    rw [← hu, bytesRow, Array.getElem?_append_left (by simpa using hj')]
    simp only [Array.getElem?_map, Array.getElem?_eq_getElem hj', Option.map_some, Array.getElem_toList]
  · exact ((Below.refl w.heap.size w).drew).alloc (Nat.le_refl _) _

theorem cells_at8 {w : World} {g : Nat} {t : TypeId} {cs : Array Value} {l : List Value} (hb : Blk w g t cs) (hl : cs.toList = l) : ∀ j u, l[j]? = some u → w.cell? ((⟨g, 0, none⟩ : Addr).add j) = some u := by
  intro j u hu
  rw [Addr.add_lit, Nat.zero_add, hb.cell, ← hu, ← hl]
  simp
/-- Bytes that are handed back. -/
structure BytR (t : TypeId) (w : World) (L : List UInt8) (e : Ending) (w' : World) : Prop where
  o : ∃ (A : Option Addr) (m c : Nat), e = .returned (.slice A m c) ∧ m = L.length ∧ Row w' (From w.heap.size) t 1 A m c (u8E L) ∧ Below w.heap.size w w'

end Go.Proofs.YtogjokofmfpmgaaGreatDoor
namespace Go.Proofs.YtogjokofmfpmgaaGreatDoor
open Go.RowKit

theorem byteCells_u8E (s : ByteArray) : byteCells s = u8E s.data.toList := rfl

theorem run_append_str {P : Program} (w : World) (S : Nat → Prop) (t tx ty e : TypeId) (i : TypeInfo) (z : Value) (bytes : Nat) (ht : P.underlying t = some (.slice e)) (htx : P.underlying tx = some .string) (hi : P.info? e = some i) (hz : i.zero = some z)
    (hsize : i.size = 1) (hby : i.bytes = bytes) (hzs : z.cells.size = 1) (A : Option Addr) (n cap : Nat) (xs : List Value) (hr : Row w S e 1 A n cap xs) (s : ByteArray)
    (h63 : n + s.size ≤ maxLen) (hbytes : (n + s.size) * bytes ≤ 140737488355328) :
    ∃ A' c' w', (Builtin.append_ #[t, tx] ty #[.slice A n cap, .string s]).run P w = .ok (.slice A' (n + s.size) c') w' ∧ Row w' (Plus S w.heap.size) e 1 A' (n + s.size) c' (xs ++ u8E s.data.toList) ∧ Chg S w w' := by
  subst hby
  have hs : Src P i.size tx (.string s) s.size (byteCells s) w := by rw [hsize]; exact Src.ofString w htx s
  have hnl : (byteCells s).length = s.size := byteCells_length s
  have hlen : (xs ++ byteCells s).length = (n + s.size) * 1 := by rw [List.length_append, hr.len, hnl]; omega
  rw [← byteCells_u8E]
  by_cases h0 : 0 < s.size
  case neg =>
    have h0 : s.size = 0 := by omega
    have hnil : byteCells s = [] := List.eq_nil_of_length_eq_zero (by rw [hnl, h0])
    rw [hnil, h0] at hs
    rw [hnil, h0]
    have hrun := run_append_nothing (P := P) w t tx ty e i ht hi A n cap hr.cap.1 (.string s) hs
    exact ⟨A, cap, w, hrun, by simpa using hr.mono (fun q hq => .inl hq), Chg.refl _ _⟩
  case pos =>
  have hsmall : n + s.size ≤ 9223372036854775807 := by simp only [maxLen] at h63; omega
  by_cases hroom : n + s.size ≤ cap
  · cases A with
    | none => have := hr.none_; omega
    | some ad =>
      obtain ⟨g, cur, rfl, hS, hb, hnc, hcm, hcs, htake⟩ := hr.block rfl
      have hst := run_storeCells_at P g n e (byteCells s) 0 cur w hb (by rw [hnl]; omega) hs.one
      simp only [Nat.add_zero] at hst
      refine ⟨some ⟨g, 0, none⟩, cap, w.setRow g (cur.toList.take n ++ byteCells s ++ cur.toList.drop (n + (byteCells s).length)).toArray, ?_, Row.of_block (hb.setRow _) (.inl hS) hroom hcm ?_ ?_ hlen, (Chg.refl S w).setRow (.inl hS) _⟩
      · have hcs := hs.cells
        rw [hsize] at hcs
        simp [Builtin.append_, run_underlying ht, run_underlying htx, sizeOf, typeInfo, hi, hs.len, hroom, hcs, Addr.add_lit, hsize, hst]
      · simp only [List.size_toArray, List.length_append, List.length_take, List.length_drop, Array.length_toList, hnl]
        omega
      · rw [Nat.mul_one] at htake
        rw [htake, ← hlen]
        exact List.take_left
  · have hold : (Builtin.firstCells i.size n (.slice A n cap)).run P w.drew = .ok xs.toArray w.drew := by
      cases A with
      | none =>
        obtain ⟨_, _, rfl⟩ := hr.none_
        exact run_firstCells_none w.drew i.size n n cap
      | some ad =>
        obtain ⟨g, cur, rfl, _⟩ := hr.block rfl
        have holds : ∀ j u, xs[j]? = some u → w.cell? ((⟨g, 0, none⟩ : Addr).add j) = some u := hr.own.cells (g := g) rfl
        rw [hsize]
        exact run_firstCells_some w.drew 1 n ⟨g, 0, none⟩ n cap xs hr.len holds
    have hrun := run_append_grow_src (P := P) w t tx ty e i z ht hi hz A n cap xs hold (.string s) s.size (byteCells s) hs (by omega) (by omega) (growslice_fits (by omega) hbytes)
    have hge := grownCap_ge w (n + s.size) cap e
    have hcm : grownCap w (n + s.size) cap e ≤ maxLen := grownCap_le_maxLen w (n + s.size) cap e h63
    refine ⟨_, _, _, hrun, Row.of_block (Blk.new w.drew e _) (.inr (Nat.le_refl _)) hge hcm ?_ ?_ hlen, (Chg.refl S w).drew.alloc _⟩
    · simp only [Array.size_append, List.size_toArray, size_zeroCells, hzs, List.length_append, hr.len, hnl]
      omega
    · simp only [Array.toList_append, List.append_assoc]
      rw [← List.append_assoc, ← hlen]
      exact List.take_left
theorem wpList_append_str {P : Program} {w : World} {Q : Exit → Act → World → Prop} {a : Act} {ops : Array Oper} {rest : List Oper} {o : Oper} (hgd : o.guard = none) (s x : Operand) (t tx : TypeId)
    (ho : o.op = .call { callee := .builtin .append, args := #[s, x], argTypes := #[t, tx] })
    (S : Nat → Prop) (e : TypeId) (i : TypeInfo) (z : Value) (bytes : Nat) (ht : P.underlying t = some (.slice e)) (htx : P.underlying tx = some .string) (hi : P.info? e = some i) (hz : i.zero = some z)
    (hsize : i.size = 1) (hby : i.bytes = bytes) (hzs : z.cells.size = 1) (A : Option Addr) (n cap : Nat) (xs : List Value) (hs : a.eval s = .slice A n cap) (hr : Row w S e 1 A n cap xs)
    (b : ByteArray) (hx : a.eval x = .string b) (h63 : n + b.size ≤ maxLen) (hbytes : (n + b.size) * bytes ≤ 140737488355328)
    (h : ∀ A' c' w', Row w' (Plus S w.heap.size) e 1 A' (n + b.size) c' (xs ++ u8E b.data.toList) → Chg S w w' → wpList P ops Q rest (a.put o.dst (.slice A' (n + b.size) c')) w') : wpList P ops Q (o :: rest) a w :=
  wpList_plain hgd fun K hK => by
    obtain ⟨A', c', w', hrun, h2, h3⟩ := run_append_str (P := P) w S t tx o.type e i z bytes ht htx hi hz hsize hby hzs A n cap xs hr b h63 hbytes
    unfold Oper.wp execOp
    simp only [ho, resolve, invoke, builtin, Sem.run_bind, Sem.run_pure, Result.andThen_ok, List.map_toArray, List.map_cons, List.map_nil, hs, hx, hrun]
    exact hK _ _ (h A' c' w' h2 h3)

end Go.Proofs.YtogjokofmfpmgaaGreatDoor
namespace Go.Proofs.YtogjokofmfpmgaaGreatDoor
open Go.RowKit

theorem pkInfo : (Tryz.prog.info? 5).map (fun i => (i.zero, i.size, i.bytes)) = some (some (.int .u8 0), 1, 1) := by kernel_rfl

end Go.Proofs.YtogjokofmfpmgaaGreatDoor
namespace Go.Proofs.YtogjokofmfpmgaaGreatDoor
open Go.RowKit

/-- A reader's block: what it reads, how far it has come; none: it is broken. -/
structure PkR (w : World) (g : Nat) (l : List UInt8) (st : Option (List UInt8)) : Prop where
  o : ∃ (A : Option Addr) (n c : Nat) (k : Nat) (e : Int), Blk w g 113 #[.slice A n c, .int .i64 k, .int .i64 e] ∧ Row w (Of A) 5 1 A n c (u8E l) ∧ n = l.length ∧ k ≤ n ∧ ((e = 0 ∧ st = some (l.drop k)) ∨ (e ≠ 0 ∧ st = none))
theorem PkR.lt {w : World} {g : Nat} {l : List UInt8} {st : Option (List UInt8)} (h : PkR w g l st) : g < w.heap.size := by
  obtain ⟨A, n, c, k, e, hb, _⟩ := h.o
  exact hb.lt
/-- What turns no block of bytes, and no reader, leaves it. -/
theorem PkR.chg {w w' : World} {T : Nat → Prop} {g : Nat} {l : List UInt8} {st : Option (List UInt8)} (h : PkR w g l st) (hc : Chg T w w') (hT : ∀ k, T k → w.heap.size ≤ k ∨ ∃ t cs, Blk w k t cs ∧ 5 ≠ t ∧ 113 ≠ t) : PkR w' g l st := by
  obtain ⟨A, n, c, k, e, hb, hr, h1, h2, h3⟩ := h.o
  refine ⟨A, n, c, k, e, hb.chg hc (fun hg => ?_), hr.keep (fun a ha => hc.block _ (hr.lt ha) (fun hg => ?_)), h1, h2, h3⟩
  · rcases hT _ hg with hg | ⟨t, cs, hx, _, hn⟩
    · have := hb.lt; omega
    · exact hb.ne_ hx hn rfl
  · rcases hT _ hg with hg | ⟨t, cs, hx, hn, _⟩
    · have := hr.lt ha; omega
    · exact hr.ne_blk hx hn a ha rfl
theorem PkR.below {w w' : World} {g : Nat} {l : List UInt8} {st : Option (List UInt8)} (h : PkR w g l st) (hb : Below w.heap.size w w') : PkR w' g l st :=
  h.chg (Chg.of_below Non hb) (fun _ h => h.elim)
theorem PkR.alloc {w : World} {g : Nat} {l : List UInt8} {st : Option (List UInt8)} (h : PkR w g l st) (o : Obj) : PkR (w.alloc o) g l st := h.below ((Below.refl _ w).alloc (Nat.le_refl _) o)
theorem PkR.far {w : World} {g : Nat} {l : List UInt8} {st : Option (List UInt8)} (h : PkR w g l st) {b i : Nat} {t : TypeId} {cs : Array Value} (hb : Blk w b t cs) (h1 : 5 ≠ t) (h2 : 113 ≠ t) (u : Value) : PkR (w.setCell ⟨b, i, none⟩ u) g l st :=
  h.chg (T := One b) ((Chg.refl (One b) w).setCell (p := ⟨b, i, none⟩) (.inl rfl) u) (fun k hk => .inr ⟨t, cs, by rw [show k = b from hk]; exact hb, h1, h2⟩)

set_option maxRecDepth 100000 in
set_option maxHeartbeats 2000000 in
theorem pread_calls (w : World) (A : Option Addr) (n c : Nat) (l : List UInt8) (hn : n = l.length) (hr : Rds w A n 1 (u8E l)) (hb : n ≤ 1000000) :
    Calls Tryz.prog 52 #[.slice A n c] w fun e w' => ∃ g, e = .returned (.pointer (some ⟨g, 0, none⟩)) ∧ w.heap.size ≤ g ∧ PkR w' g l (some l) ∧ Below w.heap.size w w' := by
  obtain ⟨i0, hi, hz0, hz1, hz2⟩ := info_parts pkInfo
  have HN := hd hn
  have HR := hd hr
  clear hn hr
  have HR0 := hd (show Row (w.alloc (.cells #[] 5)) (From w.heap.size) 5 1 (some ⟨w.heap.size, 0, none⟩) 0 0 [] from Row.of_block (Blk.new _ _ _) (Nat.le_refl _) (Nat.le_refl _) (Nat.zero_le _) rfl rfl rfl)
  have HB0 := hd (show Below w.heap.size w (w.alloc (.cells #[] 5)) from (Below.refl _ w).alloc (Nat.le_refl _) _)
  go_enter Tryz.func52, Tryz.ntmps52
  go_wp2_with (at_builtin; refine wpList_append_rowG rfl _ _ 27 rfl (From w.heap.size) 5 i0 (.int .u8 0) 1 1 Tryz.underlying27 hi hz0 hz1 hz2 rfl _ 0 0 [] rfl HR0.o A n c (u8E l) rfl (HR.o.alloc _) (u8E_one _) (by unfold maxLen; omega) (by omega) ?_; intro A2 c2 w2 hown hchg)
  rw [Nat.zero_add] at hown
  have HR2 := hd (show Row w2 (From w.heap.size) 5 1 A2 n c2 (u8E l) by simpa using hown.mono (fun q hq => hq.elim id (fun hq => by simp at hq; show w.heap.size ≤ q; omega)))
  have HB2 := hd (HB0.o.trans (hchg.below (fun _ h => h) HB0.o.size))
  clear hown hchg
  go_wp2
  go_ret
  refine ⟨w2.heap.size, rfl, HB2.o.size, ⟨⟨A2, n, c2, 0, 0, ?_, HR2.o.own_.alloc _, HN.o, Nat.zero_le _, .inl ⟨rfl, rfl⟩⟩⟩, HB2.o.alloc HB2.o.size _⟩
  exact Blk.new _ _ _

end Go.Proofs.YtogjokofmfpmgaaGreatDoor
namespace Go.Proofs.YtogjokofmfpmgaaGreatDoor
open Go.RowKit

/-- An item: UID, version, whether it is gone, its card. -/
structure It where
  uid : List UInt8
  ver : Int
  gone : Bool
  card : List UInt8
  deriving DecidableEq
/-- A card of a collection: version, text. -/
structure Ce where
  ver : Int
  text : List UInt8
  deriving DecidableEq
theorem flat_at {R : Type} (enc : R → List Value) (k : Nat) (hk : ∀ r, (enc r).length = k) : ∀ (l : List R) (i : Nat) (h : i < l.length) (j : Nat), j < k → (l.flatMap enc)[i * k + j]? = (enc l[i])[j]?
  | [], i, h, _, _ => by simp at h
  | a :: l, 0, _, j, hj => by
    rw [List.flatMap_cons, Nat.zero_mul, Nat.zero_add, List.getElem?_append_left (by rw [hk]; exact hj)]
    rfl
  | a :: l, i + 1, h, j, hj => by
    have e : (i + 1) * k + j = k + (i * k + j) := by rw [Nat.add_mul, Nat.one_mul]; omega
    rw [List.flatMap_cons, e, List.getElem?_append_right (by rw [hk]; omega), hk, show k + (i * k + j) - k = i * k + j by omega, flat_at enc k hk l i (by simpa using h) j hj]
    rfl
theorem flat_length {R : Type} (enc : R → List Value) (k : Nat) (hk : ∀ r, (enc r).length = k) (l : List R) : (l.flatMap enc).length = l.length * k := by
  induction l with
  | nil => simp
  | cons a l ih => rw [List.flatMap_cons, List.length_append, hk, ih, List.length_cons, Nat.add_mul]; omega
theorem flat_take {R : Type} (enc : R → List Value) (k : Nat) (hk : ∀ r, (enc r).length = k) : ∀ (l : List R) (i : Nat), (l.flatMap enc).take (i * k) = (l.take i).flatMap enc
  | [], i => by simp
  | a :: l, 0 => by simp
  | a :: l, i + 1 => by
    rw [List.flatMap_cons, Nat.add_mul, Nat.one_mul, Nat.add_comm, List.take_succ_cons, List.flatMap_cons, ← flat_take enc k hk l i]
    rw [List.take_append, hk, List.take_of_length_le (by rw [hk]; omega)]
    congr 2
    omega
theorem flat_drop {R : Type} (enc : R → List Value) (k : Nat) (hk : ∀ r, (enc r).length = k) : ∀ (l : List R) (i : Nat), (l.flatMap enc).drop (i * k) = (l.drop i).flatMap enc
  | [], i => by simp
  | a :: l, 0 => by simp
  | a :: l, i + 1 => by
    rw [List.flatMap_cons, Nat.add_mul, Nat.one_mul, Nat.add_comm, List.drop_succ_cons, ← flat_drop enc k hk l i]
    rw [List.drop_append, hk, List.drop_of_length_le (by rw [hk]; omega), List.nil_append]
    congr 1
    omega
end Go.Proofs.YtogjokofmfpmgaaGreatDoor
namespace Go.Proofs.YtogjokofmfpmgaaGreatDoor
open Go.RowKit Go.Lib

/-- A write. -/
structure OpV where
  del : Bool
  uid : List UInt8
  card : List UInt8
  ck : Int
  cv : Int
  deriving DecidableEq
def opEnc (o : OpV) : List Value := [.bool o.del, .string (bs o.uid), .string (bs o.card), .int .i64 o.ck, .int .i64 o.cv]
theorem opEnc_len (o : OpV) : (opEnc o).length = 5 := rfl

/-- The collection's state. -/
structure Cs where
  most : Int
  cap : Int
  ml : ML Ce
  log : List (Int × List UInt8)
  latest : Int
  horizon : Int
def pushFull (cap : Int) (l : List (Int × List UInt8)) : Bool := decide ((l.length : Int) = cap)
def Cs.no (s : Cs) (o : OpV) (t : Int) : Bool := decide (t < s.latest) || (o.del && !hasM s.ml o.uid) || (!o.del && !hasM s.ml o.uid && decide (s.most ≤ (s.ml.length : Int)))
def Cs.hor (s : Cs) : Int := if pushFull s.cap s.log = true then max s.horizon (s.log.headD (0, [])).1 else s.horizon
def Cs.new (birth cards log : Int) : Cs := ⟨max cards 1, max log 1, [], [], birth, birth⟩
end Go.Proofs.YtogjokofmfpmgaaGreatDoor
namespace Go.Proofs.YtogjokofmfpmgaaGreatDoor
def mayP (ck cv : Int) : Bool := if ck = 0 ∨ ck = 1 ∨ ck = 2 then cv == 0 else if ck = 3 then decide (1 ≤ cv) else false
end Go.Proofs.YtogjokofmfpmgaaGreatDoor
