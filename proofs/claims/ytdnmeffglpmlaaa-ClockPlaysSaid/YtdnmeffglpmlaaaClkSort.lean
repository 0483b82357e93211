/-
  slices.SortFunc at alarms, with the clock's own comparison: a permutation that rises.
-/
import Derived.Test.YtdnmeffglpmlaaaClkC
import Derived.Test.YtdnmeffglpmlaaaLaySort
import Derived.Shelf.SlSortCmp.NoneTotal
import Derived.Laws.StructEq
namespace Go.Proofs.Ytdnmeffglpmlaaa
open Go.RowKit Go.Shelf Go.Lib Go.Sort

def alCmp (x y : Int × Int) : Int := if alLt x y then -1 else if x = y then 0 else 1
def alE (x : Int × Int) : List Value := [.int .i64 x.1, .int .i64 x.2]

theorem alarm_eq (a b c d : Int) (W : World) : (binOp .eql 47 (.agg #[.int .i64 a, .int .i64 b]) (.agg #[.int .i64 c, .int .i64 d])).run Try.prog W = .ok (.bool (a == c && b == d)) W := by
  have u3 := Try.underlying3
  have a3 := Try.isAgg3
  have z3 := Try.sizeOf3
  have hS : Try.prog.underlying 47 = some (.struct (Try.prog.fieldsOf 47)) := by kernel_rfl
  have hp : Try.prog.stoodInHeld 47 = false := by kernel_rfl
  rw [run_eql_struct, show (10000 : Nat) = 9999 + 1 from rfl, run_equalIn_agg W 9999 47 _ _ hS hp]
  simp only [Program.fieldsOf, Try.underlying47]
  go_simp
  by_cases h1 : a = c <;> by_cases h2 : b = d <;> simp [h1, h2]

theorem alLt_eq (x y : Int × Int) : alLt x y = true ↔ (x.2 < y.2 ∨ (x.2 = y.2 ∧ x.1 < y.1)) := by simp [alLt]

set_option maxHeartbeats 1000000 in
theorem all1_calls (x y : Int × Int) (W : World) : Calls Try.prog 26 #[.agg #[.int .i64 x.1, .int .i64 x.2], .agg #[.int .i64 y.1, .int .i64 y.2]] W fun e w' => e = .returned (.int .i64 (alCmp x y)) ∧ ∃ q os', w' = grow (W.drewN q) os' := by
  obtain ⟨x1, x2⟩ := x
  obtain ⟨y1, y2⟩ := y
  have heq := alarm_eq x1 x2 y1 y2
  by_cases h1 : x2 < y2
  · have hc : alCmp (x1, x2) (y1, y2) = -1 := by simp [alCmp, alLt, h1]
    rw [hc]
    clear hc heq
    go_enter Try.func26, Try.ntmps26
    go_wp2
    go_ret
    exact ⟨rfl, 0, _, by rw [alloc_eq_grow, alloc_eq_grow, grow_grow]; rfl⟩
  · by_cases h2 : x2 = y2
    · subst h2
      have hb : (x2 == x2) = true := by simp
      by_cases h3 : x1 < y1
      · have hc : alCmp (x1, x2) (y1, x2) = -1 := by simp [alCmp, alLt, h3]
        rw [hc]
        clear hc heq
        go_enter Try.func26, Try.ntmps26
        go_wp2
        go_ret
        exact ⟨rfl, 0, _, by rw [alloc_eq_grow, alloc_eq_grow, grow_grow]; rfl⟩
      · by_cases h4 : x1 = y1
        · subst h4
          have hc : alCmp (x1, x2) (x1, x2) = 0 := by simp [alCmp, alLt]
          rw [hc]
          clear hc
          go_enter Try.func26, Try.ntmps26
          go_wp2
          go_ret
          exact ⟨rfl, 0, _, by rw [alloc_eq_grow, alloc_eq_grow, grow_grow]; rfl⟩
        · have hc : alCmp (x1, x2) (y1, x2) = 1 := by simp [alCmp, alLt, h3, h4]
          rw [hc]
          clear hc
          have hne : (x1 == y1) = false := by simp [h4]
          go_enter Try.func26, Try.ntmps26
          go_wp2
          go_ret
          exact ⟨rfl, 0, _, by rw [alloc_eq_grow, alloc_eq_grow, grow_grow]; rfl⟩
    · have hc : alCmp (x1, x2) (y1, y2) = 1 := by simp [alCmp, alLt, h1, h2]
      rw [hc]
      clear hc
      have hne : (x2 == y2) = false := by simp [h2]
      go_enter Try.func26, Try.ntmps26
      go_wp2
      go_ret
      exact ⟨rfl, 0, _, by rw [alloc_eq_grow, alloc_eq_grow, grow_grow]; rfl⟩

theorem ltOf_al (x y : Int × Int) : ltOf alCmp x y = alLt x y := by
  unfold ltOf alCmp
  by_cases h : alLt x y = true
  · simp [h]
  · simp only [h]
    by_cases e : x = y <;> simp [e]

theorem swo_al : SWO (ltOf alCmp) where
  irrefl x := by rw [ltOf_al]; simp [alLt]
  trans x y z h1 h2 := by rw [ltOf_al] at *; rw [alLt_eq] at *; omega
  ntrans x y z h1 h2 := by
    rw [ltOf_al] at *
    have e1 : ¬ alLt x y = true := by simp [h1]
    have e2 : ¬ alLt y z = true := by simp [h2]
    have : ¬ alLt x z = true := by rw [alLt_eq] at *; omega
    simpa using this

theorem alEnc_at (l : Al) (t : Nat) (ht : t < l.length * 2) : (alEnc l)[t]? = some (alE (l[t / 2]?.getD (0, 0)))[t % 2]! := by
  have h := alEnc_get l (t / 2) (by omega)
  generalize l[t / 2]?.getD (0, 0) = x at h ⊢
  have ht2 : t = t / 2 * 2 + t % 2 := by omega
  generalize t / 2 = q at h ht2
  rcases Nat.mod_two_eq_zero_or_one t with h2 | h2
  · rw [h2, Nat.add_zero] at ht2
    rw [h2, ht2, h.1]; rfl
  · rw [h2] at ht2
    rw [h2, ht2, h.2]; rfl

theorem holdsK_of_row {w : World} {S : Nat → Prop} {g n c : Nat} {l : Al} (hr : Row w S 47 2 (some ⟨g, 0, none⟩) n c (alEnc l)) (hn : n = l.length) : HoldsK alE 2 w g 0 l.toArray := by
  intro t ht
  rw [size_flatK] at ht
  simp only [List.size_toArray] at ht
  obtain ⟨g', hA, _, _, _, _, hc, hf⟩ := hr.at_ (by omega)
  injection hA with hA
  injection hA with hA
  subst hA
  refine ⟨?_, hf _⟩
  rw [Nat.zero_add]
  refine hc t _ ?_
  rw [get_flatK _ _ _ _ (by simpa using ht)]
  have hk : t / 2 < l.length := by omega
  have h := alEnc_get l (t / 2) hk
  have hx : (l.toArray)[t / 2]! = l[t / 2]?.getD (0, 0) := by
    rw [getElem!_pos _ _ (by simpa using hk)]
    simp [hk]
  rw [hx]
  exact alEnc_at l t (by omega)

theorem flat_toList (l : Al) : (flatK alE 2 l.toArray).toList = alEnc l := by
  apply List.ext_getElem?
  intro t
  by_cases ht : t < l.length * 2
  · rw [alEnc_at l t ht, Array.getElem?_toList, Array.getElem?_eq_getElem (by rw [size_flatK]; simpa using ht)]
    rw [← getElem!_pos _ t (by rw [size_flatK]; simpa using ht), get_flatK _ _ _ _ (by simpa using ht)]
    have hx : (l.toArray)[t / 2]! = l[t / 2]?.getD (0, 0) := by
      rw [getElem!_pos _ _ (by simp; omega)]
      simp [show t / 2 < l.length by omega]
    rw [hx]
  · rw [List.getElem?_eq_none (by rw [Array.length_toList, size_flatK]; simp; omega), List.getElem?_eq_none (by rw [alEnc_len]; omega)]

/-- Behind the sort the same slice owns the sorted row. -/
theorem row_sorted {w : World} {S : Nat → Prop} {g n c m : Nat} {l l' : Al} {os : Array Obj} (hr : Row w S 47 2 (some ⟨g, 0, none⟩) n c (alEnc l)) (hn : n = l.length) (hl : l'.length = l.length) :
    Row (sortWorldK alE 2 w g 0 m l'.toArray os) S 47 2 (some ⟨g, 0, none⟩) n c (alEnc l') ∧ Chg (Of (some ⟨g, 0, none⟩)) w (sortWorldK alE 2 w g 0 m l'.toArray os) := by
  obtain ⟨g', cur, e, hS, hb, hnc, hcm, hcs, ht⟩ := hr.block rfl
  injection e with e
  subst e
  have hg := hb.lt
  have hF : (flatK alE 2 l'.toArray).size = n * 2 := by rw [size_flatK]; simp [hl, hn]
  have hbl : Blk (sortWorldK alE 2 w g 0 m l'.toArray os) g 47 (putCells id 0 (flatK alE 2 l'.toArray) cur) := by
    unfold Blk sortWorldK
    rw [heap_grow_old _ _ (by simpa [putRowK] using hg)]
    unfold Blk at hb
    simp [putRowK, putRow, mapBlock, Sort.ahead, Array.getElem?_modify, hb, onCells]
  refine ⟨Row.of_block hbl hS hnc hcm (by simp [putCells, hcs]) ?_ (by rw [alEnc_len, hl, hn]), ⟨rfl, rfl, rfl, by simp [sortWorldK, putRowK], fun k hk hne => ?_⟩⟩
  · rw [← flat_toList, ← hF]
    apply List.ext_getElem?
    intro j
    by_cases hj : j < (flatK alE 2 l'.toArray).size
    · have hjc : j < cur.size := by omega
      rw [List.getElem?_take_of_lt hj, Array.getElem?_toList, Array.getElem?_toList]
      generalize flatK alE 2 l'.toArray = F at hj hF
      simp [putCells, hj, hjc]
    · rw [List.getElem?_take_eq_none (by omega), List.getElem?_eq_none (by rw [Array.length_toList]; omega)]
  · unfold sortWorldK
    rw [heap_grow_old _ _ (by simpa [putRowK] using hk)]
    have : g ≠ k := fun e => hne (by rw [← e]; rfl)
    simp [putRowK, putRow, mapBlock, Sort.ahead, Array.getElem?_modify, this]

theorem cmpLays_al (blk off size : Nat) (w : World) : CmpLays Try.prog 26 #[] alE 2 alCmp blk off size w :=
  fun _ _ _ _ x y => all1_calls x y _

theorem sortAl_holds : SortAl := by
  intro w S A n c l hn hr hsz
  cases A with
  | none =>
    obtain ⟨rfl, rfl, h3⟩ := hr.none_
    have hl : l = [] := List.eq_nil_of_length_eq_zero hn.symm
    subst hl
    have hcon := AnyF.slices_SortFunc_none sortAl none 0 (.func (.func 26) #[] #[]) w
    change Calls Try.prog 25 _ _ _ at hcon
    refine hcon.mono ?_
    rintro e w' ⟨rfl, rfl⟩
    exact ⟨rfl, [], List.Perm.refl _, List.Pairwise.nil, hr, Chg.refl _ _⟩
  | some a =>
    obtain ⟨g, cur, rfl, _⟩ := hr.block rfl
    have eg : ∀ args w, (callFunc 26 args).run Try.prog w = .ok (.enter 26 args) w := enters_of Try.func26 (by kernel_rfl) rfl
    by_cases h0 : n = 0
    · subst h0
      have hl : l = [] := List.eq_nil_of_length_eq_zero hn.symm
      subst hl
      have hcon := AnyF.slices_SortFunc_none sortAl (some ⟨g, 0, none⟩) c (.func (.func 26) #[] #[]) w
      change Calls Try.prog 25 _ _ _ at hcon
      refine hcon.mono ?_
      rintro e w' ⟨rfl, rfl⟩
      exact ⟨rfl, [], List.Perm.refl _, List.Pairwise.nil, hr, Chg.refl _ _⟩
    · have hcon := AnyQ.slices_SortFunc sortAl 2 Try.isAgg47 Try.sizeOf47 alE (fun _ => rfl) (fun x v hv => by simp [alE] at hv; rcases hv with rfl | rfl <;> rfl) alCmp swo_al 26 #[] g 0 c l.toArray w eg (cmpLays_al g 0 _ w) (holdsK_of_row hr hn) (hr.lt rfl) (by simp; omega)
      change Calls Try.prog 25 _ _ _ at hcon
      have he : l.toArray.size = n := by simp [hn]
      rw [he] at hcon
      refine hcon.mono ?_
      rintro e w' ⟨rfl, d', m, os, hp, hs, rfl⟩
      have hd : d'.toList.Perm l := by
        have := hp.2.2
        have e1 : d'.size = n := by rw [hp.1, he]
        rw [← e1, Array.extract_size] at this
        rw [show d'.size = l.toArray.size by rw [e1, he], Array.extract_size] at this
        simpa using this
      have hrow := row_sorted (m := m) (os := os) (l' := d'.toList) hr hn hd.length_eq
      simp only [Array.toArray_toList] at hrow
      refine ⟨rfl, d'.toList, hd, ?_, hrow.1, hrow.2⟩
      rw [List.pairwise_iff_getElem]
      intro i j hi hj hij
      have := hs i j (Nat.zero_le _) hij (by rw [← he, ← hp.1]; simpa using hj)
      rw [ltOf_al] at this
      simp only [Array.length_toList] at hi hj
      rw [getElem!_pos d' j hj, getElem!_pos d' i hi] at this
      simpa using this

end Go.Proofs.Ytdnmeffglpmlaaa
