/-
  slices.SortFunc at items, with the collection's own order: a permutation that rises.
-/
import Derived.Test.YtbeckfnhgeclnaaCards
import Derived.Test.YtbeckfnhgeclnaaLaySort
import Derived.Shelf.SlSortCmp.NoneTotal
import Derived.Laws.StructEq
set_option linter.unusedVariables false
set_option linter.unusedSimpArgs false
namespace Go.Proofs.Ytbeckfnhgeclnaa
open Go.RowKit Go.Shelf Go.Lib Go.Sort

instance : Inhabited It := ⟨⟨[], 0, false, []⟩⟩
def itLt (x y : It) : Bool := decide (x.ver < y.ver) || (decide (x.ver = y.ver) && decide (compareBytes x.uid y.uid < 0))
def itCmp (x y : It) : Int := if x.ver < y.ver then -1 else if y.ver < x.ver then 1 else compareBytes x.uid y.uid
theorem itLt_eq (x y : It) : itLt x y = true ↔ (x.ver < y.ver ∨ (x.ver = y.ver ∧ compareBytes x.uid y.uid < 0)) := by simp [itLt]
theorem ltOf_it (x y : It) : ltOf itCmp x y = itLt x y := by
  rw [Bool.eq_iff_iff, itLt_eq]
  simp only [ltOf, itCmp, decide_eq_true_iff]
  by_cases h1 : x.ver < y.ver
  · simp [h1]
  · by_cases h2 : y.ver < x.ver
    · simp [h1, h2]; omega
    · have : x.ver = y.ver := by omega
      simp [this]
theorem swo_it : SWO (ltOf itCmp) where
  irrefl x := by rw [ltOf_it]; simp [itLt, cmp_self]
  trans x y z h1 h2 := by
    rw [ltOf_it, itLt_eq] at *
    rcases h1 with h1 | ⟨h1, h3⟩ <;> rcases h2 with h2 | ⟨h2, h4⟩
    · left; omega
    · left; omega
    · left; omega
    · exact .inr ⟨by omega, cmp_trans h3 h4⟩
  ntrans x y z h1 h2 := by
    rw [ltOf_it] at *
    have e1 : ¬ itLt x y = true := by simp [h1]
    have e2 : ¬ itLt y z = true := by simp [h2]
    have : ¬ itLt x z = true := by
      rw [itLt_eq] at *
      rintro (h | ⟨h, h3⟩)
      · have : ¬ x.ver < y.ver := fun h => e1 (.inl h)
        have : ¬ y.ver < z.ver := fun h => e2 (.inl h)
        omega
      · have k1 : ¬ x.ver < y.ver := fun h => e1 (.inl h)
        have k2 : ¬ y.ver < z.ver := fun h => e2 (.inl h)
        have a1 : ¬ compareBytes x.uid y.uid < 0 := fun h5 => e1 (.inr ⟨by omega, h5⟩)
        have a2 : ¬ compareBytes y.uid z.uid < 0 := fun h5 => e2 (.inr ⟨by omega, h5⟩)
        by_cases hyx : x.uid = y.uid
        · rw [hyx] at h3; exact a2 h3
        · exact a2 (cmp_trans (cmp_not a1 hyx) h3)
    simpa using this

set_option maxHeartbeats 1000000 in
theorem order_calls (x y : It) (W : World) : Calls Try.prog 65 #[.agg (itEnc x).toArray, .agg (itEnc y).toArray] W fun e w' => e = .returned (.int .i64 (itCmp x y)) ∧ ∃ q os', w' = grow (W.drewN q) os' := by
  obtain ⟨xu, xv, xg, xc⟩ := x
  obtain ⟨yu, yv, yg, yc⟩ := y
  simp only [itEnc]
  have hs := hd (fun w => scmp_calls w xu yu)
  by_cases h1 : xv < yv
  · have hc : itCmp ⟨xu, xv, xg, xc⟩ ⟨yu, yv, yg, yc⟩ = -1 := by simp [itCmp, h1]
    rw [hc]
    clear hc
    go_enter Try.func65, Try.ntmps65
    go_wp2
    go_ret
    exact ⟨rfl, 0, _, by rw [alloc_eq_grow, alloc_eq_grow, grow_grow]; rfl⟩
  · by_cases h2 : yv < xv
    · have hc : itCmp ⟨xu, xv, xg, xc⟩ ⟨yu, yv, yg, yc⟩ = 1 := by simp [itCmp, h1, h2]
      rw [hc]
      clear hc
      go_enter Try.func65, Try.ntmps65
      go_wp2
      go_ret
      exact ⟨rfl, 0, _, by rw [alloc_eq_grow, alloc_eq_grow, grow_grow]; rfl⟩
    · have hc : itCmp ⟨xu, xv, xg, xc⟩ ⟨yu, yv, yg, yc⟩ = compareBytes xu yu := by simp [itCmp, h1, h2]
      rw [hc]
      clear hc
      go_enter Try.func65, Try.ntmps65
      go_wp2_with fail
      refine (hs.o _).mono ?_
      rintro e w1 ⟨rfl, rfl⟩
      go_wp2
      go_ret
      exact ⟨rfl, 0, _, by rw [alloc_eq_grow, alloc_eq_grow, grow_grow]; rfl⟩

theorem itsEnc_len (l : List It) : (itsEnc l).length = l.length * 4 := flat_length itEnc 4 itEnc_len l
theorem itsEnc_at4 (l : List It) (t : Nat) (ht : t < l.length * 4) : (itsEnc l)[t]? = some (itEnc (l[t / 4]?.getD default))[t % 4]! := by
  have hk : t / 4 < l.length := by omega
  have h := flat_at itEnc 4 itEnc_len l (t / 4) hk (t % 4) (Nat.mod_lt _ (by decide))
  have ht2 : t / 4 * 4 + t % 4 = t := by omega
  rw [ht2] at h
  show (l.flatMap itEnc)[t]? = _
  rw [h]
  have hx : l[t / 4]?.getD default = l[t / 4] := by simp [hk]
  rw [hx]
  have hl : t % 4 < (itEnc l[t / 4]).length := by rw [itEnc_len]; exact Nat.mod_lt _ (by decide)
  rw [getElem!_pos (itEnc (l[t / 4])) (t % 4) hl, List.getElem?_eq_getElem hl]

/-- SortFunc. -/
def SortIt : Prop := ∀ (w : World) (S : Nat → Prop) (A : Option Addr) (n c : Nat) (l : List It), n = l.length → Row w S 41 4 A n c (itsEnc l) → n ≤ 1000000 →
  Calls Try.prog 64 #[.slice A n c, .func (.func 65) #[] #[]] w fun e w' => e = .returned (.tuple #[]) ∧ ∃ l' : List It, l'.Perm l ∧ l'.Pairwise (fun x y => itLt y x = false) ∧ Row w' S 41 4 A n c (itsEnc l') ∧ Chg (Of A) w w'

theorem holdsK_of_row {w : World} {S : Nat → Prop} {g n c : Nat} {l : List It} (hr : Row w S 41 4 (some ⟨g, 0, none⟩) n c (itsEnc l)) (hn : n = l.length) : HoldsK itEnc 4 w g 0 l.toArray := by
  intro t ht
  rw [size_flatK] at ht
  simp only [List.size_toArray] at ht
  obtain ⟨g', hA, _, _, _, _, hc, hf⟩ := hr.at_ (by omega)
  injection hA with hA
  injection hA with hA
  subst hA
  refine ⟨?_, hf _⟩
  rw [Nat.zero_add]
  refine hc t _ ?_
  rw [get_flatK _ _ _ _ (by simpa using ht)]
  have hk : t / 4 < l.length := by omega
  have hx : (l.toArray)[t / 4]! = l[t / 4]?.getD default := by
    rw [getElem!_pos _ _ (by simpa using hk)]
    simp [hk]
  rw [hx]
  exact itsEnc_at4 l t (by omega)

theorem flat_toList (l : List It) : (flatK itEnc 4 l.toArray).toList = itsEnc l := by
  apply List.ext_getElem?
  intro t
  by_cases ht : t < l.length * 4
  · rw [itsEnc_at4 l t ht, Array.getElem?_toList, Array.getElem?_eq_getElem (by rw [size_flatK]; simpa using ht)]
    rw [← getElem!_pos _ t (by rw [size_flatK]; simpa using ht), get_flatK _ _ _ _ (by simpa using ht)]
    have hx : (l.toArray)[t / 4]! = l[t / 4]?.getD default := by
      rw [getElem!_pos _ _ (by simp; omega)]
      simp [show t / 4 < l.length by omega]
    rw [hx]
  · rw [List.getElem?_eq_none (by rw [Array.length_toList, size_flatK]; simp; omega), List.getElem?_eq_none (by rw [itsEnc_len]; omega)]

/-- Behind the sort the same slice owns the sorted row. -/
theorem row_sorted {w : World} {S : Nat → Prop} {g n c m : Nat} {l l' : List It} {os : Array Obj} (hr : Row w S 41 4 (some ⟨g, 0, none⟩) n c (itsEnc l)) (hn : n = l.length) (hl : l'.length = l.length) :
    Row (sortWorldK itEnc 4 w g 0 m l'.toArray os) S 41 4 (some ⟨g, 0, none⟩) n c (itsEnc l') ∧ Chg (Of (some ⟨g, 0, none⟩)) w (sortWorldK itEnc 4 w g 0 m l'.toArray os) := by
  obtain ⟨g', cur, e, hS, hb, hnc, hcm, hcs, ht⟩ := hr.block rfl
  injection e with e
  subst e
  have hg := hb.lt
  have hF : (flatK itEnc 4 l'.toArray).size = n * 4 := by rw [size_flatK]; simp [hl, hn]
  have hbl : Blk (sortWorldK itEnc 4 w g 0 m l'.toArray os) g 41 (putCells id 0 (flatK itEnc 4 l'.toArray) cur) := by
    unfold Blk sortWorldK
    rw [heap_grow_old _ _ (by simpa [putRowK] using hg)]
    unfold Blk at hb
    simp [putRowK, putRow, mapBlock, Sort.ahead, Array.getElem?_modify, hb, onCells]
  refine ⟨Row.of_block hbl hS hnc hcm (by simp [putCells, hcs]) ?_ (by rw [itsEnc_len, hl, hn]), ⟨rfl, rfl, rfl, by simp [sortWorldK, putRowK], fun k hk hne => ?_⟩⟩
  · rw [← flat_toList, ← hF]
    apply List.ext_getElem?
    intro j
    by_cases hj : j < (flatK itEnc 4 l'.toArray).size
    · have hjc : j < cur.size := by omega
      rw [List.getElem?_take_of_lt hj, Array.getElem?_toList, Array.getElem?_toList]
      generalize flatK itEnc 4 l'.toArray = F at hj hF
      simp [putCells, hj, hjc]
    · rw [List.getElem?_take_eq_none (by omega), List.getElem?_eq_none (by rw [Array.length_toList]; omega)]
  · unfold sortWorldK
    rw [heap_grow_old _ _ (by simpa [putRowK] using hk)]
    have : g ≠ k := fun e => hne (by rw [← e]; rfl)
    simp [putRowK, putRow, mapBlock, Sort.ahead, Array.getElem?_modify, this]

theorem cmpLays_it (blk off size : Nat) (w : World) : CmpLays Try.prog 65 #[] itEnc 4 itCmp blk off size w :=
  fun _ _ _ _ x y => order_calls x y _

theorem sortIt_holds : SortIt := by
  intro w S A n c l hn hr hsz
  cases A with
  | none =>
    obtain ⟨rfl, rfl, h3⟩ := hr.none_
    have hl : l = [] := List.eq_nil_of_length_eq_zero hn.symm
    subst hl
    have hcon := AnyF.slices_SortFunc_none sortIt none 0 (.func (.func 65) #[] #[]) w
    change Calls Try.prog 64 _ _ _ at hcon
    refine hcon.mono ?_
    rintro e w' ⟨rfl, rfl⟩
    exact ⟨rfl, [], List.Perm.refl _, List.Pairwise.nil, hr, Chg.refl _ _⟩
  | some a =>
    obtain ⟨g, cur, rfl, _⟩ := hr.block rfl
    have eg : ∀ args w, (callFunc 65 args).run Try.prog w = .ok (.enter 65 args) w := enters_of Try.func65 (by kernel_rfl) rfl
    by_cases h0 : n = 0
    · subst h0
      have hl : l = [] := List.eq_nil_of_length_eq_zero hn.symm
      subst hl
      have hcon := AnyF.slices_SortFunc_none sortIt (some ⟨g, 0, none⟩) c (.func (.func 65) #[] #[]) w
      change Calls Try.prog 64 _ _ _ at hcon
      refine hcon.mono ?_
      rintro e w' ⟨rfl, rfl⟩
      exact ⟨rfl, [], List.Perm.refl _, List.Pairwise.nil, hr, Chg.refl _ _⟩
    · have hcon := AnyQ.slices_SortFunc sortIt 4 Try.isAgg41 Try.sizeOf41 itEnc (fun _ => rfl) (fun x v hv => itEnc_one x v hv) itCmp swo_it 65 #[] g 0 c l.toArray w eg (cmpLays_it g 0 _ w) (holdsK_of_row hr hn) (hr.lt rfl) (by simp; omega)
      change Calls Try.prog 64 _ _ _ at hcon
      have he : l.toArray.size = n := by simp [hn]
      rw [he] at hcon
      refine hcon.mono ?_
      rintro e w' ⟨rfl, d', m, os, hp, hs, rfl⟩
      have hd : d'.toList.Perm l := by
        have := hp.2.2
        have e1 : d'.size = n := by rw [hp.1, he]
        rw [← e1, Array.extract_size] at this
        rw [show d'.size = l.toArray.size by rw [e1, he], Array.extract_size] at this
        simpa using this
      have hrow := row_sorted (m := m) (os := os) (l' := d'.toList) hr hn hd.length_eq
      simp only [Array.toArray_toList] at hrow
      refine ⟨rfl, d'.toList, hd, ?_, hrow.1, hrow.2⟩
      rw [List.pairwise_iff_getElem]
      intro i j hi hj hij
      have := hs i j (Nat.zero_le _) hij (by rw [← he, ← hp.1]; simpa using hj)
      rw [ltOf_it] at this
      simp only [Array.length_toList] at hi hj
      rw [getElem!_pos d' j hj, getElem!_pos d' i hi] at this
      simpa using this

end Go.Proofs.Ytbeckfnhgeclnaa
