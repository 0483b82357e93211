/-
  slices.SortFunc at fields, with the card's own order: a permutation that rises.
-/
import Derived.Test.YtpejlcaoggedfaaGreatDoorFldK
import Derived.Test.YtpejlcaoggedfaaGreatDoorLayFs
import Derived.Shelf.SlSortCmp.NoneTotal
import Derived.Laws.StructEq
set_option linter.unusedVariables false
set_option linter.unusedSimpArgs false
namespace Go.Proofs.YtpejlcaoggedfaaGreatDoor
open Go.RowKit Go.Shelf Go.Lib Go.Sort

instance : Inhabited Fld := ⟨noFld⟩
def fCmp (x y : Fld) : Int := if lessF x y = true then -1 else if lessF y x = true then 1 else 0
theorem lessF_eq (x y : Fld) : lessF x y = true ↔ LessP x y := by simp [lessF]
theorem ltOf_f (x y : Fld) : ltOf fCmp x y = lessF x y := by
  rw [Bool.eq_iff_iff]
  simp only [ltOf, fCmp, decide_eq_true_iff]
  by_cases h1 : lessF x y = true
  · simp [h1]
  · by_cases h2 : lessF y x = true <;> simp [h1, h2]
theorem swo_f : SWO (ltOf fCmp) where
  irrefl x := by rw [ltOf_f]; simp [lessF, less_irr]
  trans x y z h1 h2 := by
    rw [ltOf_f, lessF_eq] at *
    exact less_trans h1 h2
  ntrans x y z h1 h2 := by
    rw [ltOf_f] at *
    have e1 : ¬ LessP x y := by rw [← lessF_eq]; simp [h1]
    have e2 : ¬ LessP y z := by rw [← lessF_eq]; simp [h2]
    have : ¬ LessP x z := by
      intro h
      by_cases hxy : x = y
      · subst hxy; exact e2 h
      · have := less_not e1 hxy
        exact e2 (less_trans this h)
    simpa [lessF] using this

set_option maxHeartbeats 1000000 in
theorem less_grow (f g : Fld) (w : World) : Calls Tryz.prog 59 #[fldV f, fldV g] w fun e w' => e = .returned (.bool (lessF f g)) ∧ ∃ os', w' = grow w os' := by
  obtain ⟨v, hv⟩ : ∃ v, lessF f g = v := ⟨_, rfl⟩
  rw [hv]
  have HV : Hd (decide (LessP f g) = v) := hd hv
  have hs := bytesLess_dec f.v g.v
  clear hv
  obtain ⟨fk, fl, fv⟩ := f
  obtain ⟨gk, gl, gv⟩ := g
  change Calls _ _ #[.agg #[.int .i64 fk, .int .i64 fl, .string (bs fv)], .agg #[.int .i64 gk, .int .i64 gl, .string (bs gv)]] _ _
  by_cases h1 : fk = gk
  · by_cases h2 : fl = gl
    · subst h1 h2
      have HX := hd (show decide (compareBytes fv gv < 0) = v by
        rw [← HV.o]; congr 1; simp [LessP])
      go_enter Tryz.func59, Tryz.ntmps59
      go_wp2
      go_ret
      exact ⟨retBB (by rw [HX.o]), _, by rw [alloc_eq_grow, alloc_eq_grow, grow_grow]⟩
    · subst h1
      have n2 : (fl != gl) = true := by simpa using h2
      have HX := hd (show decide (fl < gl) = v by
        rw [← HV.o]; congr 1; simp [LessP, h2])
      clear h2
      go_enter Tryz.func59, Tryz.ntmps59
      go_wp2
      go_ret
      exact ⟨retBB (by rw [HX.o]), _, by rw [alloc_eq_grow, alloc_eq_grow, grow_grow]⟩
  · have n1 : (fk != gk) = true := by simpa using h1
    have HX := hd (show decide (fk < gk) = v by
      rw [← HV.o]; congr 1; simp [LessP, h1])
    clear h1
    go_enter Tryz.func59, Tryz.ntmps59
    go_wp2
    go_ret
    exact ⟨retBB (by rw [HX.o]), _, by rw [alloc_eq_grow, alloc_eq_grow, grow_grow]⟩

theorem retII {a b : Int} (h : a = b) : Ending.returned (.int .i64 a) = .returned (.int .i64 b) := by rw [h]
set_option maxHeartbeats 1000000 in
theorem order_calls (x y : Fld) (W : World) : Calls Tryz.prog 35 #[.agg (fEnc x).toArray, .agg (fEnc y).toArray] W fun e w' => e = .returned (.int .i64 (fCmp x y)) ∧ ∃ q os', w' = grow (W.drewN q) os' := by
  have L1 := less_grow x y
  have L2 := less_grow y x
  obtain ⟨v, hv⟩ : ∃ v, fCmp x y = v := ⟨_, rfl⟩
  rw [hv]
  have HV := hd hv
  clear hv
  unfold fCmp at HV
  obtain ⟨xk, xl, xv⟩ := x
  obtain ⟨yk, yl, yv⟩ := y
  simp only [fldV] at L1 L2
  simp only [fEnc]
  generalize bs xv = XV at L1 L2 ⊢
  generalize bs yv = YV at L1 L2 ⊢
  have hC : ∀ os, two_c (grow ((W.alloc (.cells #[.int .i64 xk, .int .i64 xl, .string XV] 36)).alloc (.cells #[.int .i64 yk, .int .i64 yl, .string YV] 36)) os) W 36 #[.int .i64 xk, .int .i64 xl, .string XV] #[.int .i64 yk, .int .i64 yl, .string YV] := fun os => two_c_of _ _ _ _ _
  cases h1 : lessF ⟨xk, xl, xv⟩ ⟨yk, yl, yv⟩ with
  | true =>
    rw [h1] at L1 HV
    have H1 := hd L1
    clear L1 L2 h1
    go_enter Tryz.func35, Tryz.ntmps35
    go_wp2_with fail
    refine (H1.o _).mono ?_
    rintro e w1 ⟨rfl, os, rfl⟩
    go_wp2
    go_ret
    exact ⟨retII (by rw [← HV.o]; rfl), 0, _, by rw [alloc_eq_grow, alloc_eq_grow, grow_grow, grow_grow]; rfl⟩
  | false =>
    rw [h1] at L1 HV
    cases h2 : lessF ⟨yk, yl, yv⟩ ⟨xk, xl, xv⟩ with
    | true =>
      rw [h2] at L2 HV
      have H1 := hd L1
      have H2 := hd L2
      clear L1 L2 h1 h2
      go_enter Tryz.func35, Tryz.ntmps35
      go_wp2_with fail
      refine (H1.o _).mono ?_
      rintro e w1 ⟨rfl, os, rfl⟩
      obtain ⟨k1, k2⟩ := hC os
      have a0 := k1.at_ 0 rfl
      have a1 := k1.at_ 1 rfl
      have a2 := k1.at_ 2 rfl
      have b0 := k2.at_ 0 rfl
      have b1 := k2.at_ 1 rfl
      have b2 := k2.at_ 2 rfl
      clear k1 k2
      go_wp2_with fail
      clear a0 a1 a2 b0 b1 b2
      refine (H2.o _).mono ?_
      rintro e w1 ⟨rfl, os2, rfl⟩
      go_wp2
      go_ret
      exact ⟨retII (by rw [← HV.o]; rfl), 0, _, by rw [alloc_eq_grow, alloc_eq_grow, grow_grow, grow_grow, grow_grow]; rfl⟩
    | false =>
      rw [h2] at L2 HV
      have H1 := hd L1
      have H2 := hd L2
      clear L1 L2 h1 h2
      go_enter Tryz.func35, Tryz.ntmps35
      go_wp2_with fail
      refine (H1.o _).mono ?_
      rintro e w1 ⟨rfl, os, rfl⟩
      obtain ⟨k1, k2⟩ := hC os
      have a0 := k1.at_ 0 rfl
      have a1 := k1.at_ 1 rfl
      have a2 := k1.at_ 2 rfl
      have b0 := k2.at_ 0 rfl
      have b1 := k2.at_ 1 rfl
      have b2 := k2.at_ 2 rfl
      clear k1 k2
      go_wp2_with fail
      clear a0 a1 a2 b0 b1 b2
      refine (H2.o _).mono ?_
      rintro e w1 ⟨rfl, os2, rfl⟩
      go_wp2
      go_ret
      exact ⟨retII (by rw [← HV.o]; rfl), 0, _, by rw [alloc_eq_grow, alloc_eq_grow, grow_grow, grow_grow, grow_grow]; rfl⟩

theorem fsE_len (l : List Fld) : (fsE l).length = l.length * 3 := flat_length fEnc 3 fEnc_len l
theorem fsE_at3 (l : List Fld) (t : Nat) (ht : t < l.length * 3) : (fsE l)[t]? = some (fEnc (l[t / 3]?.getD default))[t % 3]! := by
  have hk : t / 3 < l.length := by omega
  have h := flat_at fEnc 3 fEnc_len l (t / 3) hk (t % 3) (Nat.mod_lt _ (by decide))
  have ht2 : t / 3 * 3 + t % 3 = t := by omega
  rw [ht2] at h
  show (l.flatMap fEnc)[t]? = _
  rw [h]
  have hx : l[t / 3]?.getD default = l[t / 3] := by simp [hk]
  rw [hx]
  have hl : t % 3 < (fEnc l[t / 3]).length := by rw [fEnc_len]; exact Nat.mod_lt _ (by decide)
  rw [getElem!_pos (fEnc (l[t / 3])) (t % 3) hl, List.getElem?_eq_getElem hl]

/-- SortFunc. -/
def SortFs : Prop := ∀ (w : World) (S : Nat → Prop) (A : Option Addr) (n c : Nat) (l : List Fld), n = l.length → Row w S 36 3 A n c (fsE l) → n ≤ 1000000 →
  Calls Tryz.prog 34 #[.slice A n c, .func (.func 35) #[] #[]] w fun e w' => e = .returned (.tuple #[]) ∧ ∃ l' : List Fld, l'.Perm l ∧ l'.Pairwise (fun x y => lessF y x = false) ∧ Row w' S 36 3 A n c (fsE l') ∧ Chg (Of A) w w'

theorem holdsK_of_row {w : World} {S : Nat → Prop} {g n c : Nat} {l : List Fld} (hr : Row w S 36 3 (some ⟨g, 0, none⟩) n c (fsE l)) (hn : n = l.length) : HoldsK fEnc 3 w g 0 l.toArray := by
  intro t ht
  rw [size_flatK] at ht
  simp only [List.size_toArray] at ht
  obtain ⟨g', hA, _, _, _, _, hc, hf⟩ := hr.at_ (by omega)
  injection hA with hA
  injection hA with hA
  subst hA
  refine ⟨?_, hf _⟩
  rw [Nat.zero_add]
  refine hc t _ ?_
  rw [get_flatK _ _ _ _ (by simpa using ht)]
  have hk : t / 3 < l.length := by omega
  have hx : (l.toArray)[t / 3]! = l[t / 3]?.getD default := by
    rw [getElem!_pos _ _ (by simpa using hk)]
    simp [hk]
  rw [hx]
  exact fsE_at3 l t (by omega)

theorem flat_toList (l : List Fld) : (flatK fEnc 3 l.toArray).toList = fsE l := by
  apply List.ext_getElem?
  intro t
  by_cases ht : t < l.length * 3
  · rw [fsE_at3 l t ht, Array.getElem?_toList, Array.getElem?_eq_getElem (by rw [size_flatK]; simpa using ht)]
    rw [← getElem!_pos _ t (by rw [size_flatK]; simpa using ht), get_flatK _ _ _ _ (by simpa using ht)]
    have hx : (l.toArray)[t / 3]! = l[t / 3]?.getD default := by
      rw [getElem!_pos _ _ (by simp; omega)]
      simp [show t / 3 < l.length by omega]
    rw [hx]
  · rw [List.getElem?_eq_none (by rw [Array.length_toList, size_flatK]; simp; omega), List.getElem?_eq_none (by rw [fsE_len]; omega)]

/-- Behind the sort the same slice owns the sorted row. -/
theorem row_sorted {w : World} {S : Nat → Prop} {g n c m : Nat} {l l' : List Fld} {os : Array Obj} (hr : Row w S 36 3 (some ⟨g, 0, none⟩) n c (fsE l)) (hn : n = l.length) (hl : l'.length = l.length) :
    Row (sortWorldK fEnc 3 w g 0 m l'.toArray os) S 36 3 (some ⟨g, 0, none⟩) n c (fsE l') ∧ Chg (Of (some ⟨g, 0, none⟩)) w (sortWorldK fEnc 3 w g 0 m l'.toArray os) := by
  obtain ⟨g', cur, e, hS, hb, hnc, hcm, hcs, ht⟩ := hr.block rfl
  injection e with e
  subst e
  have hg := hb.lt
  have hF : (flatK fEnc 3 l'.toArray).size = n * 3 := by rw [size_flatK]; simp [hl, hn]
  have hbl : Blk (sortWorldK fEnc 3 w g 0 m l'.toArray os) g 36 (putCells id 0 (flatK fEnc 3 l'.toArray) cur) := by
    unfold Blk sortWorldK
    rw [heap_grow_old _ _ (by simpa [putRowK] using hg)]
    unfold Blk at hb
    simp [putRowK, putRow, mapBlock, Sort.ahead, Array.getElem?_modify, hb, onCells]
  refine ⟨Row.of_block hbl hS hnc hcm (by simp [putCells, hcs]) ?_ (by rw [fsE_len, hl, hn]), ⟨rfl, rfl, rfl, by simp [sortWorldK, putRowK], fun k hk hne => ?_⟩⟩
  · rw [← flat_toList, ← hF]
    apply List.ext_getElem?
    intro j
    by_cases hj : j < (flatK fEnc 3 l'.toArray).size
    · have hjc : j < cur.size := by omega
      rw [List.getElem?_take_of_lt hj, Array.getElem?_toList, Array.getElem?_toList]
      generalize flatK fEnc 3 l'.toArray = F at hj hF
      simp [putCells, hj, hjc]
    · rw [List.getElem?_take_eq_none (by omega), List.getElem?_eq_none (by rw [Array.length_toList]; omega)]
  · unfold sortWorldK
    rw [heap_grow_old _ _ (by simpa [putRowK] using hk)]
    have : g ≠ k := fun e => hne (by rw [← e]; rfl)
    simp [putRowK, putRow, mapBlock, Sort.ahead, Array.getElem?_modify, this]

theorem cmpLays_f (blk off size : Nat) (w : World) : CmpLays Tryz.prog 35 #[] fEnc 3 fCmp blk off size w :=
  fun _ _ _ _ x y => order_calls x y _

theorem sortFs_holds : SortFs := by
  intro w S A n c l hn hr hsz
  cases A with
  | none =>
    obtain ⟨rfl, rfl, h3⟩ := hr.none_
    have hl : l = [] := List.eq_nil_of_length_eq_zero hn.symm
    subst hl
    have hcon := AnyF.slices_SortFunc_none sortFs none 0 (.func (.func 35) #[] #[]) w
    change Calls Tryz.prog 34 _ _ _ at hcon
    refine hcon.mono ?_
    rintro e w' ⟨rfl, rfl⟩
    exact ⟨rfl, [], List.Perm.refl _, List.Pairwise.nil, hr, Chg.refl _ _⟩
  | some a =>
    obtain ⟨g, cur, rfl, _⟩ := hr.block rfl
    have eg : ∀ args w, (callFunc 35 args).run Tryz.prog w = .ok (.enter 35 args) w := enters_of Tryz.func35 (by kernel_rfl) rfl
    by_cases h0 : n = 0
    · subst h0
      have hl : l = [] := List.eq_nil_of_length_eq_zero hn.symm
      subst hl
      have hcon := AnyF.slices_SortFunc_none sortFs (some ⟨g, 0, none⟩) c (.func (.func 35) #[] #[]) w
      change Calls Tryz.prog 34 _ _ _ at hcon
      refine hcon.mono ?_
      rintro e w' ⟨rfl, rfl⟩
      exact ⟨rfl, [], List.Perm.refl _, List.Pairwise.nil, hr, Chg.refl _ _⟩
    · have hcon := AnyQ.slices_SortFunc sortFs 3 Tryz.isAgg36 Tryz.sizeOf36 fEnc (fun _ => rfl) (fun x v hv => fEnc_one x v hv) fCmp swo_f 35 #[] g 0 c l.toArray w eg (cmpLays_f g 0 _ w) (holdsK_of_row hr hn) (hr.lt rfl) (by simp; omega)
      change Calls Tryz.prog 34 _ _ _ at hcon
      have he : l.toArray.size = n := by simp [hn]
      rw [he] at hcon
      refine hcon.mono ?_
      rintro e w' ⟨rfl, d', m, os, hp, hs, rfl⟩
      have hd : d'.toList.Perm l := by
        have := hp.2.2
        have e1 : d'.size = n := by rw [hp.1, he]
        rw [← e1, Array.extract_size] at this
        rw [show d'.size = l.toArray.size by rw [e1, he], Array.extract_size] at this
        simpa using this
      have hrow := row_sorted (m := m) (os := os) (l' := d'.toList) hr hn hd.length_eq
      simp only [Array.toArray_toList] at hrow
      refine ⟨rfl, d'.toList, hd, ?_, hrow.1, hrow.2⟩
      rw [List.pairwise_iff_getElem]
      intro i j hi hj hij
      have := hs i j (Nat.zero_le _) hij (by rw [← he, ← hp.1]; simpa using hj)
      rw [ltOf_f] at this
      simp only [Array.length_toList] at hi hj
      rw [getElem!_pos d' j hj, getElem!_pos d' i hi] at this
      simpa using this

end Go.Proofs.YtpejlcaoggedfaaGreatDoor
