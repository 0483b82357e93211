/-
  slices.SortFunc at fields, with the card's own order: a permutation that rises.
-/
import Derived.Test.YtogjokofmfpmgaaGreatDoorGAL
import Derived.Shelf.SlSortCmp.NoneTotal
import Derived.Laws.StructEq
import Derived.Test.YtogjokofmfpmgaaGreatDoorGAJ
import Derived.Shelf.Strings.Builder1
import Derived.Shelf.LaysM
import Derived.Test.YtogjokofmfpmgaaGreatDoorProg
set_option linter.unusedVariables false
set_option linter.unusedSimpArgs false
namespace Go.Proofs.YtogjokofmfpmgaaGreatDoor
open Go.RowKit Go.Shelf Go.Lib Go.Sort

instance : Inhabited Fld := ⟨noFld⟩
def fCmp (x y : Fld) : Int := if lessF x y = true then -1 else if lessF y x = true then 1 else 0
theorem lessF_eq (x y : Fld) : lessF x y = true ↔ LessP x y := by simp [lessF]
theorem ltOf_f (x y : Fld) : ltOf fCmp x y = lessF x y := by
  rw [Bool.eq_iff_iff]
  simp only [ltOf, fCmp, decide_eq_true_iff]
  by_cases h1 : lessF x y = true
  · simp [h1]
  · by_cases h2 : lessF y x = true <;> simp [h1, h2]
theorem swo_f : SWO (ltOf fCmp) where
  irrefl x := by rw [ltOf_f]; simp [lessF, less_irr]
  trans x y z h1 h2 := by
    rw [ltOf_f, lessF_eq] at *
    exact less_trans h1 h2
  ntrans x y z h1 h2 := by
    rw [ltOf_f] at *
    have e1 : ¬ LessP x y := by rw [← lessF_eq]; simp [h1]
    have e2 : ¬ LessP y z := by rw [← lessF_eq]; simp [h2]
    have : ¬ LessP x z := by
      intro h
      by_cases hxy : x = y
      · subst hxy; exact e2 h
      · have := less_not e1 hxy
        exact e2 (less_trans this h)
    simpa [lessF] using this

set_option maxHeartbeats 1000000 in
theorem less_grow (f g : Fld) (w : World) : Calls Tryz.prog 146 #[fldV f, fldV g] w fun e w' => e = .returned (.bool (lessF f g)) ∧ ∃ os', w' = grow w os' := by
  obtain ⟨v, hv⟩ : ∃ v, lessF f g = v := ⟨_, rfl⟩
  rw [hv]
  have HV : Hd (decide (LessP f g) = v) := hd hv
  have hs := bytesLess_dec f.v g.v
  clear hv
  obtain ⟨fk, fl, fv⟩ := f
  obtain ⟨gk, gl, gv⟩ := g
  change Calls _ _ #[.agg #[.int .i64 fk, .int .i64 fl, .string (bs fv)], .agg #[.int .i64 gk, .int .i64 gl, .string (bs gv)]] _ _
  by_cases h1 : fk = gk
  · by_cases h2 : fl = gl
    · subst h1 h2
      have HX := hd (show decide (compareBytes fv gv < 0) = v by
        rw [← HV.o]; congr 1; simp [LessP])
      go_enter Tryz.func146, Tryz.ntmps146
      go_wp2
      go_ret
      exact ⟨retBB (by rw [HX.o]), _, by rw [alloc_eq_grow, alloc_eq_grow, grow_grow]⟩
    · subst h1
      have n2 : (fl != gl) = true := by simpa using h2
      have HX := hd (show decide (fl < gl) = v by
        rw [← HV.o]; congr 1; simp [LessP, h2])
      clear h2
      go_enter Tryz.func146, Tryz.ntmps146
      go_wp2
      go_ret
      exact ⟨retBB (by rw [HX.o]), _, by rw [alloc_eq_grow, alloc_eq_grow, grow_grow]⟩
  · have n1 : (fk != gk) = true := by simpa using h1
    have HX := hd (show decide (fk < gk) = v by
      rw [← HV.o]; congr 1; simp [LessP, h1])
    clear h1
    go_enter Tryz.func146, Tryz.ntmps146
    go_wp2
    go_ret
    exact ⟨retBB (by rw [HX.o]), _, by rw [alloc_eq_grow, alloc_eq_grow, grow_grow]⟩

theorem retII {a b : Int} (h : a = b) : Ending.returned (.int .i64 a) = .returned (.int .i64 b) := by rw [h]
set_option maxHeartbeats 1000000 in
theorem order_calls (x y : Fld) (W : World) : Calls Tryz.prog 125 #[.agg (fEnc x).toArray, .agg (fEnc y).toArray] W fun e w' => e = .returned (.int .i64 (fCmp x y)) ∧ ∃ q os', w' = grow (W.drewN q) os' := by
  have L1 := less_grow x y
  have L2 := less_grow y x
  obtain ⟨v, hv⟩ : ∃ v, fCmp x y = v := ⟨_, rfl⟩
  rw [hv]
  have HV := hd hv
  clear hv
  unfold fCmp at HV
  obtain ⟨xk, xl, xv⟩ := x
  obtain ⟨yk, yl, yv⟩ := y
  simp only [fldV] at L1 L2
  simp only [fEnc]
  generalize bs xv = XV at L1 L2 ⊢
  generalize bs yv = YV at L1 L2 ⊢
  have hC : ∀ os, two_c (grow ((W.alloc (.cells #[.int .i64 xk, .int .i64 xl, .string XV] 128)).alloc (.cells #[.int .i64 yk, .int .i64 yl, .string YV] 128)) os) W 128 #[.int .i64 xk, .int .i64 xl, .string XV] #[.int .i64 yk, .int .i64 yl, .string YV] := fun os => two_c_of _ _ _ _ _
  cases h1 : lessF ⟨xk, xl, xv⟩ ⟨yk, yl, yv⟩ with
  | true =>
    rw [h1] at L1 HV
    have H1 := hd L1
    clear L1 L2 h1
    go_enter Tryz.func125, Tryz.ntmps125
    go_wp2_with fail
    refine (H1.o _).mono ?_
    rintro e w1 ⟨rfl, os, rfl⟩
    go_wp2
    go_ret
    exact ⟨retII (by rw [← HV.o]; rfl), 0, _, by rw [alloc_eq_grow, alloc_eq_grow, grow_grow, grow_grow]; rfl⟩
  | false =>
    rw [h1] at L1 HV
    cases h2 : lessF ⟨yk, yl, yv⟩ ⟨xk, xl, xv⟩ with
    | true =>
      rw [h2] at L2 HV
      have H1 := hd L1
      have H2 := hd L2
      clear L1 L2 h1 h2
      go_enter Tryz.func125, Tryz.ntmps125
      go_wp2_with fail
      refine (H1.o _).mono ?_
      rintro e w1 ⟨rfl, os, rfl⟩
      obtain ⟨k1, k2⟩ := hC os
      have a0 := k1.at_ 0 rfl
      have a1 := k1.at_ 1 rfl
      have a2 := k1.at_ 2 rfl
      have b0 := k2.at_ 0 rfl
      have b1 := k2.at_ 1 rfl
      have b2 := k2.at_ 2 rfl
      clear k1 k2
      go_wp2_with fail
      clear a0 a1 a2 b0 b1 b2
      refine (H2.o _).mono ?_
      rintro e w1 ⟨rfl, os2, rfl⟩
      go_wp2
      go_ret
      exact ⟨retII (by rw [← HV.o]; rfl), 0, _, by rw [alloc_eq_grow, alloc_eq_grow, grow_grow, grow_grow, grow_grow]; rfl⟩
    | false =>
      rw [h2] at L2 HV
      have H1 := hd L1
      have H2 := hd L2
      clear L1 L2 h1 h2
      go_enter Tryz.func125, Tryz.ntmps125
      go_wp2_with fail
      refine (H1.o _).mono ?_
      rintro e w1 ⟨rfl, os, rfl⟩
      obtain ⟨k1, k2⟩ := hC os
      have a0 := k1.at_ 0 rfl
      have a1 := k1.at_ 1 rfl
      have a2 := k1.at_ 2 rfl
      have b0 := k2.at_ 0 rfl
      have b1 := k2.at_ 1 rfl
      have b2 := k2.at_ 2 rfl
      clear k1 k2
      go_wp2_with fail
      clear a0 a1 a2 b0 b1 b2
      refine (H2.o _).mono ?_
      rintro e w1 ⟨rfl, os2, rfl⟩
      go_wp2
      go_ret
      exact ⟨retII (by rw [← HV.o]; rfl), 0, _, by rw [alloc_eq_grow, alloc_eq_grow, grow_grow, grow_grow, grow_grow]; rfl⟩

theorem fsE_len (l : List Fld) : (fsE l).length = l.length * 3 := flat_length fEnc 3 fEnc_len l
theorem fsE_at3 (l : List Fld) (t : Nat) (ht : t < l.length * 3) : (fsE l)[t]? = some (fEnc (l[t / 3]?.getD default))[t % 3]! := by
  have hk : t / 3 < l.length := by omega
  have h := flat_at fEnc 3 fEnc_len l (t / 3) hk (t % 3) (Nat.mod_lt _ (by decide))
  have ht2 : t / 3 * 3 + t % 3 = t := by omega
  rw [ht2] at h
  show (l.flatMap fEnc)[t]? = _
  rw [h]
  have hx : l[t / 3]?.getD default = l[t / 3] := by simp [hk]
  rw [hx]
  have hl : t % 3 < (fEnc l[t / 3]).length := by rw [fEnc_len]; exact Nat.mod_lt _ (by decide)
  rw [getElem!_pos (fEnc (l[t / 3])) (t % 3) hl, List.getElem?_eq_getElem hl]

/-- SortFunc. -/
def SortFs : Prop := ∀ (w : World) (S : Nat → Prop) (A : Option Addr) (n c : Nat) (l : List Fld), n = l.length → Row w S 128 3 A n c (fsE l) → n ≤ 1000000 →
  Calls Tryz.prog 124 #[.slice A n c, .func (.func 125) #[] #[]] w fun e w' => e = .returned (.tuple #[]) ∧ ∃ l' : List Fld, l'.Perm l ∧ l'.Pairwise (fun x y => lessF y x = false) ∧ Row w' S 128 3 A n c (fsE l') ∧ Chg (Of A) w w'

theorem holdsK_of_row {w : World} {S : Nat → Prop} {g n c : Nat} {l : List Fld} (hr : Row w S 128 3 (some ⟨g, 0, none⟩) n c (fsE l)) (hn : n = l.length) : HoldsK fEnc 3 w g 0 l.toArray := by
  intro t ht
  rw [size_flatK] at ht
  simp only [List.size_toArray] at ht
  obtain ⟨g', hA, _, _, _, _, hc, hf⟩ := hr.at_ (by omega)
  injection hA with hA
  injection hA with hA
  subst hA
  refine ⟨?_, hf _⟩
  rw [Nat.zero_add]
  refine hc t _ ?_
  rw [get_flatK _ _ _ _ (by simpa using ht)]
  have hk : t / 3 < l.length := by omega
  have hx : (l.toArray)[t / 3]! = l[t / 3]?.getD default := by
    rw [getElem!_pos _ _ (by simpa using hk)]
    simp [hk]
  rw [hx]
  exact fsE_at3 l t (by omega)

theorem flat_toList (l : List Fld) : (flatK fEnc 3 l.toArray).toList = fsE l := by
  apply List.ext_getElem?
  intro t
  by_cases ht : t < l.length * 3
  · rw [fsE_at3 l t ht, Array.getElem?_toList, Array.getElem?_eq_getElem (by rw [size_flatK]; simpa using ht)]
    rw [← getElem!_pos _ t (by rw [size_flatK]; simpa using ht), get_flatK _ _ _ _ (by simpa using ht)]
    have hx : (l.toArray)[t / 3]! = l[t / 3]?.getD default := by
      rw [getElem!_pos _ _ (by simp; omega)]
      simp [show t / 3 < l.length by omega]
    rw [hx]
  · rw [List.getElem?_eq_none (by rw [Array.length_toList, size_flatK]; simp; omega), List.getElem?_eq_none (by rw [fsE_len]; omega)]

/-- Behind the sort the same slice owns the sorted row. -/
theorem row_sorted {w : World} {S : Nat → Prop} {g n c m : Nat} {l l' : List Fld} {os : Array Obj} (hr : Row w S 128 3 (some ⟨g, 0, none⟩) n c (fsE l)) (hn : n = l.length) (hl : l'.length = l.length) :
    Row (sortWorldK fEnc 3 w g 0 m l'.toArray os) S 128 3 (some ⟨g, 0, none⟩) n c (fsE l') ∧ Chg (Of (some ⟨g, 0, none⟩)) w (sortWorldK fEnc 3 w g 0 m l'.toArray os) := by
  obtain ⟨g', cur, e, hS, hb, hnc, hcm, hcs, ht⟩ := hr.block rfl
  injection e with e
  subst e
  have hg := hb.lt
  have hF : (flatK fEnc 3 l'.toArray).size = n * 3 := by rw [size_flatK]; simp [hl, hn]
  have hbl : Blk (sortWorldK fEnc 3 w g 0 m l'.toArray os) g 128 (putCells id 0 (flatK fEnc 3 l'.toArray) cur) := by
    unfold Blk sortWorldK
    rw [heap_grow_old _ _ (by simpa [putRowK] using hg)]
    unfold Blk at hb
    simp [putRowK, putRow, mapBlock, Sort.ahead, Array.getElem?_modify, hb, onCells]
  refine ⟨Row.of_block hbl hS hnc hcm (by simp [putCells, hcs]) ?_ (by rw [fsE_len, hl, hn]), ⟨rfl, rfl, rfl, by simp [sortWorldK, putRowK], fun k hk hne => ?_⟩⟩
  · rw [← flat_toList, ← hF]
    apply List.ext_getElem?
    intro j
    by_cases hj : j < (flatK fEnc 3 l'.toArray).size
    · have hjc : j < cur.size := by omega
      rw [List.getElem?_take_of_lt hj, Array.getElem?_toList, Array.getElem?_toList]
      generalize flatK fEnc 3 l'.toArray = F at hj hF
      simp [putCells, hj, hjc]
    · rw [List.getElem?_take_eq_none (by omega), List.getElem?_eq_none (by rw [Array.length_toList]; omega)]
  · unfold sortWorldK
    rw [heap_grow_old _ _ (by simpa [putRowK] using hk)]
    have : g ≠ k := fun e => hne (by rw [← e]; rfl)
    simp [putRowK, putRow, mapBlock, Sort.ahead, Array.getElem?_modify, this]

theorem cmpLays_f (blk off size : Nat) (w : World) : CmpLays Tryz.prog 125 #[] fEnc 3 fCmp blk off size w :=
  fun _ _ _ _ x y => order_calls x y _

theorem sortFs_holds : SortFs := by
  intro w S A n c l hn hr hsz
  cases A with
  | none =>
    obtain ⟨rfl, rfl, h3⟩ := hr.none_
    have hl : l = [] := List.eq_nil_of_length_eq_zero hn.symm
    subst hl
    have hcon := AnyF.slices_SortFunc_none sortFs none 0 (.func (.func 125) #[] #[]) w
    change Calls Tryz.prog 124 _ _ _ at hcon
    refine hcon.mono ?_
    rintro e w' ⟨rfl, rfl⟩
    exact ⟨rfl, [], List.Perm.refl _, List.Pairwise.nil, hr, Chg.refl _ _⟩
  | some a =>
    obtain ⟨g, cur, rfl, _⟩ := hr.block rfl
    have eg : ∀ args w, (callFunc 125 args).run Tryz.prog w = .ok (.enter 125 args) w := enters_of Tryz.func125 (by kernel_rfl) rfl
    by_cases h0 : n = 0
    · subst h0
      have hl : l = [] := List.eq_nil_of_length_eq_zero hn.symm
      subst hl
      have hcon := AnyF.slices_SortFunc_none sortFs (some ⟨g, 0, none⟩) c (.func (.func 125) #[] #[]) w
      change Calls Tryz.prog 124 _ _ _ at hcon
      refine hcon.mono ?_
      rintro e w' ⟨rfl, rfl⟩
      exact ⟨rfl, [], List.Perm.refl _, List.Pairwise.nil, hr, Chg.refl _ _⟩
    · have hcon := AnyQ.slices_SortFunc sortFs 3 Tryz.isAgg128 Tryz.sizeOf128 fEnc (fun _ => rfl) (fun x v hv => fEnc_one x v hv) fCmp swo_f 125 #[] g 0 c l.toArray w eg (cmpLays_f g 0 _ w) (holdsK_of_row hr hn) (hr.lt rfl) (by simp; omega)
      change Calls Tryz.prog 124 _ _ _ at hcon
      have he : l.toArray.size = n := by simp [hn]
      rw [he] at hcon
      refine hcon.mono ?_
      rintro e w' ⟨rfl, d', m, os, hp, hs, rfl⟩
      have hd : d'.toList.Perm l := by
        have := hp.2.2
        have e1 : d'.size = n := by rw [hp.1, he]
        rw [← e1, Array.extract_size] at this
        rw [show d'.size = l.toArray.size by rw [e1, he], Array.extract_size] at this
        simpa using this
      have hrow := row_sorted (m := m) (os := os) (l' := d'.toList) hr hn hd.length_eq
      simp only [Array.toArray_toList] at hrow
      refine ⟨rfl, d'.toList, hd, ?_, hrow.1, hrow.2⟩
      rw [List.pairwise_iff_getElem]
      intro i j hi hj hij
      have := hs i j (Nat.zero_le _) hij (by rw [← he, ← hp.1]; simpa using hj)
      rw [ltOf_f] at this
      simp only [Array.length_toList] at hi hj
      rw [getElem!_pos d' j hj, getElem!_pos d' i hi] at this
      simpa using this

end Go.Proofs.YtogjokofmfpmgaaGreatDoor
namespace Go.Proofs.YtogjokofmfpmgaaGreatDoor
open Go.RowKit

theorem row_setk3 {w : World} {S : Nat → Prop} {e size n c g : Nat} {xs : List Value} (h : Row w S e size (some ⟨g, 0, none⟩) n c xs) (j : Nat) (u : Value) : Row (w.setCell ⟨g, j, none⟩ u) S e size (some ⟨g, 0, none⟩) n c (xs.set j u) := by
  obtain ⟨g', cur, e1, hS, hB, hnc, hcm, hcs, ht⟩ := h.block rfl
  injection e1 with e1
  subst e1
  refine Row.of_block (hB.set_ j u) hS hnc hcm (by simp [hcs]) ?_ (by simpa using h.len)
  rw [← ht]
  simp [List.take_set]
theorem fsE_set (f : Fld) : ∀ (l : List Fld) (q : Nat), q < l.length → fsE (l.set q f) = (((fsE l).set (q * 3) (.int .i64 f.k)).set (q * 3 + 1) (.int .i64 f.l)).set (q * 3 + 2) (.string (bs f.v))
  | [], q, h => by simp at h
  | a :: t, 0, _ => by simp [fsE, fEnc]
  | a :: t, q + 1, h => by
    have ih := fsE_set f t q (by simpa using h)
    have e : (q + 1) * 3 = q * 3 + 3 := by omega
    rw [List.set_cons_succ, e]
    unfold fsE at *
    rw [List.flatMap_cons, List.flatMap_cons, ih]
    simp [fEnc]
theorem zeroCells_any (zs : List Value) (n : Nat) : ∀ v ∈ (Builtin.zeroCells zs.toArray n).toList, 0 < zs.length → v ∈ zs := by
  intro v hv h0
  simp only [Builtin.zeroCells, Array.toList_map, List.mem_map] at hv
  obtain ⟨i, _, rfl⟩ := hv
  have : i % zs.length < zs.length := Nat.mod_lt _ h0
  simp [this]
theorem run_clear_many {P : Program} (w : World) (t e : TypeId) (z : Value) (zs : List Value) (ht : P.underlying t = some (.slice e)) (hv : ∀ w, (zeroValue e).run P w = .ok z w) (hz : z.cells = zs.toArray) (h0 : 0 < zs.length) (h1 : ∀ v ∈ zs, v.oneCell' = true)
    (g o m c : Nat) (hm : 0 < m) (cur : Array Value) (hb : Blk w g e cur) (hl : o + m * zs.length ≤ cur.size) :
    ∃ ns : List Value, ns.length = m * zs.length ∧ ∀ ty, (Builtin.clear_ #[t] ty #[.slice (some ⟨g, o, none⟩) m c]).run P w = .ok (.tuple #[]) (w.setRow g (cur.toList.take o ++ ns ++ cur.toList.drop (o + ns.length)).toArray) := by
  have hln : (Builtin.zeroCells zs.toArray m).toList.length = m * zs.length := by simp [Builtin.zeroCells]
  refine ⟨(Builtin.zeroCells zs.toArray m).toList, hln, fun ty => ?_⟩
  have hst := run_storeCells_at P g o e (Builtin.zeroCells zs.toArray m).toList 0 cur w hb (by rw [hln]; simpa using hl) (fun v hv => h1 v (zeroCells_any zs m v hv h0))
  simp only [Nat.add_zero] at hst
  obtain ⟨m', rfl⟩ : ∃ k, m = k + 1 := ⟨m - 1, by omega⟩
  simp [Builtin.clear_, run_underlying ht, hv, hz, hst]

/-- So far all are unlike. -/
def Cpo (l : List Fld) (k : Nat) : Prop := dedup (l.take k) = l.take k
/-- Behind the first two that are alike: what is left stands ahead, what is to come stands as it stood. -/
structure Cpi (l : List Fld) (p j q : Nat) (cur : List Fld) : Prop where
  len : cur.length = l.length
  hp : p + 1 < l.length
  le : q + 1 ≤ p + 1 + (j + 1)
  hq : q = (dedup (l.take (p + 1 + (j + 1)))).length
  d : cur.take q = dedup (l.take (p + 1 + (j + 1)))
  o : ∀ i, p + 1 + j ≤ i → i < l.length → cur[i]? = l[i]?
theorem cpo_1 (l : List Fld) (h : 0 < l.length) : Cpo l 1 := dedup_one l h
theorem cpo_next {l : List Fld} {p : Nat} (h : Cpo l (p + 1)) (hl : p + 1 < l.length) (hn : l[p + 1] ≠ l[p]) : Cpo l (p + 1 + 1) := by
  unfold Cpo at *
  rw [show p + 1 + 1 = p + 2 from rfl, dedup_new l p hl hn, h, List.take_succ_eq_append_getElem hl]
theorem cpi_start {l : List Fld} {p : Nat} (h : Cpo l (p + 1)) (hl : p + 1 < l.length) (hn : l[p + 1] = l[p]) : Cpi l p 0 (p + 1) l := by
  have e : dedup (l.take (p + 1 + (0 + 1))) = l.take (p + 1) := by
    show dedup (l.take (p + 2)) = _
    rw [dedup_same l p hl hn]; exact h
  refine ⟨rfl, hl, by omega, ?_, e.symm, fun _ _ _ => rfl⟩
  rw [e, List.length_take]; omega
theorem cpi_same {l cur : List Fld} {p j q : Nat} (h : Cpi l p j q cur) (hl : p + 1 + (j + 1) < l.length) (hn : l[p + 1 + (j + 1)] = l[p + 1 + j]) : Cpi l p (j + 1) q cur := by
  have e : dedup (l.take (p + 1 + (j + 1 + 1))) = dedup (l.take (p + 1 + (j + 1))) := dedup_same l (p + 1 + j) hl hn
  exact ⟨h.len, h.hp, by have := h.le; omega, by rw [e]; exact h.hq, by rw [e]; exact h.d, fun i hi hl => h.o i (by omega) hl⟩
theorem cpi_new {l cur : List Fld} {p j q : Nat} (h : Cpi l p j q cur) (hl : p + 1 + (j + 1) < l.length) (hn : l[p + 1 + (j + 1)] ≠ l[p + 1 + j]) : Cpi l p (j + 1) (q + 1) (cur.set q l[p + 1 + (j + 1)]) := by
  have e : dedup (l.take (p + 1 + (j + 1 + 1))) = dedup (l.take (p + 1 + (j + 1))) ++ [l[p + 1 + (j + 1)]] := dedup_new l (p + 1 + j) hl hn
  have hq := h.le
  have hlen := h.len
  refine ⟨by simpa using h.len, h.hp, by omega, ?_, ?_, fun i hi hl => ?_⟩
  · rw [e, List.length_append, ← h.hq]; rfl
  · rw [e, ← h.d]
    have hqc : q < cur.length := by omega
    rw [List.take_succ_eq_append_getElem (by simpa using hqc)]
    simp
    exact List.take_set_of_le (Nat.le_refl _)
  · rw [List.getElem?_set_ne (by omega)]
    exact h.o i (by omega) hl
theorem fld_cases (x y : Fld) : x = y ∨ (x.k == y.k) = false ∨ (x.k = y.k ∧ (x.l == y.l) = false) ∨ (x.k = y.k ∧ x.l = y.l ∧ ((bs x.v).toList == (bs y.v).toList) = false) := by
  have e : ∀ l : List UInt8, (bs l).toList = l := fun l => by rw [Lib.toList_data]; rfl
  rw [e, e]
  by_cases h1 : x.k = y.k
  · by_cases h2 : x.l = y.l
    · by_cases h3 : x.v = y.v
      · exact .inl (fld_ext h1 h2 h3)
      · exact .inr (.inr (.inr ⟨h1, h2, by simpa using h3⟩))
    · exact .inr (.inr (.inl ⟨h1, by simpa using h2⟩))
  · exact .inr (.inl (by simpa using h1))

set_option maxRecDepth 100000 in
set_option maxHeartbeats 8000000 in
theorem compact_calls (w : World) (S : Nat → Prop) (A : Option Addr) (n c : Nat) (l : List Fld) (hn : n = l.length) (hr : Row w S 128 3 A n c (fsE l)) (hb : n ≤ 1000000) :
    Calls Tryz.prog 126 #[.slice A n c] w fun e w' => (∃ m, e = .returned (.slice A m c) ∧ m = (dedup l).length ∧ Row w' S 128 3 A m c (fsE (dedup l))) ∧ Chg (Of A) w w' := by
  by_cases h2 : n < 2
  · have hdd : dedup l = l := by
      match l, hn with
      | [], _ => rfl
      | [a], _ => simp [dedup, dd1]
      | a :: b :: t, hn => simp at hn; omega
    have HR := hd (And.intro (show n = (dedup l).length by rw [hdd]; exact hn) (show Row w S 128 3 A n c (fsE (dedup l)) by rw [hdd]; exact hr))
    clear hr hdd hn
    go_enter Tryz.func126, Tryz.ntmps126
    go_wp2
    go_ret
    exact ⟨⟨n, rfl, HR.o.1, HR.o.2⟩, Chg.refl _ _⟩
  · obtain ⟨g, cur0, rfl, hgS, _⟩ : ∃ g cur0, A = some ⟨g, 0, none⟩ ∧ S g ∧ Blk w g 128 cur0 := by
      obtain ⟨g, rfl, hg, _⟩ := hr.at_ (by omega)
      obtain ⟨g', cur0, e1, _, hB, _⟩ := hr.block rfl
      injection e1 with e1
      subst e1
      exact ⟨g, cur0, rfl, hg, hB⟩
    have HN := hd hn
    have hcap := hr.cap
    have hc1 : n ≤ c := hcap.1
    have hc2 : c ≤ maxLen := hcap.2
    unfold maxLen at hc2
    have HR := hd hr
    clear hr hn hcap
    go_enter Tryz.func126, Tryz.ntmps126
    go_wp2_with fail
    go_loopw [3, 4, 5, 2] (fun k _ _ _ wr => ∃ (p : Nat), k = .int .i64 (p + 1 : Nat) ∧ p + 1 ≤ n ∧ Hd (Cpo l (p + 1)) ∧ Hd (Row wr S 128 3 (some ⟨g, 0, none⟩) n c (fsE l)) ∧ Hd (Chg (Of (some ⟨g, 0, none⟩)) w wr)) (fun k _ _ _ _ => n - (intOf k).toNat)
    case atStart => exact ⟨0, rfl, by omega, hd (cpo_1 l (by rw [← HN.o]; omega)), HR, hd (Chg.refl _ _)⟩
    case round =>
      obtain ⟨p, rfl, hp, HP, HRW, HC⟩ := hrel
      obtain ⟨wo, rfl⟩ : ∃ wo : World, wo = wr := ⟨_, rfl⟩
      by_cases hlt : p + 1 < n
      · have hlti : decide (((p + 1 : Nat) : Int) < (n : Int)) = true := by simp; omega
        have hpl : p + 1 < l.length := by rw [← HN.o]; exact hlt
        obtain ⟨x, hx⟩ : ∃ x, l[p]'(Nat.lt_of_succ_lt hpl) = x := ⟨_, rfl⟩
        obtain ⟨y, hy⟩ : ∃ y, l[p + 1]'hpl = y := ⟨_, rfl⟩
        have HXY := hd (And.intro hx hy)
        obtain ⟨g', hA', _, _, _, _, hcl, _⟩ := HRW.o.at_ (by omega)
        injection hA' with hA'
        injection hA' with hA'
        subst hA'
        have hcx : ∀ t u, t < 3 → (fEnc x)[t]? = some u → wo.cell? ⟨g, p * 3 + t, none⟩ = some u := fun t u ht hv => hcl _ _ ((fsE_at l p (by omega) t ht).trans (by rw [hx]; exact hv))
        have hcy : ∀ t u, t < 3 → (fEnc y)[t]? = some u → wo.cell? ⟨g, (p + 1) * 3 + t, none⟩ = some u := fun t u ht hv => hcl _ _ ((fsE_at l (p + 1) hpl t ht).trans (by rw [hy]; exact hv))
        have x0 := hcx 0 _ (by omega) rfl
        have x1 := hcx 1 _ (by omega) rfl
        have x2 := hcx 2 _ (by omega) rfl
        have y0 := hcy 0 _ (by omega) rfl
        have y1 := hcy 1 _ (by omega) rfl
        have y2 := hcy 2 _ (by omega) rfl
        simp only [Nat.add_zero] at x0 y0
        have hp0 : (0 : Int) ≤ (p : Int) := by omega
        clear hcl hcx hcy hx hy
        have hcase := fld_cases y x
        have HNE0 := hd (fun h : y ≠ x => h)
        by_cases hyx : y = x
        · have HEQ := hd (show l[p + 1]'hpl = l[p]'(Nat.lt_of_succ_lt hpl) by rw [HXY.o.1, HXY.o.2]; exact hyx)
          have HST := hd (cpi_start HP.o hpl HEQ.o)
          clear hcase HNE0 HEQ HXY
          subst hyx
          obtain ⟨yk, yl, yv⟩ := y
          have hp1 : ((p + 1 : Nat) : Int) ≤ (n : Int) := by omega
          have hnp : p + 1 ≤ n := by omega
          go_wp2_with fail
          go_quiet (fail)
          go_wp2_with fail
          clear x0 x1 x2 y0 y1 y2
          obtain ⟨wj, hwj⟩ : ∃ wj, wj = wo.drewN nq := ⟨_, rfl⟩
          have HRJ := hd (show Row wj S 128 3 (some ⟨g, 0, none⟩) n c (fsE l) by rw [hwj]; exact HRW.o.drewN _)
          have HCJ := hd (show Chg (Of (some ⟨g, 0, none⟩)) w wj by rw [hwj]; exact HC.o.drewN _)
          rw [← hwj]
          clear hwj
          go_loopw [5, 3] (fun k2 k wr => ∃ (j q : Nat) (cur : List Fld), k2 = .int .i64 (j + 1 : Nat) ∧ k = .int .i64 q ∧ p + 1 + (j + 1) ≤ n ∧ q + 1 ≤ p + 1 + (j + 1) ∧ Hd (Cpi l p j q cur) ∧ Hd (Row wr S 128 3 (some ⟨g, 0, none⟩) n c (fsE cur)) ∧ Hd (Chg (Of (some ⟨g, 0, none⟩)) w wr)) (fun k2 _ _ => n - (intOf k2).toNat)
          case atStart => exact ⟨0, p + 1, l, rfl, rfl, by omega, by omega, HST, HRJ, HCJ⟩
          case round =>
            obtain ⟨j, q, cur, rfl, rfl, hj, hq, HI, HRI, HCI⟩ := hrel
            obtain ⟨wi, rfl⟩ : ∃ wi : World, wi = wr := ⟨_, rfl⟩
            by_cases hlt2 : p + 1 + (j + 1) < n
            · have hlti2 : decide (((j + 1 : Nat) : Int) < ((n - (p + 1) : Nat) : Int)) = true := by simp; omega
              have hjl : p + 1 + (j + 1) < l.length := by rw [← HN.o]; exact hlt2
              obtain ⟨x, hx⟩ : ∃ x, l[p + 1 + j]'(Nat.lt_of_succ_lt hjl) = x := ⟨_, rfl⟩
              obtain ⟨y, hy⟩ : ∃ y, l[p + 1 + (j + 1)]'hjl = y := ⟨_, rfl⟩
              have HXY := hd (And.intro hx hy)
              have hlc := HI.o.len
              have ec1 : cur[p + 1 + j]'(by omega) = x := by
                have := HI.o.o (p + 1 + j) (by omega) (by omega)
                rw [List.getElem?_eq_getElem (by omega), List.getElem?_eq_getElem (by omega)] at this
                injection this with this
                rw [this, hx]
              have ec2 : cur[p + 1 + (j + 1)]'(by omega) = y := by
                have := HI.o.o (p + 1 + (j + 1)) (by omega) (by omega)
                rw [List.getElem?_eq_getElem (by omega), List.getElem?_eq_getElem (by omega)] at this
                injection this with this
                rw [this, hy]
              obtain ⟨g', hA', _, hgl, _, _, hcl, hfz⟩ := HRI.o.at_ (by omega)
              injection hA' with hA'
              injection hA' with hA'
              subst hA'
              have hcx : ∀ t u, t < 3 → (fEnc x)[t]? = some u → wi.cell? ⟨g, (p + 1) * 3 + j * 3 + t, none⟩ = some u := fun t u ht hv => by
                rw [show (p + 1) * 3 + j * 3 + t = (p + 1 + j) * 3 + t by omega]
                exact hcl _ _ ((fsE_at cur (p + 1 + j) (by omega) t ht).trans (by rw [ec1]; exact hv))
              have hcy : ∀ t u, t < 3 → (fEnc y)[t]? = some u → wi.cell? ⟨g, (p + 1) * 3 + (j + 1) * 3 + t, none⟩ = some u := fun t u ht hv => by
                rw [show (p + 1) * 3 + (j + 1) * 3 + t = (p + 1 + (j + 1)) * 3 + t by omega]
                exact hcl _ _ ((fsE_at cur (p + 1 + (j + 1)) (by omega) t ht).trans (by rw [ec2]; exact hv))
              have x0 := hcx 0 _ (by omega) rfl
              have x1 := hcx 1 _ (by omega) rfl
              have x2 := hcx 2 _ (by omega) rfl
              have y0 := hcy 0 _ (by omega) rfl
              have y1 := hcy 1 _ (by omega) rfl
              have y2 := hcy 2 _ (by omega) rfl
              simp only [Nat.add_zero] at x0 y0
              clear hcl hcx hcy hx hy ec1 ec2 hlc
              have hcase := fld_cases y x
              by_cases hyx : y = x
              · have HST := hd (cpi_same HI.o hjl (by rw [HXY.o.1, HXY.o.2]; exact hyx))
                clear hcase HXY
                subst hyx
                obtain ⟨yk, yl, yv⟩ := y
                go_wp2_with fail
                go_quiet (fail)
                go_wp2
                go_roundw
                case rel => exact ⟨j + 1, q, cur, by go_num, rfl, by omega, by omega, HST, hd (HRI.o.drewN _), hd (HCI.o.drewN _)⟩
                case measure => simp [intOf]; omega
              · have HST := hd (cpi_new HI.o hjl (by rw [HXY.o.1, HXY.o.2]; exact hyx))
                have hqn : q < cur.length := by rw [HI.o.len, ← HN.o]; omega
                have HEN := hd (fsE_set y cur q hqn)
                rw [HXY.o.2] at HST
                have HNE := hd hyx
                have c0 : wi.frozen? ⟨g, q * 3, none⟩ = false := hfz _
                have c1 : wi.frozen? ⟨g, q * 3 + 1, none⟩ = false := hfz _
                have c2 : wi.frozen? ⟨g, q * 3 + 2, none⟩ = false := hfz _
                have hq1 : ((q : Nat) : Int) < (n : Int) := by omega
                obtain ⟨z, hz⟩ : ∃ z, cur[q]'hqn = z := ⟨_, rfl⟩
                obtain ⟨g', hA', _, _, _, _, hcl, _⟩ := HRI.o.at_ (by omega)
                injection hA' with hA'
                injection hA' with hA'
                subst hA'
                have hcz : ∀ t u, t < 3 → (fEnc z)[t]? = some u → wi.cell? ⟨g, q * 3 + t, none⟩ = some u := fun t u ht hv => hcl _ _ ((fsE_at cur q hqn t ht).trans (by rw [hz]; exact hv))
                have z0 := hcz 0 _ (by omega) rfl
                have z1 := hcz 1 _ (by omega) rfl
                have z2 := hcz 2 _ (by omega) rfl
                simp only [Nat.add_zero] at z0
                clear hcl hcz hz hyx
                rcases hcase with he | he | ⟨he1, he2⟩ | ⟨he1, he2, he3⟩
                · exact absurd he HNE.o
                · obtain ⟨xk, xl, xv⟩ := x
                  obtain ⟨yk, yl, yv⟩ := y
                  obtain ⟨zk, zl, zv⟩ := z
                  simp only at he
                  clear HXY HNE
                  go_wp2_with fail
                  go_quiet (fail)
                  go_wp2
                  go_roundw
                  case rel =>
                    refine ⟨j + 1, q + 1, _, by go_num, by go_num, by omega, by omega, HST, hd ?_, hd ?_⟩
                    · rw [HEN.o]
                      exact row_setk3 (row_setk3 (row_setk3 (HRI.o.drewN _) _ _) _ _) _ _
                    · have hof : ∀ i : Nat, Of (some ⟨g, 0, none⟩) (Addr.block ⟨g, i, none⟩) ∨ w.heap.size ≤ (Addr.block ⟨g, i, none⟩) := fun i => .inl rfl
                      exact (((HCI.o.drewN _).setCell (hof _) _).setCell (hof _) _).setCell (hof _) _
                  case measure => simp [intOf]; omega
                · obtain ⟨xk, xl, xv⟩ := x
                  obtain ⟨yk, yl, yv⟩ := y
                  obtain ⟨zk, zl, zv⟩ := z
                  simp only at he1 he2
                  clear HXY HNE
                  subst he1
                  go_wp2_with fail
                  go_quiet (fail)
                  go_wp2
                  go_roundw
                  case rel =>
                    refine ⟨j + 1, q + 1, _, by go_num, by go_num, by omega, by omega, HST, hd ?_, hd ?_⟩
                    · rw [HEN.o]
                      exact row_setk3 (row_setk3 (row_setk3 (HRI.o.drewN _) _ _) _ _) _ _
                    · have hof : ∀ i : Nat, Of (some ⟨g, 0, none⟩) (Addr.block ⟨g, i, none⟩) ∨ w.heap.size ≤ (Addr.block ⟨g, i, none⟩) := fun i => .inl rfl
                      exact (((HCI.o.drewN _).setCell (hof _) _).setCell (hof _) _).setCell (hof _) _
                  case measure => simp [intOf]; omega
                · obtain ⟨xk, xl, xv⟩ := x
                  obtain ⟨yk, yl, yv⟩ := y
                  obtain ⟨zk, zl, zv⟩ := z
                  simp only at he1 he2 he3
                  clear HXY HNE
                  subst he1 he2
                  go_wp2_with fail
                  go_quiet (fail)
                  go_wp2
                  go_roundw
                  case rel =>
                    refine ⟨j + 1, q + 1, _, by go_num, by go_num, by omega, by omega, HST, hd ?_, hd ?_⟩
                    · rw [HEN.o]
                      exact row_setk3 (row_setk3 (row_setk3 (HRI.o.drewN _) _ _) _ _) _ _
                    · have hof : ∀ i : Nat, Of (some ⟨g, 0, none⟩) (Addr.block ⟨g, i, none⟩) ∨ w.heap.size ≤ (Addr.block ⟨g, i, none⟩) := fun i => .inl rfl
                      exact (((HCI.o.drewN _).setCell (hof _) _).setCell (hof _) _).setCell (hof _) _
                  case measure => simp [intOf]; omega
            · have hlti2 : decide (((j + 1 : Nat) : Int) < ((n - (p + 1) : Nat) : Int)) = false := by simp; omega
              have hjn : p + 1 + (j + 1) = n := by omega
              have HD := hd (show dedup (l.take (p + 1 + (j + 1))) = dedup l by rw [List.take_of_length_le (by rw [← HN.o]; omega)])
              have hqn : q < n := by omega
              have hq1 : ((q : Nat) : Int) ≤ (n : Int) := by omega
              have hq2 : ((q : Nat) : Int) ≤ (c : Int) := by omega
              obtain ⟨g', CA, e1, hS', hCA, _, _, hCs, hCt⟩ := HRI.o.block rfl
              injection e1 with e1
              subst e1
              obtain ⟨ns, hnl, hclr⟩ := run_clear_many (P := Tryz.prog) wi 118 128 (.agg #[.int .i64 0, .int .i64 0, .string ⟨#[]⟩]) [.int .i64 0, .int .i64 0, .string ⟨#[]⟩] Tryz.underlying118 Tryz.zeroValue128 rfl (by decide) (fun v hv => by simp at hv; rcases hv with rfl | rfl | rfl <;> rfl) g (q * 3) (n - q) (c - q) (by omega) CA hCA (by rw [hCs]; simp; omega)
              have hnl' : ns.length = (n - q) * 3 := hnl
              have HNL := hd hnl'
              have HCA := hd hCA
              have HCS := hd hCs
              have HCT := hd hCt
              obtain ⟨NEW, hNEW⟩ : ∃ NEW, (CA.toList.take (q * 3) ++ ns ++ CA.toList.drop (q * 3 + ns.length)).toArray = NEW := ⟨_, rfl⟩
              rw [hNEW] at hclr
              have HNEW := hd hNEW
              clear hnl hnl' hCA hCs hCt hNEW
              go_wp2
              go_ret
              refine ⟨⟨q, rfl, ?_, ?_⟩, ?_⟩
              · rw [← HD.o]; exact HI.o.hq
              · have hcl := HI.o.len
                have h4 : (fsE (dedup l)).length = q * 3 := by
                  rw [show (fsE (dedup l)).length = (dedup l).length * 3 from flat_length fEnc 3 fEnc_len _, ← HD.o, ← HI.o.hq]
                refine Row.of_block (HCA.o.setRow _) hgS (by omega) (by unfold maxLen; omega) ?_ ?_ h4
                · rw [← HNEW.o]
                  simp only [List.size_toArray, List.length_append, List.length_take, List.length_drop, Array.length_toList]
                  rw [HCS.o, HNL.o]; omega
                · rw [← HNEW.o]
                  have h5 : CA.toList.take (q * 3) = fsE (dedup l) := by
                    have : CA.toList.take (q * 3) = (fsE cur).take (q * 3) := by
                      rw [← HCT.o, List.take_take, Nat.min_eq_left (by omega)]
                    rw [this, show (fsE cur).take (q * 3) = fsE (cur.take q) from flat_take fEnc 3 fEnc_len cur q, HI.o.d, HD.o]
                  show List.take (q * 3) (List.take (q * 3) CA.toList ++ ns ++ List.drop (q * 3 + ns.length) CA.toList) = _
                  rw [h5, List.append_assoc, List.take_append_of_le_length (by rw [h4]; exact Nat.le_refl _), List.take_of_length_le (by rw [h4]; exact Nat.le_refl _)]
              · exact HCI.o.setRow (.inl rfl) _
        · have HNE := hd hyx
          clear hyx HNE0
          rcases hcase with he | he | ⟨he1, he2⟩ | ⟨he1, he2, he3⟩
          · exact absurd he HNE.o
          · have HN2 := hd (cpo_next HP.o hpl (by rw [HXY.o.1, HXY.o.2]; exact HNE.o))
            obtain ⟨xk, xl, xv⟩ := x
            obtain ⟨yk, yl, yv⟩ := y
            simp only at he
            clear HXY HNE
            go_wp2_with fail
            go_quiet (fail)
            go_wp2
            go_roundw
            case rel => exact ⟨p + 1, by go_num, by omega, HN2, hd (HRW.o.drewN _), hd (HC.o.drewN _)⟩
            case measure => simp [intOf]; omega
          · have HN2 := hd (cpo_next HP.o hpl (by rw [HXY.o.1, HXY.o.2]; exact HNE.o))
            obtain ⟨xk, xl, xv⟩ := x
            obtain ⟨yk, yl, yv⟩ := y
            simp only at he1 he2
            clear HXY HNE
            subst he1
            go_wp2_with fail
            go_quiet (fail)
            go_wp2
            go_roundw
            case rel => exact ⟨p + 1, by go_num, by omega, HN2, hd (HRW.o.drewN _), hd (HC.o.drewN _)⟩
            case measure => simp [intOf]; omega
          · have HN2 := hd (cpo_next HP.o hpl (by rw [HXY.o.1, HXY.o.2]; exact HNE.o))
            obtain ⟨xk, xl, xv⟩ := x
            obtain ⟨yk, yl, yv⟩ := y
            simp only at he1 he2 he3
            clear HXY HNE
            subst he1 he2
            go_wp2_with fail
            go_quiet (fail)
            go_wp2
            go_roundw
            case rel => exact ⟨p + 1, by go_num, by omega, HN2, hd (HRW.o.drewN _), hd (HC.o.drewN _)⟩
            case measure => simp [intOf]; omega
      · have hlti : decide (((p + 1 : Nat) : Int) < (n : Int)) = false := by simp; omega
        have HD := hd (show dedup l = l by
          have := HP.o
          unfold Cpo at this
          rwa [List.take_of_length_le (by rw [← HN.o]; omega)] at this)
        go_wp2
        go_ret
        exact ⟨⟨n, rfl, by rw [HD.o]; exact HN.o, by rw [HD.o]; exact HRW.o⟩, HC.o⟩

end Go.Proofs.YtogjokofmfpmgaaGreatDoor
namespace Go.Proofs.YtogjokofmfpmgaaGreatDoor
open Go.Shelf
def lays166_ren : Go.Shelf.Ren := ⟨fun | 166 => 127 | 240 => 147 | 276 => 173 | n => n, fun | 70 => 148 | 9 => 9 | 3 => 3 | 75 => 152 | 0 => 0 | 72 => 150 | 37 => 27 | 4 => 4 | 164 => 186 | 80 => 65 | 5 => 5 | n => n, fun | n => n⟩
theorem lays166 : Go.Proofs.Lays.n166 Tryz.prog lays166_ren := {
  mixed := by kernel_rfl
  f166 := Tryz.func127.trans (congrArg some (by kernel_rfl))
  f240 := Tryz.func147.trans (congrArg some (by kernel_rfl))
  f276 := Tryz.func173.trans (congrArg some (by kernel_rfl))
  t0 := Tryz.underlying0
  a0 := Tryz.isAgg0
  z0 := Tryz.sizeOf0
  v0 := Tryz.zeroValue0
  t3 := Tryz.underlying3
  a3 := Tryz.isAgg3
  z3 := Tryz.sizeOf3
  v3 := Tryz.zeroValue3
  t4 := Tryz.underlying4
  a4 := Tryz.isAgg4
  z4 := Tryz.sizeOf4
  v4 := Tryz.zeroValue4
  t9 := Tryz.underlying9
  a9 := Tryz.isAgg9
  z9 := Tryz.sizeOf9
  v9 := Tryz.zeroValue9
  t20 := Tryz.underlying20
  a20 := Tryz.isAgg20
  z20 := Tryz.sizeOf20
  v20 := Tryz.zeroValue20
  t37 := Tryz.underlying27
  a37 := Tryz.isAgg27
  z37 := Tryz.sizeOf27
  v37 := Tryz.zeroValue27
  t70 := Tryz.underlying148
  a70 := Tryz.isAgg148
  z70 := Tryz.sizeOf148
  v70 := Tryz.zeroValue148
  t72 := Tryz.underlying150
  a72 := Tryz.isAgg150
  z72 := Tryz.sizeOf150
  v72 := Tryz.zeroValue150
  t75 := Tryz.underlying152
  a75 := Tryz.isAgg152
  z75 := Tryz.sizeOf152
  v75 := Tryz.zeroValue152
  t164 := Tryz.underlying186
  a164 := Tryz.isAgg186
  z164 := Tryz.sizeOf186
  v164 := Tryz.zeroValue186 }
def lays167_ren : Go.Shelf.Ren := ⟨fun | 167 => 128 | 240 => 147 | 276 => 173 | n => n, fun | 70 => 148 | 5 => 5 | 75 => 152 | 0 => 0 | 72 => 150 | 37 => 27 | 4 => 4 | 164 => 186 | 80 => 65 | 9 => 9 | n => n, fun | n => n⟩
theorem lays167 : Go.Proofs.Lays.n167 Tryz.prog lays167_ren := {
  mixed := by kernel_rfl
  f167 := Tryz.func128.trans (congrArg some (by kernel_rfl))
  f240 := Tryz.func147.trans (congrArg some (by kernel_rfl))
  f276 := Tryz.func173.trans (congrArg some (by kernel_rfl))
  t0 := Tryz.underlying0
  a0 := Tryz.isAgg0
  z0 := Tryz.sizeOf0
  v0 := Tryz.zeroValue0
  t4 := Tryz.underlying4
  a4 := Tryz.isAgg4
  z4 := Tryz.sizeOf4
  v4 := Tryz.zeroValue4
  t5 := Tryz.underlying5
  a5 := Tryz.isAgg5
  z5 := Tryz.sizeOf5
  v5 := Tryz.zeroValue5
  t9 := Tryz.underlying9
  a9 := Tryz.isAgg9
  z9 := Tryz.sizeOf9
  v9 := Tryz.zeroValue9
  t20 := Tryz.underlying20
  a20 := Tryz.isAgg20
  z20 := Tryz.sizeOf20
  v20 := Tryz.zeroValue20
  t37 := Tryz.underlying27
  a37 := Tryz.isAgg27
  z37 := Tryz.sizeOf27
  v37 := Tryz.zeroValue27
  t70 := Tryz.underlying148
  a70 := Tryz.isAgg148
  z70 := Tryz.sizeOf148
  v70 := Tryz.zeroValue148
  t72 := Tryz.underlying150
  a72 := Tryz.isAgg150
  z72 := Tryz.sizeOf150
  v72 := Tryz.zeroValue150
  t75 := Tryz.underlying152
  a75 := Tryz.isAgg152
  z75 := Tryz.sizeOf152
  v75 := Tryz.zeroValue152
  t164 := Tryz.underlying186
  a164 := Tryz.isAgg186
  z164 := Tryz.sizeOf186
  v164 := Tryz.zeroValue186 }
def lays169_ren : Go.Shelf.Ren := ⟨fun | 169 => 129 | n => n, fun | 70 => 148 | 9 => 9 | 0 => 0 | 72 => 150 | 37 => 27 | 127 => 167 | 3 => 3 | 5 => 5 | n => n, fun | n => n⟩
theorem lays169 : Go.Proofs.Lays.n169 Tryz.prog lays169_ren := {
  mixed := by kernel_rfl
  f169 := Tryz.func129.trans (congrArg some (by kernel_rfl))
  t0 := Tryz.underlying0
  a0 := Tryz.isAgg0
  z0 := Tryz.sizeOf0
  v0 := Tryz.zeroValue0
  t3 := Tryz.underlying3
  a3 := Tryz.isAgg3
  z3 := Tryz.sizeOf3
  v3 := Tryz.zeroValue3
  t9 := Tryz.underlying9
  a9 := Tryz.isAgg9
  z9 := Tryz.sizeOf9
  v9 := Tryz.zeroValue9
  t37 := Tryz.underlying27
  a37 := Tryz.isAgg27
  z37 := Tryz.sizeOf27
  v37 := Tryz.zeroValue27
  t70 := Tryz.underlying148
  a70 := Tryz.isAgg148
  z70 := Tryz.sizeOf148
  v70 := Tryz.zeroValue148
  t72 := Tryz.underlying150
  a72 := Tryz.isAgg150
  z72 := Tryz.sizeOf150
  v72 := Tryz.zeroValue150
  t127 := Tryz.underlying167
  a127 := Tryz.isAgg167
  z127 := Tryz.sizeOf167
  v127 := Tryz.zeroValue167 }
end Go.Proofs.YtogjokofmfpmgaaGreatDoor
namespace Go.Proofs.YtogjokofmfpmgaaGreatDoor
open Go.RowKit Go.Shelf

theorem bX166 : Builder.Extra Tryz.prog lays166_ren where
  sizeBuilder := by kernel_rfl
  liesBuilder := by kernel_rfl
  t5 := Tryz.underlying5
  a5 := Tryz.isAgg5
  z5 := Tryz.sizeOf5
  v5 := Tryz.zeroValue5
  infoByte := by kernel_rfl
  cellsByte := by kernel_rfl
  sizeByte := by kernel_rfl
  neB5 := by decide
theorem bX167 : Builder.Extra Tryz.prog lays167_ren where
  sizeBuilder := by kernel_rfl
  liesBuilder := by kernel_rfl
  t5 := Tryz.underlying5
  a5 := Tryz.isAgg5
  z5 := Tryz.sizeOf5
  v5 := Tryz.zeroValue5
  infoByte := by kernel_rfl
  cellsByte := by kernel_rfl
  sizeByte := by kernel_rfl
  neB5 := by decide
theorem bX169 : Builder.Extra Tryz.prog lays169_ren where
  sizeBuilder := by kernel_rfl
  liesBuilder := by kernel_rfl
  t5 := Tryz.underlying5
  a5 := Tryz.isAgg5
  z5 := Tryz.sizeOf5
  v5 := Tryz.zeroValue5
  infoByte := by kernel_rfl
  cellsByte := by kernel_rfl
  sizeByte := by kernel_rfl
  neB5 := by decide
/-- The builder, its bytes. -/
def Bld (b : Nat) (l : List UInt8) (w : World) : Prop := Lib.IsBuilder 150 5 b b (Lib.byteCells l) w
theorem Bld.new (w : World) : Bld w.heap.size [] (w.alloc (.cells #[.pointer none, .slice none 0 0] 150)) := Lib.fresh_isBuilder _ _ w
theorem bat_below {T e : TypeId} {B b : Nat} {p : Value} {xs : List Value} {w w' : World} (h : Lib.BuilderAt T e B b p xs w) (hb : Below w.heap.size w w') : Lib.BuilderAt T e B b p xs w' := by
  have hlt := h.lt
  obtain ⟨hB, v, hbk, hown, hne⟩ := h
  refine ⟨hB, v, (hb.block b hlt).trans hbk, ⟨hown.1, ?_⟩, hne⟩
  rcases hown.2 with h | ⟨g, cap, cur, hv, h1, h2, h3⟩
  · exact .inl h
  · exact .inr ⟨g, cap, cur, hv, h1, (hb.block g (by
      rcases Nat.lt_or_ge g w.heap.size with h' | h'
      · exact h'
      · simp [Array.getElem?_eq_none h'] at h2)).trans h2, h3⟩
theorem Bld.below {b : Nat} {l : List UInt8} {w w' : World} (h : Bld b l w) (hb : Below w.heap.size w w') : Bld b l w' :=
  h.elim (fun h => .inl (bat_below h hb)) (fun h => .inr (bat_below h hb))
theorem Bld.size {b : Nat} {l : List UInt8} {w : World} (h : Bld b l w) : b < w.heap.size := h.elim Lib.BuilderAt.lt Lib.BuilderAt.lt
theorem bc_app (a b : List UInt8) : Lib.byteCells (a ++ b) = Lib.byteCells a ++ Lib.byteCells b := by simp [Lib.byteCells]
theorem ws_calls (b : Nat) (l s : List UInt8) (w : World) (h : Bld b l w) (hl : l.length ≤ 1000000) (hs : s.length ≤ 1000000) :
    Calls Tryz.prog 127 #[.pointer (some ⟨b, 0, none⟩), .string (bs s)] w fun e w' => e = .returned (.tuple #[.int .i64 (bs s).size, .nilIface]) ∧ Bld b (l ++ s) w' ∧ Below b w w' := by
  refine (Any.Builder_WriteString lays166 bX166 b b (Lib.byteCells l) (bs s) w h (by rw [Lib.byteCells_length, bs_size]; omega) (Nat.le_of_lt h.size)).mono ?_
  rintro e w' ⟨rfl, h1, h2⟩
  refine ⟨rfl, .inr ?_, h2⟩
  rw [bc_app]
  exact h1
theorem wb_calls (b : Nat) (l : List UInt8) (c : UInt8) (w : World) (h : Bld b l w) (hl : l.length ≤ 1000000) :
    Calls Tryz.prog 128 #[.pointer (some ⟨b, 0, none⟩), .int .u8 c.toNat] w fun e w' => e = .returned .nilIface ∧ Bld b (l ++ [c]) w' ∧ Below b w w' := by
  refine (Any.Builder_WriteByte lays167 bX167 b b (Lib.byteCells l) c.toNat w h (by rw [Lib.byteCells_length]; omega) (Nat.le_of_lt h.size)).mono ?_
  rintro e w' ⟨rfl, h1, h2⟩
  refine ⟨rfl, .inr ?_, h2⟩
  rw [bc_app]
  exact h1
theorem bstr_calls (b : Nat) (l : List UInt8) (w : World) (h : Bld b l w) :
    Calls Tryz.prog 129 #[.pointer (some ⟨b, 0, none⟩)] w fun e w' => e = .returned (.string (bs l)) ∧ Below b w w' :=
  Any.Builder_String_any lays169 bX169 b b l w h (Nat.le_of_lt h.size)

set_option maxRecDepth 100000 in
set_option maxHeartbeats 2000000 in
theorem text_calls (w : World) (ht : Tbs w) (A : Option Addr) (n c : Nat) (l : List Fld) (hn : n = l.length) (hr : Rds w A n 3 (fsE l)) (hb : n ≤ 1000) (hm : ∀ f ∈ l, f.v.length ≤ 1000000) :
    Calls Tryz.prog 117 #[.slice A n c] w fun e w' => e = .returned (.string (bs (textL l))) ∧ Below w.heap.size w w' := by
  have HN := hd hn
  have HR := hd hr
  have HM := hd hm
  have HT := hd (fun W (h : Below w.heap.size w W) => ht.below h)
  clear hn hr hm ht
  obtain ⟨X, hX⟩ : ∃ X, X = w.alloc (.cells #[.pointer none, .slice none 0 0] 150) := ⟨_, rfl⟩
  have HBX := hd (show Bld w.heap.size [] X by rw [hX]; exact Bld.new w)
  have HX := hd (show Below w.heap.size w X by rw [hX]; exact (Below.refl _ w).alloc (Nat.le_refl _) _)
  have hx := hd hX
  clear hX
  go_enter Tryz.func117, Tryz.ntmps117
  go_wp2_with fail
  rw [← hx.o]
  go_loopw [8, 5] (fun i _ wr => ∃ k : Nat, i = .int .i64 k ∧ k ≤ n ∧ Hd (Bld w.heap.size (textL (l.take k)) wr) ∧ Hd (Below w.heap.size w wr)) (fun i _ _ => n - (intOf i).toNat)
  case atStart => exact ⟨0, rfl, Nat.zero_le _, HBX, HX⟩
  case round =>
    obtain ⟨k, rfl, hk, HB, HW⟩ := hrel
    obtain ⟨wi, rfl⟩ : ∃ wi : World, wi = wr := ⟨_, rfl⟩
    by_cases hlt : k < n
    · have hlti : decide ((k : Int) < (n : Int)) = true := by simp; omega
      have hkl : k < l.length := by rw [← HN.o]; exact hlt
      obtain ⟨f, hf⟩ : ∃ f, l[k]'hkl = f := ⟨_, rfl⟩
      have hfm := HM.o f (by rw [← hf]; exact List.getElem_mem _)
      have HNX := hd (textL_take l k hkl)
      rw [hf] at HNX
      have hr2 := HR.o.below HW.o
      obtain ⟨g, o, rfl, hg, hc⟩ := hr2.at_ (by omega)
      have hcf : ∀ t u, t < 3 → (fEnc f)[t]? = some u → wi.cell? ⟨g, o + k * 3 + t, none⟩ = some u := fun t u ht hv => by
        rw [Nat.add_assoc]
        exact hc _ _ ((fsE_at l k hkl t ht).trans (by rw [hf]; exact hv))
      have c0 := hcf 0 _ (by omega) rfl
      have c1 := hcf 1 _ (by omega) rfl
      have c2 := hcf 2 _ (by omega) rfl
      rw [Nat.add_zero] at c0
      clear hcf hc hr2
      have hlen := textL_len (l.take k)
      rw [List.length_take] at hlen
      have hll := line_len f
      have C1 := fline_calls f hfm
      obtain ⟨L, hL⟩ : ∃ L, lineF f = L := ⟨_, rfl⟩
      rw [hL] at C1 hll
      have HL := hd hL
      obtain ⟨fk, fl, fv⟩ := f
      simp only [fldV] at C1
      have K1 := hd C1
      have HBB := hd (HW.o.alloc HW.o.size (.cells #[.int .i64 fk, .int .i64 fl, .string (bs fv)] 128))
      have HBL := hd (HB.o.below ((Below.refl _ wi).alloc (Nat.le_refl _) (.cells #[.int .i64 fk, .int .i64 fl, .string (bs fv)] 128)))
      have HTT := hd (HT.o _ HBB.o)
      clear C1 hL hf hfm
      go_wp2_with fail
      refine (K1.o _ HTT.o).mono ?_
      rintro e w2 ⟨rfl, hb2⟩
      have HB2 := hd (HBL.o.below hb2)
      have HW2 := hd (HBB.o.trans (hb2.mono HBB.o.size))
      clear hb2 c0 c1 c2
      go_wp2_with fail
      refine (ws_calls _ _ L w2 HB2.o (by omega) (by omega)).mono ?_
      rintro e w3 ⟨rfl, hb3, hw3⟩
      have HB3 := hd hb3
      have HW3 := hd (HW2.o.trans hw3)
      clear hb3 hw3
      go_wp2_with fail
      refine (wb_calls _ _ 10 w3 HB3.o (by rw [List.length_append]; omega)).mono ?_
      rintro e w4 ⟨rfl, hb4, hw4⟩
      have HB4 := hd (show Bld w.heap.size (textL (l.take (k + 1))) w4 by rw [HNX.o, HL.o, ← List.append_assoc]; exact hb4)
      have HW4 := hd (HW3.o.trans hw4)
      clear hb4 hw4
      go_wp2
      go_roundw
      case rel => exact ⟨k + 1, by go_num, by omega, HB4, HW4⟩
      case measure => simp [intOf]; omega
    · have hlti : decide ((k : Int) < (n : Int)) = false := by simp; omega
      have HB2 := hd (show Bld w.heap.size (textL l) wi by
        have := HB.o
        rwa [List.take_of_length_le (by rw [← HN.o]; omega)] at this)
      go_wp2_with fail
      refine (bstr_calls _ _ wi HB2.o).mono ?_
      rintro e w2 ⟨rfl, hb2⟩
      have HW2 := hd (HW.o.trans hb2)
      clear hb2
      go_wp2
      go_ret
      exact ⟨rfl, HW2.o⟩

end Go.Proofs.YtogjokofmfpmgaaGreatDoor
