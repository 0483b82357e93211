/-
  From the row's list, and from a reading of a field, to what the walks ask.
-/
import Derived.Test.YtpejlcaoggedfaaGreatDoorFldB
import Derived.Test.YtpejlcaoggedfaaGreatDoorCards
import Derived.Test.YtpejlcaoggedfaaGreatDoorTie
import Derived.ProofKit
import Derived.OpenShut
import Derived.ShutString
import Derived.ChangeOld
import Derived.Deep.Slices
import Derived.Deep.Fields
import Derived.Deep.DeepHandedRow
import Derived.Lib.LaidTab
import Derived.Lib.LaidU8T
set_option linter.unusedVariables false
set_option linter.unusedSimpArgs false
namespace Go.Proofs.YtpejlcaoggedfaaGreatDoor
open Go.ChangeShapes Go.WideShapes Go.ChangeAt Go.RowKit

theorem ownT : ownKnob Tryz.prog.godebug = none := by kernel_rfl
theorem laidOutT : laidOutB Tryz.prog = true := by kernel_rfl
theorem firstIs : (Rows.laid_unicode_utf8_first : DataW Unit) = Lib.firstData := by kernel_rfl
theorem accIs : (Rows.laid_unicode_utf8_acceptRanges : DataW Unit) = Lib.acceptData := by kernel_rfl
theorem gTab : Tryz.prog.globalNamed "internal/strconv.uint64pow10" = some 3 := by kernel_rfl
theorem gTabType : (Tryz.prog.globals[3]?).map (·.type) = some 140 := by kernel_rfl
theorem tbs_of {W : World} (h : laidMetH Tryz.prog [("math/bits.deBruijn32tab", Rows.laid_math_bits_deBruijn32tab), ("math/bits.deBruijn64tab", Rows.laid_math_bits_deBruijn64tab), ("internal/strconv.uint64pow10", Rows.laid_internal_strconv_uint64pow10), ("unicode/utf8.acceptRanges", Rows.laid_unicode_utf8_acceptRanges), ("unicode/utf8.first", Rows.laid_unicode_utf8_first)] W) (hs : W.ShapedOpen Tryz.prog) : Tbs W := by
  have h' : laidMet Tryz.prog [("math/bits.deBruijn32tab", Rows.laid_math_bits_deBruijn32tab), ("math/bits.deBruijn64tab", Rows.laid_math_bits_deBruijn64tab), ("internal/strconv.uint64pow10", Rows.laid_internal_strconv_uint64pow10), ("unicode/utf8.acceptRanges", Rows.laid_unicode_utf8_acceptRanges), ("unicode/utf8.first", Rows.laid_unicode_utf8_first)] W := h
  refine ⟨?_, ?_⟩
  · rw [firstIs, accIs] at h'
    exact ⟨utf8Tabs_of_readsT (U8Types.of196 lays196) ⟨by kernel_rfl, by kernel_rfl, by kernel_rfl, by kernel_rfl, by kernel_rfl, by kernel_rfl, by kernel_rfl⟩ (Lib.laidMet.reads h' (.tail _ (.tail _ (.tail _ (.tail _ (.head _)))))) (Lib.laidMet.reads h' (.tail _ (.tail _ (.tail _ (.head _))))), laysM144.s1_3 W hs⟩
  · obtain ⟨ps, ⟨g1, t1, cs1, f1, p1, q1, _, _, _, _, ⟨g2, t2, cs2, f2, p2, q2, _, _, _, _, ⟨g3, t3, cs3, f3, p3, q3, hg3, ht3, hvar, hd3, _, _⟩, _⟩, _⟩, _⟩ := h'
    obtain rfl := Option.some.inj (gTab.symm.trans hg3)
    obtain rfl := Option.some.inj (gTabType.symm.trans ht3)
    unfold Tab Lib.TabIs
    rw [hvar, ← Lib.cells_of_tab Tryz.underlying140 Tryz.underlying99 (by kernel_rfl) (by kernel_rfl) (zs := Lib.pow10Tab) hd3]

/-- A listed table's cells. -/
def arrT (d : DataW Unit) : Array Value := match d with
  | .agg l => (l.flatMap fun
    | .lit x => [x.value]
    | .agg k => k.map fun | .lit x => x.value | _ => undef
    | _ => []).toArray
  | _ => #[]
def putT (d : DataW Unit) : Obj → Obj
  | .cells _ t frozen => .cells (arrT d) t frozen
  | o => o
noncomputable def laidWorld5 (os : Os) : World :=
  { World.holding Tryz.prog os ⟨#[], #[], []⟩ with heap := (((((World.holding Tryz.prog os ⟨#[], #[], []⟩).heap.modify 0 (putT Rows.laid_unicode_utf8_first)).modify 1 (putT Rows.laid_unicode_utf8_acceptRanges)).modify 3 (putT Rows.laid_internal_strconv_uint64pow10)).modify 4 (putT Rows.laid_math_bits_deBruijn32tab)).modify 5 (putT Rows.laid_math_bits_deBruijn64tab) }

theorem c_int : Tryz.prog.cellsOf 3 = 1 := by kernel_rfl
theorem c_str : Tryz.prog.cellsOf 9 = 1 := by kernel_rfl
theorem c_fld : Tryz.prog.cellsOf 36 = 3 := by kernel_rfl
def fldEnc (f : Fld) : List Value := [.int .i64 f.k, .int .i64 f.l, .string (bs f.v)]

section
variable {H : Type} {enc : TypeId × Value → H} {W : World} {base : Nat} {spare : Nat → Bool} {held : Bool}
set_option maxRecDepth 100000 in
theorem dec_fld (fuel : Nat) (cs : List Value) (x : DataW H × List MemPlace) (hx : DataW.trod enc Tryz.prog W base spare held fuel 36 cs = some x) (hl : cs.length = 3) :
    ∃ f : Fld, cs = fldEnc f ∧ f.v.length ≤ maxLen := by
  obtain ⟨xs, m, _, _, _, hxl, hf⟩ := DataW.trod_struct Tryz.underlying36 hx
  obtain ⟨c0, c1, c2, rfl⟩ : ∃ a b c, cs = [a, b, c] := by
    cases cs with
    | nil => simp at hl
    | cons a t => cases t with
      | nil => simp at hl
      | cons b t => cases t with
        | nil => simp at hl
        | cons c t => cases t with
          | nil => exact ⟨a, b, c, rfl⟩
          | cons d t => simp at hl
  have f0 := hf 0 _ rfl
  have f1 := hf 1 _ rfl
  have f2 := hf 2 _ rfl
  change DataW.trod enc Tryz.prog W base spare held m 3 (List.take (Tryz.prog.cellsOf 3) (List.drop 0 [c0, c1, c2])) = xs[0]? at f0
  change DataW.trod enc Tryz.prog W base spare held m 3 (List.take (Tryz.prog.cellsOf 3) (List.drop 1 [c0, c1, c2])) = xs[1]? at f1
  change DataW.trod enc Tryz.prog W base spare held m 9 (List.take (Tryz.prog.cellsOf 9) (List.drop 2 [c0, c1, c2])) = xs[2]? at f2
  simp only [c_int, c_str, List.drop_zero, List.take_succ_cons, List.take_zero, List.drop_succ_cons] at f0 f1 f2
  simp only [List.size_toArray, List.length_cons, List.length_nil] at hxl
  rw [List.getElem?_eq_getElem (by omega)] at f0 f1 f2
  obtain ⟨n0, e0, _⟩ := DataW.trod_int Tryz.underlying3 f0
  obtain ⟨n1, e1, _⟩ := DataW.trod_int Tryz.underlying3 f1
  obtain ⟨s2, e2, _, z2⟩ := DataW.trod_string Tryz.underlying9 f2
  simp only [List.cons.injEq, and_true] at e0 e1 e2
  subst e0 e1 e2
  exact ⟨⟨n0, n1, s2.data.toList⟩, rfl, by rw [show s2.data.toList.length = s2.size by simp]; exact z2⟩
set_option maxRecDepth 100000 in
theorem fld_of {r : Reach} {base' : Nat} {v : Value} {d : DataW H} {p : List MemPlace}
    (hk : Value.okWide Tryz.prog W r base' 36 v) (h : DataW.Trod enc Tryz.prog W base spare held 36 v d p) : ∃ f : Fld, v = fldV f ∧ f.v.length ≤ maxLen := by
  obtain ⟨cs, rfl, hcs⟩ := okWide_struct Tryz.underlying36 hk
  obtain ⟨fuel, hx⟩ := h
  rw [c_fld] at hcs
  obtain ⟨f, h1, h2⟩ := dec_fld fuel _ _ hx hcs
  exact ⟨f, by rw [show cs = (fldEnc f).toArray by rw [← h1]; rfl]; rfl, h2⟩
end

end Go.Proofs.YtpejlcaoggedfaaGreatDoor
