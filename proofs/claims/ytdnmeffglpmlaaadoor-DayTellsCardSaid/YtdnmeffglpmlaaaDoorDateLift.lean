/-
  From a reading of a date, and from the row's list, to what the walks ask.
-/
import Derived.Test.YtdnmeffglpmlaaaDoorDayA
import Derived.Test.YtdnmeffglpmlaaaDoorCards
import Derived.Test.YtdnmeffglpmlaaaDoorTie
import Derived.ProofKit
import Derived.OpenShut
import Derived.ShutString
import Derived.ChangeOld
import Derived.Deep.Slices
import Derived.Deep.Fields
import Derived.Deep.DeepHandedRow
import Derived.Lib.LaidTab
namespace Go.Proofs.YtdnmeffglpmlaaaDoor
open Go.ChangeShapes Go.WideShapes Go.ChangeAt Go.RowKit

theorem own : ownKnob Tryd.prog.godebug = none := by kernel_rfl
theorem laidOut : laidOutB Tryd.prog = true := by kernel_rfl

theorem date_of {H : Type} {enc : TypeId × Value → H} {W : World} {r : Reach} {base base' : Nat} {spare : Nat → Bool} {held : Bool} {v : Value} {d : DataW H} {p : List MemPlace}
    (hk : Value.okWide Tryd.prog W r base' 23 v) (h : DataW.Trod enc Tryd.prog W base spare held 23 v d p) : ∃ y m d : Int, v = .agg #[.int .i64 y, .int .i64 m, .int .i64 d] := by
  obtain ⟨cs, rfl, hcs⟩ := okWide_struct Tryd.underlying23 hk
  obtain ⟨fuel, hx⟩ := h
  obtain ⟨xs, m, _, _, _, hxl, hf⟩ := DataW.trod_struct Tryd.underlying23 hx
  have hc : Tryd.prog.cellsOf 3 = 1 := by kernel_rfl
  have hc3 : Tryd.prog.cellsOf 23 = 3 := by kernel_rfl
  rw [hc3] at hcs
  obtain ⟨l⟩ := cs
  match l, hcs with
  | [c0, c1, c2], _ =>
    have f0 := hf 0 _ rfl
    have f1 := hf 1 _ rfl
    have f2 := hf 2 _ rfl
    change DataW.trod enc Tryd.prog W base spare held m 3 (List.take (Tryd.prog.cellsOf 3) (List.drop 0 [c0, c1, c2])) = xs[0]? at f0
    change DataW.trod enc Tryd.prog W base spare held m 3 (List.take (Tryd.prog.cellsOf 3) (List.drop 1 [c0, c1, c2])) = xs[1]? at f1
    change DataW.trod enc Tryd.prog W base spare held m 3 (List.take (Tryd.prog.cellsOf 3) (List.drop 2 [c0, c1, c2])) = xs[2]? at f2
    simp only [hc, List.drop_zero, List.take_succ_cons, List.take_zero, List.drop_succ_cons] at f0 f1 f2
    simp only [List.size_toArray, List.length_cons, List.length_nil] at hxl
    rw [List.getElem?_eq_getElem (by omega)] at f0 f1 f2
    obtain ⟨n0, e0, _⟩ := DataW.trod_int Tryd.underlying3 f0
    obtain ⟨n1, e1, _⟩ := DataW.trod_int Tryd.underlying3 f1
    obtain ⟨n2, e2, _⟩ := DataW.trod_int Tryd.underlying3 f2
    simp only [List.cons.injEq, and_true] at e0 e1 e2
    subst e0 e1 e2
    exact ⟨n0, n1, n2, rfl⟩

theorem gTab : Tryd.prog.globalNamed "internal/strconv.uint64pow10" = some 3 := by kernel_rfl
theorem gTabType : (Tryd.prog.globals[3]?).map (·.type) = some 79 := by kernel_rfl
theorem tab_of {W : World} (h : laidMetH Tryd.prog [("math/bits.deBruijn32tab", Rows.laid_math_bits_deBruijn32tab), ("math/bits.deBruijn64tab", Rows.laid_math_bits_deBruijn64tab), ("internal/strconv.uint64pow10", Rows.laid_internal_strconv_uint64pow10)] W) : Tab W := by
  have h' : laidMet Tryd.prog [("math/bits.deBruijn32tab", Rows.laid_math_bits_deBruijn32tab), ("math/bits.deBruijn64tab", Rows.laid_math_bits_deBruijn64tab), ("internal/strconv.uint64pow10", Rows.laid_internal_strconv_uint64pow10)] W := h
  obtain ⟨ps, ⟨g1, t1, cs1, f1, p1, q1, _, _, _, _, ⟨g2, t2, cs2, f2, p2, q2, _, _, _, _, ⟨g3, t3, cs3, f3, p3, q3, hg3, ht3, hvar, hd3, _, _⟩, _⟩, _⟩, _⟩ := h'
  obtain rfl := Option.some.inj (gTab.symm.trans hg3)
  obtain rfl := Option.some.inj (gTabType.symm.trans ht3)
  unfold Tab Lib.TabIs
  rw [hvar, ← Lib.cells_of_tab Tryd.underlying79 Tryd.underlying66 (by kernel_rfl) (by kernel_rfl) (zs := Lib.pow10Tab) hd3]

/-- A listed table's cells. -/
def arrOf (d : DataW Unit) : Array Value := match d with
  | .agg l => (l.map fun | .lit x => x.value | _ => undef).toArray
  | _ => #[]
def putArr (d : DataW Unit) : Obj → Obj
  | .cells _ t frozen => .cells (arrOf d) t frozen
  | o => o
noncomputable def laidWorld (os : Os) : World :=
  { World.holding Tryd.prog os ⟨#[], #[], []⟩ with heap := (((World.holding Tryd.prog os ⟨#[], #[], []⟩).heap.modify 3 (putArr Rows.laid_internal_strconv_uint64pow10)).modify 4 (putArr Rows.laid_math_bits_deBruijn32tab)).modify 5 (putArr Rows.laid_math_bits_deBruijn64tab) }

end Go.Proofs.YtdnmeffglpmlaaaDoor
