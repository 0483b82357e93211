/-
  Rows of fields.
-/
import Derived.Test.YtpejlcaoggedfaaGreatDoorFldL
import Derived.Test.YtpejlcaoggedfaaGreatDoorItP
import Derived.Test.YtpejlcaoggedfaaGreatDoorRowLaw
import Derived.Sort.Grow
set_option linter.unusedVariables false
set_option linter.unusedSimpArgs false
namespace Go.Proofs.YtpejlcaoggedfaaGreatDoor
open Go.RowKit Go.Sort

def fEnc (f : Fld) : List Value := [.int .i64 f.k, .int .i64 f.l, .string (bs f.v)]
def fsE (l : List Fld) : List Value := l.flatMap fEnc
theorem fEnc_len (f : Fld) : (fEnc f).length = 3 := rfl
theorem fsE_at (l : List Fld) (i : Nat) (h : i < l.length) (j : Nat) (hj : j < 3) : (fsE l)[i * 3 + j]? = (fEnc l[i])[j]? := flat_at fEnc 3 fEnc_len l i h j hj
theorem fsE_app (a b : List Fld) : fsE (a ++ b) = fsE a ++ fsE b := by unfold fsE; rw [List.flatMap_append]
theorem fsE_snoc (a : List Fld) (f : Fld) : fsE (a ++ [f]) = fsE a ++ fEnc f := by rw [fsE_app]; simp [fsE]
theorem fEnc_one (f : Fld) (v : Value) (h : v ∈ fEnc f) : v.oneCell' = true := by
  simp only [fEnc, List.mem_cons, List.mem_nil_iff, or_false] at h
  rcases h with rfl | rfl | rfl <;> rfl
/-- Two boxes behind each other. -/
def two_c (w' w : World) (t : TypeId) (c1 c2 : Array Value) : Prop := Blk w' w.heap.size t c1 ∧ Blk w' (w.heap.size + 1) t c2
theorem two_c_of (w : World) (t : TypeId) (c1 c2 : Array Value) (os : Array Obj) : two_c (grow ((w.alloc (.cells c1 t)).alloc (.cells c2 t)) os) w t c1 c2 := by
  have h1 : Blk ((w.alloc (.cells c1 t)).alloc (.cells c2 t)) w.heap.size t c1 := (Blk.new w t c1).alloc _
  have h2 : Blk ((w.alloc (.cells c1 t)).alloc (.cells c2 t)) (w.heap.size + 1) t c2 := Blk.new_ _ _ (by simp) _ _
  exact ⟨(heap_grow_old _ _ h1.lt).trans h1, (heap_grow_old _ _ h2.lt).trans h2⟩

end Go.Proofs.YtpejlcaoggedfaaGreatDoor
