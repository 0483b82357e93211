/-
  The shelf's contracts at this program, in plain words: what the kit's own laying commands write for it, pasted by a program.
-/
import Derived.Shelf.Strings.Prefix
import Derived.Shelf.LaysM
import Derived.Test.YtpejlcaoggedfaaDoorProg
set_option linter.unusedVariables false
set_option linter.unusedSimpArgs false
namespace Go.Proofs.YtpejlcaoggedfaaDoor
open Go.Shelf
def lays101_ren : Go.Shelf.Ren := ⟨fun | 101 => 78 | 208 => 100 | 206 => 111 | n => n, fun | 9 => 9 | 4 => 4 | 3 => 3 | n => n, fun | n => n⟩
theorem lays101 : Go.Proofs.Lays.n101 Tryd.prog lays101_ren := {
  mixed := by kernel_rfl
  f101 := Tryd.func78.trans (congrArg some (by kernel_rfl))
  f206 := Tryd.func111.trans (congrArg some (by kernel_rfl))
  f208 := Tryd.func100.trans (congrArg some (by kernel_rfl))
  t3 := Tryd.underlying3
  a3 := Tryd.isAgg3
  z3 := Tryd.sizeOf3
  v3 := Tryd.zeroValue3
  t4 := Tryd.underlying4
  a4 := Tryd.isAgg4
  z4 := Tryd.sizeOf4
  v4 := Tryd.zeroValue4
  t9 := Tryd.underlying9
  a9 := Tryd.isAgg9
  z9 := Tryd.sizeOf9
  v9 := Tryd.zeroValue9 }
end Go.Proofs.YtpejlcaoggedfaaDoor
