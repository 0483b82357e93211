/-
  strings.Compare.
-/
import Derived.Test.YtbeckfnhgeclnaaBase
import Derived.Test.YtbeckfnhgeclnaaProg
import Derived.Laws.Externs
import Derived.Lib.Bytealg
set_option linter.unusedVariables false
set_option linter.unusedSimpArgs false
namespace Go.Proofs.Ytbeckfnhgeclnaa
open Go.RowKit Go.Lib

theorem bcmp_calls (w : World) (a b : List UInt8) :
    Calls Try.prog 115 #[.string (bs a), .string (bs b)] w fun e w' => e = .returned (.int .i64 (compareBytes a b)) ∧ w = w' := by
  have hx : (callFunc 128 #[.string (bs a), .string (bs b)]).run Try.prog w = .ok (.value (.int .i64 (compareBytes a b))) w := by
    rw [run_callFunc_extern Try.func128 (by kernel_rfl) (by kernel_rfl) (by kernel_rfl) (e := Extern.BytealgCompare.compare) (by kernel_rfl), Lib.run_compareString]
    rfl
  go_enter Try.func115, Try.ntmps115
  go_wp2_with (simp only [hx])
  go_ret
  exact ⟨rfl, rfl⟩
theorem scmp_calls (w : World) (a b : List UInt8) :
    Calls Try.prog 90 #[.string (bs a), .string (bs b)] w fun e w' => e = .returned (.int .i64 (compareBytes a b)) ∧ w = w' := by
  have hb := hd (bcmp_calls w a b)
  go_enter Try.func90, Try.ntmps90
  go_wp2_with fail
  refine hb.o.mono ?_
  rintro e w1 ⟨rfl, rfl⟩
  go_wp2_with fail
  go_ret
  exact ⟨rfl, rfl⟩

end Go.Proofs.Ytbeckfnhgeclnaa
