/-
  strings.HasPrefix at the empty prefix.
-/
import Derived.Test.YtbeckfnhgeclnaaBase
import Derived.Test.YtbeckfnhgeclnaaProg
import Derived.BigQuiet
import Derived.Deep.QuietTactic
set_option linter.unusedVariables false
set_option linter.unusedSimpArgs false
namespace Go.Proofs.Ytbeckfnhgeclnaa
open Go.RowKit

theorem hp1_calls (w : World) (s : ByteArray) :
    Calls Try.prog 122 #[.string s, .string ⟨#[]⟩] w fun e w' => e = .returned (.bool true) ∧ w = w' := by
  go_enter Try.func122, Try.ntmps122
  go_wp2
  all_goals
    go_ret
    refine ⟨ret_bool ?_, rfl⟩
    first | rfl | (simp [ByteArray.extract]; done) | (simp; done) | trace_state
theorem hp_calls (w : World) (s : ByteArray) :
    Calls Try.prog 104 #[.string s, .string ⟨#[]⟩] w fun e w' => e = .returned (.bool true) ∧ w = w' := by
  have hb := hd (hp1_calls w s)
  go_enter Try.func104, Try.ntmps104
  go_wp2_with fail
  refine hb.o.mono ?_
  rintro e w1 ⟨rfl, rfl⟩
  go_wp2_with fail
  go_ret
  exact ⟨rfl, rfl⟩

end Go.Proofs.Ytbeckfnhgeclnaa
