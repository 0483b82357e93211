/-
  From a reading of a slice of fields to what the walks ask.
-/
import Derived.Test.YtpejlcaoggedfaaGreatDoorFldLift
import Derived.Test.YtpejlcaoggedfaaGreatDoorFldK
import Derived.Test.YtpejlcaoggedfaaGreatDoorLift
set_option linter.unusedVariables false
set_option linter.unusedSimpArgs false
namespace Go.Proofs.YtpejlcaoggedfaaGreatDoor
open Go.ChangeShapes Go.WideShapes Go.ChangeAt Go.RowKit

section
variable {H : Type} {enc : TypeId × Value → H} {W : World} {base : Nat} {spare : Nat → Bool} {held : Bool}
theorem fcap_of {t e : TypeId} {A : Option Addr} {n c : Nat} {d : DataW H} {p : List MemPlace} (ht : Tryz.prog.underlying t = some (.slice e)) (h : DataW.Trod enc Tryz.prog W base spare held t (.slice A n c) d p) : n ≤ c := by
  obtain ⟨fuel, hf⟩ := h
  rcases DataW.trod_slice ht hf with ⟨h, _⟩ | ⟨a, n', c', _, _, _, _, h, _, _, hnc, _⟩
  · simp [Value.cells] at h
    omega
  · simp [Value.cells] at h
    omega
theorem rds_of_fs {t : TypeId} {A : Option Addr} {n c : Nat} {d : DataW H} {p : List MemPlace} (ht : Tryz.prog.underlying t = some (.slice 36)) (h : DataW.Trod enc Tryz.prog W base spare held t (.slice A n c) d p) :
    ∃ l : List Fld, Rds W A n 3 (fsE l) ∧ n = l.length ∧ n ≤ maxLen ∧ n ≤ c := by
  obtain ⟨l, h1, h2, h3, _⟩ := rds_of_slice (R := Fld) fEnc 3 fEnc_len (by decide) (fun r => r.v.length ≤ maxLen) ht c_fld (fun fuel cs x hx hl => dec_fld fuel cs x hx hl) h
  exact ⟨l, h1, h2, h3, fcap_of ht h⟩
end

end Go.Proofs.YtpejlcaoggedfaaGreatDoor
