/-
  Acts of a session that came in, as a list; texts too.
-/
import Derived.Test.YtogjokofmfpmgaaGreatDoorLift
import Derived.Test.YtogjokofmfpmgaaGreatDoorSesJ
set_option linter.unusedVariables false
set_option linter.unusedSimpArgs false
namespace Go.Proofs.YtogjokofmfpmgaaGreatDoor
open Go.ChangeShapes Go.WideShapes Go.ChangeAt Go.RowKit

theorem sc_int : Tryz.prog.cellsOf 3 = 1 := by kernel_rfl
theorem sc_str : Tryz.prog.cellsOf 9 = 1 := by kernel_rfl
theorem sc_act : Tryz.prog.cellsOf 52 = 2 := by kernel_rfl
section
variable {H : Type} {enc : TypeId × Value → H} {W : World} {base : Nat} {spare : Nat → Bool} {held : Bool}

set_option maxRecDepth 100000 in
theorem rds_of_sacs {t : TypeId} {A : Option Addr} {n c : Nat} {d : DataW H} {p : List MemPlace} (ht : Tryz.prog.underlying t = some (.slice 52)) (h : DataW.Trod enc Tryz.prog W base spare held t (.slice A n c) d p) :
    ∃ l : List SAc, Rds W A n 2 (sacE l) ∧ n = l.length ∧ n ≤ maxLen ∧ (∀ a ∈ l, a.s.length ≤ maxLen) :=
  rds_of_slice (R := SAc) sacEnc 2 sacEnc_len (by decide) (fun a => a.s.length ≤ maxLen) ht sc_act (by
    intro fuel cs x hx hl
    obtain ⟨xs, m, _, _, _, hxl, hf⟩ := DataW.trod_struct Tryz.underlying52 hx
    match cs, hl with
    | [c0, c1], _ =>
      have f0 := hf 0 _ rfl
      have f1 := hf 1 _ rfl
      change DataW.trod enc Tryz.prog W base spare held m 3 (List.take (Tryz.prog.cellsOf 3) (List.drop 0 [c0, c1])) = xs[0]? at f0
      change DataW.trod enc Tryz.prog W base spare held m 9 (List.take (Tryz.prog.cellsOf 9) (List.drop 1 [c0, c1])) = xs[1]? at f1
      simp only [sc_int, sc_str, List.drop_zero, List.take_succ_cons, List.take_zero, List.drop_succ_cons] at f0 f1
      simp only [List.size_toArray, List.length_cons, List.length_nil] at hxl
      rw [List.getElem?_eq_getElem (by omega)] at f0 f1
      obtain ⟨n0, e0, _⟩ := DataW.trod_int Tryz.underlying3 f0
      obtain ⟨s1, e1, _, z1⟩ := DataW.trod_string Tryz.underlying9 f1
      simp only [List.cons.injEq, and_true] at e0 e1
      subst e0 e1
      exact ⟨⟨n0, s1.data.toList⟩, rfl, by rw [← ba_size]; exact z1⟩) h
end

end Go.Proofs.YtogjokofmfpmgaaGreatDoor
