/-
  The clock's acts that came in, as a list.
-/
import Derived.Test.YtdnmeffglpmlaaaLift
import Derived.Test.YtdnmeffglpmlaaaClkStays
namespace Go.Proofs.Ytdnmeffglpmlaaa
open Go.ChangeShapes Go.WideShapes Go.ChangeAt Go.RowKit

theorem act_cells : Try.prog.cellsOf 31 = 3 := by kernel_rfl

theorem rds_of_acts {H : Type} {enc : TypeId × Value → H} {W : World} {base : Nat} {spare : Nat → Bool} {held : Bool} {t : TypeId} {A : Option Addr} {n c : Nat} {d : DataW H} {p : List MemPlace}
    (ht : Try.prog.underlying t = some (.slice 31)) (h : DataW.Trod enc Try.prog W base spare held t (.slice A n c) d p) :
    ∃ l : Acts, Rds W A n 3 (actEnc l) ∧ n = l.length ∧ n ≤ maxLen := by
  obtain ⟨l, h1, h2, h3, _⟩ := rds_of_slice (R := Int × Int × Int) (fun x => [.int .i64 x.1, .int .i64 x.2.1, .int .i64 x.2.2]) 3 (fun _ => rfl) (by decide) (fun _ => True) ht act_cells (by
    intro fuel cs x hx hl
    obtain ⟨xs, m, _, _, _, hxl, hf⟩ := DataW.trod_struct Try.underlying31 hx
    have hc : Try.prog.cellsOf 3 = 1 := by kernel_rfl
    match cs, hl with
    | [c0, c1, c2], _ =>
      have f0 := hf 0 _ rfl
      have f1 := hf 1 _ rfl
      have f2 := hf 2 _ rfl
      change DataW.trod enc Try.prog W base spare held m 3 (List.take (Try.prog.cellsOf 3) (List.drop 0 [c0, c1, c2])) = xs[0]? at f0
      change DataW.trod enc Try.prog W base spare held m 3 (List.take (Try.prog.cellsOf 3) (List.drop 1 [c0, c1, c2])) = xs[1]? at f1
      change DataW.trod enc Try.prog W base spare held m 3 (List.take (Try.prog.cellsOf 3) (List.drop 2 [c0, c1, c2])) = xs[2]? at f2
      simp only [hc, List.drop_zero, List.take_succ_cons, List.take_zero, List.drop_succ_cons] at f0 f1 f2
      simp only [List.size_toArray, List.length_cons, List.length_nil] at hxl
      rw [List.getElem?_eq_getElem (by omega)] at f0 f1 f2
      obtain ⟨n0, e0, _⟩ := DataW.trod_int Try.underlying3 f0
      obtain ⟨n1, e1, _⟩ := DataW.trod_int Try.underlying3 f1
      obtain ⟨n2, e2, _⟩ := DataW.trod_int Try.underlying3 f2
      simp only [List.cons.injEq, and_true] at e0 e1 e2
      subst e0 e1 e2
      exact ⟨(n0, n1, n2), rfl, trivial⟩) h
  exact ⟨l, h1, h2, h3⟩

end Go.Proofs.Ytdnmeffglpmlaaa
