/-
  An answer that came in by value.
-/
import Derived.Test.YtbeckfnhgeclnaaActsR
namespace Go.Proofs.Ytbeckfnhgeclnaa
open Go.ChangeShapes Go.WideShapes Go.ChangeAt Go.RowKit

set_option maxRecDepth 100000 in
theorem rs_of {H : Type} {enc : TypeId × Value → H} {W : World} {r : Reach} {base base' : Nat} {spare : Nat → Bool} {held : Bool} {v : Value} {d : DataW H} {p : List MemPlace}
    (hk : Value.okWide Try.prog W r base' 35 v) (h : DataW.Trod enc Try.prog W base spare held 35 v d p) : ∃ (q : Rs) (A : Option Addr) (c : Nat) (items : List It), v = .agg (rsEnc q A items.length c).toArray ∧ RsOk W q A items := by
  obtain ⟨cs, rfl, hcs⟩ := okWide_struct Try.underlying35 hk
  obtain ⟨fuel, hx⟩ := h
  rw [c_rs] at hcs
  obtain ⟨q, A, c, items, h1, h2⟩ := dec_rs fuel _ _ hx hcs
  obtain ⟨l⟩ := cs
  exact ⟨q, A, c, items, by rw [show l = rsEnc q A items.length c from h1], h2⟩
set_option maxRecDepth 100000 in
theorem rs_cap {H : Type} {enc : TypeId × Value → H} {W : World} {base : Nat} {spare : Nat → Bool} {held : Bool} {fuel : Nat} {q : Rs} {A : Option Addr} {n c : Nat} {x : DataW H × List MemPlace} (hx : DataW.trod enc Try.prog W base spare held fuel 35 (rsEnc q A n c) = some x) : n ≤ c := by
  obtain ⟨xs, m, _, _, _, hxl, hf⟩ := DataW.trod_struct Try.underlying35 hx
  have f7 := hf 7 _ rfl
  change DataW.trod enc Try.prog W base spare held m 28 (List.take (Try.prog.cellsOf 28) (List.drop 7 (rsEnc q A n c))) = xs[7]? at f7
  simp only [rsEnc, c_its, List.drop_zero, List.take_succ_cons, List.take_zero, List.drop_succ_cons] at f7
  simp only [List.size_toArray, List.length_cons, List.length_nil] at hxl
  rw [List.getElem?_eq_getElem (by omega)] at f7
  rcases DataW.trod_slice Try.underlying28 f7 with ⟨h, _⟩ | ⟨a, n', c', _, _, _, _, h, _, _, hnc, _⟩
  · simp only [List.cons.injEq, and_true, Value.slice.injEq] at h
    omega
  · simp only [List.cons.injEq, and_true, Value.slice.injEq] at h
    omega
set_option maxRecDepth 100000 in
theorem rs_of_cap {H : Type} {enc : TypeId × Value → H} {W : World} {r : Reach} {base base' : Nat} {spare : Nat → Bool} {held : Bool} {v : Value} {d : DataW H} {p : List MemPlace}
    (hk : Value.okWide Try.prog W r base' 35 v) (h : DataW.Trod enc Try.prog W base spare held 35 v d p) : ∃ (q : Rs) (A : Option Addr) (c : Nat) (items : List It), v = .agg (rsEnc q A items.length c).toArray ∧ RsOk W q A items ∧ items.length ≤ c := by
  obtain ⟨q, A, c, items, rfl, hok⟩ := rs_of hk h
  obtain ⟨fuel, hx⟩ := h
  exact ⟨q, A, c, items, rfl, hok, rs_cap hx⟩

end Go.Proofs.Ytbeckfnhgeclnaa
