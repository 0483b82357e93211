/-
  Items, writes, acts that came in, as lists.
-/
import Derived.Test.YtbeckfnhgeclnaaLift
import Derived.Test.YtbeckfnhgeclnaaColP
import Derived.Test.YtbeckfnhgeclnaaCards
set_option linter.unusedVariables false
set_option linter.unusedSimpArgs false
namespace Go.Proofs.Ytbeckfnhgeclnaa
open Go.ChangeShapes Go.WideShapes Go.ChangeAt Go.RowKit

theorem cc_int : Try.prog.cellsOf 3 = 1 := by kernel_rfl
theorem cc_i64 : Try.prog.cellsOf 2 = 1 := by kernel_rfl
theorem cc_bool : Try.prog.cellsOf 4 = 1 := by kernel_rfl
theorem cc_str : Try.prog.cellsOf 9 = 1 := by kernel_rfl
theorem cc_it : Try.prog.cellsOf 41 = 4 := by kernel_rfl
theorem cc_cond : Try.prog.cellsOf 63 = 2 := by kernel_rfl
theorem cc_op : Try.prog.cellsOf 65 = 5 := by kernel_rfl
theorem cc_act : Try.prog.cellsOf 67 = 6 := by kernel_rfl

/-- An act: a write, its token. -/
abbrev ActV := OpV × Int
def actE (x : ActV) : List Value := opEnc x.1 ++ [.int .i64 x.2]
theorem actE_len (x : ActV) : (actE x).length = 6 := rfl
def actsE (l : List ActV) : List Value := l.flatMap actE
def opsE (l : List OpV) : List Value := l.flatMap opEnc
def OpOk (o : OpV) : Prop := o.uid.length ≤ maxLen ∧ o.card.length ≤ maxLen

section
variable {H : Type} {enc : TypeId × Value → H} {W : World} {base : Nat} {spare : Nat → Bool} {held : Bool}

set_option maxRecDepth 100000 in
theorem cdec_it (fuel : Nat) (cs : List Value) (x : DataW H × List MemPlace) (hx : DataW.trod enc Try.prog W base spare held fuel 41 cs = some x) (hl : cs.length = 4) :
    ∃ r : It, cs = itEnc r ∧ (r.uid.length ≤ maxLen ∧ r.card.length ≤ maxLen) := by
  obtain ⟨xs, m, _, _, _, hxl, hf⟩ := DataW.trod_struct Try.underlying41 hx
  match cs, hl with
  | [c0, c1, c2, c3], _ =>
    have f0 := hf 0 _ rfl
    have f1 := hf 1 _ rfl
    have f2 := hf 2 _ rfl
    have f3 := hf 3 _ rfl
    change DataW.trod enc Try.prog W base spare held m 9 (List.take (Try.prog.cellsOf 9) (List.drop 0 [c0, c1, c2, c3])) = xs[0]? at f0
    change DataW.trod enc Try.prog W base spare held m 2 (List.take (Try.prog.cellsOf 2) (List.drop 1 [c0, c1, c2, c3])) = xs[1]? at f1
    change DataW.trod enc Try.prog W base spare held m 4 (List.take (Try.prog.cellsOf 4) (List.drop 2 [c0, c1, c2, c3])) = xs[2]? at f2
    change DataW.trod enc Try.prog W base spare held m 9 (List.take (Try.prog.cellsOf 9) (List.drop 3 [c0, c1, c2, c3])) = xs[3]? at f3
    simp only [cc_str, cc_i64, cc_bool, List.drop_zero, List.take_succ_cons, List.take_zero, List.drop_succ_cons] at f0 f1 f2 f3
    simp only [List.size_toArray, List.length_cons, List.length_nil] at hxl
    rw [List.getElem?_eq_getElem (by omega)] at f0 f1 f2 f3
    obtain ⟨s0, e0, _, z0⟩ := DataW.trod_string Try.underlying9 f0
    obtain ⟨n1, e1, _⟩ := DataW.trod_int Try.underlying2 f1
    obtain ⟨b2, e2, _⟩ := DataW.trod_bool Try.underlying4 f2
    obtain ⟨s3, e3, _, z3⟩ := DataW.trod_string Try.underlying9 f3
    simp only [List.cons.injEq, and_true] at e0 e1 e2 e3
    subst e0 e1 e2 e3
    exact ⟨⟨s0.data.toList, n1, b2, s3.data.toList⟩, rfl, by rw [← ba_size]; exact z0, by rw [← ba_size]; exact z3⟩

set_option maxRecDepth 100000 in
theorem cdec_cond (fuel : Nat) (cs : List Value) (x : DataW H × List MemPlace) (hx : DataW.trod enc Try.prog W base spare held fuel 63 cs = some x) (hl : cs.length = 2) :
    ∃ k v : Int, cs = [.int .i64 k, .int .i64 v] := by
  obtain ⟨xs, m, _, _, _, hxl, hf⟩ := DataW.trod_struct Try.underlying63 hx
  match cs, hl with
  | [c0, c1], _ =>
    have f0 := hf 0 _ rfl
    have f1 := hf 1 _ rfl
    change DataW.trod enc Try.prog W base spare held m 3 (List.take (Try.prog.cellsOf 3) (List.drop 0 [c0, c1])) = xs[0]? at f0
    change DataW.trod enc Try.prog W base spare held m 2 (List.take (Try.prog.cellsOf 2) (List.drop 1 [c0, c1])) = xs[1]? at f1
    simp only [cc_int, cc_i64, List.drop_zero, List.take_succ_cons, List.take_zero, List.drop_succ_cons] at f0 f1
    simp only [List.size_toArray, List.length_cons, List.length_nil] at hxl
    rw [List.getElem?_eq_getElem (by omega)] at f0 f1
    obtain ⟨n0, e0, _⟩ := DataW.trod_int Try.underlying3 f0
    obtain ⟨n1, e1, _⟩ := DataW.trod_int Try.underlying2 f1
    simp only [List.cons.injEq, and_true] at e0 e1
    subst e0 e1
    exact ⟨n0, n1, rfl⟩

set_option maxRecDepth 100000 in
theorem cdec_op (fuel : Nat) (cs : List Value) (x : DataW H × List MemPlace) (hx : DataW.trod enc Try.prog W base spare held fuel 65 cs = some x) (hl : cs.length = 5) :
    ∃ r : OpV, cs = opEnc r ∧ OpOk r := by
  obtain ⟨xs, m, _, _, _, hxl, hf⟩ := DataW.trod_struct Try.underlying65 hx
  match cs, hl with
  | [c0, c1, c2, c3, c4], _ =>
    have f0 := hf 0 _ rfl
    have f1 := hf 1 _ rfl
    have f2 := hf 2 _ rfl
    have f3 := hf 3 _ rfl
    change DataW.trod enc Try.prog W base spare held m 4 (List.take (Try.prog.cellsOf 4) (List.drop 0 [c0, c1, c2, c3, c4])) = xs[0]? at f0
    change DataW.trod enc Try.prog W base spare held m 9 (List.take (Try.prog.cellsOf 9) (List.drop 1 [c0, c1, c2, c3, c4])) = xs[1]? at f1
    change DataW.trod enc Try.prog W base spare held m 9 (List.take (Try.prog.cellsOf 9) (List.drop 2 [c0, c1, c2, c3, c4])) = xs[2]? at f2
    change DataW.trod enc Try.prog W base spare held m 63 (List.take (Try.prog.cellsOf 63) (List.drop 3 [c0, c1, c2, c3, c4])) = xs[3]? at f3
    simp only [cc_str, cc_cond, cc_bool, List.drop_zero, List.take_succ_cons, List.take_zero, List.drop_succ_cons] at f0 f1 f2 f3
    simp only [List.size_toArray, List.length_cons, List.length_nil] at hxl
    rw [List.getElem?_eq_getElem (by omega)] at f0 f1 f2 f3
    obtain ⟨b0, e0, _⟩ := DataW.trod_bool Try.underlying4 f0
    obtain ⟨s1, e1, _, z1⟩ := DataW.trod_string Try.underlying9 f1
    obtain ⟨s2, e2, _, z2⟩ := DataW.trod_string Try.underlying9 f2
    obtain ⟨k, v, e3⟩ := cdec_cond m [c3, c4] _ f3 rfl
    simp only [List.cons.injEq, and_true] at e0 e1 e2 e3
    obtain ⟨e3, e4⟩ := e3
    subst e0 e1 e2 e3 e4
    exact ⟨⟨b0, s1.data.toList, s2.data.toList, k, v⟩, rfl, by rw [← ba_size]; exact z1, by rw [← ba_size]; exact z2⟩

set_option maxRecDepth 100000 in
theorem cdec_act (fuel : Nat) (cs : List Value) (x : DataW H × List MemPlace) (hx : DataW.trod enc Try.prog W base spare held fuel 67 cs = some x) (hl : cs.length = 6) :
    ∃ r : ActV, cs = actE r ∧ OpOk r.1 := by
  obtain ⟨xs, m, _, _, _, hxl, hf⟩ := DataW.trod_struct Try.underlying67 hx
  match cs, hl with
  | [c0, c1, c2, c3, c4, c5], _ =>
    have f0 := hf 0 _ rfl
    have f1 := hf 1 _ rfl
    change DataW.trod enc Try.prog W base spare held m 65 (List.take (Try.prog.cellsOf 65) (List.drop 0 [c0, c1, c2, c3, c4, c5])) = xs[0]? at f0
    change DataW.trod enc Try.prog W base spare held m 2 (List.take (Try.prog.cellsOf 2) (List.drop 5 [c0, c1, c2, c3, c4, c5])) = xs[1]? at f1
    simp only [cc_op, cc_i64, List.drop_zero, List.take_succ_cons, List.take_zero, List.drop_succ_cons] at f0 f1
    simp only [List.size_toArray, List.length_cons, List.length_nil] at hxl
    rw [List.getElem?_eq_getElem (by omega)] at f0 f1
    obtain ⟨n1, e1, _⟩ := DataW.trod_int Try.underlying2 f1
    obtain ⟨o, e0, ho⟩ := cdec_op m [c0, c1, c2, c3, c4] _ f0 rfl
    simp only [List.cons.injEq, and_true] at e1
    subst e1
    exact ⟨⟨o, n1⟩, by rw [show [c0, c1, c2, c3, c4, Value.int .i64 n1] = [c0, c1, c2, c3, c4] ++ [.int .i64 n1] from rfl, e0]; rfl, ho⟩

theorem cap_of {t e : TypeId} {A : Option Addr} {n c : Nat} {d : DataW H} {p : List MemPlace} (ht : Try.prog.underlying t = some (.slice e)) (h : DataW.Trod enc Try.prog W base spare held t (.slice A n c) d p) : n ≤ c := by
  obtain ⟨fuel, hf⟩ := h
  rcases DataW.trod_slice ht hf with ⟨h, _⟩ | ⟨a, n', c', _, _, _, _, h, _, _, hnc, _⟩
  · simp [Value.cells] at h
    omega
  · simp [Value.cells] at h
    omega
theorem rds_of_its {t : TypeId} {A : Option Addr} {n c : Nat} {d : DataW H} {p : List MemPlace} (ht : Try.prog.underlying t = some (.slice 41)) (h : DataW.Trod enc Try.prog W base spare held t (.slice A n c) d p) :
    ∃ l : List It, Rds W A n 4 (itsEnc l) ∧ n = l.length ∧ n ≤ maxLen ∧ n ≤ c := by
  obtain ⟨l, h1, h2, h3, _⟩ := rds_of_slice (R := It) itEnc 4 itEnc_len (by decide) (fun r => r.uid.length ≤ maxLen ∧ r.card.length ≤ maxLen) ht cc_it (fun fuel cs x hx hl => cdec_it fuel cs x hx hl) h
  exact ⟨l, h1, h2, h3, cap_of ht h⟩
theorem rds_of_ops {t : TypeId} {A : Option Addr} {n c : Nat} {d : DataW H} {p : List MemPlace} (ht : Try.prog.underlying t = some (.slice 65)) (h : DataW.Trod enc Try.prog W base spare held t (.slice A n c) d p) :
    ∃ l : List OpV, Rds W A n 5 (opsE l) ∧ n = l.length ∧ n ≤ maxLen ∧ (∀ r ∈ l, OpOk r) :=
  rds_of_slice (R := OpV) opEnc 5 opEnc_len (by decide) OpOk ht cc_op (fun fuel cs x hx hl => cdec_op fuel cs x hx hl) h
theorem rds_of_acts {t : TypeId} {A : Option Addr} {n c : Nat} {d : DataW H} {p : List MemPlace} (ht : Try.prog.underlying t = some (.slice 67)) (h : DataW.Trod enc Try.prog W base spare held t (.slice A n c) d p) :
    ∃ l : List ActV, Rds W A n 6 (actsE l) ∧ n = l.length ∧ n ≤ maxLen ∧ (∀ r ∈ l, OpOk r.1) :=
  rds_of_slice (R := ActV) actE 6 actE_len (by decide) (fun r => OpOk r.1) ht cc_act (fun fuel cs x hx hl => cdec_act fuel cs x hx hl) h
end

end Go.Proofs.Ytbeckfnhgeclnaa
