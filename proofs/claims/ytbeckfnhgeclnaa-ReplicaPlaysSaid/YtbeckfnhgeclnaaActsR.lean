/-
  Answers that came in, as a list.
-/
import Derived.Test.YtbeckfnhgeclnaaLift
import Derived.Test.YtbeckfnhgeclnaaLightR
namespace Go.Proofs.Ytbeckfnhgeclnaa
open Go.ChangeShapes Go.WideShapes Go.ChangeAt Go.RowKit

theorem c_int : Try.prog.cellsOf 3 = 1 := by kernel_rfl
theorem c_i64 : Try.prog.cellsOf 2 = 1 := by kernel_rfl
theorem c_err : Try.prog.cellsOf 32 = 1 := by kernel_rfl
theorem c_bool : Try.prog.cellsOf 4 = 1 := by kernel_rfl
theorem c_str : Try.prog.cellsOf 9 = 1 := by kernel_rfl
theorem c_its : Try.prog.cellsOf 28 = 1 := by kernel_rfl
theorem c_it : Try.prog.cellsOf 41 = 4 := by kernel_rfl
theorem c_rs : Try.prog.cellsOf 35 = 8 := by kernel_rfl
theorem c_act : Try.prog.cellsOf 37 = 9 := by kernel_rfl

section
variable {H : Type} {enc : TypeId × Value → H} {W : World} {base : Nat} {spare : Nat → Bool} {held : Bool}

set_option maxRecDepth 100000 in
theorem dec_it (fuel : Nat) (cs : List Value) (x : DataW H × List MemPlace) (hx : DataW.trod enc Try.prog W base spare held fuel 41 cs = some x) (hl : cs.length = 4) :
    ∃ r : It, cs = itEnc r ∧ (r.uid.length ≤ maxLen ∧ r.card.length ≤ maxLen) := by
  obtain ⟨xs, m, _, _, _, hxl, hf⟩ := DataW.trod_struct Try.underlying41 hx
  match cs, hl with
  | [c0, c1, c2, c3], _ =>
    have f0 := hf 0 _ rfl
    have f1 := hf 1 _ rfl
    have f2 := hf 2 _ rfl
    have f3 := hf 3 _ rfl
    change DataW.trod enc Try.prog W base spare held m 9 (List.take (Try.prog.cellsOf 9) (List.drop 0 [c0, c1, c2, c3])) = xs[0]? at f0
    change DataW.trod enc Try.prog W base spare held m 2 (List.take (Try.prog.cellsOf 2) (List.drop 1 [c0, c1, c2, c3])) = xs[1]? at f1
    change DataW.trod enc Try.prog W base spare held m 4 (List.take (Try.prog.cellsOf 4) (List.drop 2 [c0, c1, c2, c3])) = xs[2]? at f2
    change DataW.trod enc Try.prog W base spare held m 9 (List.take (Try.prog.cellsOf 9) (List.drop 3 [c0, c1, c2, c3])) = xs[3]? at f3
    simp only [c_str, c_i64, c_bool, List.drop_zero, List.take_succ_cons, List.take_zero, List.drop_succ_cons] at f0 f1 f2 f3
    simp only [List.size_toArray, List.length_cons, List.length_nil] at hxl
    rw [List.getElem?_eq_getElem (by omega)] at f0 f1 f2 f3
    obtain ⟨s0, e0, _, z0⟩ := DataW.trod_string Try.underlying9 f0
    obtain ⟨n1, e1, _⟩ := DataW.trod_int Try.underlying2 f1
    obtain ⟨b2, e2, _⟩ := DataW.trod_bool Try.underlying4 f2
    obtain ⟨s3, e3, _, z3⟩ := DataW.trod_string Try.underlying9 f3
    simp only [List.cons.injEq, and_true] at e0 e1 e2 e3
    subst e0 e1 e2 e3
    exact ⟨⟨s0.data.toList, n1, b2, s3.data.toList⟩, rfl, by rw [← ba_size]; exact z0, by rw [← ba_size]; exact z3⟩

set_option maxRecDepth 100000 in
theorem dec_rs (fuel : Nat) (cs : List Value) (x : DataW H × List MemPlace) (hx : DataW.trod enc Try.prog W base spare held fuel 35 cs = some x) (hl : cs.length = 8) :
    ∃ (r : Rs) (A : Option Addr) (c : Nat) (items : List It), cs = rsEnc r A items.length c ∧ RsOk W r A items := by
  obtain ⟨xs, m, _, _, _, hxl, hf⟩ := DataW.trod_struct Try.underlying35 hx
  match cs, hl with
  | [c0, c1, c2, c3, c4, c5, c6, c7], _ =>
    have f0 := hf 0 _ rfl
    have f1 := hf 1 _ rfl
    have f2 := hf 2 _ rfl
    have f3 := hf 3 _ rfl
    have f4 := hf 4 _ rfl
    have f5 := hf 5 _ rfl
    have f6 := hf 6 _ rfl
    have f7 := hf 7 _ rfl
    change DataW.trod enc Try.prog W base spare held m 3 (List.take (Try.prog.cellsOf 3) (List.drop 0 [c0, c1, c2, c3, c4, c5, c6, c7])) = xs[0]? at f0
    change DataW.trod enc Try.prog W base spare held m 32 (List.take (Try.prog.cellsOf 32) (List.drop 1 [c0, c1, c2, c3, c4, c5, c6, c7])) = xs[1]? at f1
    change DataW.trod enc Try.prog W base spare held m 2 (List.take (Try.prog.cellsOf 2) (List.drop 2 [c0, c1, c2, c3, c4, c5, c6, c7])) = xs[2]? at f2
    change DataW.trod enc Try.prog W base spare held m 2 (List.take (Try.prog.cellsOf 2) (List.drop 3 [c0, c1, c2, c3, c4, c5, c6, c7])) = xs[3]? at f3
    change DataW.trod enc Try.prog W base spare held m 9 (List.take (Try.prog.cellsOf 9) (List.drop 4 [c0, c1, c2, c3, c4, c5, c6, c7])) = xs[4]? at f4
    change DataW.trod enc Try.prog W base spare held m 3 (List.take (Try.prog.cellsOf 3) (List.drop 5 [c0, c1, c2, c3, c4, c5, c6, c7])) = xs[5]? at f5
    change DataW.trod enc Try.prog W base spare held m 4 (List.take (Try.prog.cellsOf 4) (List.drop 6 [c0, c1, c2, c3, c4, c5, c6, c7])) = xs[6]? at f6
    change DataW.trod enc Try.prog W base spare held m 28 (List.take (Try.prog.cellsOf 28) (List.drop 7 [c0, c1, c2, c3, c4, c5, c6, c7])) = xs[7]? at f7
    simp only [c_int, c_err, c_str, c_i64, c_bool, c_its, List.drop_zero, List.take_succ_cons, List.take_zero, List.drop_succ_cons] at f0 f1 f2 f3 f4 f5 f6 f7
    simp only [List.size_toArray, List.length_cons, List.length_nil] at hxl
    rw [List.getElem?_eq_getElem (by omega)] at f0 f1 f2 f3 f4 f5 f6 f7
    obtain ⟨n0, e0, _⟩ := DataW.trod_int Try.underlying3 f0
    obtain ⟨n1, e1, _⟩ := DataW.trod_int Try.underlying32 f1
    obtain ⟨n2, e2, _⟩ := DataW.trod_int Try.underlying2 f2
    obtain ⟨n3, e3, _⟩ := DataW.trod_int Try.underlying2 f3
    obtain ⟨s4, e4, _, z4⟩ := DataW.trod_string Try.underlying9 f4
    obtain ⟨n5, e5, _⟩ := DataW.trod_int Try.underlying3 f5
    obtain ⟨b6, e6, _⟩ := DataW.trod_bool Try.underlying4 f6
    have e7 : ∃ A n c, c7 = .slice A n c := by
      rcases DataW.trod_slice Try.underlying28 f7 with ⟨h, _⟩ | ⟨a, n, c, _, _, _, _, h, _⟩
      · simp only [List.cons.injEq, and_true] at h; exact ⟨_, _, _, h⟩
      · simp only [List.cons.injEq, and_true] at h; exact ⟨_, _, _, h⟩
    obtain ⟨A, n, c, rfl⟩ := e7
    obtain ⟨l, h1, h2, h3, h4⟩ := rds_of_slice (R := It) (t := 28) (e := 41) itEnc 4 itEnc_len (by decide) (fun r => r.uid.length ≤ maxLen ∧ r.card.length ≤ maxLen) Try.underlying28 c_it (fun fuel cs x hx hl => dec_it fuel cs x hx hl) ⟨m, f7⟩
    simp only [List.cons.injEq, and_true] at e0 e1 e2 e3 e4 e5 e6
    subst e0 e1 e2 e3 e4 e5 e6
    subst h2
    exact ⟨⟨n0, n1, n2, n3, s4.data.toList, n5, b6⟩, A, c, l, rfl, h1, h3, by rw [← ba_size]; exact z4, h4⟩

set_option maxRecDepth 100000 in
theorem rds_of_acs {t : TypeId} {A : Option Addr} {n c : Nat} {d : DataW H} {p : List MemPlace}
    (ht : Try.prog.underlying t = some (.slice 37)) (h : DataW.Trod enc Try.prog W base spare held t (.slice A n c) d p) :
    ∃ l : List Ac, Rds W A n 9 (acsEnc l) ∧ n = l.length ∧ n ≤ maxLen ∧ ∀ x ∈ l, RsOk W x.rs x.A x.items :=
  rds_of_slice (R := Ac) acEnc 9 acEnc_len (by decide) (fun x => RsOk W x.rs x.A x.items) ht c_act (by
    intro fuel cs x hx hl
    obtain ⟨xs, m, _, _, _, hxl, hf⟩ := DataW.trod_struct Try.underlying37 hx
    match cs, hl with
    | c0 :: cr, hl =>
      have f0 := hf 0 _ rfl
      have f1 := hf 1 _ rfl
      change DataW.trod enc Try.prog W base spare held m 2 (List.take (Try.prog.cellsOf 2) (List.drop 0 (c0 :: cr))) = xs[0]? at f0
      change DataW.trod enc Try.prog W base spare held m 35 (List.take (Try.prog.cellsOf 35) (List.drop 1 (c0 :: cr))) = xs[1]? at f1
      have hcr : cr.length = 8 := by simpa using hl
      rw [c_i64, List.drop_zero, List.take_succ_cons, List.take_zero] at f0
      rw [c_rs, List.drop_succ_cons, List.drop_zero, List.take_of_length_le (by omega)] at f1
      simp only [List.size_toArray, List.length_cons, List.length_nil] at hxl
      rw [List.getElem?_eq_getElem (by omega)] at f0 f1
      obtain ⟨n0, e0, _⟩ := DataW.trod_int Try.underlying2 f0
      obtain ⟨r, A2, c2, items, e1, hok⟩ := dec_rs m cr _ f1 hcr
      simp only [List.cons.injEq, and_true] at e0
      subst e0 e1
      exact ⟨⟨n0, r, A2, c2, items⟩, rfl, hok⟩) h
end

end Go.Proofs.Ytbeckfnhgeclnaa
