/-
  append of what is read, maybe nothing; for every program.
-/
import Derived.Test.YtbeckfnhgeclnaaAppN
set_option linter.unusedVariables false
set_option linter.unusedSimpArgs false
namespace Go.Proofs.Ytbeckfnhgeclnaa
open Go.RowKit

theorem run_append_none0 {P : Program} (w : World) (t ty e : TypeId) (i : TypeInfo) (ht : P.underlying t = some (.slice e)) (hi : P.info? e = some i) (A : Option Addr) (n cap : Nat) (hle : n ≤ cap) (B : Option Addr) (c : Nat) :
    (Builtin.append_ #[t, t] ty #[.slice A n cap, .slice B 0 c]).run P w = .ok (.slice A n cap) w := by
  have hs : Src P i.size t (.slice B 0 c) 0 [] w := by
    cases B with
    | none => exact Src.ofNil w ht c
    | some b => exact Src.ofSlice w ht b 0 c [] (by simp) (by simp) (by simp)
  exact run_append_nothing (P := P) w t t ty e i ht hi A n cap hle (.slice B 0 c) hs
theorem news_nil {size : Nat} {news : List Value} {w : World} {B : Option Addr} (h : Rds w B 0 size news) : news = [] := List.eq_nil_of_length_eq_zero (by have := h.len; simpa using this)
/-- Onto an owned row. -/
theorem run_append_rowG {P : Program} (w : World) (S : Nat → Prop) (t ty e : TypeId) (i : TypeInfo) (z : Value) (size bytes : Nat) (ht : P.underlying t = some (.slice e)) (hi : P.info? e = some i) (hz : i.zero = some z)
    (hsize : i.size = size) (hby : i.bytes = bytes) (hzs : z.cells.size = size) (A : Option Addr) (n cap : Nat) (xs : List Value) (hr : Row w S e size A n cap xs)
    (B : Option Addr) (m c : Nat) (news : List Value) (hsrc : Rds w B m size news) (h1 : ∀ u ∈ news, u.oneCell' = true)
    (h63 : n + m ≤ maxLen) (hbytes : (n + m) * bytes ≤ 140737488355328) :
    ∃ A' c' w', (Builtin.append_ #[t, t] ty #[.slice A n cap, .slice B m c]).run P w = .ok (.slice A' (n + m) c') w' ∧ Row w' (Plus S w.heap.size) e size A' (n + m) c' (xs ++ news) ∧ Chg S w w' := by
  by_cases h0 : 0 < m
  · obtain ⟨g, o, rfl, hg, hc⟩ := hsrc.at_ h0
    exact run_append_row w S t ty e i z size bytes ht hi hz hsize hby hzs A n cap xs hr ⟨g, o, none⟩ m c news hsrc.len (fun j u hu => by rw [Addr.add_lit]; exact hc j u hu) h1 h0 h63 hbytes
  · obtain rfl : m = 0 := by omega
    obtain rfl := news_nil hsrc
    exact ⟨A, cap, w, run_append_none0 w t ty e i ht hi A n cap hr.cap.1 B c, by simpa using hr.mono (fun q hq => .inl hq), Chg.refl _ _⟩
theorem wpList_append_rowG {P : Program} {w : World} {Q : Exit → Act → World → Prop} {a : Act} {ops : Array Oper} {rest : List Oper} {o : Oper} (hgd : o.guard = none) (s x : Operand) (t : TypeId)
    (ho : o.op = .call { callee := .builtin .append, args := #[s, x], argTypes := #[t, t] })
    (S : Nat → Prop) (e : TypeId) (i : TypeInfo) (z : Value) (size bytes : Nat) (ht : P.underlying t = some (.slice e)) (hi : P.info? e = some i) (hz : i.zero = some z)
    (hsize : i.size = size) (hby : i.bytes = bytes) (hzs : z.cells.size = size) (A : Option Addr) (n cap : Nat) (xs : List Value) (hs : a.eval s = .slice A n cap) (hr : Row w S e size A n cap xs)
    (B : Option Addr) (m c : Nat) (news : List Value) (hx : a.eval x = .slice B m c) (hsrc : Rds w B m size news) (h1 : ∀ u ∈ news, u.oneCell' = true)
    (h63 : n + m ≤ maxLen) (hbytes : (n + m) * bytes ≤ 140737488355328)
    (h : ∀ A' c' w', Row w' (Plus S w.heap.size) e size A' (n + m) c' (xs ++ news) → Chg S w w' → wpList P ops Q rest (a.put o.dst (.slice A' (n + m) c')) w') : wpList P ops Q (o :: rest) a w :=
  wpList_plain hgd fun K hK => by
    obtain ⟨A', c', w', hrun, h2, h3⟩ := run_append_rowG (P := P) w S t o.type e i z size bytes ht hi hz hsize hby hzs A n cap xs hr B m c news hsrc h1 h63 hbytes
    unfold Oper.wp execOp
    simp only [ho, resolve, invoke, builtin, Sem.run_bind, Sem.run_pure, Result.andThen_ok, List.map_toArray, List.map_cons, List.map_nil, hs, hx, hrun]
    exact hK _ _ (h A' c' w' h2 h3)
/-- Onto a row or a slice with no room. -/
theorem run_append_orG {P : Program} (w : World) (S : Nat → Prop) (t ty e : TypeId) (i : TypeInfo) (z : Value) (size bytes : Nat) (ht : P.underlying t = some (.slice e)) (hi : P.info? e = some i) (hz : i.zero = some z)
    (hsize : i.size = size) (hby : i.bytes = bytes) (hzs : z.cells.size = size) (A : Option Addr) (n cap : Nat) (xs : List Value) (hr : RowO w S e size A n cap xs)
    (B : Option Addr) (m c : Nat) (news : List Value) (hsrc : Rds w B m size news) (h1 : ∀ u ∈ news, u.oneCell' = true)
    (h63 : n + m ≤ maxLen) (hbytes : (n + m) * bytes ≤ 140737488355328) :
    ∃ A' c' w', (Builtin.append_ #[t, t] ty #[.slice A n cap, .slice B m c]).run P w = .ok (.slice A' (n + m) c') w' ∧ RowO w' (Plus S w.heap.size) e size A' (n + m) c' (xs ++ news) ∧ Chg S w w' := by
  rcases hr with hr | ⟨rfl, rfl, rfl⟩
  · obtain ⟨A', c', w', k1, k2, k3⟩ := run_append_rowG (P := P) w S t ty e i z size bytes ht hi hz hsize hby hzs A n cap xs hr B m c news hsrc h1 h63 hbytes
    exact ⟨A', c', w', k1, .inl k2, k3⟩
  · by_cases h0 : 0 < m
    · obtain ⟨g, o, rfl, hg, hc⟩ := hsrc.at_ h0
      obtain ⟨A', c', w', h2, h3, h4⟩ := run_append_new (P := P) w t ty e i z size bytes ht hi hz hsize hby hzs A 0 0 [] (by simp) (fun _ => ⟨rfl, rfl⟩) (fun b hb j u hu => by simp at hu) ⟨g, o, none⟩ m c news hsrc.len (fun j u hu => by rw [Addr.add_lit]; exact hc j u hu) h0 (by omega) h63 hbytes
      exact ⟨A', c', w', h2, .inl (h3.mono (fun q hq => .inr hq)), Chg.of_below S h4⟩
    · obtain rfl : m = 0 := by omega
      obtain rfl := news_nil hsrc
      exact ⟨A, 0, w, run_append_none0 w t ty e i ht hi A 0 0 (Nat.le_refl _) B c, .inr ⟨rfl, rfl, rfl⟩, Chg.refl _ _⟩
theorem wpList_append_orG {P : Program} {w : World} {Q : Exit → Act → World → Prop} {a : Act} {ops : Array Oper} {rest : List Oper} {o : Oper} (hgd : o.guard = none) (s x : Operand) (t : TypeId)
    (ho : o.op = .call { callee := .builtin .append, args := #[s, x], argTypes := #[t, t] })
    (S : Nat → Prop) (e : TypeId) (i : TypeInfo) (z : Value) (size bytes : Nat) (ht : P.underlying t = some (.slice e)) (hi : P.info? e = some i) (hz : i.zero = some z)
    (hsize : i.size = size) (hby : i.bytes = bytes) (hzs : z.cells.size = size) (A : Option Addr) (n cap : Nat) (xs : List Value) (hs : a.eval s = .slice A n cap) (hr : RowO w S e size A n cap xs)
    (B : Option Addr) (m c : Nat) (news : List Value) (hx : a.eval x = .slice B m c) (hsrc : Rds w B m size news) (h1 : ∀ u ∈ news, u.oneCell' = true)
    (h63 : n + m ≤ maxLen) (hbytes : (n + m) * bytes ≤ 140737488355328)
    (h : ∀ A' c' w', RowO w' (Plus S w.heap.size) e size A' (n + m) c' (xs ++ news) → Chg S w w' → wpList P ops Q rest (a.put o.dst (.slice A' (n + m) c')) w') : wpList P ops Q (o :: rest) a w :=
  wpList_plain hgd fun K hK => by
    obtain ⟨A', c', w', hrun, h2, h3⟩ := run_append_orG (P := P) w S t o.type e i z size bytes ht hi hz hsize hby hzs A n cap xs hr B m c news hsrc h1 h63 hbytes
    unfold Oper.wp execOp
    simp only [ho, resolve, invoke, builtin, Sem.run_bind, Sem.run_pure, Result.andThen_ok, List.map_toArray, List.map_cons, List.map_nil, hs, hx, hrun]
    exact hK _ _ (h A' c' w' h2 h3)

end Go.Proofs.Ytbeckfnhgeclnaa
