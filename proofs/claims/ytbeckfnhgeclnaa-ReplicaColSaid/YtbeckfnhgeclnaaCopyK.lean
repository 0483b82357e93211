/-
  copy between slices whose elements have several cells; zero cells; for every program.
-/
import Derived.Test.YtbeckfnhgeclnaaRowLaw
import Derived.Lib.AppendZerosOnto
import Derived.Lib.Overlaps
import Derived.Laws.Externs
import Derived.Laws.NewBlocks
set_option linter.unusedVariables false
set_option linter.unusedSimpArgs false
namespace Go.Proofs.Ytbeckfnhgeclnaa
open Go.RowKit

theorem run_copy_k {P : Program} (w : World) (dT sT ty elem : TypeId) (k g o dLen dCap : Nat) (a : Addr) (sLen sCap : Nat) (cur : Array Value) (t : TypeId) (cs : List Value)
    (hu : P.underlying dT = some (.slice elem)) (hs : (P.info? elem).map (·.size) = some k)
    (hg : Blk w g t cur) (hn : cs.length = Nat.min sLen dLen * k)
    (hsrc : ∀ j v, cs[j]? = some v → w.cell? (a.add j) = some v) (hfit : o + cs.length ≤ cur.size) (h1 : ∀ v ∈ cs, v.oneCell' = true) :
    (Builtin.copy_ #[dT, sT] ty #[.slice (some ⟨g, o, none⟩) dLen dCap, .slice (some a) sLen sCap]).run P w =
      .ok (goInt (Nat.min sLen dLen : Nat)) (w.setRow g (cur.toList.take o ++ cs ++ cur.toList.drop (o + cs.length)).toArray) := by
  have hl := run_loadCells_list (P := P) w a cs hsrc
  have hst := run_storeCells_at P g o t cs 0 cur w hg (by simpa using hfit) h1
  cases hq : P.info? elem with
  | none => simp [hq] at hs
  | some i =>
    have hi : i.size = k := by simpa [hq] using hs
    have hm : i.size * Nat.min sLen dLen = cs.length := by rw [hi, hn, Nat.mul_comm]
    have hm2 : Nat.min sLen dLen * i.size = cs.length := by rw [hi, hn]
    simp [Builtin.copy_, run_underlying hu, Builtin.lenOf, Builtin.firstCells, sizeOf, typeInfo, hq, hm, hm2, hl, hst]

theorem wp_copy_k {P : Program} (w : World) {o : Oper} {a : Act} {K : Act → World → Prop} {Q : Exit → Act → World → Prop} (d s : Operand) (t t' : TypeId)
    (ho : o.op = .call { callee := .builtin .copy, args := #[d, s], argTypes := #[t, t'] }) (v u : Value) (hd : a.eval d = v) (hs : a.eval s = u) {v' : Value} {w' : World}
    (hr : (Builtin.copy_ #[t, t'] o.type #[v, u]).run P w = .ok v' w') (h : K (a.put o.dst v') w') : o.wp P a w K Q := by
  unfold Oper.wp execOp
  simp only [ho, resolve, invoke, builtin, Sem.run_bind, Sem.run_pure, Result.andThen_ok, List.map_toArray, List.map_cons, List.map_nil, hd, hs, hr]
  exact h
theorem wpList_copy_k {P : Program} (w : World) {ops : Array Oper} {rest : List Oper} {o : Oper} {a : Act} {Q : Exit → Act → World → Prop} (hgd : o.guard = none) (d s : Operand) (t t' : TypeId)
    (ho : o.op = .call { callee := .builtin .copy, args := #[d, s], argTypes := #[t, t'] }) (v u : Value) (hd : a.eval d = v) (hs : a.eval s = u) {v' : Value} {w' : World}
    (hr : (Builtin.copy_ #[t, t'] o.type #[v, u]).run P w = .ok v' w') (h : wpList P ops Q rest (a.put o.dst v') w') : wpList P ops Q (o :: rest) a w :=
  wpList_plain hgd fun _ hK => wp_copy_k w d s t t' ho v u hd hs hr (hK _ _ h)
theorem step_copy_k {P : Program} {ops : Array Oper} {o : Oper} {a : Act} {w : World} {K : Act → World → Prop} {Q : Exit → Act → World → Prop} {E : Prop}
    (hg : o.guard = none) (d x : Operand) (dT sT : TypeId) (hop : o.op = Op.call { callee := Callee.builtin Builtin.copy, args := #[d, x], argTypes := #[dT, sT] })
    (v u : Value) (hd : a.eval d = v) (hx : a.eval x = u) {v' : Value} {w' : World} (hr : (Builtin.copy_ #[dT, sT] o.type #[v, u]).run P w = .ok v' w') (hK : K (a.put o.dst v') w') :
    if Region.wanted o (yielded ops a.tmps) = true then Oper.wp P o a w K Q else E := by
  have hw : Region.wanted o (yielded ops a.tmps) = true := by simp [Region.wanted, hg]
  rw [if_pos hw]
  unfold Oper.wp
  simp [execOp, hop, resolve, invoke, builtin, hd, hx, hr, Result.andThen]
  exact hK

/-- One element of k cells put in at place i: in place (n + 1 elements have room): the cells from i on are moved up by one element, then the new one is laid over. -/
theorem ins_list (cur xs vs : List Value) (i k n : Nat) (hx : cur.take (n * k) = xs) (hl : (n + 1) * k ≤ cur.length) (hi : i ≤ n) (hv : vs.length = k) (c1 c2 : List Value)
    (h1 : c1 = cur.take ((i + 1) * k) ++ xs.drop (i * k) ++ cur.drop ((i + 1) * k + (xs.drop (i * k)).length)) (h2 : c2 = c1.take (i * k) ++ vs ++ c1.drop (i * k + vs.length)) :
    c2.take ((n + 1) * k) = xs.take (i * k) ++ vs ++ xs.drop (i * k) := by
  have hnk : n * k ≤ cur.length := by rw [Nat.add_mul] at hl; omega
  have hxl : xs.length = n * k := by rw [← hx, List.length_take]; omega
  have hik : i * k ≤ n * k := Nat.mul_le_mul_right k hi
  have e1 : (i + 1) * k = i * k + k := by rw [Nat.add_mul, Nat.one_mul]
  have e2 : (n + 1) * k = n * k + k := by rw [Nat.add_mul, Nat.one_mul]
  rw [e1] at h1
  rw [e2] at hl ⊢
  generalize i * k = p at *
  generalize n * k = q at *
  have t1 : c1.take p = xs.take p := by
    rw [h1, ← hx, List.append_assoc, List.take_append_of_le_length (by rw [List.length_take]; omega), List.take_take, List.take_take]
    congr 1
    omega
  have t2 : c1.drop (p + k) = xs.drop p ++ cur.drop (p + k + (xs.drop p).length) := by
    rw [h1, List.append_assoc, List.drop_append_of_le_length (by rw [List.length_take]; omega)]
    rw [List.drop_of_length_le (by rw [List.length_take]; omega)]
    rfl
  rw [h2, hv, t1, t2]
  have hlen : (xs.take p ++ vs ++ xs.drop p).length = q + k := by
    simp only [List.length_append, List.length_take, List.length_drop, hxl, hv]
    omega
  rw [← List.append_assoc, ← hlen]
  exact List.take_left

/-- The same in a new row, laid by append of zero cells. -/
theorem ins_list2 (row xs vs : List Value) (i k n : Nat) (ht : row.take (i * k) = xs.take (i * k)) (hx : xs.length = n * k) (hl : (n + 1) * k ≤ row.length) (hi : i ≤ n) (hv : vs.length = k) (c1 c2 : List Value)
    (h1 : c1 = row.take (i * k) ++ vs ++ row.drop (i * k + vs.length)) (h2 : c2 = c1.take ((i + 1) * k) ++ xs.drop (i * k) ++ c1.drop ((i + 1) * k + (xs.drop (i * k)).length)) :
    c2.take ((n + 1) * k) = xs.take (i * k) ++ vs ++ xs.drop (i * k) := by
  have hik : i * k ≤ n * k := Nat.mul_le_mul_right k hi
  have e1 : (i + 1) * k = i * k + k := by rw [Nat.add_mul, Nat.one_mul]
  have e2 : (n + 1) * k = n * k + k := by rw [Nat.add_mul, Nat.one_mul]
  rw [e1] at h2
  rw [e2] at hl ⊢
  generalize i * k = p at *
  generalize n * k = q at *
  have t1 : c1.take (p + k) = xs.take p ++ vs := by
    have hl2 : (xs.take p ++ vs).length = p + k := by rw [List.length_append, List.length_take, hx, hv]; omega
    rw [h1, ht, ← hl2]
    exact List.take_left
  rw [h2, t1]
  have hlen : (xs.take p ++ vs ++ xs.drop p).length = q + k := by
    simp only [List.length_append, List.length_take, List.length_drop, hx, hv]
    omega
  rw [← hlen]
  exact List.take_left
theorem zeroCells_size (z : Array Value) (n : Nat) : (Builtin.zeroCells z n).size = n * z.size := by rw [size_zeroCells]

end Go.Proofs.Ytbeckfnhgeclnaa
