/-
  A step law for append (nil, full or with room) in a drawn region; for every program.
-/
import Derived.Test.YtbeckfnhgeclnaaRowLaw
import Derived.Deep.RegionLaw
namespace Go.Proofs.Ytbeckfnhgeclnaa
open Go.RowKit

theorem step_append_any {P : Program} {ops : Array Oper} {o : Oper} {a : Act} {w : World} {K : Act → World → Prop} {Q : Exit → Act → World → Prop} {E : Prop}
    (hg : o.guard = none) (s x : Operand) (t : TypeId) (hop : o.op = Op.call { callee := Callee.builtin Builtin.append, args := #[s, x], argTypes := #[t, t] })
    (S : Nat → Prop) (e : TypeId) (i : TypeInfo) (z : Value) (size bytes : Nat) (ht : P.underlying t = some (.slice e)) (hi : P.info? e = some i) (hz : i.zero = some z)
    (hsize : i.size = size) (hby : i.bytes = bytes) (hzs : z.cells.size = size) (A : Option Addr) (n cap : Nat) (xs : List Value) (hs : a.eval s = .slice A n cap)
    (ad : Addr) (m c : Nat) (news : List Value) (hx : a.eval x = .slice (some ad) m c) (hl : news.length = m * size) (h1 : ∀ u ∈ news, u.oneCell' = true)
    (h0 : 0 < m) (h63 : n + m ≤ maxLen) (hbytes : (n + m) * bytes ≤ 140737488355328)
    (hr : Row w S e size A n cap xs) (hnews : ∀ j u, news[j]? = some u → w.cell? (ad.add j) = some u)
    (h : ∀ A' c' w', Row w' (Plus S w.heap.size) e size A' (n + m) c' (xs ++ news) → Chg S w w' → K (a.put o.dst (.slice A' (n + m) c')) w') :
    if Region.wanted o (yielded ops a.tmps) = true then Oper.wp P o a w K Q else E := by
  have hw : Region.wanted o (yielded ops a.tmps) = true := by simp [Region.wanted, hg]
  rw [if_pos hw]
  obtain ⟨A', c', w', hrun, h2, h3⟩ := run_append_row (P := P) w S t o.type e i z size bytes ht hi hz hsize hby hzs A n cap xs hr ad m c news hl hnews h1 h0 h63 hbytes
  unfold Oper.wp execOp
  simp only [hop, resolve, invoke, builtin, Sem.run_bind, Sem.run_pure, Result.andThen_ok, List.map_toArray, List.map_cons, List.map_nil, hs, hx, hrun]
  exact h A' c' w' h2 h3

theorem balloc {B : Nat} {a w : World} (h : Below B a w) (hB : B = a.heap.size) (o : Obj) : Below B a (w.alloc o) := h.alloc (by rw [hB]; subst hB; exact h.size) o
theorem bdrw {B : Nat} {a w : World} (h : Below B a w) : Below B a w.drew := ⟨h.os, h.tape, h.output, h.size, h.block⟩
theorem bchg {B : Nat} {a w w' : World} {S : Nat → Prop} (h : Below B a w) (hc : Chg S w w') (hs : ∀ k, S k → B ≤ k) (hB : B = a.heap.size) : Below B a w' :=
  h.trans (hc.below hs (by subst hB; exact h.size))

end Go.Proofs.Ytbeckfnhgeclnaa
