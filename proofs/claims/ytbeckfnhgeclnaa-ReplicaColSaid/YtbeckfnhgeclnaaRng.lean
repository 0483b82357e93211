/-
  Ranges over functions: what stays, in this folder's words.
-/
import Derived.Test.YtbeckfnhgeclnaaCopyK
import Derived.RangeFuncNested
import Derived.RangeFuncBound
import Derived.RangeFuncCalls
import Derived.RangeFuncLeaves
import Derived.OwnWalkIn
import Derived.TacticsInMore
set_option linter.unusedVariables false
set_option linter.unusedSimpArgs false
namespace Go.Proofs.Ytbeckfnhgeclnaa
open Go.RowKit

theorem kf_of_chg {S : Nat → Prop} {B : Nat} {W W' : World} (h : Chg S W W') (hS : ∀ k o, S k → W.heap[k]? = some o → o.isCells = true) : KeepsFrom B W W' :=
  ⟨h.size, fun k o _ hk ho => by
    have hlt := (Array.getElem?_eq_some_iff.1 hk).1
    by_cases hs : S k
    · rw [hS k o hs hk] at ho; cases ho
    · exact (h.block k hlt hs).trans hk⟩
theorem blk_cells {W : World} {g : Nat} {t : TypeId} {cs : Array Value} (h : Blk W g t cs) : ∀ o, W.heap[g]? = some o → o.isCells = true := fun o ho => by
  rw [show W.heap[g]? = some _ from h] at ho
  injection ho with ho
  subst ho
  rfl
theorem of_cells {W : World} {S : Nat → Prop} {e : TypeId} {size n c : Nat} {A : Option Addr} {xs : List Value} (h : Row W S e size A n c xs) : ∀ k o, Of A k → W.heap[k]? = some o → o.isCells = true := by
  intro k o hk ho
  cases A with
  | none => exact (Of.none hk).elim
  | some a =>
    obtain ⟨g, cur, hA, _, hB, _⟩ := h.block rfl
    have e1 : k = g := by rw [hk.some_, hA]
    subst e1
    exact blk_cells hB o ho
theorem blk_own {W W' : World} {g : Nat} {t : TypeId} {cs : Array Value} {row : Option Nat} {B : Nat} (h : Blk W g t cs) (hg : W.grownBy W' row) (hr : ∀ r, row = some r → B ≤ r ∧ ∃ o : Obj, W.heap[r]? = some o ∧ o.isCells = false) : Blk W' g t cs :=
  h.grown hg (fun e => by
    obtain ⟨_, o, ho, hc⟩ := hr g e.symm
    rw [blk_cells h o ho] at hc
    cases hc)
theorem row_own {W W' : World} {S : Nat → Prop} {e : TypeId} {size n c : Nat} {A : Option Addr} {xs : List Value} {row : Option Nat} {B : Nat} (h : Row W S e size A n c xs) (hg : W.grownBy W' row) (hr : ∀ r, row = some r → B ≤ r ∧ ∃ o : Obj, W.heap[r]? = some o ∧ o.isCells = false) : Row W' S e size A n c xs :=
  h.keep fun a ha => by
    have hlt := h.lt ha
    refine hg.block _ hlt fun e => ?_
    obtain ⟨_, o, ho, hc⟩ := hr _ e.symm
    rw [of_cells h a.block o (by rw [ha]; rfl) ho] at hc
    cases hc
theorem chg_own {S : Nat → Prop} {w W W' : World} {row : Option Nat} {B : Nat} (h : Chg S w W) (hB : w.heap.size ≤ B) (hg : W.grownBy W' row) (hr : ∀ r, row = some r → B ≤ r ∧ ∃ o : Obj, W.heap[r]? = some o ∧ o.isCells = false) : Chg S w W' :=
  h.grown hg fun k e => .inr (Nat.le_trans hB (hr k e).1)
theorem below_own {B0 : Nat} {w W W' : World} {row : Option Nat} {B : Nat} (h : Below B0 w W) (hB : B0 ≤ w.heap.size) (hB2 : B0 ≤ B) (hg : W.grownBy W' row) (hr : ∀ r, row = some r → B ≤ r ∧ ∃ o : Obj, W.heap[r]? = some o ∧ o.isCells = false) : Below B0 w W' :=
  h.grown hg (Nat.le_trans hB h.size) fun k e => Nat.le_trans hB2 (hr k e).1
/-- The law's own book-keeping turns none of what an iterator wants kept. -/
theorem chgK_b {T : Nat → Prop} {w : World} (hT : ∀ k, T k → k < w.heap.size) (W : World) (l : Nat) (o o' : Obj) (hl : w.heap.size ≤ l) (h : W.heap[l]? = some o) (_ : o.isCells = false) (_ : o.isWalk = false) : Chg (fun k => ¬ T k) W (W.putObj l o') :=
  (Chg.refl _ W).grown (grownBy_putObj' W l o') (fun k e => by cases e; exact .inl fun ht => by have := hT _ ht; omega)
theorem chgK_t {T : Nat → Prop} {A B C : World} (h : Chg (fun k => ¬ T k) A B) (k : Chg (fun k => ¬ T k) B C) : Chg (fun k => ¬ T k) A C := h.trans k (fun _ h => .inl h)
theorem put_own {W : World} {D : Nat} {o o' : Obj} (h : W.heap[D]? = some o) (ho : o.isCells = false) : W.grownBy (W.putObj D o') (some D) ∧ (∀ r, some D = some r → D ≤ r ∧ ∃ o : Obj, W.heap[r]? = some o ∧ o.isCells = false) :=
  ⟨grownBy_putObj' W D o', fun r e => by cases e; exact ⟨Nat.le_refl _, o, h, ho⟩⟩

theorem cells_at {w : World} {g : Nat} {t : TypeId} {cs : Array Value} {l : List Value} (hb : Blk w g t cs) (hl : cs.toList = l) : ∀ j u, l[j]? = some u → w.cell? ((⟨g, 0, none⟩ : Addr).add j) = some u := by
  intro j u hu
  rw [Addr.add_lit, Nat.zero_add, hb.cell, ← hu, ← hl]
  simp

/-- append within a round. -/
theorem wpListIn_append_row {F : Fence} {n : Nat} {P : Program} {w : World} {Q : Exit → Act → World → Prop} {a : Act} {ops : Array Oper} {rest : List Oper} {o : Oper} (hgd : o.guard = none) (s x : Operand) (t : TypeId)
    (ho : o.op = .call { callee := .builtin .append, args := #[s, x], argTypes := #[t, t] })
    (S : Nat → Prop) (e : TypeId) (i : TypeInfo) (z : Value) (size bytes : Nat) (ht : P.underlying t = some (.slice e)) (hi : P.info? e = some i) (hz : i.zero = some z)
    (hsize : i.size = size) (hby : i.bytes = bytes) (hzs : z.cells.size = size) (A : Option Addr) (k cap : Nat) (xs : List Value) (hs : a.eval s = .slice A k cap) (hr : Row w S e size A k cap xs)
    (ad : Addr) (m c : Nat) (news : List Value) (hx : a.eval x = .slice (some ad) m c) (hl : news.length = m * size) (hnews : ∀ j u, news[j]? = some u → w.cell? (ad.add j) = some u) (h1 : ∀ u ∈ news, u.oneCell' = true)
    (h0 : 0 < m) (h63 : k + m ≤ maxLen) (hbytes : (k + m) * bytes ≤ 140737488355328)
    (h : ∀ A' c' w', Row w' (Plus S w.heap.size) e size A' (k + m) c' (xs ++ news) → Chg S w w' → wpListIn F n P ops Q rest (a.put o.dst (.slice A' (k + m) c')) w') : wpListIn F n P ops Q (o :: rest) a w := by
  refine wpListIn_plain hgd fun K hK' => ?_
  obtain ⟨A', c', w', hrun, h2, h3⟩ := run_append_row (P := P) w S t o.type e i z size bytes ht hi hz hsize hby hzs A k cap xs hr ad m c news hl hnews h1 h0 h63 hbytes
  unfold Oper.wpIn
  refine ⟨?_, ?_⟩
  · simp [Oper.about, ho, resolve, Target.leads, Sem.run_pure]
  · rw [Oper.semAt_plain F _ _ (by rw [ho]; intro c hc'; cases hc')]
    simp [execOp, ho, resolve, invoke, builtin, hs, hx, hrun, Result.andThen]
    exact hK' _ _ (h A' c' w' h2 h3)

end Go.Proofs.Ytbeckfnhgeclnaa
