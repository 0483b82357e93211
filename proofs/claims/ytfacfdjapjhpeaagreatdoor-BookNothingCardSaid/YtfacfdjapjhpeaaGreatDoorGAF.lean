/-
  append where it surely lays a new row, and where nothing is appended; for every program.
-/
import Derived.Test.YtfacfdjapjhpeaaGreatDoorGAB
import Derived.Deep.Upon
import Derived.Test.YtfacfdjapjhpeaaGreatDoorGAA
import Derived.Test.YtfacfdjapjhpeaaGreatDoorGAE
import Derived.Test.YtfacfdjapjhpeaaGreatDoorProg
import Derived.Deep.RegionLaw
import Derived.Deep.CutRange
import Derived.Deep.Cut
import Derived.BigQuiet
import Derived.Deep.QuietTactic
import Derived.Deep.RegionWith
set_option linter.unusedVariables false
set_option linter.unusedSimpArgs false
namespace Go.Proofs.YtfacfdjapjhpeaaGreatDoor
open Go.RowKit

/-- append of at least one element onto what is read: no room, so a new row. -/
theorem run_append_new {P : Program} (w : World) (t ty e : TypeId) (i : TypeInfo) (z : Value) (size bytes : Nat) (ht : P.underlying t = some (.slice e)) (hi : P.info? e = some i) (hz : i.zero = some z)
    (hsize : i.size = size) (hby : i.bytes = bytes) (hzs : z.cells.size = size) (A : Option Addr) (n cap : Nat) (xs : List Value) (hxl : xs.length = n * size) (hA : A = none → n = 0 ∧ cap = 0)
    (holds : ∀ b, A = some b → ∀ j u, xs[j]? = some u → w.cell? (b.add j) = some u)
    (a : Addr) (m c : Nat) (news : List Value) (hl : news.length = m * size) (hnews : ∀ j u, news[j]? = some u → w.cell? (a.add j) = some u)
    (h0 : 0 < m) (hg : cap < n + m) (h63 : n + m ≤ maxLen) (hbytes : (n + m) * bytes ≤ 140737488355328) :
    ∃ A' c' w', (Builtin.append_ #[t, t] ty #[.slice A n cap, .slice (some a) m c]).run P w = .ok (.slice A' (n + m) c') w' ∧ Row w' (From w.heap.size) e size A' (n + m) c' (xs ++ news) ∧ Below w.heap.size w w' := by
  subst hsize
  subst hby
  have hsmall : n + m ≤ 9223372036854775807 := by simp only [maxLen] at h63; omega
  have hlen : (xs ++ news).length = (n + m) * i.size := by rw [List.length_append, hxl, hl, Nat.add_mul]
  have grown : ∀ (old : Nat),
      Row (w.drew.alloc (.cells (xs.toArray ++ news.toArray ++ Builtin.zeroCells z.cells (grownCap w (n + m) old e - (n + m))) e)) (From w.heap.size) e i.size (some ⟨w.heap.size, 0, none⟩) (n + m) (grownCap w (n + m) old e) (xs ++ news) ∧
      Below w.heap.size w (w.drew.alloc (.cells (xs.toArray ++ news.toArray ++ Builtin.zeroCells z.cells (grownCap w (n + m) old e - (n + m))) e)) := by
    intro old
    have hge := grownCap_ge w (n + m) old e
    have hcm : grownCap w (n + m) old e ≤ maxLen := grownCap_le_maxLen w (n + m) old e h63
    refine ⟨Row.of_block (Blk.new w.drew e _) (Nat.le_refl _) hge hcm ?_ ?_ hlen, (Chg.below ((Chg.refl Non w).drew.alloc _) (fun _ h => h.elim) (Nat.le_refl _))⟩
    · simp only [Array.size_append, List.size_toArray, size_zeroCells, hzs, hxl, hl, ← Nat.add_mul]
      congr 1
      omega
    · simp only [Array.toList_append, List.append_assoc]
      rw [← List.append_assoc, ← hlen]
      exact List.take_left
  cases A with
  | none =>
    obtain ⟨rfl, rfl⟩ := hA rfl
    obtain rfl : xs = [] := List.eq_nil_of_length_eq_zero (by simpa using hxl)
    have hrun := run_append_nil (P := P) (w := w) t ty e i z ht hi hz a m c news hl hnews h0 (by omega) (by have hb := hbytes; simp only [Nat.zero_add] at hb; omega)
    have hgr := grown 0
    simp only [Nat.zero_add, List.nil_append, Array.empty_append] at hgr ⊢
    exact ⟨_, _, _, hrun, hgr.1, hgr.2⟩
  | some ad =>
    have hrun := run_append_grow (P := P) (w := w) t ty e i z ht hi hz ad n cap xs hxl (holds _ rfl) a m c news hl hnews (by omega) (by omega) (growslice_fits (by omega) hbytes)
    have hgr := grown cap
    exact ⟨_, _, _, hrun, hgr.1, hgr.2⟩

theorem step_append_new {P : Program} {ops : Array Oper} {o : Oper} {a : Act} {w : World} {K : Act → World → Prop} {Q : Exit → Act → World → Prop} {E : Prop}
    (hg : o.guard = none) (s x : Operand) (t : TypeId) (hop : o.op = Op.call { callee := Callee.builtin Builtin.append, args := #[s, x], argTypes := #[t, t] })
    (e : TypeId) (i : TypeInfo) (z : Value) (size bytes : Nat) (ht : P.underlying t = some (.slice e)) (hi : P.info? e = some i) (hz : i.zero = some z)
    (hsize : i.size = size) (hby : i.bytes = bytes) (hzs : z.cells.size = size) (A : Option Addr) (n cap : Nat) (xs : List Value) (hs : a.eval s = .slice A n cap) (hxl : xs.length = n * size) (hA : A = none → n = 0 ∧ cap = 0)
    (ad : Addr) (m c : Nat) (news : List Value) (hx : a.eval x = .slice (some ad) m c) (hl : news.length = m * size)
    (h0 : 0 < m) (hg2 : cap < n + m) (h63 : n + m ≤ maxLen) (hbytes : (n + m) * bytes ≤ 140737488355328)
    (holds : ∀ b, A = some b → ∀ j u, xs[j]? = some u → w.cell? (b.add j) = some u) (hnews : ∀ j u, news[j]? = some u → w.cell? (ad.add j) = some u)
    (h : ∀ A' c' w', Row w' (From w.heap.size) e size A' (n + m) c' (xs ++ news) → Below w.heap.size w w' → K (a.put o.dst (.slice A' (n + m) c')) w') :
    if Region.wanted o (yielded ops a.tmps) = true then Oper.wp P o a w K Q else E := by
  have hw : Region.wanted o (yielded ops a.tmps) = true := by simp [Region.wanted, hg]
  rw [if_pos hw]
  obtain ⟨A', c', w', hrun, h2, h3⟩ := run_append_new (P := P) w t o.type e i z size bytes ht hi hz hsize hby hzs A n cap xs hxl hA holds ad m c news hl hnews h0 hg2 h63 hbytes
  unfold Oper.wp execOp
  simp only [hop, resolve, invoke, builtin, Sem.run_bind, Sem.run_pure, Result.andThen_ok, List.map_toArray, List.map_cons, List.map_nil, hs, hx, hrun]
  exact h A' c' w' h2 h3
theorem step_append_nothing {P : Program} {ops : Array Oper} {o : Oper} {a : Act} {w : World} {K : Act → World → Prop} {Q : Exit → Act → World → Prop} {E : Prop}
    (hg : o.guard = none) (s x : Operand) (t : TypeId) (hop : o.op = Op.call { callee := Callee.builtin Builtin.append, args := #[s, x], argTypes := #[t, t] })
    (e : TypeId) (i : TypeInfo) (ht : P.underlying t = some (.slice e)) (hi : P.info? e = some i) (A : Option Addr) (n cap : Nat) (hle : n ≤ cap) (hs : a.eval s = .slice A n cap)
    (B : Option Addr) (c : Nat) (hx : a.eval x = .slice B 0 c) (h : K (a.put o.dst (.slice A n cap)) w) :
    if Region.wanted o (yielded ops a.tmps) = true then Oper.wp P o a w K Q else E := by
  have hw : Region.wanted o (yielded ops a.tmps) = true := by simp [Region.wanted, hg]
  rw [if_pos hw]
  have hsrc : Src P i.size t (.slice B 0 c) 0 [] w := by
    cases B with
    | none => exact Src.ofNil w ht c
    | some b => exact Src.ofSlice w ht b 0 c [] (by simp) (by simp) (by simp)
  have hrun := run_append_nothing (P := P) w t t o.type e i ht hi A n cap hle (.slice B 0 c) hsrc
  unfold Oper.wp execOp
  simp only [hop, resolve, invoke, builtin, Sem.run_bind, Sem.run_pure, Result.andThen_ok, List.map_toArray, List.map_cons, List.map_nil, hs, hx, hrun]
  exact h
/-- A row, or a slice with no room at all. -/
def RowO (w : World) (S : Nat → Prop) (e : TypeId) (size : Nat) (A : Option Addr) (n c : Nat) (xs : List Value) : Prop := Row w S e size A n c xs ∨ (n = 0 ∧ c = 0 ∧ xs = [])
theorem RowO.alloc {w : World} {S : Nat → Prop} {e : TypeId} {size n c : Nat} {A : Option Addr} {xs : List Value} (h : RowO w S e size A n c xs) (o : Obj) : RowO (w.alloc o) S e size A n c xs := h.imp (fun h => h.alloc o) id
theorem RowO.drew {w : World} {S : Nat → Prop} {e : TypeId} {size n c : Nat} {A : Option Addr} {xs : List Value} (h : RowO w S e size A n c xs) : RowO w.drew S e size A n c xs := h.imp (fun h => h.drew) id
theorem RowO.drewN {w : World} {S : Nat → Prop} {e : TypeId} {size n c : Nat} {A : Option Addr} {xs : List Value} (h : RowO w S e size A n c xs) (k : Nat) : RowO (w.drewN k) S e size A n c xs := h.imp (fun h => h.drewN k) id
theorem run_append_or {P : Program} (w : World) (S : Nat → Prop) (t ty e : TypeId) (i : TypeInfo) (z : Value) (size bytes : Nat) (ht : P.underlying t = some (.slice e)) (hi : P.info? e = some i) (hz : i.zero = some z)
    (hsize : i.size = size) (hby : i.bytes = bytes) (hzs : z.cells.size = size) (A : Option Addr) (n cap : Nat) (xs : List Value) (hr : RowO w S e size A n cap xs)
    (a : Addr) (m c : Nat) (news : List Value) (hl : news.length = m * size) (hnews : ∀ j u, news[j]? = some u → w.cell? (a.add j) = some u) (h1 : ∀ u ∈ news, u.oneCell' = true)
    (h0 : 0 < m) (h63 : n + m ≤ maxLen) (hbytes : (n + m) * bytes ≤ 140737488355328) :
    ∃ A' c' w', (Builtin.append_ #[t, t] ty #[.slice A n cap, .slice (some a) m c]).run P w = .ok (.slice A' (n + m) c') w' ∧ Row w' (Plus S w.heap.size) e size A' (n + m) c' (xs ++ news) ∧ Chg S w w' := by
  rcases hr with hr | ⟨rfl, rfl, rfl⟩
  · exact run_append_row w S t ty e i z size bytes ht hi hz hsize hby hzs A n cap xs hr a m c news hl hnews h1 h0 h63 hbytes
  · obtain ⟨A', c', w', h2, h3, h4⟩ := run_append_new (P := P) w t ty e i z size bytes ht hi hz hsize hby hzs A 0 0 [] (by simp) (fun _ => ⟨rfl, rfl⟩) (fun b hb j u hu => by simp at hu) a m c news hl hnews h0 (by omega) h63 hbytes
    exact ⟨A', c', w', h2, h3.mono (fun q hq => .inr hq), Chg.of_below S h4⟩
theorem step_append_or {P : Program} {ops : Array Oper} {o : Oper} {a : Act} {w : World} {K : Act → World → Prop} {Q : Exit → Act → World → Prop} {E : Prop}
    (hg : o.guard = none) (s x : Operand) (t : TypeId) (hop : o.op = Op.call { callee := Callee.builtin Builtin.append, args := #[s, x], argTypes := #[t, t] })
    (S : Nat → Prop) (e : TypeId) (i : TypeInfo) (z : Value) (size bytes : Nat) (ht : P.underlying t = some (.slice e)) (hi : P.info? e = some i) (hz : i.zero = some z)
    (hsize : i.size = size) (hby : i.bytes = bytes) (hzs : z.cells.size = size) (A : Option Addr) (n cap : Nat) (xs : List Value) (hs : a.eval s = .slice A n cap)
    (ad : Addr) (m c : Nat) (news : List Value) (hx : a.eval x = .slice (some ad) m c) (hl : news.length = m * size) (h1 : ∀ u ∈ news, u.oneCell' = true)
    (h0 : 0 < m) (h63 : n + m ≤ maxLen) (hbytes : (n + m) * bytes ≤ 140737488355328)
    (hr : RowO w S e size A n cap xs) (hnews : ∀ j u, news[j]? = some u → w.cell? (ad.add j) = some u)
    (h : ∀ A' c' w', Row w' (Plus S w.heap.size) e size A' (n + m) c' (xs ++ news) → Chg S w w' → K (a.put o.dst (.slice A' (n + m) c')) w') :
    if Region.wanted o (yielded ops a.tmps) = true then Oper.wp P o a w K Q else E := by
  have hw : Region.wanted o (yielded ops a.tmps) = true := by simp [Region.wanted, hg]
  rw [if_pos hw]
  obtain ⟨A', c', w', hrun, h2, h3⟩ := run_append_or (P := P) w S t o.type e i z size bytes ht hi hz hsize hby hzs A n cap xs hr ad m c news hl hnews h1 h0 h63 hbytes
  unfold Oper.wp execOp
  simp only [hop, resolve, invoke, builtin, Sem.run_bind, Sem.run_pure, Result.andThen_ok, List.map_toArray, List.map_cons, List.map_nil, hs, hx, hrun]
  exact h A' c' w' h2 h3

end Go.Proofs.YtfacfdjapjhpeaaGreatDoor
namespace Go.Proofs.YtfacfdjapjhpeaaGreatDoor
open Go.RowKit

/-- A change: its token, its UID. -/
abbrev Ch := Int × List UInt8
def chEnc (x : Ch) : List Value := [.int .i64 x.1, .string (bs x.2)]
def chsEnc (l : List Ch) : List Value := l.flatMap chEnc
theorem chEnc_len (x : Ch) : (chEnc x).length = 2 := rfl
theorem chEnc_one (x : Ch) : ∀ u ∈ chEnc x, u.oneCell' = true := by
  intro u hu
  simp [chEnc] at hu
  rcases hu with rfl | rfl <;> rfl
theorem chsEnc_at (l : List Ch) (i : Nat) (h : i < l.length) (j : Nat) (hj : j < 2) : (chsEnc l)[i * 2 + j]? = (chEnc l[i])[j]? := flat_at chEnc 2 chEnc_len l i h j hj
theorem chsEnc_len (l : List Ch) : (chsEnc l).length = l.length * 2 := flat_length chEnc 2 chEnc_len l
theorem chInfo : (Tryz.prog.info? 188).map (fun i => (i.zero, i.size, i.bytes)) = some (some (.agg #[.int .i64 0, .string ⟨#[]⟩]), 2, 24) := by kernel_rfl

def RingR (w : World) (S : Nat → Prop) (b : Nat) (cap : Int) (l : List Ch) : Prop :=
  ∃ A c, Blk w b 213 #[.int .i64 cap, .slice A l.length c] ∧ Row w S 188 2 A l.length c (chsEnc l) ∧ S b
theorem RingR.lt {w : World} {S : Nat → Prop} {b : Nat} {cap : Int} {l : List Ch} (h : RingR w S b cap l) : b < w.heap.size := by
  obtain ⟨A, c, hb, _⟩ := h
  exact hb.lt
theorem RingR.mono {w : World} {S T : Nat → Prop} {b : Nat} {cap : Int} {l : List Ch} (h : RingR w S b cap l) (hs : ∀ k, S k → T k) : RingR w T b cap l := by
  obtain ⟨A, c, hb, hr, hS⟩ := h
  exact ⟨A, c, hb, hr.mono hs, hs _ hS⟩
theorem RingR.chg {w w' : World} {S T : Nat → Prop} {b : Nat} {cap : Int} {l : List Ch} (h : RingR w S b cap l) (hc : Chg T w w') (hd : ∀ k, S k → ¬ T k) : RingR w' S b cap l := by
  obtain ⟨A, c, hb, hr, hS⟩ := h
  exact ⟨A, c, hb.chg hc (hd _ hS), hr.chg hc hd, hS⟩
theorem RingR.below {w w' : World} {S : Nat → Prop} {b : Nat} {cap : Int} {l : List Ch} (h : RingR w S b cap l) (hb : Below w.heap.size w w') : RingR w' S b cap l :=
  h.chg (Chg.of_below Non hb) (fun _ _ => id)
theorem RingR.shrink {w : World} {S : Nat → Prop} {b : Nat} {cap : Int} {l : List Ch} (h : RingR w S b cap l) : RingR w (fun k => S k ∧ k < w.heap.size) b cap l := by
  obtain ⟨A, c, hb, hr, hS⟩ := h
  exact ⟨A, c, hb, ⟨hr.own, fun a ha => ⟨hr.fp a ha, hr.lt ha⟩⟩, hS, hb.lt⟩
theorem rgnew_calls (w : World) (S : Nat → Prop) (m : Int) (hS : S w.heap.size) :
    Calls Tryz.prog 114 #[.int .i64 m] w fun e w' => e = .returned (.pointer (some ⟨w.heap.size, 0, none⟩)) ∧ RingR w' S w.heap.size (max m 1) [] ∧ Below w.heap.size w w' := by
  go_enter Tryz.func114, Tryz.ntmps114
  go_wp2
  all_goals
    go_ret
    refine ⟨rfl, ⟨none, 0, ?_, Row.nil _ _ _ _, hS⟩, (Below.refl _ _).alloc (Nat.le_refl _) _⟩
    first
      | exact Blk.new _ _ _
      | (rw [show max m 1 = m by omega]; exact Blk.new _ _ _)
      | (rw [show max m 1 = 1 by omega]; exact Blk.new _ _ _)

theorem ring_close {w w2 : World} {S S2 : Nat → Prop} {b g n e : Nat} {cap : Int} {sl0 v0 v1 : Value} {E : Option Addr} {l' : List Ch} (hb : Blk w2 b 213 #[.int .i64 cap, sl0]) (hr : Row w2 S2 188 2 E n e (chsEnc l')) (hn : l'.length = n) (hS : S b) (hS2 : ∀ q, S2 q → (S q ∨ w.heap.size ≤ q) ∧ q ≠ g) (hgb : b ≠ g) :
    RingR (((w2.setCell ⟨b, 1, none⟩ (.slice E n e)).setCell ⟨g, 0, none⟩ v0).setCell ⟨g, 1, none⟩ v1) (Plus S w.heap.size) b cap l' := by
  subst hn
  refine ⟨E, e, ?_, ?_, .inl hS⟩
  · exact ((hb.set_ 1 _).far (p := ⟨g, 0, none⟩) hgb _).far (p := ⟨g, 1, none⟩) hgb _
  · refine (((hr.far (p := ⟨b, 1, none⟩) (hr.ne_blk hb (by decide)) _).far (p := ⟨g, 0, none⟩) (fun a ha => (hS2 _ (hr.fp a ha)).2) _).far (p := ⟨g, 1, none⟩) (fun a ha => (hS2 _ (hr.fp a ha)).2) _).mono fun q hq => (hS2 q hq).1
theorem ring_chg {w w2 : World} {S : Nat → Prop} {b g : Nat} {v0 v1 v2 : Value} (h : Chg S w w2) (hS : S b) (hg : w.heap.size ≤ g) :
    Chg S w (((w2.setCell ⟨b, 1, none⟩ v0).setCell ⟨g, 0, none⟩ v1).setCell ⟨g, 1, none⟩ v2) := ((h.setCell (.inl hS) _).setCell (.inr hg) _).setCell (.inr hg) _

set_option maxRecDepth 100000 in
set_option maxHeartbeats 4000000 in
/-- There is room. -/
theorem push_room (w : World) (S : Nat → Prop) (b : Nat) (cap : Int) (l : List Ch) (x : Ch) (h : RingR w S b cap l) (hl : (l.length : Int) ≠ cap) (hb : l.length ≤ 1000000) :
    Calls Tryz.prog 146 #[.pointer (some ⟨b, 0, none⟩), .agg (chEnc x).toArray] w fun e w' => e = .returned (.tuple #[.agg (chEnc (0, [])).toArray, .bool false]) ∧ RingR w' (Plus S w.heap.size) b cap (l ++ [x]) ∧ Chg S w w' := by
  obtain ⟨i0, hi, hz0, hz1, hz2⟩ := info_parts chInfo
  obtain ⟨A, c, hm, hr, hS⟩ := h
  have hbl := hm.lt
  obtain ⟨tk, u⟩ := x
  simp only [chEnc]
  have h0 := hm.at_ 0 rfl
  have h1 := hm.at_ 1 rfl
  have HM := hd hm
  have HR := hd hr
  obtain ⟨n, hn⟩ : ∃ n, l.length = n := ⟨_, rfl⟩
  have HN := hd hn
  rw [hn] at hl hb h1
  have hne : ((n : Int) == cap) = false := by simpa using hl
  have hfar : Hd (¬ Of A b) := hd (fun hk => by
    cases A with
    | none => exact Of.none hk
    | some a => exact hr.ne_blk hm (by decide) a rfl hk.some_.symm)
  have hnew : Hd (∀ k, w.heap.size ≤ k → ¬ Of A k) := hd (fun k hk2 hk => by
    cases A with
    | none => exact Of.none hk
    | some a => have := hr.lt rfl; have := hk.some_; omega)
  have hone := chEnc_one (tk, u)
  simp only [chEnc] at hone
  have HONE := hd hone
  rw [hn] at HM HR
  clear hm hr hl hn hone
  go_enter Tryz.func146, Tryz.ntmps146
  go_wp2_with fail
  go_quiet (fail)
  go_wp2_with fail
  obtain ⟨wq, hwq⟩ : ∃ wq, wq = ((w.alloc (.cells #[.int .i64 tk, .string (bs u)] 188)).alloc (.cells #[.int .i64 0, .string ⟨#[]⟩] 188)).drewN nq := ⟨_, rfl⟩
  have HMq : Hd (Blk wq b 213 #[.int .i64 cap, .slice A n c]) := hd (by rw [hwq]; exact ((HM.o.alloc _).alloc _).drewN nq)
  have HRq : Hd (RowO wq (Of A) 188 2 A n c (chsEnc l)) := hd (by rw [hwq]; exact .inl (((HR.o.own_.alloc _).alloc _).drewN nq))
  have hxq : Blk wq w.heap.size 188 #[.int .i64 tk, .string (bs u)] := by rw [hwq]; exact ((Blk.new w 188 _).alloc _).drewN nq
  have hyq : Blk wq (w.heap.size + 1) 188 #[.int .i64 0, .string ⟨#[]⟩] := by rw [hwq]; exact (Blk.new_ _ _ (by simp) _ _).drewN nq
  have HCq : Hd (Chg S w wq) := hd (by rw [hwq]; exact (((Chg.refl S w).alloc _).alloc _).drewN nq)
  have hszq : wq.heap.size = w.heap.size + 2 := by rw [hwq]; simp
  have HSZ := hd hszq
  have x0 := hxq.at_ 0 rfl
  have x1 := hxq.at_ 1 rfl
  have m1 := HMq.o.at_ 1 rfl
  have HYq := hd hyq
  have hmm : n + 1 ≤ maxLen := by unfold maxLen; omega
  have hby : (n + 1) * 24 ≤ 140737488355328 := by omega
  have hblq := HMq.o.lt
  have hxlq := hxq.lt
  have hylq := HYq.o.lt
  rw [← hwq]
  clear hwq hxq hyq h0 h1 hne hszq HM
  go_region_law (
    (refine step_append_or (by rfl) _ _ 211 (by rfl) (Of A) 188 i0 (.agg #[.int .i64 0, .string ⟨#[]⟩]) 2 24 Tryz.underlying211 hi hz0 hz1 hz2 rfl A n c (chsEnc l) (by rfl) _ 1 1 [.int .i64 tk, .string (bs u)] (by rfl) rfl HONE.o (by omega) hmm hby ?_ ?_ ?_
     · (with_reducible (repeat (first | exact HRq.o | refine RowO.alloc ?_ _ | refine RowO.drew ?_)))
     · (refine cells_at (t := 188) (cs := #[.int .i64 tk, .string (bs u)]) ?_ rfl
        repeat (first | (with_reducible refine Blk.new_ _ _ ?_ _ _; simp; done) | with_reducible refine Blk.alloc ?_ _ | with_reducible refine Blk.drew ?_))
     intro E1 e1 w2 z1 zc1
     have bx : Blk _ b 213 #[.int .i64 cap, .slice A n c] := Blk.chg (by with_reducible (repeat (first | exact HMq.o | refine Blk.alloc ?_ _ | refine Blk.drew ?_))) zc1 hfar.o
     have by_ : Blk _ (w.heap.size + 1) 188 #[.int .i64 0, .string ⟨#[]⟩] := Blk.chg (by with_reducible (repeat (first | exact HYq.o | refine Blk.alloc ?_ _ | refine Blk.drew ?_))) zc1 (hnew.o _ (by omega))
     have v1 := bx.at_ 1 rfl
     have g1 := bx.frozen 1
     have BX := hd bx
     have BY := hd by_
     have y0 := by_.at_ 0 rfl
     have y1 := by_.at_ 1 rfl
     have yf0 := by_.frozen 0
     have yf1 := by_.frozen 1
     have Z1 := hd z1
     have ZC1 := hd zc1
     clear z1 zc1 bx by_))
  all_goals
    have hne2 : b ≠ w.heap.size + 1 := by omega
    go_wp2
    refine bodyPost_ret (v := .tuple #[.agg #[.int .i64 0, .string ⟨#[]⟩], .bool false]) ?_ rfl ⟨rfl, ?_, ?_⟩
    · simp [results, Tryz.results146, go_sem, *]
    · refine ring_close BX.o (l' := l ++ [(tk, u)]) (by
        have h := Z1.o
        rw [show chsEnc (l ++ [(tk, u)]) = chsEnc l ++ [.int .i64 tk, .string (bs u)] by simp [chsEnc, chEnc]]
        exact h) (by rw [List.length_append, HN.o]; rfl) hS (fun q hq => ?_) hne2
      have := HSZ.o
      rcases hq with hq | hq
      · refine ⟨.inl (HR.o.of_sub q hq), fun h => hnew.o q (by omega) hq⟩
      · simp at hq
        exact ⟨.inr (by omega), by omega⟩
    · exact ring_chg (Chg.trans (by with_reducible (repeat (first | exact HCq.o | refine Chg.alloc ?_ _ | refine Chg.drew ?_))) ZC1.o (fun q hq => .inl (HR.o.of_sub q hq))) hS (by omega)

set_option maxRecDepth 100000 in
set_option maxHeartbeats 4000000 in
/-- It is full: the first one goes. -/
theorem push_full (w : World) (S : Nat → Prop) (b : Nat) (cap : Int) (l : List Ch) (x y : Ch) (h : RingR w S b cap (y :: l)) (hl : ((y :: l).length : Int) = cap) (hb : (y :: l).length ≤ 1000000) :
    Calls Tryz.prog 146 #[.pointer (some ⟨b, 0, none⟩), .agg (chEnc x).toArray] w fun e w' => e = .returned (.tuple #[.agg (chEnc y).toArray, .bool true]) ∧ RingR w' (Plus S w.heap.size) b cap (l ++ [x]) ∧ Chg S w w' := by
  obtain ⟨i0, hi, hz0, hz1, hz2⟩ := info_parts chInfo
  obtain ⟨A, c, hm, hr, hS⟩ := h
  have hbl := hm.lt
  obtain ⟨tk, u⟩ := x
  obtain ⟨tk0, u0⟩ := y
  simp only [chEnc]
  have h0 := hm.at_ 0 rfl
  have h1 := hm.at_ 1 rfl
  have hcap := hr.cap
  obtain ⟨n, hn⟩ : ∃ n, l.length = n := ⟨_, rfl⟩
  have HN := hd hn
  have hn1 : ((tk0, u0) :: l).length = n + 1 := by rw [List.length_cons, hn]
  rw [hn1] at hl hb h1 hm hr hcap
  unfold maxLen at hcap
  have HM := hd hm
  have HR := hd hr
  obtain ⟨g, rfl, hgS, hgl, hnc, _, hcl, _⟩ := hr.at_ (by omega)
  have r0 : w.cell? ⟨g, 0, none⟩ = some (.int .i64 tk0) := hcl 0 _ rfl
  have r1 : w.cell? ⟨g, 1, none⟩ = some (.string (bs u0)) := hcl 1 _ rfl
  have HCL : Hd (∀ (W : World), Chg S w W → (∀ k, Of (some ⟨g, 0, none⟩) k → W.heap[k]? = w.heap[k]?) → True) := hd (fun _ _ _ => trivial)
  have hgb : g ≠ b := hr.ne_blk hm (by decide) _ rfl
  have hne : ((n : Int) + 1 == cap) = true := by simpa using hl
  have hone := chEnc_one (tk, u)
  simp only [chEnc] at hone
  have HONE := hd hone
  clear hm hr hl hn hn1 hone hcl
  go_enter Tryz.func146, Tryz.ntmps146
  go_wp2_with fail
  go_quiet (fail)
  go_wp2_with fail
  obtain ⟨wq, hwq⟩ : ∃ wq, wq = ((((w.alloc (.cells #[.int .i64 tk, .string (bs u)] 188)).alloc (.cells #[.int .i64 0, .string ⟨#[]⟩] 188)).drewN nq).setCell ⟨w.heap.size + 1, 0, none⟩ (.int .i64 tk0)).setCell ⟨w.heap.size + 1, 1, none⟩ (.string (bs u0)) := ⟨_, rfl⟩
  have HMq : Hd (Blk wq b 213 #[.int .i64 cap, .slice (some ⟨g, 0, none⟩) (n + 1) c]) := hd (by rw [hwq]; exact ((((HM.o.alloc _).alloc _).drewN nq).far (p := ⟨w.heap.size + 1, 0, none⟩) (by show b ≠ w.heap.size + 1; omega) _).far (p := ⟨w.heap.size + 1, 1, none⟩) (by show b ≠ w.heap.size + 1; omega) _)
  have HRq : Hd (Row wq (Of (some ⟨g, 0, none⟩)) 188 2 (some ⟨g, 0, none⟩) (n + 1) c (chsEnc ((tk0, u0) :: l))) := hd (by
    rw [hwq]
    refine ((((HR.o.own_.alloc _).alloc _).drewN nq).far (p := ⟨w.heap.size + 1, 0, none⟩) (fun a ha => ?_) _).far (p := ⟨w.heap.size + 1, 1, none⟩) (fun a ha => ?_) _
    · injection ha with ha; subst ha; show g ≠ w.heap.size + 1; omega
    · injection ha with ha; subst ha; show g ≠ w.heap.size + 1; omega)
  have hxq : Blk wq w.heap.size 188 #[.int .i64 tk, .string (bs u)] := by rw [hwq]; exact ((((Blk.new w 188 _).alloc _).drewN nq).far (p := ⟨w.heap.size + 1, 0, none⟩) (by show w.heap.size ≠ w.heap.size + 1; omega) _).far (p := ⟨w.heap.size + 1, 1, none⟩) (by show w.heap.size ≠ w.heap.size + 1; omega) _
  have hyq : Blk wq (w.heap.size + 1) 188 #[.int .i64 tk0, .string (bs u0)] := by rw [hwq]; exact (((Blk.new_ _ _ (by simp) _ _).drewN nq).set_ 0 _).set_ 1 _
  have HCq : Hd (Chg S w wq) := hd (by rw [hwq]; exact ((((((Chg.refl S w).alloc _).alloc _).drewN nq).setCell (p := ⟨w.heap.size + 1, 0, none⟩) (.inr (Nat.le_succ _)) _).setCell (p := ⟨w.heap.size + 1, 1, none⟩) (.inr (Nat.le_succ _)) _))
  have hszq : wq.heap.size = w.heap.size + 2 := by rw [hwq, size_setCell, size_setCell]; simp
  have HSZ := hd hszq
  have x0 := hxq.at_ 0 rfl
  have x1 := hxq.at_ 1 rfl
  have m1 := HMq.o.at_ 1 rfl
  have mf1 := HMq.o.frozen 1
  have HYq := hd hyq
  have HXq := hd hxq
  have hmm : n + 1 ≤ maxLen := by unfold maxLen; omega
  have hby : (n + 1) * 24 ≤ 140737488355328 := by omega
  have hblq := HMq.o.lt
  have hxlq := hxq.lt
  have hylq := HYq.o.lt
  rw [← hwq]
  clear hwq hxq hyq h0 h1 hne hszq HM r0 r1 HCL
  go_cut [] from 22 to 36 (fun wx => ∃ (A4 : Option Addr) (c4 : Nat), Hd (Blk wx b 213 #[.int .i64 cap, .slice A4 n c4]) ∧ Hd (RowO wx (fun q => w.heap.size + 2 ≤ q) 188 2 A4 n c4 (chsEnc l)) ∧ Hd (Blk wx w.heap.size 188 #[.int .i64 tk, .string (bs u)]) ∧ Hd (Blk wx (w.heap.size + 1) 188 #[.int .i64 tk0, .string (bs u0)]) ∧ Hd (Chg S w wx) ∧ Hd (wx.heap.size ≥ w.heap.size + 2))
  case first =>
    by_cases hn0 : n = 0
    · subst hn0
      have hl0 : l = [] := List.eq_nil_of_length_eq_zero HN.o
      subst hl0
      have fin : ∀ (a : Option Addr), Hd (Blk ((wq.setCell ⟨b, 1, none⟩ (.slice a 0 0)).drew) b 213 #[.int .i64 cap, .slice a 0 0]) ∧ Hd (RowO ((wq.setCell ⟨b, 1, none⟩ (.slice a 0 0)).drew) (fun q => w.heap.size + 2 ≤ q) 188 2 a 0 0 (chsEnc [])) ∧ Hd (Blk ((wq.setCell ⟨b, 1, none⟩ (.slice a 0 0)).drew) w.heap.size 188 #[.int .i64 tk, .string (bs u)]) ∧ Hd (Blk ((wq.setCell ⟨b, 1, none⟩ (.slice a 0 0)).drew) (w.heap.size + 1) 188 #[.int .i64 tk0, .string (bs u0)]) ∧ Hd (Chg S w ((wq.setCell ⟨b, 1, none⟩ (.slice a 0 0)).drew)) ∧ Hd (((wq.setCell ⟨b, 1, none⟩ (.slice a 0 0)).drew).heap.size ≥ w.heap.size + 2) := fun a =>
        ⟨hd (HMq.o.set_ 1 _).drew, hd (.inr ⟨rfl, rfl, rfl⟩), hd (HXq.o.far (p := ⟨b, 1, none⟩) (by show w.heap.size ≠ b; omega) _).drew, hd (HYq.o.far (p := ⟨b, 1, none⟩) (by show w.heap.size + 1 ≠ b; omega) _).drew, hd (HCq.o.setCell (.inl hS) _).drew, hd (by show (wq.setCell _ _).heap.size ≥ _; rw [size_setCell, HSZ.o]; exact Nat.le_refl _)⟩
      have FIN := hd fin
      clear fin
      by_cases hc1 : c = 1
      · subst hc1
        go_region_law (refine step_append_nothing (by rfl) _ _ 211 (by rfl) 188 i0 Tryz.underlying211 hi _ 0 0 (Nat.le_refl _) (by rfl) _ _ (by rfl) ?_)
        all_goals
          go_wp2_with fail
          go_meet
          exact ⟨_, _, FIN.o _⟩
      · have hc2 : decide (c = 1) = false := by simpa using hc1
        go_region_law (refine step_append_nothing (by rfl) _ _ 211 (by rfl) 188 i0 Tryz.underlying211 hi _ 0 0 (Nat.le_refl _) (by rfl) _ _ (by rfl) ?_)
        all_goals
          go_wp2_with fail
          go_meet
          exact ⟨_, _, FIN.o _⟩
    · have hc1 : ¬ c = 1 := by omega
      have hn2 : 0 < n := by omega
      have hni : (1 : Int) ≤ (n : Int) + 1 := by omega
      have HAD : Hd (∀ (W : World), Row W (Of (some ⟨g, 0, none⟩)) 188 2 (some ⟨g, 0, none⟩) (n + 1) c (chsEnc ((tk0, u0) :: l)) → ∀ j v, (chsEnc l)[j]? = some v → W.cell? ((⟨g, 2, none⟩ : Addr).add j) = some v) := hd (fun W hW j v hv => by
        obtain ⟨g', hA, _, _, _, _, hcl, _⟩ := hW.at_ (by omega)
        injection hA with hA
        injection hA with hA
        subst hA
        have := hcl (2 + j) v (by rw [show chsEnc ((tk0, u0) :: l) = chEnc (tk0, u0) ++ chsEnc l from rfl, List.getElem?_append_right (by simp [chEnc])]; simpa [chEnc] using hv)
        rw [Addr.add_lit]
        exact this)
      have hln : (chsEnc l).length = n * 2 := by rw [chsEnc_len, HN.o]
      have HLN := hd hln
      have hmn : 0 + n ≤ maxLen := by omega
      have hmb : (0 + n) * 24 ≤ 140737488355328 := by omega
      clear hln hn0
      go_region_law (
        (refine step_append_new (by rfl) _ _ 211 (by rfl) 188 i0 (.agg #[.int .i64 0, .string ⟨#[]⟩]) 2 24 Tryz.underlying211 hi hz0 hz1 hz2 rfl (some ⟨g, 0, none⟩) 0 0 [] (by rfl) (by rfl) (fun h => by cases h) ⟨g, 2, none⟩ n (c - 1) (chsEnc l) (by simp [Act.eval, Act.put]) HLN.o hn2 (by omega) hmn hmb (fun b hb j u hu => by simp at hu) (HAD.o _ (by with_reducible (repeat (first | exact HRq.o | refine Row.drew ?_)))) ?_
         intro E1 e1 w2 z1 zc1
         have bx : Blk w2 b 213 #[.int .i64 cap, .slice (some ⟨g, 0, none⟩) (n + 1) c] := Blk.below (by with_reducible (repeat (first | exact HMq.o | refine Blk.drew ?_))) zc1 hblq
         have by_ : Blk w2 (w.heap.size + 1) 188 #[.int .i64 tk0, .string (bs u0)] := Blk.below (by with_reducible (repeat (first | exact HYq.o | refine Blk.drew ?_))) zc1 hylq
         have bx_ : Blk w2 w.heap.size 188 #[.int .i64 tk, .string (bs u)] := Blk.below (by with_reducible (repeat (first | exact HXq.o | refine Blk.drew ?_))) zc1 hxlq
         have v1 := bx.at_ 1 rfl
         have g1 := bx.frozen 1
         have BX := hd bx
         have BY := hd by_
         have BXX := hd bx_
         have Z1 : Hd (Row w2 (From wq.heap.size) 188 2 E1 n e1 (chsEnc l)) := hd (by simpa using z1)
         have SZ1 : Hd (wq.heap.size ≤ w2.heap.size) := hd zc1.size
         have ZC1 : Hd (Chg S w w2) := hd (Chg.then_below (by with_reducible (repeat (first | exact HCq.o | refine Chg.drew ?_))) zc1)
         clear z1 zc1 bx by_ bx_))
      all_goals
        go_wp2_with fail
        go_meet
        have hz : 0 + n = n := Nat.zero_add n
        have hz2 := HSZ.o
        refine ⟨E1, e1, hd ?_, hd (.inl ?_), hd ?_, hd ?_, hd (ZC1.o.setCell (.inl hS) _), hd ?_⟩
        · first | exact BX.o.set_ 1 _ | (rw [hz]; exact BX.o.set_ 1 _)
        · refine (Z1.o.mono fun q hq => ?_).far (Z1.o.ne_blk BX.o (by decide)) _
          have : wq.heap.size ≤ q := hq
          show w.heap.size + 2 ≤ q
          omega
        · exact BXX.o.far (p := ⟨b, 1, none⟩) (by show w.heap.size ≠ b; omega) _
        · exact BY.o.far (p := ⟨b, 1, none⟩) (by show w.heap.size + 1 ≠ b; omega) _
        · rw [size_setCell]
          have := SZ1.o
          omega
  case rest =>
    obtain ⟨A4, c4, HM4, HR4, HX4, HY4, HC4, HS4⟩ := hcut
    have HT4 : Hd (∀ q, w.heap.size + 2 ≤ q → w.heap.size + 2 ≤ q) := hd (fun _ h => h)
    have HF4 : Hd (¬ (fun q => w.heap.size + 2 ≤ q) b) := hd (fun h => by have h : w.heap.size + 2 ≤ b := h; omega)
    have HG4 : Hd (¬ (fun q => w.heap.size + 2 ≤ q) (w.heap.size + 1)) := hd (fun h => by have h : w.heap.size + 2 ≤ w.heap.size + 1 := h; omega)
    have x0 := HX4.o.at_ 0 rfl
    have x1 := HX4.o.at_ 1 rfl
    have m1 := HM4.o.at_ 1 rfl
    have hblq := HM4.o.lt
    have hxlq := HX4.o.lt
    have hylq := HY4.o.lt
    clear HMq HRq HYq HXq HCq HSZ
    go_wp2_with fail
    go_region_law (
      (refine step_append_or (by rfl) _ _ 211 (by rfl) (fun q => w.heap.size + 2 ≤ q) 188 i0 (.agg #[.int .i64 0, .string ⟨#[]⟩]) 2 24 Tryz.underlying211 hi hz0 hz1 hz2 rfl A4 n c4 (chsEnc l) (by rfl) _ 1 1 [.int .i64 tk, .string (bs u)] (by rfl) rfl HONE.o (by omega) hmm hby ?_ ?_ ?_
       · (with_reducible (repeat (first | exact HR4.o | refine RowO.alloc ?_ _ | refine RowO.drew ?_)))
       · (refine cells_at (t := 188) (cs := #[.int .i64 tk, .string (bs u)]) ?_ rfl
          repeat (first | (with_reducible refine Blk.new_ _ _ ?_ _ _; simp; done) | with_reducible refine Blk.alloc ?_ _ | with_reducible refine Blk.drew ?_))
       intro E1 e1 w2 z1 zc1
       have bx : Blk _ b 213 #[.int .i64 cap, .slice A4 n c4] := Blk.chg (by with_reducible (repeat (first | exact HM4.o | refine Blk.alloc ?_ _ | refine Blk.drew ?_))) zc1 HF4.o
       have by_ : Blk _ (w.heap.size + 1) 188 #[.int .i64 tk0, .string (bs u0)] := Blk.chg (by with_reducible (repeat (first | exact HY4.o | refine Blk.alloc ?_ _ | refine Blk.drew ?_))) zc1 HG4.o
       have v1 := bx.at_ 1 rfl
       have g1 := bx.frozen 1
       have BX := hd bx
       have y0 := by_.at_ 0 rfl
       have y1 := by_.at_ 1 rfl
       have yf0 := by_.frozen 0
       have yf1 := by_.frozen 1
       have Z1 := hd z1
       have ZC1 := hd zc1
       clear z1 zc1 bx by_))
    all_goals
      have hne2 : b ≠ w.heap.size + 1 := by omega
      go_wp2
      refine bodyPost_ret (v := .tuple #[.agg #[.int .i64 tk0, .string (bs u0)], .bool true]) ?_ rfl ⟨rfl, ?_, ?_⟩
      · simp [results, Tryz.results146, go_sem, *]
      · refine ring_close BX.o (l' := l ++ [(tk, u)]) (by
          have h := Z1.o
          rw [show chsEnc (l ++ [(tk, u)]) = chsEnc l ++ [.int .i64 tk, .string (bs u)] by simp [chsEnc, chEnc]]
          exact h) (by rw [List.length_append, HN.o]; rfl) hS (fun q hq => ?_) hne2
        have := HS4.o
        rcases hq with hq | hq
        · exact (by have := HT4.o q hq; exact ⟨.inr (by omega), by omega⟩)
        · simp at hq
          exact ⟨.inr (by omega), by omega⟩
      · exact ring_chg (Chg.trans (by with_reducible (repeat (first | exact HC4.o | refine Chg.alloc ?_ _ | refine Chg.drew ?_))) ZC1.o (fun q hq => .inr (by have := HT4.o q hq; omega))) hS (by omega)

end Go.Proofs.YtfacfdjapjhpeaaGreatDoor
namespace Go.Proofs.YtfacfdjapjhpeaaGreatDoor
open Go.RowKit Go.Lib

theorem balEntCol {B : Nat} {a w : World} (h : Below B a w) (hB : B = a.heap.size) (o : Obj) : Below B a (w.alloc o) := h.alloc (by rw [hB]; subst hB; exact h.size) o
theorem bsetEntCol {B : Nat} {a w : World} (h : Below B a w) (hB : B = a.heap.size) (j : Nat) (u : Value) : Below B a (w.setCell ⟨a.heap.size, j, none⟩ u) := h.setCell (by rw [hB]; exact Nat.le_refl _) u

theorem omgetEntCol_none (w : World) (S : Nat → Prop) (b : Nat) (l : ML Ce) (k : List UInt8) (h : OmEntCol w S b l) (hl : l.length ≤ 1000000) (hg : getM l k = none) :
    Calls Tryz.prog 124 #[.pointer (some ⟨b, 0, none⟩), .string (bs k)] w fun e w' => e = .returned (.tuple #[.agg #[.int .i64 0, .string ⟨#[]⟩], .bool false]) ∧ Below w.heap.size w w' := by
  have hq : hasM l k = false := by simp [hasM, hg]
  have hb1 := h.below ((Below.refl _ w).alloc (Nat.le_refl _) (.cells #[.int .i64 0, .string ⟨#[]⟩] 179))
  have hc := hd (findEntCol_calls (w.alloc (.cells #[.int .i64 0, .string ⟨#[]⟩] 179)) S b l k hb1 hl)
  rw [hq] at hc
  generalize place l k = p at *
  clear h hg hq hb1
  go_enter Tryz.func124, Tryz.ntmps124
  go_wp2_with fail
  refine hc.o.mono ?_
  rintro e w1 ⟨rfl, hbe⟩
  have hzz := ((Blk.new w 179 #[.int .i64 0, .string ⟨#[]⟩]).below hbe (by simp))
  have hzl := hzz.lt
  (have z0 := hzz.at_ 0 rfl; have z1 := hzz.at_ 1 rfl; have y0 := hzz.frozen 0; have y1 := hzz.frozen 1)
  have HBE := hd ((balEntCol (Below.refl _ w) rfl (.cells #[.int .i64 0, .string ⟨#[]⟩] 179)).trans (hbe.mono (by simp)))
  clear hzz hc hbe
  go_wp2
  refine bodyPost_ret (v := .tuple #[.agg #[.int .i64 0, .string ⟨#[]⟩], .bool false]) ?_ rfl ⟨rfl, ?_⟩
  · simp [results, Tryz.results124, go_sem, *]
  · repeat (first | exact HBE.o | refine balEntCol ?_ rfl _ | refine bsetEntCol ?_ rfl _ _)

theorem omgetEntCol_some (w : World) (S : Nat → Prop) (b : Nat) (l : ML Ce) (k : List UInt8) (v : Ce) (h : OmEntCol w S b l) (hl : l.length ≤ 1000000) (hg : getM l k = some v) :
    Calls Tryz.prog 124 #[.pointer (some ⟨b, 0, none⟩), .string (bs k)] w fun e w' => e = .returned (.tuple #[.agg (ceEnc v).toArray, .bool true]) ∧ Below w.heap.size w w' := by
  have hq : hasM l k = true := by simp [hasM, hg]
  have hb1 := h.below ((Below.refl _ w).alloc (Nat.le_refl _) (.cells #[.int .i64 0, .string ⟨#[]⟩] 179))
  have hc := hd (findEntCol_calls (w.alloc (.cells #[.int .i64 0, .string ⟨#[]⟩] 179)) S b l k hb1 hl)
  rw [hq] at hc
  obtain ⟨hp, hpk, hgp⟩ := hasM_at h.rise hq
  rw [hg] at hgp
  injection hgp with hgp
  obtain ⟨p, hpp⟩ : ∃ p, place l k = p := ⟨_, rfl⟩
  have hget : ∀ j, j < 3 → (meEntCol l)[p * 3 + j]? = (enEntCol (k, v))[j]? := by
    intro j hj
    subst hpp
    rw [meEntCol_at l (place l k) hp j hj]
    congr 2
    exact Prod.ext hpk hgp.symm
  rw [hpp] at hc hp
  have H := hd hb1
  obtain ⟨n, hn⟩ : ∃ n, l.length = n := ⟨_, rfl⟩
  have HN := hd hn
  rw [hn] at hp hl
  clear h hg hq hb1 hgp hpk hpp hn
  go_enter Tryz.func124, Tryz.ntmps124
  go_wp2_with fail
  refine hc.o.mono ?_
  rintro e w1 ⟨rfl, hbe⟩
  obtain ⟨A, c, hb, hr, hS, _⟩ := H.o.below hbe
  rw [HN.o] at hb hr
  have hb0 := hb.at_ 0 rfl
  have hcap := hr.cap
  unfold maxLen at hcap
  have hzz := ((Blk.new w 179 #[.int .i64 0, .string ⟨#[]⟩]).below hbe (by simp))
  have hzl := hzz.lt
  (have z0 := hzz.at_ 0 rfl; have z1 := hzz.at_ 1 rfl; have y0 := hzz.frozen 0; have y1 := hzz.frozen 1)
  have HBE := hd ((balEntCol (Below.refl _ w) rfl (.cells #[.int .i64 0, .string ⟨#[]⟩] 179)).trans (hbe.mono (by simp)))
  obtain ⟨g, rfl, _, hgw, _, _, hcl, _⟩ := hr.at_ (by omega)
  have hcc : ∀ j u, j < 3 → (enEntCol (k, v))[j]? = some u → w1.cell? ⟨g, p * 3 + j, none⟩ = some u := fun j u hj hv => hcl _ _ ((hget j hj).trans hv)
  obtain ⟨m, hm⟩ : ∃ m, p = m := ⟨_, rfl⟩
  rw [hm] at hcc hp ⊢
  obtain ⟨ver, text⟩ := v
  (have k0 := hcc 0 _ (by omega) rfl; have k1 := hcc 1 _ (by omega) rfl; have k2 := hcc 2 _ (by omega) rfl; rw [Nat.add_zero] at k0)
  simp only [ceEnc]
  clear hzz hc hbe hcl hcc hget hr hb hm
  go_wp2
  refine bodyPost_ret (v := .tuple #[.agg #[.int .i64 ver, .string (bs text)], .bool true]) ?_ rfl ⟨rfl, ?_⟩
  · simp [results, Tryz.results124, go_sem, *]
  · repeat (first | exact HBE.o | refine balEntCol ?_ rfl _ | refine bsetEntCol ?_ rfl _ _)

end Go.Proofs.YtfacfdjapjhpeaaGreatDoor
namespace Go.Proofs.YtfacfdjapjhpeaaGreatDoor
open Go.RowKit Go.Lib

theorem row_setkEntCol {w : World} {S : Nat → Prop} {e size n c g : Nat} {xs : List Value} (h : Row w S e size (some ⟨g, 0, none⟩) n c xs) (j : Nat) (u : Value) : Row (w.setCell ⟨g, j, none⟩ u) S e size (some ⟨g, 0, none⟩) n c (xs.set j u) := by
  obtain ⟨g', cur, e1, hS, hB, hnc, hcm, hcs, ht⟩ := h.block rfl
  injection e1 with e1
  subst e1
  refine Row.of_block (hB.set_ j u) hS hnc hcm (by simp [hcs]) ?_ (by simpa using h.len)
  rw [← ht]
  simp [List.take_set]

set_option maxHeartbeats 2000000 in
theorem omputEntCol_there (w : World) (S : Nat → Prop) (b : Nat) (l : ML Ce) (k : List UInt8) (v : Ce) (h : OmEntCol w S b l) (hl : l.length ≤ 1000000) (hq : hasM l k = true) :
    Calls Tryz.prog 145 #[.pointer (some ⟨b, 0, none⟩), .string (bs k), .agg (ceEnc v).toArray] w fun e w' => e = .returned (.bool false) ∧ OmEntCol w' (Plus S w.heap.size) b (putM l k v) ∧ Chg S w w' := by
  have hb1 := h.below ((Below.refl _ w).alloc (Nat.le_refl _) (.cells (ceEnc v).toArray 179))
  have hc := hd (findEntCol_calls (w.alloc (.cells (ceEnc v).toArray 179)) S b l k hb1 hl)
  rw [hq] at hc
  obtain ⟨hp, hpk, hgp⟩ := hasM_at h.rise hq
  have hsp := hd (putM_spec k v h.rise).1
  have e : putM l k v = l.set (place l k) (k, v) := by simp [putM, hq]
  rw [e] at hsp ⊢
  obtain ⟨p, hpp⟩ : ∃ p, place l k = p := ⟨_, rfl⟩
  obtain ⟨v0, hv0⟩ : ∃ v0, l[place l k] = (k, v0) := ⟨(l[place l k]).2, Prod.ext hpk rfl⟩
  have hset : meEntCol (l.set p (k, v)) = ((meEntCol l).take (p * 3)) ++ enEntCol (k, v) ++ ((meEntCol l).drop ((p + 1) * 3)) ∧ meEntCol l = ((meEntCol l).take (p * 3)) ++ enEntCol (k, v0) ++ ((meEntCol l).drop ((p + 1) * 3)) := by
    subst hpp
    have h1 : ∀ x, meEntCol (l.set (place l k) x) = ((meEntCol l).take (place l k * 3)) ++ enEntCol x ++ ((meEntCol l).drop ((place l k + 1) * 3)) := fun x => by
      unfold meEntCol
      rw [flat_set enEntCol l (place l k) hp x, flat_take enEntCol 3 enEntCol_len, flat_drop enEntCol 3 enEntCol_len]
    refine ⟨h1 _, ?_⟩
    have h2 := h1 (k, v0)
    rw [← hv0, List.set_getElem_self] at h2
    rw [← hv0]
    exact h2
  have HSET := hd hset
  rw [hpp] at hc hsp hp ⊢
  have H := hd hb1
  have HR := hd h.rise
  obtain ⟨n, hn⟩ : ∃ n, l.length = n := ⟨_, rfl⟩
  have HN := hd hn
  rw [hn] at hp hl
  clear h hq hb1 hgp hpk hpp hn hset e
  obtain ⟨ver, text⟩ := v
  simp only [ceEnc] at hc H ⊢
  go_enter Tryz.func145, Tryz.ntmps145
  go_wp2_with fail
  refine hc.o.mono ?_
  rintro e w1 ⟨rfl, hbe⟩
  obtain ⟨A, c, hb, hr, hS, _⟩ := H.o.below hbe
  rw [HN.o] at hb hr
  have hb0 := hb.at_ 0 rfl
  have hcap := hr.cap
  unfold maxLen at hcap
  have hzz := ((Blk.new w 179 #[.int .i64 ver, .string (bs text)]).below hbe (by simp))
  have hzl := hzz.lt
  (have z0 := hzz.at_ 0 rfl; have z1 := hzz.at_ 1 rfl; have y0 := hzz.frozen 0; have y1 := hzz.frozen 1)
  have HBE := hd ((balEntCol (Below.refl _ w) rfl (.cells #[.int .i64 ver, .string (bs text)] 179)).trans (hbe.mono (by simp)))
  obtain ⟨g, rfl, hgS, hgw, _, _, hcl, hfz⟩ := hr.at_ (by omega)
  have hcc : ∀ j u, j < 3 → (enEntCol (k, v0))[j]? = some u → w1.cell? ⟨g, p * 3 + j, none⟩ = some u := fun j u hj hv => hcl _ _ (by
    have h2 := HSET.o.2
    rw [h2, List.append_assoc, List.getElem?_append_right (by simp; omega)]
    have hl : ((meEntCol l).take (p * 3)).length = p * 3 := by rw [List.length_take, hr.len]; omega
    rw [hl, show p * 3 + j - p * 3 = j by omega, List.getElem?_append_left (by rw [enEntCol_len]; exact hj)]
    exact hv)
  have fz : ∀ j, w1.frozen? ⟨g, p * 3 + j, none⟩ = false := fun j => hfz _
  have hne := hr.ne_blk hb (by decide)
  have HNE : Hd (b ≠ g) := hd (fun e => hne _ rfl e.symm)
  have HB := hd hb
  have HRW := hd hr
  have HG := hd hgS
  obtain ⟨ver0, text0⟩ := v0
  (have k0 := hcc 0 _ (by omega) rfl; have k1 := hcc 1 _ (by omega) rfl; have k2 := hcc 2 _ (by omega) rfl; rw [Nat.add_zero] at k0)
  (have x1 := fz 1; have x2 := fz 2)
  have hi0 : (0 : Int) ≤ (p : Int) := by omega
  have hi1 : (p : Int) < (n : Int) := by omega
  clear hzz hc hbe hcl hcc hr hb hfz fz hgS hne
  go_wp2_with fail
  go_region
  go_wp2
  go_ret
  have hrow := (row_setkEntCol (row_setkEntCol (HRW.o) (p * 3 + 1) (.int .i64 ver)) (p * 3 + 1 + 1) (.string (bs text))).drew
  have e2 : ((meEntCol l).set (p * 3 + 1) (.int .i64 ver)).set (p * 3 + 1 + 1) (.string (bs text)) = meEntCol (l.set p (k, ⟨ver, text⟩)) := by
    have h1 := HSET.o.1
    have h2 := HSET.o.2
    have hPl : ((meEntCol l).take (p * 3)).length = p * 3 := by rw [List.length_take, HRW.o.len]; omega
    rw [h1]
    generalize (meEntCol l).take (p * 3) = P at h1 h2 hPl ⊢
    generalize (meEntCol l).drop ((p + 1) * 3) = R at h1 h2 ⊢
    rw [h2]
    simp [enEntCol, ceEnc, List.set_append, hPl, Nat.add_assoc]
  rw [e2] at hrow
  refine ⟨rfl, ⟨some ⟨g, 0, none⟩, c, ?_, ?_, .inl hS, hsp.o⟩, ?_⟩
  · rw [List.length_set, HN.o]
    exact (((HB.o).far HNE.o _).far HNE.o _).drew
  · rw [List.length_set, HN.o]
    exact hrow.mono fun q hq => .inl hq
  · exact (((Chg.of_below S HBE.o).setCell (.inl HG.o) _).setCell (.inl HG.o) _).drew

set_option maxRecDepth 100000 in
set_option maxHeartbeats 2000000 in
theorem omputEntCol_new (w : World) (S : Nat → Prop) (b : Nat) (l : ML Ce) (k : List UInt8) (v : Ce) (h : OmEntCol w S b l) (hl : l.length ≤ 1000000) (hSw : ∀ q, S q → q < w.heap.size) (hq : hasM l k = false) :
    Calls Tryz.prog 145 #[.pointer (some ⟨b, 0, none⟩), .string (bs k), .agg (ceEnc v).toArray] w fun e w' => e = .returned (.bool true) ∧ OmEntCol w' (Plus S w.heap.size) b (putM l k v) ∧ Chg S w w' := by
  have hb1 := h.below ((Below.refl _ w).alloc (Nat.le_refl _) (.cells (ceEnc v).toArray 179))
  have hc := hd (findEntCol_calls (w.alloc (.cells (ceEnc v).toArray 179)) S b l k hb1 hl)
  rw [hq] at hc
  have hsp := hd (putM_spec k v h.rise).1
  have e : putM l k v = l.take (place l k) ++ (k, v) :: l.drop (place l k) := by simp [putM, hq]
  rw [e] at hsp ⊢
  have hpl := place_le l k
  obtain ⟨p, hpp⟩ : ∃ p, place l k = p := ⟨_, rfl⟩
  rw [hpp] at hc hsp hpl ⊢
  have H := hd hb1
  obtain ⟨n, hn⟩ : ∃ n, l.length = n := ⟨_, rfl⟩
  have HN := hd hn
  rw [hn] at hpl hl
  clear h hq hb1 hpp hn e
  have hone := hd (enEntCol_one (k, v))
  obtain ⟨ver, text⟩ := v
  simp only [ceEnc] at hc H ⊢
  go_enter Tryz.func145, Tryz.ntmps145
  go_wp2_with fail
  refine hc.o.mono ?_
  rintro e w1 ⟨rfl, hbe⟩
  obtain ⟨A, c, hb, hr, hS, _⟩ := H.o.below hbe
  rw [HN.o] at hb hr
  have hb0 := hb.at_ 0 rfl
  have hcap := hr.cap
  unfold maxLen at hcap
  have hzz := ((Blk.new w 179 #[.int .i64 ver, .string (bs text)]).below hbe (by simp))
  have hzl := hzz.lt
  (have z0 := hzz.at_ 0 rfl; have z1 := hzz.at_ 1 rfl; have y0 := hzz.frozen 0; have y1 := hzz.frozen 1)
  have HBE := hd ((balEntCol (Below.refl _ w) rfl (.cells #[.int .i64 ver, .string (bs text)] 179)).trans (hbe.mono (by simp)))
  have hne := hr.ne_blk hb (by decide)
  have hfar : Hd (¬ Of A b) := hd (fun hk => by
    cases A with
    | none => exact Of.none hk
    | some a => exact hne a rfl hk.some_.symm)
  have hnew : Hd (¬ Of A w1.heap.size) := hd (fun hk => by
    cases A with
    | none => exact Of.none hk
    | some a =>
      have h1 := hr.lt rfl
      have h2 := hk.some_
      omega)
  have HB := hd hb
  have HRW := hd hr
  have hzz' := hzz
  clear hzz hc hbe hr hb hne
  have hen : Hd ((enEntCol (k, ⟨ver, text⟩)).toArray = #[.string (bs k), .int .i64 ver, .string (bs text)]) := hd rfl
  have hsz1 : Hd (w.heap.size < w1.heap.size) := hd hzl
  have hzA : Hd (¬ Of A w.heap.size) := hd (fun hk => by
    have h1 := HRW.o.of_sub _ hk
    have := hSw _ h1
    omega)
  have HZ := hd hzz'
  have hzb : Hd (w.heap.size ≠ b) := hd (fun e => by have := hSw _ hS; omega)
  have hbw := HB.o.lt
  have HF : Hd (∀ w', Below w1.heap.size w1 w' → w'.cell? ⟨w.heap.size, 0, none⟩ = some (.int .i64 ver) ∧ w'.cell? ⟨w.heap.size, 1, none⟩ = some (.string (bs text))) := hd (fun w' h => ⟨(HZ.o.below h HZ.o.lt).at_ 0 rfl, (HZ.o.below h HZ.o.lt).at_ 1 rfl⟩)
  clear hSw
  go_wp2_with fail
  go_region_with (first
      | (go_at_call 166
         refine (insEntCol_calls _ (Of A) A n c p (meEntCol l) (enEntCol (k, ⟨ver, text⟩)) _ (by with_reducible (repeat (first | exact HRW.o.own_ | refine Row.alloc ?_ _ | refine Row.drew ?_))) rfl (meEntCol_one l) (by rw [hen.o]; repeat (first | (refine Blk.new_ _ _ ?_ _ _; simp; done) | refine Blk.drew ?_ | refine Blk.alloc ?_ _)) hone.o hl hpl hnew.o).mono ?_
         rintro e w2 ⟨A2, c2, rfl, hr2, hc2⟩
         have hb2 : Blk w2 b 210 #[.slice A n c] := Blk.chg (by repeat (first | exact HB.o | refine Blk.drew ?_ | refine Blk.alloc ?_ _)) hc2 hfar.o
         have hz2 : Blk w2 w.heap.size 179 #[.int .i64 ver, .string (bs text)] := Blk.chg (by repeat (first | exact HZ.o | refine Blk.drew ?_ | refine Blk.alloc ?_ _)) hc2 hzA.o
         have hf2 := hb2.frozen 0
         have hg2 := hb2.at_ 0 rfl
         have HB2 := hd hb2
         have HR2 := hd hr2
         have HC2 := hd hc2
         clear hb2 hr2 hc2 hz2))
  all_goals
    go_wp2_with fail
    go_ret
    have hlen : (l.take p ++ (k, ⟨ver, text⟩) :: l.drop p).length = n + 1 := by
      simp only [List.length_append, List.length_cons, List.length_take, List.length_drop, HN.o]
      omega
    refine ⟨rfl, ⟨A2, c2, ?_, ?_, .inl hS, hsp.o⟩, ?_⟩
    · rw [hlen]
      exact HB2.o.set_ 0 _
    · rw [hlen, meEntCol_ins]
      refine (HR2.o.mono fun q hq => ?_).far (HR2.o.ne_blk HB2.o (by decide)) _
      rcases hq with hq | hq
      · exact .inl (HRW.o.of_sub q hq)
      · simp at hq
        exact .inr (by omega)
    · refine Chg.setCell (Chg.trans ?_ HC2.o (fun q hq => .inl (HRW.o.of_sub q hq))) (.inl hS) _
      repeat (first | exact Chg.of_below S HBE.o | refine Chg.drew ?_ | refine Chg.alloc ?_ _)

/-- Put. -/
theorem omputEntCol_calls (w : World) (S : Nat → Prop) (b : Nat) (l : ML Ce) (k : List UInt8) (v : Ce) (h : OmEntCol w S b l) (hl : l.length ≤ 1000000) (hSw : ∀ q, S q → q < w.heap.size) :
    Calls Tryz.prog 145 #[.pointer (some ⟨b, 0, none⟩), .string (bs k), .agg (ceEnc v).toArray] w fun e w' => e = .returned (.bool (!hasM l k)) ∧ OmEntCol w' (Plus S w.heap.size) b (putM l k v) ∧ Chg S w w' := by
  cases hq : hasM l k with
  | true => exact omputEntCol_there w S b l k v h hl hq
  | false => exact omputEntCol_new w S b l k v h hl hSw hq

end Go.Proofs.YtfacfdjapjhpeaaGreatDoor
namespace Go.Proofs.YtfacfdjapjhpeaaGreatDoor
open Go.RowKit Go.Lib

/-- A collection at block b. -/
def ColR (w : World) (S : Nat → Prop) (b : Nat) (s : Cs) : Prop :=
  ∃ mb rb S1 S2, Blk w b 159 #[.pointer (some ⟨mb, 0, none⟩), .pointer (some ⟨rb, 0, none⟩), .int .i64 s.most, .int .i64 (bytesM s.ml), .int .i64 s.latest, .int .i64 s.horizon] ∧
    OmEntCol w S1 mb s.ml ∧ RingR w S2 rb s.cap s.log ∧ S b ∧ (∀ q, S1 q → S q ∧ q ≠ b ∧ ¬ S2 q ∧ q < w.heap.size) ∧ (∀ q, S2 q → S q ∧ q ≠ b ∧ q < w.heap.size)
theorem ColR.lt {w : World} {S : Nat → Prop} {b : Nat} {s : Cs} (h : ColR w S b s) : b < w.heap.size := by
  obtain ⟨mb, rb, S1, S2, hb, _⟩ := h
  exact hb.lt
theorem ColR.mono {w : World} {S T : Nat → Prop} {b : Nat} {s : Cs} (h : ColR w S b s) (hs : ∀ k, S k → T k) : ColR w T b s := by
  obtain ⟨mb, rb, S1, S2, h1, h2, h3, h4, h5, h6⟩ := h
  exact ⟨mb, rb, S1, S2, h1, h2, h3, hs _ h4, fun q hq => ⟨hs _ (h5 q hq).1, (h5 q hq).2⟩, fun q hq => ⟨hs _ (h6 q hq).1, (h6 q hq).2⟩⟩
theorem ColR.chg {w w' : World} {S T : Nat → Prop} {b : Nat} {s : Cs} (h : ColR w S b s) (hc : Chg T w w') (hd : ∀ k, S k → ¬ T k) : ColR w' S b s := by
  obtain ⟨mb, rb, S1, S2, h1, h2, h3, h4, h5, h6⟩ := h
  have hs := hc.size
  exact ⟨mb, rb, S1, S2, h1.chg hc (hd _ h4), h2.chg hc (fun q hq => hd _ (h5 q hq).1), h3.chg hc (fun q hq => hd _ (h6 q hq).1), h4, fun q hq => ⟨(h5 q hq).1, (h5 q hq).2.1, (h5 q hq).2.2.1, by have := (h5 q hq).2.2.2; omega⟩, fun q hq => ⟨(h6 q hq).1, (h6 q hq).2.1, by have := (h6 q hq).2.2; omega⟩⟩
theorem ColR.below {w w' : World} {S : Nat → Prop} {b : Nat} {s : Cs} (h : ColR w S b s) (hb : Below w.heap.size w w') : ColR w' S b s :=
  h.chg (Chg.of_below Non hb) (fun _ _ => id)
theorem ColR.shrink {w : World} {S : Nat → Prop} {b : Nat} {s : Cs} (h : ColR w S b s) : ColR w (fun k => S k ∧ k < w.heap.size) b s := by
  obtain ⟨mb, rb, S1, S2, h1, h2, h3, h4, h5, h6⟩ := h
  exact ⟨mb, rb, S1, S2, h1, h2, h3, ⟨h4, h1.lt⟩, fun q hq => ⟨⟨(h5 q hq).1, (h5 q hq).2.2.2⟩, (h5 q hq).2⟩, fun q hq => ⟨⟨(h6 q hq).1, (h6 q hq).2.2⟩, (h6 q hq).2⟩⟩
theorem ColR.rise {w : World} {S : Nat → Prop} {b : Nat} {s : Cs} (h : ColR w S b s) : Rising s.ml := by
  obtain ⟨mb, rb, S1, S2, h1, h2, _⟩ := h
  exact h2.rise

theorem cnew_calls (w : World) (S : Nat → Prop) (birth cards log : Int) (hS : ∀ k, w.heap.size ≤ k → S k) :
    Calls Tryz.prog 78 #[.int .i64 birth, .int .i64 cards, .int .i64 log] w fun e w' => ∃ b, e = .returned (.pointer (some ⟨b, 0, none⟩)) ∧ w.heap.size ≤ b ∧ ColR w' S b (Cs.new birth cards log) ∧ Below w.heap.size w w' := by
  have hn := hd (omnewEntCol_calls w (fun q => q = w.heap.size) rfl)
  have HS := hd hS
  clear hS
  go_enter Tryz.func78, Tryz.ntmps78
  go_wp2_with fail
  refine hn.o.mono ?_
  rintro e w1 ⟨rfl, hO, hbe⟩
  have HO := hd hO
  have HB := hd hbe
  have hol := hO.lt
  have HW := hd (show w.heap.size < w1.heap.size from hol)
  clear hn hO hbe
  go_wp2_with fail
  refine (rgnew_calls w1 (fun q => q = w1.heap.size) log rfl).mono ?_
  rintro e w2 ⟨rfl, hR, hbe⟩
  have HR := hd hR
  have HB2 := hd hbe
  have hs2 := hR.lt
  clear hR hbe
  go_wp2
  all_goals
    go_ret
    have hb12 : Below w.heap.size w w2 := HB.o.trans (HB2.o.mono HB.o.size)
    refine ⟨w2.heap.size, rfl, hb12.size, ?_, hb12.alloc hb12.size _⟩
    have hsz : w2.heap.size < (w2.alloc (.cells #[.pointer (some ⟨w.heap.size, 0, none⟩), .pointer (some ⟨w1.heap.size, 0, none⟩), .int .i64 (max cards 1), .int .i64 0, .int .i64 birth, .int .i64 birth] 159)).heap.size := by simp
    have hH := HW.o
    have hal : ∀ o, Below w2.heap.size w2 (w2.alloc o) := fun o => (Below.refl _ w2).alloc (Nat.le_refl _) o
    first
      | (refine ⟨w.heap.size, w1.heap.size, _, _, ?_, (HO.o.below HB2.o).below (hal _), HR.o.below (hal _), HS.o _ hb12.size, fun q hq => ?_, fun q hq => ?_⟩
         · show Blk _ _ _ #[_, _, .int .i64 (max cards 1), _, _, _]
           exact Blk.new _ _ _ -- max
         · subst hq; exact ⟨HS.o _ (Nat.le_refl _), by omega, by omega, by simp; omega⟩
         · subst hq; exact ⟨HS.o _ (by omega), by omega, by simp; omega⟩)
      | (have hm : max cards 1 = cards := by omega
         refine ⟨w.heap.size, w1.heap.size, _, _, ?_, (HO.o.below HB2.o).below (hal _), HR.o.below (hal _), HS.o _ hb12.size, fun q hq => ?_, fun q hq => ?_⟩
         · show Blk _ _ _ #[_, _, .int .i64 (max cards 1), _, _, _]
           rw [hm]; exact Blk.new _ _ _
         · subst hq; exact ⟨HS.o _ (Nat.le_refl _), by omega, by omega, by simp; omega⟩
         · subst hq; exact ⟨HS.o _ (by omega), by omega, by simp; omega⟩)
      | (have hm : max cards 1 = 1 := by omega
         refine ⟨w.heap.size, w1.heap.size, _, _, ?_, (HO.o.below HB2.o).below (hal _), HR.o.below (hal _), HS.o _ hb12.size, fun q hq => ?_, fun q hq => ?_⟩
         · show Blk _ _ _ #[_, _, .int .i64 (max cards 1), _, _, _]
           rw [hm]; exact Blk.new _ _ _
         · subst hq; exact ⟨HS.o _ (Nat.le_refl _), by omega, by omega, by simp; omega⟩
         · subst hq; exact ⟨HS.o _ (by omega), by omega, by simp; omega⟩)

theorem omlen_calls (w : World) (S : Nat → Prop) (b : Nat) (l : ML Ce) (h : OmEntCol w S b l) :
    Calls Tryz.prog 163 #[.pointer (some ⟨b, 0, none⟩)] w fun e w' => e = .returned (.int .i64 (l.length : Nat)) ∧ w = w' := by
  obtain ⟨A, c, hb, _⟩ := h
  have h0 := hb.at_ 0 rfl
  generalize l.length = n at *
  clear hb
  go_enter Tryz.func163, Tryz.ntmps163
  go_wp2
  go_ret
  exact ⟨rfl, rfl⟩
theorem clen_calls (w : World) (S : Nat → Prop) (b : Nat) (s : Cs) (h : ColR w S b s) :
    Calls Tryz.prog 140 #[.pointer (some ⟨b, 0, none⟩)] w fun e w' => e = .returned (.int .i64 (s.ml.length : Nat)) ∧ w = w' := by
  obtain ⟨mb, rb, S1, S2, h1, h2, _⟩ := h
  have h0 := h1.at_ 0 rfl
  have HC := hd (omlen_calls w S1 mb s.ml h2)
  generalize s.ml.length = n at *
  clear h1 h2
  go_enter Tryz.func140, Tryz.ntmps140
  go_wp2_with fail
  refine HC.o.mono ?_
  rintro e w' ⟨rfl, rfl⟩
  go_wp2
  go_ret
  exact ⟨rfl, rfl⟩
theorem cbytes_calls (w : World) (S : Nat → Prop) (b : Nat) (s : Cs) (h : ColR w S b s) :
    Calls Tryz.prog 83 #[.pointer (some ⟨b, 0, none⟩)] w fun e w' => e = .returned (.int .i64 (bytesM s.ml)) ∧ w = w' := by
  obtain ⟨mb, rb, S1, S2, h1, h2, _⟩ := h
  have h0 := h1.at_ 3 rfl
  generalize bytesM s.ml = n at *
  clear h1 h2
  go_enter Tryz.func83, Tryz.ntmps83
  go_wp2
  go_ret
  exact ⟨rfl, rfl⟩
theorem clatest_calls (w : World) (S : Nat → Prop) (b : Nat) (s : Cs) (h : ColR w S b s) :
    Calls Tryz.prog 49 #[.pointer (some ⟨b, 0, none⟩)] w fun e w' => e = .returned (.int .i64 s.latest) ∧ w = w' := by
  obtain ⟨mb, rb, S1, S2, h1, h2, _⟩ := h
  have h0 := h1.at_ 4 rfl
  generalize s.latest = n at *
  clear h1 h2
  go_enter Tryz.func49, Tryz.ntmps49
  go_wp2
  go_ret
  exact ⟨rfl, rfl⟩
set_option maxHeartbeats 1000000 in
theorem cget_calls (w : World) (S : Nat → Prop) (b : Nat) (s : Cs) (k : List UInt8) (h : ColR w S b s) (hl : s.ml.length ≤ 1000000) :
    Calls Tryz.prog 85 #[.pointer (some ⟨b, 0, none⟩), .string (bs k)] w fun e w' => e = .returned (.tuple #[.int .i64 (verM s.ml k), .string (bs (txtM s.ml k)), .bool (hasM s.ml k)]) ∧ Below w.heap.size w w' := by
  obtain ⟨mb, rb, S1, S2, h1, hO, _⟩ := h
  have h0 := h1.at_ 0 rfl
  have HO := hd hO
  clear h1 hO
  cases hg : getM s.ml k with
  | none =>
    have HC := hd (omgetEntCol_none w S1 mb s.ml k HO.o hl hg)
    have hh : hasM s.ml k = false := by simp [hasM, hg]
    rw [ver_none hh, txt_none hh, hh]
    clear hg hh
    go_enter Tryz.func85, Tryz.ntmps85
    go_wp2_with fail
    refine HC.o.mono ?_
    rintro e w1 ⟨rfl, hbe⟩
    go_wp2
    go_quiet (fail)
    go_wp2
    go_ret3
    exact ⟨rfl, bdrewN (hbe.alloc hbe.size _) _⟩
  | some v =>
    have HC := hd (omgetEntCol_some w S1 mb s.ml k v HO.o hl hg)
    have hh : hasM s.ml k = true := by simp [hasM, hg]
    have e1 : verM s.ml k = v.ver := by simp [verM, hg]
    have e2 : txtM s.ml k = v.text := by simp [txtM, hg]
    rw [hh, e1, e2]
    obtain ⟨ver, text⟩ := v
    simp only [ceEnc] at HC ⊢
    clear hg hh e1 e2
    go_enter Tryz.func85, Tryz.ntmps85
    go_wp2_with fail
    refine HC.o.mono ?_
    rintro e w1 ⟨rfl, hbe⟩
    go_wp2
    go_quiet (fail)
    go_wp2
    go_ret3
    exact ⟨rfl, bdrewN (hbe.alloc hbe.size _) _⟩

end Go.Proofs.YtfacfdjapjhpeaaGreatDoor
namespace Go.Proofs.YtfacfdjapjhpeaaGreatDoor
open Go.RowKit Go.Lib

def itsEnc (l : List It) : List Value := l.flatMap itEnc
theorem itEnc_len (x : It) : (itEnc x).length = 4 := rfl
theorem itEnc_one (x : It) : ∀ u ∈ itEnc x, u.oneCell' = true := by
  intro u hu
  simp [itEnc] at hu
  rcases hu with rfl | rfl | rfl | rfl <;> rfl
theorem itInfo : (Tryz.prog.info? 63).map (fun i => (i.zero, i.size, i.bytes)) = some (some (.agg #[.string ⟨#[]⟩, .int .i64 0, .bool false, .string ⟨#[]⟩]), 4, 48) := by kernel_rfl

theorem itsEnc_len' (l : List It) : (itsEnc l).length = l.length * 4 := flat_length itEnc 4 itEnc_len l
theorem Rds.takeI {w : World} {A : Option Addr} {n : Nat} {l : List It} (h : Rds w A n 4 (itsEnc l)) (m : Nat) (hm : m ≤ n) : Rds w A m 4 (itsEnc (l.take m)) := by
  have hl := h.len
  rw [itsEnc_len'] at hl
  refine ⟨by rw [itsEnc_len', List.length_take]; congr 1; omega, fun h0 => ?_⟩
  obtain ⟨g, o, hA, hg, hc⟩ := h.at_ (by omega)
  refine ⟨g, o, hA, hg, fun j u hu => hc j u ?_⟩
  have e : itsEnc (l.take m) = (itsEnc l).take (m * 4) := (flat_take itEnc 4 itEnc_len l m).symm
  rw [e, List.getElem?_take] at hu
  split at hu
  · exact hu
  · cases hu

end Go.Proofs.YtfacfdjapjhpeaaGreatDoor
