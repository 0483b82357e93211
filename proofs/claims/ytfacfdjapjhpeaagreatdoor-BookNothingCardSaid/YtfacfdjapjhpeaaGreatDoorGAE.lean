/-
  A map that rises (EntCol): where a key stands.
-/
import Derived.Test.YtfacfdjapjhpeaaGreatDoorGAA
import Derived.Test.YtfacfdjapjhpeaaGreatDoorGAD
import Derived.Test.YtfacfdjapjhpeaaGreatDoorProg
import Derived.BigQuiet
import Derived.Test.YtfacfdjapjhpeaaGreatDoorGAB
import Derived.Lib.AppendZerosOnto
import Derived.Lib.Overlaps
import Derived.Laws.Externs
import Derived.Laws.NewBlocks
import Derived.Deep.QuietTactic
import Derived.BigRegion
import Derived.StillTailTactics
import Derived.RangeFuncNested
import Derived.RangeFuncBound
import Derived.RangeFuncCalls
import Derived.RangeFuncLeaves
import Derived.Shelf.Abstract
import Derived.Shelf.RegionOpen
import Derived.OwnWalkIn
import Derived.TacticsInMore
import Derived.LoopNIn
import Derived.LoopIn
import Derived.Deep.CutRange
set_option linter.unusedVariables false
set_option linter.unusedSimpArgs false
namespace Go.Proofs.YtfacfdjapjhpeaaGreatDoor
open Go.RowKit Go.Lib

def enEntCol (x : List UInt8 × Ce) : List Value := .string (bs x.1) :: ceEnc x.2
def meEntCol (l : ML Ce) : List Value := l.flatMap enEntCol
theorem enEntCol_len (x : List UInt8 × Ce) : (enEntCol x).length = 3 := rfl
theorem enEntCol_one (x : List UInt8 × Ce) : ∀ u ∈ enEntCol x, u.oneCell' = true := by
  intro u hu
  simp [enEntCol, ceEnc] at hu
  rcases hu with rfl | rfl | rfl <;> rfl
theorem meEntCol_one (l : ML Ce) : ∀ u ∈ meEntCol l, u.oneCell' = true := by
  intro u hu
  obtain ⟨x, _, h⟩ := List.mem_flatMap.1 hu
  exact enEntCol_one x u h
theorem meEntCol_at (l : ML Ce) (i : Nat) (h : i < l.length) (j : Nat) (hj : j < 3) : (meEntCol l)[i * 3 + j]? = (enEntCol l[i])[j]? := flat_at enEntCol 3 enEntCol_len l i h j hj

theorem find1EntCol_calls (w : World) (x : List UInt8 × Ce) (k : List UInt8) :
    Calls Tryz.prog 168 #[.agg (enEntCol x).toArray, .string (bs k)] w fun e w' => e = .returned (.int .i64 (compareBytes x.1 k)) ∧ w.alloc (.cells (enEntCol x).toArray 220) = w' := by
  obtain ⟨key, ⟨ver, text⟩⟩ := x
  have hc := hd (scmp_calls (w.alloc (.cells (enEntCol (key, ⟨ver, text⟩)).toArray 220)) key k)
  simp only [enEntCol, ceEnc] at hc ⊢
  go_enter Tryz.func168, Tryz.ntmps168
  go_wp2_with fail
  refine hc.o.mono ?_
  rintro e w1 ⟨rfl, rfl⟩
  go_wp2_with fail
  go_ret
  exact ⟨rfl, rfl⟩

set_option maxHeartbeats 1000000 in
theorem bsfEntCol_calls (w : World) (S : Nat → Prop) (A : Option Addr) (c : Nat) (l : ML Ce) (k : List UInt8) (hr : Row w S 220 3 A l.length c (meEntCol l)) (hs : Rising l) (hl : l.length ≤ 1000000) :
    Calls Tryz.prog 167 #[.slice A l.length c, .string (bs k), .func (.func 168) #[] #[]] w fun e w' => e = .returned (.tuple #[.int .i64 (place l k : Nat), .bool (hasM l k)]) ∧ Below w.heap.size w w' := by
  obtain ⟨n, hn⟩ : ∃ n, l.length = n := ⟨_, rfl⟩
  obtain ⟨p, hp⟩ : ∃ p, place l k = p := ⟨_, rfl⟩
  obtain ⟨q, hq⟩ : ∃ q, hasM l k = q := ⟨_, rfl⟩
  have hpn : p ≤ n := by rw [← hp, ← hn]; exact place_le l k
  have HQ : Hd (q = match l[p]? with | some x => decide (x.1 = k) | none => false) := hd (by
    rw [← hq, ← hp, hasM, getM_place hs]
    cases l[place l k]? with
    | none => rfl
    | some x => by_cases h : x.1 = k <;> simp [h])
  have HP := hd (fun t (ht : t < l.length) => hp ▸ place_lt (k := k) hs t ht)
  have hcell := hd (fun (t : Nat) (ht : t < n) => (show ∃ x : List UInt8 × Ce, l[t]? = some x ∧ (t < p ↔ compareBytes x.1 k < 0) ∧ ∀ j, j < 3 → (meEntCol l)[t * 3 + j]? = (enEntCol x)[j]? from
    ⟨l[t]'(by omega), by simp [hn, ht], HP.o t (by omega), fun j hj => meEntCol_at l t (by omega) j hj⟩))
  rw [hn] at hr hl ⊢
  rw [hp, hq]
  have hcap := hr.cap
  unfold maxLen at hcap
  clear hp hq hn HP
  go_enter Tryz.func167, Tryz.ntmps167
  go_wp2_with fail
  go_loopw [9, 10] (fun x y wr => ∃ lo hi : Nat, x = .int .i64 lo ∧ y = .int .i64 hi ∧ lo ≤ hi ∧ hi ≤ n ∧ lo ≤ p ∧ p ≤ hi ∧ Below w.heap.size w wr) (fun x y _ => (RowKit.intOf y - RowKit.intOf x).toNat)
  case atStart => exact ⟨0, n, rfl, rfl, by omega, by omega, by omega, hpn, Below.refl _ _⟩
  case round =>
    obtain ⟨lo, hi, rfl, rfl, h1, h2, h3, h4, hbe⟩ := hrel
    by_cases hlt : lo < hi
    · obtain ⟨m, hm⟩ : ∃ m, m = (lo + hi) / 2 := ⟨_, rfl⟩
      have hmi : ((lo : Int) + (hi : Int)) / 2 = (m : Int) := by omega
      have hm1 : lo ≤ m := by omega
      have hm2 : m < hi := by omega
      have hm3 : m < n := by omega
      obtain ⟨g, rfl, _, hg, _, _, hc, _⟩ := hr.at_ (by omega)
      obtain ⟨x, hx, hxp, hxc⟩ := hcell.o m hm3
      have hcc : ∀ j v, j < 3 → (enEntCol x)[j]? = some v → wr.cell? ⟨g, m * 3 + j, none⟩ = some v := fun j v hj hv => (hbe.cell (p := ⟨g, m * 3 + j, none⟩) hg).trans (hc _ _ ((hxc j hj).trans hv))
      obtain ⟨key, ⟨ver, text⟩⟩ := x
      (have k0 := hcc 0 _ (by omega) rfl; have k1 := hcc 1 _ (by omega) rfl; have k2 := hcc 2 _ (by omega) rfl; rw [Nat.add_zero] at k0)
      have hf := hd (find1EntCol_calls wr (key, ⟨ver, text⟩) k)
      simp only [enEntCol, ceEnc] at hf
      obtain ⟨z, hz⟩ : ∃ z, compareBytes key k = z := ⟨_, rfl⟩
      simp only at hxp
      rw [hz] at hxp hf
      have HXP := hd hxp
      clear hm hx hxc hcc hc hr hxp hz
      by_cases hzl : z < 0
      · go_wp2_with (go_at_call 168; refine hf.o.mono ?_; rintro e w1 ⟨rfl, rfl⟩)
        have hmp := HXP.o.2 hzl
        go_roundw
        case rel => exact ⟨m + 1, hi, by go_num, rfl, by omega, by omega, by omega, by omega, hbe.alloc hbe.size _⟩
        case measure => simp [RowKit.intOf]; omega
      · have hmp : p ≤ m := Nat.le_of_not_lt (fun h => hzl (HXP.o.1 h))
        go_wp2_with (go_at_call 168; refine hf.o.mono ?_; rintro e w1 ⟨rfl, rfl⟩)
        go_roundw
        case rel => exact ⟨lo, m, rfl, by go_num, by omega, by omega, by omega, by omega, hbe.alloc hbe.size _⟩
        case measure => simp [RowKit.intOf]; omega
    · obtain rfl : hi = lo := by omega
      obtain rfl : p = hi := by omega
      by_cases hpn' : p < n
      · obtain ⟨g, rfl, _, hg, _, _, hc, _⟩ := hr.at_ (by omega)
        obtain ⟨x, hx, hxp, hxc⟩ := hcell.o p hpn'
        have hcc : ∀ j v, j < 3 → (enEntCol x)[j]? = some v → wr.cell? ⟨g, p * 3 + j, none⟩ = some v := fun j v hj hv => (hbe.cell (p := ⟨g, p * 3 + j, none⟩) hg).trans (hc _ _ ((hxc j hj).trans hv))
        obtain ⟨key, ⟨ver, text⟩⟩ := x
        obtain ⟨m, hm⟩ : ∃ m, m = p := ⟨_, rfl⟩
        have HQ2 : Hd (q = decide (compareBytes key k = 0)) := hd (by
          rw [HQ.o, hx]
          show decide (key = k) = _
          by_cases h : key = k
          · rw [h, cmp_self]; simp
          · have : compareBytes key k ≠ 0 := fun e => h (cmp_zero e)
            simp [h, this])
        rw [← hm] at hcc hpn'
        (have k0 := hcc 0 _ (by omega) rfl; have k1 := hcc 1 _ (by omega) rfl; have k2 := hcc 2 _ (by omega) rfl; rw [Nat.add_zero] at k0)
        have hf := hd (find1EntCol_calls wr (key, ⟨ver, text⟩) k)
        simp only [enEntCol, ceEnc] at hf
        obtain ⟨z, hz⟩ : ∃ z, compareBytes key k = z := ⟨_, rfl⟩
        rw [hz] at hf HQ2
        subst hm
        clear hx hxp hxc hcc hc hr hz HQ hcell
        go_wp2_with (go_at_call 168; refine hf.o.mono ?_; rintro e w1 ⟨rfl, rfl⟩)
        all_goals
          go_ret2
          refine ⟨ret_val ?_, hbe.alloc hbe.size _⟩
          rw [HQ2.o]
          first | rfl | (congr 2; simp_all) | simp_all
      · have HQ2 : Hd (q = false) := hd (by
          have e : l[p]? = none := by
            by_cases h : p < l.length
            · exfalso
              have hn2 := hr.len
              rw [meEntCol, flat_length enEntCol 3 enEntCol_len] at hn2
              omega
            · simp; omega
          rw [HQ.o, e])
        clear HQ hcell hr
        go_wp2
        go_ret2
        exact ⟨ret_val (by rw [HQ2.o]; first | rfl | simp), hbe⟩

end Go.Proofs.YtfacfdjapjhpeaaGreatDoor
namespace Go.Proofs.YtfacfdjapjhpeaaGreatDoor
open Go.RowKit

theorem run_copy_k {P : Program} (w : World) (dT sT ty elem : TypeId) (k g o dLen dCap : Nat) (a : Addr) (sLen sCap : Nat) (cur : Array Value) (t : TypeId) (cs : List Value)
    (hu : P.underlying dT = some (.slice elem)) (hs : (P.info? elem).map (·.size) = some k)
    (hg : Blk w g t cur) (hn : cs.length = Nat.min sLen dLen * k)
    (hsrc : ∀ j v, cs[j]? = some v → w.cell? (a.add j) = some v) (hfit : o + cs.length ≤ cur.size) (h1 : ∀ v ∈ cs, v.oneCell' = true) :
    (Builtin.copy_ #[dT, sT] ty #[.slice (some ⟨g, o, none⟩) dLen dCap, .slice (some a) sLen sCap]).run P w =
      .ok (goInt (Nat.min sLen dLen : Nat)) (w.setRow g (cur.toList.take o ++ cs ++ cur.toList.drop (o + cs.length)).toArray) := by
  have hl := run_loadCells_list (P := P) w a cs hsrc
  have hst := run_storeCells_at P g o t cs 0 cur w hg (by simpa using hfit) h1
  cases hq : P.info? elem with
  | none => simp [hq] at hs
  | some i =>
    have hi : i.size = k := by simpa [hq] using hs
    have hm : i.size * Nat.min sLen dLen = cs.length := by rw [hi, hn, Nat.mul_comm]
    have hm2 : Nat.min sLen dLen * i.size = cs.length := by rw [hi, hn]
    simp [Builtin.copy_, run_underlying hu, Builtin.lenOf, Builtin.firstCells, sizeOf, typeInfo, hq, hm, hm2, hl, hst]

theorem wp_copy_k {P : Program} (w : World) {o : Oper} {a : Act} {K : Act → World → Prop} {Q : Exit → Act → World → Prop} (d s : Operand) (t t' : TypeId)
    (ho : o.op = .call { callee := .builtin .copy, args := #[d, s], argTypes := #[t, t'] }) (v u : Value) (hd : a.eval d = v) (hs : a.eval s = u) {v' : Value} {w' : World}
    (hr : (Builtin.copy_ #[t, t'] o.type #[v, u]).run P w = .ok v' w') (h : K (a.put o.dst v') w') : o.wp P a w K Q := by
  unfold Oper.wp execOp
  simp only [ho, resolve, invoke, builtin, Sem.run_bind, Sem.run_pure, Result.andThen_ok, List.map_toArray, List.map_cons, List.map_nil, hd, hs, hr]
  exact h
theorem wpList_copy_k {P : Program} (w : World) {ops : Array Oper} {rest : List Oper} {o : Oper} {a : Act} {Q : Exit → Act → World → Prop} (hgd : o.guard = none) (d s : Operand) (t t' : TypeId)
    (ho : o.op = .call { callee := .builtin .copy, args := #[d, s], argTypes := #[t, t'] }) (v u : Value) (hd : a.eval d = v) (hs : a.eval s = u) {v' : Value} {w' : World}
    (hr : (Builtin.copy_ #[t, t'] o.type #[v, u]).run P w = .ok v' w') (h : wpList P ops Q rest (a.put o.dst v') w') : wpList P ops Q (o :: rest) a w :=
  wpList_plain hgd fun _ hK => wp_copy_k w d s t t' ho v u hd hs hr (hK _ _ h)
theorem step_copy_k {P : Program} {ops : Array Oper} {o : Oper} {a : Act} {w : World} {K : Act → World → Prop} {Q : Exit → Act → World → Prop} {E : Prop}
    (hg : o.guard = none) (d x : Operand) (dT sT : TypeId) (hop : o.op = Op.call { callee := Callee.builtin Builtin.copy, args := #[d, x], argTypes := #[dT, sT] })
    (v u : Value) (hd : a.eval d = v) (hx : a.eval x = u) {v' : Value} {w' : World} (hr : (Builtin.copy_ #[dT, sT] o.type #[v, u]).run P w = .ok v' w') (hK : K (a.put o.dst v') w') :
    if Region.wanted o (yielded ops a.tmps) = true then Oper.wp P o a w K Q else E := by
  have hw : Region.wanted o (yielded ops a.tmps) = true := by simp [Region.wanted, hg]
  rw [if_pos hw]
  unfold Oper.wp
  simp [execOp, hop, resolve, invoke, builtin, hd, hx, hr, Result.andThen]
  exact hK

/-- One element of k cells put in at place i: in place (n + 1 elements have room): the cells from i on are moved up by one element, then the new one is laid over. -/
theorem ins_list (cur xs vs : List Value) (i k n : Nat) (hx : cur.take (n * k) = xs) (hl : (n + 1) * k ≤ cur.length) (hi : i ≤ n) (hv : vs.length = k) (c1 c2 : List Value)
    (h1 : c1 = cur.take ((i + 1) * k) ++ xs.drop (i * k) ++ cur.drop ((i + 1) * k + (xs.drop (i * k)).length)) (h2 : c2 = c1.take (i * k) ++ vs ++ c1.drop (i * k + vs.length)) :
    c2.take ((n + 1) * k) = xs.take (i * k) ++ vs ++ xs.drop (i * k) := by
  have hnk : n * k ≤ cur.length := by rw [Nat.add_mul] at hl; omega
  have hxl : xs.length = n * k := by rw [← hx, List.length_take]; omega
  have hik : i * k ≤ n * k := Nat.mul_le_mul_right k hi
  have e1 : (i + 1) * k = i * k + k := by rw [Nat.add_mul, Nat.one_mul]
  have e2 : (n + 1) * k = n * k + k := by rw [Nat.add_mul, Nat.one_mul]
  rw [e1] at h1
  rw [e2] at hl ⊢
  generalize i * k = p at *
  generalize n * k = q at *
  have t1 : c1.take p = xs.take p := by
    rw [h1, ← hx, List.append_assoc, List.take_append_of_le_length (by rw [List.length_take]; omega), List.take_take, List.take_take]
    congr 1
    omega
  have t2 : c1.drop (p + k) = xs.drop p ++ cur.drop (p + k + (xs.drop p).length) := by
    rw [h1, List.append_assoc, List.drop_append_of_le_length (by rw [List.length_take]; omega)]
    rw [List.drop_of_length_le (by rw [List.length_take]; omega)]
    rfl
  rw [h2, hv, t1, t2]
  have hlen : (xs.take p ++ vs ++ xs.drop p).length = q + k := by
    simp only [List.length_append, List.length_take, List.length_drop, hxl, hv]
    omega
  rw [← List.append_assoc, ← hlen]
  exact List.take_left

/-- The same in a new row, laid by append of zero cells. -/
theorem ins_list2 (row xs vs : List Value) (i k n : Nat) (ht : row.take (i * k) = xs.take (i * k)) (hx : xs.length = n * k) (hl : (n + 1) * k ≤ row.length) (hi : i ≤ n) (hv : vs.length = k) (c1 c2 : List Value)
    (h1 : c1 = row.take (i * k) ++ vs ++ row.drop (i * k + vs.length)) (h2 : c2 = c1.take ((i + 1) * k) ++ xs.drop (i * k) ++ c1.drop ((i + 1) * k + (xs.drop (i * k)).length)) :
    c2.take ((n + 1) * k) = xs.take (i * k) ++ vs ++ xs.drop (i * k) := by
  have hik : i * k ≤ n * k := Nat.mul_le_mul_right k hi
  have e1 : (i + 1) * k = i * k + k := by rw [Nat.add_mul, Nat.one_mul]
  have e2 : (n + 1) * k = n * k + k := by rw [Nat.add_mul, Nat.one_mul]
  rw [e1] at h2
  rw [e2] at hl ⊢
  generalize i * k = p at *
  generalize n * k = q at *
  have t1 : c1.take (p + k) = xs.take p ++ vs := by
    have hl2 : (xs.take p ++ vs).length = p + k := by rw [List.length_append, List.length_take, hx, hv]; omega
    rw [h1, ht, ← hl2]
    exact List.take_left
  rw [h2, t1]
  have hlen : (xs.take p ++ vs ++ xs.drop p).length = q + k := by
    simp only [List.length_append, List.length_take, List.length_drop, hx, hv]
    omega
  rw [← hlen]
  exact List.take_left
end Go.Proofs.YtfacfdjapjhpeaaGreatDoor
namespace Go.Proofs.YtfacfdjapjhpeaaGreatDoor
open Go.RowKit

theorem insEntCol_info : (Tryz.prog.info? 220).map (fun i => (i.zero, i.size, i.bytes)) = some (some (.agg #[Value.string ⟨#[]⟩, Value.int IntKind.i64 0, Value.string ⟨#[]⟩]), 3, 40) := by kernel_rfl

set_option maxHeartbeats 1600000 in
set_option maxRecDepth 100000 in
/-- At the end. -/
theorem insEntCol_end (w : World) (S : Nat → Prop) (A : Option Addr) (n c : Nat) (xs vs : List Value) (vb : Nat) (hr : Row w S 220 3 A n c xs) (hl : vs.length = 3)
    (hvs : ∀ j v, vs[j]? = some v → w.cell? ⟨vb, j, none⟩ = some v) (h1v : ∀ v ∈ vs, v.oneCell' = true) (hn : n ≤ 1000000) :
    Calls Tryz.prog 166 #[.slice A n c, .int .i64 n, .slice (some ⟨vb, 0, none⟩) 1 1] w fun e w' => ∃ A' c', e = .returned (.slice A' (n + 1) c') ∧ Row w' (Plus S w.heap.size) 220 3 A' (n + 1) c' (xs ++ vs) ∧ Chg S w w' := by
  obtain ⟨i0, hi0, hz0, hz1, hz2⟩ := info_parts insEntCol_info
  have hcap := hr.cap
  unfold maxLen at hcap
  go_enter Tryz.func166, Tryz.ntmps166
  go_wp2_with (at_builtin; go_loud (refine wpList_append_row rfl _ _ 208 rfl S 220 i0 (.agg #[Value.string ⟨#[]⟩, Value.int IntKind.i64 0, Value.string ⟨#[]⟩]) 3 40 Tryz.underlying208 hi0 hz0 hz1 hz2 rfl A n c xs rfl hr ⟨vb, 0, none⟩ 1 1 vs rfl (by rw [hl]) (fun j u hu => by rw [Addr.add_lit, Nat.zero_add]; exact hvs j u hu) h1v (by omega) (by unfold maxLen; omega) (by omega) ?_; intro A2 c2 w2 hown2 hchg2))
  all_goals
    go_ret
    exact ⟨A2, c2, rfl, hown2, hchg2⟩

set_option maxHeartbeats 4000000 in
set_option maxRecDepth 100000 in
/-- Ahead of others, where there is room. -/
theorem insEntCol_room (w : World) (S : Nat → Prop) (A : Option Addr) (n c i : Nat) (xs vs : List Value) (vb : Nat) (hr : Row w S 220 3 A n c xs) (hl : vs.length = 3) (h1x : ∀ u ∈ xs, u.oneCell' = true)
    (hvs : Blk w vb 220 vs.toArray) (h1v : ∀ v ∈ vs, v.oneCell' = true) (hn : n ≤ 1000000) (hi : i < n) (hroom : n + 1 ≤ c) (hnv : ¬ S vb) :
    Calls Tryz.prog 166 #[.slice A n c, .int .i64 i, .slice (some ⟨vb, 0, none⟩) 1 1] w fun e w' => ∃ A' c', e = .returned (.slice A' (n + 1) c') ∧ Row w' (Plus S w.heap.size) 220 3 A' (n + 1) c' (xs.take (i * 3) ++ vs ++ xs.drop (i * 3)) ∧ Chg S w w' := by
  obtain ⟨i0, hi0, hz0, hz1, hz2⟩ := info_parts insEntCol_info
  have hcap := hr.cap
  unfold maxLen at hcap
  obtain ⟨g0, hA, _⟩ := hr.at_ (by omega)
  obtain ⟨g, cur, e0, hS, hb, hnc, hcm, hcs, ht⟩ := hr.block hA
  injection e0 with e0
  subst e0
  subst hA
  have hlen := hr.len
  have hne : vb ≠ g0 := fun e => hnv (e ▸ hS)
  have hsz : (Tryz.prog.info? 220).map (·.size) = some 3 := by rw [hi0]; simp [hz1]
  have hso : ∀ w, (sizeOf 220).run Tryz.prog w = .ok 3 w := fun w => by simp [sizeOf, typeInfo, hi0, hz1]
  have hov : ∀ lb cb, (callFunc 185 #[.slice (some ⟨vb, 0, none⟩) 1 1, .slice (some ⟨g0, (i + 1) * 3, none⟩) lb cb]).run Tryz.prog w = .ok (.value (.bool false)) w := fun lb cb => by
    rw [run_callFunc_extern Tryz.func185 (by kernel_rfl) (by kernel_rfl) (by kernel_rfl) (e := Extern.SlicesOverlaps.overlaps #[208, 208] #[4]) (by kernel_rfl),
      Lib.run_overlaps_apart w 208 4 220 Tryz.underlying208 3 hso ⟨vb, 0, none⟩ ⟨g0, (i + 1) * 3, none⟩ 1 1 lb cb hne 220 220 3 cur.size (by simp only [World.shape?]; rw [show w.heap[vb]? = some _ from hvs]; simp [hl]) (by simp only [World.shape?]; rw [show w.heap[g0]? = some _ from hb]) (by omega) (hvs.frozen _) (hvs.frozen _)]
    rfl
  have hdl : (xs.drop (i * 3)).length = (n - i) * 3 := by rw [List.length_drop, hlen, Nat.sub_mul]
  have hcell : ∀ j u, xs[j]? = some u → w.cell? ⟨g0, j, none⟩ = some u := by
    intro j u hu
    rw [hb.cell]
    rw [← ht, List.getElem?_take] at hu
    split at hu
    · simpa using hu
    · cases hu
  obtain ⟨c1, hc1⟩ : ∃ c1, c1 = cur.toList.take ((i + 1) * 3) ++ xs.drop (i * 3) ++ cur.toList.drop ((i + 1) * 3 + (xs.drop (i * 3)).length) := ⟨_, rfl⟩
  have hc1l : c1.length = cur.size := by rw [hc1]; simp only [List.length_append, List.length_take, List.length_drop, Array.length_toList, hlen]; omega
  obtain ⟨W1, hW1⟩ : ∃ W1, W1 = w.drew.setRow g0 c1.toArray := ⟨_, rfl⟩
  have hb1 : Blk W1 g0 220 c1.toArray := by rw [hW1]; exact hb.drew.setRow _
  have hv1 : Blk W1 vb 220 vs.toArray := by rw [hW1]; exact hvs.drew.setRow_far hne _
  have hcp1 : ∀ ty dc sc, (Builtin.copy_ #[208, 208] ty #[.slice (some ⟨g0, (i + 1) * 3, none⟩) (n - i) dc, .slice (some ⟨g0, i * 3, none⟩) (n + 1 - i) sc]).run Tryz.prog w.drew = .ok (goInt (Nat.min (n + 1 - i) (n - i) : Nat)) W1 := fun ty dc sc => by
    rw [hW1, hc1]
    exact run_copy_k w.drew 208 208 ty 220 3 g0 ((i + 1) * 3) (n - i) dc ⟨g0, i * 3, none⟩ (n + 1 - i) sc cur 220 (xs.drop (i * 3)) Tryz.underlying208 hsz hb.drew
      (by rw [hdl]; congr 1; show n - i = min (n + 1 - i) (n - i); omega) (fun j v hj => by rw [Addr.add_lit]; exact hcell _ v (by rwa [List.getElem?_drop] at hj)) (by rw [hdl, hcs]; omega) (fun v hv => h1x v (List.mem_of_mem_drop hv))
  obtain ⟨c2, hc2⟩ : ∃ c2, c2 = c1.take (i * 3) ++ vs ++ c1.drop (i * 3 + vs.length) := ⟨_, rfl⟩
  have hc2l : c2.length = cur.size := by rw [hc2]; simp only [List.length_append, List.length_take, List.length_drop, hc1l, hl]; omega
  have hcp2 : ∀ ty dc, (Builtin.copy_ #[208, 208] ty #[.slice (some ⟨g0, i * 3, none⟩) (n + 1 - i) dc, .slice (some ⟨vb, 0, none⟩) 1 1]).run Tryz.prog W1 = .ok (goInt (Nat.min 1 (n + 1 - i) : Nat)) (W1.setRow g0 c2.toArray) := fun ty dc => by
    have h := run_copy_k (P := Tryz.prog) W1 208 208 ty 220 3 g0 (i * 3) (n + 1 - i) dc ⟨vb, 0, none⟩ 1 1 c1.toArray 220 vs Tryz.underlying208 hsz hb1
      (by rw [hl, show Nat.min 1 (n + 1 - i) = 1 from (by omega : min 1 (n + 1 - i) = 1)]) (fun j v hj => by rw [Addr.add_lit, Nat.zero_add]; exact hv1.at_ j (by simpa using hj)) (by simp only [List.size_toArray]; omega) h1v
    rw [hc2]
    exact h
  have HW1 := hd hW1
  have FIN := hd (ins_list cur.toList xs vs i 3 n ht (by rw [Array.length_toList, hcs]; exact Nat.mul_le_mul_right _ hroom) (by omega) hl c1 c2 hc1 hc2)
  have HC2 := hd hc2l
  have HB1 := hd hb1
  have HR := hd hcs
  have HL := hd hlen
  have HV := hd hl
  have hw1 : IntKind.i64.wrap ((i : Int) + 1) = (i : Int) + 1 := by rw [IntKind.wrap_i64]; omega
  have hw2 : IntKind.i64.wrap ((n : Int) + 1) = (n : Int) + 1 := by rw [IntKind.wrap_i64]; omega
  have hb1' : (0 : Int) ≤ (i : Int) + 1 := by omega
  have htn : ((i : Int) + 1).toNat = i + 1 := by omega
  have htn2 : ((n : Int) + 1).toNat = n + 1 := by omega
  have hb2 : ¬ (c = i + 1) := by omega
  have hb3 : (i : Int) ≤ (n : Int) + 1 := by omega
  have hb4 : ¬ (c = i) := by omega
  have hz2' : ¬ ((i : Int) = (n : Int)) := by omega
  have hin : i ≤ n := by omega
  clear hr hW1 hc1 hc2 ht hcell hb1 hv1 hdl hb hvs hc1l hc2l hcs hlen hl h1x h1v
  go_enter Tryz.func166, Tryz.ntmps166
  go_wp2_with (simp only [hov])
  go_region_law (refine step_copy_k rfl _ _ 208 208 rfl _ _ (by simp [Act.eval, Act.put]) (by simp [Act.eval, Act.put]) (hcp1 _ _ _) ?_)
  go_wp2_with (at_builtin; refine wpList_copy_k _ rfl _ _ 208 208 rfl _ _ rfl rfl (hcp2 _ _) ?_)
  go_ret
  refine ⟨some ⟨g0, 0, none⟩, c, rfl, Row.of_block (HB1.o.setRow _) (.inl hS) (by omega) (by unfold maxLen; omega) ?_ ?_ ?_, ?_⟩
  · rw [List.size_toArray, HC2.o, HR.o]
  · exact FIN.o
  · simp only [List.length_append, List.length_take, List.length_drop]
    rw [HL.o, HV.o]; omega
  · rw [HW1.o]
    exact ((Chg.refl _ _).drew.setRow (.inl hS) _).setRow (.inl hS) _

set_option maxHeartbeats 4000000 in
set_option maxRecDepth 100000 in
/-- Ahead of others, where there is no room. -/
theorem insEntCol_grow (w : World) (S : Nat → Prop) (A : Option Addr) (n c i : Nat) (xs vs : List Value) (vb : Nat) (hr : Row w S 220 3 A n c xs) (hl : vs.length = 3) (h1x : ∀ u ∈ xs, u.oneCell' = true)
    (hvs : Blk w vb 220 vs.toArray) (h1v : ∀ v ∈ vs, v.oneCell' = true) (hn : n ≤ 1000000) (hi : i < n) (hroom : ¬ n + 1 ≤ c) :
    Calls Tryz.prog 166 #[.slice A n c, .int .i64 i, .slice (some ⟨vb, 0, none⟩) 1 1] w fun e w' => ∃ A' c', e = .returned (.slice A' (n + 1) c') ∧ Row w' (Plus S w.heap.size) 220 3 A' (n + 1) c' (xs.take (i * 3) ++ vs ++ xs.drop (i * 3)) ∧ Chg S w w' := by
  obtain ⟨i0, hi0, hz0, hz1, hz2⟩ := info_parts insEntCol_info
  have hcap := hr.cap
  unfold maxLen at hcap
  obtain ⟨g0, hA, _⟩ := hr.at_ (by omega)
  obtain ⟨g, cur, e0, hS, hb, hnc, hcm, hcs, ht⟩ := hr.block hA
  injection e0 with e0
  subst e0
  subst hA
  have hcn : c = n := by omega
  subst hcn
  have hlen := hr.len
  have hbw : g0 < w.heap.size := hb.lt
  have hvw : vb < w.heap.size := hvs.lt
  have hsz : (Tryz.prog.info? 220).map (·.size) = some 3 := by rw [hi0]; simp [hz1]
  have hdl : (xs.drop (i * 3)).length = (c - i) * 3 := by rw [List.length_drop, hlen, Nat.sub_mul]
  have htl : (xs.take (i * 3)).length = i * 3 := by rw [List.length_take, hlen]; omega
  have hcell : ∀ j u, xs[j]? = some u → w.cell? ⟨g0, j, none⟩ = some u := by
    intro j u hu
    rw [hb.cell]
    rw [← ht, List.getElem?_take] at hu
    split at hu
    · simpa using hu
    · cases hu
  have hold : (Builtin.firstCells i0.size i (.slice (some ⟨g0, 0, none⟩) i c)).run Tryz.prog w.drew = .ok (xs.take (i * 3)).toArray w.drew := by
    rw [hz1]
    exact run_firstCells_some w.drew 3 i ⟨g0, 0, none⟩ i c (xs.take (i * 3)) (by rw [htl, Nat.mul_comm]) (fun j v hj => by
      rw [Addr.add_lit, Nat.zero_add]
      rw [List.getElem?_take] at hj
      split at hj
      · exact hcell j v hj
      · cases hj)
  have hik : i + (c + 1 - i) = c + 1 := by omega
  have hkk : (c : Int) + 1 - (i : Int) = ((c + 1 - i : Nat) : Int) := by omega
  obtain ⟨G, hG⟩ : ∃ G, G = grownCap w (c + 1) c 220 := ⟨_, rfl⟩
  have hGn : c + 1 ≤ G := by rw [hG]; exact grownCap_ge w _ _ _
  have hGm : G ≤ maxLen := by rw [hG]; exact grownCap_le_maxLen w (c + 1) c 220 (by unfold maxLen; omega)
  obtain ⟨ROW, hROW⟩ : ∃ ROW : Array Value, ROW = (xs.take (i * 3)).toArray ++ Builtin.zeroCells (Value.agg #[Value.string ⟨#[]⟩, Value.int IntKind.i64 0, Value.string ⟨#[]⟩]).cells (c + 1 - i) ++ Builtin.zeroCells (Value.agg #[Value.string ⟨#[]⟩, Value.int IntKind.i64 0, Value.string ⟨#[]⟩]).cells (G - (c + 1)) := ⟨_, rfl⟩
  have hRl : ROW.size = G * 3 := by
    rw [hROW]
    simp only [Array.size_append, List.size_toArray, size_zeroCells, htl]
    rw [show (Value.agg #[Value.string ⟨#[]⟩, Value.int IntKind.i64 0, Value.string ⟨#[]⟩]).cells.size = 3 from rfl]
    omega
  have hRt : ROW.toList.take (i * 3) = xs.take (i * 3) := by
    rw [hROW]
    simp only [Array.toList_append, List.append_assoc]
    rw [List.take_append_of_le_length (by rw [htl]; exact Nat.le_refl _), List.take_take, Nat.min_self]
  have hrz : ∀ ty, (Builtin.append_ #[208, 3] ty #[.slice (some ⟨g0, 0, none⟩) i c, .int .i64 ((c : Int) + 1 - (i : Int))]).run Tryz.prog w = .ok (.slice (some ⟨w.heap.size, 0, none⟩) (c + 1) G) (w.drew.alloc (.cells ROW 220)) := fun ty => by
    have h := Lib.run_append_grow_zeros w 208 3 ty 220 i0 _ .i64 .i64 Tryz.underlying208 Tryz.underlying3 hi0 hz0 (some ⟨g0, 0, none⟩) i c (xs.take (i * 3)) hold (c + 1 - i) (by omega) (by omega) (by omega) (by omega) (by rw [hz2]; omega) (by rw [hz2, hik]; exact growslice_fits (by omega) (by omega))
    rw [hik] at h
    rw [hkk, hROW, hG]
    exact h
  obtain ⟨W1, hW1⟩ : ∃ W1, W1 = w.drew.alloc (.cells ROW 220) := ⟨_, rfl⟩
  obtain ⟨N, hN⟩ : ∃ N, N = w.heap.size := ⟨_, rfl⟩
  have hNb : Blk W1 N 220 ROW := by rw [hW1, hN]; exact Blk.new w.drew 220 ROW
  have hgb : Blk W1 g0 220 cur := by rw [hW1]; exact hb.drew.alloc _
  have hvb : Blk W1 vb 220 vs.toArray := by rw [hW1]; exact hvs.drew.alloc _
  rw [← hW1, ← hN] at hrz
  obtain ⟨c1, hc1⟩ : ∃ c1, c1 = ROW.toList.take (i * 3) ++ vs ++ ROW.toList.drop (i * 3 + vs.length) := ⟨_, rfl⟩
  have hc1l : c1.length = G * 3 := by rw [hc1]; simp only [List.length_append, List.length_take, List.length_drop, Array.length_toList, hRl, hl]; omega
  obtain ⟨W2, hW2⟩ : ∃ W2, W2 = W1.setRow N c1.toArray := ⟨_, rfl⟩
  have hcp1 : ∀ ty dc, (Builtin.copy_ #[208, 208] ty #[.slice (some ⟨N, i * 3, none⟩) (c + 1 - i) dc, .slice (some ⟨vb, 0, none⟩) 1 1]).run Tryz.prog W1 = .ok (goInt (Nat.min 1 (c + 1 - i) : Nat)) W2 := fun ty dc => by
    have h := run_copy_k (P := Tryz.prog) W1 208 208 ty 220 3 N (i * 3) (c + 1 - i) dc ⟨vb, 0, none⟩ 1 1 ROW 220 vs Tryz.underlying208 hsz hNb
      (by rw [hl, show Nat.min 1 (c + 1 - i) = 1 from (by omega : min 1 (c + 1 - i) = 1)]) (fun j v hj => by rw [Addr.add_lit, Nat.zero_add]; exact hvb.at_ j (by simpa using hj)) (by rw [hRl]; omega) h1v
    rw [hW2, hc1]
    exact h
  have hNb2 : Blk W2 N 220 c1.toArray := by rw [hW2]; exact hNb.setRow _
  have hgb2 : Blk W2.drew g0 220 cur := by rw [hW2]; exact (hgb.setRow_far (by omega) _).drew
  obtain ⟨c2, hc2⟩ : ∃ c2, c2 = c1.take ((i + 1) * 3) ++ xs.drop (i * 3) ++ c1.drop ((i + 1) * 3 + (xs.drop (i * 3)).length) := ⟨_, rfl⟩
  have hc2l : c2.length = G * 3 := by rw [hc2]; simp only [List.length_append, List.length_take, List.length_drop, hc1l, hlen]; omega
  obtain ⟨W3, hW3⟩ : ∃ W3, W3 = W2.drew.setRow N c2.toArray := ⟨_, rfl⟩
  have hcp2 : ∀ ty dc sc, (Builtin.copy_ #[208, 208] ty #[.slice (some ⟨N, (i + 1) * 3, none⟩) (c - i) dc, .slice (some ⟨g0, i * 3, none⟩) (c - i) sc]).run Tryz.prog W2.drew = .ok (goInt (Nat.min (c - i) (c - i) : Nat)) W3 := fun ty dc sc => by
    have h := run_copy_k (P := Tryz.prog) W2.drew 208 208 ty 220 3 N ((i + 1) * 3) (c - i) dc ⟨g0, i * 3, none⟩ (c - i) sc c1.toArray 220 (xs.drop (i * 3)) Tryz.underlying208 hsz hNb2.drew
      (by rw [hdl]; congr 1; show c - i = min (c - i) (c - i); omega) (fun j v hj => by
        rw [Addr.add_lit]
        have := (hb.cell (i * 3 + j)).symm.trans (hcell _ v (by rwa [List.getElem?_drop] at hj))
        exact (hgb2.cell _).trans this) (by rw [List.size_toArray, hdl, hc1l]; omega) (fun v hv => h1x v (List.mem_of_mem_drop hv))
    rw [hW3, hc2]
    exact h
  have FIN := hd (ins_list2 ROW.toList xs vs i 3 c hRt hlen (by rw [Array.length_toList, hRl]; exact Nat.mul_le_mul_right _ hGn) (by omega) hl c1 c2 hc1 hc2)
  have HB3 : Hd (Blk W3 N 220 c2.toArray) := hd (by rw [hW3]; exact hNb2.drew.setRow _)
  have HC3 : Hd (Chg S w W3) := hd (by
    rw [hW3, hW2, hW1]
    exact (((Chg.refl S w).drew.alloc _).setRow (.inr (by rw [hN]; exact Nat.le_refl _)) _).drew.setRow (.inr (by rw [hN]; exact Nat.le_refl _)) _)
  have HSN : Hd (Plus S w.heap.size N) := hd (.inr (by rw [hN]; exact Nat.le_refl _))
  have HC2 := hd hc2l
  have HL := hd hlen
  have HV := hd hl
  have hG63 : G ≤ 9223372036854775807 := by unfold maxLen at hGm; omega
  have hw1 : IntKind.i64.wrap ((i : Int) + 1) = (i : Int) + 1 := by rw [IntKind.wrap_i64]; omega
  have hw2 : IntKind.i64.wrap ((c : Int) + 1) = (c : Int) + 1 := by rw [IntKind.wrap_i64]; omega
  have hw3 : IntKind.i64.wrap ((c : Int) + 1 - (i : Int)) = (c : Int) + 1 - (i : Int) := by rw [IntKind.wrap_i64]; omega
  have hb1' : (0 : Int) ≤ (i : Int) + 1 := by omega
  have htn : ((i : Int) + 1).toNat = i + 1 := by omega
  have hGi : ¬ (G = i) := by omega
  have hGim : ¬ (G = i + 1) := by omega
  have hci : ¬ (c = i) := by omega
  have hz2' : ¬ ((i : Int) = (c : Int)) := by omega
  have hz3 : (c : Int) < (c : Int) + 1 := by omega
  have hin : i ≤ c := by omega
  have hb3 : (i : Int) ≤ (c : Int) := by omega
  clear hr hW1 hW2 hW3 hc1 hc2 ht hcell hNb hNb2 hgb hgb2 hvb hdl htl hb hvs hc1l hc2l hcs hlen hl h1x h1v hROW hRl hRt hold hkk hik hN hG hroom hcap hcm
  go_enter Tryz.func166, Tryz.ntmps166
  go_wp2_with (first
    | (at_builtin; refine Lib.wpList_append_run _ rfl _ _ _ _ rfl _ _ rfl rfl _ _ (hrz _) ?_)
    | (at_builtin; refine wpList_copy_k _ rfl _ _ 208 208 rfl _ _ rfl rfl (hcp1 _ _) ?_))
  go_region_law (refine step_copy_k rfl _ _ 208 208 rfl _ _ (by simp [Act.eval, Act.put]) (by simp [Act.eval, Act.put]) (hcp2 _ _ _) ?_)
  go_wp2
  go_ret
  refine ⟨some ⟨N, 0, none⟩, G, rfl, Row.of_block HB3.o HSN.o hGn hGm ?_ FIN.o ?_, HC3.o⟩
  · rw [List.size_toArray, HC2.o]
  · simp only [List.length_append, List.length_take, List.length_drop]
    rw [HL.o, HV.o]; omega

/-- Put in at place i. -/
theorem insEntCol_calls (w : World) (S : Nat → Prop) (A : Option Addr) (n c i : Nat) (xs vs : List Value) (vb : Nat) (hr : Row w S 220 3 A n c xs) (hl : vs.length = 3) (h1x : ∀ u ∈ xs, u.oneCell' = true)
    (hvs : Blk w vb 220 vs.toArray) (h1v : ∀ v ∈ vs, v.oneCell' = true) (hn : n ≤ 1000000) (hi : i ≤ n) (hnv : ¬ S vb) :
    Calls Tryz.prog 166 #[.slice A n c, .int .i64 i, .slice (some ⟨vb, 0, none⟩) 1 1] w fun e w' => ∃ A' c', e = .returned (.slice A' (n + 1) c') ∧ Row w' (Plus S w.heap.size) 220 3 A' (n + 1) c' (xs.take (i * 3) ++ vs ++ xs.drop (i * 3)) ∧ Chg S w w' := by
  by_cases hin : i < n
  · by_cases hroom : n + 1 ≤ c
    · exact insEntCol_room w S A n c i xs vs vb hr hl h1x hvs h1v hn hin hroom hnv
    · exact insEntCol_grow w S A n c i xs vs vb hr hl h1x hvs h1v hn hin hroom
  · obtain rfl : i = n := by omega
    rw [List.take_of_length_le (by rw [hr.len]; exact Nat.le_refl _), List.drop_of_length_le (by rw [hr.len]; exact Nat.le_refl _), List.append_nil]
    exact insEntCol_end w S A i c xs vs vb hr hl (fun j v hj => hvs.at_ j (by simpa using hj)) h1v hn

end Go.Proofs.YtfacfdjapjhpeaaGreatDoor
namespace Go.Proofs.YtfacfdjapjhpeaaGreatDoor
open Go.RowKit Go.Lib

/-- The map at block b; its blocks lie in S. -/
def OmEntCol (w : World) (S : Nat → Prop) (b : Nat) (l : ML Ce) : Prop :=
  ∃ A c, Blk w b 210 #[.slice A l.length c] ∧ Row w S 220 3 A l.length c (meEntCol l) ∧ S b ∧ Rising l
theorem OmEntCol.lt {w : World} {S : Nat → Prop} {b : Nat} {l : ML Ce} (h : OmEntCol w S b l) : b < w.heap.size := by
  obtain ⟨A, c, hb, _⟩ := h
  exact hb.lt
theorem OmEntCol.rise {w : World} {S : Nat → Prop} {b : Nat} {l : ML Ce} (h : OmEntCol w S b l) : Rising l := by
  obtain ⟨A, c, hb, _, _, h⟩ := h
  exact h
theorem OmEntCol.mono {w : World} {S T : Nat → Prop} {b : Nat} {l : ML Ce} (h : OmEntCol w S b l) (hs : ∀ k, S k → T k) : OmEntCol w T b l := by
  obtain ⟨A, c, hb, hr, hS, hi⟩ := h
  exact ⟨A, c, hb, hr.mono hs, hs _ hS, hi⟩
theorem OmEntCol.chg {w w' : World} {S T : Nat → Prop} {b : Nat} {l : ML Ce} (h : OmEntCol w S b l) (hc : Chg T w w') (hd : ∀ k, S k → ¬ T k) : OmEntCol w' S b l := by
  obtain ⟨A, c, hb, hr, hS, hi⟩ := h
  exact ⟨A, c, hb.chg hc (hd _ hS), hr.chg hc hd, hS, hi⟩
theorem OmEntCol.drew {w : World} {S : Nat → Prop} {b : Nat} {l : ML Ce} (h : OmEntCol w S b l) : OmEntCol w.drew S b l := by
  obtain ⟨A, c, hb, hr, hS, hi⟩ := h
  exact ⟨A, c, hb.drew, hr.drew, hS, hi⟩
theorem OmEntCol.below {w w' : World} {S : Nat → Prop} {b : Nat} {l : ML Ce} (h : OmEntCol w S b l) (hb : Below w.heap.size w w') : OmEntCol w' S b l :=
  h.chg (Chg.of_below Non hb) (fun _ _ => id)
theorem OmEntCol.shrink {w : World} {S : Nat → Prop} {b : Nat} {l : ML Ce} (h : OmEntCol w S b l) : OmEntCol w (fun k => S k ∧ k < w.heap.size) b l := by
  obtain ⟨A, c, hb, hr, hS, hi⟩ := h
  exact ⟨A, c, hb, ⟨hr.own, fun a ha => ⟨hr.fp a ha, hr.lt ha⟩⟩, ⟨hS, hb.lt⟩, hi⟩

theorem meEntCol_erase (l : ML Ce) (p : Nat) : meEntCol (l.eraseIdx p) = (meEntCol l).take (p * 3) ++ (meEntCol l).drop ((p + 1) * 3) := by
  rw [meEntCol, meEntCol, flat_take enEntCol 3 enEntCol_len, flat_drop enEntCol 3 enEntCol_len, List.eraseIdx_eq_take_drop_succ, List.flatMap_append]
theorem meEntCol_ins (l : ML Ce) (p : Nat) (x : List UInt8 × Ce) : meEntCol (l.take p ++ x :: l.drop p) = (meEntCol l).take (p * 3) ++ enEntCol x ++ (meEntCol l).drop (p * 3) := by
  rw [meEntCol, meEntCol, flat_take enEntCol 3 enEntCol_len, flat_drop enEntCol 3 enEntCol_len, List.flatMap_append, List.flatMap_cons, List.append_assoc]
theorem hasM_at {V : Type} {l : ML V} {k : List UInt8} (hs : Rising l) (h : hasM l k = true) : ∃ (hp : place l k < l.length), (l[place l k]).1 = k ∧ getM l k = some (l[place l k]).2 := by
  have e := getM_place (k := k) hs
  unfold hasM at h
  rw [e] at h ⊢
  by_cases hp : place l k < l.length
  · rw [List.getElem?_eq_getElem hp] at h ⊢
    by_cases hk : (l[place l k]).1 = k
    · exact ⟨hp, hk, by simp [hk]⟩
    · simp [hk] at h
  · rw [List.getElem?_eq_none (by omega)] at h
    simp at h

theorem findEntCol_calls (w : World) (S : Nat → Prop) (b : Nat) (l : ML Ce) (k : List UInt8) (h : OmEntCol w S b l) (hl : l.length ≤ 1000000) :
    Calls Tryz.prog 147 #[.pointer (some ⟨b, 0, none⟩), .string (bs k)] w fun e w' => e = .returned (.tuple #[.int .i64 (place l k : Nat), .bool (hasM l k)]) ∧ Below w.heap.size w w' := by
  obtain ⟨A, c, hb, hr, hS, hi⟩ := h
  have hc := hd (bsfEntCol_calls w S A c l k hr hi hl)
  have hb0 := hb.at_ 0 rfl
  generalize l.length = n at *
  generalize place l k = p at *
  generalize hasM l k = q at *
  clear hr hb hi
  go_enter Tryz.func147, Tryz.ntmps147
  go_wp2_with fail
  refine hc.o.mono ?_
  rintro e w1 ⟨rfl, hbe⟩
  go_wp2_with fail
  go_ret2
  exact ⟨rfl, hbe⟩

theorem omnewEntCol_calls (w : World) (S : Nat → Prop) (hS : S w.heap.size) :
    Calls Tryz.prog 113 #[] w fun e w' => e = .returned (.pointer (some ⟨w.heap.size, 0, none⟩)) ∧ OmEntCol w' S w.heap.size [] ∧ Below w.heap.size w w' := by
  go_enter Tryz.func113, Tryz.ntmps113
  go_wp2
  go_ret
  exact ⟨rfl, ⟨none, 0, Blk.new _ _ _, Row.nil _ _ _ _, hS, List.Pairwise.nil⟩, (Below.refl _ _).alloc (Nat.le_refl _) _⟩

end Go.Proofs.YtfacfdjapjhpeaaGreatDoor
namespace Go.Proofs.YtfacfdjapjhpeaaGreatDoor
open Go.RowKit

theorem hp1_calls (w : World) (s : ByteArray) :
    Calls Tryz.prog 139 #[.string s, .string ⟨#[]⟩] w fun e w' => e = .returned (.bool true) ∧ w = w' := by
  go_enter Tryz.func139, Tryz.ntmps139
  go_wp2
  all_goals
    go_ret
    refine ⟨ret_bool ?_, rfl⟩
    first | rfl | (simp [ByteArray.extract]; done) | (simp; done) | trace_state
theorem hp_calls (w : World) (s : ByteArray) :
    Calls Tryz.prog 116 #[.string s, .string ⟨#[]⟩] w fun e w' => e = .returned (.bool true) ∧ w = w' := by
  have hb := hd (hp1_calls w s)
  go_enter Tryz.func116, Tryz.ntmps116
  go_wp2_with fail
  refine hb.o.mono ?_
  rintro e w1 ⟨rfl, rfl⟩
  go_wp2_with fail
  go_ret
  exact ⟨rfl, rfl⟩

end Go.Proofs.YtfacfdjapjhpeaaGreatDoor
namespace Go.Proofs.YtfacfdjapjhpeaaGreatDoor
open Go.RowKit Go.Lib

theorem place_nil {V : Type} (l : ML V) : place l [] = 0 := by
  unfold place
  rw [List.countP_eq_zero]
  intro x _ h
  have h := of_decide_eq_true h
  cases hx : x.1 with
  | nil => rw [hx] at h; simp [compareBytes] at h
  | cons a t => rw [hx] at h; simp [compareBytes] at h
theorem gb_of_below {w w' : World} (h : Below w.heap.size w w') : w.grownBy w' none := ⟨h.os, h.tape, h.output, h.size, fun k hk _ => h.block k hk⟩
theorem gb_drewN (w : World) (n : Nat) : w.grownBy (w.drewN n) none := ⟨rfl, rfl, rfl, Nat.le_refl _, fun _ _ _ => rfl⟩
theorem gb_drew (w : World) : w.grownBy w.drew none := ⟨rfl, rfl, rfl, Nat.le_refl _, fun _ _ _ => rfl⟩

attribute [local go_sem] Oper.semAt_some

set_option maxHeartbeats 4000000 in
set_option maxRecDepth 100000 in
theorem under1EntCol_calls (n l Bm Bp b : Nat) (T S : Nat → Prop) (ml : ML Ce) (hl : ml.length ≤ 1000000) (J Jx : ML Ce → World → Prop)
    (hY : ∀ pre x W, J pre W → pre.length < ml.length → YieldAt Fence.wide n Tryz.prog l #[.string (bs x.1), .agg (ceEnc x.2).toArray] W fun e W' => (e = .returned (.bool true) ∧ J (pre ++ [x]) W' ∧ Chg (fun k => ¬ T k) W W') ∨ (e = .returned (.bool false) ∧ Jx (pre ++ [x]) W'))
    (W : World) (hJ : AbidesFrom W.heap.size J) (hBm : Blk W Bm 156 #[.pointer (some ⟨b, 0, none⟩)]) (hBp : Blk W Bp 9 #[.string ⟨#[]⟩]) (TBm : T Bm) (TBp : T Bp) (hO : OmEntCol W S b ml) (hS : ∀ k, S k → T k) (h0 : J [] W) :
    Calls Tryz.prog 156 #[.func (.yield l) #[] #[], .pointer (some ⟨Bm, 0, none⟩), .pointer (some ⟨Bp, 0, none⟩)] W fun e W' => (∃ v, e = .returned v) ∧ ((∃ ys, ys = ml ∧ J ys W') ∨ (∃ pre, pre <+: ml ∧ Jx pre W')) := by
  obtain ⟨M, hm⟩ : ∃ M, ml.length = M := ⟨_, rfl⟩
  have hF := hd (findEntCol_calls W S b ml [] hO hl)
  have HJ := hd hJ
  have HY := hd hY
  have HO := hd hO
  have H0 := hd h0
  have HBm := hd hBm
  have HBp := hd hBp
  have HM := hd hm
  rw [place_nil] at hF
  rw [hm] at hl
  have cm := hBm.at_ 0 rfl
  have cp := hBp.at_ 0 rfl
  generalize hasM ml [] = q at *
  clear hJ hY hO h0 hBm hBp hm
  go_enter Tryz.func156, Tryz.ntmps156
  go_wp2_with fail
  refine hF.o.mono ?_
  rintro e w1 ⟨rfl, hbe⟩
  have HJ1 := hd (HJ.o _ _ _ _ H0.o (gb_of_below hbe) (fun r hr => by cases hr))
  have HC1 := hd (Chg.of_below (fun k => ¬ T k) hbe)
  clear cm cp hbe hF
  go_wp2_with fail
  go_loopw [4] (fun i wr => ∃ m : Nat, i = .int .i64 m ∧ m ≤ M ∧ Hd (J (ml.take m) wr) ∧ Hd (Chg (fun k => ¬ T k) W wr)) (fun i _ => M - (RowKit.intOf i).toNat)
  case atStart => exact ⟨0, rfl, Nat.zero_le _, HJ1, HC1⟩
  case round =>
    clear HJ1 HC1
    obtain ⟨m, rfl, hk, HJk, HCk⟩ := hrel
    have hbm := HBm.o.chg HCk.o (fun h => h TBm)
    have hbp := HBp.o.chg HCk.o (fun h => h TBp)
    obtain ⟨A, c, hb, hr, hSb, _⟩ := HO.o.chg HCk.o (fun k hk h => h (hS k hk))
    rw [HM.o] at hb hr
    have cm := hbm.at_ 0 rfl
    have cp := hbp.at_ 0 rfl
    have cb := hb.at_ 0 rfl
    have hcap := hr.cap
    unfold maxLen at hcap
    have hki : (0 : Int) ≤ (m : Int) := by omega
    by_cases hlt : m < M
    · have hlti : (m : Int) < (M : Int) := by omega
      have hkl : m < ml.length := by rw [HM.o]; exact hlt
      obtain ⟨g, rfl, _, hgw, _, _, hcl, _⟩ := hr.at_ (by omega)
      obtain ⟨x, hx⟩ : ∃ x, ml[m] = x := ⟨_, rfl⟩
      have hcc : ∀ j u, j < 3 → (enEntCol x)[j]? = some u → wr.cell? ⟨g, m * 3 + j, none⟩ = some u := fun j u hj hv => hcl _ _ ((meEntCol_at ml m hkl j hj).trans (by rw [hx]; exact hv))
      have HT : Hd (ml.take (m + 1) = ml.take m ++ [x]) := hd (by rw [List.take_succ_eq_append_getElem hkl, hx])
      have HLN : Hd ((ml.take m).length < ml.length) := hd (by rw [List.length_take]; omega)
      have HPRE : Hd ((ml.take m ++ [x]) <+: ml) := hd (by rw [← HT.o]; exact List.take_prefix _ _)
      obtain ⟨key, ⟨ver, text⟩⟩ := x
      have hdk : decide ((m : Int) < (M : Int)) = true := by simpa using hlti
      clear hbm hbp hb hr hcl hx
      (have k0 := hcc 0 _ (by omega) rfl; have k1 := hcc 1 _ (by omega) rfl; have k2 := hcc 2 _ (by omega) rfl; rw [Nat.add_zero] at k0)
      clear hcc
      go_wp2_with fail
      go_quiet (first | (go_at_call 116; exact q1 (hp_calls _ _)) | (go_at_call 116; exact q2 (hp_calls _ _)))
      go_upto_region 3 with (fail)
      obtain ⟨wq, hwq⟩ : ∃ wq, wq = wr.drewN nq := ⟨_, rfl⟩
      have HJq := hd (HJ.o _ _ _ _ (HJ.o _ _ _ _ HJk.o (gb_drewN wr nq) (fun r hr => by cases hr)) (gb_drew (wr.drewN nq)) (fun r hr => by cases hr))
      have HCq := hd (HCk.o.drewN nq).drew
      rw [← hwq] at HJq HCq ⊢
      have dm : wq.cell? ⟨Bm, 0, none⟩ = some (.pointer (some ⟨b, 0, none⟩)) := by rw [hwq]; exact cm
      have db : wq.cell? ⟨b, 0, none⟩ = some (.slice (some ⟨g, 0, none⟩) M c) := by rw [hwq]; exact cb
      (have d0 : wq.cell? ⟨g, m * 3, none⟩ = some (.string (bs key)) := (by rw [hwq]; exact k0); have d1 : wq.cell? ⟨g, m * 3 + 1, none⟩ = some (.int .i64 ver) := (by rw [hwq]; exact k1); have d2 : wq.cell? ⟨g, m * 3 + 2, none⟩ = some (.string (bs text)) := (by rw [hwq]; exact k2))
      clear hwq cm cp cb k0 k1 k2 HJk HCk
      go_cut [51] from 12 to 51 (fun s wx => ∃ bb : Bool, s = .bool (!bb) ∧ Hd ((bb = true ∧ J (ml.take m ++ [(key, ⟨ver, text⟩)]) wx ∧ Chg (fun k => ¬ T k) W wx) ∨ (bb = false ∧ Jx (ml.take m ++ [(key, ⟨ver, text⟩)]) wx)))
      case first =>
        obtain ⟨fn, tmps, assign, body, hy, hR⟩ := HY.o (ml.take m) (key, ⟨ver, text⟩) wq.drew HJq.o HLN.o
        have HR : Hd (RoundIn Fence.wide n Tryz.prog l fn tmps assign body wq.drew (fun e W' => ∃ bb : Bool, e = .returned (.bool bb) ∧ Hd ((bb = true ∧ J (ml.take m ++ [(key, ⟨ver, text⟩)]) W' ∧ Chg (fun k => ¬ T k) W W') ∨ (bb = false ∧ Jx (ml.take m ++ [(key, ⟨ver, text⟩)]) W')))) := hd (hR.mono (fun e W' h => by
          rcases h with ⟨rfl, h1, h2⟩ | ⟨rfl, h1⟩
          · exact ⟨true, rfl, .inl ⟨rfl, h1, HCq.o.trans h2 (fun q hq => .inl hq)⟩⟩
          · exact ⟨false, rfl, .inr ⟨rfl, h1⟩⟩))
        simp only [ceEnc] at hy
        clear hR
        have mixed : Tryz.prog.follows .mixedOrders = true := by kernel_rfl
        refine (wpIn_wide (n := n + 1)).1 ?_
        gi_region_with_o (first
          | (refine HR.o.mono ?_; rintro e W' ⟨bb, rfl, hbb⟩)
          | (refine ⟨fun h => (by cases h), ?_⟩; refine HR.o.mono ?_; rintro e W' ⟨bb, rfl, hbb⟩))
        all_goals
          go_simp
          go_wp2_with fail
          go_meet
          exact ⟨bb, rfl, hbb⟩
      case rest =>
        obtain ⟨bb, rfl, hbb⟩ := hcut
        cases bb with
        | true =>
          have h1 : Hd (J (ml.take (m + 1)) wc ∧ Chg (fun k => ¬ T k) W wc) := hd (by
            rw [HT.o]
            rcases hbb.o with ⟨_, h1, h2⟩ | ⟨h, _⟩
            · exact ⟨h1, h2⟩
            · cases h)
          clear hbb
          go_wp2
          go_roundw
          case rel => exact ⟨m + 1, by go_num, by omega, h1.o.1, h1.o.2⟩
          case measure => simp [RowKit.intOf]; omega
        | false =>
          have h1 : Hd (Jx (ml.take m ++ [(key, ⟨ver, text⟩)]) wc) := hd (by
            rcases hbb.o with ⟨h, _⟩ | ⟨_, h1⟩
            · cases h
            · exact h1)
          clear hbb
          go_wp2
          refine bodyPost_ret (results_none rfl _ _ _) rfl ?_
          exact ⟨⟨_, rfl⟩, .inr ⟨_, HPRE.o, h1.o⟩⟩
    · obtain rfl : m = M := by omega
      have hdk : decide ((m : Int) < (m : Int)) = false := by simp
      have HE : Hd (ml.take m = ml) := hd (List.take_of_length_le (by rw [HM.o]; exact Nat.le_refl _))
      clear hbm hbp hb hr
      go_wp2_with fail
      go_quiet (fail)
      go_wp2
      go_end0
      exact ⟨⟨_, rfl⟩, .inl ⟨_, HE.o, HJ.o _ _ _ _ HJk.o (gb_drewN wr nq) (fun r hr => by cases hr)⟩⟩

end Go.Proofs.YtfacfdjapjhpeaaGreatDoor
namespace Go.Proofs.YtfacfdjapjhpeaaGreatDoor
open Go.RowKit

theorem kf_of_chg {S : Nat → Prop} {B : Nat} {W W' : World} (h : Chg S W W') (hS : ∀ k o, S k → W.heap[k]? = some o → o.isCells = true) : KeepsFrom B W W' :=
  ⟨h.size, fun k o _ hk ho => by
    have hlt := (Array.getElem?_eq_some_iff.1 hk).1
    by_cases hs : S k
    · rw [hS k o hs hk] at ho; cases ho
    · exact (h.block k hlt hs).trans hk⟩
theorem blk_cells {W : World} {g : Nat} {t : TypeId} {cs : Array Value} (h : Blk W g t cs) : ∀ o, W.heap[g]? = some o → o.isCells = true := fun o ho => by
  rw [show W.heap[g]? = some _ from h] at ho
  injection ho with ho
  subst ho
  rfl
theorem of_cells {W : World} {S : Nat → Prop} {e : TypeId} {size n c : Nat} {A : Option Addr} {xs : List Value} (h : Row W S e size A n c xs) : ∀ k o, Of A k → W.heap[k]? = some o → o.isCells = true := by
  intro k o hk ho
  cases A with
  | none => exact (Of.none hk).elim
  | some a =>
    obtain ⟨g, cur, hA, _, hB, _⟩ := h.block rfl
    have e1 : k = g := by rw [hk.some_, hA]
    subst e1
    exact blk_cells hB o ho
theorem blk_own {W W' : World} {g : Nat} {t : TypeId} {cs : Array Value} {row : Option Nat} {B : Nat} (h : Blk W g t cs) (hg : W.grownBy W' row) (hr : ∀ r, row = some r → B ≤ r ∧ ∃ o : Obj, W.heap[r]? = some o ∧ o.isCells = false) : Blk W' g t cs :=
  h.grown hg (fun e => by
    obtain ⟨_, o, ho, hc⟩ := hr g e.symm
    rw [blk_cells h o ho] at hc
    cases hc)
theorem row_own {W W' : World} {S : Nat → Prop} {e : TypeId} {size n c : Nat} {A : Option Addr} {xs : List Value} {row : Option Nat} {B : Nat} (h : Row W S e size A n c xs) (hg : W.grownBy W' row) (hr : ∀ r, row = some r → B ≤ r ∧ ∃ o : Obj, W.heap[r]? = some o ∧ o.isCells = false) : Row W' S e size A n c xs :=
  h.keep fun a ha => by
    have hlt := h.lt ha
    refine hg.block _ hlt fun e => ?_
    obtain ⟨_, o, ho, hc⟩ := hr _ e.symm
    rw [of_cells h a.block o (by rw [ha]; rfl) ho] at hc
    cases hc
theorem below_own {B0 : Nat} {w W W' : World} {row : Option Nat} {B : Nat} (h : Below B0 w W) (hB : B0 ≤ w.heap.size) (hB2 : B0 ≤ B) (hg : W.grownBy W' row) (hr : ∀ r, row = some r → B ≤ r ∧ ∃ o : Obj, W.heap[r]? = some o ∧ o.isCells = false) : Below B0 w W' :=
  h.grown hg (Nat.le_trans hB h.size) fun k e => Nat.le_trans hB2 (hr k e).1
/-- The law's own book-keeping turns none of what an iterator wants kept. -/
theorem chgK_b {T : Nat → Prop} {w : World} (hT : ∀ k, T k → k < w.heap.size) (W : World) (l : Nat) (o o' : Obj) (hl : w.heap.size ≤ l) (h : W.heap[l]? = some o) (_ : o.isCells = false) (_ : o.isWalk = false) : Chg (fun k => ¬ T k) W (W.putObj l o') :=
  (Chg.refl _ W).grown (grownBy_putObj' W l o') (fun k e => by cases e; exact .inl fun ht => by have := hT _ ht; omega)
theorem chgK_t {T : Nat → Prop} {A B C : World} (h : Chg (fun k => ¬ T k) A B) (k : Chg (fun k => ¬ T k) B C) : Chg (fun k => ¬ T k) A C := h.trans k (fun _ h => .inl h)
theorem put_own {W : World} {D : Nat} {o o' : Obj} (h : W.heap[D]? = some o) (ho : o.isCells = false) : W.grownBy (W.putObj D o') (some D) ∧ (∀ r, some D = some r → D ≤ r ∧ ∃ o : Obj, W.heap[r]? = some o ∧ o.isCells = false) :=
  ⟨grownBy_putObj' W D o', fun r e => by cases e; exact ⟨Nat.le_refl _, o, h, ho⟩⟩

/-- append within a round. -/
theorem wpListIn_append_row {F : Fence} {n : Nat} {P : Program} {w : World} {Q : Exit → Act → World → Prop} {a : Act} {ops : Array Oper} {rest : List Oper} {o : Oper} (hgd : o.guard = none) (s x : Operand) (t : TypeId)
    (ho : o.op = .call { callee := .builtin .append, args := #[s, x], argTypes := #[t, t] })
    (S : Nat → Prop) (e : TypeId) (i : TypeInfo) (z : Value) (size bytes : Nat) (ht : P.underlying t = some (.slice e)) (hi : P.info? e = some i) (hz : i.zero = some z)
    (hsize : i.size = size) (hby : i.bytes = bytes) (hzs : z.cells.size = size) (A : Option Addr) (k cap : Nat) (xs : List Value) (hs : a.eval s = .slice A k cap) (hr : Row w S e size A k cap xs)
    (ad : Addr) (m c : Nat) (news : List Value) (hx : a.eval x = .slice (some ad) m c) (hl : news.length = m * size) (hnews : ∀ j u, news[j]? = some u → w.cell? (ad.add j) = some u) (h1 : ∀ u ∈ news, u.oneCell' = true)
    (h0 : 0 < m) (h63 : k + m ≤ maxLen) (hbytes : (k + m) * bytes ≤ 140737488355328)
    (h : ∀ A' c' w', Row w' (Plus S w.heap.size) e size A' (k + m) c' (xs ++ news) → Chg S w w' → wpListIn F n P ops Q rest (a.put o.dst (.slice A' (k + m) c')) w') : wpListIn F n P ops Q (o :: rest) a w := by
  refine wpListIn_plain hgd fun K hK' => ?_
  obtain ⟨A', c', w', hrun, h2, h3⟩ := run_append_row (P := P) w S t o.type e i z size bytes ht hi hz hsize hby hzs A k cap xs hr ad m c news hl hnews h1 h0 h63 hbytes
  unfold Oper.wpIn
  refine ⟨?_, ?_⟩
  · simp [Oper.about, ho, resolve, Target.leads, Sem.run_pure]
  · rw [Oper.semAt_plain F _ _ (by rw [ho]; intro c hc'; cases hc')]
    simp [execOp, ho, resolve, invoke, builtin, hs, hx, hrun, Result.andThen]
    exact hK' _ _ (h A' c' w' h2 h3)

end Go.Proofs.YtfacfdjapjhpeaaGreatDoor
namespace Go.Proofs.YtfacfdjapjhpeaaGreatDoor
open Go.RowKit Go.Lib

theorem underEntCol_calls (w : World) (b : Nat) (p : ByteArray) :
    Calls Tryz.prog 133 #[.pointer (some ⟨b, 0, none⟩), .string p] w fun e w' => e = .returned (.func (.func 156) #[] #[.pointer (some ⟨w.heap.size, 0, none⟩), .pointer (some ⟨w.heap.size + 1, 0, none⟩)]) ∧ (w.alloc (.cells #[.pointer (some ⟨b, 0, none⟩)] 156)).alloc (.cells #[.string p] 9) = w' := by
  go_enter Tryz.func133, Tryz.ntmps133
  go_wp2
  go_ret
  exact ⟨rfl, rfl⟩
theorem omallEntCol_calls (w : World) (b : Nat) :
    Calls Tryz.prog 103 #[.pointer (some ⟨b, 0, none⟩)] w fun e w' => e = .returned (.func (.func 156) #[] #[.pointer (some ⟨w.heap.size, 0, none⟩), .pointer (some ⟨w.heap.size + 1, 0, none⟩)]) ∧ (w.alloc (.cells #[.pointer (some ⟨b, 0, none⟩)] 156)).alloc (.cells #[.string ⟨#[]⟩] 9) = w' := by
  have hu := hd (underEntCol_calls w b ⟨#[]⟩)
  go_enter Tryz.func103, Tryz.ntmps103
  go_wp2_with fail
  refine hu.o.mono ?_
  rintro e w1 ⟨rfl, rfl⟩
  go_wp2_with fail
  go_ret
  exact ⟨rfl, rfl⟩

theorem omallEntCol_stops (n Bm Bp b : Nat) (T S : Nat → Prop) (ml : ML Ce) (hl : ml.length ≤ 1000000) (w : World) (hBm : Blk w Bm 156 #[.pointer (some ⟨b, 0, none⟩)]) (hBp : Blk w Bp 9 #[.string ⟨#[]⟩]) (TBm : T Bm) (TBp : T Bp) (hO : OmEntCol w S b ml) (hS : ∀ k, S k → T k) :
    SeqStopsK Fence.wide (n + 1) Tryz.prog 156 #[.pointer (some ⟨Bm, 0, none⟩), .pointer (some ⟨Bp, 0, none⟩)] (fun x : List UInt8 × Ce => #[.string (bs x.1), .agg (ceEnc x.2).toArray]) (Chg (fun k => ¬ T k)) (fun ys => ys = ml) (fun pre => pre <+: ml) ml.length w :=
  fun l J Jx W hW hJ _ hY h0 => callsIn_wide.2 (under1EntCol_calls n l Bm Bp b T S ml hl J Jx hY W hJ (hBm.below hW hBm.lt) (hBp.below hW hBp.lt) TBm TBp (hO.below hW) hS h0)

end Go.Proofs.YtfacfdjapjhpeaaGreatDoor
