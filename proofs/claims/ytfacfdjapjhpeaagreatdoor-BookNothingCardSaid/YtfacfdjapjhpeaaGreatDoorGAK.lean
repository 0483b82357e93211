/-
  slices.Insert(s, i, x) at elements of 2 cells (EntTn): one element put in at place i.
-/
import Derived.Test.YtfacfdjapjhpeaaGreatDoorGAE
import Derived.Test.YtfacfdjapjhpeaaGreatDoorProg
import Derived.Test.YtfacfdjapjhpeaaGreatDoorGAJ
import Derived.Deep.QuietTactic
import Derived.BigRegion
import Derived.StillTailTactics
import Derived.Test.YtfacfdjapjhpeaaGreatDoorGAA
import Derived.Test.YtfacfdjapjhpeaaGreatDoorGAD
import Derived.BigQuiet
set_option linter.unusedVariables false
set_option linter.unusedSimpArgs false
namespace Go.Proofs.YtfacfdjapjhpeaaGreatDoor
open Go.RowKit

theorem insEntTn_info : (Tryz.prog.info? 145).map (fun i => (i.zero, i.size, i.bytes)) = some (some (.agg #[Value.string ⟨#[]⟩, Value.pointer none]), 2, 24) := by kernel_rfl

set_option maxHeartbeats 1600000 in
set_option maxRecDepth 100000 in
/-- At the end. -/
theorem insEntTn_end (w : World) (S : Nat → Prop) (A : Option Addr) (n c : Nat) (xs vs : List Value) (vb : Nat) (hr : Row w S 145 2 A n c xs) (hl : vs.length = 2)
    (hvs : ∀ j v, vs[j]? = some v → w.cell? ⟨vb, j, none⟩ = some v) (h1v : ∀ v ∈ vs, v.oneCell' = true) (hn : n ≤ 1000000) :
    Calls Tryz.prog 73 #[.slice A n c, .int .i64 n, .slice (some ⟨vb, 0, none⟩) 1 1] w fun e w' => ∃ A' c', e = .returned (.slice A' (n + 1) c') ∧ Row w' (Plus S w.heap.size) 145 2 A' (n + 1) c' (xs ++ vs) ∧ Chg S w w' := by
  obtain ⟨i0, hi0, hz0, hz1, hz2⟩ := info_parts insEntTn_info
  have hcap := hr.cap
  unfold maxLen at hcap
  go_enter Tryz.func73, Tryz.ntmps73
  go_wp2_with (at_builtin; go_loud (refine wpList_append_row rfl _ _ 133 rfl S 145 i0 (.agg #[Value.string ⟨#[]⟩, Value.pointer none]) 2 24 Tryz.underlying133 hi0 hz0 hz1 hz2 rfl A n c xs rfl hr ⟨vb, 0, none⟩ 1 1 vs rfl (by rw [hl]) (fun j u hu => by rw [Addr.add_lit, Nat.zero_add]; exact hvs j u hu) h1v (by omega) (by unfold maxLen; omega) (by omega) ?_; intro A2 c2 w2 hown2 hchg2))
  all_goals
    go_ret
    exact ⟨A2, c2, rfl, hown2, hchg2⟩

set_option maxHeartbeats 4000000 in
set_option maxRecDepth 100000 in
/-- Ahead of others, where there is room. -/
theorem insEntTn_room (w : World) (S : Nat → Prop) (A : Option Addr) (n c i : Nat) (xs vs : List Value) (vb : Nat) (hr : Row w S 145 2 A n c xs) (hl : vs.length = 2) (h1x : ∀ u ∈ xs, u.oneCell' = true)
    (hvs : Blk w vb 145 vs.toArray) (h1v : ∀ v ∈ vs, v.oneCell' = true) (hn : n ≤ 1000000) (hi : i < n) (hroom : n + 1 ≤ c) (hnv : ¬ S vb) :
    Calls Tryz.prog 73 #[.slice A n c, .int .i64 i, .slice (some ⟨vb, 0, none⟩) 1 1] w fun e w' => ∃ A' c', e = .returned (.slice A' (n + 1) c') ∧ Row w' (Plus S w.heap.size) 145 2 A' (n + 1) c' (xs.take (i * 2) ++ vs ++ xs.drop (i * 2)) ∧ Chg S w w' := by
  obtain ⟨i0, hi0, hz0, hz1, hz2⟩ := info_parts insEntTn_info
  have hcap := hr.cap
  unfold maxLen at hcap
  obtain ⟨g0, hA, _⟩ := hr.at_ (by omega)
  obtain ⟨g, cur, e0, hS, hb, hnc, hcm, hcs, ht⟩ := hr.block hA
  injection e0 with e0
  subst e0
  subst hA
  have hlen := hr.len
  have hne : vb ≠ g0 := fun e => hnv (e ▸ hS)
  have hsz : (Tryz.prog.info? 145).map (·.size) = some 2 := by rw [hi0]; simp [hz1]
  have hso : ∀ w, (sizeOf 145).run Tryz.prog w = .ok 2 w := fun w => by simp [sizeOf, typeInfo, hi0, hz1]
  have hov : ∀ lb cb, (callFunc 110 #[.slice (some ⟨vb, 0, none⟩) 1 1, .slice (some ⟨g0, (i + 1) * 2, none⟩) lb cb]).run Tryz.prog w = .ok (.value (.bool false)) w := fun lb cb => by
    rw [run_callFunc_extern Tryz.func110 (by kernel_rfl) (by kernel_rfl) (by kernel_rfl) (e := Extern.SlicesOverlaps.overlaps #[133, 133] #[4]) (by kernel_rfl),
      Lib.run_overlaps_apart w 133 4 145 Tryz.underlying133 2 hso ⟨vb, 0, none⟩ ⟨g0, (i + 1) * 2, none⟩ 1 1 lb cb hne 145 145 2 cur.size (by simp only [World.shape?]; rw [show w.heap[vb]? = some _ from hvs]; simp [hl]) (by simp only [World.shape?]; rw [show w.heap[g0]? = some _ from hb]) (by omega) (hvs.frozen _) (hvs.frozen _)]
    rfl
  have hdl : (xs.drop (i * 2)).length = (n - i) * 2 := by rw [List.length_drop, hlen, Nat.sub_mul]
  have hcell : ∀ j u, xs[j]? = some u → w.cell? ⟨g0, j, none⟩ = some u := by
    intro j u hu
    rw [hb.cell]
    rw [← ht, List.getElem?_take] at hu
    split at hu
    · simpa using hu
    · cases hu
  obtain ⟨c1, hc1⟩ : ∃ c1, c1 = cur.toList.take ((i + 1) * 2) ++ xs.drop (i * 2) ++ cur.toList.drop ((i + 1) * 2 + (xs.drop (i * 2)).length) := ⟨_, rfl⟩
  have hc1l : c1.length = cur.size := by rw [hc1]; simp only [List.length_append, List.length_take, List.length_drop, Array.length_toList, hlen]; omega
  obtain ⟨W1, hW1⟩ : ∃ W1, W1 = w.drew.setRow g0 c1.toArray := ⟨_, rfl⟩
  have hb1 : Blk W1 g0 145 c1.toArray := by rw [hW1]; exact hb.drew.setRow _
  have hv1 : Blk W1 vb 145 vs.toArray := by rw [hW1]; exact hvs.drew.setRow_far hne _
  have hcp1 : ∀ ty dc sc, (Builtin.copy_ #[133, 133] ty #[.slice (some ⟨g0, (i + 1) * 2, none⟩) (n - i) dc, .slice (some ⟨g0, i * 2, none⟩) (n + 1 - i) sc]).run Tryz.prog w.drew = .ok (goInt (Nat.min (n + 1 - i) (n - i) : Nat)) W1 := fun ty dc sc => by
    rw [hW1, hc1]
    exact run_copy_k w.drew 133 133 ty 145 2 g0 ((i + 1) * 2) (n - i) dc ⟨g0, i * 2, none⟩ (n + 1 - i) sc cur 145 (xs.drop (i * 2)) Tryz.underlying133 hsz hb.drew
      (by rw [hdl]; congr 1; show n - i = min (n + 1 - i) (n - i); omega) (fun j v hj => by rw [Addr.add_lit]; exact hcell _ v (by rwa [List.getElem?_drop] at hj)) (by rw [hdl, hcs]; omega) (fun v hv => h1x v (List.mem_of_mem_drop hv))
  obtain ⟨c2, hc2⟩ : ∃ c2, c2 = c1.take (i * 2) ++ vs ++ c1.drop (i * 2 + vs.length) := ⟨_, rfl⟩
  have hc2l : c2.length = cur.size := by rw [hc2]; simp only [List.length_append, List.length_take, List.length_drop, hc1l, hl]; omega
  have hcp2 : ∀ ty dc, (Builtin.copy_ #[133, 133] ty #[.slice (some ⟨g0, i * 2, none⟩) (n + 1 - i) dc, .slice (some ⟨vb, 0, none⟩) 1 1]).run Tryz.prog W1 = .ok (goInt (Nat.min 1 (n + 1 - i) : Nat)) (W1.setRow g0 c2.toArray) := fun ty dc => by
    have h := run_copy_k (P := Tryz.prog) W1 133 133 ty 145 2 g0 (i * 2) (n + 1 - i) dc ⟨vb, 0, none⟩ 1 1 c1.toArray 145 vs Tryz.underlying133 hsz hb1
      (by rw [hl, show Nat.min 1 (n + 1 - i) = 1 from (by omega : min 1 (n + 1 - i) = 1)]) (fun j v hj => by rw [Addr.add_lit, Nat.zero_add]; exact hv1.at_ j (by simpa using hj)) (by simp only [List.size_toArray]; omega) h1v
    rw [hc2]
    exact h
  have HW1 := hd hW1
  have FIN := hd (ins_list cur.toList xs vs i 2 n ht (by rw [Array.length_toList, hcs]; exact Nat.mul_le_mul_right _ hroom) (by omega) hl c1 c2 hc1 hc2)
  have HC2 := hd hc2l
  have HB1 := hd hb1
  have HR := hd hcs
  have HL := hd hlen
  have HV := hd hl
  have hw1 : IntKind.i64.wrap ((i : Int) + 1) = (i : Int) + 1 := by rw [IntKind.wrap_i64]; omega
  have hw2 : IntKind.i64.wrap ((n : Int) + 1) = (n : Int) + 1 := by rw [IntKind.wrap_i64]; omega
  have hb1' : (0 : Int) ≤ (i : Int) + 1 := by omega
  have htn : ((i : Int) + 1).toNat = i + 1 := by omega
  have htn2 : ((n : Int) + 1).toNat = n + 1 := by omega
  have hb2 : ¬ (c = i + 1) := by omega
  have hb3 : (i : Int) ≤ (n : Int) + 1 := by omega
  have hb4 : ¬ (c = i) := by omega
  have hz2' : ¬ ((i : Int) = (n : Int)) := by omega
  have hin : i ≤ n := by omega
  clear hr hW1 hc1 hc2 ht hcell hb1 hv1 hdl hb hvs hc1l hc2l hcs hlen hl h1x h1v
  go_enter Tryz.func73, Tryz.ntmps73
  go_wp2_with (simp only [hov])
  go_region_law (refine step_copy_k rfl _ _ 133 133 rfl _ _ (by simp [Act.eval, Act.put]) (by simp [Act.eval, Act.put]) (hcp1 _ _ _) ?_)
  go_wp2_with (at_builtin; refine wpList_copy_k _ rfl _ _ 133 133 rfl _ _ rfl rfl (hcp2 _ _) ?_)
  go_ret
  refine ⟨some ⟨g0, 0, none⟩, c, rfl, Row.of_block (HB1.o.setRow _) (.inl hS) (by omega) (by unfold maxLen; omega) ?_ ?_ ?_, ?_⟩
  · rw [List.size_toArray, HC2.o, HR.o]
  · exact FIN.o
  · simp only [List.length_append, List.length_take, List.length_drop]
    rw [HL.o, HV.o]; omega
  · rw [HW1.o]
    exact ((Chg.refl _ _).drew.setRow (.inl hS) _).setRow (.inl hS) _

set_option maxHeartbeats 4000000 in
set_option maxRecDepth 100000 in
/-- Ahead of others, where there is no room. -/
theorem insEntTn_grow (w : World) (S : Nat → Prop) (A : Option Addr) (n c i : Nat) (xs vs : List Value) (vb : Nat) (hr : Row w S 145 2 A n c xs) (hl : vs.length = 2) (h1x : ∀ u ∈ xs, u.oneCell' = true)
    (hvs : Blk w vb 145 vs.toArray) (h1v : ∀ v ∈ vs, v.oneCell' = true) (hn : n ≤ 1000000) (hi : i < n) (hroom : ¬ n + 1 ≤ c) :
    Calls Tryz.prog 73 #[.slice A n c, .int .i64 i, .slice (some ⟨vb, 0, none⟩) 1 1] w fun e w' => ∃ A' c', e = .returned (.slice A' (n + 1) c') ∧ Row w' (Plus S w.heap.size) 145 2 A' (n + 1) c' (xs.take (i * 2) ++ vs ++ xs.drop (i * 2)) ∧ Chg S w w' := by
  obtain ⟨i0, hi0, hz0, hz1, hz2⟩ := info_parts insEntTn_info
  have hcap := hr.cap
  unfold maxLen at hcap
  obtain ⟨g0, hA, _⟩ := hr.at_ (by omega)
  obtain ⟨g, cur, e0, hS, hb, hnc, hcm, hcs, ht⟩ := hr.block hA
  injection e0 with e0
  subst e0
  subst hA
  have hcn : c = n := by omega
  subst hcn
  have hlen := hr.len
  have hbw : g0 < w.heap.size := hb.lt
  have hvw : vb < w.heap.size := hvs.lt
  have hsz : (Tryz.prog.info? 145).map (·.size) = some 2 := by rw [hi0]; simp [hz1]
  have hdl : (xs.drop (i * 2)).length = (c - i) * 2 := by rw [List.length_drop, hlen, Nat.sub_mul]
  have htl : (xs.take (i * 2)).length = i * 2 := by rw [List.length_take, hlen]; omega
  have hcell : ∀ j u, xs[j]? = some u → w.cell? ⟨g0, j, none⟩ = some u := by
    intro j u hu
    rw [hb.cell]
    rw [← ht, List.getElem?_take] at hu
    split at hu
    · simpa using hu
    · cases hu
  have hold : (Builtin.firstCells i0.size i (.slice (some ⟨g0, 0, none⟩) i c)).run Tryz.prog w.drew = .ok (xs.take (i * 2)).toArray w.drew := by
    rw [hz1]
    exact run_firstCells_some w.drew 2 i ⟨g0, 0, none⟩ i c (xs.take (i * 2)) (by rw [htl, Nat.mul_comm]) (fun j v hj => by
      rw [Addr.add_lit, Nat.zero_add]
      rw [List.getElem?_take] at hj
      split at hj
      · exact hcell j v hj
      · cases hj)
  have hik : i + (c + 1 - i) = c + 1 := by omega
  have hkk : (c : Int) + 1 - (i : Int) = ((c + 1 - i : Nat) : Int) := by omega
  obtain ⟨G, hG⟩ : ∃ G, G = grownCap w (c + 1) c 145 := ⟨_, rfl⟩
  have hGn : c + 1 ≤ G := by rw [hG]; exact grownCap_ge w _ _ _
  have hGm : G ≤ maxLen := by rw [hG]; exact grownCap_le_maxLen w (c + 1) c 145 (by unfold maxLen; omega)
  obtain ⟨ROW, hROW⟩ : ∃ ROW : Array Value, ROW = (xs.take (i * 2)).toArray ++ Builtin.zeroCells (Value.agg #[Value.string ⟨#[]⟩, Value.pointer none]).cells (c + 1 - i) ++ Builtin.zeroCells (Value.agg #[Value.string ⟨#[]⟩, Value.pointer none]).cells (G - (c + 1)) := ⟨_, rfl⟩
  have hRl : ROW.size = G * 2 := by
    rw [hROW]
    simp only [Array.size_append, List.size_toArray, size_zeroCells, htl]
    rw [show (Value.agg #[Value.string ⟨#[]⟩, Value.pointer none]).cells.size = 2 from rfl]
    omega
  have hRt : ROW.toList.take (i * 2) = xs.take (i * 2) := by
    rw [hROW]
    simp only [Array.toList_append, List.append_assoc]
    rw [List.take_append_of_le_length (by rw [htl]; exact Nat.le_refl _), List.take_take, Nat.min_self]
  have hrz : ∀ ty, (Builtin.append_ #[133, 3] ty #[.slice (some ⟨g0, 0, none⟩) i c, .int .i64 ((c : Int) + 1 - (i : Int))]).run Tryz.prog w = .ok (.slice (some ⟨w.heap.size, 0, none⟩) (c + 1) G) (w.drew.alloc (.cells ROW 145)) := fun ty => by
    have h := Lib.run_append_grow_zeros w 133 3 ty 145 i0 _ .i64 .i64 Tryz.underlying133 Tryz.underlying3 hi0 hz0 (some ⟨g0, 0, none⟩) i c (xs.take (i * 2)) hold (c + 1 - i) (by omega) (by omega) (by omega) (by omega) (by rw [hz2]; omega) (by rw [hz2, hik]; exact growslice_fits (by omega) (by omega))
    rw [hik] at h
    rw [hkk, hROW, hG]
    exact h
  obtain ⟨W1, hW1⟩ : ∃ W1, W1 = w.drew.alloc (.cells ROW 145) := ⟨_, rfl⟩
  obtain ⟨N, hN⟩ : ∃ N, N = w.heap.size := ⟨_, rfl⟩
  have hNb : Blk W1 N 145 ROW := by rw [hW1, hN]; exact Blk.new w.drew 145 ROW
  have hgb : Blk W1 g0 145 cur := by rw [hW1]; exact hb.drew.alloc _
  have hvb : Blk W1 vb 145 vs.toArray := by rw [hW1]; exact hvs.drew.alloc _
  rw [← hW1, ← hN] at hrz
  obtain ⟨c1, hc1⟩ : ∃ c1, c1 = ROW.toList.take (i * 2) ++ vs ++ ROW.toList.drop (i * 2 + vs.length) := ⟨_, rfl⟩
  have hc1l : c1.length = G * 2 := by rw [hc1]; simp only [List.length_append, List.length_take, List.length_drop, Array.length_toList, hRl, hl]; omega
  obtain ⟨W2, hW2⟩ : ∃ W2, W2 = W1.setRow N c1.toArray := ⟨_, rfl⟩
  have hcp1 : ∀ ty dc, (Builtin.copy_ #[133, 133] ty #[.slice (some ⟨N, i * 2, none⟩) (c + 1 - i) dc, .slice (some ⟨vb, 0, none⟩) 1 1]).run Tryz.prog W1 = .ok (goInt (Nat.min 1 (c + 1 - i) : Nat)) W2 := fun ty dc => by
    have h := run_copy_k (P := Tryz.prog) W1 133 133 ty 145 2 N (i * 2) (c + 1 - i) dc ⟨vb, 0, none⟩ 1 1 ROW 145 vs Tryz.underlying133 hsz hNb
      (by rw [hl, show Nat.min 1 (c + 1 - i) = 1 from (by omega : min 1 (c + 1 - i) = 1)]) (fun j v hj => by rw [Addr.add_lit, Nat.zero_add]; exact hvb.at_ j (by simpa using hj)) (by rw [hRl]; omega) h1v
    rw [hW2, hc1]
    exact h
  have hNb2 : Blk W2 N 145 c1.toArray := by rw [hW2]; exact hNb.setRow _
  have hgb2 : Blk W2.drew g0 145 cur := by rw [hW2]; exact (hgb.setRow_far (by omega) _).drew
  obtain ⟨c2, hc2⟩ : ∃ c2, c2 = c1.take ((i + 1) * 2) ++ xs.drop (i * 2) ++ c1.drop ((i + 1) * 2 + (xs.drop (i * 2)).length) := ⟨_, rfl⟩
  have hc2l : c2.length = G * 2 := by rw [hc2]; simp only [List.length_append, List.length_take, List.length_drop, hc1l, hlen]; omega
  obtain ⟨W3, hW3⟩ : ∃ W3, W3 = W2.drew.setRow N c2.toArray := ⟨_, rfl⟩
  have hcp2 : ∀ ty dc sc, (Builtin.copy_ #[133, 133] ty #[.slice (some ⟨N, (i + 1) * 2, none⟩) (c - i) dc, .slice (some ⟨g0, i * 2, none⟩) (c - i) sc]).run Tryz.prog W2.drew = .ok (goInt (Nat.min (c - i) (c - i) : Nat)) W3 := fun ty dc sc => by
    have h := run_copy_k (P := Tryz.prog) W2.drew 133 133 ty 145 2 N ((i + 1) * 2) (c - i) dc ⟨g0, i * 2, none⟩ (c - i) sc c1.toArray 145 (xs.drop (i * 2)) Tryz.underlying133 hsz hNb2.drew
      (by rw [hdl]; congr 1; show c - i = min (c - i) (c - i); omega) (fun j v hj => by
        rw [Addr.add_lit]
        have := (hb.cell (i * 2 + j)).symm.trans (hcell _ v (by rwa [List.getElem?_drop] at hj))
        exact (hgb2.cell _).trans this) (by rw [List.size_toArray, hdl, hc1l]; omega) (fun v hv => h1x v (List.mem_of_mem_drop hv))
    rw [hW3, hc2]
    exact h
  have FIN := hd (ins_list2 ROW.toList xs vs i 2 c hRt hlen (by rw [Array.length_toList, hRl]; exact Nat.mul_le_mul_right _ hGn) (by omega) hl c1 c2 hc1 hc2)
  have HB3 : Hd (Blk W3 N 145 c2.toArray) := hd (by rw [hW3]; exact hNb2.drew.setRow _)
  have HC3 : Hd (Chg S w W3) := hd (by
    rw [hW3, hW2, hW1]
    exact (((Chg.refl S w).drew.alloc _).setRow (.inr (by rw [hN]; exact Nat.le_refl _)) _).drew.setRow (.inr (by rw [hN]; exact Nat.le_refl _)) _)
  have HSN : Hd (Plus S w.heap.size N) := hd (.inr (by rw [hN]; exact Nat.le_refl _))
  have HC2 := hd hc2l
  have HL := hd hlen
  have HV := hd hl
  have hG63 : G ≤ 9223372036854775807 := by unfold maxLen at hGm; omega
  have hw1 : IntKind.i64.wrap ((i : Int) + 1) = (i : Int) + 1 := by rw [IntKind.wrap_i64]; omega
  have hw2 : IntKind.i64.wrap ((c : Int) + 1) = (c : Int) + 1 := by rw [IntKind.wrap_i64]; omega
  have hw3 : IntKind.i64.wrap ((c : Int) + 1 - (i : Int)) = (c : Int) + 1 - (i : Int) := by rw [IntKind.wrap_i64]; omega
  have hb1' : (0 : Int) ≤ (i : Int) + 1 := by omega
  have htn : ((i : Int) + 1).toNat = i + 1 := by omega
  have hGi : ¬ (G = i) := by omega
  have hGim : ¬ (G = i + 1) := by omega
  have hci : ¬ (c = i) := by omega
  have hz2' : ¬ ((i : Int) = (c : Int)) := by omega
  have hz3 : (c : Int) < (c : Int) + 1 := by omega
  have hin : i ≤ c := by omega
  have hb3 : (i : Int) ≤ (c : Int) := by omega
  clear hr hW1 hW2 hW3 hc1 hc2 ht hcell hNb hNb2 hgb hgb2 hvb hdl htl hb hvs hc1l hc2l hcs hlen hl h1x h1v hROW hRl hRt hold hkk hik hN hG hroom hcap hcm
  go_enter Tryz.func73, Tryz.ntmps73
  go_wp2_with (first
    | (at_builtin; refine Lib.wpList_append_run _ rfl _ _ _ _ rfl _ _ rfl rfl _ _ (hrz _) ?_)
    | (at_builtin; refine wpList_copy_k _ rfl _ _ 133 133 rfl _ _ rfl rfl (hcp1 _ _) ?_))
  go_region_law (refine step_copy_k rfl _ _ 133 133 rfl _ _ (by simp [Act.eval, Act.put]) (by simp [Act.eval, Act.put]) (hcp2 _ _ _) ?_)
  go_wp2
  go_ret
  refine ⟨some ⟨N, 0, none⟩, G, rfl, Row.of_block HB3.o HSN.o hGn hGm ?_ FIN.o ?_, HC3.o⟩
  · rw [List.size_toArray, HC2.o]
  · simp only [List.length_append, List.length_take, List.length_drop]
    rw [HL.o, HV.o]; omega

/-- Put in at place i. -/
theorem insEntTn_calls (w : World) (S : Nat → Prop) (A : Option Addr) (n c i : Nat) (xs vs : List Value) (vb : Nat) (hr : Row w S 145 2 A n c xs) (hl : vs.length = 2) (h1x : ∀ u ∈ xs, u.oneCell' = true)
    (hvs : Blk w vb 145 vs.toArray) (h1v : ∀ v ∈ vs, v.oneCell' = true) (hn : n ≤ 1000000) (hi : i ≤ n) (hnv : ¬ S vb) :
    Calls Tryz.prog 73 #[.slice A n c, .int .i64 i, .slice (some ⟨vb, 0, none⟩) 1 1] w fun e w' => ∃ A' c', e = .returned (.slice A' (n + 1) c') ∧ Row w' (Plus S w.heap.size) 145 2 A' (n + 1) c' (xs.take (i * 2) ++ vs ++ xs.drop (i * 2)) ∧ Chg S w w' := by
  by_cases hin : i < n
  · by_cases hroom : n + 1 ≤ c
    · exact insEntTn_room w S A n c i xs vs vb hr hl h1x hvs h1v hn hin hroom hnv
    · exact insEntTn_grow w S A n c i xs vs vb hr hl h1x hvs h1v hn hin hroom
  · obtain rfl : i = n := by omega
    rw [List.take_of_length_le (by rw [hr.len]; exact Nat.le_refl _), List.drop_of_length_le (by rw [hr.len]; exact Nat.le_refl _), List.append_nil]
    exact insEntTn_end w S A i c xs vs vb hr hl (fun j v hj => hvs.at_ j (by simpa using hj)) h1v hn

end Go.Proofs.YtfacfdjapjhpeaaGreatDoor
namespace Go.Proofs.YtfacfdjapjhpeaaGreatDoor
open Go.RowKit Go.Lib

/-- The map at block b; its blocks lie in S. -/
def OmEntTn (w : World) (S : Nat → Prop) (b : Nat) (l : ML Nat) : Prop :=
  ∃ A c, Blk w b 135 #[.slice A l.length c] ∧ Row w S 145 2 A l.length c (meEntTn l) ∧ S b ∧ Rising l
theorem OmEntTn.lt {w : World} {S : Nat → Prop} {b : Nat} {l : ML Nat} (h : OmEntTn w S b l) : b < w.heap.size := by
  obtain ⟨A, c, hb, _⟩ := h
  exact hb.lt
theorem OmEntTn.rise {w : World} {S : Nat → Prop} {b : Nat} {l : ML Nat} (h : OmEntTn w S b l) : Rising l := by
  obtain ⟨A, c, hb, _, _, h⟩ := h
  exact h
theorem OmEntTn.mono {w : World} {S T : Nat → Prop} {b : Nat} {l : ML Nat} (h : OmEntTn w S b l) (hs : ∀ k, S k → T k) : OmEntTn w T b l := by
  obtain ⟨A, c, hb, hr, hS, hi⟩ := h
  exact ⟨A, c, hb, hr.mono hs, hs _ hS, hi⟩
theorem OmEntTn.chg {w w' : World} {S T : Nat → Prop} {b : Nat} {l : ML Nat} (h : OmEntTn w S b l) (hc : Chg T w w') (hd : ∀ k, S k → ¬ T k) : OmEntTn w' S b l := by
  obtain ⟨A, c, hb, hr, hS, hi⟩ := h
  exact ⟨A, c, hb.chg hc (hd _ hS), hr.chg hc hd, hS, hi⟩
theorem OmEntTn.drew {w : World} {S : Nat → Prop} {b : Nat} {l : ML Nat} (h : OmEntTn w S b l) : OmEntTn w.drew S b l := by
  obtain ⟨A, c, hb, hr, hS, hi⟩ := h
  exact ⟨A, c, hb.drew, hr.drew, hS, hi⟩
theorem OmEntTn.below {w w' : World} {S : Nat → Prop} {b : Nat} {l : ML Nat} (h : OmEntTn w S b l) (hb : Below w.heap.size w w') : OmEntTn w' S b l :=
  h.chg (Chg.of_below Non hb) (fun _ _ => id)
theorem OmEntTn.shrink {w : World} {S : Nat → Prop} {b : Nat} {l : ML Nat} (h : OmEntTn w S b l) : OmEntTn w (fun k => S k ∧ k < w.heap.size) b l := by
  obtain ⟨A, c, hb, hr, hS, hi⟩ := h
  exact ⟨A, c, hb, ⟨hr.own, fun a ha => ⟨hr.fp a ha, hr.lt ha⟩⟩, ⟨hS, hb.lt⟩, hi⟩

theorem meEntTn_ins (l : ML Nat) (p : Nat) (x : List UInt8 × Nat) : meEntTn (l.take p ++ x :: l.drop p) = (meEntTn l).take (p * 2) ++ enEntTn x ++ (meEntTn l).drop (p * 2) := by
  rw [meEntTn, meEntTn, flat_take enEntTn 2 enEntTn_len, flat_drop enEntTn 2 enEntTn_len, List.flatMap_append, List.flatMap_cons, List.append_assoc]
theorem findEntTn_calls (w : World) (S : Nat → Prop) (b : Nat) (l : ML Nat) (k : List UInt8) (h : OmEntTn w S b l) (hl : l.length ≤ 1000000) :
    Calls Tryz.prog 72 #[.pointer (some ⟨b, 0, none⟩), .string (bs k)] w fun e w' => e = .returned (.tuple #[.int .i64 (place l k : Nat), .bool (hasM l k)]) ∧ Below w.heap.size w w' := by
  obtain ⟨A, c, hb, hr, hS, hi⟩ := h
  have hc := hd (bsfEntTn_calls w S A c l k hr hi hl)
  have hb0 := hb.at_ 0 rfl
  generalize l.length = n at *
  generalize place l k = p at *
  generalize hasM l k = q at *
  clear hr hb hi
  go_enter Tryz.func72, Tryz.ntmps72
  go_wp2_with fail
  refine hc.o.mono ?_
  rintro e w1 ⟨rfl, hbe⟩
  go_wp2_with fail
  go_ret2
  exact ⟨rfl, hbe⟩

theorem omnewEntTn_calls (w : World) (S : Nat → Prop) (hS : S w.heap.size) :
    Calls Tryz.prog 39 #[] w fun e w' => e = .returned (.pointer (some ⟨w.heap.size, 0, none⟩)) ∧ OmEntTn w' S w.heap.size [] ∧ Below w.heap.size w w' := by
  go_enter Tryz.func39, Tryz.ntmps39
  go_wp2
  go_ret
  exact ⟨rfl, ⟨none, 0, Blk.new _ _ _, Row.nil _ _ _ _, hS, List.Pairwise.nil⟩, (Below.refl _ _).alloc (Nat.le_refl _) _⟩

end Go.Proofs.YtfacfdjapjhpeaaGreatDoor
namespace Go.Proofs.YtfacfdjapjhpeaaGreatDoor
open Go.RowKit Go.Lib

def enEntCp (x : List UInt8 × Nat) : List Value := .string (bs x.1) :: ptE x.2
def meEntCp (l : ML Nat) : List Value := l.flatMap enEntCp
theorem enEntCp_len (x : List UInt8 × Nat) : (enEntCp x).length = 2 := rfl
theorem enEntCp_one (x : List UInt8 × Nat) : ∀ u ∈ enEntCp x, u.oneCell' = true := by
  intro u hu
  simp [enEntCp, ptE] at hu
  rcases hu with rfl | rfl <;> rfl
theorem meEntCp_one (l : ML Nat) : ∀ u ∈ meEntCp l, u.oneCell' = true := by
  intro u hu
  obtain ⟨x, _, h⟩ := List.mem_flatMap.1 hu
  exact enEntCp_one x u h
theorem meEntCp_at (l : ML Nat) (i : Nat) (h : i < l.length) (j : Nat) (hj : j < 2) : (meEntCp l)[i * 2 + j]? = (enEntCp l[i])[j]? := flat_at enEntCp 2 enEntCp_len l i h j hj

theorem find1EntCp_calls (w : World) (x : List UInt8 × Nat) (k : List UInt8) :
    Calls Tryz.prog 118 #[.agg (enEntCp x).toArray, .string (bs k)] w fun e w' => e = .returned (.int .i64 (compareBytes x.1 k)) ∧ w.alloc (.cells (enEntCp x).toArray 161) = w' := by
  obtain ⟨key, pv⟩ := x
  have hc := hd (scmp_calls (w.alloc (.cells (enEntCp (key, pv)).toArray 161)) key k)
  simp only [enEntCp, ptE] at hc ⊢
  go_enter Tryz.func118, Tryz.ntmps118
  go_wp2_with fail
  refine hc.o.mono ?_
  rintro e w1 ⟨rfl, rfl⟩
  go_wp2_with fail
  go_ret
  exact ⟨rfl, rfl⟩

set_option maxHeartbeats 1000000 in
theorem bsfEntCp_calls (w : World) (S : Nat → Prop) (A : Option Addr) (c : Nat) (l : ML Nat) (k : List UInt8) (hr : Row w S 161 2 A l.length c (meEntCp l)) (hs : Rising l) (hl : l.length ≤ 1000000) :
    Calls Tryz.prog 117 #[.slice A l.length c, .string (bs k), .func (.func 118) #[] #[]] w fun e w' => e = .returned (.tuple #[.int .i64 (place l k : Nat), .bool (hasM l k)]) ∧ Below w.heap.size w w' := by
  obtain ⟨n, hn⟩ : ∃ n, l.length = n := ⟨_, rfl⟩
  obtain ⟨p, hp⟩ : ∃ p, place l k = p := ⟨_, rfl⟩
  obtain ⟨q, hq⟩ : ∃ q, hasM l k = q := ⟨_, rfl⟩
  have hpn : p ≤ n := by rw [← hp, ← hn]; exact place_le l k
  have HQ : Hd (q = match l[p]? with | some x => decide (x.1 = k) | none => false) := hd (by
    rw [← hq, ← hp, hasM, getM_place hs]
    cases l[place l k]? with
    | none => rfl
    | some x => by_cases h : x.1 = k <;> simp [h])
  have HP := hd (fun t (ht : t < l.length) => hp ▸ place_lt (k := k) hs t ht)
  have hcell := hd (fun (t : Nat) (ht : t < n) => (show ∃ x : List UInt8 × Nat, l[t]? = some x ∧ (t < p ↔ compareBytes x.1 k < 0) ∧ ∀ j, j < 2 → (meEntCp l)[t * 2 + j]? = (enEntCp x)[j]? from
    ⟨l[t]'(by omega), by simp [hn, ht], HP.o t (by omega), fun j hj => meEntCp_at l t (by omega) j hj⟩))
  rw [hn] at hr hl ⊢
  rw [hp, hq]
  have hcap := hr.cap
  unfold maxLen at hcap
  clear hp hq hn HP
  go_enter Tryz.func117, Tryz.ntmps117
  go_wp2_with fail
  go_loopw [9, 10] (fun x y wr => ∃ lo hi : Nat, x = .int .i64 lo ∧ y = .int .i64 hi ∧ lo ≤ hi ∧ hi ≤ n ∧ lo ≤ p ∧ p ≤ hi ∧ Below w.heap.size w wr) (fun x y _ => (RowKit.intOf y - RowKit.intOf x).toNat)
  case atStart => exact ⟨0, n, rfl, rfl, by omega, by omega, by omega, hpn, Below.refl _ _⟩
  case round =>
    obtain ⟨lo, hi, rfl, rfl, h1, h2, h3, h4, hbe⟩ := hrel
    by_cases hlt : lo < hi
    · obtain ⟨m, hm⟩ : ∃ m, m = (lo + hi) / 2 := ⟨_, rfl⟩
      have hmi : ((lo : Int) + (hi : Int)) / 2 = (m : Int) := by omega
      have hm1 : lo ≤ m := by omega
      have hm2 : m < hi := by omega
      have hm3 : m < n := by omega
      obtain ⟨g, rfl, _, hg, _, _, hc, _⟩ := hr.at_ (by omega)
      obtain ⟨x, hx, hxp, hxc⟩ := hcell.o m hm3
      have hcc : ∀ j v, j < 2 → (enEntCp x)[j]? = some v → wr.cell? ⟨g, m * 2 + j, none⟩ = some v := fun j v hj hv => (hbe.cell (p := ⟨g, m * 2 + j, none⟩) hg).trans (hc _ _ ((hxc j hj).trans hv))
      obtain ⟨key, pv⟩ := x
      (have k0 := hcc 0 _ (by omega) rfl; have k1 := hcc 1 _ (by omega) rfl; rw [Nat.add_zero] at k0)
      have hf := hd (find1EntCp_calls wr (key, pv) k)
      simp only [enEntCp, ptE] at hf
      obtain ⟨z, hz⟩ : ∃ z, compareBytes key k = z := ⟨_, rfl⟩
      simp only at hxp
      rw [hz] at hxp hf
      have HXP := hd hxp
      clear hm hx hxc hcc hc hr hxp hz
      by_cases hzl : z < 0
      · go_wp2_with (go_at_call 118; refine hf.o.mono ?_; rintro e w1 ⟨rfl, rfl⟩)
        have hmp := HXP.o.2 hzl
        go_roundw
        case rel => exact ⟨m + 1, hi, by go_num, rfl, by omega, by omega, by omega, by omega, hbe.alloc hbe.size _⟩
        case measure => simp [RowKit.intOf]; omega
      · have hmp : p ≤ m := Nat.le_of_not_lt (fun h => hzl (HXP.o.1 h))
        go_wp2_with (go_at_call 118; refine hf.o.mono ?_; rintro e w1 ⟨rfl, rfl⟩)
        go_roundw
        case rel => exact ⟨lo, m, rfl, by go_num, by omega, by omega, by omega, by omega, hbe.alloc hbe.size _⟩
        case measure => simp [RowKit.intOf]; omega
    · obtain rfl : hi = lo := by omega
      obtain rfl : p = hi := by omega
      by_cases hpn' : p < n
      · obtain ⟨g, rfl, _, hg, _, _, hc, _⟩ := hr.at_ (by omega)
        obtain ⟨x, hx, hxp, hxc⟩ := hcell.o p hpn'
        have hcc : ∀ j v, j < 2 → (enEntCp x)[j]? = some v → wr.cell? ⟨g, p * 2 + j, none⟩ = some v := fun j v hj hv => (hbe.cell (p := ⟨g, p * 2 + j, none⟩) hg).trans (hc _ _ ((hxc j hj).trans hv))
        obtain ⟨key, pv⟩ := x
        obtain ⟨m, hm⟩ : ∃ m, m = p := ⟨_, rfl⟩
        have HQ2 : Hd (q = decide (compareBytes key k = 0)) := hd (by
          rw [HQ.o, hx]
          show decide (key = k) = _
          by_cases h : key = k
          · rw [h, cmp_self]; simp
          · have : compareBytes key k ≠ 0 := fun e => h (cmp_zero e)
            simp [h, this])
        rw [← hm] at hcc hpn'
        (have k0 := hcc 0 _ (by omega) rfl; have k1 := hcc 1 _ (by omega) rfl; rw [Nat.add_zero] at k0)
        have hf := hd (find1EntCp_calls wr (key, pv) k)
        simp only [enEntCp, ptE] at hf
        obtain ⟨z, hz⟩ : ∃ z, compareBytes key k = z := ⟨_, rfl⟩
        rw [hz] at hf HQ2
        subst hm
        clear hx hxp hxc hcc hc hr hz HQ hcell
        go_wp2_with (go_at_call 118; refine hf.o.mono ?_; rintro e w1 ⟨rfl, rfl⟩)
        all_goals
          go_ret2
          refine ⟨ret_val ?_, hbe.alloc hbe.size _⟩
          rw [HQ2.o]
          first | rfl | (congr 2; simp_all) | simp_all
      · have HQ2 : Hd (q = false) := hd (by
          have e : l[p]? = none := by
            by_cases h : p < l.length
            · exfalso
              have hn2 := hr.len
              rw [meEntCp, flat_length enEntCp 2 enEntCp_len] at hn2
              omega
            · simp; omega
          rw [HQ.o, e])
        clear HQ hcell hr
        go_wp2
        go_ret2
        exact ⟨ret_val (by rw [HQ2.o]; first | rfl | simp), hbe⟩

end Go.Proofs.YtfacfdjapjhpeaaGreatDoor
namespace Go.Proofs.YtfacfdjapjhpeaaGreatDoor
open Go.RowKit

theorem insEntCp_info : (Tryz.prog.info? 161).map (fun i => (i.zero, i.size, i.bytes)) = some (some (.agg #[Value.string ⟨#[]⟩, Value.pointer none]), 2, 24) := by kernel_rfl

set_option maxHeartbeats 1600000 in
set_option maxRecDepth 100000 in
/-- At the end. -/
theorem insEntCp_end (w : World) (S : Nat → Prop) (A : Option Addr) (n c : Nat) (xs vs : List Value) (vb : Nat) (hr : Row w S 161 2 A n c xs) (hl : vs.length = 2)
    (hvs : ∀ j v, vs[j]? = some v → w.cell? ⟨vb, j, none⟩ = some v) (h1v : ∀ v ∈ vs, v.oneCell' = true) (hn : n ≤ 1000000) :
    Calls Tryz.prog 112 #[.slice A n c, .int .i64 n, .slice (some ⟨vb, 0, none⟩) 1 1] w fun e w' => ∃ A' c', e = .returned (.slice A' (n + 1) c') ∧ Row w' (Plus S w.heap.size) 161 2 A' (n + 1) c' (xs ++ vs) ∧ Chg S w w' := by
  obtain ⟨i0, hi0, hz0, hz1, hz2⟩ := info_parts insEntCp_info
  have hcap := hr.cap
  unfold maxLen at hcap
  go_enter Tryz.func112, Tryz.ntmps112
  go_wp2_with (at_builtin; go_loud (refine wpList_append_row rfl _ _ 148 rfl S 161 i0 (.agg #[Value.string ⟨#[]⟩, Value.pointer none]) 2 24 Tryz.underlying148 hi0 hz0 hz1 hz2 rfl A n c xs rfl hr ⟨vb, 0, none⟩ 1 1 vs rfl (by rw [hl]) (fun j u hu => by rw [Addr.add_lit, Nat.zero_add]; exact hvs j u hu) h1v (by omega) (by unfold maxLen; omega) (by omega) ?_; intro A2 c2 w2 hown2 hchg2))
  all_goals
    go_ret
    exact ⟨A2, c2, rfl, hown2, hchg2⟩

set_option maxHeartbeats 4000000 in
set_option maxRecDepth 100000 in
/-- Ahead of others, where there is room. -/
theorem insEntCp_room (w : World) (S : Nat → Prop) (A : Option Addr) (n c i : Nat) (xs vs : List Value) (vb : Nat) (hr : Row w S 161 2 A n c xs) (hl : vs.length = 2) (h1x : ∀ u ∈ xs, u.oneCell' = true)
    (hvs : Blk w vb 161 vs.toArray) (h1v : ∀ v ∈ vs, v.oneCell' = true) (hn : n ≤ 1000000) (hi : i < n) (hroom : n + 1 ≤ c) (hnv : ¬ S vb) :
    Calls Tryz.prog 112 #[.slice A n c, .int .i64 i, .slice (some ⟨vb, 0, none⟩) 1 1] w fun e w' => ∃ A' c', e = .returned (.slice A' (n + 1) c') ∧ Row w' (Plus S w.heap.size) 161 2 A' (n + 1) c' (xs.take (i * 2) ++ vs ++ xs.drop (i * 2)) ∧ Chg S w w' := by
  obtain ⟨i0, hi0, hz0, hz1, hz2⟩ := info_parts insEntCp_info
  have hcap := hr.cap
  unfold maxLen at hcap
  obtain ⟨g0, hA, _⟩ := hr.at_ (by omega)
  obtain ⟨g, cur, e0, hS, hb, hnc, hcm, hcs, ht⟩ := hr.block hA
  injection e0 with e0
  subst e0
  subst hA
  have hlen := hr.len
  have hne : vb ≠ g0 := fun e => hnv (e ▸ hS)
  have hsz : (Tryz.prog.info? 161).map (·.size) = some 2 := by rw [hi0]; simp [hz1]
  have hso : ∀ w, (sizeOf 161).run Tryz.prog w = .ok 2 w := fun w => by simp [sizeOf, typeInfo, hi0, hz1]
  have hov : ∀ lb cb, (callFunc 137 #[.slice (some ⟨vb, 0, none⟩) 1 1, .slice (some ⟨g0, (i + 1) * 2, none⟩) lb cb]).run Tryz.prog w = .ok (.value (.bool false)) w := fun lb cb => by
    rw [run_callFunc_extern Tryz.func137 (by kernel_rfl) (by kernel_rfl) (by kernel_rfl) (e := Extern.SlicesOverlaps.overlaps #[148, 148] #[4]) (by kernel_rfl),
      Lib.run_overlaps_apart w 148 4 161 Tryz.underlying148 2 hso ⟨vb, 0, none⟩ ⟨g0, (i + 1) * 2, none⟩ 1 1 lb cb hne 161 161 2 cur.size (by simp only [World.shape?]; rw [show w.heap[vb]? = some _ from hvs]; simp [hl]) (by simp only [World.shape?]; rw [show w.heap[g0]? = some _ from hb]) (by omega) (hvs.frozen _) (hvs.frozen _)]
    rfl
  have hdl : (xs.drop (i * 2)).length = (n - i) * 2 := by rw [List.length_drop, hlen, Nat.sub_mul]
  have hcell : ∀ j u, xs[j]? = some u → w.cell? ⟨g0, j, none⟩ = some u := by
    intro j u hu
    rw [hb.cell]
    rw [← ht, List.getElem?_take] at hu
    split at hu
    · simpa using hu
    · cases hu
  obtain ⟨c1, hc1⟩ : ∃ c1, c1 = cur.toList.take ((i + 1) * 2) ++ xs.drop (i * 2) ++ cur.toList.drop ((i + 1) * 2 + (xs.drop (i * 2)).length) := ⟨_, rfl⟩
  have hc1l : c1.length = cur.size := by rw [hc1]; simp only [List.length_append, List.length_take, List.length_drop, Array.length_toList, hlen]; omega
  obtain ⟨W1, hW1⟩ : ∃ W1, W1 = w.drew.setRow g0 c1.toArray := ⟨_, rfl⟩
  have hb1 : Blk W1 g0 161 c1.toArray := by rw [hW1]; exact hb.drew.setRow _
  have hv1 : Blk W1 vb 161 vs.toArray := by rw [hW1]; exact hvs.drew.setRow_far hne _
  have hcp1 : ∀ ty dc sc, (Builtin.copy_ #[148, 148] ty #[.slice (some ⟨g0, (i + 1) * 2, none⟩) (n - i) dc, .slice (some ⟨g0, i * 2, none⟩) (n + 1 - i) sc]).run Tryz.prog w.drew = .ok (goInt (Nat.min (n + 1 - i) (n - i) : Nat)) W1 := fun ty dc sc => by
    rw [hW1, hc1]
    exact run_copy_k w.drew 148 148 ty 161 2 g0 ((i + 1) * 2) (n - i) dc ⟨g0, i * 2, none⟩ (n + 1 - i) sc cur 161 (xs.drop (i * 2)) Tryz.underlying148 hsz hb.drew
      (by rw [hdl]; congr 1; show n - i = min (n + 1 - i) (n - i); omega) (fun j v hj => by rw [Addr.add_lit]; exact hcell _ v (by rwa [List.getElem?_drop] at hj)) (by rw [hdl, hcs]; omega) (fun v hv => h1x v (List.mem_of_mem_drop hv))
  obtain ⟨c2, hc2⟩ : ∃ c2, c2 = c1.take (i * 2) ++ vs ++ c1.drop (i * 2 + vs.length) := ⟨_, rfl⟩
  have hc2l : c2.length = cur.size := by rw [hc2]; simp only [List.length_append, List.length_take, List.length_drop, hc1l, hl]; omega
  have hcp2 : ∀ ty dc, (Builtin.copy_ #[148, 148] ty #[.slice (some ⟨g0, i * 2, none⟩) (n + 1 - i) dc, .slice (some ⟨vb, 0, none⟩) 1 1]).run Tryz.prog W1 = .ok (goInt (Nat.min 1 (n + 1 - i) : Nat)) (W1.setRow g0 c2.toArray) := fun ty dc => by
    have h := run_copy_k (P := Tryz.prog) W1 148 148 ty 161 2 g0 (i * 2) (n + 1 - i) dc ⟨vb, 0, none⟩ 1 1 c1.toArray 161 vs Tryz.underlying148 hsz hb1
      (by rw [hl, show Nat.min 1 (n + 1 - i) = 1 from (by omega : min 1 (n + 1 - i) = 1)]) (fun j v hj => by rw [Addr.add_lit, Nat.zero_add]; exact hv1.at_ j (by simpa using hj)) (by simp only [List.size_toArray]; omega) h1v
    rw [hc2]
    exact h
  have HW1 := hd hW1
  have FIN := hd (ins_list cur.toList xs vs i 2 n ht (by rw [Array.length_toList, hcs]; exact Nat.mul_le_mul_right _ hroom) (by omega) hl c1 c2 hc1 hc2)
  have HC2 := hd hc2l
  have HB1 := hd hb1
  have HR := hd hcs
  have HL := hd hlen
  have HV := hd hl
  have hw1 : IntKind.i64.wrap ((i : Int) + 1) = (i : Int) + 1 := by rw [IntKind.wrap_i64]; omega
  have hw2 : IntKind.i64.wrap ((n : Int) + 1) = (n : Int) + 1 := by rw [IntKind.wrap_i64]; omega
  have hb1' : (0 : Int) ≤ (i : Int) + 1 := by omega
  have htn : ((i : Int) + 1).toNat = i + 1 := by omega
  have htn2 : ((n : Int) + 1).toNat = n + 1 := by omega
  have hb2 : ¬ (c = i + 1) := by omega
  have hb3 : (i : Int) ≤ (n : Int) + 1 := by omega
  have hb4 : ¬ (c = i) := by omega
  have hz2' : ¬ ((i : Int) = (n : Int)) := by omega
  have hin : i ≤ n := by omega
  clear hr hW1 hc1 hc2 ht hcell hb1 hv1 hdl hb hvs hc1l hc2l hcs hlen hl h1x h1v
  go_enter Tryz.func112, Tryz.ntmps112
  go_wp2_with (simp only [hov])
  go_region_law (refine step_copy_k rfl _ _ 148 148 rfl _ _ (by simp [Act.eval, Act.put]) (by simp [Act.eval, Act.put]) (hcp1 _ _ _) ?_)
  go_wp2_with (at_builtin; refine wpList_copy_k _ rfl _ _ 148 148 rfl _ _ rfl rfl (hcp2 _ _) ?_)
  go_ret
  refine ⟨some ⟨g0, 0, none⟩, c, rfl, Row.of_block (HB1.o.setRow _) (.inl hS) (by omega) (by unfold maxLen; omega) ?_ ?_ ?_, ?_⟩
  · rw [List.size_toArray, HC2.o, HR.o]
  · exact FIN.o
  · simp only [List.length_append, List.length_take, List.length_drop]
    rw [HL.o, HV.o]; omega
  · rw [HW1.o]
    exact ((Chg.refl _ _).drew.setRow (.inl hS) _).setRow (.inl hS) _

set_option maxHeartbeats 4000000 in
set_option maxRecDepth 100000 in
/-- Ahead of others, where there is no room. -/
theorem insEntCp_grow (w : World) (S : Nat → Prop) (A : Option Addr) (n c i : Nat) (xs vs : List Value) (vb : Nat) (hr : Row w S 161 2 A n c xs) (hl : vs.length = 2) (h1x : ∀ u ∈ xs, u.oneCell' = true)
    (hvs : Blk w vb 161 vs.toArray) (h1v : ∀ v ∈ vs, v.oneCell' = true) (hn : n ≤ 1000000) (hi : i < n) (hroom : ¬ n + 1 ≤ c) :
    Calls Tryz.prog 112 #[.slice A n c, .int .i64 i, .slice (some ⟨vb, 0, none⟩) 1 1] w fun e w' => ∃ A' c', e = .returned (.slice A' (n + 1) c') ∧ Row w' (Plus S w.heap.size) 161 2 A' (n + 1) c' (xs.take (i * 2) ++ vs ++ xs.drop (i * 2)) ∧ Chg S w w' := by
  obtain ⟨i0, hi0, hz0, hz1, hz2⟩ := info_parts insEntCp_info
  have hcap := hr.cap
  unfold maxLen at hcap
  obtain ⟨g0, hA, _⟩ := hr.at_ (by omega)
  obtain ⟨g, cur, e0, hS, hb, hnc, hcm, hcs, ht⟩ := hr.block hA
  injection e0 with e0
  subst e0
  subst hA
  have hcn : c = n := by omega
  subst hcn
  have hlen := hr.len
  have hbw : g0 < w.heap.size := hb.lt
  have hvw : vb < w.heap.size := hvs.lt
  have hsz : (Tryz.prog.info? 161).map (·.size) = some 2 := by rw [hi0]; simp [hz1]
  have hdl : (xs.drop (i * 2)).length = (c - i) * 2 := by rw [List.length_drop, hlen, Nat.sub_mul]
  have htl : (xs.take (i * 2)).length = i * 2 := by rw [List.length_take, hlen]; omega
  have hcell : ∀ j u, xs[j]? = some u → w.cell? ⟨g0, j, none⟩ = some u := by
    intro j u hu
    rw [hb.cell]
    rw [← ht, List.getElem?_take] at hu
    split at hu
    · simpa using hu
    · cases hu
  have hold : (Builtin.firstCells i0.size i (.slice (some ⟨g0, 0, none⟩) i c)).run Tryz.prog w.drew = .ok (xs.take (i * 2)).toArray w.drew := by
    rw [hz1]
    exact run_firstCells_some w.drew 2 i ⟨g0, 0, none⟩ i c (xs.take (i * 2)) (by rw [htl, Nat.mul_comm]) (fun j v hj => by
      rw [Addr.add_lit, Nat.zero_add]
      rw [List.getElem?_take] at hj
      split at hj
      · exact hcell j v hj
      · cases hj)
  have hik : i + (c + 1 - i) = c + 1 := by omega
  have hkk : (c : Int) + 1 - (i : Int) = ((c + 1 - i : Nat) : Int) := by omega
  obtain ⟨G, hG⟩ : ∃ G, G = grownCap w (c + 1) c 161 := ⟨_, rfl⟩
  have hGn : c + 1 ≤ G := by rw [hG]; exact grownCap_ge w _ _ _
  have hGm : G ≤ maxLen := by rw [hG]; exact grownCap_le_maxLen w (c + 1) c 161 (by unfold maxLen; omega)
  obtain ⟨ROW, hROW⟩ : ∃ ROW : Array Value, ROW = (xs.take (i * 2)).toArray ++ Builtin.zeroCells (Value.agg #[Value.string ⟨#[]⟩, Value.pointer none]).cells (c + 1 - i) ++ Builtin.zeroCells (Value.agg #[Value.string ⟨#[]⟩, Value.pointer none]).cells (G - (c + 1)) := ⟨_, rfl⟩
  have hRl : ROW.size = G * 2 := by
    rw [hROW]
    simp only [Array.size_append, List.size_toArray, size_zeroCells, htl]
    rw [show (Value.agg #[Value.string ⟨#[]⟩, Value.pointer none]).cells.size = 2 from rfl]
    omega
  have hRt : ROW.toList.take (i * 2) = xs.take (i * 2) := by
    rw [hROW]
    simp only [Array.toList_append, List.append_assoc]
    rw [List.take_append_of_le_length (by rw [htl]; exact Nat.le_refl _), List.take_take, Nat.min_self]
  have hrz : ∀ ty, (Builtin.append_ #[148, 3] ty #[.slice (some ⟨g0, 0, none⟩) i c, .int .i64 ((c : Int) + 1 - (i : Int))]).run Tryz.prog w = .ok (.slice (some ⟨w.heap.size, 0, none⟩) (c + 1) G) (w.drew.alloc (.cells ROW 161)) := fun ty => by
    have h := Lib.run_append_grow_zeros w 148 3 ty 161 i0 _ .i64 .i64 Tryz.underlying148 Tryz.underlying3 hi0 hz0 (some ⟨g0, 0, none⟩) i c (xs.take (i * 2)) hold (c + 1 - i) (by omega) (by omega) (by omega) (by omega) (by rw [hz2]; omega) (by rw [hz2, hik]; exact growslice_fits (by omega) (by omega))
    rw [hik] at h
    rw [hkk, hROW, hG]
    exact h
  obtain ⟨W1, hW1⟩ : ∃ W1, W1 = w.drew.alloc (.cells ROW 161) := ⟨_, rfl⟩
  obtain ⟨N, hN⟩ : ∃ N, N = w.heap.size := ⟨_, rfl⟩
  have hNb : Blk W1 N 161 ROW := by rw [hW1, hN]; exact Blk.new w.drew 161 ROW
  have hgb : Blk W1 g0 161 cur := by rw [hW1]; exact hb.drew.alloc _
  have hvb : Blk W1 vb 161 vs.toArray := by rw [hW1]; exact hvs.drew.alloc _
  rw [← hW1, ← hN] at hrz
  obtain ⟨c1, hc1⟩ : ∃ c1, c1 = ROW.toList.take (i * 2) ++ vs ++ ROW.toList.drop (i * 2 + vs.length) := ⟨_, rfl⟩
  have hc1l : c1.length = G * 2 := by rw [hc1]; simp only [List.length_append, List.length_take, List.length_drop, Array.length_toList, hRl, hl]; omega
  obtain ⟨W2, hW2⟩ : ∃ W2, W2 = W1.setRow N c1.toArray := ⟨_, rfl⟩
  have hcp1 : ∀ ty dc, (Builtin.copy_ #[148, 148] ty #[.slice (some ⟨N, i * 2, none⟩) (c + 1 - i) dc, .slice (some ⟨vb, 0, none⟩) 1 1]).run Tryz.prog W1 = .ok (goInt (Nat.min 1 (c + 1 - i) : Nat)) W2 := fun ty dc => by
    have h := run_copy_k (P := Tryz.prog) W1 148 148 ty 161 2 N (i * 2) (c + 1 - i) dc ⟨vb, 0, none⟩ 1 1 ROW 161 vs Tryz.underlying148 hsz hNb
      (by rw [hl, show Nat.min 1 (c + 1 - i) = 1 from (by omega : min 1 (c + 1 - i) = 1)]) (fun j v hj => by rw [Addr.add_lit, Nat.zero_add]; exact hvb.at_ j (by simpa using hj)) (by rw [hRl]; omega) h1v
    rw [hW2, hc1]
    exact h
  have hNb2 : Blk W2 N 161 c1.toArray := by rw [hW2]; exact hNb.setRow _
  have hgb2 : Blk W2.drew g0 161 cur := by rw [hW2]; exact (hgb.setRow_far (by omega) _).drew
  obtain ⟨c2, hc2⟩ : ∃ c2, c2 = c1.take ((i + 1) * 2) ++ xs.drop (i * 2) ++ c1.drop ((i + 1) * 2 + (xs.drop (i * 2)).length) := ⟨_, rfl⟩
  have hc2l : c2.length = G * 2 := by rw [hc2]; simp only [List.length_append, List.length_take, List.length_drop, hc1l, hlen]; omega
  obtain ⟨W3, hW3⟩ : ∃ W3, W3 = W2.drew.setRow N c2.toArray := ⟨_, rfl⟩
  have hcp2 : ∀ ty dc sc, (Builtin.copy_ #[148, 148] ty #[.slice (some ⟨N, (i + 1) * 2, none⟩) (c - i) dc, .slice (some ⟨g0, i * 2, none⟩) (c - i) sc]).run Tryz.prog W2.drew = .ok (goInt (Nat.min (c - i) (c - i) : Nat)) W3 := fun ty dc sc => by
    have h := run_copy_k (P := Tryz.prog) W2.drew 148 148 ty 161 2 N ((i + 1) * 2) (c - i) dc ⟨g0, i * 2, none⟩ (c - i) sc c1.toArray 161 (xs.drop (i * 2)) Tryz.underlying148 hsz hNb2.drew
      (by rw [hdl]; congr 1; show c - i = min (c - i) (c - i); omega) (fun j v hj => by
        rw [Addr.add_lit]
        have := (hb.cell (i * 2 + j)).symm.trans (hcell _ v (by rwa [List.getElem?_drop] at hj))
        exact (hgb2.cell _).trans this) (by rw [List.size_toArray, hdl, hc1l]; omega) (fun v hv => h1x v (List.mem_of_mem_drop hv))
    rw [hW3, hc2]
    exact h
  have FIN := hd (ins_list2 ROW.toList xs vs i 2 c hRt hlen (by rw [Array.length_toList, hRl]; exact Nat.mul_le_mul_right _ hGn) (by omega) hl c1 c2 hc1 hc2)
  have HB3 : Hd (Blk W3 N 161 c2.toArray) := hd (by rw [hW3]; exact hNb2.drew.setRow _)
  have HC3 : Hd (Chg S w W3) := hd (by
    rw [hW3, hW2, hW1]
    exact (((Chg.refl S w).drew.alloc _).setRow (.inr (by rw [hN]; exact Nat.le_refl _)) _).drew.setRow (.inr (by rw [hN]; exact Nat.le_refl _)) _)
  have HSN : Hd (Plus S w.heap.size N) := hd (.inr (by rw [hN]; exact Nat.le_refl _))
  have HC2 := hd hc2l
  have HL := hd hlen
  have HV := hd hl
  have hG63 : G ≤ 9223372036854775807 := by unfold maxLen at hGm; omega
  have hw1 : IntKind.i64.wrap ((i : Int) + 1) = (i : Int) + 1 := by rw [IntKind.wrap_i64]; omega
  have hw2 : IntKind.i64.wrap ((c : Int) + 1) = (c : Int) + 1 := by rw [IntKind.wrap_i64]; omega
  have hw3 : IntKind.i64.wrap ((c : Int) + 1 - (i : Int)) = (c : Int) + 1 - (i : Int) := by rw [IntKind.wrap_i64]; omega
  have hb1' : (0 : Int) ≤ (i : Int) + 1 := by omega
  have htn : ((i : Int) + 1).toNat = i + 1 := by omega
  have hGi : ¬ (G = i) := by omega
  have hGim : ¬ (G = i + 1) := by omega
  have hci : ¬ (c = i) := by omega
  have hz2' : ¬ ((i : Int) = (c : Int)) := by omega
  have hz3 : (c : Int) < (c : Int) + 1 := by omega
  have hin : i ≤ c := by omega
  have hb3 : (i : Int) ≤ (c : Int) := by omega
  clear hr hW1 hW2 hW3 hc1 hc2 ht hcell hNb hNb2 hgb hgb2 hvb hdl htl hb hvs hc1l hc2l hcs hlen hl h1x h1v hROW hRl hRt hold hkk hik hN hG hroom hcap hcm
  go_enter Tryz.func112, Tryz.ntmps112
  go_wp2_with (first
    | (at_builtin; refine Lib.wpList_append_run _ rfl _ _ _ _ rfl _ _ rfl rfl _ _ (hrz _) ?_)
    | (at_builtin; refine wpList_copy_k _ rfl _ _ 148 148 rfl _ _ rfl rfl (hcp1 _ _) ?_))
  go_region_law (refine step_copy_k rfl _ _ 148 148 rfl _ _ (by simp [Act.eval, Act.put]) (by simp [Act.eval, Act.put]) (hcp2 _ _ _) ?_)
  go_wp2
  go_ret
  refine ⟨some ⟨N, 0, none⟩, G, rfl, Row.of_block HB3.o HSN.o hGn hGm ?_ FIN.o ?_, HC3.o⟩
  · rw [List.size_toArray, HC2.o]
  · simp only [List.length_append, List.length_take, List.length_drop]
    rw [HL.o, HV.o]; omega

/-- Put in at place i. -/
theorem insEntCp_calls (w : World) (S : Nat → Prop) (A : Option Addr) (n c i : Nat) (xs vs : List Value) (vb : Nat) (hr : Row w S 161 2 A n c xs) (hl : vs.length = 2) (h1x : ∀ u ∈ xs, u.oneCell' = true)
    (hvs : Blk w vb 161 vs.toArray) (h1v : ∀ v ∈ vs, v.oneCell' = true) (hn : n ≤ 1000000) (hi : i ≤ n) (hnv : ¬ S vb) :
    Calls Tryz.prog 112 #[.slice A n c, .int .i64 i, .slice (some ⟨vb, 0, none⟩) 1 1] w fun e w' => ∃ A' c', e = .returned (.slice A' (n + 1) c') ∧ Row w' (Plus S w.heap.size) 161 2 A' (n + 1) c' (xs.take (i * 2) ++ vs ++ xs.drop (i * 2)) ∧ Chg S w w' := by
  by_cases hin : i < n
  · by_cases hroom : n + 1 ≤ c
    · exact insEntCp_room w S A n c i xs vs vb hr hl h1x hvs h1v hn hin hroom hnv
    · exact insEntCp_grow w S A n c i xs vs vb hr hl h1x hvs h1v hn hin hroom
  · obtain rfl : i = n := by omega
    rw [List.take_of_length_le (by rw [hr.len]; exact Nat.le_refl _), List.drop_of_length_le (by rw [hr.len]; exact Nat.le_refl _), List.append_nil]
    exact insEntCp_end w S A i c xs vs vb hr hl (fun j v hj => hvs.at_ j (by simpa using hj)) h1v hn

end Go.Proofs.YtfacfdjapjhpeaaGreatDoor
namespace Go.Proofs.YtfacfdjapjhpeaaGreatDoor
open Go.RowKit Go.Lib

/-- The map at block b; its blocks lie in S. -/
def OmEntCp (w : World) (S : Nat → Prop) (b : Nat) (l : ML Nat) : Prop :=
  ∃ A c, Blk w b 150 #[.slice A l.length c] ∧ Row w S 161 2 A l.length c (meEntCp l) ∧ S b ∧ Rising l
theorem OmEntCp.lt {w : World} {S : Nat → Prop} {b : Nat} {l : ML Nat} (h : OmEntCp w S b l) : b < w.heap.size := by
  obtain ⟨A, c, hb, _⟩ := h
  exact hb.lt
theorem OmEntCp.rise {w : World} {S : Nat → Prop} {b : Nat} {l : ML Nat} (h : OmEntCp w S b l) : Rising l := by
  obtain ⟨A, c, hb, _, _, h⟩ := h
  exact h
theorem OmEntCp.mono {w : World} {S T : Nat → Prop} {b : Nat} {l : ML Nat} (h : OmEntCp w S b l) (hs : ∀ k, S k → T k) : OmEntCp w T b l := by
  obtain ⟨A, c, hb, hr, hS, hi⟩ := h
  exact ⟨A, c, hb, hr.mono hs, hs _ hS, hi⟩
theorem OmEntCp.chg {w w' : World} {S T : Nat → Prop} {b : Nat} {l : ML Nat} (h : OmEntCp w S b l) (hc : Chg T w w') (hd : ∀ k, S k → ¬ T k) : OmEntCp w' S b l := by
  obtain ⟨A, c, hb, hr, hS, hi⟩ := h
  exact ⟨A, c, hb.chg hc (hd _ hS), hr.chg hc hd, hS, hi⟩
theorem OmEntCp.drew {w : World} {S : Nat → Prop} {b : Nat} {l : ML Nat} (h : OmEntCp w S b l) : OmEntCp w.drew S b l := by
  obtain ⟨A, c, hb, hr, hS, hi⟩ := h
  exact ⟨A, c, hb.drew, hr.drew, hS, hi⟩
theorem OmEntCp.below {w w' : World} {S : Nat → Prop} {b : Nat} {l : ML Nat} (h : OmEntCp w S b l) (hb : Below w.heap.size w w') : OmEntCp w' S b l :=
  h.chg (Chg.of_below Non hb) (fun _ _ => id)
theorem OmEntCp.shrink {w : World} {S : Nat → Prop} {b : Nat} {l : ML Nat} (h : OmEntCp w S b l) : OmEntCp w (fun k => S k ∧ k < w.heap.size) b l := by
  obtain ⟨A, c, hb, hr, hS, hi⟩ := h
  exact ⟨A, c, hb, ⟨hr.own, fun a ha => ⟨hr.fp a ha, hr.lt ha⟩⟩, ⟨hS, hb.lt⟩, hi⟩

theorem meEntCp_erase (l : ML Nat) (p : Nat) : meEntCp (l.eraseIdx p) = (meEntCp l).take (p * 2) ++ (meEntCp l).drop ((p + 1) * 2) := by
  rw [meEntCp, meEntCp, flat_take enEntCp 2 enEntCp_len, flat_drop enEntCp 2 enEntCp_len, List.eraseIdx_eq_take_drop_succ, List.flatMap_append]
theorem meEntCp_ins (l : ML Nat) (p : Nat) (x : List UInt8 × Nat) : meEntCp (l.take p ++ x :: l.drop p) = (meEntCp l).take (p * 2) ++ enEntCp x ++ (meEntCp l).drop (p * 2) := by
  rw [meEntCp, meEntCp, flat_take enEntCp 2 enEntCp_len, flat_drop enEntCp 2 enEntCp_len, List.flatMap_append, List.flatMap_cons, List.append_assoc]
theorem findEntCp_calls (w : World) (S : Nat → Prop) (b : Nat) (l : ML Nat) (k : List UInt8) (h : OmEntCp w S b l) (hl : l.length ≤ 1000000) :
    Calls Tryz.prog 80 #[.pointer (some ⟨b, 0, none⟩), .string (bs k)] w fun e w' => e = .returned (.tuple #[.int .i64 (place l k : Nat), .bool (hasM l k)]) ∧ Below w.heap.size w w' := by
  obtain ⟨A, c, hb, hr, hS, hi⟩ := h
  have hc := hd (bsfEntCp_calls w S A c l k hr hi hl)
  have hb0 := hb.at_ 0 rfl
  generalize l.length = n at *
  generalize place l k = p at *
  generalize hasM l k = q at *
  clear hr hb hi
  go_enter Tryz.func80, Tryz.ntmps80
  go_wp2_with fail
  refine hc.o.mono ?_
  rintro e w1 ⟨rfl, hbe⟩
  go_wp2_with fail
  go_ret2
  exact ⟨rfl, hbe⟩

theorem omnewEntCp_calls (w : World) (S : Nat → Prop) (hS : S w.heap.size) :
    Calls Tryz.prog 45 #[] w fun e w' => e = .returned (.pointer (some ⟨w.heap.size, 0, none⟩)) ∧ OmEntCp w' S w.heap.size [] ∧ Below w.heap.size w w' := by
  go_enter Tryz.func45, Tryz.ntmps45
  go_wp2
  go_ret
  exact ⟨rfl, ⟨none, 0, Blk.new _ _ _, Row.nil _ _ _ _, hS, List.Pairwise.nil⟩, (Below.refl _ _).alloc (Nat.le_refl _) _⟩

end Go.Proofs.YtfacfdjapjhpeaaGreatDoor
