/-
  slices.Insert(s, i, x) at elements of 5 cells (EntItem): one element put in at place i.
-/
import Derived.Test.YtbeckfnhgeclnaaCopyK
import Derived.Test.YtbeckfnhgeclnaaProg
set_option linter.unusedVariables false
set_option linter.unusedSimpArgs false
namespace Go.Proofs.Ytbeckfnhgeclnaa
open Go.RowKit

theorem insEntItem_info : (Try.prog.info? 139).map (fun i => (i.zero, i.size, i.bytes)) = some (some (.agg #[Value.string ⟨#[]⟩, Value.string ⟨#[]⟩, Value.int IntKind.i64 0, Value.bool false, Value.string ⟨#[]⟩]), 5, 64) := by kernel_rfl

set_option maxHeartbeats 1600000 in
set_option maxRecDepth 100000 in
/-- At the end. -/
theorem insEntItem_end (w : World) (S : Nat → Prop) (A : Option Addr) (n c : Nat) (xs vs : List Value) (vb : Nat) (hr : Row w S 139 5 A n c xs) (hl : vs.length = 5)
    (hvs : ∀ j v, vs[j]? = some v → w.cell? ⟨vb, j, none⟩ = some v) (h1v : ∀ v ∈ vs, v.oneCell' = true) (hn : n ≤ 1000000) :
    Calls Try.prog 85 #[.slice A n c, .int .i64 n, .slice (some ⟨vb, 0, none⟩) 1 1] w fun e w' => ∃ A' c', e = .returned (.slice A' (n + 1) c') ∧ Row w' (Plus S w.heap.size) 139 5 A' (n + 1) c' (xs ++ vs) ∧ Chg S w w' := by
  obtain ⟨i0, hi0, hz0, hz1, hz2⟩ := info_parts insEntItem_info
  have hcap := hr.cap
  unfold maxLen at hcap
  go_enter Try.func85, Try.ntmps85
  go_wp2_with (at_builtin; go_loud (refine wpList_append_row rfl _ _ 134 rfl S 139 i0 (.agg #[Value.string ⟨#[]⟩, Value.string ⟨#[]⟩, Value.int IntKind.i64 0, Value.bool false, Value.string ⟨#[]⟩]) 5 64 Try.underlying134 hi0 hz0 hz1 hz2 rfl A n c xs rfl hr ⟨vb, 0, none⟩ 1 1 vs rfl (by rw [hl]) (fun j u hu => by rw [Addr.add_lit, Nat.zero_add]; exact hvs j u hu) h1v (by omega) (by unfold maxLen; omega) (by omega) ?_; intro A2 c2 w2 hown2 hchg2))
  all_goals
    go_ret
    exact ⟨A2, c2, rfl, hown2, hchg2⟩

set_option maxHeartbeats 4000000 in
set_option maxRecDepth 100000 in
/-- Ahead of others, where there is room. -/
theorem insEntItem_room (w : World) (S : Nat → Prop) (A : Option Addr) (n c i : Nat) (xs vs : List Value) (vb : Nat) (hr : Row w S 139 5 A n c xs) (hl : vs.length = 5) (h1x : ∀ u ∈ xs, u.oneCell' = true)
    (hvs : Blk w vb 139 vs.toArray) (h1v : ∀ v ∈ vs, v.oneCell' = true) (hn : n ≤ 1000000) (hi : i < n) (hroom : n + 1 ≤ c) (hnv : ¬ S vb) :
    Calls Try.prog 85 #[.slice A n c, .int .i64 i, .slice (some ⟨vb, 0, none⟩) 1 1] w fun e w' => ∃ A' c', e = .returned (.slice A' (n + 1) c') ∧ Row w' (Plus S w.heap.size) 139 5 A' (n + 1) c' (xs.take (i * 5) ++ vs ++ xs.drop (i * 5)) ∧ Chg S w w' := by
  obtain ⟨i0, hi0, hz0, hz1, hz2⟩ := info_parts insEntItem_info
  have hcap := hr.cap
  unfold maxLen at hcap
  obtain ⟨g0, hA, _⟩ := hr.at_ (by omega)
  obtain ⟨g, cur, e0, hS, hb, hnc, hcm, hcs, ht⟩ := hr.block hA
  injection e0 with e0
  subst e0
  subst hA
  have hlen := hr.len
  have hne : vb ≠ g0 := fun e => hnv (e ▸ hS)
  have hsz : (Try.prog.info? 139).map (·.size) = some 5 := by rw [hi0]; simp [hz1]
  have hso : ∀ w, (sizeOf 139).run Try.prog w = .ok 5 w := fun w => by simp [sizeOf, typeInfo, hi0, hz1]
  have hov : ∀ lb cb, (callFunc 101 #[.slice (some ⟨vb, 0, none⟩) 1 1, .slice (some ⟨g0, (i + 1) * 5, none⟩) lb cb]).run Try.prog w = .ok (.value (.bool false)) w := fun lb cb => by
    rw [run_callFunc_extern Try.func101 (by kernel_rfl) (by kernel_rfl) (by kernel_rfl) (e := Extern.SlicesOverlaps.overlaps #[134, 134] #[4]) (by kernel_rfl),
      Lib.run_overlaps_apart w 134 4 139 Try.underlying134 5 hso ⟨vb, 0, none⟩ ⟨g0, (i + 1) * 5, none⟩ 1 1 lb cb hne 139 139 5 cur.size (by simp only [World.shape?]; rw [show w.heap[vb]? = some _ from hvs]; simp [hl]) (by simp only [World.shape?]; rw [show w.heap[g0]? = some _ from hb]) (by omega) (hvs.frozen _) (hvs.frozen _)]
    rfl
  have hdl : (xs.drop (i * 5)).length = (n - i) * 5 := by rw [List.length_drop, hlen, Nat.sub_mul]
  have hcell : ∀ j u, xs[j]? = some u → w.cell? ⟨g0, j, none⟩ = some u := by
    intro j u hu
    rw [hb.cell]
    rw [← ht, List.getElem?_take] at hu
    split at hu
    · simpa using hu
    · cases hu
  obtain ⟨c1, hc1⟩ : ∃ c1, c1 = cur.toList.take ((i + 1) * 5) ++ xs.drop (i * 5) ++ cur.toList.drop ((i + 1) * 5 + (xs.drop (i * 5)).length) := ⟨_, rfl⟩
  have hc1l : c1.length = cur.size := by rw [hc1]; simp only [List.length_append, List.length_take, List.length_drop, Array.length_toList, hlen]; omega
  obtain ⟨W1, hW1⟩ : ∃ W1, W1 = w.drew.setRow g0 c1.toArray := ⟨_, rfl⟩
  have hb1 : Blk W1 g0 139 c1.toArray := by rw [hW1]; exact hb.drew.setRow _
  have hv1 : Blk W1 vb 139 vs.toArray := by rw [hW1]; exact hvs.drew.setRow_far hne _
  have hcp1 : ∀ ty dc sc, (Builtin.copy_ #[134, 134] ty #[.slice (some ⟨g0, (i + 1) * 5, none⟩) (n - i) dc, .slice (some ⟨g0, i * 5, none⟩) (n + 1 - i) sc]).run Try.prog w.drew = .ok (goInt (Nat.min (n + 1 - i) (n - i) : Nat)) W1 := fun ty dc sc => by
    rw [hW1, hc1]
    exact run_copy_k w.drew 134 134 ty 139 5 g0 ((i + 1) * 5) (n - i) dc ⟨g0, i * 5, none⟩ (n + 1 - i) sc cur 139 (xs.drop (i * 5)) Try.underlying134 hsz hb.drew
      (by rw [hdl]; congr 1; show n - i = min (n + 1 - i) (n - i); omega) (fun j v hj => by rw [Addr.add_lit]; exact hcell _ v (by rwa [List.getElem?_drop] at hj)) (by rw [hdl, hcs]; omega) (fun v hv => h1x v (List.mem_of_mem_drop hv))
  obtain ⟨c2, hc2⟩ : ∃ c2, c2 = c1.take (i * 5) ++ vs ++ c1.drop (i * 5 + vs.length) := ⟨_, rfl⟩
  have hc2l : c2.length = cur.size := by rw [hc2]; simp only [List.length_append, List.length_take, List.length_drop, hc1l, hl]; omega
  have hcp2 : ∀ ty dc, (Builtin.copy_ #[134, 134] ty #[.slice (some ⟨g0, i * 5, none⟩) (n + 1 - i) dc, .slice (some ⟨vb, 0, none⟩) 1 1]).run Try.prog W1 = .ok (goInt (Nat.min 1 (n + 1 - i) : Nat)) (W1.setRow g0 c2.toArray) := fun ty dc => by
    have h := run_copy_k (P := Try.prog) W1 134 134 ty 139 5 g0 (i * 5) (n + 1 - i) dc ⟨vb, 0, none⟩ 1 1 c1.toArray 139 vs Try.underlying134 hsz hb1
      (by rw [hl, show Nat.min 1 (n + 1 - i) = 1 from (by omega : min 1 (n + 1 - i) = 1)]) (fun j v hj => by rw [Addr.add_lit, Nat.zero_add]; exact hv1.at_ j (by simpa using hj)) (by simp only [List.size_toArray]; omega) h1v
    rw [hc2]
    exact h
  have HW1 := hd hW1
  have FIN := hd (ins_list cur.toList xs vs i 5 n ht (by rw [Array.length_toList, hcs]; exact Nat.mul_le_mul_right _ hroom) (by omega) hl c1 c2 hc1 hc2)
  have HC2 := hd hc2l
  have HB1 := hd hb1
  have HR := hd hcs
  have HL := hd hlen
  have HV := hd hl
  have hw1 : IntKind.i64.wrap ((i : Int) + 1) = (i : Int) + 1 := by rw [IntKind.wrap_i64]; omega
  have hw2 : IntKind.i64.wrap ((n : Int) + 1) = (n : Int) + 1 := by rw [IntKind.wrap_i64]; omega
  have hb1' : (0 : Int) ≤ (i : Int) + 1 := by omega
  have htn : ((i : Int) + 1).toNat = i + 1 := by omega
  have htn2 : ((n : Int) + 1).toNat = n + 1 := by omega
  have hb2 : ¬ (c = i + 1) := by omega
  have hb3 : (i : Int) ≤ (n : Int) + 1 := by omega
  have hb4 : ¬ (c = i) := by omega
  have hz2' : ¬ ((i : Int) = (n : Int)) := by omega
  have hin : i ≤ n := by omega
  clear hr hW1 hc1 hc2 ht hcell hb1 hv1 hdl hb hvs hc1l hc2l hcs hlen hl h1x h1v
  go_enter Try.func85, Try.ntmps85
  go_wp2_with (simp only [hov])
  go_region_law (refine step_copy_k rfl _ _ 134 134 rfl _ _ (by simp [Act.eval, Act.put]) (by simp [Act.eval, Act.put]) (hcp1 _ _ _) ?_)
  go_wp2_with (at_builtin; refine wpList_copy_k _ rfl _ _ 134 134 rfl _ _ rfl rfl (hcp2 _ _) ?_)
  go_ret
  refine ⟨some ⟨g0, 0, none⟩, c, rfl, Row.of_block (HB1.o.setRow _) (.inl hS) (by omega) (by unfold maxLen; omega) ?_ ?_ ?_, ?_⟩
  · rw [List.size_toArray, HC2.o, HR.o]
  · exact FIN.o
  · simp only [List.length_append, List.length_take, List.length_drop]
    rw [HL.o, HV.o]; omega
  · rw [HW1.o]
    exact ((Chg.refl _ _).drew.setRow (.inl hS) _).setRow (.inl hS) _

set_option maxHeartbeats 4000000 in
set_option maxRecDepth 100000 in
/-- Ahead of others, where there is no room. -/
theorem insEntItem_grow (w : World) (S : Nat → Prop) (A : Option Addr) (n c i : Nat) (xs vs : List Value) (vb : Nat) (hr : Row w S 139 5 A n c xs) (hl : vs.length = 5) (h1x : ∀ u ∈ xs, u.oneCell' = true)
    (hvs : Blk w vb 139 vs.toArray) (h1v : ∀ v ∈ vs, v.oneCell' = true) (hn : n ≤ 1000000) (hi : i < n) (hroom : ¬ n + 1 ≤ c) :
    Calls Try.prog 85 #[.slice A n c, .int .i64 i, .slice (some ⟨vb, 0, none⟩) 1 1] w fun e w' => ∃ A' c', e = .returned (.slice A' (n + 1) c') ∧ Row w' (Plus S w.heap.size) 139 5 A' (n + 1) c' (xs.take (i * 5) ++ vs ++ xs.drop (i * 5)) ∧ Chg S w w' := by
  obtain ⟨i0, hi0, hz0, hz1, hz2⟩ := info_parts insEntItem_info
  have hcap := hr.cap
  unfold maxLen at hcap
  obtain ⟨g0, hA, _⟩ := hr.at_ (by omega)
  obtain ⟨g, cur, e0, hS, hb, hnc, hcm, hcs, ht⟩ := hr.block hA
  injection e0 with e0
  subst e0
  subst hA
  have hcn : c = n := by omega
  subst hcn
  have hlen := hr.len
  have hbw : g0 < w.heap.size := hb.lt
  have hvw : vb < w.heap.size := hvs.lt
  have hsz : (Try.prog.info? 139).map (·.size) = some 5 := by rw [hi0]; simp [hz1]
  have hdl : (xs.drop (i * 5)).length = (c - i) * 5 := by rw [List.length_drop, hlen, Nat.sub_mul]
  have htl : (xs.take (i * 5)).length = i * 5 := by rw [List.length_take, hlen]; omega
  have hcell : ∀ j u, xs[j]? = some u → w.cell? ⟨g0, j, none⟩ = some u := by
    intro j u hu
    rw [hb.cell]
    rw [← ht, List.getElem?_take] at hu
    split at hu
    · simpa using hu
    · cases hu
  have hold : (Builtin.firstCells i0.size i (.slice (some ⟨g0, 0, none⟩) i c)).run Try.prog w.drew = .ok (xs.take (i * 5)).toArray w.drew := by
    rw [hz1]
    exact run_firstCells_some w.drew 5 i ⟨g0, 0, none⟩ i c (xs.take (i * 5)) (by rw [htl, Nat.mul_comm]) (fun j v hj => by
      rw [Addr.add_lit, Nat.zero_add]
      rw [List.getElem?_take] at hj
      split at hj
      · exact hcell j v hj
      · cases hj)
  have hik : i + (c + 1 - i) = c + 1 := by omega
  have hkk : (c : Int) + 1 - (i : Int) = ((c + 1 - i : Nat) : Int) := by omega
  obtain ⟨G, hG⟩ : ∃ G, G = grownCap w (c + 1) c 139 := ⟨_, rfl⟩
  have hGn : c + 1 ≤ G := by rw [hG]; exact grownCap_ge w _ _ _
  have hGm : G ≤ maxLen := by rw [hG]; exact grownCap_le_maxLen w (c + 1) c 139 (by unfold maxLen; omega)
  obtain ⟨ROW, hROW⟩ : ∃ ROW : Array Value, ROW = (xs.take (i * 5)).toArray ++ Builtin.zeroCells (Value.agg #[Value.string ⟨#[]⟩, Value.string ⟨#[]⟩, Value.int IntKind.i64 0, Value.bool false, Value.string ⟨#[]⟩]).cells (c + 1 - i) ++ Builtin.zeroCells (Value.agg #[Value.string ⟨#[]⟩, Value.string ⟨#[]⟩, Value.int IntKind.i64 0, Value.bool false, Value.string ⟨#[]⟩]).cells (G - (c + 1)) := ⟨_, rfl⟩
  have hRl : ROW.size = G * 5 := by
    rw [hROW]
    simp only [Array.size_append, List.size_toArray, size_zeroCells, htl]
    rw [show (Value.agg #[Value.string ⟨#[]⟩, Value.string ⟨#[]⟩, Value.int IntKind.i64 0, Value.bool false, Value.string ⟨#[]⟩]).cells.size = 5 from rfl]
    omega
  have hRt : ROW.toList.take (i * 5) = xs.take (i * 5) := by
    rw [hROW]
    simp only [Array.toList_append, List.append_assoc]
    rw [List.take_append_of_le_length (by rw [htl]; exact Nat.le_refl _), List.take_take, Nat.min_self]
  have hrz : ∀ ty, (Builtin.append_ #[134, 3] ty #[.slice (some ⟨g0, 0, none⟩) i c, .int .i64 ((c : Int) + 1 - (i : Int))]).run Try.prog w = .ok (.slice (some ⟨w.heap.size, 0, none⟩) (c + 1) G) (w.drew.alloc (.cells ROW 139)) := fun ty => by
    have h := Lib.run_append_grow_zeros w 134 3 ty 139 i0 _ .i64 .i64 Try.underlying134 Try.underlying3 hi0 hz0 (some ⟨g0, 0, none⟩) i c (xs.take (i * 5)) hold (c + 1 - i) (by omega) (by omega) (by omega) (by omega) (by rw [hz2]; omega) (by rw [hz2, hik]; exact growslice_fits (by omega) (by omega))
    rw [hik] at h
    rw [hkk, hROW, hG]
    exact h
  obtain ⟨W1, hW1⟩ : ∃ W1, W1 = w.drew.alloc (.cells ROW 139) := ⟨_, rfl⟩
  obtain ⟨N, hN⟩ : ∃ N, N = w.heap.size := ⟨_, rfl⟩
  have hNb : Blk W1 N 139 ROW := by rw [hW1, hN]; exact Blk.new w.drew 139 ROW
  have hgb : Blk W1 g0 139 cur := by rw [hW1]; exact hb.drew.alloc _
  have hvb : Blk W1 vb 139 vs.toArray := by rw [hW1]; exact hvs.drew.alloc _
  rw [← hW1, ← hN] at hrz
  obtain ⟨c1, hc1⟩ : ∃ c1, c1 = ROW.toList.take (i * 5) ++ vs ++ ROW.toList.drop (i * 5 + vs.length) := ⟨_, rfl⟩
  have hc1l : c1.length = G * 5 := by rw [hc1]; simp only [List.length_append, List.length_take, List.length_drop, Array.length_toList, hRl, hl]; omega
  obtain ⟨W2, hW2⟩ : ∃ W2, W2 = W1.setRow N c1.toArray := ⟨_, rfl⟩
  have hcp1 : ∀ ty dc, (Builtin.copy_ #[134, 134] ty #[.slice (some ⟨N, i * 5, none⟩) (c + 1 - i) dc, .slice (some ⟨vb, 0, none⟩) 1 1]).run Try.prog W1 = .ok (goInt (Nat.min 1 (c + 1 - i) : Nat)) W2 := fun ty dc => by
    have h := run_copy_k (P := Try.prog) W1 134 134 ty 139 5 N (i * 5) (c + 1 - i) dc ⟨vb, 0, none⟩ 1 1 ROW 139 vs Try.underlying134 hsz hNb
      (by rw [hl, show Nat.min 1 (c + 1 - i) = 1 from (by omega : min 1 (c + 1 - i) = 1)]) (fun j v hj => by rw [Addr.add_lit, Nat.zero_add]; exact hvb.at_ j (by simpa using hj)) (by rw [hRl]; omega) h1v
    rw [hW2, hc1]
    exact h
  have hNb2 : Blk W2 N 139 c1.toArray := by rw [hW2]; exact hNb.setRow _
  have hgb2 : Blk W2.drew g0 139 cur := by rw [hW2]; exact (hgb.setRow_far (by omega) _).drew
  obtain ⟨c2, hc2⟩ : ∃ c2, c2 = c1.take ((i + 1) * 5) ++ xs.drop (i * 5) ++ c1.drop ((i + 1) * 5 + (xs.drop (i * 5)).length) := ⟨_, rfl⟩
  have hc2l : c2.length = G * 5 := by rw [hc2]; simp only [List.length_append, List.length_take, List.length_drop, hc1l, hlen]; omega
  obtain ⟨W3, hW3⟩ : ∃ W3, W3 = W2.drew.setRow N c2.toArray := ⟨_, rfl⟩
  have hcp2 : ∀ ty dc sc, (Builtin.copy_ #[134, 134] ty #[.slice (some ⟨N, (i + 1) * 5, none⟩) (c - i) dc, .slice (some ⟨g0, i * 5, none⟩) (c - i) sc]).run Try.prog W2.drew = .ok (goInt (Nat.min (c - i) (c - i) : Nat)) W3 := fun ty dc sc => by
    have h := run_copy_k (P := Try.prog) W2.drew 134 134 ty 139 5 N ((i + 1) * 5) (c - i) dc ⟨g0, i * 5, none⟩ (c - i) sc c1.toArray 139 (xs.drop (i * 5)) Try.underlying134 hsz hNb2.drew
      (by rw [hdl]; congr 1; show c - i = min (c - i) (c - i); omega) (fun j v hj => by
        rw [Addr.add_lit]
        have := (hb.cell (i * 5 + j)).symm.trans (hcell _ v (by rwa [List.getElem?_drop] at hj))
        exact (hgb2.cell _).trans this) (by rw [List.size_toArray, hdl, hc1l]; omega) (fun v hv => h1x v (List.mem_of_mem_drop hv))
    rw [hW3, hc2]
    exact h
  have FIN := hd (ins_list2 ROW.toList xs vs i 5 c hRt hlen (by rw [Array.length_toList, hRl]; exact Nat.mul_le_mul_right _ hGn) (by omega) hl c1 c2 hc1 hc2)
  have HB3 : Hd (Blk W3 N 139 c2.toArray) := hd (by rw [hW3]; exact hNb2.drew.setRow _)
  have HC3 : Hd (Chg S w W3) := hd (by
    rw [hW3, hW2, hW1]
    exact (((Chg.refl S w).drew.alloc _).setRow (.inr (by rw [hN]; exact Nat.le_refl _)) _).drew.setRow (.inr (by rw [hN]; exact Nat.le_refl _)) _)
  have HSN : Hd (Plus S w.heap.size N) := hd (.inr (by rw [hN]; exact Nat.le_refl _))
  have HC2 := hd hc2l
  have HL := hd hlen
  have HV := hd hl
  have hG63 : G ≤ 9223372036854775807 := by unfold maxLen at hGm; omega
  have hw1 : IntKind.i64.wrap ((i : Int) + 1) = (i : Int) + 1 := by rw [IntKind.wrap_i64]; omega
  have hw2 : IntKind.i64.wrap ((c : Int) + 1) = (c : Int) + 1 := by rw [IntKind.wrap_i64]; omega
  have hw3 : IntKind.i64.wrap ((c : Int) + 1 - (i : Int)) = (c : Int) + 1 - (i : Int) := by rw [IntKind.wrap_i64]; omega
  have hb1' : (0 : Int) ≤ (i : Int) + 1 := by omega
  have htn : ((i : Int) + 1).toNat = i + 1 := by omega
  have hGi : ¬ (G = i) := by omega
  have hGim : ¬ (G = i + 1) := by omega
  have hci : ¬ (c = i) := by omega
  have hz2' : ¬ ((i : Int) = (c : Int)) := by omega
  have hz3 : (c : Int) < (c : Int) + 1 := by omega
  have hin : i ≤ c := by omega
  have hb3 : (i : Int) ≤ (c : Int) := by omega
  clear hr hW1 hW2 hW3 hc1 hc2 ht hcell hNb hNb2 hgb hgb2 hvb hdl htl hb hvs hc1l hc2l hcs hlen hl h1x h1v hROW hRl hRt hold hkk hik hN hG hroom hcap hcm
  go_enter Try.func85, Try.ntmps85
  go_wp2_with (first
    | (at_builtin; refine Lib.wpList_append_run _ rfl _ _ _ _ rfl _ _ rfl rfl _ _ (hrz _) ?_)
    | (at_builtin; refine wpList_copy_k _ rfl _ _ 134 134 rfl _ _ rfl rfl (hcp1 _ _) ?_))
  go_region_law (refine step_copy_k rfl _ _ 134 134 rfl _ _ (by simp [Act.eval, Act.put]) (by simp [Act.eval, Act.put]) (hcp2 _ _ _) ?_)
  go_wp2
  go_ret
  refine ⟨some ⟨N, 0, none⟩, G, rfl, Row.of_block HB3.o HSN.o hGn hGm ?_ FIN.o ?_, HC3.o⟩
  · rw [List.size_toArray, HC2.o]
  · simp only [List.length_append, List.length_take, List.length_drop]
    rw [HL.o, HV.o]; omega

/-- Put in at place i. -/
theorem insEntItem_calls (w : World) (S : Nat → Prop) (A : Option Addr) (n c i : Nat) (xs vs : List Value) (vb : Nat) (hr : Row w S 139 5 A n c xs) (hl : vs.length = 5) (h1x : ∀ u ∈ xs, u.oneCell' = true)
    (hvs : Blk w vb 139 vs.toArray) (h1v : ∀ v ∈ vs, v.oneCell' = true) (hn : n ≤ 1000000) (hi : i ≤ n) (hnv : ¬ S vb) :
    Calls Try.prog 85 #[.slice A n c, .int .i64 i, .slice (some ⟨vb, 0, none⟩) 1 1] w fun e w' => ∃ A' c', e = .returned (.slice A' (n + 1) c') ∧ Row w' (Plus S w.heap.size) 139 5 A' (n + 1) c' (xs.take (i * 5) ++ vs ++ xs.drop (i * 5)) ∧ Chg S w w' := by
  by_cases hin : i < n
  · by_cases hroom : n + 1 ≤ c
    · exact insEntItem_room w S A n c i xs vs vb hr hl h1x hvs h1v hn hin hroom hnv
    · exact insEntItem_grow w S A n c i xs vs vb hr hl h1x hvs h1v hn hin hroom
  · obtain rfl : i = n := by omega
    rw [List.take_of_length_le (by rw [hr.len]; exact Nat.le_refl _), List.drop_of_length_le (by rw [hr.len]; exact Nat.le_refl _), List.append_nil]
    exact insEntItem_end w S A i c xs vs vb hr hl (fun j v hj => hvs.at_ j (by simpa using hj)) h1v hn

end Go.Proofs.Ytbeckfnhgeclnaa
