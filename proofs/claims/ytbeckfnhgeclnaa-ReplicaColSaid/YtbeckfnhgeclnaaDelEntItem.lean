/-
  slices.Delete(s, i, i+1) at elements of 5 cells (EntItem): the element at i is gone, the row is the same block.
-/
import Derived.Test.YtbeckfnhgeclnaaRowLaw
import Derived.Test.YtbeckfnhgeclnaaProg
set_option linter.unusedVariables false
set_option linter.unusedSimpArgs false
namespace Go.Proofs.Ytbeckfnhgeclnaa
open Go.RowKit

theorem delEntItem_info : (Try.prog.info? 139).map (fun i => (i.zero, i.size, i.bytes)) = some (some (.agg #[Value.string ⟨#[]⟩, Value.string ⟨#[]⟩, Value.int IntKind.i64 0, Value.bool false, Value.string ⟨#[]⟩]), 5, 64) := by kernel_rfl
theorem delEntItem_zero (w : World) : (zeroValue 139).run Try.prog w = .ok (.agg #[Value.string ⟨#[]⟩, Value.string ⟨#[]⟩, Value.int IntKind.i64 0, Value.bool false, Value.string ⟨#[]⟩]) w := by kernel_rfl

set_option maxHeartbeats 1600000 in
set_option maxRecDepth 100000 in
theorem delEntItem_calls (w : World) (S : Nat → Prop) (A : Option Addr) (n c i : Nat) (xs : List Value) (hr : Row w S 139 5 A n c xs) (h1 : ∀ u ∈ xs, u.oneCell' = true) (hi : i < n) :
    Calls Try.prog 84 #[.slice A n c, .int .i64 i, .int .i64 ((i : Int) + 1)] w fun e w' => e = .returned (.slice A (n - 1) c) ∧ Row w' S 139 5 A (n - 1) c (xs.take (i * 5) ++ xs.drop ((i + 1) * 5)) ∧ Chg S w w' := by
  obtain ⟨i0, hi0, hz0, hz1, hz2⟩ := info_parts delEntItem_info
  have hlen := hr.len
  obtain ⟨g0, hA, _⟩ := hr.at_ (by omega)
  obtain ⟨g, cur, e0, hS, hb, hnc, hcm, hcs, ht⟩ := hr.block hA
  injection e0 with e0
  subst e0
  subst hA
  unfold maxLen at hcm
  obtain ⟨news, hnews⟩ : ∃ news, news = xs.drop ((i + 1) * 5) := ⟨_, rfl⟩
  have hnl : news.length = (n - (i + 1)) * 5 := by rw [hnews, List.length_drop, hlen, Nat.sub_mul]
  have hcell : ∀ j u, xs[j]? = some u → w.cell? ⟨g0, j, none⟩ = some u := by
    intro j u hu
    rw [hb.cell]
    rw [← ht, List.getElem?_take] at hu
    split at hu
    · simpa using hu
    · cases hu
  obtain ⟨A1, hA1, hsrc⟩ : ∃ A1 : Addr, (if c = i + 1 then some (⟨g0, 0, none⟩ : Addr) else some ⟨g0, (i + 1) * 5, none⟩) = some A1 ∧ Hd (∀ j u, news[j]? = some u → w.drew.cell? (A1.add j) = some u) := by
    by_cases h : c = i + 1
    · refine ⟨⟨g0, 0, none⟩, by simp [h], fun j u hu => ?_⟩
      have h0 : news.length = 0 := by rw [hnl]; have : n - (i + 1) = 0 := by omega
                                      rw [this, Nat.zero_mul]
      rw [List.length_eq_zero_iff.1 h0] at hu
      simp at hu
    · refine ⟨⟨g0, (i + 1) * 5, none⟩, by simp [h], fun j u hu => ?_⟩
      rw [hnews, List.getElem?_drop] at hu
      rw [Addr.add_lit]
      exact hcell _ _ hu
  have s1 : Hd (news.length = (n - (i + 1)) * 5) := hnl
  have s2 : Hd (∀ u ∈ news, u.oneCell' = true) := fun u hu => h1 u (List.mem_of_mem_drop (hnews ▸ hu))
  obtain ⟨cur1, hcur1⟩ : ∃ cur1, cur1 = (cur.toList.take (i * 5) ++ news ++ cur.toList.drop (i * 5 + news.length)).toArray := ⟨_, rfl⟩
  have s3 : Hd (i * 5 + news.length ≤ cur.size) := by unfold Hd; rw [hnl, hcs]; omega
  have hbd : Hd (Blk w.drew g0 139 cur) := hb.drew
  obtain ⟨W1, hW1⟩ : ∃ W1, W1 = w.drew.setRow g0 cur1 := ⟨_, rfl⟩
  have hb1 : Blk W1 g0 139 cur1 := by rw [hW1]; exact hb.drew.setRow _
  have hs1 : cur1.size = cur.size := by
    rw [hcur1]; simp only [List.size_toArray, List.length_append, List.length_take, List.length_drop, Array.length_toList]
    have := s3.o; omega
  have hcl : ∀ ty, (Builtin.clear_ #[134] ty #[.slice (some ⟨g0, (i + (n - (i + 1))) * 5, none⟩) (n - (i + (n - (i + 1)))) (c - (i + (n - (i + 1))))]).run Try.prog W1 = .ok (.tuple #[]) (W1.setRow g0 (cur1.toList.take ((i + (n - (i + 1))) * 5) ++ [Value.string ⟨#[]⟩, Value.string ⟨#[]⟩, Value.int IntKind.i64 0, Value.bool false, Value.string ⟨#[]⟩] ++ cur1.toList.drop ((i + (n - (i + 1))) * 5 + 5)).toArray) := by
    intro ty
    have e1 : n - (i + (n - (i + 1))) = 1 := by omega
    rw [e1]
    have hz1 : ∀ v ∈ ([Value.string ⟨#[]⟩, Value.string ⟨#[]⟩, Value.int IntKind.i64 0, Value.bool false, Value.string ⟨#[]⟩] : List Value), v.oneCell' = true := by decide
    have hfit : (i + (n - (i + 1))) * 5 + ([Value.string ⟨#[]⟩, Value.string ⟨#[]⟩, Value.int IntKind.i64 0, Value.bool false, Value.string ⟨#[]⟩] : List Value).length ≤ cur1.size := by rw [hs1, hcs]; simp only [List.length_cons, List.length_nil]; omega
    exact run_clear_one W1 134 139 ty (.agg #[Value.string ⟨#[]⟩, Value.string ⟨#[]⟩, Value.int IntKind.i64 0, Value.bool false, Value.string ⟨#[]⟩]) [Value.string ⟨#[]⟩, Value.string ⟨#[]⟩, Value.int IntKind.i64 0, Value.bool false, Value.string ⟨#[]⟩] Try.underlying134 delEntItem_zero rfl (by decide) hz1 g0 _ _ cur1 hb1 hfit
  have X := hd hW1
  have Y := hd hcur1
  have hic : i ≤ c := by omega
  have hwr : IntKind.i64.wrap ((i : Int) + 1) = (i : Int) + 1 := by rw [IntKind.wrap_i64]; omega
  have hp0 : (0 : Int) ≤ (i : Int) + 1 := by omega
  have hp1 : (i : Int) + 1 ≤ (n : Int) := by omega
  have hp2 : ((i : Int) + 1).toNat = i + 1 := by omega
  have hp3 : ((i : Int) == (i : Int) + 1) = false := by simp; omega
  have Z := hd hb1
  have hnn := hd hnews
  clear hW1 hcur1 hb1 hnews hnl hcell hb h1 hr
  have HT := hd ht
  have HL := hd hlen
  have HS := hd hs1
  have HC := hd hcs
  clear ht hlen hs1 hcs
  go_enter Try.func84, Try.ntmps84
  go_wp2_with fail
  go_region_law (refine step_append_row rfl (.tmp 22) (.tmp 25) 134 rfl 139 i0 5 Try.underlying134 hi0 hz1 g0 i c cur hbd.o (by simp [Act.eval, Act.put]) A1 (n - (i + 1)) (c - (i + 1)) news (by simp [Act.eval, Act.put]) s1.o hsrc.o s2.o (by omega) s3.o ?_; rw [← Y.o, ← X.o])
  go_wp2
  go_ret
  have e1 : i + (n - (i + 1)) = n - 1 := by omega
  have hs1 := s1.o
  have hs3 := s3.o
  have hT := HT.o
  have hL := HL.o
  have hS1 := HS.o
  have hC := HC.o
  refine ⟨ret_val (a := .slice (some ⟨g0, 0, none⟩) (i + (n - (i + 1))) c) (by rw [e1]), ?_, ?_⟩
  · refine Row.of_block (Z.o.setRow _) hS (by omega) (by unfold maxLen; omega) ?_ ?_ ?_
    · simp only [List.size_toArray, List.length_append, List.length_take, List.length_drop, Array.length_toList, List.length_cons, List.length_nil]
      rw [hS1, hC]; omega
    · rw [e1, Y.o]
      have hd := del_list cur.toList xs news [Value.string ⟨#[]⟩, Value.string ⟨#[]⟩, Value.int IntKind.i64 0, Value.bool false, Value.string ⟨#[]⟩] (i * 5) 5 ((n - 1) * 5) (by rw [← hT]; congr 1; omega) (by rw [Array.length_toList, hC]; omega) (by omega) (by rw [hnn.o]; congr 1; omega)
      rw [show (i + 1) * 5 = i * 5 + 5 by omega]
      simp only [List.append_assoc, List.cons_append, List.nil_append, List.length_cons, List.length_nil, Nat.zero_add, Nat.reduceAdd] at hd ⊢
      exact hd
    · simp only [List.length_append, List.length_take, List.length_drop]
      rw [hL]; omega
  · rw [X.o]
    exact ((Chg.refl _ _).drew.setRow (.inl hS) _).setRow (.inl hS) _

end Go.Proofs.Ytbeckfnhgeclnaa
