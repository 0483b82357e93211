/-
  Fields: the reference's line.
-/
import Derived.Test.YtpejlcaoggedfaaDoorFldN
set_option linter.unusedVariables false
set_option linter.unusedSimpArgs false
namespace Go.Proofs.YtpejlcaoggedfaaDoor
open Go.RowKit

theorem wpAnyH_mono {P : Program} {md : Region.Mode} {ops : Array Oper} {Q : Exit → Act → World → Prop} {S S' : World → Prop} (h : ∀ w, S' w → S w) :
    ∀ (fuel : Nat) (listed : Array Bool) (a : Act) (w : World), wpAnyH P md ops Q S' fuel listed a w → wpAnyH P md ops Q S fuel listed a w
  | 0, _, _, _, k => k
  | fuel + 1, _, _, _, k => ⟨k.1, fun i hi => wpOp_mono (fun a' w' k' => ⟨h _ k'.1, wpAnyH_mono h fuel _ a' w' k'.2⟩) (k.2 i hi)⟩
theorem cell_new_old {w : World} {a : Addr} {v : Value} {o : Obj} (h : w.cell? a = some v) : (w.alloc o).cell? a = some v := by
  rw [((Below.refl w.heap.size w).alloc (Nat.le_refl _) o).cell (block_lt_of_cell h)]; exact h

theorem balloc {w w' : World} {o : Obj} (h : Below w.heap.size w w') : Below w.heap.size w (w'.alloc o) := h.alloc h.size o

set_option maxRecDepth 100000 in
set_option maxHeartbeats 4000000 in
theorem rfline_calls (f : Fld) (hs : f.v.length ≤ 1000000) (w : World) : Calls Tryd.prog 15 #[fldV f] w fun e w' => e = .returned (.string (bs (lineF f))) ∧ Below w.heap.size w w' := by
  have C1 := hd (fun W => rfmay_calls f hs W)
  obtain ⟨L, hL⟩ : ∃ L, lineF f = L := ⟨_, rfl⟩
  rw [hL]
  have hR := raw_sum f.k f.l f.v
  have hl1 := kindL_len f.k
  have hl2 := labL_len f.l
  rw [← bs_size] at hl1 hl2
  have hz3 : (bs f.v).size ≤ 1000000 := by rw [bs_size]; exact hs
  have HB0 := hd ((Below.refl w.heap.size w).alloc (Nat.le_refl _) (.cells #[.int .i64 f.k, .int .i64 f.l, .string (bs f.v)] 23))
  have HK := hd (Blk.new w 23 #[.int .i64 f.k, .int .i64 f.l, .string (bs f.v)])
  by_cases hm : MayF f
  · rw [mayF_t hm] at C1
    have hok := may_ok hm
    rw [line_yes hm] at hL
    have HL := hd hL
    obtain ⟨k, l, v⟩ := f
    simp only [fldV] at C1
    change Calls _ _ #[.agg #[.int .i64 k, .int .i64 l, .string (bs v)]] _ _
    simp only at hR hl1 hl2 hz3 HB0 HK hok
    have hok' : 1 ≤ k ∧ k ≤ 6 ∧ 0 ≤ l ∧ l ≤ 3 := by unfold okKL at hok; omega
    obtain ⟨q, rfl, hq⟩ : ∃ q : Nat, k = q ∧ q < 7 := ⟨k.toNat, by omega, by omega⟩
    obtain ⟨r, rfl, hr⟩ : ∃ r : Nat, l = r ∧ r < 4 := ⟨l.toNat, by omega, by omega⟩
    have HQ := hd (words_at q hq)
    have HP := hd (labels_at r hr)
    obtain ⟨K, hK⟩ : ∃ K, bs (kindL q) = K := ⟨_, rfl⟩
    obtain ⟨B, hB⟩ : ∃ B, bs (labL r) = B := ⟨_, rfl⟩
    obtain ⟨V, hV⟩ : ∃ V, bs v = V := ⟨_, rfl⟩
    rw [hK] at hl1 HQ
    rw [hB] at hl2 HP
    rw [hV] at C1 hz3 HB0 HK ⊢
    rw [hK, hB, hV] at hR
    have HR := hd hR
    have zs1 : (K ++ B).size = K.size + B.size := ByteArray.size_append
    have zs2 : (K ++ B ++ ⟨#[58]⟩).size = K.size + B.size + 1 := by rw [ByteArray.size_append, zs1]; rfl
    have q0 : (0 : Int) ≤ (q : Int) := by omega
    have q7 : (q : Int) < 7 := by omega
    have r0 : (0 : Int) ≤ (r : Int) := by omega
    have r4 : (r : Int) < 4 := by omega
    clear hK hB hV hR hL hm hok hs hok' hq hr
    go_enter Tryd.func15, Tryd.ntmps15
    go_wp2_with fail
    refine (C1.o _).mono ?_
    rintro e w1 ⟨rfl, hb1⟩
    have k1 := HK.o.below hb1 (by simp)
    have HB1 := hd (HB0.o.trans (hb1.mono HB0.o.size))
    have a0 := k1.at_ 0 rfl
    have a1 := k1.at_ 1 rfl
    have a2 := k1.at_ 2 rfl
    clear k1 hb1 HK HB0 C1
    go_wp2_with fail
    go_cut [2] from 3 to 3 (fun s2 wx => s2 = .string (K ++ B ++ ⟨#[58]⟩ ++ V) ∧ Below w1.heap.size w1 wx)
    case first =>
      have zz1 : ¬ 9223372036854775807 < K.size + B.size := by omega
      have zz2 : ¬ 9223372036854775807 < K.size + B.size + 1 := by omega
      have zz3 : ¬ 9223372036854775807 < K.size + B.size + 1 + V.size := by omega
      refine wp_region_held_drew (S := (fun w' : World => w'.cell? ⟨w.heap.size, 0, none⟩ = some (.int .i64 (q : Int)) ∧ w'.cell? ⟨w.heap.size, 1, none⟩ = some (.int .i64 (r : Int)) ∧ w'.cell? ⟨w.heap.size, 2, none⟩ = some (.string V))) (by kernel_rfl) ⟨a0, a1, a2⟩ (fun hHeld => ?_)
      refine wpAnyH_take (i := 1) (v := ?v1) rfl (by kernel_rfl) (by kernel_rfl) (by kernel_rfl) (fun _ _ _ h => h) (Or.inl ⟨by rfl, ?hy1⟩) (by assumption) ?rest1
      case hy1 => (intro w hSw; (try dsimp only at hSw); go_simp; (try with_reducible rfl))
      (try simp only [Act.put, List.setIfInBounds_toArray, List.set_cons_zero, List.set_cons_succ])
      refine wpAnyH_take (i := 2) (v := ?v2) rfl (by kernel_rfl) (by kernel_rfl) (by kernel_rfl) (fun _ _ _ h => h) (Or.inl ⟨by rfl, ?hy2⟩) (by assumption) ?rest2
      case hy2 => (intro w hSw; (try dsimp only at hSw); go_simp; (try with_reducible rfl))
      (try simp only [Act.put, List.setIfInBounds_toArray, List.set_cons_zero, List.set_cons_succ])
      refine wpAnyH_take (i := 6) (v := ?v6) rfl (by kernel_rfl) (by kernel_rfl) (by kernel_rfl) (fun _ _ _ h => h) (Or.inl ⟨by rfl, ?hy6⟩) (by assumption) ?rest6
      case hy6 => (intro w hSw; (try dsimp only at hSw); go_simp; (try with_reducible rfl))
      (try simp only [Act.put, List.setIfInBounds_toArray, List.set_cons_zero, List.set_cons_succ])
      refine wpAnyH_take (i := 7) (v := ?v7) rfl (by kernel_rfl) (by kernel_rfl) (by kernel_rfl) (fun _ _ _ h => h) (Or.inl ⟨by rfl, ?hy7⟩) (by assumption) ?rest7
      case hy7 => (intro w hSw; (try dsimp only at hSw); go_simp; (try with_reducible rfl))
      (try simp only [Act.put, List.setIfInBounds_toArray, List.set_cons_zero, List.set_cons_succ])
      refine wpAnyH_take (i := 12) (v := ?v12) rfl (by kernel_rfl) (by kernel_rfl) (by kernel_rfl) (fun _ _ _ h => h) (Or.inl ⟨by rfl, ?hy12⟩) (by assumption) ?rest12
      case hy12 => (intro w hSw; (try dsimp only at hSw); go_simp; (try with_reducible rfl))
      (try simp only [Act.put, List.setIfInBounds_toArray, List.set_cons_zero, List.set_cons_succ])
      refine wpAnyH_take (i := 13) (v := ?v13) rfl (by kernel_rfl) (by kernel_rfl) (by kernel_rfl) (fun _ _ _ h => h) (Or.inl ⟨by rfl, ?hy13⟩) (by assumption) ?rest13
      case hy13 => (intro w hSw; (try dsimp only at hSw); go_simp; (try with_reducible rfl))
      (try simp only [Act.put, List.setIfInBounds_toArray, List.set_cons_zero, List.set_cons_succ])
      refine wpAnyH_ready (rs := [0]) (by kernel_rfl) (by simp) ?_
      refine AllReadyH.cons rfl (fun K hK => ?_) AllReadyH.nil
      go_simp
      go_at_call 32
      refine (words_calls _).mono ?_
      rintro e w' ⟨rfl, rfl⟩
      go_wp2_with fail
      refine hK.out _ _ ⟨cell_new_old a0, cell_new_old a1, cell_new_old a2⟩ (fun hHeld => ?_)
      clear hK K
      (try simp only [Act.put, List.setIfInBounds_toArray, List.set_cons_zero, List.set_cons_succ])
      clear hHeld
      refine wpAnyH_mono (S' := fun w' => (fun w' : World => w'.cell? ⟨w.heap.size, 0, none⟩ = some (.int .i64 (q : Int)) ∧ w'.cell? ⟨w.heap.size, 1, none⟩ = some (.int .i64 (r : Int)) ∧ w'.cell? ⟨w.heap.size, 2, none⟩ = some (.string V)) w' ∧ (fun w' : World => w'.cell? ⟨w1.heap.size, q, none⟩ = some (.string K)) w') (fun _ h => h.1) _ _ _ _ ?_
      have hHeld : (fun w' => (fun w' : World => w'.cell? ⟨w.heap.size, 0, none⟩ = some (.int .i64 (q : Int)) ∧ w'.cell? ⟨w.heap.size, 1, none⟩ = some (.int .i64 (r : Int)) ∧ w'.cell? ⟨w.heap.size, 2, none⟩ = some (.string V)) w' ∧ (fun w' : World => w'.cell? ⟨w1.heap.size, q, none⟩ = some (.string K)) w') (w1.alloc (.cells wordsC 9)).drew := ⟨⟨cell_new_old a0, cell_new_old a1, cell_new_old a2⟩, (Blk.new w1 9 wordsC).at_ q HQ.o⟩
      refine wpAnyH_take (i := 3) (v := ?v3) rfl (by kernel_rfl) (by kernel_rfl) (by kernel_rfl) (fun _ _ _ h => h) (Or.inl ⟨by rfl, ?hy3⟩) (by assumption) ?rest3
      case hy3 => (intro w hSw; (try dsimp only at hSw); go_simp; (try with_reducible rfl))
      (try simp only [Act.put, List.setIfInBounds_toArray, List.set_cons_zero, List.set_cons_succ])
      refine wpAnyH_take (i := 4) (v := ?v4) rfl (by kernel_rfl) (by kernel_rfl) (by kernel_rfl) (fun _ _ _ h => h) (Or.inl ⟨by rfl, ?hy4⟩) (by assumption) ?rest4
      case hy4 => (intro w hSw; (try dsimp only at hSw); go_simp; (try with_reducible rfl))
      (try simp only [Act.put, List.setIfInBounds_toArray, List.set_cons_zero, List.set_cons_succ])
      refine wpAnyH_ready (rs := [5]) (by kernel_rfl) (by simp) ?_
      refine AllReadyH.cons rfl (fun K hK => ?_) AllReadyH.nil
      go_simp
      go_at_call 33
      refine (labels_calls _).mono ?_
      rintro e w' ⟨rfl, rfl⟩
      go_wp2_with fail
      refine hK.out _ _ ⟨⟨cell_new_old (cell_new_old a0), cell_new_old (cell_new_old a1), cell_new_old (cell_new_old a2)⟩, ((Blk.new w1 9 wordsC).alloc _).at_ q HQ.o⟩ (fun hHeld => ?_)
      clear hK K
      (try simp only [Act.put, List.setIfInBounds_toArray, List.set_cons_zero, List.set_cons_succ])
      clear hHeld
      refine wpAnyH_mono (S' := fun w' => ((fun w' : World => w'.cell? ⟨w.heap.size, 0, none⟩ = some (.int .i64 (q : Int)) ∧ w'.cell? ⟨w.heap.size, 1, none⟩ = some (.int .i64 (r : Int)) ∧ w'.cell? ⟨w.heap.size, 2, none⟩ = some (.string V)) w' ∧ (fun w' : World => w'.cell? ⟨w1.heap.size, q, none⟩ = some (.string K)) w') ∧ (fun w' : World => w'.cell? ⟨w1.heap.size + 1, r, none⟩ = some (.string B)) w') (fun _ h => h.1) _ _ _ _ ?_
      have hHeld : (fun w' => ((fun w' : World => w'.cell? ⟨w.heap.size, 0, none⟩ = some (.int .i64 (q : Int)) ∧ w'.cell? ⟨w.heap.size, 1, none⟩ = some (.int .i64 (r : Int)) ∧ w'.cell? ⟨w.heap.size, 2, none⟩ = some (.string V)) w' ∧ (fun w' : World => w'.cell? ⟨w1.heap.size, q, none⟩ = some (.string K)) w') ∧ (fun w' : World => w'.cell? ⟨w1.heap.size + 1, r, none⟩ = some (.string B)) w') ((w1.alloc (.cells wordsC 9)).alloc (.cells labelsC 9)).drew := ⟨⟨⟨cell_new_old (cell_new_old a0), cell_new_old (cell_new_old a1), cell_new_old (cell_new_old a2)⟩, ((Blk.new w1 9 wordsC).alloc _).at_ q HQ.o⟩, (Blk.new_ (w1.alloc (.cells wordsC 9)) (w1.heap.size + 1) (by simp) 9 labelsC).at_ r HP.o⟩
      refine wpAnyH_take (i := 8) (v := ?v8) rfl (by kernel_rfl) (by kernel_rfl) (by kernel_rfl) (fun _ _ _ h => h) (Or.inl ⟨by rfl, ?hy8⟩) (by assumption) ?rest8
      case hy8 => (intro w hSw; (try dsimp only at hSw); go_simp; (try with_reducible rfl))
      (try simp only [Act.put, List.setIfInBounds_toArray, List.set_cons_zero, List.set_cons_succ])
      refine wpAnyH_take (i := 9) (v := ?v9) rfl (by kernel_rfl) (by kernel_rfl) (by kernel_rfl) (fun _ _ _ h => h) (Or.inl ⟨by rfl, ?hy9⟩) (by assumption) ?rest9
      case hy9 => (intro w hSw; (try dsimp only at hSw); go_simp; (try with_reducible rfl))
      (try simp only [Act.put, List.setIfInBounds_toArray, List.set_cons_zero, List.set_cons_succ])
      refine wpAnyH_take (i := 10) (v := ?v10) rfl (by kernel_rfl) (by kernel_rfl) (by kernel_rfl) (fun _ _ _ h => h) (Or.inl ⟨by rfl, ?hy10⟩) (by assumption) ?rest10
      case hy10 => (intro w hSw; (try dsimp only at hSw); go_simp; (try with_reducible rfl))
      (try simp only [Act.put, List.setIfInBounds_toArray, List.set_cons_zero, List.set_cons_succ])
      refine wpAnyH_take (i := 11) (v := ?v11) rfl (by kernel_rfl) (by kernel_rfl) (by kernel_rfl) (fun _ _ _ h => h) (Or.inl ⟨by rfl, ?hy11⟩) (by assumption) ?rest11
      case hy11 => (intro w hSw; (try dsimp only at hSw); go_simp; (try with_reducible rfl))
      (try simp only [Act.put, List.setIfInBounds_toArray, List.set_cons_zero, List.set_cons_succ])
      refine wpAnyH_take (i := 14) (v := ?v14) rfl (by kernel_rfl) (by kernel_rfl) (by kernel_rfl) (fun _ _ _ h => h) (Or.inl ⟨by rfl, ?hy14⟩) (by assumption) ?rest14
      case hy14 => (intro w hSw; (try dsimp only at hSw); go_simp; (try with_reducible rfl))
      (try simp only [Act.put, List.setIfInBounds_toArray, List.set_cons_zero, List.set_cons_succ])
      refine wpAnyH_take (i := 15) (v := ?v15) rfl (by kernel_rfl) (by kernel_rfl) (by kernel_rfl) (fun _ _ _ h => h) (Or.inl ⟨by rfl, ?hy15⟩) (by assumption) ?rest15
      case hy15 => (intro w hSw; (try dsimp only at hSw); go_simp; (try with_reducible rfl))
      (try simp only [Act.put, List.setIfInBounds_toArray, List.set_cons_zero, List.set_cons_succ])
      refine wpAnyH_done (by kernel_rfl) ?_ _
      all_goals
        go_wp2_with fail
        go_meet
        refine ⟨rfl, ?_⟩
        repeat (first | exact Below.refl _ _ | apply bdrew | apply balloc)
    case rest =>
      obtain ⟨rfl, hb⟩ := hcut
      go_wp2
      go_ret
      exact ⟨retS (HR.o.trans (by rw [← HL.o])), HB1.o.trans (hb.mono HB1.o.size)⟩
  · rw [mayF_f hm] at C1
    rw [line_no hm] at hL
    have HL := hd hL
    obtain ⟨k, l, v⟩ := f
    simp only [fldV] at C1
    change Calls _ _ #[.agg #[.int .i64 k, .int .i64 l, .string (bs v)]] _ _
    simp only at HB0 HK
    clear hL hm hs hR hl1 hl2 hz3
    go_enter Tryd.func15, Tryd.ntmps15
    go_wp2_with fail
    refine (C1.o _).mono ?_
    rintro e w1 ⟨rfl, hb1⟩
    have HB1 := hd (HB0.o.trans (hb1.mono HB0.o.size))
    clear hb1 HK HB0 C1
    go_wp2
    go_ret
    exact ⟨retS (by rw [← HL.o]; rfl), HB1.o⟩

end Go.Proofs.YtpejlcaoggedfaaDoor
