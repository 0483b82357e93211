/-
  The reference's rise.
-/
import Derived.Test.YtbeckfnhgeclnaaRiseP
import Derived.Test.YtbeckfnhgeclnaaRColA
import Derived.BigRegion
set_option linter.unusedVariables false
set_option linter.unusedSimpArgs false
namespace Go.Proofs.Ytbeckfnhgeclnaa
open Go.RowKit Go.Lib

theorem row_setk4 {w : World} {S : Nat → Prop} {e size n c g : Nat} {xs : List Value} (h : Row w S e size (some ⟨g, 0, none⟩) n c xs) (j : Nat) (u : Value) : Row (w.setCell ⟨g, j, none⟩ u) S e size (some ⟨g, 0, none⟩) n c (xs.set j u) := by
  obtain ⟨g', cur, e1, hS, hB, hnc, hcm, hcs, ht⟩ := h.block rfl
  injection e1 with e1
  subst e1
  refine Row.of_block (hB.set_ j u) hS hnc hcm (by simp [hcs]) ?_ (by simpa using h.len)
  rw [← ht]
  simp [List.take_set]

set_option maxRecDepth 100000 in
set_option maxHeartbeats 4000000 in
theorem rise_calls (w : World) (S : Nat → Prop) (A : Option Addr) (n c : Nat) (l : List It) (hr : RowO w S 41 4 A n c (itsEnc l)) (hn : n = l.length) (hb : n ≤ 1000000) :
    Calls Try.prog 66 #[.slice A n c] w fun e w' => e = .returned (.slice A n c) ∧ ∃ l', SortedOf l l' ∧ RowO w' S 41 4 A n c (itsEnc l') ∧ Chg S w w' := by
  have HN := hd hn
  have HR := hd hr
  clear hn hr
  go_enter Try.func66, Try.ntmps66
  go_wp2_with fail
  go_loopw [3, 4] (fun i _ wr => ∃ (k : Nat) (L : List It), i = .int .i64 k ∧ 1 ≤ k ∧ Hd (Srt L k) ∧ Hd (L.Perm l) ∧ Hd (RowO wr S 41 4 A n c (itsEnc L)) ∧ Hd (Chg S w wr)) (fun i _ _ => n + 1 - (intOf i).toNat)
  case atStart => exact ⟨1, l, rfl, Nat.le_refl _, hd (srt_one _ _ (Nat.le_refl _)), hd (List.Perm.refl _), HR, hd (Chg.refl _ _)⟩
  case round =>
    obtain ⟨k, L, rfl, hk1, HS, HP, HRW, HC⟩ := hrel
    by_cases hlt : k < n
    · have hlti : (k : Int) < (n : Int) := by omega
      go_wp2_with fail
      go_loopw [4] (fun i wr => ∃ (j : Nat) (L : List It), i = .int .i64 j ∧ j ≤ k ∧ Hd (Inn L k j) ∧ Hd (L.Perm l) ∧ Hd (RowO wr S 41 4 A n c (itsEnc L)) ∧ Hd (Chg S w wr)) (fun i _ => (intOf i).toNat)
      case atStart => exact ⟨k, L, rfl, Nat.le_refl _, hd (inn_start HS.o), HP, HRW, HC⟩
      case round =>
        clear HRW HC HS HP
        obtain ⟨j, L, rfl, hjk, HI, HP, HRW, HC⟩ := hrel
        rcases j with _ | j
        · have HS2 := hd (inn_zero HI.o)
          go_wp2_with fail
          go_quiet (fail)
          go_wp2
          go_roundw
          case rel => exact ⟨k + 1, L, by go_num, by omega, HS2, HP, hd (HRW.o.drewN _), hd (HC.o.drewN _)⟩
          case measure => simp [intOf]; omega
        · have hLl : L.length = n := by rw [HP.o.length_eq, ← HN.o]
          have hj1 : j + 1 < L.length := by omega
          have HJ := hd hj1
          have hji : (0 : Int) ≤ (j : Int) := by omega
          have hjn : (j : Int) + 1 < (n : Int) := by omega
          have hjn2 : (j : Int) < (n : Int) := by omega
          obtain ⟨x, hx⟩ : ∃ x, L[j]'(by omega) = x := ⟨_, rfl⟩
          obtain ⟨y, hy⟩ : ∃ y, L[j + 1]'hj1 = y := ⟨_, rfl⟩
          have HX : Hd (L[j]'(Nat.lt_of_succ_lt HJ.o) = x) := hd hx
          have HY : Hd (L[j + 1]'HJ.o = y) := hd hy
          have hrow : Row wr S 41 4 A n c (itsEnc L) := by
            rcases HRW.o with h | ⟨h, _⟩
            · exact h
            · omega
          obtain ⟨g, rfl, hgS, hgl, hnc, hcm, hcl, hfz⟩ := hrow.at_ (by omega)
          have hcx : ∀ t u, t < 4 → (itEnc x)[t]? = some u → wr.cell? ⟨g, j * 4 + t, none⟩ = some u := fun t u ht hv => hcl _ _ ((flat_at itEnc 4 itEnc_len L j (by omega) t ht).trans (by rw [hx]; exact hv))
          have hcy : ∀ t u, t < 4 → (itEnc y)[t]? = some u → wr.cell? ⟨g, (j + 1) * 4 + t, none⟩ = some u := fun t u ht hv => hcl _ _ ((flat_at itEnc 4 itEnc_len L (j + 1) hj1 t ht).trans (by rw [hy]; exact hv))
          have HROW := hd hrow
          have HFZ := hd hfz
          have HLT : Hd (itLt y x = (decide (y.ver < x.ver) || (decide (y.ver = x.ver) && decide (compareBytes y.uid x.uid < 0)))) := hd rfl
          obtain ⟨xu, xv, xg, xc⟩ := x
          obtain ⟨yu, yv, yg, yc⟩ := y
          have x0 := hcx 0 _ (by omega) rfl
          have x1 := hcx 1 _ (by omega) rfl
          have x2 := hcx 2 _ (by omega) rfl
          have x3 := hcx 3 _ (by omega) rfl
          have y0 := hcy 0 _ (by omega) rfl
          have y1 := hcy 1 _ (by omega) rfl
          have y2 := hcy 2 _ (by omega) rfl
          have y3 := hcy 3 _ (by omega) rfl
          simp only [Nat.add_zero] at x0 y0
          have hle := rstr_less yu xu
          rw [geq_dec, Bool.not_not] at hle
          obtain ⟨tl, htl⟩ : ∃ t, itLt (⟨yu, yv, yg, yc⟩ : It) ⟨xu, xv, xg, xc⟩ = t := ⟨_, rfl⟩
          rw [htl] at HLT
          have HTL := hd htl
          clear hcx hcy hcl hfz hrow hx hy hj1 hLl htl
          go_wp2_with fail
          go_cut [55] from 12 to 55 (fun s55 wx => s55 = .bool tl ∧ Hd (∃ q, wx = wr.drewN q))
          case first =>
            have hjp : (0 : Int) < (j : Int) + 1 := by omega
            by_cases v1 : yv < xv
            · have f1 : decide (yv < xv) = true := by simpa using v1
              have HT : Hd (tl = true) := hd (by rw [HLT.o]; simp [v1])
              clear v1
              go_quiet (fail)
              go_wp2_with fail
              go_meet
              exact ⟨by rw [HT.o], hd ⟨_, rfl⟩⟩
            · have f1 : decide (yv < xv) = false := by simpa using v1
              by_cases v2 : yv = xv
              · have f2 : (yv == xv) = true := by simpa using v2
                obtain ⟨cb, hcb⟩ : ∃ b : Bool, decide (compareBytes yu xu < 0) = b := ⟨_, rfl⟩
                rw [hcb] at hle
                have HT : Hd (tl = cb) := hd (by rw [HLT.o, ← hcb]; simp [v1, v2])
                clear v1 v2 hcb
                go_quiet (fail)
                go_wp2_with fail
                go_meet
                exact ⟨by rw [HT.o], hd ⟨_, rfl⟩⟩
              · have f2 : (yv == xv) = false := by simpa using v2
                have HT : Hd (tl = false) := hd (by rw [HLT.o]; simp [v1, v2])
                clear v1 v2
                go_quiet (fail)
                go_wp2_with fail
                go_meet
                exact ⟨by rw [HT.o], hd ⟨_, rfl⟩⟩
          case rest =>
            obtain ⟨rfl, hq⟩ := hcut
            have HQ := hq
            clear hq hle
            cases tl with
            | false =>
              have HS2 := hd (inn_end HJ.o HI.o hjk (by rw [HX.o, HY.o]; exact HTL.o))
              have HW : Hd (RowO wc S 41 4 (some ⟨g, 0, none⟩) n c (itsEnc L) ∧ Chg S w wc) := hd (by obtain ⟨q, rfl⟩ := HQ.o; exact ⟨HRW.o.drewN q, HC.o.drewN q⟩)
              clear x0 x1 x2 x3 y0 y1 y2 y3
              go_wp2
              go_roundw
              case rel => exact ⟨k + 1, L, by go_num, by omega, HS2, HP, hd HW.o.1, hd HW.o.2⟩
              case measure => simp [intOf]; omega
            | true =>
              have HS2 := hd (inn_step HJ.o HI.o hjk (by rw [HX.o, HY.o]; exact HTL.o))
              have HP2 := hd ((swp_perm L j HJ.o).trans HP.o)
              have HEN := hd (swp_enc L j HJ.o _ _ HX.o HY.o)
              have HW : Hd (Row wc S 41 4 (some ⟨g, 0, none⟩) n c (itsEnc L) ∧ Chg S w wc) := hd (by obtain ⟨q, rfl⟩ := HQ.o; exact ⟨HROW.o.drewN q, HC.o.drewN q⟩)
              have hcells : ∀ p u, wr.cell? p = some u → wc.cell? p = some u := fun p u h => by obtain ⟨q, rfl⟩ := HQ.o; exact h
              have hfr : ∀ i, wc.frozen? ⟨g, i, none⟩ = false := fun i => by obtain ⟨q, rfl⟩ := HQ.o; exact HFZ.o i
              have x0 := hcells _ _ x0
              have x1 := hcells _ _ x1
              have x2 := hcells _ _ x2
              have x3 := hcells _ _ x3
              have y0 := hcells _ _ y0
              have y1 := hcells _ _ y1
              have y2 := hcells _ _ y2
              have y3 := hcells _ _ y3
              have fx0 := hfr (j * 4)
              have fx1 := hfr (j * 4 + 1)
              have fx2 := hfr (j * 4 + 2)
              have fx3 := hfr (j * 4 + 3)
              have fy0 := hfr ((j + 1) * 4)
              have fy1 := hfr ((j + 1) * 4 + 1)
              have fy2 := hfr ((j + 1) * 4 + 2)
              have fy3 := hfr ((j + 1) * 4 + 3)
              clear hcells hfr
              go_wp2_with fail
              go_region
              all_goals
                go_wp2
                go_roundw
                case rel =>
                  refine ⟨j, swp L j HJ.o, rfl, by omega, HS2, HP2, hd (.inl ?_), hd ?_⟩
                  · rw [HEN.o]
                    exact (row_setk4 (row_setk4 (row_setk4 (row_setk4 (row_setk4 (row_setk4 (row_setk4 (row_setk4 HW.o.1 _ _) _ _) _ _) _ _) _ _) _ _) _ _) _ _).drew
                  · have hof : ∀ i : Nat, S (Addr.block ⟨g, i, none⟩) ∨ w.heap.size ≤ (Addr.block ⟨g, i, none⟩) := fun i => .inl hgS
                    exact ((((((((HW.o.2.setCell (hof _) _).setCell (hof _) _).setCell (hof _) _).setCell (hof _) _).setCell (hof _) _).setCell (hof _) _).setCell (hof _) _).setCell (hof _) _).drew
                case measure => first | (simp [intOf]; done) | (simp [intOf]; omega)
    · have hlti : decide ((k : Int) < (n : Int)) = false := by simp; omega
      go_wp2
      go_ret
      exact ⟨rfl, L, ⟨HP.o, srt_all HS.o (by rw [HP.o.length_eq, ← HN.o]; omega)⟩, HRW.o, HC.o⟩

end Go.Proofs.Ytbeckfnhgeclnaa
