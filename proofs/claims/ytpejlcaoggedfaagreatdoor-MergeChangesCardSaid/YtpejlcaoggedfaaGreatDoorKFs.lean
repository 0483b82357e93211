/-
  Are two rows of fields alike?
-/
import Derived.Test.YtpejlcaoggedfaaGreatDoorGC
set_option linter.unusedVariables false
set_option linter.unusedSimpArgs false
namespace Go.Proofs.YtpejlcaoggedfaaGreatDoor
open Go.RowKit

set_option maxRecDepth 100000 in
set_option maxHeartbeats 2000000 in
theorem kfs_calls (w : World) (A B : Option Addr) (n c m d : Nat) (l r : List Fld) (hn : n = l.length) (hm : m = r.length) (ha : Rds w A n 3 (fsE l)) (hb : Rds w B m 3 (fsE r)) (hs : n ≤ 1000000) (hs2 : m ≤ 1000000) :
    Calls Tryz.prog 19 #[.slice A n c, .slice B m d] w fun e w' => e = .returned (.bool (decide (l = r))) ∧ Below w.heap.size w w' := by
  obtain ⟨v, hv⟩ : ∃ v, decide (l = r) = v := ⟨_, rfl⟩
  rw [hv]
  have HT := hd (show l = r → v = true from fun h => by rw [← hv]; exact decide_eq_true h)
  have HF := hd (show ¬ l = r → v = false from fun h => by rw [← hv]; exact decide_eq_false h)
  have HN := hd hn
  have HM := hd hm
  have HA := hd ha
  have HB := hd hb
  clear hv hn hm ha hb
  by_cases hnm : n = m
  · subst hnm
    go_enter Tryz.func19, Tryz.ntmps19
    go_wp2_with fail
    go_loopw [5, 4] (fun i _ wr => ∃ k : Nat, i = .int .i64 k ∧ k ≤ n ∧ Hd (l.take k = r.take k) ∧ Hd (Below w.heap.size w wr)) (fun i _ _ => n - (intOf i).toNat)
    case atStart => exact ⟨0, rfl, Nat.zero_le _, hd (by simp), hd (Below.refl _ _)⟩
    case round =>
      obtain ⟨k, rfl, hk, HL, HW⟩ := hrel
      obtain ⟨wi, rfl⟩ : ∃ wi : World, wi = wr := ⟨_, rfl⟩
      by_cases hlt : k < n
      · have hlti : decide ((k : Int) < (n : Int)) = true := by simp; omega
        have hkl : k < l.length := by rw [← HN.o]; exact hlt
        have hkr : k < r.length := by rw [← HM.o]; exact hlt
        obtain ⟨x, hx⟩ : ∃ x, l[k]'hkl = x := ⟨_, rfl⟩
        obtain ⟨y, hy⟩ : ∃ y, r[k]'hkr = y := ⟨_, rfl⟩
        have HXY := hd (And.intro hx hy)
        obtain ⟨g, o, hA, _, hc⟩ := (HA.o.below HW.o).at_ (by omega)
        obtain ⟨g', o', hB, _, hc'⟩ := (HB.o.below HW.o).at_ (by omega)
        subst hA hB
        have hcx : ∀ t u, t < 3 → (fEnc x)[t]? = some u → wi.cell? ⟨g, o + k * 3 + t, none⟩ = some u := fun t u ht hv => by
          rw [Nat.add_assoc]; exact hc _ _ ((fsE_at l k hkl t ht).trans (by rw [hx]; exact hv))
        have hcy : ∀ t u, t < 3 → (fEnc y)[t]? = some u → wi.cell? ⟨g', o' + k * 3 + t, none⟩ = some u := fun t u ht hv => by
          rw [Nat.add_assoc]; exact hc' _ _ ((fsE_at r k hkr t ht).trans (by rw [hy]; exact hv))
        have x0 := hcx 0 _ (by omega) rfl
        have x1 := hcx 1 _ (by omega) rfl
        have x2 := hcx 2 _ (by omega) rfl
        have y0 := hcy 0 _ (by omega) rfl
        have y1 := hcy 1 _ (by omega) rfl
        have y2 := hcy 2 _ (by omega) rfl
        simp only [Nat.add_zero] at x0 y0
        clear hc hc' hcx hcy hx hy
        have hcase := fld_cases x y
        by_cases hxy : x = y
        · have HNX := hd (show l.take (k + 1) = r.take (k + 1) by
            rw [List.take_succ_eq_append_getElem hkl, List.take_succ_eq_append_getElem hkr, HL.o, HXY.o.1, HXY.o.2, hxy])
          clear hcase HXY
          subst hxy
          obtain ⟨xk, xl, xv⟩ := x
          go_wp2_with fail
          go_quiet (fail)
          go_wp2
          go_roundw
          case rel => exact ⟨k + 1, by go_num, by omega, HNX, hd (bdrewN HW.o _)⟩
          case measure => simp [intOf]; omega
        · have HV := hd (HF.o (fun h => hxy (by subst h; rw [← HXY.o.1, ← HXY.o.2])))
          have HNE := hd hxy
          clear hxy
          rcases hcase with he | he | ⟨he1, he2⟩ | ⟨he1, he2, he3⟩
          · exact absurd he HNE.o
          · obtain ⟨xk, xl, xv⟩ := x
            obtain ⟨yk, yl, yv⟩ := y
            simp only at he
            clear HXY HNE
            go_wp2_with fail
            go_quiet (fail)
            go_wp2
            go_ret
            exact ⟨retBB HV.o.symm, bdrewN HW.o _⟩
          · obtain ⟨xk, xl, xv⟩ := x
            obtain ⟨yk, yl, yv⟩ := y
            simp only at he1 he2
            clear HXY HNE
            subst he1
            go_wp2_with fail
            go_quiet (fail)
            go_wp2
            go_ret
            exact ⟨retBB HV.o.symm, bdrewN HW.o _⟩
          · obtain ⟨xk, xl, xv⟩ := x
            obtain ⟨yk, yl, yv⟩ := y
            simp only at he1 he2 he3
            clear HXY HNE
            subst he1 he2
            go_wp2_with fail
            go_quiet (fail)
            go_wp2
            go_ret
            exact ⟨retBB HV.o.symm, bdrewN HW.o _⟩
      · have hlti : decide ((k : Int) < (n : Int)) = false := by simp; omega
        have HV := hd (HT.o (by
          have := HL.o
          rwa [List.take_of_length_le (by rw [← HN.o]; omega), List.take_of_length_le (by rw [← HM.o]; omega)] at this))
        go_wp2
        go_ret
        exact ⟨retBB HV.o.symm, HW.o⟩
  · have n1 : ((n : Int) == (m : Int)) = false := by simp; omega
    have HV := hd (HF.o (fun h => hnm (by rw [HN.o, HM.o, h])))
    clear hnm
    go_enter Tryz.func19, Tryz.ntmps19
    go_wp2
    go_ret
    exact ⟨retBB HV.o.symm, Below.refl _ _⟩

end Go.Proofs.YtpejlcaoggedfaaGreatDoor
