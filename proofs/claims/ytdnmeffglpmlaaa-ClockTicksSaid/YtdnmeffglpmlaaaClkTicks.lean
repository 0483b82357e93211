/-
  ClockTicks, as a call: it returns true, whatever the numbers.
-/
import Derived.Test.YtdnmeffglpmlaaaClkD
namespace Go.Proofs.Ytdnmeffglpmlaaa
open Go.RowKit

set_option maxHeartbeats 1000000 in
theorem ticks_calls (hsort : SortAl) (w : World) (A : Option Addr) (n c : Nat) (l : List Int) (hr : Rds w A n 1 (iEnc l)) (hn : n = l.length) (hm : n ≤ 9223372036854775807) :
    Calls Try.prog 4 #[.slice A n c] w fun e w' => e = .returned (.bool true) ∧ Below w.heap.size w w' := by
  have HN := hd hn
  clear hn
  by_cases hbig : 100 < n
  · go_enter Try.func4, Try.ntmps4
    go_wp2_with fail
    refine (first_calls hsort w).mono ?_
    rintro e w1 ⟨rfl, b1⟩
    go_wp2_with fail
    refine (first_calls hsort w1).mono ?_
    rintro e w2 ⟨rfl, b2⟩
    go_wp2
    go_ret
    exact ⟨rfl, b1.trans (b2.mono b1.size)⟩
  · go_enter Try.func4, Try.ntmps4
    go_wp2_with fail
    refine (first_calls hsort w).mono ?_
    rintro e w1 ⟨rfl, b1⟩
    go_wp2_with fail
    refine (new_calls w1 (From w1.heap.size) (Nat.le_refl _)).mono ?_
    rintro e w2 ⟨rfl, k2, b2⟩
    obtain ⟨B, hB⟩ : ∃ B, B = w1.heap.size := ⟨_, rfl⟩
    rw [← hB] at k2 b2 ⊢
    have hBw : w.heap.size ≤ B := by rw [hB]; exact b1.size
    have hB2 : B ≤ w2.heap.size := by rw [hB]; exact b2.size
    have HB := hd hB
    clear hB
    have hw2 : Below w.heap.size w w2 := b1.trans (b2.mono hBw)
    go_wp2_with fail
    go_loopw [4, 5, 6] (fun now i _ wr => ∃ (k : Nat) (v : Int), now = .int .i64 v ∧ i = .int .i64 k ∧ k ≤ n ∧ 0 ≤ v ∧ v ≤ 1099511627776 ∧ Clk wr (From B) B v [] ∧ Below w.heap.size w wr ∧ B ≤ wr.heap.size) (fun _ i _ _ => n - (intOf i).toNat)
    case atStart => exact ⟨0, 0, rfl, rfl, Nat.zero_le _, by omega, by omega, k2, hw2, hB2⟩
    case round =>
      obtain ⟨k, v, rfl, rfl, hk, hv0, hv1, kc, hbe, hBr⟩ := hrel
      by_cases hlt : k < n
      · obtain ⟨g, o, rfl, hgw, hc⟩ := hr.at_ (by omega)
        have h1 := (hbe.cell (p := ⟨g, o + k, none⟩) hgw).trans (hc _ _ (iEnc_get l k (by rw [← HN.o]; exact hlt)))
        generalize l[k]?.getD 0 = x at h1
        clear hc
        have hbd := nowAfter_bd v x hv0 hv1
        have hcell : ∀ w', Chg (From B) wr w' → w'.cell? ⟨g, o + k, none⟩ = some (.int .i64 x) := fun w' hw' => ((hw'.below (fun _ h => h) hBr).cell (p := ⟨g, o + k, none⟩) (by show g < B; omega)).trans h1
        by_cases hok : 0 ≤ x ∧ x ≤ 1099511627776 - v
        · have e1 : okTick v x = true := by simp [okTick, hok]
          have e2 : nowAfter v x = v + x := by simp [nowAfter, e1]
          obtain ⟨hx0, hx1⟩ := hok
          have E1 := hd e1
          have E2 := hd e2
          have HC := hd hcell
          clear e1 e2 hcell
          go_wp2_with fail
          refine (tick_calls wr (From B) B v x [] kc hv0 hv1).mono ?_
          rintro e w3 ⟨rfl, k3, c3⟩
          rw [E1.o]
          rw [E2.o] at k3 hbd
          have h3 := HC.o w3 c3
          go_wp2_with fail
          refine (now_calls w3 (From B) B (v + x) [] k3).mono ?_
          rintro e w4 ⟨rfl, rfl⟩
          have hs3 := c3.size
          go_wp2
          go_roundw
          case rel => exact ⟨k + 1, v + x, rfl, by go_num, by omega, by omega, by omega, k3, hbe.trans ((c3.below (fun _ h => h) hBr).mono hBw), by omega⟩
          case measure => simp [intOf]; omega
        · have e1 : okTick v x = false := by
            cases h' : okTick v x with
            | false => rfl
            | true => exact absurd (by simpa [okTick] using h') hok
          have e2 : nowAfter v x = v := by simp [nowAfter, e1]
          have E1 := hd e1
          have E2 := hd e2
          have HC := hd hcell
          clear e1 e2 hcell
          have hok' : x < 0 ∨ 1099511627776 - v < x := by omega
          clear hok
          rcases hok' with hx | hx
          all_goals
            go_wp2_with fail
            first
              | (refine (tick_calls wr (From B) B v x [] kc hv0 hv1).mono ?_
                 rintro e w3 ⟨rfl, k3, c3⟩
                 rw [E1.o]
                 rw [E2.o] at k3 hbd
                 have h3 := HC.o w3 c3
                 go_wp2_with fail
                 refine (now_calls w3 (From B) B v [] k3).mono ?_
                 rintro e w4 ⟨rfl, rfl⟩
                 have hs3 := c3.size
                 go_wp2
                 go_roundw
                 case rel => exact ⟨k + 1, v, rfl, by go_num, by omega, by omega, by omega, k3, hbe.trans ((c3.below (fun _ h => h) hBr).mono hBw), by omega⟩
                 case measure => simp [intOf]; omega)
      · obtain rfl : k = n := by omega
        go_wp2_with fail
        refine (tick_calls wr (From B) B v _ [] kc hv0 hv1).mono ?_
        rintro e w3 ⟨rfl, k3, c3⟩
        have e1 : okTick v (1099511627776 - v) = true := by simp [okTick]; omega
        have e2 : nowAfter v (1099511627776 - v) = 1099511627776 := by simp [nowAfter, e1]; omega
        rw [e1]
        rw [e2] at k3
        clear e1 e2
        go_wp2_with fail
        refine (tick_calls w3 (From B) B 1099511627776 1 [] k3 (by omega) (by omega)).mono ?_
        rintro e w4 ⟨rfl, k4, c4⟩
        rw [show nowAfter 1099511627776 1 = 1099511627776 from rfl] at k4
        rw [show okTick 1099511627776 1 = false from rfl]
        go_wp2_with fail
        refine (tick_calls w4 (From B) B 1099511627776 0 [] k4 (by omega) (by omega)).mono ?_
        rintro e w5 ⟨rfl, k5, c5⟩
        rw [show nowAfter 1099511627776 0 = 1099511627776 from rfl] at k5
        rw [show okTick 1099511627776 0 = true from rfl]
        go_wp2_with fail
        refine (now_calls w5 (From B) B 1099511627776 [] k5).mono ?_
        rintro e w6 ⟨rfl, rfl⟩
        go_wp2
        go_ret
        have hs3 := c3.size
        have hs4 := c4.size
        exact ⟨rfl, hbe.trans (((c3.below (fun _ h => h) hBr).trans ((c4.below (fun _ h => h) (by omega)).trans (c5.below (fun _ h => h) (by omega)))).mono hBw)⟩

end Go.Proofs.Ytdnmeffglpmlaaa
