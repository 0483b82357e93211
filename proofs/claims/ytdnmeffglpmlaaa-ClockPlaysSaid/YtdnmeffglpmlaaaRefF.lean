/-
  ClockPlays, as a call: it returns true, whatever the acts.
-/
import Derived.Test.YtdnmeffglpmlaaaRefE
import Derived.Deep.RegionHeld3
import Derived.Deep.CutRange
import Derived.Deep.CutBlock
import Derived.Deep.LoopGhost
namespace Go.Proofs.Ytdnmeffglpmlaaa
open Go.RowKit

set_option maxHeartbeats 4000000 in
set_option maxRecDepth 100000 in
theorem plays_calls (hsort : SortAl) (w : World) (A : Option Addr) (n c : Nat) (l : Acts) (other : Int) (hr : Rds w A n 3 (actEnc l)) (hn : n = l.length) (hm : n ≤ 9223372036854775807) :
    Calls Try.prog 3 #[.slice A n c, .int .i64 other] w fun e w' => e = .returned (.bool true) ∧ Below w.heap.size w w' := by
  have HN := hd hn
  clear hn
  by_cases hbig : 100 < n
  · go_enter Try.func3, Try.ntmps3
    go_wp2_with fail
    refine (first_calls hsort w).mono ?_
    rintro e w1 ⟨rfl, b1⟩
    go_wp2_with fail
    refine (first_calls hsort w1).mono ?_
    rintro e w2 ⟨rfl, b2⟩
    go_wp2
    go_ret
    exact ⟨rfl, b1.trans (b2.mono b1.size)⟩
  · have c1 : n ≤ 100 := by omega
    clear hbig
    go_enter Try.func3, Try.ntmps3
    go_wp2_with fail
    refine (first_calls hsort w).mono ?_
    rintro e w1 ⟨rfl, b1⟩
    go_wp2_with fail
    refine (new_calls w1 (From w1.heap.size) (Nat.le_refl _)).mono ?_
    rintro e w2 ⟨rfl, k2, b2⟩
    obtain ⟨B, hB⟩ : ∃ B, B = w1.heap.size := ⟨_, rfl⟩
    rw [← hB] at k2 ⊢
    have HB := hd hB
    clear hB
    go_upto_region 8 with (fail)
    obtain ⟨w3, hw3⟩ : ∃ w3, w3 = w2.alloc (.cells #[.int .i64 0, .slice none 0 0, .slice none 0 0] 29 (0, 0)) := ⟨_, rfl⟩
    have ho := both_new b1 HB.o k2 b2 hw3
    obtain ⟨C, hC⟩ : ∃ C, C = w2.heap.size := ⟨_, rfl⟩
    rw [← hC] at ho
    rw [← hw3, ← hC]
    clear hw3 hC HB b2 k2 b1
    have HO := hd ho
    clear ho
    go_wp2_with fail
    go_loopw [7] (fun i wr => ∃ (k : Nat) (v : Int) (al : Al), i = .int .i64 k ∧ k ≤ n ∧ al.length ≤ k ∧ 0 ≤ v ∧ v ≤ 1099511627776 ∧ Hd (Nod al) ∧ Hd (Both B C w wr v al v al)) (fun i _ => n - (intOf i).toNat)
    case atStart => exact ⟨0, 0, [], rfl, Nat.zero_le _, Nat.le_refl _, by omega, by omega, hd (by simp [Nod]), HO⟩
    case round =>
      clear HO
      obtain ⟨k, v, al, rfl, hk, hal, hv0, hv1, HNod, HO⟩ := hrel
      by_cases hlt : k < n
      · obtain ⟨g, o, rfl, hgw, hc⟩ := hr.at_ (by omega)
        have hcg := actEnc_get l k (by rw [← HN.o]; exact hlt)
        have z1 := hc _ _ hcg.1
        have z2 := hc _ _ hcg.2.1
        have z3 := hc _ _ hcg.2.2
        rw [← Nat.add_assoc] at z2 z3
        generalize l[k]?.getD (0, 0, 0) = x at z1 z2 z3
        obtain ⟨op, y, z⟩ := x
        simp only at z1 z2 z3
        have Z1 := hd z1
        have Z2 := hd z2
        have Z3 := hd z3
        clear hc hcg z1 z2 z3 hr
        have h1 := (HO.o.below.cell (p := ⟨g, o + k * 3, none⟩) hgw).trans Z1.o
        have h2 := (HO.o.below.cell (p := ⟨g, o + k * 3 + 1, none⟩) hgw).trans Z2.o
        have h3 := (HO.o.below.cell (p := ⟨g, o + k * 3 + 2, none⟩) hgw).trans Z3.o
        go_upto_block 2 with (fail)
        go_cut [8] from 24 to 136 (fun s wx => s = .int .i64 y ∧ ∃ (v' : Int) (al' : Al), al'.length ≤ k + 1 ∧ 0 ≤ v' ∧ v' ≤ 1099511627776 ∧ Hd (Nod al') ∧ Hd (Both B C w wx v' al' v' al'))
        case first =>
          by_cases c0 : op = 0
          · subst c0
            have HF : Hd (∀ w', Both B C w w' v al v al → w'.cell? ⟨g, o + k * 3 + 2, none⟩ = some (.int .i64 z)) := hd (fun w' h => (h.below.cell (p := ⟨g, o + k * 3 + 2, none⟩) hgw).trans Z3.o)
            have HF2 : Hd (∀ w' v', Both B C w w' v' al v al → w'.cell? ⟨g, o + k * 3 + 2, none⟩ = some (.int .i64 z)) := hd (fun w' v' h => (h.below.cell (p := ⟨g, o + k * 3 + 2, none⟩) hgw).trans Z3.o)
            have HF3 : Hd (∀ w' v', Both B C w w' v' al v' al → w'.cell? ⟨g, o + k * 3 + 2, none⟩ = some (.int .i64 z)) := hd (fun w' v' h => (h.below.cell (p := ⟨g, o + k * 3 + 2, none⟩) hgw).trans Z3.o)
            have nq : (okTick v z != okTick v z) = false := by simp
            have HV := hd (nowAfter_bd v z hv0 hv1)
            have HEQ := hd (fun (e : okTick v z = okTick v z) => e)
            go_wp2_with fail
            go_region_held3 (fun w' => w'.cell? ⟨g, o + k * 3 + 2, none⟩ = some (.int .i64 z)) (with_reducible first
              | exact HF2.o _ _ (by assumption)
              | exact HF3.o _ _ (by assumption)
              | exact HF.o _ (Both.drew HO.o)
              | exact h3)
             (first
              | (go_at_call 9
                 refine (both_tick (Both.drew HO.o) hv0 hv1 z).mono ?_
                 rintro e w3 ⟨rfl, ht3⟩)
              | (go_at_call 10
                 refine (both_rtick (by assumption) hv0 hv1 z).mono ?_
                 rintro e w4 ⟨rfl, ht4⟩))
            all_goals
              go_wp2_with fail
              go_meet
              exact ⟨rfl, _, _, Nat.le_trans hal (Nat.le_succ _), HV.o.1, HV.o.2, HNod, hd (by first | assumption | exact Both.drew (by assumption))⟩
          · have e0 : (op == 0) = false := by simp [c0]
            by_cases c1 : op = 1
            · subst c1
              have HS := hd (setAl_len al y z)
              have HSN := hd (setAl_nod HNod.o y z)
              go_wp2_with fail
              refine (both_set HO.o (by omega) y z).mono ?_
              rintro e w3 ⟨rfl, ht3⟩
              have h33 := (ht3.below.cell (p := ⟨g, o + k * 3 + 2, none⟩) hgw).trans Z3.o
              go_wp2_with fail
              refine (both_rset ht3 (by omega) HNod.o y z).mono ?_
              rintro e w4 ⟨rfl, ht4⟩
              go_wp2_with fail
              go_meet
              exact ⟨rfl, v, _, by have := HS.o; omega, hv0, hv1, HSN, hd ht4⟩
            · have e1 : (op == 1) = false := by simp [c1]
              clear c0 c1
              have HS := hd (dropAl_len al y)
              have HSN := hd (dropAl_nod HNod.o y)
              have nq : ((posOf al y).isSome != (posOf al y).isSome) = false := by simp
              go_wp2_with fail
              refine (both_drop HO.o y).mono ?_
              rintro e w3 ⟨rfl, ht3⟩
              go_wp2_with fail
              refine (both_rdrop ht3 (by omega) HNod.o y).mono ?_
              rintro e w4 ⟨rfl, ht4⟩
              go_wp2_with fail
              go_meet
              exact ⟨rfl, v, _, by have := HS.o; omega, hv0, hv1, HSN, hd ht4⟩
        case rest =>
          obtain ⟨rfl, v', al', hal', hv0', hv1', HNod', HO'⟩ := hcut
          clear h1 h2 h3 HO hv0 hv1 hal HNod
          go_wp2_with fail
          refine (both_at HO'.o y).mono ?_
          rintro e w3 ⟨rfl, ht3⟩
          obtain ⟨p1, p2, hpp⟩ : ∃ p1 p2, atPair al' y = #[.int .i64 p1, .bool p2] := by
            unfold atPair
            split
            · exact ⟨_, _, rfl⟩
            · exact ⟨_, _, rfl⟩
          rw [hpp]
          go_wp2_with fail
          refine (both_rat ht3 y).mono ?_
          rintro e w4 ⟨rfl, rfl⟩
          rw [hpp]
          have n1 : (p1 != p1) = false := by simp
          have n2 : (p2 != p2) = false := by simp
          have n3 : (v' != v') = false := by simp
          have n4 : (dueB al' y v' != dueB al' y v') = false := by simp
          have n5 : (dueB al' other v' != dueB al' other v') = false := by simp
          have HCC := hd (both_cell ht3)
          go_wp2_with fail
          go_region_held3 (fun w' => w'.cell? ⟨C, 0, none⟩ = some (.int .i64 v')) (with_reducible first
              | exact both_cell (by assumption)
              | exact both_cell (Both.drew (by assumption)))
            (first
              | (go_at_call 17
                 refine (both_now (by first | assumption | exact Both.drew (by assumption))).mono ?_
                 rintro e wa ⟨rfl, rfl⟩)
              | (go_at_call 18
                 refine (both_due (by first | assumption | exact Both.drew (by assumption)) _).mono ?_
                 rintro e wb ⟨rfl, hb⟩)
              | (go_at_call 19
                 refine (both_rdue (by first | assumption | exact Both.drew (by assumption)) _).mono ?_
                 rintro e wb2 ⟨rfl, rfl⟩)
              | (go_at_call 21
                 refine (both_all hsort (by first | assumption | exact Both.drew (by assumption)) (by omega)).mono ?_
                 rintro e wd ⟨l5, A5, c5, rfl, hD5, hR5, hB5⟩)
              | (go_at_call 22
                 refine (both_rall (by first | assumption | exact Both.drew (by assumption)) (by omega)).mono ?_
                 rintro e we ⟨l6, A6, c6, rfl, hD6, hR6, hB6, hbel6⟩
                 have hR5' := hR5.below hbel6)
              | (go_at_call 20
                 refine (both_ints hD5 hD6 (by omega) hR5' hR6).mono ?_
                 rintro e wf ⟨rfl, hb7⟩
                 have hB7 := hB6.bel hb7))
          all_goals
            go_wp2
            go_roundw
          all_goals first
            | (case rel => exact ⟨k + 1, v', al', by go_num, by omega, by omega, hv0', hv1', HNod', hd hB7⟩)
            | (case measure => simp [intOf]; omega)
      · obtain rfl : k = n := by omega
        go_wp2
        go_ret
        exact ⟨rfl, HO.o.below⟩

end Go.Proofs.Ytdnmeffglpmlaaa
