/-
  The reference's clock: All.
-/
import Derived.Test.YtdnmeffglpmlaaaRefD0
import Derived.Deep.RegionHeld3
import Derived.Deep.DrawnRows
import Derived.Deep.QuietTactic
import Derived.BigQuiet
import Derived.BigRegion
import Derived.Deep.CutRange
import Derived.Deep.LoopGhost
namespace Go.Proofs.Ytdnmeffglpmlaaa
open Go.RowKit
attribute [local go_sem ↓] Go.wp_at_zero Go.wp_at_succ

theorem bdrwN {B : Nat} {a w : World} (h : Below B a w) (n : Nat) : Below B a (w.drewN n) := ⟨h.os, h.tape, h.output, h.size, h.block⟩
/-- What the outer loop has gathered: the due ones among the first k, in order. -/
def Got (now : Int) (al q : Al) (m : Nat) : Prop := q.length = m ∧ q.Perm (dueOf now al) ∧ SortedAl q
theorem Got.nil (now : Int) : Got now [] [] 0 := ⟨rfl, List.Perm.refl _, List.Pairwise.nil⟩
theorem Got.skip {now : Int} {al q : Al} {k m : Nat} (hk : k < al.length) (hy : ¬ (al[k]?.getD (0, 0)).2 ≤ now) (h : Got now (al.take k) q m) : Got now (al.take (k + 1)) q m := by
  unfold Got at h ⊢
  rw [dueOf_snoc now al k hk, if_neg hy, List.append_nil]
  exact h
theorem Got.more {now : Int} {al q pre post : Al} {p : Int × Int} {k m : Nat} (hk : k < al.length) (hy : p.2 ≤ now) (h : Got now (al.take k) q m) (hm : Mid q p pre post) (hp : al[k]?.getD (0, 0) = p) (hl : ∀ y ∈ pre, alLt p y = false) :
    Got now (al.take (k + 1)) (pre ++ p :: post) (m + 1) := by
  subst hp
  obtain ⟨h1, h2, h3⟩ := h
  refine ⟨by rw [hm.perm.length_eq, List.length_append, h1]; rfl, ?_, hm.sorted h3 hl⟩
  rw [dueOf_snoc now al k hk, if_pos hy]
  exact hm.perm.trans (List.Perm.append_right _ h2)
theorem Got.stop {now : Int} {al q pr post : Al} {p z : Int × Int} {k m : Nat} (hk : k < al.length) (hy : p.2 ≤ now) (h : Got now (al.take k) q m) (hm : Mid q p (pr ++ [z]) post) (hp : al[k]?.getD (0, 0) = p) (hl : alLt p z = false) :
    Got now (al.take (k + 1)) (pr ++ [z] ++ p :: post) (m + 1) := by
  refine Got.more hk hy h hm hp (last_all ?_ hl)
  have h3 := h.2.2
  unfold SortedAl at h3 ⊢
  rw [← hm.1, List.pairwise_append] at h3
  exact h3.1

set_option maxRecDepth 100000 in
set_option maxHeartbeats 4000000 in
theorem rall_calls (w : World) (S : Nat → Prop) (b : Nat) (now : Int) (al : Al) (h : RClk w S b now al) (hl : al.length ≤ 1000000) :
    Calls Try.prog 22 #[.pointer (some ⟨b, 0, none⟩)] w fun e w' => ∃ (l : Al) (A : Option Addr) (c : Nat), e = .returned (.slice A l.length c) ∧ l.Perm (dueOf now al) ∧ SortedAl l ∧ Row w' (From w.heap.size) 3 1 A l.length c (iEnc (l.map (·.1))) ∧ Below w.heap.size w w' := by
  obtain ⟨A1, c1, A2, c2, hb, hr1, hr2, hap, hS⟩ := h
  obtain ⟨i0, hi, hz0, hz1, hz2⟩ := info_parts alInfo
  obtain ⟨n, hn⟩ : ∃ n, al.length = n := ⟨_, rfl⟩
  rw [hn] at hb hr1 hr2 hl
  have hcap := hr1.cap
  unfold maxLen at hcap
  have HN := hd hn
  have hb0 := hb.at_ 0 rfl
  have hb1 := hb.at_ 1 rfl
  have hb2 := hb.at_ 2 rfl
  have HB := hd hb
  have hbl := hb.lt
  clear hn hb
  go_enter Try.func22, Try.ntmps22
  go_wp2
  go_loopw [3, 4, 5, 6] (fun x y i _ wr => ∃ (k m : Nat) (B1 B2 : Option Addr) (d1 d2 : Nat) (q : Al), i = .int .i64 k ∧ k ≤ n ∧ x = .slice B1 m d1 ∧ y = .slice B2 m d2 ∧ m ≤ k ∧ Hd (Got now (al.take k) q m) ∧ Row wr (From w.heap.size) 3 1 B1 m d1 (iEnc (q.map (·.1))) ∧ Row wr (From w.heap.size) 3 1 B2 m d2 (iEnc (q.map (·.2))) ∧ Hd (∀ k, Of B1 k → ¬ Of B2 k) ∧ Below w.heap.size w wr) (fun _ _ i _ _ => n - (intOf i).toNat)
  case atStart => exact ⟨0, 0, none, none, 0, 0, [], rfl, Nat.zero_le _, rfl, rfl, Nat.le_refl _, hd (Got.nil now), Row.nil _ _ _ _, Row.nil _ _ _ _, hd (fun k h => (Of.none h).elim), Below.refl _ _⟩
  case round =>
    obtain ⟨k, m, B1, B2, d1, d2, q, rfl, hk, rfl, rfl, hm, HM, q1, q2, hq, hbe⟩ := hrel
    have hki : (0 : Int) ≤ (k : Int) := by omega
    by_cases hlt : k < n
    · have hlti : (k : Int) < (n : Int) := by omega
      obtain ⟨g1, rfl, _, hg1, _, _, hc1, _⟩ := hr1.at_ (by omega)
      obtain ⟨g2, rfl, _, hg2, _, _, hc2, _⟩ := hr2.at_ (by omega)
      have xx1 := hc1 _ _ (al_fst al k (by rw [HN.o]; exact hlt))
      have xx2 := hc2 _ _ (al_snd al k (by rw [HN.o]; exact hlt))
      have HL := hd (by rw [HN.o]; exact hlt : k < al.length)
      have hsz := hbe.size
      obtain ⟨p, hp⟩ : ∃ p, al[k]?.getD (0, 0) = p := ⟨_, rfl⟩
      rw [hp] at xx1 xx2
      obtain ⟨x, y⟩ := p
      have X1 := hd xx1
      have X2 := hd xx2
      have HB1 := hd hb1
      have HB2 := hd hb2
      have x1 := (hbe.cell (p := ⟨g1, k, none⟩) hg1).trans xx1
      have x2 := (hbe.cell (p := ⟨g2, k, none⟩) hg2).trans xx2
      have y0 := (hbe.cell (p := ⟨b, 0, none⟩) hbl).trans hb0
      have y1 := (hbe.cell (p := ⟨b, 1, none⟩) hbl).trans hb1
      have y2 := (hbe.cell (p := ⟨b, 2, none⟩) hbl).trans hb2
      have HP := hd hp
      have Q1 := hd q1.own_
      have Q2 := hd q2.own_
      clear hp hc1 hc2 hr1 hr2 hap hb0 hb1 hb2 xx1 xx2
      by_cases hy : now < y
      · have hdec : decide (y > now) = true := by simpa using hy
        have HY : Hd (¬ y ≤ now) := hd (by omega)
        clear hy
        go_wp2_with fail
        go_quiet (fail)
        go_wp2
        go_roundw
        case rel => exact ⟨k + 1, m, B1, B2, d1, d2, q, by go_num, by omega, rfl, rfl, by omega, hd (Got.skip HL.o (by rw [HP.o]; have := HY.o; show ¬ y ≤ now; omega) HM.o), q1.drewN nq, q2.drewN nq, hq, bdrwN hbe nq⟩
        case measure => simp [intOf]; omega
      · have hdec : decide (y > now) = false := by simpa using hy
        have HY : Hd (y ≤ now) := hd (by omega)
        clear hy
        go_wp2_with fail
        go_quiet (fail)
        go_upto_region 6 with (fail)
        generalize hwq : wr.drewN nq = wq
        have bq : Below w.heap.size w wq := by rw [← hwq]; exact bdrwN hbe nq
        have r1 : Row wq (From w.heap.size) 3 1 B1 m d1 (iEnc (q.map (·.1))) := by rw [← hwq]; exact q1.drewN nq
        have r2 : Row wq (From w.heap.size) 3 1 B2 m d2 (iEnc (q.map (·.2))) := by rw [← hwq]; exact q2.drewN nq
        clear hwq q1 q2 Q1 Q2 x1 x2 y0 y1 y2 hbe
        have x1 := (bq.cell (p := ⟨g1, k, none⟩) hg1).trans X1.o
        have x2 := (bq.cell (p := ⟨g2, k, none⟩) hg2).trans X2.o
        have y1 := (bq.cell (p := ⟨b, 1, none⟩) hbl).trans HB1.o
        have y2 := (bq.cell (p := ⟨b, 2, none⟩) hbl).trans HB2.o
        have Q1 := hd r1.own_
        have Q2 := hd r2.own_
        have hmm : m + 1 ≤ maxLen := by unfold maxLen; omega
        have hby : (m + 1) * 8 ≤ 140737488355328 := by omega
        have LT1 := hd (of_lt r1)
        have LT2 := hd (of_lt r2)
        have DJ2 := hd (fun k h1 h2 => hq.o k h2 h1 : ∀ k, Of B2 k → ¬ Of B1 k)
        have DJ1 := hq
        have HN1 : Hd (iEnc ((q ++ [(x, y)]).map (·.1)) = iEnc (q.map (·.1)) ++ [.int .i64 x]) := hd (by simp [iEnc])
        have HN2 : Hd (iEnc ((q ++ [(x, y)]).map (·.2)) = iEnc (q.map (·.2)) ++ [.int .i64 y]) := hd (by simp [iEnc])
        go_cut [3, 4] from 7 to 122 (fun s3 s4 wx => ∃ E1 e1 E2 e2, s3 = .slice E1 (m + 1) e1 ∧ s4 = .slice E2 (m + 1) e2 ∧ Row wx (From w.heap.size) 3 1 E1 (m + 1) e1 (iEnc ((q ++ [(x, y)]).map (·.1))) ∧ Row wx (From w.heap.size) 3 1 E2 (m + 1) e2 (iEnc ((q ++ [(x, y)]).map (·.2))) ∧ Hd (∀ k, Of E1 k → ¬ Of E2 k) ∧ Below w.heap.size w wx)
        case first =>
          go_region_held3 (fun w' => (w'.cell? ⟨b, 1, none⟩ = some (.slice (some ⟨g1, 0, none⟩) n c1) ∧ w'.cell? ⟨b, 2, none⟩ = some (.slice (some ⟨g2, 0, none⟩) n c2)) ∧ w'.cell? ⟨g1, k, none⟩ = some (.int .i64 x) ∧ w'.cell? ⟨g2, k, none⟩ = some (.int .i64 y)) (with_reducible first
              | (refine cells4 ?_ HB1.o HB2.o X1.o X2.o hbl hg1 hg2
                 repeat (first | exact BW1.o | exact BW2.o | exact bq | refine balloc ?_ rfl _ | refine bdrw ?_)))
           (first
            | ((refine step_append_any (by rfl) _ _ 27 (by rfl) (Of B1) 3 i0 (.int .i64 0) 1 8 Try.underlying27 hi hz0 hz1 hz2 rfl B1 m d1 (iEnc (q.map (·.1))) (by rfl) _ 1 1 [.int .i64 x] (by rfl) rfl (by simp [Value.oneCell']) (by omega) hmm hby ?_ ?_ ?_
                · (with_reducible (repeat (first | exact Q1.o | refine R1.o ?_ | refine Row.alloc ?_ _ | refine Row.drew ?_)))
                · (refine cells_at (t := 3) (cs := #[.int .i64 x]) ?_ rfl
                   repeat (first | (with_reducible refine Blk.new_ _ _ ?_ _ _; simp; done) | with_reducible refine Blk.alloc ?_ _ | with_reducible refine Blk.drew ?_ | with_reducible refine KB1.o _ _ _ ?_ (by simp) | with_reducible refine KB2.o _ _ _ ?_ (by simp)))
                intro E1 e1 w1 z1 zc1
                have BW1 : Hd (Below w.heap.size w w1) := hd (bchg (by with_reducible (repeat (first | exact BW2.o | exact bq | refine balloc ?_ rfl _ | refine bdrw ?_))) zc1 (fun k hk => r1.of_sub k hk) rfl)
                have KB1 := hd (fun g t cs (hB : Blk _ g t cs) (hg : wq.heap.size ≤ g) => hB.chg zc1 (fun hk => by have := LT1.o g hk; omega))
                have R2 := hd (fun (h : Row _ (Of B2) 3 1 B2 m d2 (iEnc (q.map (·.2)))) => h.chg zc1 DJ2.o)
                have Z1 := hd z1
                have ZC1 := hd zc1
                clear z1 zc1))
            | ((refine step_append_any (by rfl) _ _ 27 (by rfl) (Of B2) 3 i0 (.int .i64 0) 1 8 Try.underlying27 hi hz0 hz1 hz2 rfl B2 m d2 (iEnc (q.map (·.2))) (by rfl) _ 1 1 [.int .i64 y] (by rfl) rfl (by simp [Value.oneCell']) (by omega) hmm hby ?_ ?_ ?_
                · (with_reducible (repeat (first | exact Q2.o | refine R2.o ?_ | refine Row.alloc ?_ _ | refine Row.drew ?_)))
                · (refine cells_at (t := 3) (cs := #[.int .i64 y]) ?_ rfl
                   repeat (first | (with_reducible refine Blk.new_ _ _ ?_ _ _; simp; done) | with_reducible refine Blk.alloc ?_ _ | with_reducible refine Blk.drew ?_ | with_reducible refine KB1.o _ _ _ ?_ (by simp) | with_reducible refine KB2.o _ _ _ ?_ (by simp)))
                intro E2 e2 w2 z2 zc2
                have BW2 : Hd (Below w.heap.size w w2) := hd (bchg (by with_reducible (repeat (first | exact BW1.o | exact bq | refine balloc ?_ rfl _ | refine bdrw ?_))) zc2 (fun k hk => r2.of_sub k hk) rfl)
                have KB2 := hd (fun g t cs (hB : Blk _ g t cs) (hg : wq.heap.size ≤ g) => hB.chg zc2 (fun hk => by have := LT2.o g hk; omega))
                have R1 := hd (fun (h : Row _ (Of B1) 3 1 B1 m d1 (iEnc (q.map (·.1)))) => h.chg zc2 DJ1.o)
                have Z2 := hd z2
                have ZC2 := hd zc2
                clear z2 zc2)))
          all_goals
            have FF := hd (two_fin bq.size r1 r2 hq.o HN1.o HN2.o (by simp <;> omega) Z1.o (by with_reducible (repeat (first | exact Chg.refl _ _ | refine Chg.alloc ?_ _ | refine Chg.drew ?_))) ZC1.o.size Z2.o ZC2.o)
            clear Z1 ZC1 Z2 ZC2 BW1 KB1 KB2 R1 R2
            go_wp2_with fail
            go_meet
            exact ⟨E1, e1, E2, e2, rfl, rfl, FF.o.1, FF.o.2.1, hd FF.o.2.2, BW2.o⟩
        case rest =>
          obtain ⟨E1, e1, E2, e2, rfl, rfl, t1, t2, te, tb⟩ := hcut
          have hql : q.length = m := HM.o.1
          have hce := t1.cap
          have hmi : (0 : Int) ≤ (m : Int) := by omega
          clear r1 r2 bq x1 x2 y1 y2 Q1 Q2 LT1 LT2 DJ1 DJ2 HN1 HN2 hmm hby
          go_wp2_with fail
          go_loopw [6] (fun kk wz => ∃ (pre post : Al), kk = .int .i64 (pre.length : Int) ∧ Hd (Mid q (x, y) pre post) ∧ pre.length ≤ m ∧ Row wz (From w.heap.size) 3 1 E1 (m + 1) e1 (iEnc ((pre ++ (x, y) :: post).map (·.1))) ∧ Row wz (From w.heap.size) 3 1 E2 (m + 1) e2 (iEnc ((pre ++ (x, y) :: post).map (·.2))) ∧ Below w.heap.size w wz) (fun kk _ => (intOf kk).toNat)
          case atStart => exact ⟨q, [], by rw [hql], hd (Mid.start _ _), by omega, t1, t2, tb⟩
          case round =>
            obtain ⟨pre, post, rfl, HMid, hpl, u1, u2, ub⟩ := hrel
            obtain ⟨h1, rfl, hs1, hh1, _, _, kc1, kf1⟩ := u1.at_ (by omega)
            obtain ⟨h2, rfl, hs2, hh2, _, _, kc2, kf2⟩ := u2.at_ (by omega)
            rcases List.eq_nil_or_concat pre with rfl | ⟨pr, z, hpz⟩
            · have HT := hd (Got.more HL.o HY.o HM.o HMid.o HP.o (fun _ h => by cases h))
              have U1 := hd u1
              have U2 := hd u2
              have UB := hd ub
              rw [show (((([] : Al).length : Nat)) : Int) = 0 from rfl]
              clear u1 u2 ub kc1 kc2
              go_wp2_with fail
              go_quiet (fail)
              go_wp2
              go_roundw
              case rel => exact ⟨k + 1, m + 1, _, _, e1, e2, _, by go_num, by omega, rfl, rfl, by omega, HT, U1.o.drewN _, U2.o.drewN _, te, bdrwN UB.o _⟩
              case measure => simp [intOf]; omega
            · rw [List.concat_eq_append] at hpz
              subst hpz
              obtain ⟨z1, z2⟩ := z
              obtain ⟨j, hj⟩ : ∃ j, pr.length = j := ⟨_, rfl⟩
              have k10 := kc1 _ _ (iEnc_at0 (·.1) pr post (x, y) (z1, z2))
              have k11 := kc1 _ _ (iEnc_at1 (·.1) pr post (x, y) (z1, z2))
              have k20 := kc2 _ _ (iEnc_at0 (·.2) pr post (x, y) (z1, z2))
              have k21 := kc2 _ _ (iEnc_at1 (·.2) pr post (x, y) (z1, z2))
              rw [List.length_append, List.length_singleton] at hpl ⊢
              rw [hj] at k10 k11 k20 k21 hpl ⊢
              have HJ := hd hj
              have U1 := hd u1
              have U2 := hd u2
              have UB := hd ub
              have hj0 : (0 : Int) ≤ (j : Int) := by omega
              have hjm : IntKind.i64.wrap ((((j + 1 : Nat) : Nat) : Int) - 1) = (j : Int) := by rw [IntKind.wrap_i64]; omega
              clear u1 u2 ub kc1 kc2 hj
              go_upto_region 8 with (fail)
              go_cut [88] from 51 to 122 (fun c wx => c = .bool (alLt (x, y) (z1, z2)) ∧ ∃ nn, wx = wr.drewN nn)
              case first =>
                by_cases c1 : y < z2
                · have f1 : decide (z2 > y) = true := by simpa using c1
                  have HR : Hd (alLt (x, y) (z1, z2) = true) := hd (by rw [alLt_iff]; exact .inl c1)
                  clear c1
                  go_wp2_with fail
                  go_quiet (fail)
                  go_wp2_with fail
                  go_meet
                  exact ⟨by rw [HR.o], _, rfl⟩
                · have f1 : decide (z2 > y) = false := by simpa using c1
                  by_cases c2 : z2 = y
                  · have f2 : (z2 == y) = true := by simpa using c2
                    by_cases c3 : x < z1
                    · have f3 : decide (z1 > x) = true := by simpa using c3
                      have HR : Hd (alLt (x, y) (z1, z2) = true) := hd (by rw [alLt_iff]; exact .inr ⟨c2.symm, c3⟩)
                      clear c1 c2 c3
                      go_wp2_with fail
                      go_quiet (fail)
                      go_wp2_with fail
                      go_meet
                      exact ⟨by rw [HR.o], _, rfl⟩
                    · have f3 : decide (z1 > x) = false := by simpa using c3
                      have HR : Hd (alLt (x, y) (z1, z2) = false) := hd (by rw [alLt_not]; show ¬ (y < z2 ∨ (y = z2 ∧ x < z1)); omega)
                      clear c1 c2 c3
                      go_wp2_with fail
                      go_quiet (fail)
                      go_wp2_with fail
                      go_meet
                      exact ⟨by rw [HR.o], _, rfl⟩
                  · have f2 : (z2 == y) = false := by simpa using c2
                    have HR : Hd (alLt (x, y) (z1, z2) = false) := hd (by rw [alLt_not]; show ¬ (y < z2 ∨ (y = z2 ∧ x < z1)); omega)
                    clear c1 c2
                    go_wp2_with fail
                    go_quiet (fail)
                    go_wp2_with fail
                    go_meet
                    exact ⟨by rw [HR.o], _, rfl⟩
              case rest =>
                obtain ⟨rfl, nn, rfl⟩ := hcut
                cases hlt2 : alLt (x, y) (z1, z2) with
                | false =>
                  have HT := hd (Got.stop HL.o HY.o HM.o HMid.o HP.o hlt2)
                  clear hlt2 k10 k11 k20 k21
                  go_wp2
                  go_roundw
                  case rel => exact ⟨k + 1, m + 1, _, _, e1, e2, _, by go_num, by omega, rfl, rfl, by omega, HT, U1.o.drewN _, U2.o.drewN _, te, bdrwN UB.o _⟩
                  case measure => simp [intOf]; omega
                | true =>
                  have HMS := hd (HMid.o.step hlt2)
                  obtain ⟨wq, hwq⟩ : ∃ wq, wq = wr.drewN nn := ⟨_, rfl⟩
                  have R1 := hd (by rw [hwq]; exact U1.o.drewN nn : Row wq (From w.heap.size) 3 1 (some ⟨h1, 0, none⟩) (m + 1) e1 (iEnc ((pr ++ [(z1, z2)] ++ (x, y) :: post).map (·.1))))
                  have R2 := hd (by rw [hwq]; exact U2.o.drewN nn : Row wq (From w.heap.size) 3 1 (some ⟨h2, 0, none⟩) (m + 1) e2 (iEnc ((pr ++ [(z1, z2)] ++ (x, y) :: post).map (·.2))))
                  have BQ := hd (by rw [hwq]; exact bdrwN UB.o nn : Below w.heap.size w wq)
                  have c10 : wq.cell? ⟨h1, j, none⟩ = some (.int .i64 z1) := by rw [hwq]; exact k10
                  have c11 : wq.cell? ⟨h1, j + 1, none⟩ = some (.int .i64 x) := by rw [hwq]; exact k11
                  have f10 : wq.frozen? ⟨h1, j, none⟩ = false := by rw [hwq]; exact kf1 j
                  have f11 : wq.frozen? ⟨h1, j + 1, none⟩ = false := by rw [hwq]; exact kf1 (j + 1)
                  rw [← hwq]
                  clear hlt2 hwq k10 k11 k20 k21 kf1 kf2 U1 U2 UB
                  go_wp2_with fail
                  go_region
                  have hne : h1 ≠ h2 := fun e => te.o h1 rfl (by rw [e]; rfl)
                  obtain ⟨wp, hwp⟩ : ∃ wp, wp = ((wq.setCell ⟨h1, j, none⟩ (.int .i64 x)).setCell ⟨h1, j + 1, none⟩ (.int .i64 z1)).drew := ⟨_, rfl⟩
                  have hsq := BQ.o.size
                  have A1 := hd (by
                    rw [hwp]
                    have h := (row_set1 (row_set1 R1.o (j := j) (.int .i64 x)) (j := j + 1) (.int .i64 z1)).drew
                    have e := iEnc_swap (·.1) pr post (x, y) (z1, z2)
                    rw [HJ.o] at e
                    rw [e] at h
                    exact h : Row wp (From w.heap.size) 3 1 (some ⟨h1, 0, none⟩) (m + 1) e1 (iEnc ((pr ++ (x, y) :: (z1, z2) :: post).map (·.1))))
                  have r2 : Row wp (From w.heap.size) 3 1 (some ⟨h2, 0, none⟩) (m + 1) e2 (iEnc ((pr ++ [(z1, z2)] ++ (x, y) :: post).map (·.2))) := by
                    rw [hwp]
                    exact ((R2.o.far (fun a ha he => hne (by cases ha; exact he.symm)) _).far (fun a ha he => hne (by cases ha; exact he.symm)) _).drew
                  have bp : Below w.heap.size w wp := by
                    rw [hwp]
                    exact bdrw ((BQ.o.setCell (p := ⟨h1, j, none⟩) hs1 _).setCell (p := ⟨h1, j + 1, none⟩) hs1 _)
                  rw [← hwp]
                  clear hwp c10 c11 f10 f11 R1 R2 BQ hsq
                  obtain ⟨_, hx2, _, _, _, _, kc2, kf2⟩ := r2.at_ (by omega)
                  injection hx2 with hx2
                  injection hx2 with hx2
                  subst hx2
                  have c20 := kc2 _ _ (iEnc_at0 (·.2) pr post (x, y) (z1, z2))
                  have c21 := kc2 _ _ (iEnc_at1 (·.2) pr post (x, y) (z1, z2))
                  rw [HJ.o] at c20 c21
                  have f20 := kf2 j
                  have f21 := kf2 (j + 1)
                  have R2 := hd r2
                  have BP := hd bp
                  clear kc2 kf2 r2 bp
                  go_wp2_with fail
                  go_region
                  obtain ⟨wu, hwu⟩ : ∃ wu, wu = ((wp.setCell ⟨h2, j, none⟩ (.int .i64 y)).setCell ⟨h2, j + 1, none⟩ (.int .i64 z2)).drew := ⟨_, rfl⟩
                  have A2 := hd (by
                    rw [hwu]
                    have h := (row_set1 (row_set1 R2.o (j := j) (.int .i64 y)) (j := j + 1) (.int .i64 z2)).drew
                    have e := iEnc_swap (·.2) pr post (x, y) (z1, z2)
                    rw [HJ.o] at e
                    rw [e] at h
                    exact h : Row wu (From w.heap.size) 3 1 (some ⟨h2, 0, none⟩) (m + 1) e2 (iEnc ((pr ++ (x, y) :: (z1, z2) :: post).map (·.2))))
                  have A1' := hd (by
                    rw [hwu]
                    exact ((A1.o.far (fun a ha he => hne (by cases ha; exact he)) _).far (fun a ha he => hne (by cases ha; exact he)) _).drew : Row wu (From w.heap.size) 3 1 (some ⟨h1, 0, none⟩) (m + 1) e1 (iEnc ((pr ++ (x, y) :: (z1, z2) :: post).map (·.1))))
                  have bu : Below w.heap.size w wu := by
                    rw [hwu]
                    exact bdrw ((BP.o.setCell (p := ⟨h2, j, none⟩) hs2 _).setCell (p := ⟨h2, j + 1, none⟩) hs2 _)
                  rw [← hwu]
                  clear hwu c20 c21 f20 f21 A1 R2 BP
                  have HBU := hd bu
                  clear bu
                  go_wp2
                  go_roundw
                  case rel => exact ⟨pr, (z1, z2) :: post, by rw [HJ.o], HMS, by rw [HJ.o]; omega, A1'.o, A2.o, HBU.o⟩
                  case measure => simp [intOf] <;> omega
    · have hke : k = n := by omega
      subst hke
      have HE := hd hbe
      have Z1 := hd q1
      have y1 := (hbe.cell (p := ⟨b, 1, none⟩) hbl).trans hb1
      clear q1 q2 hbe hb0 hb1 hb2 hap hr1 hr2
      go_wp2
      go_ret
      obtain ⟨h1, h2, h3⟩ := HM.o
      subst h1
      rw [List.take_of_length_le (by rw [HN.o]; exact Nat.le_refl _)] at h2
      exact ⟨q, B1, d1, rfl, h2, h3, Z1.o, HE.o⟩

end Go.Proofs.Ytdnmeffglpmlaaa
