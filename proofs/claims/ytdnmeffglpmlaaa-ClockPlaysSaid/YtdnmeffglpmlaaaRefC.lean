/-
  The reference's clock: Set.
-/
import Derived.Test.YtdnmeffglpmlaaaRefB
import Derived.Deep.RegionLaw
import Derived.BigRegion
namespace Go.Proofs.Ytdnmeffglpmlaaa
open Go.RowKit
attribute [local go_sem ↓] Go.wp_at_zero Go.wp_at_succ

/-- Two rows grown one behind the other, and stored into the clock. -/
theorem two_set {T : Nat → Prop} {b n1 n2 c1 c2 d1 d2 m : Nat} {wr W1 w1 W2 w2 : World} {B1 B2 E1 E2 : Option Addr} {xs1 xs2 : List Value} {K : Al} {now who at_ : Int} {u1 u2 : Value} (hT : ∀ k, wr.heap.size ≤ k → T k)
    (q1 : Row wr T 3 1 B1 n1 d1 xs1) (q2 : Row wr T 3 1 B2 n2 d2 xs2) (hq : ∀ k, Of B1 k → ¬ Of B2 k) (hb : b < wr.heap.size) (hTb : T b) (nb1 : ¬ Of B1 b) (nb2 : ¬ Of B2 b) (hm : K.length = m) (h1 : wr.heap.size ≤ W1.heap.size)
    (z1 : Row w1 (Plus (Of B1) W1.heap.size) 3 1 E1 (m + 1) c1 (iEnc (K.map (·.1)) ++ [.int .i64 who])) (hc : Chg Non w1 W2) (h2 : W1.heap.size ≤ w1.heap.size)
    (z2 : Row w2 (Plus (Of B2) W2.heap.size) 3 1 E2 (m + 1) c2 (iEnc (K.map (·.2)) ++ [.int .i64 at_])) (zc2 : Chg (Of B2) W2 w2) (hk : Blk w2 b 29 #[.int .i64 now, u1, u2]) :
    RClk ((w2.setCell ⟨b, 1, none⟩ (.slice E1 (m + 1) c1)).setCell ⟨b, 2, none⟩ (.slice E2 (m + 1) c2)) T b now (K ++ [(who, at_)]) := by
  obtain ⟨r1, hd⟩ := two_app (fun k hk => Nat.lt_of_lt_of_le (of_lt q2 k hk) h1) hq z1 hc z2 zc2
  have s2 := hc.size
  have a1 : ∀ a, E1 = some a → a.block ≠ b := fun a ha h => by
    rcases z1.of_sub b (by rw [ha, ← h]; rfl) with h | h
    · exact nb1 h
    · omega
  have a2 : ∀ a, E2 = some a → a.block ≠ b := fun a ha h => by
    rcases z2.of_sub b (by rw [ha, ← h]; rfl) with h | h
    · exact nb2 h
    · omega
  have r1' : Row w2 T 3 1 E1 (m + 1) c1 _ := r1.mono fun k hk => by
    rcases z1.of_sub k hk with h | h
    · exact q1.of_sub k h
    · exact hT k (by omega)
  have r2' : Row w2 T 3 1 E2 (m + 1) c2 _ := z2.mono fun k hk => by
    rcases hk with h | h
    · exact q2.of_sub k h
    · exact hT k (by omega)
  subst hm
  refine ⟨E1, c1, E2, c2, ?_, ?_, ?_, hd, hTb⟩
  · rw [List.length_append]
    exact (hk.set_ 1 _).set_ 2 _
  · rw [List.length_append, List.map_append]
    have e : iEnc (K.map (·.1) ++ [(who, at_)].map (·.1)) = iEnc (K.map (·.1)) ++ [.int .i64 who] := by simp [iEnc]
    rw [e]
    exact (r1'.far a1 _).far a1 _
  · rw [List.length_append, List.map_append]
    have e : iEnc (K.map (·.2) ++ [(who, at_)].map (·.2)) = iEnc (K.map (·.2)) ++ [.int .i64 at_] := by simp [iEnc]
    rw [e]
    exact (r2'.far a2 _).far a2 _

set_option maxRecDepth 100000 in
set_option maxHeartbeats 4000000 in
theorem rset_calls (w : World) (S : Nat → Prop) (b : Nat) (now who at_ : Int) (al : Al) (h : RClk w S b now al) (hl : al.length < 1000000) :
    Calls Try.prog 12 #[.pointer (some ⟨b, 0, none⟩), .int .i64 who, .int .i64 at_] w fun e w' => e = .returned (.tuple #[]) ∧ RClk w' (Plus S w.heap.size) b now (keepers al who ++ [(who, at_)]) ∧ Chg S w w' := by
  have hS0 : S b := by
    obtain ⟨_, _, _, _, _, _, _, _, h⟩ := h
    exact h
  go_enter Try.func12, Try.ntmps12
  go_wp2_with fail
  refine (rdrop_calls w S b now who al h (by omega)).mono ?_
  rintro e wr ⟨rfl, hr, hc⟩
  have hkl : (keepers al who).length ≤ al.length := List.length_filter_le _ _
  obtain ⟨i0, hi, hz0, hz1, hz2⟩ := info_parts alInfo
  obtain ⟨K, hK⟩ : ∃ K, keepers al who = K := ⟨_, rfl⟩
  rw [hK] at hr hkl
  have HK := hd hK
  clear hK h
  obtain ⟨A1, c1, A2, c2, hb, q1, q2, hap, hS⟩ := hr
  obtain ⟨m, hm⟩ : ∃ m, K.length = m := ⟨_, rfl⟩
  rw [hm] at hb q1 q2 hkl
  have N1 := hd (fun h : Of A1 b => by cases A1 with
    | none => exact Of.none h
    | some a => exact q1.ne_blk hb (by decide) a rfl h.some_.symm)
  have N2 := hd (fun h : Of A2 b => by cases A2 with
    | none => exact Of.none h
    | some a => exact q2.ne_blk hb (by decide) a rfl h.some_.symm)
  have hb1 := hb.at_ 1 rfl
  have hb2 := hb.at_ 2 rfl
  have lb := hb.lt
  have f1 := hb.frozen 1
  have f2 := hb.frozen 2
  have HM := hd hm
  have HB := hd hb
  have HC := hd hc
  have HSZ := hd hc.size
  have Q1 := hd q1.own_
  have Q2 := hd q2.own_
  have P1 := hd q1
  have P2 := hd q2
  have HQ := hd hap
  have LT1 := hd (of_lt q1)
  have LT2 := hd (of_lt q2)
  have DJ2 := hd (fun k h1 h2 => hap k h2 h1 : ∀ k, Of A2 k → ¬ Of A1 k)
  have hmm : m + 1 ≤ maxLen := by unfold maxLen; omega
  have hby : (m + 1) * 8 ≤ 140737488355328 := by omega
  clear hm hb hc q1 q2 hap
  generalize decide (m < al.length) = bb
  go_wp2_with fail
  go_region_law (first
    | ((refine step_append_any (by rfl) _ _ 27 (by rfl) (Of A1) 3 i0 (.int .i64 0) 1 8 Try.underlying27 hi hz0 hz1 hz2 rfl A1 m c1 (iEnc (K.map (·.1))) (by rfl) _ 1 1 [.int .i64 who] (by rfl) rfl (by simp [Value.oneCell']) (by omega) hmm hby ?_ ?_ ?_
        · (with_reducible (repeat (first | exact Q1.o | refine Row.alloc ?_ _ | refine Row.drew ?_)))
        · (refine cells_at (t := 3) (cs := #[.int .i64 who]) ?_ rfl
           repeat (first | (with_reducible refine Blk.new_ _ _ ?_ _ _; simp; done) | with_reducible refine Blk.alloc ?_ _ | with_reducible refine Blk.drew ?_))
        intro E1 e1 x1 z1 zc1
        have bx : Blk _ b 29 #[.int .i64 now, .slice A1 m c1, .slice A2 m c2] := Blk.chg (by with_reducible (repeat (first | exact HB.o | refine Blk.alloc ?_ _ | refine Blk.drew ?_))) zc1 N1.o
        have v1 := bx.at_ 1 rfl
        have v2 := bx.at_ 2 rfl
        have lx := bx.lt
        have g1 := bx.frozen 1
        have g2 := bx.frozen 2
        have BX := hd bx
        have KB := hd (fun g t cs (hB : Blk _ g t cs) (hg : wr.heap.size ≤ g) => hB.chg zc1 (fun hk => by have := LT1.o g hk; omega))
        have R2 := hd (fun (h : Row _ (Of A2) 3 1 A2 m c2 (iEnc (K.map (·.2)))) => h.chg zc1 DJ2.o)
        have CH1 : Hd (Chg S w x1) := hd (Chg.trans (by with_reducible (repeat (first | exact HC.o | refine Chg.alloc ?_ _ | refine Chg.drew ?_))) zc1 P1.o.of_sub)
        have Z1 := hd z1
        have ZC1 := hd zc1
        clear z1 zc1 bx))
    | ((refine step_append_any (by rfl) _ _ 27 (by rfl) (Of A2) 3 i0 (.int .i64 0) 1 8 Try.underlying27 hi hz0 hz1 hz2 rfl A2 m c2 (iEnc (K.map (·.2))) (by rfl) _ 1 1 [.int .i64 at_] (by rfl) rfl (by simp [Value.oneCell']) (by omega) hmm hby ?_ ?_ ?_
        · (with_reducible (repeat (first | refine R2.o ?_ | exact Q2.o | refine Row.alloc ?_ _ | refine Row.drew ?_)))
        · (refine cells_at (t := 3) (cs := #[.int .i64 at_]) ?_ rfl
           repeat (first | (with_reducible refine Blk.new_ _ _ ?_ _ _; simp; done) | with_reducible refine Blk.alloc ?_ _ | with_reducible refine Blk.drew ?_ | with_reducible refine KB.o _ _ _ ?_ (by simp)))
        intro E2 e2 x2 z2 zc2
        have bx : Blk _ b 29 #[.int .i64 now, .slice A1 m c1, .slice A2 m c2] := Blk.chg (by with_reducible (repeat (first | exact BX.o | refine Blk.alloc ?_ _ | refine Blk.drew ?_))) zc2 N2.o
        have v1 := bx.at_ 1 rfl
        have v2 := bx.at_ 2 rfl
        have g1 := bx.frozen 1
        have g2 := bx.frozen 2
        have BY := hd bx
        have CH2 : Hd (Chg S w x2) := hd (Chg.trans (by with_reducible (repeat (first | exact CH1.o | refine Chg.alloc ?_ _ | refine Chg.drew ?_))) zc2 P2.o.of_sub)
        have Z2 := hd z2
        have ZC2 := hd zc2
        clear z2 zc2 bx)))
  all_goals
    have FF := hd (two_set (T := Plus S w.heap.size) (fun k hk => Or.inr (by have := HSZ.o; omega)) P1.o P2.o HQ.o lb hS N1.o N2.o HM.o (by simp <;> omega) Z1.o (by with_reducible (repeat (first | exact Chg.refl _ _ | refine Chg.alloc ?_ _ | refine Chg.drew ?_))) ZC1.o.size Z2.o ZC2.o BY.o)
    have CC := hd ((CH2.o.setCell (p := ⟨b, 1, none⟩) (.inl hS0) (.slice E1 (m + 1) e1)).setCell (p := ⟨b, 2, none⟩) (.inl hS0) (.slice E2 (m + 1) e2))
    clear Z1 ZC1 Z2 ZC2 KB R2 CH1 CH2 BX BY
    go_wp2
    go_end0
    exact ⟨rfl, by rw [HK.o]; exact FF.o, CC.o⟩

end Go.Proofs.Ytdnmeffglpmlaaa
