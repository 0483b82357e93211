/-
  The reference's clock: Drop, Set.
-/
import Derived.Test.YtdnmeffglpmlaaaRefA
import Derived.BigRegion
import Derived.Deep.RegionHeld3
import Derived.Deep.DrawnRows
import Derived.Deep.LoopGhost
namespace Go.Proofs.Ytdnmeffglpmlaaa
open Go.RowKit
attribute [local go_sem ↓] Go.wp_at_zero Go.wp_at_succ

/-- append of at least one element, as one step of a region that draws. -/
theorem step_append_any {P : Program} {ops : Array Oper} {o : Oper} {a : Act} {w : World} {K : Act → World → Prop} {Q : Exit → Act → World → Prop} {E : Prop}
    (hg : o.guard = none) (s x : Operand) (t : TypeId) (hop : o.op = Op.call { callee := Callee.builtin Builtin.append, args := #[s, x], argTypes := #[t, t] })
    (S : Nat → Prop) (e : TypeId) (i : TypeInfo) (z : Value) (size bytes : Nat) (ht : P.underlying t = some (.slice e)) (hi : P.info? e = some i) (hz : i.zero = some z)
    (hsize : i.size = size) (hby : i.bytes = bytes) (hzs : z.cells.size = size) (A : Option Addr) (n cap : Nat) (xs : List Value) (hs : a.eval s = .slice A n cap)
    (ad : Addr) (m c : Nat) (news : List Value) (hx : a.eval x = .slice (some ad) m c) (hl : news.length = m * size) (h1 : ∀ u ∈ news, u.oneCell' = true)
    (h0 : 0 < m) (h63 : n + m ≤ maxLen) (hbytes : (n + m) * bytes ≤ 140737488355328)
    (hr : Row w S e size A n cap xs) (hnews : ∀ j u, news[j]? = some u → w.cell? (ad.add j) = some u)
    (h : ∀ A' c' w', Row w' (Plus S w.heap.size) e size A' (n + m) c' (xs ++ news) → Chg S w w' → K (a.put o.dst (.slice A' (n + m) c')) w') :
    if Region.wanted o (yielded ops a.tmps) = true then Oper.wp P o a w K Q else E := by
  have hw : Region.wanted o (yielded ops a.tmps) = true := by simp [Region.wanted, hg]
  rw [if_pos hw]
  obtain ⟨A', c', w', hrun, h2, h3⟩ := run_append_row (P := P) w S t o.type e i z size bytes ht hi hz hsize hby hzs A n cap xs hr ad m c news hl hnews h1 h0 h63 hbytes
  unfold Oper.wp execOp
  simp only [hop, resolve, invoke, builtin, Sem.run_bind, Sem.run_pure, Result.andThen_ok, List.map_toArray, List.map_cons, List.map_nil, hs, hx, hrun]
  exact h A' c' w' h2 h3

theorem balloc {B : Nat} {a w : World} (h : Below B a w) (hB : B = a.heap.size) (o : Obj) : Below B a (w.alloc o) := h.alloc (by rw [hB]; subst hB; exact h.size) o
theorem bdrw {B : Nat} {a w : World} (h : Below B a w) : Below B a w.drew := ⟨h.os, h.tape, h.output, h.size, h.block⟩
theorem bchg {B : Nat} {a w w' : World} {S : Nat → Prop} (h : Below B a w) (hc : Chg S w w') (hs : ∀ k, S k → B ≤ k) (hB : B = a.heap.size) : Below B a w' :=
  h.trans (hc.below hs (by subst hB; exact h.size))
/-- One behind the other: two rows that lay apart, each appended to. -/
theorem two_app {e s1 s2 n1 n2 c1 c2 : Nat} {W1 w1 W2 w2 : World} {S1 S2 : Nat → Prop} {E1 E2 : Option Addr} {xs1 xs2 : List Value} (hlt : ∀ k, S2 k → k < W1.heap.size) (hdis : ∀ k, S1 k → ¬ S2 k)
    (z1 : Row w1 (Plus S1 W1.heap.size) e s1 E1 n1 c1 xs1) (hc : Chg Non w1 W2) (z3 : Row w2 (Plus S2 W2.heap.size) e s2 E2 n2 c2 xs2) (z4 : Chg S2 W2 w2) :
    Row w2 (Of E1) e s1 E1 n1 c1 xs1 ∧ (∀ k, Of E1 k → ¬ Of E2 k) := by
  have key : ∀ k, Of E1 k → k < w1.heap.size ∧ ¬ S2 k := fun k hk => by
    refine ⟨?_, fun h2 => ?_⟩
    · cases E1 with
      | none => exact (Of.none hk).elim
      | some a => rw [hk.some_]; exact z1.lt rfl
    · rcases z1.of_sub k hk with h | h
      · exact hdis k h h2
      · have := hlt k h2; omega
  refine ⟨((z1.own_).chg hc (fun _ _ h => h)).chg z4 (fun k hk => (key k hk).2), fun k hk hk2 => ?_⟩
  rcases z3.of_sub k hk2 with h | h
  · exact (key k hk).2 h
  · have := (key k hk).1; have := hc.size; omega
theorem of_lt {w : World} {S : Nat → Prop} {e size n c : Nat} {A : Option Addr} {xs : List Value} (h : Row w S e size A n c xs) : ∀ k, Of A k → k < w.heap.size := fun k hk => by
  cases A with
  | none => exact (Of.none hk).elim
  | some a => rw [hk.some_]; exact h.lt rfl
def keepers (al : Al) (who : Int) : Al := al.filter fun x => decide (x.1 ≠ who)

theorem cells4 {w w' : World} {b g1 g2 k : Nat} {v1 v2 v3 v4 : Value} (h : Below w.heap.size w w') (h1 : w.cell? ⟨b, 1, none⟩ = some v1) (h2 : w.cell? ⟨b, 2, none⟩ = some v2) (h3 : w.cell? ⟨g1, k, none⟩ = some v3) (h4 : w.cell? ⟨g2, k, none⟩ = some v4)
    (hb : b < w.heap.size) (hg1 : g1 < w.heap.size) (hg2 : g2 < w.heap.size) : (w'.cell? ⟨b, 1, none⟩ = some v1 ∧ w'.cell? ⟨b, 2, none⟩ = some v2) ∧ w'.cell? ⟨g1, k, none⟩ = some v3 ∧ w'.cell? ⟨g2, k, none⟩ = some v4 :=
  ⟨⟨(h.cell (p := ⟨b, 1, none⟩) hb).trans h1, (h.cell (p := ⟨b, 2, none⟩) hb).trans h2⟩, (h.cell (p := ⟨g1, k, none⟩) hg1).trans h3, (h.cell (p := ⟨g2, k, none⟩) hg2).trans h4⟩

/-- The two new rows, whichever was made first. -/
theorem two_fin {e n1 n2 c1 c2 d1 d2 N : Nat} {wr W1 w1 W2 w2 w : World} {B1 B2 E1 E2 : Option Addr} {xs1 xs2 ys1 ys2 zs1 zs2 : List Value} (h0 : w.heap.size ≤ wr.heap.size)
    (q1 : Row wr (From w.heap.size) e 1 B1 n1 d1 xs1) (q2 : Row wr (From w.heap.size) e 1 B2 n2 d2 xs2) (hq : ∀ k, Of B1 k → ¬ Of B2 k) (hy1 : zs1 = ys1) (hy2 : zs2 = ys2) (h1 : wr.heap.size ≤ W1.heap.size)
    (z1 : Row w1 (Plus (Of B1) W1.heap.size) e 1 E1 N c1 ys1) (hc : Chg Non w1 W2) (h2 : W1.heap.size ≤ w1.heap.size) (z2 : Row w2 (Plus (Of B2) W2.heap.size) e 1 E2 N c2 ys2) (zc2 : Chg (Of B2) W2 w2) :
    Row w2 (From w.heap.size) e 1 E1 N c1 zs1 ∧ Row w2 (From w.heap.size) e 1 E2 N c2 zs2 ∧ (∀ k, Of E1 k → ¬ Of E2 k) := by
  subst hy1 hy2
  obtain ⟨r1, hd⟩ := two_app (fun k hk => Nat.lt_of_lt_of_le (of_lt q2 k hk) h1) hq z1 hc z2 zc2
  have s2 := hc.size
  refine ⟨r1.mono fun k hk => ?_, z2.mono fun k hk => ?_, hd⟩
  · rcases z1.of_sub k hk with h | h
    · exact q1.of_sub k h
    · exact (by omega : w.heap.size ≤ k)
  · rcases hk with h | h
    · exact q2.of_sub k h
    · exact (by omega : w.heap.size ≤ k)
theorem keep_more (al : Al) (who : Int) (k : Nat) (hk : k < al.length) (hw : (al[k]?.getD (0, 0)).1 ≠ who) : keepers (al.take (k + 1)) who = keepers (al.take k) who ++ [al[k]?.getD (0, 0)] := by
  have e : al[k]?.getD (0, 0) = al[k] := by simp [hk]
  rw [e] at hw ⊢
  unfold keepers
  rw [List.take_succ_eq_append_getElem hk, List.filter_append]
  simp [hw]
theorem keep_same (al : Al) (who : Int) (k : Nat) (hk : k < al.length) (hw : (al[k]?.getD (0, 0)).1 = who) : keepers (al.take (k + 1)) who = keepers (al.take k) who := by
  have e : al[k]?.getD (0, 0) = al[k] := by simp [hk]
  rw [e] at hw
  unfold keepers
  rw [List.take_succ_eq_append_getElem hk, List.filter_append]
  simp [hw]

set_option maxRecDepth 100000 in
set_option maxHeartbeats 4000000 in
theorem rdrop_calls (w : World) (S : Nat → Prop) (b : Nat) (now who : Int) (al : Al) (h : RClk w S b now al) (hl : al.length ≤ 1000000) :
    Calls Try.prog 14 #[.pointer (some ⟨b, 0, none⟩), .int .i64 who] w fun e w' => e = .returned (.bool (decide ((keepers al who).length < al.length))) ∧ RClk w' (Plus S w.heap.size) b now (keepers al who) ∧ Chg S w w' := by
  obtain ⟨A1, c1, A2, c2, hb, hr1, hr2, hap, hS⟩ := h
  obtain ⟨i0, hi, hz0, hz1, hz2⟩ := info_parts alInfo
  obtain ⟨n, hn⟩ : ∃ n, al.length = n := ⟨_, rfl⟩
  rw [hn] at hb hr1 hr2 hl
  have hcap := hr1.cap
  unfold maxLen at hcap
  have HN := hd hn
  have hb1 := hb.at_ 1 rfl
  have hb2 := hb.at_ 2 rfl
  have HB := hd hb
  have hbl := hb.lt
  clear hn hb
  go_enter Try.func14, Try.ntmps14
  go_wp2
  go_loopw [5, 6, 7] (fun x y i wr => ∃ (k m : Nat) (B1 B2 : Option Addr) (d1 d2 : Nat), i = .int .i64 k ∧ k ≤ n ∧ x = .slice B1 m d1 ∧ y = .slice B2 m d2 ∧ m ≤ k ∧ Hd (m = (keepers (al.take k) who).length) ∧ Row wr (From w.heap.size) 3 1 B1 m d1 (iEnc ((keepers (al.take k) who).map (·.1))) ∧ Row wr (From w.heap.size) 3 1 B2 m d2 (iEnc ((keepers (al.take k) who).map (·.2))) ∧ Hd (∀ k, Of B1 k → ¬ Of B2 k) ∧ Below w.heap.size w wr) (fun _ _ i _ => n - (intOf i).toNat)
  case atStart => exact ⟨0, 0, none, none, 0, 0, rfl, Nat.zero_le _, rfl, rfl, Nat.le_refl _, rfl, Row.nil _ _ _ _, Row.nil _ _ _ _, hd (fun k h => (Of.none h).elim), Below.refl _ _⟩
  case round =>
    obtain ⟨k, m, B1, B2, d1, d2, rfl, hk, rfl, rfl, hm, HM, q1, q2, hq, hbe⟩ := hrel
    have hki : (0 : Int) ≤ (k : Int) := by omega
    by_cases hlt : k < n
    · obtain ⟨g1, rfl, _, hg1, _, _, hc1, _⟩ := hr1.at_ (by omega)
      obtain ⟨g2, rfl, _, hg2, _, _, hc2, _⟩ := hr2.at_ (by omega)
      have xx1 := hc1 _ _ (al_fst al k (by rw [HN.o]; exact hlt))
      have xx2 := hc2 _ _ (al_snd al k (by rw [HN.o]; exact hlt))
      have hsz := hbe.size
      obtain ⟨x, hx⟩ : ∃ x, (al[k]?.getD (0, 0)).1 = x := ⟨_, rfl⟩
      obtain ⟨y, hy⟩ : ∃ y, (al[k]?.getD (0, 0)).2 = y := ⟨_, rfl⟩
      rw [hx] at xx1
      rw [hy] at xx2
      have X1 := hd xx1
      have X2 := hd xx2
      have HB1 := hd hb1
      have HB2 := hd hb2
      have x1 := (hbe.cell (p := ⟨g1, k, none⟩) hg1).trans xx1
      have x2 := (hbe.cell (p := ⟨g2, k, none⟩) hg2).trans xx2
      have y1 := (hbe.cell (p := ⟨b, 1, none⟩) hbl).trans hb1
      have y2 := (hbe.cell (p := ⟨b, 2, none⟩) hbl).trans hb2
      clear xx1 xx2
      have HX := hd hx
      have HY := hd hy
      have Q1 := hd q1.own_
      have Q2 := hd q2.own_
      clear hx hy hc1 hc2 hr1 hr2 hap hb1 hb2
      by_cases hw : x = who
      · have nb : (x != who) = false := by simp [hw]
        have HK := hd (keep_same al who k (by rw [HN.o]; exact hlt) (by rw [HX.o]; exact hw))
        have HM1 : Hd (m = (keepers (al.take (k + 1)) who).length) := hd (by rw [HK.o]; exact HM.o)
        have Z1 : Hd (Row wr (From w.heap.size) 3 1 B1 m d1 (iEnc ((keepers (al.take (k + 1)) who).map (·.1)))) := hd (by rw [HK.o]; exact q1)
        have Z2 : Hd (Row wr (From w.heap.size) 3 1 B2 m d2 (iEnc ((keepers (al.take (k + 1)) who).map (·.2)))) := hd (by rw [HK.o]; exact q2)
        clear hw
        go_wp2
        go_roundw
        case rel => exact ⟨k + 1, m, B1, B2, d1, d2, by go_num, by omega, rfl, rfl, by omega, HM1, Z1.o, Z2.o, hq, hbe⟩
        case measure => simp [intOf]; omega
      · have nb : (x != who) = true := by simpa using hw
        have HK := hd (keep_more al who k (by rw [HN.o]; exact hlt) (by rw [HX.o]; exact hw))
        have HM1 : Hd (m + 1 = (keepers (al.take (k + 1)) who).length) := hd (by rw [HK.o, HM.o]; simp)
        have HN1 : Hd (iEnc ((keepers (al.take (k + 1)) who).map (·.1)) = iEnc ((keepers (al.take k) who).map (·.1)) ++ [.int .i64 x]) := hd (by rw [HK.o, ← HX.o]; simp [iEnc])
        have HN2 : Hd (iEnc ((keepers (al.take (k + 1)) who).map (·.2)) = iEnc ((keepers (al.take k) who).map (·.2)) ++ [.int .i64 y]) := hd (by rw [HK.o, ← HY.o]; simp [iEnc])
        clear hw
        have hmm : m + 1 ≤ maxLen := by unfold maxLen; omega
        have hby : (m + 1) * 8 ≤ 140737488355328 := by omega
        have LT1 := hd (of_lt q1)
        have LT2 := hd (of_lt q2)
        have DJ2 := hd (fun k h1 h2 => hq.o k h2 h1 : ∀ k, Of B2 k → ¬ Of B1 k)
        have DJ1 := hq
        have hsz2 := hsz
        go_wp2_with fail
        go_region_held3 (fun w' => (w'.cell? ⟨b, 1, none⟩ = some (.slice (some ⟨g1, 0, none⟩) n c1) ∧ w'.cell? ⟨b, 2, none⟩ = some (.slice (some ⟨g2, 0, none⟩) n c2)) ∧ w'.cell? ⟨g1, k, none⟩ = some (.int .i64 x) ∧ w'.cell? ⟨g2, k, none⟩ = some (.int .i64 y)) (with_reducible first
            | (refine cells4 ?_ HB1.o HB2.o X1.o X2.o hbl hg1 hg2
               repeat (first | exact BW1.o | exact BW2.o | exact hbe | refine balloc ?_ rfl _ | refine bdrw ?_)))
         (first
          | ((refine step_append_any (by rfl) _ _ 27 (by rfl) (Of B1) 3 i0 (.int .i64 0) 1 8 Try.underlying27 hi hz0 hz1 hz2 rfl B1 m d1 (iEnc ((keepers (al.take k) who).map (·.1))) (by rfl) _ 1 1 [.int .i64 x] (by rfl) rfl (by simp [Value.oneCell']) (by omega) hmm hby ?_ ?_ ?_
              · (with_reducible (repeat (first | exact Q1.o | refine R1.o ?_ | refine Row.alloc ?_ _ | refine Row.drew ?_)))
              · (refine cells_at (t := 3) (cs := #[.int .i64 x]) ?_ rfl
                 repeat (first | (with_reducible refine Blk.new_ _ _ ?_ _ _; simp; done) | with_reducible refine Blk.alloc ?_ _ | with_reducible refine Blk.drew ?_ | with_reducible refine KB1.o _ _ _ ?_ (by simp) | with_reducible refine KB2.o _ _ _ ?_ (by simp)))
              intro E1 e1 w1 z1 zc1
              have BW1 : Hd (Below w.heap.size w w1) := hd (bchg (by with_reducible (repeat (first | exact BW2.o | exact hbe | refine balloc ?_ rfl _ | refine bdrw ?_))) zc1 (fun k hk => q1.of_sub k hk) rfl)
              have KB1 := hd (fun g t cs (hB : Blk _ g t cs) (hg : wr.heap.size ≤ g) => hB.chg zc1 (fun hk => by have := LT1.o g hk; omega))
              have R2 := hd (fun (h : Row _ (Of B2) 3 1 B2 m d2 (iEnc ((keepers (al.take k) who).map (·.2)))) => h.chg zc1 DJ2.o)
              have Z1 := hd z1
              have ZC1 := hd zc1
              clear z1 zc1))
          | ((refine step_append_any (by rfl) _ _ 27 (by rfl) (Of B2) 3 i0 (.int .i64 0) 1 8 Try.underlying27 hi hz0 hz1 hz2 rfl B2 m d2 (iEnc ((keepers (al.take k) who).map (·.2))) (by rfl) _ 1 1 [.int .i64 y] (by rfl) rfl (by simp [Value.oneCell']) (by omega) hmm hby ?_ ?_ ?_
              · (with_reducible (repeat (first | exact Q2.o | refine R2.o ?_ | refine Row.alloc ?_ _ | refine Row.drew ?_)))
              · (refine cells_at (t := 3) (cs := #[.int .i64 y]) ?_ rfl
                 repeat (first | (with_reducible refine Blk.new_ _ _ ?_ _ _; simp; done) | with_reducible refine Blk.alloc ?_ _ | with_reducible refine Blk.drew ?_ | with_reducible refine KB1.o _ _ _ ?_ (by simp) | with_reducible refine KB2.o _ _ _ ?_ (by simp)))
              intro E2 e2 w2 z2 zc2
              have BW2 : Hd (Below w.heap.size w w2) := hd (bchg (by with_reducible (repeat (first | exact BW1.o | exact hbe | refine balloc ?_ rfl _ | refine bdrw ?_))) zc2 (fun k hk => q2.of_sub k hk) rfl)
              have KB2 := hd (fun g t cs (hB : Blk _ g t cs) (hg : wr.heap.size ≤ g) => hB.chg zc2 (fun hk => by have := LT2.o g hk; omega))
              have R1 := hd (fun (h : Row _ (Of B1) 3 1 B1 m d1 (iEnc ((keepers (al.take k) who).map (·.1)))) => h.chg zc2 DJ1.o)
              have Z2 := hd z2
              have ZC2 := hd zc2
              clear z2 zc2)))
        all_goals first
          | (have FF := hd (two_fin hbe.size q1 q2 hq.o HN1.o HN2.o (by simp <;> omega) Z1.o (by with_reducible (repeat (first | exact Chg.refl _ _ | refine Chg.alloc ?_ _ | refine Chg.drew ?_))) ZC1.o.size Z2.o ZC2.o)
             clear Z1 ZC1 Z2 ZC2 BW1 KB1 KB2 R1 R2
             go_wp2
             go_roundw
             case rel => exact ⟨k + 1, m + 1, E1, E2, e1, e2, by go_num, by omega, rfl, rfl, by omega, HM1, FF.o.1, FF.o.2.1, hd FF.o.2.2, BW2.o⟩
             case measure => simp [intOf]; omega)
          | (have FF := hd (two_fin hbe.size q2 q1 DJ2.o HN2.o HN1.o (by simp <;> omega) Z2.o (by with_reducible (repeat (first | exact Chg.refl _ _ | refine Chg.alloc ?_ _ | refine Chg.drew ?_))) ZC2.o.size Z1.o ZC1.o)
             clear Z1 ZC1 Z2 ZC2 BW2 KB1 KB2 R1 R2
             go_wp2
             go_roundw
             case rel => exact ⟨k + 1, m + 1, E1, E2, e1, e2, by go_num, by omega, rfl, rfl, by omega, HM1, FF.o.2.1, FF.o.1, hd (fun k h1 h2 => FF.o.2.2 k h2 h1), BW1.o⟩
             case measure => simp [intOf]; omega)
    · have hke : k = n := by omega
      subst hke
      have HT : Hd (keepers (al.take k) who = keepers al who) := hd (by rw [List.take_of_length_le (by rw [HN.o]; exact Nat.le_refl _)])
      have hbr := HB.o.below hbe hbl
      have y1 := hbr.at_ 1 rfl
      have y2 := hbr.at_ 2 rfl
      have f1 := hbr.frozen 1
      have f2 := hbr.frozen 2
      have HBR := hd hbr
      have Z1 := hd q1
      have Z2 := hd q2
      have HE := hd hbe
      clear hbr q1 q2 hbe hb1 hb2 hap hr1 hr2
      go_wp2
      go_ret
      have hm' : m = (keepers al who).length := by rw [HM.o, HT.o]
      have h1 := Z1.o
      have h2 := Z2.o
      have hh := HE.o
      have hbb := HBR.o
      rw [HT.o] at h1 h2
      subst hm'
      have n1 : ∀ a, B1 = some a → a.block ≠ b := fun a ha => by
        have : w.heap.size ≤ a.block := h1.fp a ha
        omega
      have n2 : ∀ a, B2 = some a → a.block ≠ b := fun a ha => by
        have : w.heap.size ≤ a.block := h2.fp a ha
        omega
      refine ⟨by rw [HN.o]; rfl, ⟨B1, d1, B2, d2, (hbb.set_ 1 _).set_ 2 _, ((h1.far n1 _).far n1 _).mono fun k hk => .inr hk, ((h2.far n2 _).far n2 _).mono fun k hk => .inr hk, hq.o, .inl hS⟩, ?_⟩
      exact ((Chg.of_below S hh).setCell (.inl hS) _).setCell (.inl hS) _

end Go.Proofs.Ytdnmeffglpmlaaa
