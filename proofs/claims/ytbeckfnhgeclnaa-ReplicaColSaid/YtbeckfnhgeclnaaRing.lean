/-
  The ring of changes: New, Push.
-/
import Derived.Test.YtbeckfnhgeclnaaAppN
import Derived.Test.YtbeckfnhgeclnaaColP
import Derived.Test.YtbeckfnhgeclnaaRng
import Derived.Test.YtbeckfnhgeclnaaProg
import Derived.Deep.RegionLaw
import Derived.Deep.CutRange
import Derived.Deep.Cut
import Derived.BigQuiet
import Derived.Deep.QuietTactic
set_option linter.unusedVariables false
set_option linter.unusedSimpArgs false
namespace Go.Proofs.Ytbeckfnhgeclnaa
open Go.RowKit

/-- A change: its token, its UID. -/
abbrev Ch := Int × List UInt8
def chEnc (x : Ch) : List Value := [.int .i64 x.1, .string (bs x.2)]
def chsEnc (l : List Ch) : List Value := l.flatMap chEnc
theorem chEnc_len (x : Ch) : (chEnc x).length = 2 := rfl
theorem chEnc_one (x : Ch) : ∀ u ∈ chEnc x, u.oneCell' = true := by
  intro u hu
  simp [chEnc] at hu
  rcases hu with rfl | rfl <;> rfl
theorem chsEnc_at (l : List Ch) (i : Nat) (h : i < l.length) (j : Nat) (hj : j < 2) : (chsEnc l)[i * 2 + j]? = (chEnc l[i])[j]? := flat_at chEnc 2 chEnc_len l i h j hj
theorem chsEnc_len (l : List Ch) : (chsEnc l).length = l.length * 2 := flat_length chEnc 2 chEnc_len l
theorem chInfo : (Try.prog.info? 106).map (fun i => (i.zero, i.size, i.bytes)) = some (some (.agg #[.int .i64 0, .string ⟨#[]⟩]), 2, 24) := by kernel_rfl

def RingR (w : World) (S : Nat → Prop) (b : Nat) (cap : Int) (l : List Ch) : Prop :=
  ∃ A c, Blk w b 145 #[.int .i64 cap, .slice A l.length c] ∧ Row w S 106 2 A l.length c (chsEnc l) ∧ S b
theorem RingR.lt {w : World} {S : Nat → Prop} {b : Nat} {cap : Int} {l : List Ch} (h : RingR w S b cap l) : b < w.heap.size := by
  obtain ⟨A, c, hb, _⟩ := h
  exact hb.lt
theorem RingR.mono {w : World} {S T : Nat → Prop} {b : Nat} {cap : Int} {l : List Ch} (h : RingR w S b cap l) (hs : ∀ k, S k → T k) : RingR w T b cap l := by
  obtain ⟨A, c, hb, hr, hS⟩ := h
  exact ⟨A, c, hb, hr.mono hs, hs _ hS⟩
theorem RingR.chg {w w' : World} {S T : Nat → Prop} {b : Nat} {cap : Int} {l : List Ch} (h : RingR w S b cap l) (hc : Chg T w w') (hd : ∀ k, S k → ¬ T k) : RingR w' S b cap l := by
  obtain ⟨A, c, hb, hr, hS⟩ := h
  exact ⟨A, c, hb.chg hc (hd _ hS), hr.chg hc hd, hS⟩
theorem RingR.below {w w' : World} {S : Nat → Prop} {b : Nat} {cap : Int} {l : List Ch} (h : RingR w S b cap l) (hb : Below w.heap.size w w') : RingR w' S b cap l :=
  h.chg (Chg.of_below Non hb) (fun _ _ => id)
theorem RingR.shrink {w : World} {S : Nat → Prop} {b : Nat} {cap : Int} {l : List Ch} (h : RingR w S b cap l) : RingR w (fun k => S k ∧ k < w.heap.size) b cap l := by
  obtain ⟨A, c, hb, hr, hS⟩ := h
  exact ⟨A, c, hb, ⟨hr.own, fun a ha => ⟨hr.fp a ha, hr.lt ha⟩⟩, hS, hb.lt⟩
/-- The ring's blocks are none of another kind's. -/
theorem RingR.avoid {w : World} {S : Nat → Prop} {b g : Nat} {cap : Int} {l : List Ch} {t : TypeId} {cs : Array Value} (h : RingR w S b cap l) (hb : Blk w g t cs) (h1 : 145 ≠ t) (h2 : 106 ≠ t) : RingR w (fun q => S q ∧ q ≠ g) b cap l := by
  obtain ⟨A, c, hm, hr, hS⟩ := h
  exact ⟨A, c, hm, ⟨hr.own, fun a ha => ⟨hr.fp a ha, hr.ne_blk hb h2 a ha⟩⟩, hS, hm.ne_ hb h1⟩

theorem rgnew_calls (w : World) (S : Nat → Prop) (m : Int) (hS : S w.heap.size) :
    Calls Try.prog 71 #[.int .i64 m] w fun e w' => e = .returned (.pointer (some ⟨w.heap.size, 0, none⟩)) ∧ RingR w' S w.heap.size (max m 1) [] ∧ Below w.heap.size w w' := by
  go_enter Try.func71, Try.ntmps71
  go_wp2
  all_goals
    go_ret
    refine ⟨rfl, ⟨none, 0, ?_, Row.nil _ _ _ _, hS⟩, (Below.refl _ _).alloc (Nat.le_refl _) _⟩
    first
      | (rw [show max m 1 = m by omega]; exact Blk.new _ _ _)
      | (rw [show max m 1 = 1 by omega]; exact Blk.new _ _ _)

theorem bal2 {w : World} {B : Nat} (o : Obj) (p : Obj) (h : B = w.heap.size) : Below B w ((w.alloc o).alloc p) := by
  subst h
  exact ((Below.refl _ w).alloc (Nat.le_refl _) _).alloc (by simp) _

theorem ring_close {w w2 : World} {S S2 : Nat → Prop} {b g n e : Nat} {cap : Int} {sl0 v0 v1 : Value} {E : Option Addr} {l' : List Ch} (hb : Blk w2 b 145 #[.int .i64 cap, sl0]) (hr : Row w2 S2 106 2 E n e (chsEnc l')) (hn : l'.length = n) (hS : S b) (hS2 : ∀ q, S2 q → (S q ∨ w.heap.size ≤ q) ∧ q ≠ g) (hgb : b ≠ g) :
    RingR (((w2.setCell ⟨b, 1, none⟩ (.slice E n e)).setCell ⟨g, 0, none⟩ v0).setCell ⟨g, 1, none⟩ v1) (Plus S w.heap.size) b cap l' := by
  subst hn
  refine ⟨E, e, ?_, ?_, .inl hS⟩
  · exact ((hb.set_ 1 _).far (p := ⟨g, 0, none⟩) hgb _).far (p := ⟨g, 1, none⟩) hgb _
  · refine (((hr.far (p := ⟨b, 1, none⟩) (hr.ne_blk hb (by decide)) _).far (p := ⟨g, 0, none⟩) (fun a ha => (hS2 _ (hr.fp a ha)).2) _).far (p := ⟨g, 1, none⟩) (fun a ha => (hS2 _ (hr.fp a ha)).2) _).mono fun q hq => (hS2 q hq).1
theorem ring_chg {w w2 : World} {S : Nat → Prop} {b g : Nat} {v0 v1 v2 : Value} (h : Chg S w w2) (hS : S b) (hg : w.heap.size ≤ g) :
    Chg S w (((w2.setCell ⟨b, 1, none⟩ v0).setCell ⟨g, 0, none⟩ v1).setCell ⟨g, 1, none⟩ v2) := ((h.setCell (.inl hS) _).setCell (.inr hg) _).setCell (.inr hg) _

set_option maxRecDepth 100000 in
set_option maxHeartbeats 4000000 in
/-- There is room. -/
theorem push_room (w : World) (S : Nat → Prop) (b : Nat) (cap : Int) (l : List Ch) (x : Ch) (h : RingR w S b cap l) (hl : (l.length : Int) ≠ cap) (hb : l.length ≤ 1000000) :
    Calls Try.prog 74 #[.pointer (some ⟨b, 0, none⟩), .agg (chEnc x).toArray] w fun e w' => e = .returned (.tuple #[.agg (chEnc (0, [])).toArray, .bool false]) ∧ RingR w' (Plus S w.heap.size) b cap (l ++ [x]) ∧ Chg S w w' := by
  obtain ⟨i0, hi, hz0, hz1, hz2⟩ := info_parts chInfo
  obtain ⟨A, c, hm, hr, hS⟩ := h
  have hbl := hm.lt
  obtain ⟨tk, u⟩ := x
  simp only [chEnc]
  have h0 := hm.at_ 0 rfl
  have h1 := hm.at_ 1 rfl
  have HM := hd hm
  have HR := hd hr
  obtain ⟨n, hn⟩ : ∃ n, l.length = n := ⟨_, rfl⟩
  have HN := hd hn
  rw [hn] at hl hb h1
  have hne : ((n : Int) == cap) = false := by simpa using hl
  have hfar : Hd (¬ Of A b) := hd (fun hk => by
    cases A with
    | none => exact Of.none hk
    | some a => exact hr.ne_blk hm (by decide) a rfl hk.some_.symm)
  have hnew : Hd (∀ k, w.heap.size ≤ k → ¬ Of A k) := hd (fun k hk2 hk => by
    cases A with
    | none => exact Of.none hk
    | some a => have := hr.lt rfl; have := hk.some_; omega)
  have hone := chEnc_one (tk, u)
  simp only [chEnc] at hone
  have HONE := hd hone
  rw [hn] at HM HR
  clear hm hr hl hn hone
  go_enter Try.func74, Try.ntmps74
  go_wp2_with fail
  go_quiet (fail)
  go_wp2_with fail
  obtain ⟨wq, hwq⟩ : ∃ wq, wq = ((w.alloc (.cells #[.int .i64 tk, .string (bs u)] 106)).alloc (.cells #[.int .i64 0, .string ⟨#[]⟩] 106)).drewN nq := ⟨_, rfl⟩
  have HMq : Hd (Blk wq b 145 #[.int .i64 cap, .slice A n c]) := hd (by rw [hwq]; exact ((HM.o.alloc _).alloc _).drewN nq)
  have HRq : Hd (RowO wq (Of A) 106 2 A n c (chsEnc l)) := hd (by rw [hwq]; exact .inl (((HR.o.own_.alloc _).alloc _).drewN nq))
  have hxq : Blk wq w.heap.size 106 #[.int .i64 tk, .string (bs u)] := by rw [hwq]; exact ((Blk.new w 106 _).alloc _).drewN nq
  have hyq : Blk wq (w.heap.size + 1) 106 #[.int .i64 0, .string ⟨#[]⟩] := by rw [hwq]; exact (Blk.new_ _ _ (by simp) _ _).drewN nq
  have HCq : Hd (Chg S w wq) := hd (by rw [hwq]; exact (((Chg.refl S w).alloc _).alloc _).drewN nq)
  have hszq : wq.heap.size = w.heap.size + 2 := by rw [hwq]; simp
  have HSZ := hd hszq
  have x0 := hxq.at_ 0 rfl
  have x1 := hxq.at_ 1 rfl
  have m1 := HMq.o.at_ 1 rfl
  have HYq := hd hyq
  have hmm : n + 1 ≤ maxLen := by unfold maxLen; omega
  have hby : (n + 1) * 24 ≤ 140737488355328 := by omega
  have hblq := HMq.o.lt
  have hxlq := hxq.lt
  have hylq := HYq.o.lt
  rw [← hwq]
  clear hwq hxq hyq h0 h1 hne hszq HM
  go_region_law (
    (refine step_append_or (by rfl) _ _ 143 (by rfl) (Of A) 106 i0 (.agg #[.int .i64 0, .string ⟨#[]⟩]) 2 24 Try.underlying143 hi hz0 hz1 hz2 rfl A n c (chsEnc l) (by rfl) _ 1 1 [.int .i64 tk, .string (bs u)] (by rfl) rfl HONE.o (by omega) hmm hby ?_ ?_ ?_
     · (with_reducible (repeat (first | exact HRq.o | refine RowO.alloc ?_ _ | refine RowO.drew ?_)))
     · (refine cells_at (t := 106) (cs := #[.int .i64 tk, .string (bs u)]) ?_ rfl
        repeat (first | (with_reducible refine Blk.new_ _ _ ?_ _ _; simp; done) | with_reducible refine Blk.alloc ?_ _ | with_reducible refine Blk.drew ?_))
     intro E1 e1 w2 z1 zc1
     have bx : Blk _ b 145 #[.int .i64 cap, .slice A n c] := Blk.chg (by with_reducible (repeat (first | exact HMq.o | refine Blk.alloc ?_ _ | refine Blk.drew ?_))) zc1 hfar.o
     have by_ : Blk _ (w.heap.size + 1) 106 #[.int .i64 0, .string ⟨#[]⟩] := Blk.chg (by with_reducible (repeat (first | exact HYq.o | refine Blk.alloc ?_ _ | refine Blk.drew ?_))) zc1 (hnew.o _ (by omega))
     have v1 := bx.at_ 1 rfl
     have g1 := bx.frozen 1
     have BX := hd bx
     have BY := hd by_
     have y0 := by_.at_ 0 rfl
     have y1 := by_.at_ 1 rfl
     have yf0 := by_.frozen 0
     have yf1 := by_.frozen 1
     have Z1 := hd z1
     have ZC1 := hd zc1
     clear z1 zc1 bx by_))
  all_goals
    have hne2 : b ≠ w.heap.size + 1 := by omega
    go_wp2
    refine bodyPost_ret (v := .tuple #[.agg #[.int .i64 0, .string ⟨#[]⟩], .bool false]) ?_ rfl ⟨rfl, ?_, ?_⟩
    · simp [results, Try.results74, go_sem, *]
    · refine ring_close BX.o (l' := l ++ [(tk, u)]) (by
        have h := Z1.o
        rw [show chsEnc (l ++ [(tk, u)]) = chsEnc l ++ [.int .i64 tk, .string (bs u)] by simp [chsEnc, chEnc]]
        exact h) (by rw [List.length_append, HN.o]; rfl) hS (fun q hq => ?_) hne2
      have := HSZ.o
      rcases hq with hq | hq
      · refine ⟨.inl (HR.o.of_sub q hq), fun h => hnew.o q (by omega) hq⟩
      · simp at hq
        exact ⟨.inr (by omega), by omega⟩
    · exact ring_chg (Chg.trans (by with_reducible (repeat (first | exact HCq.o | refine Chg.alloc ?_ _ | refine Chg.drew ?_))) ZC1.o (fun q hq => .inl (HR.o.of_sub q hq))) hS (by omega)

set_option maxRecDepth 100000 in
set_option maxHeartbeats 4000000 in
/-- It is full: the first one goes. -/
theorem push_full (w : World) (S : Nat → Prop) (b : Nat) (cap : Int) (l : List Ch) (x y : Ch) (h : RingR w S b cap (y :: l)) (hl : ((y :: l).length : Int) = cap) (hb : (y :: l).length ≤ 1000000) :
    Calls Try.prog 74 #[.pointer (some ⟨b, 0, none⟩), .agg (chEnc x).toArray] w fun e w' => e = .returned (.tuple #[.agg (chEnc y).toArray, .bool true]) ∧ RingR w' (Plus S w.heap.size) b cap (l ++ [x]) ∧ Chg S w w' := by
  obtain ⟨i0, hi, hz0, hz1, hz2⟩ := info_parts chInfo
  obtain ⟨A, c, hm, hr, hS⟩ := h
  have hbl := hm.lt
  obtain ⟨tk, u⟩ := x
  obtain ⟨tk0, u0⟩ := y
  simp only [chEnc]
  have h0 := hm.at_ 0 rfl
  have h1 := hm.at_ 1 rfl
  have hcap := hr.cap
  obtain ⟨n, hn⟩ : ∃ n, l.length = n := ⟨_, rfl⟩
  have HN := hd hn
  have hn1 : ((tk0, u0) :: l).length = n + 1 := by rw [List.length_cons, hn]
  rw [hn1] at hl hb h1 hm hr hcap
  unfold maxLen at hcap
  have HM := hd hm
  have HR := hd hr
  obtain ⟨g, rfl, hgS, hgl, hnc, _, hcl, _⟩ := hr.at_ (by omega)
  have r0 : w.cell? ⟨g, 0, none⟩ = some (.int .i64 tk0) := hcl 0 _ rfl
  have r1 : w.cell? ⟨g, 1, none⟩ = some (.string (bs u0)) := hcl 1 _ rfl
  have HCL : Hd (∀ (W : World), Chg S w W → (∀ k, Of (some ⟨g, 0, none⟩) k → W.heap[k]? = w.heap[k]?) → True) := hd (fun _ _ _ => trivial)
  have hgb : g ≠ b := hr.ne_blk hm (by decide) _ rfl
  have hne : ((n : Int) + 1 == cap) = true := by simpa using hl
  have hone := chEnc_one (tk, u)
  simp only [chEnc] at hone
  have HONE := hd hone
  clear hm hr hl hn hn1 hone hcl
  go_enter Try.func74, Try.ntmps74
  go_wp2_with fail
  go_quiet (fail)
  go_wp2_with fail
  obtain ⟨wq, hwq⟩ : ∃ wq, wq = ((((w.alloc (.cells #[.int .i64 tk, .string (bs u)] 106)).alloc (.cells #[.int .i64 0, .string ⟨#[]⟩] 106)).drewN nq).setCell ⟨w.heap.size + 1, 0, none⟩ (.int .i64 tk0)).setCell ⟨w.heap.size + 1, 1, none⟩ (.string (bs u0)) := ⟨_, rfl⟩
  have HMq : Hd (Blk wq b 145 #[.int .i64 cap, .slice (some ⟨g, 0, none⟩) (n + 1) c]) := hd (by rw [hwq]; exact ((((HM.o.alloc _).alloc _).drewN nq).far (p := ⟨w.heap.size + 1, 0, none⟩) (by show b ≠ w.heap.size + 1; omega) _).far (p := ⟨w.heap.size + 1, 1, none⟩) (by show b ≠ w.heap.size + 1; omega) _)
  have HRq : Hd (Row wq (Of (some ⟨g, 0, none⟩)) 106 2 (some ⟨g, 0, none⟩) (n + 1) c (chsEnc ((tk0, u0) :: l))) := hd (by
    rw [hwq]
    refine ((((HR.o.own_.alloc _).alloc _).drewN nq).far (p := ⟨w.heap.size + 1, 0, none⟩) (fun a ha => ?_) _).far (p := ⟨w.heap.size + 1, 1, none⟩) (fun a ha => ?_) _
    · injection ha with ha; subst ha; show g ≠ w.heap.size + 1; omega
    · injection ha with ha; subst ha; show g ≠ w.heap.size + 1; omega)
  have hxq : Blk wq w.heap.size 106 #[.int .i64 tk, .string (bs u)] := by rw [hwq]; exact ((((Blk.new w 106 _).alloc _).drewN nq).far (p := ⟨w.heap.size + 1, 0, none⟩) (by show w.heap.size ≠ w.heap.size + 1; omega) _).far (p := ⟨w.heap.size + 1, 1, none⟩) (by show w.heap.size ≠ w.heap.size + 1; omega) _
  have hyq : Blk wq (w.heap.size + 1) 106 #[.int .i64 tk0, .string (bs u0)] := by rw [hwq]; exact (((Blk.new_ _ _ (by simp) _ _).drewN nq).set_ 0 _).set_ 1 _
  have HCq : Hd (Chg S w wq) := hd (by rw [hwq]; exact ((((((Chg.refl S w).alloc _).alloc _).drewN nq).setCell (p := ⟨w.heap.size + 1, 0, none⟩) (.inr (Nat.le_succ _)) _).setCell (p := ⟨w.heap.size + 1, 1, none⟩) (.inr (Nat.le_succ _)) _))
  have hszq : wq.heap.size = w.heap.size + 2 := by rw [hwq, size_setCell, size_setCell]; simp
  have HSZ := hd hszq
  have x0 := hxq.at_ 0 rfl
  have x1 := hxq.at_ 1 rfl
  have m1 := HMq.o.at_ 1 rfl
  have mf1 := HMq.o.frozen 1
  have HYq := hd hyq
  have HXq := hd hxq
  have hmm : n + 1 ≤ maxLen := by unfold maxLen; omega
  have hby : (n + 1) * 24 ≤ 140737488355328 := by omega
  have hblq := HMq.o.lt
  have hxlq := hxq.lt
  have hylq := HYq.o.lt
  rw [← hwq]
  clear hwq hxq hyq h0 h1 hne hszq HM r0 r1 HCL
  go_cut [] from 22 to 36 (fun wx => ∃ (A4 : Option Addr) (c4 : Nat), Hd (Blk wx b 145 #[.int .i64 cap, .slice A4 n c4]) ∧ Hd (RowO wx (fun q => w.heap.size + 2 ≤ q) 106 2 A4 n c4 (chsEnc l)) ∧ Hd (Blk wx w.heap.size 106 #[.int .i64 tk, .string (bs u)]) ∧ Hd (Blk wx (w.heap.size + 1) 106 #[.int .i64 tk0, .string (bs u0)]) ∧ Hd (Chg S w wx) ∧ Hd (wx.heap.size ≥ w.heap.size + 2))
  case first =>
    by_cases hn0 : n = 0
    · subst hn0
      have hl0 : l = [] := List.eq_nil_of_length_eq_zero HN.o
      subst hl0
      have fin : ∀ (a : Option Addr), Hd (Blk ((wq.setCell ⟨b, 1, none⟩ (.slice a 0 0)).drew) b 145 #[.int .i64 cap, .slice a 0 0]) ∧ Hd (RowO ((wq.setCell ⟨b, 1, none⟩ (.slice a 0 0)).drew) (fun q => w.heap.size + 2 ≤ q) 106 2 a 0 0 (chsEnc [])) ∧ Hd (Blk ((wq.setCell ⟨b, 1, none⟩ (.slice a 0 0)).drew) w.heap.size 106 #[.int .i64 tk, .string (bs u)]) ∧ Hd (Blk ((wq.setCell ⟨b, 1, none⟩ (.slice a 0 0)).drew) (w.heap.size + 1) 106 #[.int .i64 tk0, .string (bs u0)]) ∧ Hd (Chg S w ((wq.setCell ⟨b, 1, none⟩ (.slice a 0 0)).drew)) ∧ Hd (((wq.setCell ⟨b, 1, none⟩ (.slice a 0 0)).drew).heap.size ≥ w.heap.size + 2) := fun a =>
        ⟨hd (HMq.o.set_ 1 _).drew, hd (.inr ⟨rfl, rfl, rfl⟩), hd (HXq.o.far (p := ⟨b, 1, none⟩) (by show w.heap.size ≠ b; omega) _).drew, hd (HYq.o.far (p := ⟨b, 1, none⟩) (by show w.heap.size + 1 ≠ b; omega) _).drew, hd (HCq.o.setCell (.inl hS) _).drew, hd (by show (wq.setCell _ _).heap.size ≥ _; rw [size_setCell, HSZ.o]; exact Nat.le_refl _)⟩
      have FIN := hd fin
      clear fin
      by_cases hc1 : c = 1
      · subst hc1
        go_region_law (refine step_append_nothing (by rfl) _ _ 143 (by rfl) 106 i0 Try.underlying143 hi _ 0 0 (Nat.le_refl _) (by rfl) _ _ (by rfl) ?_)
        all_goals
          go_wp2_with fail
          go_meet
          exact ⟨_, _, FIN.o _⟩
      · have hc2 : decide (c = 1) = false := by simpa using hc1
        go_region_law (refine step_append_nothing (by rfl) _ _ 143 (by rfl) 106 i0 Try.underlying143 hi _ 0 0 (Nat.le_refl _) (by rfl) _ _ (by rfl) ?_)
        all_goals
          go_wp2_with fail
          go_meet
          exact ⟨_, _, FIN.o _⟩
    · have hc1 : ¬ c = 1 := by omega
      have hn2 : 0 < n := by omega
      have hni : (1 : Int) ≤ (n : Int) + 1 := by omega
      have HAD : Hd (∀ (W : World), Row W (Of (some ⟨g, 0, none⟩)) 106 2 (some ⟨g, 0, none⟩) (n + 1) c (chsEnc ((tk0, u0) :: l)) → ∀ j v, (chsEnc l)[j]? = some v → W.cell? ((⟨g, 2, none⟩ : Addr).add j) = some v) := hd (fun W hW j v hv => by
        obtain ⟨g', hA, _, _, _, _, hcl, _⟩ := hW.at_ (by omega)
        injection hA with hA
        injection hA with hA
        subst hA
        have := hcl (2 + j) v (by rw [show chsEnc ((tk0, u0) :: l) = chEnc (tk0, u0) ++ chsEnc l from rfl, List.getElem?_append_right (by simp [chEnc])]; simpa [chEnc] using hv)
        rw [Addr.add_lit]
        exact this)
      have hln : (chsEnc l).length = n * 2 := by rw [chsEnc_len, HN.o]
      have HLN := hd hln
      have hmn : 0 + n ≤ maxLen := by omega
      have hmb : (0 + n) * 24 ≤ 140737488355328 := by omega
      clear hln hn0
      go_region_law (
        (refine step_append_new (by rfl) _ _ 143 (by rfl) 106 i0 (.agg #[.int .i64 0, .string ⟨#[]⟩]) 2 24 Try.underlying143 hi hz0 hz1 hz2 rfl (some ⟨g, 0, none⟩) 0 0 [] (by rfl) (by rfl) (fun h => by cases h) ⟨g, 2, none⟩ n (c - 1) (chsEnc l) (by simp [Act.eval, Act.put]) HLN.o hn2 (by omega) hmn hmb (fun b hb j u hu => by simp at hu) (HAD.o _ (by with_reducible (repeat (first | exact HRq.o | refine Row.drew ?_)))) ?_
         intro E1 e1 w2 z1 zc1
         have bx : Blk w2 b 145 #[.int .i64 cap, .slice (some ⟨g, 0, none⟩) (n + 1) c] := Blk.below (by with_reducible (repeat (first | exact HMq.o | refine Blk.drew ?_))) zc1 hblq
         have by_ : Blk w2 (w.heap.size + 1) 106 #[.int .i64 tk0, .string (bs u0)] := Blk.below (by with_reducible (repeat (first | exact HYq.o | refine Blk.drew ?_))) zc1 hylq
         have bx_ : Blk w2 w.heap.size 106 #[.int .i64 tk, .string (bs u)] := Blk.below (by with_reducible (repeat (first | exact HXq.o | refine Blk.drew ?_))) zc1 hxlq
         have v1 := bx.at_ 1 rfl
         have g1 := bx.frozen 1
         have BX := hd bx
         have BY := hd by_
         have BXX := hd bx_
         have Z1 : Hd (Row w2 (From wq.heap.size) 106 2 E1 n e1 (chsEnc l)) := hd (by simpa using z1)
         have SZ1 : Hd (wq.heap.size ≤ w2.heap.size) := hd zc1.size
         have ZC1 : Hd (Chg S w w2) := hd (Chg.then_below (by with_reducible (repeat (first | exact HCq.o | refine Chg.drew ?_))) zc1)
         clear z1 zc1 bx by_ bx_))
      all_goals
        go_wp2_with fail
        go_meet
        have hz : 0 + n = n := Nat.zero_add n
        have hz2 := HSZ.o
        refine ⟨E1, e1, hd ?_, hd (.inl ?_), hd ?_, hd ?_, hd (ZC1.o.setCell (.inl hS) _), hd ?_⟩
        · first | exact BX.o.set_ 1 _ | (rw [hz]; exact BX.o.set_ 1 _)
        · refine (Z1.o.mono fun q hq => ?_).far (Z1.o.ne_blk BX.o (by decide)) _
          have : wq.heap.size ≤ q := hq
          show w.heap.size + 2 ≤ q
          omega
        · exact BXX.o.far (p := ⟨b, 1, none⟩) (by show w.heap.size ≠ b; omega) _
        · exact BY.o.far (p := ⟨b, 1, none⟩) (by show w.heap.size + 1 ≠ b; omega) _
        · rw [size_setCell]
          have := SZ1.o
          omega
  case rest =>
    obtain ⟨A4, c4, HM4, HR4, HX4, HY4, HC4, HS4⟩ := hcut
    have HT4 : Hd (∀ q, w.heap.size + 2 ≤ q → w.heap.size + 2 ≤ q) := hd (fun _ h => h)
    have HF4 : Hd (¬ (fun q => w.heap.size + 2 ≤ q) b) := hd (fun h => by have h : w.heap.size + 2 ≤ b := h; omega)
    have HG4 : Hd (¬ (fun q => w.heap.size + 2 ≤ q) (w.heap.size + 1)) := hd (fun h => by have h : w.heap.size + 2 ≤ w.heap.size + 1 := h; omega)
    have x0 := HX4.o.at_ 0 rfl
    have x1 := HX4.o.at_ 1 rfl
    have m1 := HM4.o.at_ 1 rfl
    have hblq := HM4.o.lt
    have hxlq := HX4.o.lt
    have hylq := HY4.o.lt
    clear HMq HRq HYq HXq HCq HSZ
    go_wp2_with fail
    go_region_law (
      (refine step_append_or (by rfl) _ _ 143 (by rfl) (fun q => w.heap.size + 2 ≤ q) 106 i0 (.agg #[.int .i64 0, .string ⟨#[]⟩]) 2 24 Try.underlying143 hi hz0 hz1 hz2 rfl A4 n c4 (chsEnc l) (by rfl) _ 1 1 [.int .i64 tk, .string (bs u)] (by rfl) rfl HONE.o (by omega) hmm hby ?_ ?_ ?_
       · (with_reducible (repeat (first | exact HR4.o | refine RowO.alloc ?_ _ | refine RowO.drew ?_)))
       · (refine cells_at (t := 106) (cs := #[.int .i64 tk, .string (bs u)]) ?_ rfl
          repeat (first | (with_reducible refine Blk.new_ _ _ ?_ _ _; simp; done) | with_reducible refine Blk.alloc ?_ _ | with_reducible refine Blk.drew ?_))
       intro E1 e1 w2 z1 zc1
       have bx : Blk _ b 145 #[.int .i64 cap, .slice A4 n c4] := Blk.chg (by with_reducible (repeat (first | exact HM4.o | refine Blk.alloc ?_ _ | refine Blk.drew ?_))) zc1 HF4.o
       have by_ : Blk _ (w.heap.size + 1) 106 #[.int .i64 tk0, .string (bs u0)] := Blk.chg (by with_reducible (repeat (first | exact HY4.o | refine Blk.alloc ?_ _ | refine Blk.drew ?_))) zc1 HG4.o
       have v1 := bx.at_ 1 rfl
       have g1 := bx.frozen 1
       have BX := hd bx
       have y0 := by_.at_ 0 rfl
       have y1 := by_.at_ 1 rfl
       have yf0 := by_.frozen 0
       have yf1 := by_.frozen 1
       have Z1 := hd z1
       have ZC1 := hd zc1
       clear z1 zc1 bx by_))
    all_goals
      have hne2 : b ≠ w.heap.size + 1 := by omega
      go_wp2
      refine bodyPost_ret (v := .tuple #[.agg #[.int .i64 tk0, .string (bs u0)], .bool true]) ?_ rfl ⟨rfl, ?_, ?_⟩
      · simp [results, Try.results74, go_sem, *]
      · refine ring_close BX.o (l' := l ++ [(tk, u)]) (by
          have h := Z1.o
          rw [show chsEnc (l ++ [(tk, u)]) = chsEnc l ++ [.int .i64 tk, .string (bs u)] by simp [chsEnc, chEnc]]
          exact h) (by rw [List.length_append, HN.o]; rfl) hS (fun q hq => ?_) hne2
        have := HS4.o
        rcases hq with hq | hq
        · exact (by have := HT4.o q hq; exact ⟨.inr (by omega), by omega⟩)
        · simp at hq
          exact ⟨.inr (by omega), by omega⟩
      · exact ring_chg (Chg.trans (by with_reducible (repeat (first | exact HC4.o | refine Chg.alloc ?_ _ | refine Chg.drew ?_))) ZC1.o (fun q hq => .inr (by have := HT4.o q hq; omega))) hS (by omega)

end Go.Proofs.Ytbeckfnhgeclnaa
