/-
  Books: May, New, Counter, find, Latest, Live, Bytes, draw.
-/
import Derived.Test.YtfacfdjapjhpeaaGreatDoorGAL
import Derived.Test.YtfacfdjapjhpeaaGreatDoorGAG
import Derived.Deep.RegionHeld3
import Derived.Test.YtfacfdjapjhpeaaGreatDoorGAA
import Derived.Test.YtfacfdjapjhpeaaGreatDoorBytesOrd
import Derived.Test.YtfacfdjapjhpeaaGreatDoorGAD
import Derived.Test.YtfacfdjapjhpeaaGreatDoorGAI
import Derived.Test.YtfacfdjapjhpeaaGreatDoorProg
import Derived.Test.YtfacfdjapjhpeaaGreatDoorGAF
set_option linter.unusedVariables false
set_option linter.unusedSimpArgs false
namespace Go.Proofs.YtfacfdjapjhpeaaGreatDoor
open Go.RowKit Go.Lib

theorem cf_bad {c : Cf} (h : ¬ c.mayA = true) : c.err = 12 := by
  unfold Cf.err Cf.may
  rw [if_neg (by rw [Bool.and_eq_true]; exact fun hh => h hh.1)]
theorem cf_good {c : Cf} (h : c.mayA = true) : c.err = c.q.err := by
  unfold Cf.err Cf.may Qt.err
  rw [h, Bool.true_and]

set_option maxHeartbeats 2000000 in
theorem bmay_calls (c : Cf) (w : World) : Calls Tryz.prog 14 #[.agg (cfE c).toArray] w fun e w' => e = .returned (.int .i64 c.err) ∧ Below w.heap.size w w' := by
  have hb := hd ((Below.refl w.heap.size w).alloc (Nat.le_refl _) (.cells (cfE c).toArray 25))
  have C := hd (qcheck_calls c.q (w.alloc (.cells (cfE c).toArray 25)))
  have HA : Hd (c.mayA = true ↔ (1 ≤ c.conns ∧ c.conns ≤ 12 ∧ 0 ≤ c.start ∧ 20006 ≤ c.room ∧ c.room ≤ 40000 ∧ 1 ≤ c.shards ∧ c.shards ≤ 16)) := hd (by simp [Cf.mayA, and_assoc])
  have HB := hd (fun h => cf_bad (c := c) h)
  have HG := hd (fun h => cf_good (c := c) h)
  generalize c.mayA = m at *
  generalize c.err = r at *
  obtain ⟨conns, start, room, shards, q1, q2, q3, q4⟩ := c
  simp only [cfE, quE] at *
  generalize Qt.err ⟨q1, q2, q3, q4⟩ = qe at *
  have fin : Hd (∀ p : Prop, p → ¬ p → r = 12) := hd (fun p h h' => absurd h h')
  by_cases g1 : conns < 1
  · have a1 : decide (conns < 1) = true := by simpa using g1
    have HR : Hd (r = 12) := hd (HB.o (fun h => by have := HA.o.1 h; omega))
    go_enter Tryz.func14, Tryz.ntmps14
    go_wp2
    go_ret
    exact ⟨ret_int HR.o.symm, hb.o⟩
  have a1 : decide (conns < 1) = false := by simpa using g1
  by_cases g2 : 12 < conns
  · have a2 : decide (12 < conns) = true := by simpa using g2
    have HR : Hd (r = 12) := hd (HB.o (fun h => by have := HA.o.1 h; omega))
    go_enter Tryz.func14, Tryz.ntmps14
    go_wp2
    go_ret
    exact ⟨ret_int HR.o.symm, hb.o⟩
  have a2 : decide (12 < conns) = false := by simpa using g2
  by_cases g3 : start < 0
  · have a3 : decide (start < 0) = true := by simpa using g3
    have HR : Hd (r = 12) := hd (HB.o (fun h => by have := HA.o.1 h; omega))
    go_enter Tryz.func14, Tryz.ntmps14
    go_wp2
    go_ret
    exact ⟨ret_int HR.o.symm, hb.o⟩
  have a3 : decide (start < 0) = false := by simpa using g3
  by_cases g4 : room < 20006
  · have a4 : decide (room < 20006) = true := by simpa using g4
    have HR : Hd (r = 12) := hd (HB.o (fun h => by have := HA.o.1 h; omega))
    go_enter Tryz.func14, Tryz.ntmps14
    go_wp2
    go_ret
    exact ⟨ret_int HR.o.symm, hb.o⟩
  have a4 : decide (room < 20006) = false := by simpa using g4
  by_cases g5 : 40000 < room
  · have a5 : decide (40000 < room) = true := by simpa using g5
    have HR : Hd (r = 12) := hd (HB.o (fun h => by have := HA.o.1 h; omega))
    go_enter Tryz.func14, Tryz.ntmps14
    go_wp2
    go_ret
    exact ⟨ret_int HR.o.symm, hb.o⟩
  have a5 : decide (40000 < room) = false := by simpa using g5
  by_cases g6 : shards < 1
  · have a6 : decide (shards < 1) = true := by simpa using g6
    have HR : Hd (r = 12) := hd (HB.o (fun h => by have := HA.o.1 h; omega))
    go_enter Tryz.func14, Tryz.ntmps14
    go_wp2
    go_ret
    exact ⟨ret_int HR.o.symm, hb.o⟩
  have a6 : decide (shards < 1) = false := by simpa using g6
  by_cases g7 : 16 < shards
  · have a7 : decide (16 < shards) = true := by simpa using g7
    have HR : Hd (r = 12) := hd (HB.o (fun h => by have := HA.o.1 h; omega))
    go_enter Tryz.func14, Tryz.ntmps14
    go_wp2
    go_ret
    exact ⟨ret_int HR.o.symm, hb.o⟩
  have a7 : decide (16 < shards) = false := by simpa using g7
  have HR : Hd (r = qe) := hd (HG.o (HA.o.2 (by omega)))
  go_enter Tryz.func14, Tryz.ntmps14
  go_wp2_with fail
  refine C.o.mono ?_
  rintro e w1 ⟨rfl, hbe⟩
  have HB1 := hd (hb.o.trans (hbe.mono hb.o.size))
  clear hbe
  go_wp2_with fail
  go_ret
  exact ⟨ret_int HR.o.symm, HB1.o⟩

/-- A new book. -/
def lay0 (b mb : Nat) : Lay := ⟨fun k => if k = b then .bk else if k = mb then .bm else .no, fun _ => 0, fun _ => 0, fun _ => 0, fun _ _ => 0, mb⟩
theorem bnew_no (c : Cf) (h : c.err ≠ 0) (w : World) : Calls Tryz.prog 13 #[.agg (cfE c).toArray] w fun e w' => e = .returned (.tuple #[.pointer none, .int .i64 c.err]) ∧ Below w.heap.size w w' := by
  have hb := hd ((Below.refl w.heap.size w).alloc (Nat.le_refl _) (.cells (cfE c).toArray 25))
  have C := hd (bmay_calls c (w.alloc (.cells (cfE c).toArray 25)))
  have a1 : (c.err != 0) = true := by simpa using h
  generalize c.err = r at *
  obtain ⟨conns, start, room, shards, q1, q2, q3, q4⟩ := c
  simp only [cfE] at *
  clear h
  go_enter Tryz.func13, Tryz.ntmps13
  go_wp2_with fail
  refine C.o.mono ?_
  rintro e w1 ⟨rfl, hbe⟩
  have HB1 := hd (hb.o.trans (hbe.mono hb.o.size))
  clear hbe
  go_wp2_with fail
  go_ret2
  exact ⟨rfl, HB1.o⟩
set_option maxRecDepth 100000 in
set_option maxHeartbeats 2000000 in
theorem bnew_yes (c : Cf) (h : c.err = 0) (w : World) : Calls Tryz.prog 13 #[.agg (cfE c).toArray] w fun e w' => ∃ b y, e = .returned (.tuple #[.pointer (some ⟨b, 0, none⟩), .int .i64 0]) ∧ BookR w' y b c ⟨c.start, []⟩ ∧ (∀ k, y.lam k ≠ .no → w.heap.size ≤ k) ∧ Below w.heap.size w w' := by
  have hb := hd ((Below.refl w.heap.size w).alloc (Nat.le_refl _) (.cells (cfE c).toArray 25))
  have C := hd (bmay_calls c (w.alloc (.cells (cfE c).toArray 25)))
  rw [h] at C
  clear h
  have HF : Hd (∀ (W1 : World) (W' : World) (b mb : Nat), Below w.heap.size w W' → w.heap.size ≤ b → w.heap.size ≤ mb → b ≠ mb → Blk W' b 98 (bkE c c.start mb) → OmEntTn W' (One mb) mb [] → BookR W' (lay0 b mb) b c ⟨c.start, []⟩ ∧ (∀ k, (lay0 b mb).lam k ≠ .no → w.heap.size ≤ k)) := hd (fun W1 W' b mb hB h1 h2 hn hk hO => by
    have e1 : (lay0 b mb).lam b = .bk := if_pos rfl
    have e2 : (lay0 b mb).lam mb = .bm := by show (if _ then _ else _) = _; rw [if_neg (fun h => hn h.symm), if_pos rfl]
    have e3 : ∀ k, (lay0 b mb).lam k ≠ .no → k = b ∨ k = mb := fun k hk => by
      by_cases k1 : k = b
      · exact .inl k1
      · by_cases k2 : k = mb
        · exact .inr k2
        · exact absurd (by show (if _ then _ else _) = _; rw [if_neg k1, if_neg k2]) hk
    refine ⟨⟨hk, e1, hO.mono (fun k hk => by cases hk; exact e2), fun k hk => ?_, fun _ h => by cases h⟩, fun k hk => ?_⟩
    · rcases e3 k hk with rfl | rfl
      · exact Blk.lt (by assumption)
      · exact hO.lt
    · rcases e3 k hk with rfl | rfl
      · exact h1
      · exact h2)
  have HC := hd (fun W => omnewEntTn_calls W (One W.heap.size) rfl)
  obtain ⟨conns, start, room, shards, q1, q2, q3, q4⟩ := c
  simp only [cfE, bkE] at *
  go_enter Tryz.func13, Tryz.ntmps13
  go_wp2_with fail
  refine C.o.mono ?_
  rintro e w1 ⟨rfl, hbe⟩
  have hk := (Blk.new w 25 #[.int .i64 conns, .int .i64 start, .int .i64 room, .int .i64 shards, .int .i64 q1, .int .i64 q2, .int .i64 q3, .int .i64 q4]).below hbe (by simp)
  have k0 := hk.at_ 0 rfl
  have k1 := hk.at_ 1 rfl
  have k2 := hk.at_ 2 rfl
  have k3 := hk.at_ 3 rfl
  have k4 := hk.at_ 4 rfl
  have k5 := hk.at_ 5 rfl
  have k6 := hk.at_ 6 rfl
  have k7 := hk.at_ 7 rfl
  have HB1 := hd (hb.o.trans (hbe.mono hb.o.size))
  clear hbe C
  have hkl := hk.lt
  have HK := hd hk
  have HKB := hd (fun (W : World) (h : Below w1.drew.heap.size w1.drew W) => (⟨((HK.o.drew).below h hkl).at_ 0 rfl, ((HK.o.drew).below h hkl).at_ 1 rfl, ((HK.o.drew).below h hkl).at_ 2 rfl, ((HK.o.drew).below h hkl).at_ 3 rfl, ((HK.o.drew).below h hkl).at_ 4 rfl, ((HK.o.drew).below h hkl).at_ 5 rfl, ((HK.o.drew).below h hkl).at_ 6 rfl, ((HK.o.drew).below h hkl).at_ 7 rfl⟩ : W.cell? ⟨w.heap.size, 0, none⟩ = some (.int .i64 conns) ∧ W.cell? ⟨w.heap.size, 1, none⟩ = some (.int .i64 start) ∧ W.cell? ⟨w.heap.size, 2, none⟩ = some (.int .i64 room) ∧ W.cell? ⟨w.heap.size, 3, none⟩ = some (.int .i64 shards) ∧ W.cell? ⟨w.heap.size, 4, none⟩ = some (.int .i64 q1) ∧ W.cell? ⟨w.heap.size, 5, none⟩ = some (.int .i64 q2) ∧ W.cell? ⟨w.heap.size, 6, none⟩ = some (.int .i64 q3) ∧ W.cell? ⟨w.heap.size, 7, none⟩ = some (.int .i64 q4)))
  clear hk
  go_wp2_with fail
  go_region_held3 (fun w' => w'.cell? ⟨w.heap.size, 0, none⟩ = some (.int .i64 conns) ∧ w'.cell? ⟨w.heap.size, 1, none⟩ = some (.int .i64 start) ∧ w'.cell? ⟨w.heap.size, 2, none⟩ = some (.int .i64 room) ∧ w'.cell? ⟨w.heap.size, 3, none⟩ = some (.int .i64 shards) ∧ w'.cell? ⟨w.heap.size, 4, none⟩ = some (.int .i64 q1) ∧ w'.cell? ⟨w.heap.size, 5, none⟩ = some (.int .i64 q2) ∧ w'.cell? ⟨w.heap.size, 6, none⟩ = some (.int .i64 q3) ∧ w'.cell? ⟨w.heap.size, 7, none⟩ = some (.int .i64 q4)) (first | go_keep | exact ⟨k0, k1, k2, k3, k4, k5, k6, k7⟩ | (with_reducible exact ⟨j0, j1, j2, j3, j4, j5, j6, j7⟩)) (first
    | (go_at_call 39; with_reducible refine (HC.o _).mono ?_; rintro e w2 ⟨rfl, hO, hb2⟩; have hk2 := HKB.o _ hb2; obtain ⟨j0, j1, j2, j3, j4, j5, j6, j7⟩ := hk2; have HO := hd hO; have HB2 := hd hb2; clear hO hb2))
  all_goals
    go_wp2
    go_ret2
    have hol := HO.o.lt
    have hB1 := HB1.o
    have hB12 : Below w.heap.size w w2 := hB1.trans ((show Below w1.heap.size w1 w2 from ⟨HB2.o.os, HB2.o.tape, HB2.o.output, HB2.o.size, HB2.o.block⟩).mono hB1.size)
    have hB := hB12.alloc hB12.size (.cells #[.int .i64 conns, .int .i64 start, .int .i64 room, .int .i64 shards, .int .i64 q1, .int .i64 q2, .int .i64 q3, .int .i64 q4, .int .i64 start, .pointer (some ⟨w1.heap.size, 0, none⟩)] 98)
    obtain ⟨r1, r2⟩ := HF.o w1 _ w2.heap.size w1.heap.size hB hB12.size hB1.size (by show w2.heap.size ≠ w1.heap.size; have : w1.heap.size < w2.heap.size := hol; omega) (Blk.new _ _ _) (HO.o.below ((Below.refl _ w2).alloc (Nat.le_refl _) _))
    exact ⟨w2.heap.size, lay0 _ _, rfl, r1, r2, hB⟩

theorem bcounter_calls (w : World) (y : Lay) (b : Nat) (c : Cf) (st : BkS) (h : BookR w y b c st) : Calls Tryz.prog 15 #[.pointer (some ⟨b, 0, none⟩)] w fun e w' => e = .returned (.int .i64 st.ctr) ∧ w = w' := by
  have h8 : w.cell? ⟨b, 8, none⟩ = some (.int .i64 st.ctr) := h.blk.at_ 8 rfl
  generalize st.ctr = n at *
  clear h
  go_enter Tryz.func15, Tryz.ntmps15
  go_wp2
  go_ret
  exact ⟨rfl, rfl⟩
theorem bdraw_no (w : World) (b : Nat) (c : Cf) (mb : Nat) (h : Blk w b 98 (bkE c maxTok mb)) : Calls Tryz.prog 75 #[.pointer (some ⟨b, 0, none⟩)] w fun e w' => e = .returned (.tuple #[.int .i64 0, .bool false]) ∧ w = w' := by
  have h8 : w.cell? ⟨b, 8, none⟩ = some (.int .i64 9223372036854775807) := h.at_ 8 rfl
  clear h
  go_enter Tryz.func75, Tryz.ntmps75
  go_wp2
  go_ret2
  exact ⟨rfl, rfl⟩
theorem bdraw_yes (w : World) (b : Nat) (c : Cf) (n : Int) (mb : Nat) (h : Blk w b 98 (bkE c n mb)) (h0 : 0 ≤ n) (h1 : n ≤ maxTok) (hn : n ≠ maxTok) : Calls Tryz.prog 75 #[.pointer (some ⟨b, 0, none⟩)] w fun e w' => e = .returned (.tuple #[.int .i64 (n + 1), .bool true]) ∧ w.setCell ⟨b, 8, none⟩ (.int .i64 (n + 1)) = w' := by
  have h8 : w.cell? ⟨b, 8, none⟩ = some (.int .i64 n) := h.at_ 8 rfl
  have hf := h.frozen 8
  have h9 : (w.setCell ⟨b, 8, none⟩ (.int .i64 (n + 1))).cell? ⟨b, 8, none⟩ = some (.int .i64 (n + 1)) := (h.set_ 8 _).at_ 8 rfl
  have hd1 : (n == 9223372036854775807) = false := by unfold maxTok at hn; simpa using hn
  have hwr : IntKind.i64.wrap (n + 1) = n + 1 := by rw [IntKind.wrap_i64]; unfold maxTok at *; omega
  clear h hn
  go_enter Tryz.func75, Tryz.ntmps75
  go_wp2
  go_ret2
  exact ⟨rfl, rfl⟩

theorem tget_none {w : World} {y : Lay} {b : Nat} {c : Cf} {st : BkS} (h : BookR w y b c st) (hl : st.ts.length ≤ 1000000) (nm : List UInt8) (hg : getM st.ts nm = none) : Calls Tryz.prog 43 #[.pointer (some ⟨y.mb, 0, none⟩), .string (bs nm)] w fun e w' => e = .returned (.tuple #[.pointer none, .bool false]) ∧ Below w.heap.size w w' :=
  omgetEntTn_none w _ y.mb _ nm h.om (by rw [ptrs_len]; exact hl) (by rw [ptrs_get, hg]; rfl)
theorem tget_some {w : World} {y : Lay} {b : Nat} {c : Cf} {st : BkS} (h : BookR w y b c st) (hl : st.ts.length ≤ 1000000) (nm : List UInt8) (cs : ML Cs) (hg : getM st.ts nm = some cs) : Calls Tryz.prog 43 #[.pointer (some ⟨y.mb, 0, none⟩), .string (bs nm)] w fun e w' => e = .returned (.tuple #[.pointer (some ⟨y.tb nm, 0, none⟩), .bool true]) ∧ Below w.heap.size w w' :=
  omgetEntTn_some w _ y.mb _ nm (y.tb nm) h.om (by rw [ptrs_len]; exact hl) (by rw [ptrs_get, hg]; rfl)
theorem cpget_none {w : World} {lam : Nat → Lab} {o : Nat} {cb : List UInt8 → Nat} {nm : List UInt8} {cs : ML Cs} (h : OmEntCp w (fun k => lam k = .tm nm) o (ptrs cb cs)) (hl : cs.length ≤ 1000000) (cn : List UInt8) (hg : getM cs cn = none) : Calls Tryz.prog 50 #[.pointer (some ⟨o, 0, none⟩), .string (bs cn)] w fun e w' => e = .returned (.tuple #[.pointer none, .bool false]) ∧ Below w.heap.size w w' :=
  omgetEntCp_none w _ o _ cn h (by rw [ptrs_len]; exact hl) (by rw [ptrs_get, hg]; rfl)
theorem cpget_some {w : World} {lam : Nat → Lab} {o : Nat} {cb : List UInt8 → Nat} {nm : List UInt8} {cs : ML Cs} (h : OmEntCp w (fun k => lam k = .tm nm) o (ptrs cb cs)) (hl : cs.length ≤ 1000000) (cn : List UInt8) (s : Cs) (hg : getM cs cn = some s) : Calls Tryz.prog 50 #[.pointer (some ⟨o, 0, none⟩), .string (bs cn)] w fun e w' => e = .returned (.tuple #[.pointer (some ⟨cb cn, 0, none⟩), .bool true]) ∧ Below w.heap.size w w' :=
  omgetEntCp_some w _ o _ cn (cb cn) h (by rw [ptrs_len]; exact hl) (by rw [ptrs_get, hg]; rfl)

end Go.Proofs.YtfacfdjapjhpeaaGreatDoor
namespace Go.Proofs.YtfacfdjapjhpeaaGreatDoor
open Go.RowKit Go.Lib

/-- Which collection there is. -/
def colB (st : BkS) (nm cn : List UInt8) : Option Cs := getM (tenB st.ts nm) cn
theorem tenB_none {ts : ML (ML Cs)} {nm : List UInt8} (h : getM ts nm = none) : tenB ts nm = [] := by unfold tenB; rw [h]; rfl
theorem tenB_some {ts : ML (ML Cs)} {nm : List UInt8} {cs : ML Cs} (h : getM ts nm = some cs) : tenB ts nm = cs := by unfold tenB; rw [h]; rfl
/-- What the walks ask of a book. -/
structure BkL (st : BkS) : Prop where
  ts : st.ts.length ≤ 900000
  cs : ∀ e ∈ st.ts, e.2.length ≤ 8
theorem BkOk.lens {Q : Qt} {T0 : Int} {st : BkS} (h : BkOk Q T0 st) (hl : st.ts.length ≤ 900000) : BkL st := ⟨hl, fun e he => by have := (h.each e he).1.len; have := h.q.c2; omega⟩

theorem bfind_none (w : World) (y : Lay) (b : Nat) (c : Cf) (st : BkS) (h : BookR w y b c st) (hl : BkL st) (nm cn : List UInt8) (hg : colB st nm cn = none) : Calls Tryz.prog 63 #[.pointer (some ⟨b, 0, none⟩), .string (bs nm), .string (bs cn)] w fun e w' => e = .returned (.tuple #[.pointer none, .bool false]) ∧ Below w.heap.size w w' := by
  have h9 : w.cell? ⟨b, 9, none⟩ = some (.pointer (some ⟨y.mb, 0, none⟩)) := h.blk.at_ 9 rfl
  cases hx : getM st.ts nm with
  | none =>
    have C := hd (tget_none h (by have := hl.ts; omega) nm hx)
    clear h hl hg hx
    go_enter Tryz.func63, Tryz.ntmps63
    go_wp2_with fail
    refine C.o.mono ?_
    rintro e w1 ⟨rfl, hbe⟩
    go_wp2_with fail
    go_ret2
    exact ⟨rfl, hbe⟩
  | some cs =>
    have C := hd (tget_some h (by have := hl.ts; omega) nm cs hx)
    have ht : TnR w y.lam (y.tb nm) (y.bb nm) (y.ob nm) (y.cb nm) c.q nm cs := h.ten _ (getM_mem hx)
    have hc8 : cs.length ≤ 8 := hl.cs _ (getM_mem hx)
    unfold colB at hg
    rw [tenB_some hx] at hg
    have D := hd (fun w1 (hb : Below w.heap.size w w1) => cpget_none (ht.om.below hb) (by omega) cn hg)
    have HT := hd ht.blk
    clear h hl hg hx ht hc8
    go_enter Tryz.func63, Tryz.ntmps63
    go_wp2_with fail
    refine C.o.mono ?_
    rintro e w1 ⟨rfl, hbe⟩
    have t0 := (HT.o.below hbe HT.o.lt).at_ 0 rfl
    have HB := hd hbe
    clear hbe C
    go_wp2_with fail
    refine (D.o _ HB.o).mono ?_
    rintro e w2 ⟨rfl, hbe⟩
    have HB2 := hd (HB.o.trans (hbe.mono HB.o.size))
    clear hbe
    go_wp2_with fail
    go_ret2
    exact ⟨rfl, HB2.o⟩
theorem bfind_some (w : World) (y : Lay) (b : Nat) (c : Cf) (st : BkS) (h : BookR w y b c st) (hl : BkL st) (nm cn : List UInt8) (s : Cs) (hg : colB st nm cn = some s) : Calls Tryz.prog 63 #[.pointer (some ⟨b, 0, none⟩), .string (bs nm), .string (bs cn)] w fun e w' => e = .returned (.tuple #[.pointer (some ⟨y.cb nm cn, 0, none⟩), .bool true]) ∧ Below w.heap.size w w' := by
  have h9 : w.cell? ⟨b, 9, none⟩ = some (.pointer (some ⟨y.mb, 0, none⟩)) := h.blk.at_ 9 rfl
  cases hx : getM st.ts nm with
  | none => unfold colB at hg; rw [tenB_none hx] at hg; cases hg
  | some cs =>
    have C := hd (tget_some h (by have := hl.ts; omega) nm cs hx)
    have ht : TnR w y.lam (y.tb nm) (y.bb nm) (y.ob nm) (y.cb nm) c.q nm cs := h.ten _ (getM_mem hx)
    have hc8 : cs.length ≤ 8 := hl.cs _ (getM_mem hx)
    unfold colB at hg
    rw [tenB_some hx] at hg
    have D := hd (fun w1 (hb : Below w.heap.size w w1) => cpget_some (ht.om.below hb) (by omega) cn s hg)
    have HT := hd ht.blk
    clear h hl hg hx ht hc8
    go_enter Tryz.func63, Tryz.ntmps63
    go_wp2_with fail
    refine C.o.mono ?_
    rintro e w1 ⟨rfl, hbe⟩
    have t0 := (HT.o.below hbe HT.o.lt).at_ 0 rfl
    have HB := hd hbe
    clear hbe C
    go_wp2_with fail
    refine (D.o _ HB.o).mono ?_
    rintro e w2 ⟨rfl, hbe⟩
    have HB2 := hd (HB.o.trans (hbe.mono HB.o.size))
    clear hbe
    go_wp2_with fail
    go_ret2
    exact ⟨rfl, HB2.o⟩
theorem colB_mem {w : World} {y : Lay} {b : Nat} {c : Cf} {st : BkS} (h : BookR w y b c st) {nm cn : List UInt8} {s : Cs} (hg : colB st nm cn = some s) : ColR w (fun k => y.lam k = .cl nm cn) (y.cb nm cn) s := by
  unfold colB at hg
  cases hx : getM st.ts nm with
  | none => rw [tenB_none hx] at hg; cases hg
  | some cs =>
    rw [tenB_some hx] at hg
    exact (h.ten _ (getM_mem hx)).col _ (getM_mem hg)
def latB (st : BkS) (nm cn : List UInt8) : Int := match colB st nm cn with | some s => s.latest | none => 0
def lisB (st : BkS) (nm cn : List UInt8) : List It := match colB st nm cn with | some s => liveL s.ml | none => []
def isB' (st : BkS) (nm cn : List UInt8) : Bool := (colB st nm cn).isSome
theorem blatest_calls (w : World) (y : Lay) (b : Nat) (c : Cf) (st : BkS) (h : BookR w y b c st) (hl : BkL st) (nm cn : List UInt8) : Calls Tryz.prog 30 #[.pointer (some ⟨b, 0, none⟩), .string (bs nm), .string (bs cn)] w fun e w' => e = .returned (.tuple #[.int .i64 (latB st nm cn), .bool (isB' st nm cn)]) ∧ Below w.heap.size w w' := by
  unfold latB isB'
  cases hg : colB st nm cn with
  | none =>
    have C := hd (bfind_none w y b c st h hl nm cn hg)
    clear h hl hg
    go_enter Tryz.func30, Tryz.ntmps30
    go_wp2_with fail
    refine C.o.mono ?_
    rintro e w1 ⟨rfl, hbe⟩
    go_wp2_with fail
    go_ret2
    exact ⟨rfl, hbe⟩
  | some s =>
    have C := hd (bfind_some w y b c st h hl nm cn s hg)
    have D := hd (fun w1 (hb : Below w.heap.size w w1) => clatest_calls w1 _ (y.cb nm cn) s ((colB_mem h hg).below hb))
    clear h hl hg
    simp only [Option.isSome_some]
    generalize s.latest = lt at *
    go_enter Tryz.func30, Tryz.ntmps30
    go_wp2_with fail
    refine C.o.mono ?_
    rintro e w1 ⟨rfl, hbe⟩
    have HB := hd hbe
    clear hbe C
    go_wp2_with fail
    refine (D.o _ HB.o).mono ?_
    rintro e w2 ⟨rfl, rfl⟩
    go_wp2_with fail
    go_ret2
    exact ⟨rfl, HB.o⟩
theorem blive_calls (w : World) (y : Lay) (b : Nat) (c : Cf) (st : BkS) (h : BookR w y b c st) (hl : BkL st) (nm cn : List UInt8) (hm : ∀ s, colB st nm cn = some s → s.ml.length ≤ 1000000) : Calls Tryz.prog 29 #[.pointer (some ⟨b, 0, none⟩), .string (bs nm), .string (bs cn)] w fun e w' => ∃ A cp, e = .returned (.tuple #[.slice A (lisB st nm cn).length cp, .bool (isB' st nm cn)]) ∧ Row w' (From w.heap.size) 63 4 A (lisB st nm cn).length cp (itsEnc (lisB st nm cn)) ∧ Below w.heap.size w w' := by
  unfold lisB isB'
  cases hg : colB st nm cn with
  | none =>
    have C := hd (bfind_none w y b c st h hl nm cn hg)
    clear h hl hg hm
    go_enter Tryz.func29, Tryz.ntmps29
    go_wp2_with fail
    refine C.o.mono ?_
    rintro e w1 ⟨rfl, hbe⟩
    go_wp2_with fail
    go_ret2
    exact ⟨none, 0, rfl, Row.nil _ _ _ _, hbe⟩
  | some s =>
    have C := hd (bfind_some w y b c st h hl nm cn s hg)
    have D := hd (fun w1 (hb : Below w.heap.size w w1) => clive_calls w1 _ (y.cb nm cn) s ((colB_mem h hg).below hb) (hm s hg))
    have HLN : Hd ((liveL s.ml).length = s.ml.length) := hd (liveL_len _)
    clear h hl hg hm
    simp only [Option.isSome_some]
    go_enter Tryz.func29, Tryz.ntmps29
    go_wp2_with fail
    refine C.o.mono ?_
    rintro e w1 ⟨rfl, hbe⟩
    have HB := hd hbe
    clear hbe C
    go_wp2_with fail
    refine (D.o _ HB.o).mono ?_
    rintro e w2 ⟨A, cp, rfl, hr, hb2⟩
    have HB2 := hd (HB.o.trans (hb2.mono HB.o.size))
    have HR := hd hr
    clear hb2 hr
    go_wp2_with fail
    go_ret2
    refine ⟨A, cp, by rw [HLN.o]; rfl, by rw [HLN.o]; exact HR.o.mono (fun k hk => Nat.le_trans HB.o.size hk), HB2.o⟩
theorem bbytes_calls (w : World) (y : Lay) (b : Nat) (c : Cf) (st : BkS) (h : BookR w y b c st) (hl : BkL st) (nm : List UInt8) : Calls Tryz.prog 23 #[.pointer (some ⟨b, 0, none⟩), .string (bs nm)] w fun e w' => e = .returned (.int .i64 (bytesT (tenB st.ts nm))) ∧ Below w.heap.size w w' := by
  have h9 : w.cell? ⟨b, 9, none⟩ = some (.pointer (some ⟨y.mb, 0, none⟩)) := h.blk.at_ 9 rfl
  cases hx : getM st.ts nm with
  | none =>
    have C := hd (tget_none h (by have := hl.ts; omega) nm hx)
    rw [tenB_none hx]
    have e0 : bytesT [] = 0 := rfl
    rw [e0]
    clear h hl hx e0
    go_enter Tryz.func23, Tryz.ntmps23
    go_wp2_with fail
    refine C.o.mono ?_
    rintro e w1 ⟨rfl, hbe⟩
    go_wp2_with fail
    go_ret
    exact ⟨rfl, hbe⟩
  | some cs =>
    have C := hd (tget_some h (by have := hl.ts; omega) nm cs hx)
    have ht : TnR w y.lam (y.tb nm) (y.bb nm) (y.ob nm) (y.cb nm) c.q nm cs := h.ten _ (getM_mem hx)
    rw [tenB_some hx]
    have HT := hd ht.blk
    have D := hd (fun w1 (hb : Below w.heap.size w w1) => qbytes_calls c.q (cs.length : Nat) (bytesT cs) (y.bb nm) w1 (ht.bud.below hb ht.bud.lt))
    generalize bytesT cs = by_ at *
    clear h hl hx ht
    go_enter Tryz.func23, Tryz.ntmps23
    go_wp2_with fail
    refine C.o.mono ?_
    rintro e w1 ⟨rfl, hbe⟩
    have t1 := (HT.o.below hbe HT.o.lt).at_ 1 rfl
    have HB := hd hbe
    clear hbe C
    go_wp2_with fail
    refine (D.o _ HB.o).mono ?_
    rintro e w2 ⟨rfl, rfl⟩
    go_wp2_with fail
    go_ret
    exact ⟨rfl, HB.o⟩

end Go.Proofs.YtfacfdjapjhpeaaGreatDoor
namespace Go.Proofs.YtfacfdjapjhpeaaGreatDoor
open Go.RowKit Go.Lib

theorem bs_sz (l : List UInt8) : (bs l).size = l.length := bs_size l
theorem rstr_eq (a b : List UInt8) : ((bs a).toList == (bs b).toList) = decide (a = b) := by
  rw [toList_data, toList_data]
  show (a == b) = _
  by_cases h : a = b <;> simp [h]

end Go.Proofs.YtfacfdjapjhpeaaGreatDoor
namespace Go.Proofs.YtfacfdjapjhpeaaGreatDoor
open Go.RowKit Go.Lib

theorem opEnc_len' (x : OpV) : (opEnc x).length = 5 := rfl

theorem chk1_calls (w : World) (x : OpV) (b : Nat) (u : List UInt8) (hb : w.cell? ⟨b, 1, none⟩ = some (.string (bs u))) (hl : b < w.heap.size) :
    Calls Tryz.prog 142 #[.agg (opEnc x).toArray, .pointer (some ⟨b, 0, none⟩)] w fun e w' => e = .returned (.bool (decide (x.uid = u))) ∧ w.alloc (.cells (opEnc x).toArray 60) = w' := by
  obtain ⟨xd, xu, xc, xk, xv⟩ := x
  simp only [opEnc]
  have heq := rstr_eq xu u
  go_enter Tryz.func142, Tryz.ntmps142
  go_wp2
  go_ret
  exact ⟨rfl, rfl⟩

set_option maxRecDepth 100000 in
set_option maxHeartbeats 2000000 in
theorem ifO_calls (w : World) (A : Option Addr) (n c : Nat) (l : List OpV) (b : Nat) (v : List UInt8) (hr : Rds w A n 5 (opsE l)) (hn : n = l.length) (hm : n ≤ 1000000) (hb : w.cell? ⟨b, 1, none⟩ = some (.string (bs v))) (hl : b < w.heap.size) :
    Calls Tryz.prog 164 #[.slice A n c, .func (.func 142) #[] #[.pointer (some ⟨b, 0, none⟩)]] w fun e w' => ∃ i : Int, e = .returned (.int .i64 i) ∧ decide (0 ≤ i) = uidIn l v ∧ Below w.heap.size w w' := by
  have HR := hd hr
  have HN := hd hn
  have HC := hd (fun wr (hbe : Below w.heap.size w wr) (x : OpV) => chk1_calls wr x b v ((hbe.cell (p := ⟨b, 1, none⟩) hl).trans hb) (Nat.lt_of_lt_of_le hl hbe.size))
  clear hr hn hb
  go_enter Tryz.func164, Tryz.ntmps164
  go_wp2_with fail
  go_loopw [8, 5] (fun s8 s5 wr => ∃ k : Nat, s8 = .int .i64 k ∧ k ≤ n ∧ Hd (uidIn (l.take k) v = false) ∧ Hd (Below w.heap.size w wr)) (fun s8 _ _ => n - (RowKit.intOf s8).toNat)
  case atStart => exact ⟨0, rfl, Nat.zero_le _, hd rfl, hd (Below.refl _ _)⟩
  case round =>
    obtain ⟨k, rfl, hk, HV, HB⟩ := hrel
    have hki : (0 : Int) ≤ (k : Int) := by omega
    by_cases hlt : k < n
    · have hlti : (k : Int) < (n : Int) := by omega
      have hkl : k < l.length := by rw [← HN.o]; exact hlt
      obtain ⟨g, o, rfl, hg, hc⟩ := HR.o.at_ (by omega)
      obtain ⟨x, hx⟩ : ∃ x, l[k]'hkl = x := ⟨_, rfl⟩
      have HT : Hd (l.take (k + 1) = l.take k ++ [x]) := hd (by rw [List.take_succ_eq_append_getElem hkl, hx])
      have HMEM : Hd (x ∈ l) := hd (by rw [← hx]; exact List.getElem_mem hkl)
      have hcell : ∀ j u, j < 5 → (opEnc x)[j]? = some u → wr.cell? ⟨g, o + (k * 5 + j), none⟩ = some u := fun j u hj hv => (HB.o.cell (p := ⟨g, o + (k * 5 + j), none⟩) hg).trans (hc _ _ ((opsE_at l k hkl j hj).trans (by rw [hx]; exact hv)))
      have hcall := hd (HC.o wr HB.o x)
      obtain ⟨xd, xu, xc, xk, xv⟩ := x
      have k0 := hcell 0 _ (by omega) rfl
      have k1 := hcell 1 _ (by omega) rfl
      have k2 := hcell 2 _ (by omega) rfl
      have k3 := hcell 3 _ (by omega) rfl
      have k4 := hcell 4 _ (by omega) rfl
      rw [← Nat.add_assoc] at k0 k1 k2 k3 k4
      rw [Nat.add_zero] at k0
      simp only [opEnc] at hcall
      obtain ⟨bq, hbq⟩ : ∃ q : Bool, decide (xu = v) = q := ⟨_, rfl⟩
      rw [hbq] at hcall
      have HBQ := hd hbq
      clear hcell hc hx hkl hbq
      go_wp2_with fail
      refine hcall.o.mono ?_
      rintro e w1 ⟨rfl, rfl⟩
      have HB1 := hd (HB.o.alloc HB.o.size (.cells #[.bool xd, .string (bs xu), .string (bs xc), .int .i64 xk, .int .i64 xv] 60))
      cases bq with
      | true =>
        go_wp2
        go_ret
        refine ⟨(k : Int), rfl, ?_, HB1.o⟩
        rw [decide_eq_true hki]
        symm
        simp only [uidIn, List.any_eq_true]
        exact ⟨_, HMEM.o, HBQ.o⟩
      | false =>
        have HV2 : Hd (uidIn (l.take (k + 1)) v = false) := hd (by rw [HT.o, uidIn_snoc, HV.o]; simpa using HBQ.o)
        go_wp2
        go_roundw
        case rel => exact ⟨k + 1, by go_num, by omega, HV2, HB1⟩
        case measure => simp [RowKit.intOf]; omega
    · obtain rfl : k = n := by omega
      have HE : Hd (l.take k = l) := hd (List.take_of_length_le (by rw [← HN.o]; exact Nat.le_refl _))
      go_wp2
      go_ret
      refine ⟨-1, rfl, ?_, HB.o⟩
      have := HV.o
      rw [HE.o] at this
      rw [this]
      rfl
theorem cfO_calls (w : World) (A : Option Addr) (n c : Nat) (l : List OpV) (b : Nat) (v : List UInt8) (hr : Rds w A n 5 (opsE l)) (hn : n = l.length) (hm : n ≤ 1000000) (hb : w.cell? ⟨b, 1, none⟩ = some (.string (bs v))) (hl : b < w.heap.size) :
    Calls Tryz.prog 141 #[.slice A n c, .func (.func 142) #[] #[.pointer (some ⟨b, 0, none⟩)]] w fun e w' => e = .returned (.bool (uidIn l v)) ∧ Below w.heap.size w w' := by
  have hc := hd (ifO_calls w A n c l b v hr hn hm hb hl)
  clear hr hn hb
  go_enter Tryz.func141, Tryz.ntmps141
  go_wp2_with fail
  refine hc.o.mono ?_
  rintro e w1 ⟨i, rfl, hi, hb1⟩
  have HI := hd hi
  clear hi
  go_wp2
  go_ret
  exact ⟨ret_bool (by rw [← HI.o]), hb1⟩

/-- Few writes. -/
def fewP (l : List OpV) : Bool := !(decide (20 < l.length)) && l.all fun x => !(decide (60 < x.uid.length) || decide (1000 < x.card.length))
theorem fewP_len {l : List OpV} (h : fewP l = true) : l.length ≤ 20 := by
  unfold fewP at h
  simp only [Bool.and_eq_true, Bool.not_eq_true', decide_eq_false_iff_not] at h
  omega
theorem fewP_each {l : List OpV} (h : fewP l = true) : ∀ x ∈ l, x.uid.length ≤ 60 ∧ x.card.length ≤ 1000 := by
  intro x hx
  unfold fewP at h
  simp only [Bool.and_eq_true] at h
  have := List.all_eq_true.1 h.2 x hx
  simp only [Bool.not_eq_true', Bool.or_eq_false_iff, decide_eq_false_iff_not] at this
  omega

end Go.Proofs.YtfacfdjapjhpeaaGreatDoor
namespace Go.Proofs.YtfacfdjapjhpeaaGreatDoor
open Go.RowKit Go.Lib

set_option maxHeartbeats 1000000 in
theorem cmay_calls (w : World) (ck cv : Int) : Calls Tryz.prog 106 #[.agg #[.int .i64 ck, .int .i64 cv]] w fun e w' => e = .returned (.bool (mayP ck cv)) ∧ Below w.heap.size w w' := by
  have HV : Hd (∃ b, b = mayP ck cv) := hd ⟨_, rfl⟩
  have hb := hd ((Below.refl w.heap.size w).alloc (Nat.le_refl _) (.cells #[.int .i64 ck, .int .i64 cv] 42))
  by_cases c0 : ck = 0
  · subst c0
    go_enter Tryz.func106, Tryz.ntmps106
    go_wp2
    go_ret
    exact ⟨rfl, hb.o⟩
  · by_cases c1 : ck = 1
    · subst c1
      go_enter Tryz.func106, Tryz.ntmps106
      go_wp2
      go_ret
      exact ⟨rfl, hb.o⟩
    · by_cases c2 : ck = 2
      · subst c2
        go_enter Tryz.func106, Tryz.ntmps106
        go_wp2
        go_ret
        exact ⟨rfl, hb.o⟩
      · by_cases c3 : ck = 3
        · subst c3
          go_enter Tryz.func106, Tryz.ntmps106
          go_wp2
          go_ret
          exact ⟨rfl, hb.o⟩
        · have e0 : (ck == 0) = false := by simpa using c0
          have e1 : (ck == 1) = false := by simpa using c1
          have e2 : (ck == 2) = false := by simpa using c2
          have e3 : (ck == 3) = false := by simpa using c3
          have HF : Hd (mayP ck cv = false) := hd (by simp [mayP, c0, c1, c2, c3])
          clear c0 c1 c2 c3
          go_enter Tryz.func106, Tryz.ntmps106
          go_wp2
          go_ret
          exact ⟨ret_bool HF.o.symm, hb.o⟩

end Go.Proofs.YtfacfdjapjhpeaaGreatDoor
namespace Go.Proofs.YtfacfdjapjhpeaaGreatDoor
open Go.RowKit Go.Lib

set_option maxHeartbeats 1000000 in
theorem holds_calls (w : World) (ck cv : Int) (th : Bool) (v : Int) : Calls Tryz.prog 143 #[.agg #[.int .i64 ck, .int .i64 cv], .bool th, .int .i64 v] w fun e w' => e = .returned (.bool (holdsP ck cv th v)) ∧ Below w.heap.size w w' := by
  have hb := hd ((Below.refl w.heap.size w).alloc (Nat.le_refl _) (.cells #[.int .i64 ck, .int .i64 cv] 42))
  have HM := hd (cmay_calls (w.alloc (.cells #[.int .i64 ck, .int .i64 cv] 42)) ck cv)
  have HB := hd (Blk.new w 42 #[.int .i64 ck, .int .i64 cv])
  obtain ⟨res, hres⟩ : ∃ r, holdsP ck cv th v = r := ⟨_, rfl⟩
  rw [hres]
  have HR := hd hres
  simp only [holdsP] at hres
  cases hm : mayP ck cv with
  | false =>
    rw [hm] at HM
    have HF : Hd (res = false) := hd (by rw [← hres, hm]; rfl)
    clear hres hm
    go_enter Tryz.func143, Tryz.ntmps143
    go_wp2_with fail
    refine HM.o.mono ?_
    rintro e w2 ⟨rfl, hb2⟩
    have HB2 := hd (hb.o.trans (hb2.mono (by simp)))
    clear hb2
    go_wp2
    go_ret
    exact ⟨ret_bool HF.o.symm, HB2.o⟩
  | true =>
    rw [hm] at HM
    rw [hm, Bool.true_and] at hres
    have HF := hd hres
    clear hres hm
    go_enter Tryz.func143, Tryz.ntmps143
    go_wp2_with fail
    refine HM.o.mono ?_
    rintro e w2 ⟨rfl, hb2⟩
    have hx := HB.o.below hb2 (by simp)
    have x0 := hx.at_ 0 rfl
    have x1 := hx.at_ 1 rfl
    have HB2 := hd (hb.o.trans (hb2.mono (by simp)))
    clear hb2 hx
    by_cases c1 : ck = 1
    · subst c1
      have HF2 : Hd (res = !th) := hd (by rw [← HF.o]; rfl)
      go_wp2
      go_ret
      exact ⟨ret_bool HF2.o.symm, HB2.o⟩
    · have e1 : (ck == 1) = false := by simpa using c1
      by_cases c2 : ck = 2
      · subst c2
        have HF2 : Hd (res = th) := hd (by rw [← HF.o]; rfl)
        go_wp2
        go_ret
        exact ⟨ret_bool HF2.o.symm, HB2.o⟩
      · have e2 : (ck == 2) = false := by simpa using c2
        by_cases c3 : ck = 3
        · subst c3
          have HF2 : Hd (res = (th && (v == cv))) := hd (by rw [← HF.o]; rfl)
          cases th with
          | true =>
            go_wp2
            go_ret
            exact ⟨ret_bool HF2.o.symm, HB2.o⟩
          | false =>
            go_wp2
            go_ret
            exact ⟨ret_bool HF2.o.symm, HB2.o⟩
        · have e3 : (ck == 3) = false := by simpa using c3
          have HF2 : Hd (res = true) := hd (by rw [← HF.o]; simp [c1, c2, c3])
          clear c1 c2 c3
          go_wp2
          go_ret
          exact ⟨ret_bool HF2.o.symm, HB2.o⟩

end Go.Proofs.YtfacfdjapjhpeaaGreatDoor
namespace Go.Proofs.YtfacfdjapjhpeaaGreatDoor
open Go.RowKit Go.Lib

theorem Rds.takeO {w : World} {A : Option Addr} {n : Nat} {l : List OpV} (h : Rds w A n 5 (opsE l)) (hn : n = l.length) (m : Nat) (hm : m ≤ n) : Rds w A m 5 (opsE (l.take m)) := by
  have hfl : (opsE (l.take m)).length = (l.take m).length * 5 := flat_length opEnc 5 opEnc_len' _
  refine ⟨by rw [hfl, List.length_take]; congr 1; omega, fun h0 => ?_⟩
  obtain ⟨g, o, hA, hg, hc⟩ := h.at_ (by omega)
  refine ⟨g, o, hA, hg, fun j u hu => hc j u ?_⟩
  have e : opsE (l.take m) = (opsE l).take (m * 5) := (flat_take opEnc 5 opEnc_len' l m).symm
  rw [e, List.getElem?_take] at hu
  split at hu
  · exact hu
  · cases hu

set_option maxRecDepth 100000 in
set_option maxHeartbeats 8000000 in
theorem ccheck_calls (w : World) (S : Nat → Prop) (b : Nat) (s : Cs) (A : Option Addr) (n c : Nat) (l : List OpV) (room : Int) (h : ColR w S b s) (hl : s.ml.length ≤ 1000000) (hby : bytesM s.ml ≤ 1000000) (hr : Rds w A n 5 (opsE l)) (hn : n = l.length) (hnc : n ≤ c) (hf : fewP l = true) :
    Calls Tryz.prog 120 #[.pointer (some ⟨b, 0, none⟩), .slice A n c, .int .i64 room] w fun e w' => e = .returned (.tuple #[.int .i64 (chkG s room [] l (s.ml.length : Nat) 0).1, .int .i64 (chkG s room [] l (s.ml.length : Nat) 0).2.1, .int .i64 (chkG s room [] l (s.ml.length : Nat) 0).2.2]) ∧ Below w.heap.size w w' := by
  have hn20 : n ≤ 20 := by rw [hn]; exact fewP_len hf
  have HE := hd (fewP_each hf)
  have HR := hd hr
  have HN := hd hn
  have HLEN := hd (clen_calls w S b s h)
  have HGET := hd (fun (w' : World) (hb : Below w.heap.size w w') (u : List UInt8) => cget_calls w' S b s u (h.below hb) hl)
  have HMO := hd (fun (w' : World) (hb : Below w.heap.size w w') => (by
    obtain ⟨mb, rb, S1, S2, h1, _⟩ := h.below hb
    exact h1.at_ 2 rfl : w'.cell? ⟨b, 2, none⟩ = some (.int .i64 s.most)))
  have HTX := hd (fun u => txtM_le (ml := s.ml) u)
  obtain ⟨R, hR⟩ : ∃ R, chkG s room [] l (s.ml.length : Nat) 0 = R := ⟨_, rfl⟩
  obtain ⟨m0, hm0⟩ : ∃ m, s.ml.length = m := ⟨_, rfl⟩
  rw [hR]
  rw [hm0] at HLEN hR hl
  have HRR := hd hR
  clear h hr hn hf hR hm0
  go_enter Tryz.func120, Tryz.ntmps120
  go_wp2_with fail
  refine HLEN.o.mono ?_
  rintro e w1 ⟨rfl, rfl⟩
  go_wp2_with fail
  go_loopw [19, 7, 9, 6, 8, 10, 11, 12, 13, 14] (fun i sg sm _ _ _ _ _ _ _ wr => ∃ (k : Nat) (g m : Int), i = .int .i64 k ∧ sg = .int .i64 g ∧ sm = .int .i64 m ∧ k ≤ n ∧ (m0 : Int) - k ≤ m ∧ m ≤ m0 + k ∧ -(2000000 * (k : Int)) ≤ g ∧ g ≤ 2000000 * (k : Int) ∧ Hd (R = chkG s room (l.take k) (l.drop k) m g) ∧ Hd (Below w.heap.size w wr)) (fun i _ _ _ _ _ _ _ _ _ _ => n - (RowKit.intOf i).toNat)
  case atStart => exact ⟨0, 0, _, rfl, rfl, rfl, Nat.zero_le _, by omega, by omega, by omega, by omega, hd (by rw [List.take_zero, List.drop_zero]; exact HRR.o.symm), hd (Below.refl _ _)⟩
  case round =>
    obtain ⟨k, g, m, rfl, rfl, rfl, hk, hm1, hm2, hg1, hg2, HRE, HB⟩ := hrel
    have hki : (0 : Int) ≤ (k : Int) := by omega
    by_cases hlt : k < n
    · have hlti : (k : Int) < (n : Int) := by omega
      have hkl : k < l.length := by rw [← HN.o]; exact hlt
      obtain ⟨ga, oa, rfl, hga, hc⟩ := HR.o.at_ (by omega)
      obtain ⟨x, hx⟩ : ∃ x, l[k]'hkl = x := ⟨_, rfl⟩
      have hxs := HE.o x (by rw [← hx]; exact List.getElem_mem hkl)
      have hcell : ∀ j u, j < 5 → (opEnc x)[j]? = some u → wr.cell? ⟨ga, oa + (k * 5 + j), none⟩ = some u := fun j u hj hv => (HB.o.cell (p := ⟨ga, oa + (k * 5 + j), none⟩) hga).trans (hc _ _ ((opsE_at l k hkl j hj).trans (by rw [hx]; exact hv)))
      have HERR : Hd (∀ e, chkO s room (l.take k) x m g = .inl e → R = ((k : Int), 0, e)) := hd (fun e he => by rw [HRE.o]; exact chkG_err hkl (by rw [hx]; exact he))
      have HOK : Hd (∀ p, chkO s room (l.take k) x m g = .inr p → R = chkG s room (l.take (k + 1)) (l.drop (k + 1)) p.1 p.2) := hd (fun p hp => by rw [HRE.o]; exact chkG_ok hkl (by rw [hx]; exact hp))
      obtain ⟨xd, xu, xc, xk, xv⟩ := x
      have k0 := hcell 0 _ (by omega) rfl
      have k1 := hcell 1 _ (by omega) rfl
      have k2 := hcell 2 _ (by omega) rfl
      have k3 := hcell 3 _ (by omega) rfl
      have k4 := hcell 4 _ (by omega) rfl
      rw [← Nat.add_assoc] at k0 k1 k2 k3 k4
      rw [Nat.add_zero] at k0
      have hbx : Blk (wr.alloc (.cells #[.bool xd, .string (bs xu), .string (bs xc), .int .i64 xk, .int .i64 xv] 60)) wr.heap.size 60 #[.bool xd, .string (bs xu), .string (bs xc), .int .i64 xk, .int .i64 xv] := Blk.new wr 60 _
      have hb1 : Below w.heap.size w (wr.alloc (.cells #[.bool xd, .string (bs xu), .string (bs xc), .int .i64 xk, .int .i64 xv] 60)) := HB.o.alloc HB.o.size _
      have HCF := hd (cfO_calls _ (some ⟨ga, oa, none⟩) k c (l.take k) wr.heap.size xu ((HR.o.below hb1).takeO HN.o k hk) (by rw [List.length_take]; omega) (by omega) (hbx.at_ 1 rfl) hbx.lt)
      have HBX := hd hbx
      have HB1 := hd hb1
      have hco : chkO s room (l.take k) ⟨xd, xu, xc, xk, xv⟩ m g = (if uidIn (l.take k) xu = true then .inl 11 else if holdsP xk xv (hasM s.ml xu) (verM s.ml xu) = false then .inl 6 else if xd = true ∧ hasM s.ml xu = false then .inl 4 else if s.most < (if hasM s.ml xu = true then m - 1 else m) + (if xd = true then 0 else 1) ∨ room < (if hasM s.ml xu = true then g - ((txtM s.ml xu).length : Int) else g) + (if xd = true then 0 else (xc.length : Int)) then .inl 7 else .inr ((if hasM s.ml xu = true then m - 1 else m) + (if xd = true then 0 else 1), (if hasM s.ml xu = true then g - ((txtM s.ml xu).length : Int) else g) + (if xd = true then 0 else (xc.length : Int)))) := rfl
      have HG := hd (fun w' hb => HGET.o w' hb xu)
      have htz0 := HTX.o xu
      have htn : hasM s.ml xu = false → txtM s.ml xu = [] := txt_none
      obtain ⟨bq, hbq⟩ : ∃ q, uidIn (l.take k) xu = q := ⟨_, rfl⟩
      obtain ⟨th, hth⟩ : ∃ q, hasM s.ml xu = q := ⟨_, rfl⟩
      obtain ⟨gv, hgv⟩ : ∃ q, verM s.ml xu = q := ⟨_, rfl⟩
      obtain ⟨gt, hgt⟩ : ∃ q, txtM s.ml xu = q := ⟨_, rfl⟩
      obtain ⟨tz, htz⟩ : ∃ q, gt.length = q := ⟨_, rfl⟩
      obtain ⟨cz, hcz⟩ : ∃ q, xc.length = q := ⟨_, rfl⟩
      obtain ⟨hh, hhh⟩ : ∃ q, holdsP xk xv th gv = q := ⟨_, rfl⟩
      rw [hbq, hth, hgv, hgt, hhh, htz, hcz] at hco
      rw [hth, hgv, hgt] at HG
      rw [hgt, htz] at htz0
      rw [hbq] at HCF
      have HHO := hd (fun (W : World) => holds_calls W xk xv th gv)
      rw [hhh] at HHO
      have hst : (bs gt).size = tz := by rw [bs_sz, htz]
      have hsc : (bs xc).size = cz := by rw [bs_sz, hcz]
      simp only [hcz] at hxs
      have hcz2 : cz ≤ 1000 := hxs.2
      have htz2 : (tz : Int) ≤ 1000000 := by omega
      have HCO := hd hco
      clear hcell hc hx hkl hbx hb1 hco hbq hth hgv hgt htz hcz hhh htz0 htn hxs
      go_wp2_with fail
      refine HCF.o.mono ?_
      rintro e w1 ⟨rfl, hb2⟩
      have HBX1 := hd (HBX.o.below hb2 (by simp))
      have HB2 := hd (HB1.o.trans (hb2.mono HB1.o.size))
      clear hb2 k0 k1 k2 k3 k4
      cases bq with
      | true =>
        have HF := hd (HERR.o 11 (by rw [HCO.o]; rfl))
        clear HCO HERR HOK
        go_wp2
        go_ret3
        exact ⟨by rw [HF.o]; rfl, HB2.o⟩
      | false =>
        have x1 := HBX1.o.at_ 1 rfl
        go_wp2_with fail
        refine (HG.o _ HB2.o).mono ?_
        rintro e w2 ⟨rfl, hb3⟩
        have HBX2 := hd (HBX1.o.below hb3 HBX1.o.lt)
        have HB3 := hd (HB2.o.trans (hb3.mono HB2.o.size))
        clear hb3 x1
        have x3 := HBX2.o.at_ 3 rfl
        have x4 := HBX2.o.at_ 4 rfl
        go_wp2_with fail
        refine (HHO.o _).mono ?_
        rintro e w3 ⟨rfl, hb4⟩
        have HBX3 := hd (HBX2.o.below hb4 HBX2.o.lt)
        have HB4 := hd (HB3.o.trans (hb4.mono HB3.o.size))
        clear hb4 x3 x4
        cases hh with
        | false =>
          have HF := hd (HERR.o 6 (by rw [HCO.o]; rfl))
          clear HCO HERR HOK
          go_wp2
          go_ret3
          exact ⟨by rw [HF.o]; rfl, HB4.o⟩
        | true =>
          have x0 := HBX3.o.at_ 0 rfl
          have x2 := HBX3.o.at_ 2 rfl
          have x9 := HMO.o _ HB4.o
          cases xd with
          | true =>
            cases th with
            | false =>
              have HF := hd (HERR.o 4 (by rw [HCO.o]; rfl))
              clear HCO HERR HOK
              go_wp2
              go_ret3
              exact ⟨by rw [HF.o]; rfl, HB4.o⟩
            | true =>
              have hco : chkO s room (l.take k) ⟨true, xu, xc, xk, xv⟩ m g = if s.most < m - 1 ∨ room < g - (tz : Int) then .inl 7 else .inr (m - 1, g - (tz : Int)) := by rw [HCO.o]; simp
              by_cases q1 : s.most < m - 1
              · have f1 : decide (s.most < m - 1) = true := by simpa using q1
                have HF := hd (HERR.o 7 (by rw [hco, if_pos (.inl q1)]))
                clear HCO HERR HOK hco q1
                go_wp2
                go_ret3
                exact ⟨by rw [HF.o]; rfl, HB4.o⟩
              · have f1 : decide (s.most < m - 1) = false := by simpa using q1
                by_cases q2 : room < g - (tz : Int)
                · have f2 : decide (room < g - (tz : Int)) = true := by simpa using q2
                  have HF := hd (HERR.o 7 (by rw [hco, if_pos (.inr q2)]))
                  clear HCO HERR HOK hco q1 q2
                  go_wp2
                  go_ret3
                  exact ⟨by rw [HF.o]; rfl, HB4.o⟩
                · have f2 : decide (room < g - (tz : Int)) = false := by simpa using q2
                  have HF := hd (HOK.o _ (by rw [hco, if_neg (by rintro (h | h); exact q1 h; exact q2 h)]))
                  clear HCO HERR HOK hco q1 q2
                  go_wp2
                  go_roundw
                  case rel => exact ⟨k + 1, _, _, by go_num, rfl, rfl, by omega, by omega, by omega, by omega, by omega, HF, HB4⟩
                  case measure => simp [RowKit.intOf]; omega
          | false =>
            cases th with
            | true =>
              have hco : chkO s room (l.take k) ⟨false, xu, xc, xk, xv⟩ m g = if s.most < m ∨ room < g - (tz : Int) + (cz : Int) then .inl 7 else .inr (m, g - (tz : Int) + (cz : Int)) := by rw [HCO.o]; simp
              by_cases q1 : s.most < m
              · have f1 : decide (s.most < m) = true := by simpa using q1
                have HF := hd (HERR.o 7 (by rw [hco, if_pos (.inl q1)]))
                clear HCO HERR HOK hco q1
                go_wp2
                go_ret3
                exact ⟨by rw [HF.o]; rfl, HB4.o⟩
              · have f1 : decide (s.most < m) = false := by simpa using q1
                by_cases q2 : room < g - (tz : Int) + (cz : Int)
                · have f2 : decide (room < g - (tz : Int) + (cz : Int)) = true := by simpa using q2
                  have HF := hd (HERR.o 7 (by rw [hco, if_pos (.inr q2)]))
                  clear HCO HERR HOK hco q1 q2
                  go_wp2
                  go_ret3
                  exact ⟨by rw [HF.o]; rfl, HB4.o⟩
                · have f2 : decide (room < g - (tz : Int) + (cz : Int)) = false := by simpa using q2
                  have HF := hd (HOK.o _ (by rw [hco, if_neg (by rintro (h | h); exact q1 h; exact q2 h)]))
                  clear HCO HERR HOK hco q1 q2
                  go_wp2
                  go_roundw
                  case rel => exact ⟨k + 1, _, _, by go_num, rfl, rfl, by omega, by omega, by omega, by omega, by omega, HF, HB4⟩
                  case measure => simp [RowKit.intOf]; omega
            | false =>
              have hco : chkO s room (l.take k) ⟨false, xu, xc, xk, xv⟩ m g = if s.most < m + 1 ∨ room < g + (cz : Int) then .inl 7 else .inr (m + 1, g + (cz : Int)) := by rw [HCO.o]; simp
              by_cases q1 : s.most < m + 1
              · have f1 : decide (s.most < m + 1) = true := by simpa using q1
                have HF := hd (HERR.o 7 (by rw [hco, if_pos (.inl q1)]))
                clear HCO HERR HOK hco q1
                go_wp2
                go_ret3
                exact ⟨by rw [HF.o]; rfl, HB4.o⟩
              · have f1 : decide (s.most < m + 1) = false := by simpa using q1
                by_cases q2 : room < g + (cz : Int)
                · have f2 : decide (room < g + (cz : Int)) = true := by simpa using q2
                  have HF := hd (HERR.o 7 (by rw [hco, if_pos (.inr q2)]))
                  clear HCO HERR HOK hco q1 q2
                  go_wp2
                  go_ret3
                  exact ⟨by rw [HF.o]; rfl, HB4.o⟩
                · have f2 : decide (room < g + (cz : Int)) = false := by simpa using q2
                  have HF := hd (HOK.o _ (by rw [hco, if_neg (by rintro (h | h); exact q1 h; exact q2 h)]))
                  clear HCO HERR HOK hco q1 q2
                  go_wp2
                  go_roundw
                  case rel => exact ⟨k + 1, _, _, by go_num, rfl, rfl, by omega, by omega, by omega, by omega, by omega, HF, HB4⟩
                  case measure => simp [RowKit.intOf]; omega
    · obtain rfl : k = n := by omega
      have HF : Hd (R = (0, g, 0)) := hd (by rw [HRE.o, List.drop_eq_nil_of_le (by rw [← HN.o]; exact Nat.le_refl _)]; rfl)
      go_wp2
      go_ret3
      exact ⟨by rw [HF.o]; rfl, HB.o⟩

end Go.Proofs.YtfacfdjapjhpeaaGreatDoor
