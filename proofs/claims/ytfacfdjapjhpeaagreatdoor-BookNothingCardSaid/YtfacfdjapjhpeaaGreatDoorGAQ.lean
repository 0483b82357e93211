/-
  The reference's days: what may be; a date's text.
-/
import Derived.Test.YtfacfdjapjhpeaaGreatDoorGAP
import Derived.Test.YtfacfdjapjhpeaaGreatDoorGAD
set_option linter.unusedVariables false
set_option linter.unusedSimpArgs false
namespace Go.Proofs.YtfacfdjapjhpeaaGreatDoor
open Go.RowKit Go.Sort

set_option maxHeartbeats 400000 in
theorem rmay_calls (y m d : Int) (w : World) : Calls Tryz.prog 259 #[.agg #[.int .i64 y, .int .i64 m, .int .i64 d]] w fun e w' => e = .returned (.bool (mayB y m d)) ∧ Below w.heap.size w w' := by
  by_cases hh : 0 ≤ y ∧ y ≤ 9999 ∧ 1 ≤ m ∧ m ≤ 12 ∧ 1 ≤ d
  · obtain ⟨c1, c2, c3, c4, c5⟩ := hh
    have e1 : mayB y m d = decide (d ≤ dm y m) := by simp [mayB, c1, c2, c3, c4, c5]
    rw [e1]
    clear e1
    obtain ⟨X, hX⟩ : ∃ X, X = w.alloc (.cells #[.int .i64 y, .int .i64 m, .int .i64 d] 292) := ⟨_, rfl⟩
    have HX := hd (hX ▸ Blk.new w 292 #[.int .i64 y, .int .i64 m, .int .i64 d] : Blk X w.heap.size 292 #[.int .i64 y, .int .i64 m, .int .i64 d])
    have HW := hd (hX ▸ (Below.refl _ w).alloc (Nat.le_refl _) _ : Below w.heap.size w X)
    have hx := hd hX
    clear hX
    have D1 := hd (fun dd os => Calls.regrown_of (month_calls y m c3 c4 (grow (redrawn X dd) os)))
    have q1 := cell_regrown (HX.o.at_ 0 rfl)
    have q2 := cell_regrown (HX.o.at_ 1 rfl)
    have q3 := cell_regrown (HX.o.at_ 2 rfl)
    go_enter Tryz.func259, Tryz.ntmps259
    go_wp2_with fail
    rw [← hx.o]
    refine wp_region_quiet_below (by kernel_rfl) (by kernel_rfl) ?_
    repeat (go_big_quiet_step (exact D1.o _ _))
    refine wpQuiet_nil ?_
    intro _ hw'
    obtain ⟨⟨dq, osq⟩, hw''⟩ := hw'
    subst hw''
    go_wp2
    go_ret
    exact ⟨rfl, HW.o.trans ((below_regrown X dq osq).mono HW.o.size)⟩
  · have e1 : mayB y m d = false := by
      cases h : mayB y m d with
      | false => rfl
      | true => rw [mayB_iff] at h; omega
    rw [e1]
    clear e1
    have hc : y < 0 ∨ (0 ≤ y ∧ 9999 < y) ∨ (0 ≤ y ∧ y ≤ 9999 ∧ m < 1) ∨ (0 ≤ y ∧ y ≤ 9999 ∧ 1 ≤ m ∧ 12 < m) ∨ (0 ≤ y ∧ y ≤ 9999 ∧ 1 ≤ m ∧ m ≤ 12 ∧ d < 1) := by omega
    clear hh
    rcases hc with c1 | ⟨c1, c2⟩ | ⟨c1, c2, c3⟩ | ⟨c1, c2, c3, c4⟩ | ⟨c1, c2, c3, c4, c5⟩
    · have b : decide (0 ≤ y) = false := by simp; omega
      go_enter Tryz.func259, Tryz.ntmps259
      go_wp2_with fail
      go_quiet (fail)
      go_wp2
      go_ret
      exact ⟨rfl, bdrewN ((Below.refl _ _).alloc (Nat.le_refl _) _) _⟩
    · have b : decide (y ≤ 9999) = false := by simp; omega
      go_enter Tryz.func259, Tryz.ntmps259
      go_wp2_with fail
      go_quiet (fail)
      go_wp2
      go_ret
      exact ⟨rfl, bdrewN ((Below.refl _ _).alloc (Nat.le_refl _) _) _⟩
    · have b : decide (1 ≤ m) = false := by simp; omega
      go_enter Tryz.func259, Tryz.ntmps259
      go_wp2_with fail
      go_quiet (fail)
      go_wp2
      go_ret
      exact ⟨rfl, bdrewN ((Below.refl _ _).alloc (Nat.le_refl _) _) _⟩
    · have b : decide (m ≤ 12) = false := by simp; omega
      go_enter Tryz.func259, Tryz.ntmps259
      go_wp2_with fail
      go_quiet (fail)
      go_wp2
      go_ret
      exact ⟨rfl, bdrewN ((Below.refl _ _).alloc (Nat.le_refl _) _) _⟩
    · have b : decide (1 ≤ d) = false := by simp; omega
      go_enter Tryz.func259, Tryz.ntmps259
      go_wp2_with fail
      go_quiet (fail)
      go_wp2
      go_ret
      exact ⟨rfl, bdrewN ((Below.refl _ _).alloc (Nat.le_refl _) _) _⟩

theorem rshow_no (y m d : Int) (w : World) (hm : mayB y m d = false) : Calls Tryz.prog 238 #[.agg #[.int .i64 y, .int .i64 m, .int .i64 d]] w fun e w' => e = .returned (.string (bs [])) ∧ Below w.heap.size w w' := by
  have HM := hd hm
  clear hm
  go_enter Tryz.func238, Tryz.ntmps238
  go_wp2_with fail
  refine (rmay_calls y m d _).mono ?_
  rintro e w' ⟨rfl, hb⟩
  rw [HM.o]
  go_wp2
  go_ret
  exact ⟨rfl, ((Below.refl _ w).alloc (Nat.le_refl _) _).trans (hb.mono (by simp))⟩

theorem bs_app (a b : List UInt8) : bs a ++ bs b = bs (a ++ b) := by
  apply ByteArray.ext; simp [bs]

set_option maxHeartbeats 800000 in
theorem rshow_yes (y m d : Int) (w : World) (hm : mayB y m d = true) : Calls Tryz.prog 238 #[.agg #[.int .i64 y, .int .i64 m, .int .i64 d]] w fun e w' => e = .returned (.string (bs (showL y m d))) ∧ Below w.heap.size w w' := by
  have hdm := dm_bd y m
  have hb := (mayB_iff y m d).1 hm
  obtain ⟨c1, c2, c3, c4, c5, c6⟩ := hb
  have c7 : d ≤ 31 := by omega
  clear c6 hdm
  have HM := hd hm
  clear hm
  have hcell : ∀ W, Below (w.alloc (.cells #[.int .i64 y, .int .i64 m, .int .i64 d] 292)).heap.size (w.alloc (.cells #[.int .i64 y, .int .i64 m, .int .i64 d] 292)) W → Blk W w.heap.size 292 #[.int .i64 y, .int .i64 m, .int .i64 d] := fun W hb => (Blk.new w _ _).below hb (by simp)
  have HC := hd hcell
  clear hcell
  have z1 : (bs (sh2 m.toNat)).size = 2 := rfl
  have z2 : (bs (sh2 d.toNat)).size = 2 := rfl
  have z3 : (bs (sh2 y.toNat)).size = 2 := rfl
  have z4 : (bs (sh2 (y / 100).toNat)).size = 2 := rfl
  have z5 : (bs (sh4 y.toNat)).size = 4 := rfl
  by_cases hy : y = 0
  · subst hy
    go_enter Tryz.func238, Tryz.ntmps238
    go_wp2_with fail
    refine (rmay_calls 0 m d _).mono ?_
    rintro e w1 ⟨rfl, hb⟩
    rw [HM.o]
    have hk := HC.o w1 hb
    have h0 := hk.at_ 0 rfl
    have h1 := hk.at_ 1 rfl
    have h2 := hk.at_ 2 rfl
    clear hk
    go_wp2_with fail
    have q1 := cell_regrown h1
    have q2 := cell_regrown h2
    refine wp_region_quiet_below (by kernel_rfl) (by kernel_rfl) ?_
    repeat (go_big_quiet_step (refine Calls.regrown_of (two_calls _ (by omega) (by omega) _)))
    refine wpQuiet_nil ?_
    intro _ hw'
    obtain ⟨⟨dq, osq⟩, hw''⟩ := hw'
    subst hw''
    go_wp2
    go_ret
    refine ⟨ret_val (congrArg Value.string (ba_ext ?_)), ?_⟩
    · simp [showL, HM.o, bs_data]
    · exact ((Below.refl _ w).alloc (Nat.le_refl _) _).trans ((hb.trans ((below_regrown w1 dq osq).mono hb.size)).mono (by simp))
  · have hne : (y != 0) = true := by simpa using hy
    have HY := hd hy
    clear hy
    go_enter Tryz.func238, Tryz.ntmps238
    go_wp2_with fail
    refine (rmay_calls y m d _).mono ?_
    rintro e w1 ⟨rfl, hb⟩
    rw [HM.o]
    have hk := HC.o w1 hb
    have h0 := hk.at_ 0 rfl
    clear hk
    go_wp2_with fail
    have q0 := cell_regrown h0
    refine wp_region_quiet_below (by kernel_rfl) (by kernel_rfl) ?_
    repeat (go_big_quiet_step (refine Calls.regrown_of (two_calls _ (by omega) (by omega) _)))
    refine wpQuiet_nil ?_
    intro w2 hw'
    have hb2 : Below w1.heap.size w1 w2 := by
      obtain ⟨⟨dq, osq⟩, hw''⟩ := hw'
      subst hw''
      exact below_regrown w1 dq osq
    clear hw' q0 h0
    have e4 : bs (sh2 (y / 100).toNat) ++ bs (sh2 y.toNat) = bs (sh4 y.toNat) := by
      rw [bs_app, sh4, show (y / 100).toNat = y.toNat / 100 by omega]
    rw [e4]
    clear e4
    have hb3 := hb.trans (hb2.mono hb.size)
    have hk := HC.o w2 hb3
    have h1 := hk.at_ 1 rfl
    have h2 := hk.at_ 2 rfl
    clear hk
    have q1 := cell_regrown h1
    have q2 := cell_regrown h2
    go_wp2_with fail
    refine wp_region_quiet_below (by kernel_rfl) (by kernel_rfl) ?_
    repeat (go_big_quiet_step (refine Calls.regrown_of (two_calls _ (by omega) (by omega) _)))
    refine wpQuiet_nil ?_
    intro _ hw'
    obtain ⟨⟨dq, osq⟩, hw''⟩ := hw'
    subst hw''
    go_wp2
    go_ret
    refine ⟨ret_val (congrArg Value.string (ba_ext ?_)), ?_⟩
    · simp [showL, HM.o, HY.o, bs_data]
    · exact ((Below.refl _ w).alloc (Nat.le_refl _) _).trans ((hb3.trans ((below_regrown w2 dq osq).mono hb3.size)).mono (by simp))

theorem rshow_calls (y m d : Int) (w : World) : Calls Tryz.prog 238 #[.agg #[.int .i64 y, .int .i64 m, .int .i64 d]] w fun e w' => e = .returned (.string (bs (showL y m d))) ∧ Below w.heap.size w w' := by
  rcases Bool.eq_false_or_eq_true (mayB y m d) with h | h
  · exact rshow_yes y m d w h
  · have := rshow_no y m d w h
    unfold showL
    rw [if_neg (by simp [h])]
    exact this

end Go.Proofs.YtfacfdjapjhpeaaGreatDoor
namespace Go.Proofs.YtfacfdjapjhpeaaGreatDoor
open Go.RowKit

/-- The number of some digits, from a number on. -/
def numV : List UInt8 → Int → Int
  | [], n => n
  | c :: t, n => if c < 48 ∨ 57 < c then -1 else numV t (n * 10 + (c.toNat - 48))

theorem numV_at (s : ByteArray) (i : Nat) (hi : i < s.size) (n v : Int) (h : numV (s.data.toList.drop i) n = v) :
    (48 ≤ s[i].toNat ∧ s[i].toNat ≤ 57 ∧ numV (s.data.toList.drop (i + 1)) (n * 10 + ((s[i].toNat : Int) - 48)) = v) ∨ (s[i].toNat < 48 ∧ v = -1) ∨ (57 < s[i].toNat ∧ v = -1) := by
  have hl : i < s.data.toList.length := by simpa using hi
  have e : s.data.toList.drop i = s[i] :: s.data.toList.drop (i + 1) := by rw [List.drop_eq_getElem_cons hl]; rfl
  rw [e, numV] at h
  split at h
  · next hc =>
    rcases hc with hc | hc
    · exact .inr (.inl ⟨by have := UInt8.lt_iff_toNat_lt.1 hc; simpa using this, h.symm⟩)
    · exact .inr (.inr ⟨by have := UInt8.lt_iff_toNat_lt.1 hc; simpa using this, h.symm⟩)
  · next hc =>
    refine .inl ⟨?_, ?_, h⟩
    · apply Nat.le_of_not_lt; intro hh; exact hc (.inl (UInt8.lt_iff_toNat_lt.2 (by simpa using hh)))
    · apply Nat.le_of_not_lt; intro hh; exact hc (.inr (UInt8.lt_iff_toNat_lt.2 (by simpa using hh)))

theorem drop_all (s : ByteArray) : s.data.toList.drop s.size = [] := List.drop_of_length_le (by rw [Array.length_toList]; exact Nat.le_refl _)

theorem number_calls (s : ByteArray) (h : s.size ≤ 10) (w : World) : Calls Tryz.prog 246 #[.string s] w fun e w' => e = .returned (.int .i64 (numV s.data.toList 0)) ∧ w = w' := by
  obtain ⟨v, hv⟩ : ∃ v, numV s.data.toList 0 = v := ⟨_, rfl⟩
  rw [hv]
  have HV := hd hv
  clear hv
  have hs : s.size ≤ 9223372036854775807 := by omega
  go_enter Tryz.func246, Tryz.ntmps246
  go_wp2_with fail
  go_loop [2, 3, 4, 7] (fun a b c d => a = .int .i64 0 ∧ ∃ i : Nat, d = .int .i64 i ∧ i ≤ s.size ∧ ∃ n : Int, b = .int .i64 n ∧ 0 ≤ n ∧ n < 10 ^ i ∧ Hd (numV (s.data.toList.drop i) n = v)) (fun _ _ _ d => s.size - (RowKit.intOf d).toNat)
  case atStart => exact ⟨rfl, 0, rfl, by omega, 0, rfl, by omega, by simp, HV⟩
  case round =>
    obtain ⟨rfl, i, rfl, hi, n, rfl, hn0, hn1, hh⟩ := hrel
    by_cases hlt : i < s.size
    · have hp : (10:Int) ^ i ≤ 10 ^ 9 := by exact_mod_cast Nat.pow_le_pow_right (by omega : 0 < 10) (by omega : i ≤ 9)
      have hn : n < 1000000000 := by omega
      clear hp
      rcases numV_at s i hlt n v hh.o with ⟨ha, hb, hx⟩ | ⟨ha, rfl⟩ | ⟨ha, rfl⟩
      · have HX := hd hx
        clear hx
        go_wp2_with fail
        go_round
        case rel =>
          refine ⟨rfl, i + 1, by simp, by omega, _, rfl, by omega, ?_, HX⟩
          rw [Int.pow_succ]; omega
        case measure =>
          show s.size - ((i : Int) + 1).toNat < s.size - (i : Int).toNat
          omega
      · go_wp2_with fail
        go_ret
        exact ⟨rfl, rfl⟩
      · go_wp2_with fail
        go_ret
        exact ⟨rfl, rfl⟩
    · have hie : i = s.size := by omega
      subst hie
      have hx := hh.o
      rw [drop_all] at hx
      simp only [numV] at hx
      subst hx
      go_wp2_with fail
      go_ret
      exact ⟨rfl, rfl⟩

end Go.Proofs.YtfacfdjapjhpeaaGreatDoor
namespace Go.Proofs.YtfacfdjapjhpeaaGreatDoor
open Go.RowKit

theorem q0 {P : Program} {f : Nat} {args : Array Value} {w : World} {v : Value} (h : Calls P f args w fun e w' => e = .returned v ∧ w = w') : Calls P f args w fun e w' => e = .returned v ∧ w' = w := h.mono fun _ _ ⟨a, b⟩ => ⟨a, b.symm⟩
theorem ext_size (s : ByteArray) (a b : Nat) : (s.extract a b).size ≤ s.size := by rw [ByteArray.size_extract]; omega
theorem bs_eq (l : List UInt8) (s : ByteArray) (h : l = s.data.toList) : bs l = s := by subst h; rfl

theorem str_ne (l : List UInt8) (s : ByteArray) (h : ¬ l = s.data.toList) : ((bs l).toList == s.toList) = false := by
  rw [ByteArray.toList_eq, ByteArray.toList_eq, beq_eq_false_iff_ne]
  exact h

/-- A date and an answer. -/
def dateV (y m d k : Int) : Value := .tuple #[.agg #[.int .i64 y, .int .i64 m, .int .i64 d], .int .i64 k]

/-- What a text's numbers answer. -/
def Ans (s : ByteArray) (y m d : Int) (v : Value) : Prop :=
  (mayB y m d = true ∧ showL y m d = s.data.toList ∧ v = dateV y m d 0) ∨ (¬ (mayB y m d = true ∧ showL y m d = s.data.toList) ∧ v = dateV 0 0 0 1)

/-- The two cells that a parse makes. -/
theorem two_cells (w W : World) (t : TypeId) (c1 c2 : Array Value)
    (hb : Below ((w.alloc (.cells c1 t)).alloc (.cells c2 t)).heap.size ((w.alloc (.cells c1 t)).alloc (.cells c2 t)) W) :
    Blk W w.heap.size t c1 ∧ Blk W (w.heap.size + 1) t c2 :=
  ⟨((Blk.new w t c1).alloc _).below hb (by simp; omega), (Blk.new_ (w.alloc (.cells c1 t)) (w.heap.size + 1) (by simp) t c2).below hb (by simp)⟩
theorem two_below (w W : World) (o1 o2 : Obj) (hb : Below ((w.alloc o1).alloc o2).heap.size ((w.alloc o1).alloc o2) W) : Below w.heap.size w W :=
  (((Below.refl _ w).alloc (Nat.le_refl _) _).alloc (by simp) _).trans (hb.mono (by simp; omega))
theorem res_cell_tmp {P : Program} {fn : Func} {p u : Tmp} {ty : TypeId} (h : fn.results = #[.cell p ty, .tmp u]) (tmps : Array Value) (w : World) (g : Nat) (t : TypeId) (cs : Array Value) (fr : Nat × Nat) (d : TypeDesc)
    (hp : tmps.getD p undef = .pointer (some ⟨g, 0, none⟩)) (hg : w.heap[g]? = some (.cells cs t fr))
    (hu : P.underlying ty = some d) (hd : (match d with | .struct _ | .array _ _ => true | _ => false) = true) (hi : (P.info? ty).map (·.size) = some cs.size) :
    (results fn tmps).run P w = .ok (.tuple #[.agg cs, tmps.getD u undef]) w := by
  rw [results_cell_tmp h, hp]
  simp [asAddr, run_loadVar_row w g t ty cs fr d hg hu hd hi, Result.andThen]
theorem undrew {B : Nat} {a w : World} (h : Below B a.drew w) : Below B a w := ⟨h.os, h.tape, h.output, h.size, h.block⟩

set_option maxRecDepth 100000 in
set_option maxHeartbeats 2000000 in
theorem parse_7 (s : ByteArray) (hs7 : s.size = 7) (m d : Int) (nm : ∀ W, Calls Tryz.prog 246 #[.string (s.extract 2 4)] W fun e w' => e = .returned (.int .i64 m) ∧ W = w') (nd : ∀ W, Calls Tryz.prog 246 #[.string (s.extract 5 7)] W fun e w' => e = .returned (.int .i64 d) ∧ W = w') (w : World) (ht : Tab w) : Calls Tryz.prog 228 #[.string s] w fun e w' => ∃ v, e = .returned v ∧ Ans s 0 m d v ∧ Below w.heap.size w w' := by
  have HT := hd ht
  clear ht
  have A0 := hd nm
  clear nm
  have A1 := hd nd
  clear nd
  have HC := hd (fun W => two_cells w W 292 #[.int .i64 0, .int .i64 0, .int .i64 0] #[.int .i64 0, .int .i64 m, .int .i64 d])
  have HW := hd (fun W => two_below w W (.cells #[.int .i64 0, .int .i64 0, .int .i64 0] 292) (.cells #[.int .i64 0, .int .i64 m, .int .i64 d] 292))
  rcases Bool.eq_false_or_eq_true (mayB 0 m d) with hm | hm
  · have HM := hd hm
    clear hm
    by_cases hs : showL 0 m d = s.data.toList
    · have HS := hd hs
      clear hs
      go_enter Tryz.func228, Tryz.ntmps228
      go_wp2_with fail
      go_still_tail 7, (by kernel_rfl)
      still_call (q0 (A0.o _))
      repeat still_step
      still_call (q0 (A1.o _))
      repeat still_step
      try refine wpStill_nil ?_
      change wpList _ _ _ _ _ (World.drew _)
      go_wp2_with fail
      refine (may_calls 0 m d _).mono ?_
      rintro e w1 ⟨rfl, hb⟩
      rw [HM.o]
      have hb' := undrew hb
      clear hb
      obtain ⟨k1, k2⟩ := HC.o w1 hb'
      have a0 := k1.at_ 0 rfl
      have a1 := k1.at_ 1 rfl
      have a2 := k1.at_ 2 rfl
      have f0 := k1.frozen 0
      have f1 := k1.frozen 1
      have f2 := k1.frozen 2
      have b0 := k2.at_ 0 rfl
      have b1 := k2.at_ 1 rfl
      have b2 := k2.at_ 2 rfl
      have hl : w.heap.size < w1.heap.size := k1.lt
      have hl2 : w.heap.size + 1 < w1.heap.size := k2.lt
      have K1 := hd k1
      clear k1 k2
      go_wp2_with fail
      refine (show_yes 0 m d w1 HM.o (HT.o.below (HW.o w1 hb'))).mono ?_
      rintro e w2 ⟨rfl, hb2⟩
      have hb3 := hb'.trans (hb2.mono hb'.size)
      clear a0 a1 a2 f0 f1 f2 b0 b1 b2 hl hl2 K1
      obtain ⟨k1, k2⟩ := HC.o w2 hb3
      have a0 := k1.at_ 0 rfl
      have a1 := k1.at_ 1 rfl
      have a2 := k1.at_ 2 rfl
      have f0 := k1.frozen 0
      have f1 := k1.frozen 1
      have f2 := k1.frozen 2
      have b0 := k2.at_ 0 rfl
      have b1 := k2.at_ 1 rfl
      have b2 := k2.at_ 2 rfl
      have hl : w.heap.size < w2.heap.size := k1.lt
      have hl2 : w.heap.size + 1 < w2.heap.size := k2.lt
      have K1 := hd k1
      clear k1 k2
      rw [bs_eq _ _ HS.o]
      go_wp2
      (try simp only [Exit.inBlock, Exit.then])
      refine bodyPost_ret (res_cell_tmp rfl _ _ _ _ _ _ _ rfl (((K1.o.set_ 0 _).set_ 1 _).set_ 2 _) rfl rfl rfl) rfl ⟨_, rfl, ?_, ?_⟩
      · exact .inl ⟨HM.o, HS.o, rfl⟩
      · exact ((((HW.o _ hb3).setCell (Nat.le_refl _) _).setCell (Nat.le_refl _) _).setCell (Nat.le_refl _) _)
    · have HS := hd hs
      clear hs
      go_enter Tryz.func228, Tryz.ntmps228
      go_wp2_with fail
      go_still_tail 7, (by kernel_rfl)
      still_call (q0 (A0.o _))
      repeat still_step
      still_call (q0 (A1.o _))
      repeat still_step
      try refine wpStill_nil ?_
      change wpList _ _ _ _ _ (World.drew _)
      go_wp2_with fail
      refine (may_calls 0 m d _).mono ?_
      rintro e w1 ⟨rfl, hb⟩
      rw [HM.o]
      have hb' := undrew hb
      clear hb
      obtain ⟨k1, k2⟩ := HC.o w1 hb'
      have a0 := k1.at_ 0 rfl
      have a1 := k1.at_ 1 rfl
      have a2 := k1.at_ 2 rfl
      have f0 := k1.frozen 0
      have f1 := k1.frozen 1
      have f2 := k1.frozen 2
      have b0 := k2.at_ 0 rfl
      have b1 := k2.at_ 1 rfl
      have b2 := k2.at_ 2 rfl
      have hl : w.heap.size < w1.heap.size := k1.lt
      have hl2 : w.heap.size + 1 < w1.heap.size := k2.lt
      have K1 := hd k1
      clear k1 k2
      go_wp2_with fail
      refine (show_yes 0 m d w1 HM.o (HT.o.below (HW.o w1 hb'))).mono ?_
      rintro e w2 ⟨rfl, hb2⟩
      have hb3 := hb'.trans (hb2.mono hb'.size)
      clear a0 a1 a2 f0 f1 f2 b0 b1 b2 hl hl2 K1
      obtain ⟨k1, k2⟩ := HC.o w2 hb3
      have a0 := k1.at_ 0 rfl
      have a1 := k1.at_ 1 rfl
      have a2 := k1.at_ 2 rfl
      have f0 := k1.frozen 0
      have f1 := k1.frozen 1
      have f2 := k1.frozen 2
      have b0 := k2.at_ 0 rfl
      have b1 := k2.at_ 1 rfl
      have b2 := k2.at_ 2 rfl
      have hl : w.heap.size < w2.heap.size := k1.lt
      have hl2 : w.heap.size + 1 < w2.heap.size := k2.lt
      have K1 := hd k1
      clear k1 k2
      have hne := str_ne _ _ HS.o
      go_wp2
      (try simp only [Exit.inBlock, Exit.then])
      refine bodyPost_ret (res_cell_tmp rfl _ _ _ _ _ _ _ rfl (((K1.o.set_ 0 _).set_ 1 _).set_ 2 _) rfl rfl rfl) rfl ⟨_, rfl, ?_, ?_⟩
      · exact .inr ⟨fun hx => HS.o hx.2, rfl⟩
      · exact ((((HW.o _ hb3).setCell (Nat.le_refl _) _).setCell (Nat.le_refl _) _).setCell (Nat.le_refl _) _)
  · have HM := hd hm
    clear hm
    go_enter Tryz.func228, Tryz.ntmps228
    go_wp2_with fail
    go_still_tail 7, (by kernel_rfl)
    still_call (q0 (A0.o _))
    repeat still_step
    still_call (q0 (A1.o _))
    repeat still_step
    try refine wpStill_nil ?_
    change wpList _ _ _ _ _ (World.drew _)
    go_wp2_with fail
    refine (may_calls 0 m d _).mono ?_
    rintro e w1 ⟨rfl, hb⟩
    rw [HM.o]
    have hb' := undrew hb
    clear hb
    obtain ⟨k1, k2⟩ := HC.o w1 hb'
    have a0 := k1.at_ 0 rfl
    have a1 := k1.at_ 1 rfl
    have a2 := k1.at_ 2 rfl
    have f0 := k1.frozen 0
    have f1 := k1.frozen 1
    have f2 := k1.frozen 2
    have b0 := k2.at_ 0 rfl
    have b1 := k2.at_ 1 rfl
    have b2 := k2.at_ 2 rfl
    have hl : w.heap.size < w1.heap.size := k1.lt
    have hl2 : w.heap.size + 1 < w1.heap.size := k2.lt
    have K1 := hd k1
    clear k1 k2
    go_wp2
    (try simp only [Exit.inBlock, Exit.then])
    refine bodyPost_ret (res_cell_tmp rfl _ _ _ _ _ _ _ rfl (((K1.o.set_ 0 _).set_ 1 _).set_ 2 _) rfl rfl rfl) rfl ⟨_, rfl, ?_, ?_⟩
    · exact .inr ⟨fun hx => Bool.noConfusion (HM.o.symm.trans hx.1), rfl⟩
    · exact ((((HW.o _ hb').setCell (Nat.le_refl _) _).setCell (Nat.le_refl _) _).setCell (Nat.le_refl _) _)

set_option maxRecDepth 100000 in
set_option maxHeartbeats 2000000 in
theorem parse_10 (s : ByteArray) (hs10 : s.size = 10) (y m d : Int) (ny : ∀ W, Calls Tryz.prog 246 #[.string (s.extract 0 4)] W fun e w' => e = .returned (.int .i64 y) ∧ W = w') (nm : ∀ W, Calls Tryz.prog 246 #[.string (s.extract 5 7)] W fun e w' => e = .returned (.int .i64 m) ∧ W = w') (nd : ∀ W, Calls Tryz.prog 246 #[.string (s.extract 8 10)] W fun e w' => e = .returned (.int .i64 d) ∧ W = w') (w : World) (ht : Tab w) : Calls Tryz.prog 228 #[.string s] w fun e w' => ∃ v, e = .returned v ∧ Ans s y m d v ∧ Below w.heap.size w w' := by
  have HT := hd ht
  clear ht
  have A0 := hd ny
  clear ny
  have A1 := hd nm
  clear nm
  have A2 := hd nd
  clear nd
  have HC := hd (fun W => two_cells w W 292 #[.int .i64 0, .int .i64 0, .int .i64 0] #[.int .i64 y, .int .i64 m, .int .i64 d])
  have HW := hd (fun W => two_below w W (.cells #[.int .i64 0, .int .i64 0, .int .i64 0] 292) (.cells #[.int .i64 y, .int .i64 m, .int .i64 d] 292))
  rcases Bool.eq_false_or_eq_true (mayB y m d) with hm | hm
  · have HM := hd hm
    clear hm
    by_cases hs : showL y m d = s.data.toList
    · have HS := hd hs
      clear hs
      go_enter Tryz.func228, Tryz.ntmps228
      go_wp2_with fail
      go_still_tail 10, (by kernel_rfl)
      still_call (q0 (A0.o _))
      repeat still_step
      still_call (q0 (A1.o _))
      repeat still_step
      still_call (q0 (A2.o _))
      repeat still_step
      try refine wpStill_nil ?_
      change wpList _ _ _ _ _ (World.drew _)
      go_wp2_with fail
      refine (may_calls y m d _).mono ?_
      rintro e w1 ⟨rfl, hb⟩
      rw [HM.o]
      have hb' := undrew hb
      clear hb
      obtain ⟨k1, k2⟩ := HC.o w1 hb'
      have a0 := k1.at_ 0 rfl
      have a1 := k1.at_ 1 rfl
      have a2 := k1.at_ 2 rfl
      have f0 := k1.frozen 0
      have f1 := k1.frozen 1
      have f2 := k1.frozen 2
      have b0 := k2.at_ 0 rfl
      have b1 := k2.at_ 1 rfl
      have b2 := k2.at_ 2 rfl
      have hl : w.heap.size < w1.heap.size := k1.lt
      have hl2 : w.heap.size + 1 < w1.heap.size := k2.lt
      have K1 := hd k1
      clear k1 k2
      go_wp2_with fail
      refine (show_yes y m d w1 HM.o (HT.o.below (HW.o w1 hb'))).mono ?_
      rintro e w2 ⟨rfl, hb2⟩
      have hb3 := hb'.trans (hb2.mono hb'.size)
      clear a0 a1 a2 f0 f1 f2 b0 b1 b2 hl hl2 K1
      obtain ⟨k1, k2⟩ := HC.o w2 hb3
      have a0 := k1.at_ 0 rfl
      have a1 := k1.at_ 1 rfl
      have a2 := k1.at_ 2 rfl
      have f0 := k1.frozen 0
      have f1 := k1.frozen 1
      have f2 := k1.frozen 2
      have b0 := k2.at_ 0 rfl
      have b1 := k2.at_ 1 rfl
      have b2 := k2.at_ 2 rfl
      have hl : w.heap.size < w2.heap.size := k1.lt
      have hl2 : w.heap.size + 1 < w2.heap.size := k2.lt
      have K1 := hd k1
      clear k1 k2
      rw [bs_eq _ _ HS.o]
      go_wp2
      (try simp only [Exit.inBlock, Exit.then])
      refine bodyPost_ret (res_cell_tmp rfl _ _ _ _ _ _ _ rfl (((K1.o.set_ 0 _).set_ 1 _).set_ 2 _) rfl rfl rfl) rfl ⟨_, rfl, ?_, ?_⟩
      · exact .inl ⟨HM.o, HS.o, rfl⟩
      · exact ((((HW.o _ hb3).setCell (Nat.le_refl _) _).setCell (Nat.le_refl _) _).setCell (Nat.le_refl _) _)
    · have HS := hd hs
      clear hs
      go_enter Tryz.func228, Tryz.ntmps228
      go_wp2_with fail
      go_still_tail 10, (by kernel_rfl)
      still_call (q0 (A0.o _))
      repeat still_step
      still_call (q0 (A1.o _))
      repeat still_step
      still_call (q0 (A2.o _))
      repeat still_step
      try refine wpStill_nil ?_
      change wpList _ _ _ _ _ (World.drew _)
      go_wp2_with fail
      refine (may_calls y m d _).mono ?_
      rintro e w1 ⟨rfl, hb⟩
      rw [HM.o]
      have hb' := undrew hb
      clear hb
      obtain ⟨k1, k2⟩ := HC.o w1 hb'
      have a0 := k1.at_ 0 rfl
      have a1 := k1.at_ 1 rfl
      have a2 := k1.at_ 2 rfl
      have f0 := k1.frozen 0
      have f1 := k1.frozen 1
      have f2 := k1.frozen 2
      have b0 := k2.at_ 0 rfl
      have b1 := k2.at_ 1 rfl
      have b2 := k2.at_ 2 rfl
      have hl : w.heap.size < w1.heap.size := k1.lt
      have hl2 : w.heap.size + 1 < w1.heap.size := k2.lt
      have K1 := hd k1
      clear k1 k2
      go_wp2_with fail
      refine (show_yes y m d w1 HM.o (HT.o.below (HW.o w1 hb'))).mono ?_
      rintro e w2 ⟨rfl, hb2⟩
      have hb3 := hb'.trans (hb2.mono hb'.size)
      clear a0 a1 a2 f0 f1 f2 b0 b1 b2 hl hl2 K1
      obtain ⟨k1, k2⟩ := HC.o w2 hb3
      have a0 := k1.at_ 0 rfl
      have a1 := k1.at_ 1 rfl
      have a2 := k1.at_ 2 rfl
      have f0 := k1.frozen 0
      have f1 := k1.frozen 1
      have f2 := k1.frozen 2
      have b0 := k2.at_ 0 rfl
      have b1 := k2.at_ 1 rfl
      have b2 := k2.at_ 2 rfl
      have hl : w.heap.size < w2.heap.size := k1.lt
      have hl2 : w.heap.size + 1 < w2.heap.size := k2.lt
      have K1 := hd k1
      clear k1 k2
      have hne := str_ne _ _ HS.o
      go_wp2
      (try simp only [Exit.inBlock, Exit.then])
      refine bodyPost_ret (res_cell_tmp rfl _ _ _ _ _ _ _ rfl (((K1.o.set_ 0 _).set_ 1 _).set_ 2 _) rfl rfl rfl) rfl ⟨_, rfl, ?_, ?_⟩
      · exact .inr ⟨fun hx => HS.o hx.2, rfl⟩
      · exact ((((HW.o _ hb3).setCell (Nat.le_refl _) _).setCell (Nat.le_refl _) _).setCell (Nat.le_refl _) _)
  · have HM := hd hm
    clear hm
    go_enter Tryz.func228, Tryz.ntmps228
    go_wp2_with fail
    go_still_tail 10, (by kernel_rfl)
    still_call (q0 (A0.o _))
    repeat still_step
    still_call (q0 (A1.o _))
    repeat still_step
    still_call (q0 (A2.o _))
    repeat still_step
    try refine wpStill_nil ?_
    change wpList _ _ _ _ _ (World.drew _)
    go_wp2_with fail
    refine (may_calls y m d _).mono ?_
    rintro e w1 ⟨rfl, hb⟩
    rw [HM.o]
    have hb' := undrew hb
    clear hb
    obtain ⟨k1, k2⟩ := HC.o w1 hb'
    have a0 := k1.at_ 0 rfl
    have a1 := k1.at_ 1 rfl
    have a2 := k1.at_ 2 rfl
    have f0 := k1.frozen 0
    have f1 := k1.frozen 1
    have f2 := k1.frozen 2
    have b0 := k2.at_ 0 rfl
    have b1 := k2.at_ 1 rfl
    have b2 := k2.at_ 2 rfl
    have hl : w.heap.size < w1.heap.size := k1.lt
    have hl2 : w.heap.size + 1 < w1.heap.size := k2.lt
    have K1 := hd k1
    clear k1 k2
    go_wp2
    (try simp only [Exit.inBlock, Exit.then])
    refine bodyPost_ret (res_cell_tmp rfl _ _ _ _ _ _ _ rfl (((K1.o.set_ 0 _).set_ 1 _).set_ 2 _) rfl rfl rfl) rfl ⟨_, rfl, ?_, ?_⟩
    · exact .inr ⟨fun hx => Bool.noConfusion (HM.o.symm.trans hx.1), rfl⟩
    · exact ((((HW.o _ hb').setCell (Nat.le_refl _) _).setCell (Nat.le_refl _) _).setCell (Nat.le_refl _) _)

set_option maxRecDepth 100000 in
set_option maxHeartbeats 2000000 in
theorem parse_else (s : ByteArray) (h5 : s.size ≤ 64) (h7 : ¬ s.size = 7) (h10 : ¬ s.size = 10)   (w : World) (ht : Tab w) : Calls Tryz.prog 228 #[.string s] w fun e w' => ∃ v, e = .returned v ∧ Ans s 0 0 0 v ∧ Below w.heap.size w w' := by
  have HT := hd ht
  clear ht
  have HC := hd (fun W => two_cells w W 292 #[.int .i64 0, .int .i64 0, .int .i64 0] #[.int .i64 0, .int .i64 0, .int .i64 0])
  have HW := hd (fun W => two_below w W (.cells #[.int .i64 0, .int .i64 0, .int .i64 0] 292) (.cells #[.int .i64 0, .int .i64 0, .int .i64 0] 292))
  have HM := hd (show mayB 0 0 0 = false from rfl)
  have n7 : (s.size == 7) = false := by simpa using h7
  have n10 : (s.size == 10) = false := by simpa using h10
  go_enter Tryz.func228, Tryz.ntmps228
  go_wp2_with fail
  refine (may_calls 0 0 0 _).mono ?_
  rintro e w1 ⟨rfl, hb⟩
  rw [HM.o]
  have hb' := hb
  clear hb
  obtain ⟨k1, k2⟩ := HC.o w1 hb'
  have a0 := k1.at_ 0 rfl
  have a1 := k1.at_ 1 rfl
  have a2 := k1.at_ 2 rfl
  have f0 := k1.frozen 0
  have f1 := k1.frozen 1
  have f2 := k1.frozen 2
  have b0 := k2.at_ 0 rfl
  have b1 := k2.at_ 1 rfl
  have b2 := k2.at_ 2 rfl
  have hl : w.heap.size < w1.heap.size := k1.lt
  have hl2 : w.heap.size + 1 < w1.heap.size := k2.lt
  have K1 := hd k1
  clear k1 k2
  go_wp2
  (try simp only [Exit.inBlock, Exit.then])
  refine bodyPost_ret (res_cell_tmp rfl _ _ _ _ _ _ _ rfl (((K1.o.set_ 0 _).set_ 1 _).set_ 2 _) rfl rfl rfl) rfl ⟨_, rfl, ?_, ?_⟩
  · exact .inr ⟨fun hx => Bool.noConfusion (HM.o.symm.trans hx.1), rfl⟩
  · exact ((((HW.o _ hb').setCell (Nat.le_refl _) _).setCell (Nat.le_refl _) _).setCell (Nat.le_refl _) _)

end Go.Proofs.YtfacfdjapjhpeaaGreatDoor
namespace Go.Proofs.YtfacfdjapjhpeaaGreatDoor
open Go.RowKit

theorem num_calls (s : ByteArray) (n : Int) (h : s.size ≤ 10) (hn : numV s.data.toList 0 = n) (w : World) : Calls Tryz.prog 246 #[.string s] w fun e w' => e = .returned (.int .i64 n) ∧ w = w' := by
  subst hn; exact number_calls s h w

theorem ext_list (s : ByteArray) (a b : Nat) : (s.extract a b).data.toList = (s.data.toList.drop a).take (b - a) := by
  rw [ByteArray.data_extract, Array.toList_extract]

theorem dig_no (n : Nat) (hn : n < 10) (x : Int) (t : List UInt8) : numV (UInt8.ofNat (48 + n) :: t) x = numV t (x * 10 + n) := by
  have h : (UInt8.ofNat (48 + n)).toNat = 48 + n := by simp; omega
  have h1 : ¬ (UInt8.ofNat (48 + n) < 48 ∨ 57 < UInt8.ofNat (48 + n)) := by
    rw [UInt8.lt_iff_toNat_lt, UInt8.lt_iff_toNat_lt, h]
    simp; omega
  rw [numV, if_neg h1, h]
  congr 1
  omega
theorem num_sh2 (n : Nat) (hn : n < 100) (x : Int) (t : List UInt8) : numV (sh2 n ++ t) x = numV t (x * 100 + n) := by
  show numV (UInt8.ofNat (48 + n / 10 % 10) :: UInt8.ofNat (48 + n % 10) :: t) x = _
  rw [dig_no _ (by omega), dig_no _ (by omega)]
  congr 1
  omega

theorem shown_0 (m d : Int) (h : mayB 0 m d = true) : showL 0 m d = 45 :: 45 :: (sh2 m.toNat ++ 45 :: sh2 d.toNat) := by
  unfold showL; rw [if_pos h, if_pos rfl]; rfl
theorem shown_y (y m d : Int) (hy : y ≠ 0) (h : mayB y m d = true) : showL y m d = sh4 y.toNat ++ 45 :: (sh2 m.toNat ++ 45 :: sh2 d.toNat) := by
  unfold showL; rw [if_pos h, if_neg hy]

theorem parse_shown (y m d : Int) (h : mayB y m d = true) (w : World) (ht : Tab w) : Calls Tryz.prog 228 #[.string (bs (showL y m d))] w fun e w' => e = .returned (dateV y m d 0) ∧ Below w.heap.size w w' := by
  obtain ⟨c1, c2, c3, c4, c5, c6⟩ := (mayB_iff y m d).1 h
  have c7 : d ≤ 31 := by have := dm_bd y m; omega
  have em : ((m.toNat : Nat) : Int) = m := by omega
  have ed : ((d.toNat : Nat) : Int) = d := by omega
  have fin : ∀ v, Ans (bs (showL y m d)) y m d v → v = dateV y m d 0 := by
    intro v hv
    rcases hv with ⟨_, _, rfl⟩ | ⟨hm, _⟩
    · rfl
    · exact absurd ⟨h, rfl⟩ hm
  by_cases hy : y = 0
  · subst hy
    have hs := shown_0 m d h
    have n1 : numV ((bs (showL 0 m d)).extract 2 4).data.toList 0 = m := by
      rw [ext_list, show (bs (showL 0 m d)).data.toList = showL 0 m d from rfl, hs]
      show numV (sh2 m.toNat ++ []) 0 = m
      rw [num_sh2 _ (by omega)]; show 0 * 100 + (m.toNat : Int) = m; omega
    have n2 : numV ((bs (showL 0 m d)).extract 5 7).data.toList 0 = d := by
      rw [ext_list, show (bs (showL 0 m d)).data.toList = showL 0 m d from rfl, hs]
      show numV (sh2 d.toNat ++ []) 0 = d
      rw [num_sh2 _ (by omega)]; show 0 * 100 + (d.toNat : Int) = d; omega
    have hz : (bs (showL 0 m d)).size = 7 := by rw [hs]; rfl
    refine (parse_7 _ hz m d (num_calls _ _ (by have := ext_size (bs (showL 0 m d)) 2 4; omega) n1) (num_calls _ _ (by have := ext_size (bs (showL 0 m d)) 5 7; omega) n2) w ht).mono ?_
    rintro e w' ⟨v, rfl, hv, hb⟩
    exact ⟨by rw [fin v hv], hb⟩
  · have hs := shown_y y m d hy h
    have n0 : numV ((bs (showL y m d)).extract 0 4).data.toList 0 = y := by
      rw [ext_list, show (bs (showL y m d)).data.toList = showL y m d from rfl, hs]
      show numV (sh2 (y.toNat / 100) ++ (sh2 y.toNat ++ [])) 0 = y
      rw [num_sh2 _ (by omega)]
      have e2 : sh2 y.toNat = sh2 (y.toNat % 100) := by unfold sh2; rw [show y.toNat % 100 / 10 % 10 = y.toNat / 10 % 10 by omega, show y.toNat % 100 % 10 = y.toNat % 10 by omega]
      rw [e2, num_sh2 _ (by omega)]
      show (0 * 100 + ((y.toNat / 100 : Nat) : Int)) * 100 + ((y.toNat % 100 : Nat) : Int) = y
      omega
    have n1 : numV ((bs (showL y m d)).extract 5 7).data.toList 0 = m := by
      rw [ext_list, show (bs (showL y m d)).data.toList = showL y m d from rfl, hs]
      show numV (sh2 m.toNat ++ []) 0 = m
      rw [num_sh2 _ (by omega)]; show 0 * 100 + (m.toNat : Int) = m; omega
    have n2 : numV ((bs (showL y m d)).extract 8 10).data.toList 0 = d := by
      rw [ext_list, show (bs (showL y m d)).data.toList = showL y m d from rfl, hs]
      show numV (sh2 d.toNat ++ []) 0 = d
      rw [num_sh2 _ (by omega)]; show 0 * 100 + (d.toNat : Int) = d; omega
    have hz : (bs (showL y m d)).size = 10 := by rw [hs]; rfl
    refine (parse_10 _ hz y m d (num_calls _ _ (by have := ext_size (bs (showL y m d)) 0 4; omega) n0) (num_calls _ _ (by have := ext_size (bs (showL y m d)) 5 7; omega) n1) (num_calls _ _ (by have := ext_size (bs (showL y m d)) 8 10; omega) n2) w ht).mono ?_
    rintro e w' ⟨v, rfl, hv, hb⟩
    exact ⟨by rw [fin v hv], hb⟩

theorem Ans.fix {s : ByteArray} {y m d : Int} {v v' : Value} (h : Ans s y m d v) (h' : Ans s y m d v') : v' = v := by
  rcases h with ⟨a, b, rfl⟩ | ⟨a, rfl⟩ <;> rcases h' with ⟨c, e, rfl⟩ | ⟨c, rfl⟩
  · rfl
  · exact absurd ⟨a, b⟩ c
  · exact absurd ⟨c, e⟩ a
  · rfl
/-- What a text answers, in every world. -/
theorem parse_fix (s : ByteArray) (hs : s.size ≤ 64) : ∃ v, ∃ yx mx dx, Ans s yx mx dx v ∧ ∀ W, Tab W → Calls Tryz.prog 228 #[.string s] W fun e w' => e = .returned v ∧ Below W.heap.size W w' := by
  have pick : ∀ y m d : Int, ∃ v, Ans s y m d v := by
    intro y m d
    by_cases h : mayB y m d = true ∧ showL y m d = s.data.toList
    · exact ⟨_, .inl ⟨h.1, h.2, rfl⟩⟩
    · exact ⟨_, .inr ⟨h, rfl⟩⟩
  by_cases h7 : s.size = 7
  · obtain ⟨v, hv⟩ := pick 0 (numV (s.extract 2 4).data.toList 0) (numV (s.extract 5 7).data.toList 0)
    exact ⟨v, _, _, _, hv, fun W hW => (parse_7 s h7 _ _ (num_calls _ _ (by have := ext_size s 2 4; omega) rfl) (num_calls _ _ (by have := ext_size s 5 7; omega) rfl) W hW).mono fun e w' ⟨v', h1, h2, h3⟩ => ⟨by rw [h1, hv.fix h2], h3⟩⟩
  · by_cases h10 : s.size = 10
    · obtain ⟨v, hv⟩ := pick (numV (s.extract 0 4).data.toList 0) (numV (s.extract 5 7).data.toList 0) (numV (s.extract 8 10).data.toList 0)
      exact ⟨v, _, _, _, hv, fun W hW => (parse_10 s h10 _ _ _ (num_calls _ _ (by have := ext_size s 0 4; omega) rfl) (num_calls _ _ (by have := ext_size s 5 7; omega) rfl) (num_calls _ _ (by have := ext_size s 8 10; omega) rfl) W hW).mono fun e w' ⟨v', h1, h2, h3⟩ => ⟨by rw [h1, hv.fix h2], h3⟩⟩
    · obtain ⟨v, hv⟩ := pick 0 0 0
      exact ⟨v, _, _, _, hv, fun W hW => (parse_else s hs h7 h10 W hW).mono fun e w' ⟨v', h1, h2, h3⟩ => ⟨by rw [h1, hv.fix h2], h3⟩⟩

end Go.Proofs.YtfacfdjapjhpeaaGreatDoor
namespace Go.Proofs.YtfacfdjapjhpeaaGreatDoor
open Go.RowKit Go.Sort

/-- What a sign at a place adds. -/
def stp (len i : Nat) (c : Nat) (t : Int × Int × Int) : Int × Int × Int :=
  if c < 48 ∨ 57 < c then t
  else if (i : Int) < len - 6 then (10 * t.1 + ((c : Int) - 48), t.2.1, t.2.2)
  else if (i : Int) = len - 5 ∨ (i : Int) = len - 4 then (t.1, 10 * t.2.1 + ((c : Int) - 48), t.2.2)
  else if (len : Int) - 2 ≤ i then (t.1, t.2.1, 10 * t.2.2 + ((c : Int) - 48))
  else t
def pdF (len : Nat) : Nat → List UInt8 → Int × Int × Int → Int × Int × Int
  | _, [], t => t
  | i, c :: r, t => pdF len (i + 1) r (stp len i c.toNat t)
theorem pdF_at (s : ByteArray) (i : Nat) (hi : i < s.size) (t v : Int × Int × Int) (h : pdF s.size i (s.data.toList.drop i) t = v) : pdF s.size (i + 1) (s.data.toList.drop (i + 1)) (stp s.size i s[i].toNat t) = v := by
  have hl : i < s.data.toList.length := by simpa using hi
  have e : s.data.toList.drop i = s[i] :: s.data.toList.drop (i + 1) := by rw [List.drop_eq_getElem_cons hl]; rfl
  rw [e, pdF] at h
  exact h
end Go.Proofs.YtfacfdjapjhpeaaGreatDoor
namespace Go.Proofs.YtfacfdjapjhpeaaGreatDoor
open Go.RowKit Go.Sort

set_option maxRecDepth 100000 in
set_option maxHeartbeats 2000000 in
theorem rparse_7 (s : ByteArray) (hz : s.size = 7) (y m d : Int) (hp : pdF 7 0 s.data.toList (0, 0, 0) = (y, m, d)) (w : World) : Calls Tryz.prog 218 #[.string s] w fun e w' => ∃ v, e = .returned v ∧ Ans s y m d v ∧ Below w.heap.size w w' := by
  have HP := hd hp
  clear hp
  have HZ := hd hz
  have HC := hd (fun W => two_cells w W 292 #[.int .i64 0, .int .i64 0, .int .i64 0] #[.int .i64 0, .int .i64 0, .int .i64 0])
  have HW := hd (fun W => two_below w W (.cells #[.int .i64 0, .int .i64 0, .int .i64 0] 292) (.cells #[.int .i64 0, .int .i64 0, .int .i64 0] 292))
  go_enter Tryz.func218, Tryz.ntmps218
  go_wp2_with fail
  obtain ⟨wo, hwo⟩ : ∃ W, W = (w.alloc (.cells #[.int .i64 0, .int .i64 0, .int .i64 0] 292)).alloc (.cells #[.int .i64 0, .int .i64 0, .int .i64 0] 292) := ⟨_, rfl⟩
  rw [← hwo]
  have kk : Blk wo w.heap.size 292 #[.int .i64 0, .int .i64 0, .int .i64 0] ∧ Blk wo (w.heap.size + 1) 292 #[.int .i64 0, .int .i64 0, .int .i64 0] := by rw [hwo]; exact HC.o _ (Below.refl _ _)
  have hbo : Below w.heap.size w wo := by rw [hwo]; exact HW.o _ (Below.refl _ _)
  have KK := hd kk
  have HBO := hd hbo
  clear hwo kk hbo
  go_loopw [5] (fun a wr => Below w.heap.size w wr ∧ Blk wr w.heap.size 292 #[.int .i64 0, .int .i64 0, .int .i64 0] ∧ ∃ k : Nat, a = .int .i64 k ∧ k ≤ 7 ∧ ∃ x1 x2 x3 : Int, Blk wr (w.heap.size + 1) 292 #[.int .i64 x1, .int .i64 x2, .int .i64 x3] ∧ 0 ≤ x1 ∧ x1 < 10 ^ k ∧ 0 ≤ x2 ∧ x2 < 10 ^ k ∧ 0 ≤ x3 ∧ x3 < 10 ^ k ∧ Hd (pdF 7 k (s.data.toList.drop k) (x1, x2, x3) = (y, m, d))) (fun a _ => 7 - (RowKit.intOf a).toNat)
  case atStart => exact ⟨HBO.o, KK.o.1, 0, rfl, by omega, 0, 0, 0, KK.o.2, by omega, by simp, by omega, by simp, by omega, by simp, HP⟩
  case round =>
    obtain ⟨hbr, k1, k, rfl, hk, x1, x2, x3, k2, b1, b2, b3, b4, b5, b6, hh⟩ := hrel
    have a0 := k2.at_ 0 rfl
    have a1 := k2.at_ 1 rfl
    have a2 := k2.at_ 2 rfl
    have f0 := k2.frozen 0
    have f1 := k2.frozen 1
    have f2 := k2.frozen 2
    have r0 := k1.at_ 0 rfl
    have r1 := k1.at_ 1 rfl
    have r2 := k1.at_ 2 rfl
    have g0 := k1.frozen 0
    have g1 := k1.frozen 1
    have g2 := k1.frozen 2
    have hl := k2.lt
    have hl1 := k1.lt
    by_cases hlt : k < 7
    · have hp : (10:Int) ^ k ≤ 10 ^ 9 := by exact_mod_cast Nat.pow_le_pow_right (by omega : 0 < 10) (by omega : k ≤ 9)
      have hps : (10:Int) ^ (k + 1) = 10 * 10 ^ k := by rw [Int.pow_succ]; omega
      obtain ⟨p, hpp⟩ : ∃ p : Int, p = 10 ^ k := ⟨_, rfl⟩
      rw [← hpp] at b2 b4 b6 hp hps
      have HPS := hd hps
      clear hps hpp
      have hls : k < s.size := by omega
      have hx := pdF_at s k hls (x1, x2, x3) (y, m, d) (by rw [HZ.o]; exact hh.o)
      rw [HZ.o] at hx
      have HX := hd hx
      clear hx
      have hc0 : (0 : Int) ≤ s[k].toNat := by omega
      have hc1 : (s[k].toNat : Int) < 256 := by have := UInt8.toNat_lt s[k]; omega
      by_cases hA : (s[k].toNat : Int) < 48
      · go_wp2_with fail
        go_roundw
        case rel =>
          refine ⟨hbr, k1, k + 1, by simp, by omega, x1, x2, x3, k2, by omega, by rw [HPS.o]; omega, by omega, by rw [HPS.o]; omega, by omega, by rw [HPS.o]; omega, ?_⟩
          have e : stp 7 k s[k].toNat (x1, x2, x3) = (x1, x2, x3) := by unfold stp; rw [if_pos (by omega)]
          have := HX.o
          rw [e] at this
          exact hd this
        case measure =>
          show 7 - ((k : Int) + 1).toNat < 7 - (k : Int).toNat
          omega
      · by_cases hB : (57 : Int) < s[k].toNat
        · go_wp2_with fail
          go_roundw
          case rel =>
            refine ⟨hbr, k1, k + 1, by simp, by omega, x1, x2, x3, k2, by omega, by rw [HPS.o]; omega, by omega, by rw [HPS.o]; omega, by omega, by rw [HPS.o]; omega, ?_⟩
            have e : stp 7 k s[k].toNat (x1, x2, x3) = (x1, x2, x3) := by unfold stp; rw [if_pos (by omega)]
            have := HX.o
            rw [e] at this
            exact hd this
          case measure =>
            show 7 - ((k : Int) + 1).toNat < 7 - (k : Int).toNat
            omega
        · by_cases q1 : k < 1
          · go_wp2_with fail
            go_roundw
            case rel =>
              refine ⟨hbr.setCell (by show _ ≤ w.heap.size + 1; omega) _, k1.far (by show ¬ w.heap.size = w.heap.size + 1; omega) _, k + 1, by simp, by omega, 10 * x1 + ((s[k].toNat : Int) - 48), x2, x3, k2.set_ 0 _, by omega, by rw [HPS.o]; omega, by omega, by rw [HPS.o]; omega, by omega, by rw [HPS.o]; omega, ?_⟩
              have e : stp 7 k s[k].toNat (x1, x2, x3) = (10 * x1 + ((s[k].toNat : Int) - 48), x2, x3) := by unfold stp; rw [if_neg (by omega), if_pos (by omega)]
              have := HX.o
              rw [e] at this
              exact hd this
            case measure =>
              show 7 - ((k : Int) + 1).toNat < 7 - (k : Int).toNat
              omega
          · by_cases q2 : k = 2
            · have n1 : ((k : Int) == 2) = true := by simp; omega
              have q2a : k ≤ 2 := by omega
              have q2b : 2 ≤ k := by omega
              clear q2
              go_wp2_with fail
              go_roundw
              case rel =>
                refine ⟨hbr.setCell (by show _ ≤ w.heap.size + 1; omega) _, k1.far (by show ¬ w.heap.size = w.heap.size + 1; omega) _, k + 1, by simp, by omega, x1, 10 * x2 + ((s[k].toNat : Int) - 48), x3, k2.set_ 1 _, by omega, by rw [HPS.o]; omega, by omega, by rw [HPS.o]; omega, by omega, by rw [HPS.o]; omega, ?_⟩
                have e : stp 7 k s[k].toNat (x1, x2, x3) = (x1, 10 * x2 + ((s[k].toNat : Int) - 48), x3) := by unfold stp; rw [if_neg (by omega), if_neg (by omega), if_pos (by omega)]
                have := HX.o
                rw [e] at this
                exact hd this
              case measure =>
                show 7 - ((k : Int) + 1).toNat < 7 - (k : Int).toNat
                omega
            · have n1 : ((k : Int) == 2) = false := by simp; omega
              by_cases q3 : k = 3
              · have n2 : ((k : Int) == 3) = true := by simp; omega
                have q2a : k ≤ 3 := by omega
                have q2b : 3 ≤ k := by omega
                clear q3
                go_wp2_with fail
                go_roundw
                case rel =>
                  refine ⟨hbr.setCell (by show _ ≤ w.heap.size + 1; omega) _, k1.far (by show ¬ w.heap.size = w.heap.size + 1; omega) _, k + 1, by simp, by omega, x1, 10 * x2 + ((s[k].toNat : Int) - 48), x3, k2.set_ 1 _, by omega, by rw [HPS.o]; omega, by omega, by rw [HPS.o]; omega, by omega, by rw [HPS.o]; omega, ?_⟩
                  have e : stp 7 k s[k].toNat (x1, x2, x3) = (x1, 10 * x2 + ((s[k].toNat : Int) - 48), x3) := by unfold stp; rw [if_neg (by omega), if_neg (by omega), if_pos (by omega)]
                  have := HX.o
                  rw [e] at this
                  exact hd this
                case measure =>
                  show 7 - ((k : Int) + 1).toNat < 7 - (k : Int).toNat
                  omega
              · have n2 : ((k : Int) == 3) = false := by simp; omega
                by_cases q4 : 5 ≤ k
                · go_wp2_with fail
                  go_roundw
                  case rel =>
                    refine ⟨hbr.setCell (by show _ ≤ w.heap.size + 1; omega) _, k1.far (by show ¬ w.heap.size = w.heap.size + 1; omega) _, k + 1, by simp, by omega, x1, x2, 10 * x3 + ((s[k].toNat : Int) - 48), k2.set_ 2 _, by omega, by rw [HPS.o]; omega, by omega, by rw [HPS.o]; omega, by omega, by rw [HPS.o]; omega, ?_⟩
                    have e : stp 7 k s[k].toNat (x1, x2, x3) = (x1, x2, 10 * x3 + ((s[k].toNat : Int) - 48)) := by unfold stp; rw [if_neg (by omega), if_neg (by omega), if_neg (by omega), if_pos (by omega)]
                    have := HX.o
                    rw [e] at this
                    exact hd this
                  case measure =>
                    show 7 - ((k : Int) + 1).toNat < 7 - (k : Int).toNat
                    omega
                · go_wp2_with fail
                  go_roundw
                  case rel =>
                    refine ⟨hbr, k1, k + 1, by simp, by omega, x1, x2, x3, k2, by omega, by rw [HPS.o]; omega, by omega, by rw [HPS.o]; omega, by omega, by rw [HPS.o]; omega, ?_⟩
                    have e : stp 7 k s[k].toNat (x1, x2, x3) = (x1, x2, x3) := by unfold stp; rw [if_neg (by omega), if_neg (by omega), if_neg (by omega), if_neg (by omega)]
                    have := HX.o
                    rw [e] at this
                    exact hd this
                  case measure =>
                    show 7 - ((k : Int) + 1).toNat < 7 - (k : Int).toNat
                    omega
    · have hke : k = 7 := by omega
      subst hke
      have hfin := hh.o
      rw [show List.drop 7 s.data.toList = [] from by have := drop_all s; rwa [HZ.o] at this, pdF] at hfin
      simp only [Prod.mk.injEq] at hfin
      obtain ⟨rfl, rfl, rfl⟩ := hfin
      clear b1 b2 b3 b4 b5 b6
      go_wp2_with fail
      refine (rshow_calls x1 x2 x3 wr).mono ?_
      rintro e w2 ⟨rfl, hb2⟩
      have hbw := hbr.trans (hb2.mono hbr.size)
      have k3 := k1.below hb2 hl1
      have k4 := k2.below hb2 hl
      clear a0 a1 a2 f0 f1 f2 r0 r1 r2 g0 g1 g2 hl hl1 k1 k2
      have a0 := k4.at_ 0 rfl
      have a1 := k4.at_ 1 rfl
      have a2 := k4.at_ 2 rfl
      have r0 := k3.at_ 0 rfl
      have r1 := k3.at_ 1 rfl
      have r2 := k3.at_ 2 rfl
      have g0 := k3.frozen 0
      have g1 := k3.frozen 1
      have g2 := k3.frozen 2
      have hl := k4.lt
      have hl1 := k3.lt
      have K1 := hd k3
      clear k3 k4
      by_cases hq : showL x1 x2 x3 = s.data.toList
      · have hm : mayB x1 x2 x3 = true := by
          rcases Bool.eq_false_or_eq_true (mayB x1 x2 x3) with h | h
          · exact h
          · exfalso
            unfold showL at hq
            rw [if_neg (by simp [h])] at hq
            have := congrArg List.length hq
            simp [HZ.o] at this
        have HQ := hd hq
        have HM := hd hm
        clear hq hm
        rw [bs_eq _ _ HQ.o]
        go_wp2
        (try simp only [Exit.inBlock, Exit.then])
        refine bodyPost_ret (res_cell_tmp rfl _ _ _ _ _ _ _ rfl (((K1.o.set_ 0 _).set_ 1 _).set_ 2 _) rfl rfl rfl) rfl ⟨_, rfl, ?_, ?_⟩
        · exact .inl ⟨HM.o, HQ.o, rfl⟩
        · exact (((hbw.setCell (Nat.le_refl _) _).setCell (Nat.le_refl _) _).setCell (Nat.le_refl _) _)
      · have hne := str_ne _ s hq
        have HQ := hd hq
        clear hq
        go_wp2
        (try simp only [Exit.inBlock, Exit.then])
        refine bodyPost_ret (res_cell_tmp rfl _ _ _ _ _ _ _ rfl (((K1.o.set_ 0 _).set_ 1 _).set_ 2 _) rfl rfl rfl) rfl ⟨_, rfl, ?_, ?_⟩
        · exact .inr ⟨fun h => HQ.o h.2, rfl⟩
        · exact (((hbw.setCell (Nat.le_refl _) _).setCell (Nat.le_refl _) _).setCell (Nat.le_refl _) _)

end Go.Proofs.YtfacfdjapjhpeaaGreatDoor
namespace Go.Proofs.YtfacfdjapjhpeaaGreatDoor
open Go.RowKit Go.Sort

set_option maxRecDepth 100000 in
set_option maxHeartbeats 2000000 in
theorem rparse_10 (s : ByteArray) (hz : s.size = 10) (y m d : Int) (hp : pdF 10 0 s.data.toList (0, 0, 0) = (y, m, d)) (w : World) : Calls Tryz.prog 218 #[.string s] w fun e w' => ∃ v, e = .returned v ∧ Ans s y m d v ∧ Below w.heap.size w w' := by
  have HP := hd hp
  clear hp
  have HZ := hd hz
  have HC := hd (fun W => two_cells w W 292 #[.int .i64 0, .int .i64 0, .int .i64 0] #[.int .i64 0, .int .i64 0, .int .i64 0])
  have HW := hd (fun W => two_below w W (.cells #[.int .i64 0, .int .i64 0, .int .i64 0] 292) (.cells #[.int .i64 0, .int .i64 0, .int .i64 0] 292))
  go_enter Tryz.func218, Tryz.ntmps218
  go_wp2_with fail
  obtain ⟨wo, hwo⟩ : ∃ W, W = (w.alloc (.cells #[.int .i64 0, .int .i64 0, .int .i64 0] 292)).alloc (.cells #[.int .i64 0, .int .i64 0, .int .i64 0] 292) := ⟨_, rfl⟩
  rw [← hwo]
  have kk : Blk wo w.heap.size 292 #[.int .i64 0, .int .i64 0, .int .i64 0] ∧ Blk wo (w.heap.size + 1) 292 #[.int .i64 0, .int .i64 0, .int .i64 0] := by rw [hwo]; exact HC.o _ (Below.refl _ _)
  have hbo : Below w.heap.size w wo := by rw [hwo]; exact HW.o _ (Below.refl _ _)
  have KK := hd kk
  have HBO := hd hbo
  clear hwo kk hbo
  go_loopw [5] (fun a wr => Below w.heap.size w wr ∧ Blk wr w.heap.size 292 #[.int .i64 0, .int .i64 0, .int .i64 0] ∧ ∃ k : Nat, a = .int .i64 k ∧ k ≤ 10 ∧ ∃ x1 x2 x3 : Int, Blk wr (w.heap.size + 1) 292 #[.int .i64 x1, .int .i64 x2, .int .i64 x3] ∧ 0 ≤ x1 ∧ x1 < 10 ^ k ∧ 0 ≤ x2 ∧ x2 < 10 ^ k ∧ 0 ≤ x3 ∧ x3 < 10 ^ k ∧ Hd (pdF 10 k (s.data.toList.drop k) (x1, x2, x3) = (y, m, d))) (fun a _ => 10 - (RowKit.intOf a).toNat)
  case atStart => exact ⟨HBO.o, KK.o.1, 0, rfl, by omega, 0, 0, 0, KK.o.2, by omega, by simp, by omega, by simp, by omega, by simp, HP⟩
  case round =>
    obtain ⟨hbr, k1, k, rfl, hk, x1, x2, x3, k2, b1, b2, b3, b4, b5, b6, hh⟩ := hrel
    have a0 := k2.at_ 0 rfl
    have a1 := k2.at_ 1 rfl
    have a2 := k2.at_ 2 rfl
    have f0 := k2.frozen 0
    have f1 := k2.frozen 1
    have f2 := k2.frozen 2
    have r0 := k1.at_ 0 rfl
    have r1 := k1.at_ 1 rfl
    have r2 := k1.at_ 2 rfl
    have g0 := k1.frozen 0
    have g1 := k1.frozen 1
    have g2 := k1.frozen 2
    have hl := k2.lt
    have hl1 := k1.lt
    by_cases hlt : k < 10
    · have hp : (10:Int) ^ k ≤ 10 ^ 9 := by exact_mod_cast Nat.pow_le_pow_right (by omega : 0 < 10) (by omega : k ≤ 9)
      have hps : (10:Int) ^ (k + 1) = 10 * 10 ^ k := by rw [Int.pow_succ]; omega
      obtain ⟨p, hpp⟩ : ∃ p : Int, p = 10 ^ k := ⟨_, rfl⟩
      rw [← hpp] at b2 b4 b6 hp hps
      have HPS := hd hps
      clear hps hpp
      have hls : k < s.size := by omega
      have hx := pdF_at s k hls (x1, x2, x3) (y, m, d) (by rw [HZ.o]; exact hh.o)
      rw [HZ.o] at hx
      have HX := hd hx
      clear hx
      have hc0 : (0 : Int) ≤ s[k].toNat := by omega
      have hc1 : (s[k].toNat : Int) < 256 := by have := UInt8.toNat_lt s[k]; omega
      by_cases hA : (s[k].toNat : Int) < 48
      · go_wp2_with fail
        go_roundw
        case rel =>
          refine ⟨hbr, k1, k + 1, by simp, by omega, x1, x2, x3, k2, by omega, by rw [HPS.o]; omega, by omega, by rw [HPS.o]; omega, by omega, by rw [HPS.o]; omega, ?_⟩
          have e : stp 10 k s[k].toNat (x1, x2, x3) = (x1, x2, x3) := by unfold stp; rw [if_pos (by omega)]
          have := HX.o
          rw [e] at this
          exact hd this
        case measure =>
          show 10 - ((k : Int) + 1).toNat < 10 - (k : Int).toNat
          omega
      · by_cases hB : (57 : Int) < s[k].toNat
        · go_wp2_with fail
          go_roundw
          case rel =>
            refine ⟨hbr, k1, k + 1, by simp, by omega, x1, x2, x3, k2, by omega, by rw [HPS.o]; omega, by omega, by rw [HPS.o]; omega, by omega, by rw [HPS.o]; omega, ?_⟩
            have e : stp 10 k s[k].toNat (x1, x2, x3) = (x1, x2, x3) := by unfold stp; rw [if_pos (by omega)]
            have := HX.o
            rw [e] at this
            exact hd this
          case measure =>
            show 10 - ((k : Int) + 1).toNat < 10 - (k : Int).toNat
            omega
        · by_cases q1 : k < 4
          · go_wp2_with fail
            go_roundw
            case rel =>
              refine ⟨hbr.setCell (by show _ ≤ w.heap.size + 1; omega) _, k1.far (by show ¬ w.heap.size = w.heap.size + 1; omega) _, k + 1, by simp, by omega, 10 * x1 + ((s[k].toNat : Int) - 48), x2, x3, k2.set_ 0 _, by omega, by rw [HPS.o]; omega, by omega, by rw [HPS.o]; omega, by omega, by rw [HPS.o]; omega, ?_⟩
              have e : stp 10 k s[k].toNat (x1, x2, x3) = (10 * x1 + ((s[k].toNat : Int) - 48), x2, x3) := by unfold stp; rw [if_neg (by omega), if_pos (by omega)]
              have := HX.o
              rw [e] at this
              exact hd this
            case measure =>
              show 10 - ((k : Int) + 1).toNat < 10 - (k : Int).toNat
              omega
          · by_cases q2 : k = 5
            · have n1 : ((k : Int) == 5) = true := by simp; omega
              have q2a : k ≤ 5 := by omega
              have q2b : 5 ≤ k := by omega
              clear q2
              go_wp2_with fail
              go_roundw
              case rel =>
                refine ⟨hbr.setCell (by show _ ≤ w.heap.size + 1; omega) _, k1.far (by show ¬ w.heap.size = w.heap.size + 1; omega) _, k + 1, by simp, by omega, x1, 10 * x2 + ((s[k].toNat : Int) - 48), x3, k2.set_ 1 _, by omega, by rw [HPS.o]; omega, by omega, by rw [HPS.o]; omega, by omega, by rw [HPS.o]; omega, ?_⟩
                have e : stp 10 k s[k].toNat (x1, x2, x3) = (x1, 10 * x2 + ((s[k].toNat : Int) - 48), x3) := by unfold stp; rw [if_neg (by omega), if_neg (by omega), if_pos (by omega)]
                have := HX.o
                rw [e] at this
                exact hd this
              case measure =>
                show 10 - ((k : Int) + 1).toNat < 10 - (k : Int).toNat
                omega
            · have n1 : ((k : Int) == 5) = false := by simp; omega
              by_cases q3 : k = 6
              · have n2 : ((k : Int) == 6) = true := by simp; omega
                have q2a : k ≤ 6 := by omega
                have q2b : 6 ≤ k := by omega
                clear q3
                go_wp2_with fail
                go_roundw
                case rel =>
                  refine ⟨hbr.setCell (by show _ ≤ w.heap.size + 1; omega) _, k1.far (by show ¬ w.heap.size = w.heap.size + 1; omega) _, k + 1, by simp, by omega, x1, 10 * x2 + ((s[k].toNat : Int) - 48), x3, k2.set_ 1 _, by omega, by rw [HPS.o]; omega, by omega, by rw [HPS.o]; omega, by omega, by rw [HPS.o]; omega, ?_⟩
                  have e : stp 10 k s[k].toNat (x1, x2, x3) = (x1, 10 * x2 + ((s[k].toNat : Int) - 48), x3) := by unfold stp; rw [if_neg (by omega), if_neg (by omega), if_pos (by omega)]
                  have := HX.o
                  rw [e] at this
                  exact hd this
                case measure =>
                  show 10 - ((k : Int) + 1).toNat < 10 - (k : Int).toNat
                  omega
              · have n2 : ((k : Int) == 6) = false := by simp; omega
                by_cases q4 : 8 ≤ k
                · go_wp2_with fail
                  go_roundw
                  case rel =>
                    refine ⟨hbr.setCell (by show _ ≤ w.heap.size + 1; omega) _, k1.far (by show ¬ w.heap.size = w.heap.size + 1; omega) _, k + 1, by simp, by omega, x1, x2, 10 * x3 + ((s[k].toNat : Int) - 48), k2.set_ 2 _, by omega, by rw [HPS.o]; omega, by omega, by rw [HPS.o]; omega, by omega, by rw [HPS.o]; omega, ?_⟩
                    have e : stp 10 k s[k].toNat (x1, x2, x3) = (x1, x2, 10 * x3 + ((s[k].toNat : Int) - 48)) := by unfold stp; rw [if_neg (by omega), if_neg (by omega), if_neg (by omega), if_pos (by omega)]
                    have := HX.o
                    rw [e] at this
                    exact hd this
                  case measure =>
                    show 10 - ((k : Int) + 1).toNat < 10 - (k : Int).toNat
                    omega
                · go_wp2_with fail
                  go_roundw
                  case rel =>
                    refine ⟨hbr, k1, k + 1, by simp, by omega, x1, x2, x3, k2, by omega, by rw [HPS.o]; omega, by omega, by rw [HPS.o]; omega, by omega, by rw [HPS.o]; omega, ?_⟩
                    have e : stp 10 k s[k].toNat (x1, x2, x3) = (x1, x2, x3) := by unfold stp; rw [if_neg (by omega), if_neg (by omega), if_neg (by omega), if_neg (by omega)]
                    have := HX.o
                    rw [e] at this
                    exact hd this
                  case measure =>
                    show 10 - ((k : Int) + 1).toNat < 10 - (k : Int).toNat
                    omega
    · have hke : k = 10 := by omega
      subst hke
      have hfin := hh.o
      rw [show List.drop 10 s.data.toList = [] from by have := drop_all s; rwa [HZ.o] at this, pdF] at hfin
      simp only [Prod.mk.injEq] at hfin
      obtain ⟨rfl, rfl, rfl⟩ := hfin
      clear b1 b2 b3 b4 b5 b6
      go_wp2_with fail
      refine (rshow_calls x1 x2 x3 wr).mono ?_
      rintro e w2 ⟨rfl, hb2⟩
      have hbw := hbr.trans (hb2.mono hbr.size)
      have k3 := k1.below hb2 hl1
      have k4 := k2.below hb2 hl
      clear a0 a1 a2 f0 f1 f2 r0 r1 r2 g0 g1 g2 hl hl1 k1 k2
      have a0 := k4.at_ 0 rfl
      have a1 := k4.at_ 1 rfl
      have a2 := k4.at_ 2 rfl
      have r0 := k3.at_ 0 rfl
      have r1 := k3.at_ 1 rfl
      have r2 := k3.at_ 2 rfl
      have g0 := k3.frozen 0
      have g1 := k3.frozen 1
      have g2 := k3.frozen 2
      have hl := k4.lt
      have hl1 := k3.lt
      have K1 := hd k3
      clear k3 k4
      by_cases hq : showL x1 x2 x3 = s.data.toList
      · have hm : mayB x1 x2 x3 = true := by
          rcases Bool.eq_false_or_eq_true (mayB x1 x2 x3) with h | h
          · exact h
          · exfalso
            unfold showL at hq
            rw [if_neg (by simp [h])] at hq
            have := congrArg List.length hq
            simp [HZ.o] at this
        have HQ := hd hq
        have HM := hd hm
        clear hq hm
        rw [bs_eq _ _ HQ.o]
        go_wp2
        (try simp only [Exit.inBlock, Exit.then])
        refine bodyPost_ret (res_cell_tmp rfl _ _ _ _ _ _ _ rfl (((K1.o.set_ 0 _).set_ 1 _).set_ 2 _) rfl rfl rfl) rfl ⟨_, rfl, ?_, ?_⟩
        · exact .inl ⟨HM.o, HQ.o, rfl⟩
        · exact (((hbw.setCell (Nat.le_refl _) _).setCell (Nat.le_refl _) _).setCell (Nat.le_refl _) _)
      · have hne := str_ne _ s hq
        have HQ := hd hq
        clear hq
        go_wp2
        (try simp only [Exit.inBlock, Exit.then])
        refine bodyPost_ret (res_cell_tmp rfl _ _ _ _ _ _ _ rfl (((K1.o.set_ 0 _).set_ 1 _).set_ 2 _) rfl rfl rfl) rfl ⟨_, rfl, ?_, ?_⟩
        · exact .inr ⟨fun h => HQ.o h.2, rfl⟩
        · exact (((hbw.setCell (Nat.le_refl _) _).setCell (Nat.le_refl _) _).setCell (Nat.le_refl _) _)

end Go.Proofs.YtfacfdjapjhpeaaGreatDoor
