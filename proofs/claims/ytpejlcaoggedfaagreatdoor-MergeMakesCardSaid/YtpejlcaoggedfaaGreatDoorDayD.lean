/-
  Days: the date of a text.
-/
import Derived.Test.YtpejlcaoggedfaaGreatDoorDayC
set_option linter.unusedVariables false
set_option linter.unusedSimpArgs false
namespace Go.Proofs.YtpejlcaoggedfaaGreatDoor
open Go.RowKit

theorem q0 {P : Program} {f : Nat} {args : Array Value} {w : World} {v : Value} (h : Calls P f args w fun e w' => e = .returned v ∧ w = w') : Calls P f args w fun e w' => e = .returned v ∧ w' = w := h.mono fun _ _ ⟨a, b⟩ => ⟨a, b.symm⟩
theorem ext_size (s : ByteArray) (a b : Nat) : (s.extract a b).size ≤ s.size := by rw [ByteArray.size_extract]; omega
theorem bs_eq (l : List UInt8) (s : ByteArray) (h : l = s.data.toList) : bs l = s := by subst h; rfl

theorem str_ne (l : List UInt8) (s : ByteArray) (h : ¬ l = s.data.toList) : ((bs l).toList == s.toList) = false := by
  rw [ByteArray.toList_eq, ByteArray.toList_eq, beq_eq_false_iff_ne]
  exact h

/-- A date and an answer. -/
def dateV (y m d k : Int) : Value := .tuple #[.agg #[.int .i64 y, .int .i64 m, .int .i64 d], .int .i64 k]

/-- What a text's numbers answer. -/
def Ans (s : ByteArray) (y m d : Int) (v : Value) : Prop :=
  (mayB y m d = true ∧ showL y m d = s.data.toList ∧ v = dateV y m d 0) ∨ (¬ (mayB y m d = true ∧ showL y m d = s.data.toList) ∧ v = dateV 0 0 0 1)

/-- The two cells that a parse makes. -/
theorem two_cells (w W : World) (t : TypeId) (c1 c2 : Array Value)
    (hb : Below ((w.alloc (.cells c1 t)).alloc (.cells c2 t)).heap.size ((w.alloc (.cells c1 t)).alloc (.cells c2 t)) W) :
    Blk W w.heap.size t c1 ∧ Blk W (w.heap.size + 1) t c2 :=
  ⟨((Blk.new w t c1).alloc _).below hb (by simp; omega), (Blk.new_ (w.alloc (.cells c1 t)) (w.heap.size + 1) (by simp) t c2).below hb (by simp)⟩
theorem two_below (w W : World) (o1 o2 : Obj) (hb : Below ((w.alloc o1).alloc o2).heap.size ((w.alloc o1).alloc o2) W) : Below w.heap.size w W :=
  (((Below.refl _ w).alloc (Nat.le_refl _) _).alloc (by simp) _).trans (hb.mono (by simp; omega))
theorem res_cell_tmp {P : Program} {fn : Func} {p u : Tmp} {ty : TypeId} (h : fn.results = #[.cell p ty, .tmp u]) (tmps : Array Value) (w : World) (g : Nat) (t : TypeId) (cs : Array Value) (fr : Nat × Nat) (d : TypeDesc)
    (hp : tmps.getD p undef = .pointer (some ⟨g, 0, none⟩)) (hg : w.heap[g]? = some (.cells cs t fr))
    (hu : P.underlying ty = some d) (hd : (match d with | .struct _ | .array _ _ => true | _ => false) = true) (hi : (P.info? ty).map (·.size) = some cs.size) :
    (results fn tmps).run P w = .ok (.tuple #[.agg cs, tmps.getD u undef]) w := by
  rw [results_cell_tmp h, hp]
  simp [asAddr, run_loadVar_row w g t ty cs fr d hg hu hd hi, Result.andThen]
theorem undrew {B : Nat} {a w : World} (h : Below B a.drew w) : Below B a w := ⟨h.os, h.tape, h.output, h.size, h.block⟩

set_option maxRecDepth 100000 in
set_option maxHeartbeats 2000000 in
theorem parse_7 (s : ByteArray) (hs7 : s.size = 7) (m d : Int) (nm : ∀ W, Calls Tryz.prog 80 #[.string (s.extract 2 4)] W fun e w' => e = .returned (.int .i64 m) ∧ W = w') (nd : ∀ W, Calls Tryz.prog 80 #[.string (s.extract 5 7)] W fun e w' => e = .returned (.int .i64 d) ∧ W = w') (w : World) (ht : Tab w) : Calls Tryz.prog 56 #[.string s] w fun e w' => ∃ v, e = .returned v ∧ Ans s 0 m d v ∧ Below w.heap.size w w' := by
  have HT := hd ht
  clear ht
  have A0 := hd nm
  clear nm
  have A1 := hd nd
  clear nd
  have HC := hd (fun W => two_cells w W 62 #[.int .i64 0, .int .i64 0, .int .i64 0] #[.int .i64 0, .int .i64 m, .int .i64 d])
  have HW := hd (fun W => two_below w W (.cells #[.int .i64 0, .int .i64 0, .int .i64 0] 62) (.cells #[.int .i64 0, .int .i64 m, .int .i64 d] 62))
  rcases Bool.eq_false_or_eq_true (mayB 0 m d) with hm | hm
  · have HM := hd hm
    clear hm
    by_cases hs : showL 0 m d = s.data.toList
    · have HS := hd hs
      clear hs
      go_enter Tryz.func56, Tryz.ntmps56
      go_wp2_with fail
      go_still_tail 7, (by kernel_rfl)
      still_call (q0 (A0.o _))
      repeat still_step
      still_call (q0 (A1.o _))
      repeat still_step
      try refine wpStill_nil ?_
      change wpList _ _ _ _ _ (World.drew _)
      go_wp2_with fail
      refine (may_calls 0 m d _).mono ?_
      rintro e w1 ⟨rfl, hb⟩
      rw [HM.o]
      have hb' := undrew hb
      clear hb
      obtain ⟨k1, k2⟩ := HC.o w1 hb'
      have a0 := k1.at_ 0 rfl
      have a1 := k1.at_ 1 rfl
      have a2 := k1.at_ 2 rfl
      have f0 := k1.frozen 0
      have f1 := k1.frozen 1
      have f2 := k1.frozen 2
      have b0 := k2.at_ 0 rfl
      have b1 := k2.at_ 1 rfl
      have b2 := k2.at_ 2 rfl
      have hl : w.heap.size < w1.heap.size := k1.lt
      have hl2 : w.heap.size + 1 < w1.heap.size := k2.lt
      have K1 := hd k1
      clear k1 k2
      go_wp2_with fail
      refine (show_yes 0 m d w1 HM.o (HT.o.below (HW.o w1 hb'))).mono ?_
      rintro e w2 ⟨rfl, hb2⟩
      have hb3 := hb'.trans (hb2.mono hb'.size)
      clear a0 a1 a2 f0 f1 f2 b0 b1 b2 hl hl2 K1
      obtain ⟨k1, k2⟩ := HC.o w2 hb3
      have a0 := k1.at_ 0 rfl
      have a1 := k1.at_ 1 rfl
      have a2 := k1.at_ 2 rfl
      have f0 := k1.frozen 0
      have f1 := k1.frozen 1
      have f2 := k1.frozen 2
      have b0 := k2.at_ 0 rfl
      have b1 := k2.at_ 1 rfl
      have b2 := k2.at_ 2 rfl
      have hl : w.heap.size < w2.heap.size := k1.lt
      have hl2 : w.heap.size + 1 < w2.heap.size := k2.lt
      have K1 := hd k1
      clear k1 k2
      rw [bs_eq _ _ HS.o]
      go_wp2
      (try simp only [Exit.inBlock, Exit.then])
      refine bodyPost_ret (res_cell_tmp rfl _ _ _ _ _ _ _ rfl (((K1.o.set_ 0 _).set_ 1 _).set_ 2 _) rfl rfl rfl) rfl ⟨_, rfl, ?_, ?_⟩
      · exact .inl ⟨HM.o, HS.o, rfl⟩
      · exact ((((HW.o _ hb3).setCell (Nat.le_refl _) _).setCell (Nat.le_refl _) _).setCell (Nat.le_refl _) _)
    · have HS := hd hs
      clear hs
      go_enter Tryz.func56, Tryz.ntmps56
      go_wp2_with fail
      go_still_tail 7, (by kernel_rfl)
      still_call (q0 (A0.o _))
      repeat still_step
      still_call (q0 (A1.o _))
      repeat still_step
      try refine wpStill_nil ?_
      change wpList _ _ _ _ _ (World.drew _)
      go_wp2_with fail
      refine (may_calls 0 m d _).mono ?_
      rintro e w1 ⟨rfl, hb⟩
      rw [HM.o]
      have hb' := undrew hb
      clear hb
      obtain ⟨k1, k2⟩ := HC.o w1 hb'
      have a0 := k1.at_ 0 rfl
      have a1 := k1.at_ 1 rfl
      have a2 := k1.at_ 2 rfl
      have f0 := k1.frozen 0
      have f1 := k1.frozen 1
      have f2 := k1.frozen 2
      have b0 := k2.at_ 0 rfl
      have b1 := k2.at_ 1 rfl
      have b2 := k2.at_ 2 rfl
      have hl : w.heap.size < w1.heap.size := k1.lt
      have hl2 : w.heap.size + 1 < w1.heap.size := k2.lt
      have K1 := hd k1
      clear k1 k2
      go_wp2_with fail
      refine (show_yes 0 m d w1 HM.o (HT.o.below (HW.o w1 hb'))).mono ?_
      rintro e w2 ⟨rfl, hb2⟩
      have hb3 := hb'.trans (hb2.mono hb'.size)
      clear a0 a1 a2 f0 f1 f2 b0 b1 b2 hl hl2 K1
      obtain ⟨k1, k2⟩ := HC.o w2 hb3
      have a0 := k1.at_ 0 rfl
      have a1 := k1.at_ 1 rfl
      have a2 := k1.at_ 2 rfl
      have f0 := k1.frozen 0
      have f1 := k1.frozen 1
      have f2 := k1.frozen 2
      have b0 := k2.at_ 0 rfl
      have b1 := k2.at_ 1 rfl
      have b2 := k2.at_ 2 rfl
      have hl : w.heap.size < w2.heap.size := k1.lt
      have hl2 : w.heap.size + 1 < w2.heap.size := k2.lt
      have K1 := hd k1
      clear k1 k2
      have hne := str_ne _ _ HS.o
      go_wp2
      (try simp only [Exit.inBlock, Exit.then])
      refine bodyPost_ret (res_cell_tmp rfl _ _ _ _ _ _ _ rfl (((K1.o.set_ 0 _).set_ 1 _).set_ 2 _) rfl rfl rfl) rfl ⟨_, rfl, ?_, ?_⟩
      · exact .inr ⟨fun hx => HS.o hx.2, rfl⟩
      · exact ((((HW.o _ hb3).setCell (Nat.le_refl _) _).setCell (Nat.le_refl _) _).setCell (Nat.le_refl _) _)
  · have HM := hd hm
    clear hm
    go_enter Tryz.func56, Tryz.ntmps56
    go_wp2_with fail
    go_still_tail 7, (by kernel_rfl)
    still_call (q0 (A0.o _))
    repeat still_step
    still_call (q0 (A1.o _))
    repeat still_step
    try refine wpStill_nil ?_
    change wpList _ _ _ _ _ (World.drew _)
    go_wp2_with fail
    refine (may_calls 0 m d _).mono ?_
    rintro e w1 ⟨rfl, hb⟩
    rw [HM.o]
    have hb' := undrew hb
    clear hb
    obtain ⟨k1, k2⟩ := HC.o w1 hb'
    have a0 := k1.at_ 0 rfl
    have a1 := k1.at_ 1 rfl
    have a2 := k1.at_ 2 rfl
    have f0 := k1.frozen 0
    have f1 := k1.frozen 1
    have f2 := k1.frozen 2
    have b0 := k2.at_ 0 rfl
    have b1 := k2.at_ 1 rfl
    have b2 := k2.at_ 2 rfl
    have hl : w.heap.size < w1.heap.size := k1.lt
    have hl2 : w.heap.size + 1 < w1.heap.size := k2.lt
    have K1 := hd k1
    clear k1 k2
    go_wp2
    (try simp only [Exit.inBlock, Exit.then])
    refine bodyPost_ret (res_cell_tmp rfl _ _ _ _ _ _ _ rfl (((K1.o.set_ 0 _).set_ 1 _).set_ 2 _) rfl rfl rfl) rfl ⟨_, rfl, ?_, ?_⟩
    · exact .inr ⟨fun hx => Bool.noConfusion (HM.o.symm.trans hx.1), rfl⟩
    · exact ((((HW.o _ hb').setCell (Nat.le_refl _) _).setCell (Nat.le_refl _) _).setCell (Nat.le_refl _) _)

set_option maxRecDepth 100000 in
set_option maxHeartbeats 2000000 in
theorem parse_10 (s : ByteArray) (hs10 : s.size = 10) (y m d : Int) (ny : ∀ W, Calls Tryz.prog 80 #[.string (s.extract 0 4)] W fun e w' => e = .returned (.int .i64 y) ∧ W = w') (nm : ∀ W, Calls Tryz.prog 80 #[.string (s.extract 5 7)] W fun e w' => e = .returned (.int .i64 m) ∧ W = w') (nd : ∀ W, Calls Tryz.prog 80 #[.string (s.extract 8 10)] W fun e w' => e = .returned (.int .i64 d) ∧ W = w') (w : World) (ht : Tab w) : Calls Tryz.prog 56 #[.string s] w fun e w' => ∃ v, e = .returned v ∧ Ans s y m d v ∧ Below w.heap.size w w' := by
  have HT := hd ht
  clear ht
  have A0 := hd ny
  clear ny
  have A1 := hd nm
  clear nm
  have A2 := hd nd
  clear nd
  have HC := hd (fun W => two_cells w W 62 #[.int .i64 0, .int .i64 0, .int .i64 0] #[.int .i64 y, .int .i64 m, .int .i64 d])
  have HW := hd (fun W => two_below w W (.cells #[.int .i64 0, .int .i64 0, .int .i64 0] 62) (.cells #[.int .i64 y, .int .i64 m, .int .i64 d] 62))
  rcases Bool.eq_false_or_eq_true (mayB y m d) with hm | hm
  · have HM := hd hm
    clear hm
    by_cases hs : showL y m d = s.data.toList
    · have HS := hd hs
      clear hs
      go_enter Tryz.func56, Tryz.ntmps56
      go_wp2_with fail
      go_still_tail 10, (by kernel_rfl)
      still_call (q0 (A0.o _))
      repeat still_step
      still_call (q0 (A1.o _))
      repeat still_step
      still_call (q0 (A2.o _))
      repeat still_step
      try refine wpStill_nil ?_
      change wpList _ _ _ _ _ (World.drew _)
      go_wp2_with fail
      refine (may_calls y m d _).mono ?_
      rintro e w1 ⟨rfl, hb⟩
      rw [HM.o]
      have hb' := undrew hb
      clear hb
      obtain ⟨k1, k2⟩ := HC.o w1 hb'
      have a0 := k1.at_ 0 rfl
      have a1 := k1.at_ 1 rfl
      have a2 := k1.at_ 2 rfl
      have f0 := k1.frozen 0
      have f1 := k1.frozen 1
      have f2 := k1.frozen 2
      have b0 := k2.at_ 0 rfl
      have b1 := k2.at_ 1 rfl
      have b2 := k2.at_ 2 rfl
      have hl : w.heap.size < w1.heap.size := k1.lt
      have hl2 : w.heap.size + 1 < w1.heap.size := k2.lt
      have K1 := hd k1
      clear k1 k2
      go_wp2_with fail
      refine (show_yes y m d w1 HM.o (HT.o.below (HW.o w1 hb'))).mono ?_
      rintro e w2 ⟨rfl, hb2⟩
      have hb3 := hb'.trans (hb2.mono hb'.size)
      clear a0 a1 a2 f0 f1 f2 b0 b1 b2 hl hl2 K1
      obtain ⟨k1, k2⟩ := HC.o w2 hb3
      have a0 := k1.at_ 0 rfl
      have a1 := k1.at_ 1 rfl
      have a2 := k1.at_ 2 rfl
      have f0 := k1.frozen 0
      have f1 := k1.frozen 1
      have f2 := k1.frozen 2
      have b0 := k2.at_ 0 rfl
      have b1 := k2.at_ 1 rfl
      have b2 := k2.at_ 2 rfl
      have hl : w.heap.size < w2.heap.size := k1.lt
      have hl2 : w.heap.size + 1 < w2.heap.size := k2.lt
      have K1 := hd k1
      clear k1 k2
      rw [bs_eq _ _ HS.o]
      go_wp2
      (try simp only [Exit.inBlock, Exit.then])
      refine bodyPost_ret (res_cell_tmp rfl _ _ _ _ _ _ _ rfl (((K1.o.set_ 0 _).set_ 1 _).set_ 2 _) rfl rfl rfl) rfl ⟨_, rfl, ?_, ?_⟩
      · exact .inl ⟨HM.o, HS.o, rfl⟩
      · exact ((((HW.o _ hb3).setCell (Nat.le_refl _) _).setCell (Nat.le_refl _) _).setCell (Nat.le_refl _) _)
    · have HS := hd hs
      clear hs
      go_enter Tryz.func56, Tryz.ntmps56
      go_wp2_with fail
      go_still_tail 10, (by kernel_rfl)
      still_call (q0 (A0.o _))
      repeat still_step
      still_call (q0 (A1.o _))
      repeat still_step
      still_call (q0 (A2.o _))
      repeat still_step
      try refine wpStill_nil ?_
      change wpList _ _ _ _ _ (World.drew _)
      go_wp2_with fail
      refine (may_calls y m d _).mono ?_
      rintro e w1 ⟨rfl, hb⟩
      rw [HM.o]
      have hb' := undrew hb
      clear hb
      obtain ⟨k1, k2⟩ := HC.o w1 hb'
      have a0 := k1.at_ 0 rfl
      have a1 := k1.at_ 1 rfl
      have a2 := k1.at_ 2 rfl
      have f0 := k1.frozen 0
      have f1 := k1.frozen 1
      have f2 := k1.frozen 2
      have b0 := k2.at_ 0 rfl
      have b1 := k2.at_ 1 rfl
      have b2 := k2.at_ 2 rfl
      have hl : w.heap.size < w1.heap.size := k1.lt
      have hl2 : w.heap.size + 1 < w1.heap.size := k2.lt
      have K1 := hd k1
      clear k1 k2
      go_wp2_with fail
      refine (show_yes y m d w1 HM.o (HT.o.below (HW.o w1 hb'))).mono ?_
      rintro e w2 ⟨rfl, hb2⟩
      have hb3 := hb'.trans (hb2.mono hb'.size)
      clear a0 a1 a2 f0 f1 f2 b0 b1 b2 hl hl2 K1
      obtain ⟨k1, k2⟩ := HC.o w2 hb3
      have a0 := k1.at_ 0 rfl
      have a1 := k1.at_ 1 rfl
      have a2 := k1.at_ 2 rfl
      have f0 := k1.frozen 0
      have f1 := k1.frozen 1
      have f2 := k1.frozen 2
      have b0 := k2.at_ 0 rfl
      have b1 := k2.at_ 1 rfl
      have b2 := k2.at_ 2 rfl
      have hl : w.heap.size < w2.heap.size := k1.lt
      have hl2 : w.heap.size + 1 < w2.heap.size := k2.lt
      have K1 := hd k1
      clear k1 k2
      have hne := str_ne _ _ HS.o
      go_wp2
      (try simp only [Exit.inBlock, Exit.then])
      refine bodyPost_ret (res_cell_tmp rfl _ _ _ _ _ _ _ rfl (((K1.o.set_ 0 _).set_ 1 _).set_ 2 _) rfl rfl rfl) rfl ⟨_, rfl, ?_, ?_⟩
      · exact .inr ⟨fun hx => HS.o hx.2, rfl⟩
      · exact ((((HW.o _ hb3).setCell (Nat.le_refl _) _).setCell (Nat.le_refl _) _).setCell (Nat.le_refl _) _)
  · have HM := hd hm
    clear hm
    go_enter Tryz.func56, Tryz.ntmps56
    go_wp2_with fail
    go_still_tail 10, (by kernel_rfl)
    still_call (q0 (A0.o _))
    repeat still_step
    still_call (q0 (A1.o _))
    repeat still_step
    still_call (q0 (A2.o _))
    repeat still_step
    try refine wpStill_nil ?_
    change wpList _ _ _ _ _ (World.drew _)
    go_wp2_with fail
    refine (may_calls y m d _).mono ?_
    rintro e w1 ⟨rfl, hb⟩
    rw [HM.o]
    have hb' := undrew hb
    clear hb
    obtain ⟨k1, k2⟩ := HC.o w1 hb'
    have a0 := k1.at_ 0 rfl
    have a1 := k1.at_ 1 rfl
    have a2 := k1.at_ 2 rfl
    have f0 := k1.frozen 0
    have f1 := k1.frozen 1
    have f2 := k1.frozen 2
    have b0 := k2.at_ 0 rfl
    have b1 := k2.at_ 1 rfl
    have b2 := k2.at_ 2 rfl
    have hl : w.heap.size < w1.heap.size := k1.lt
    have hl2 : w.heap.size + 1 < w1.heap.size := k2.lt
    have K1 := hd k1
    clear k1 k2
    go_wp2
    (try simp only [Exit.inBlock, Exit.then])
    refine bodyPost_ret (res_cell_tmp rfl _ _ _ _ _ _ _ rfl (((K1.o.set_ 0 _).set_ 1 _).set_ 2 _) rfl rfl rfl) rfl ⟨_, rfl, ?_, ?_⟩
    · exact .inr ⟨fun hx => Bool.noConfusion (HM.o.symm.trans hx.1), rfl⟩
    · exact ((((HW.o _ hb').setCell (Nat.le_refl _) _).setCell (Nat.le_refl _) _).setCell (Nat.le_refl _) _)

set_option maxRecDepth 100000 in
set_option maxHeartbeats 2000000 in
theorem parse_else (s : ByteArray) (h5 : s.size ≤ 64) (h7 : ¬ s.size = 7) (h10 : ¬ s.size = 10)   (w : World) (ht : Tab w) : Calls Tryz.prog 56 #[.string s] w fun e w' => ∃ v, e = .returned v ∧ Ans s 0 0 0 v ∧ Below w.heap.size w w' := by
  have HT := hd ht
  clear ht
  have HC := hd (fun W => two_cells w W 62 #[.int .i64 0, .int .i64 0, .int .i64 0] #[.int .i64 0, .int .i64 0, .int .i64 0])
  have HW := hd (fun W => two_below w W (.cells #[.int .i64 0, .int .i64 0, .int .i64 0] 62) (.cells #[.int .i64 0, .int .i64 0, .int .i64 0] 62))
  have HM := hd (show mayB 0 0 0 = false from rfl)
  have n7 : (s.size == 7) = false := by simpa using h7
  have n10 : (s.size == 10) = false := by simpa using h10
  go_enter Tryz.func56, Tryz.ntmps56
  go_wp2_with fail
  refine (may_calls 0 0 0 _).mono ?_
  rintro e w1 ⟨rfl, hb⟩
  rw [HM.o]
  have hb' := hb
  clear hb
  obtain ⟨k1, k2⟩ := HC.o w1 hb'
  have a0 := k1.at_ 0 rfl
  have a1 := k1.at_ 1 rfl
  have a2 := k1.at_ 2 rfl
  have f0 := k1.frozen 0
  have f1 := k1.frozen 1
  have f2 := k1.frozen 2
  have b0 := k2.at_ 0 rfl
  have b1 := k2.at_ 1 rfl
  have b2 := k2.at_ 2 rfl
  have hl : w.heap.size < w1.heap.size := k1.lt
  have hl2 : w.heap.size + 1 < w1.heap.size := k2.lt
  have K1 := hd k1
  clear k1 k2
  go_wp2
  (try simp only [Exit.inBlock, Exit.then])
  refine bodyPost_ret (res_cell_tmp rfl _ _ _ _ _ _ _ rfl (((K1.o.set_ 0 _).set_ 1 _).set_ 2 _) rfl rfl rfl) rfl ⟨_, rfl, ?_, ?_⟩
  · exact .inr ⟨fun hx => Bool.noConfusion (HM.o.symm.trans hx.1), rfl⟩
  · exact ((((HW.o _ hb').setCell (Nat.le_refl _) _).setCell (Nat.le_refl _) _).setCell (Nat.le_refl _) _)

end Go.Proofs.YtpejlcaoggedfaaGreatDoor
