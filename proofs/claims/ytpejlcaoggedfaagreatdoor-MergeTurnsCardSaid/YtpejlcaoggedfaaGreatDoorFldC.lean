/-
  Fields: the canonical field, the program's, over what is called.
-/
import Derived.Test.YtpejlcaoggedfaaGreatDoorFldL
import Derived.Test.YtpejlcaoggedfaaGreatDoorRowLaw
set_option linter.unusedVariables false
set_option linter.unusedSimpArgs false
namespace Go.Proofs.YtpejlcaoggedfaaGreatDoor
open Go.RowKit

theorem two_cell (w W : World) (t : TypeId) (c1 c2 : Array Value)
    (hb : Below ((w.alloc (.cells c1 t)).alloc (.cells c2 t)).heap.size ((w.alloc (.cells c1 t)).alloc (.cells c2 t)) W) :
    Blk W w.heap.size t c1 ∧ Blk W (w.heap.size + 1) t c2 :=
  ⟨((Blk.new w t c1).alloc _).below hb (by simp; omega), (Blk.new_ (w.alloc (.cells c1 t)) (w.heap.size + 1) (by simp) t c2).below hb (by simp)⟩
theorem two_bel (w W : World) (o1 o2 : Obj) (hb : Below ((w.alloc o1).alloc o2).heap.size ((w.alloc o1).alloc o2) W) : Below w.heap.size w W :=
  (((Below.refl _ w).alloc (Nat.le_refl _) _).alloc (by simp) _).trans (hb.mono (by simp; omega))
theorem res_cell {P : Program} {fn : Func} {p u : Tmp} {ty : TypeId} (h : fn.results = #[.cell p ty, .tmp u]) (tmps : Array Value) (w : World) (g : Nat) (t : TypeId) (cs : Array Value) (fr : Nat × Nat) (d : TypeDesc)
    (hp : tmps.getD p undef = .pointer (some ⟨g, 0, none⟩)) (hg : w.heap[g]? = some (.cells cs t fr))
    (hu : P.underlying ty = some d) (hd : (match d with | .struct _ | .array _ _ => true | _ => false) = true) (hi : (P.info? ty).map (·.size) = some cs.size) :
    (results fn tmps).run P w = .ok (.tuple #[.agg cs, tmps.getD u undef]) w := by
  rw [results_cell_tmp h, hp]
  simp [asAddr, run_loadVar_row w g t ty cs fr d hg hu hd hi, Result.andThen]
def fldR (f : Fld) (e : Int) : Value := .tuple #[fldV f, .int .i64 e]
theorem retF {f g : Fld} {a b : Int} (h : f = g) (k : a = b) : Ending.returned (fldR f a) = .returned (fldR g b) := by rw [h, k]
def resF (f : Fld) (e : Int) : Fld := if e = 0 then f else noFld
theorem resF_0 (f : Fld) : resF f 0 = f := if_pos rfl
theorem resF_e (f : Fld) {e : Int} (h : e ≠ 0) : resF f e = noFld := if_neg h

set_option maxRecDepth 100000 in
set_option maxHeartbeats 1000000 in
theorem fcanon_bad1 (k l : Int) (v lab : ByteArray) (w : World) (H1 : Hd (∀ W, Calls Tryz.prog 51 #[.int .i64 k, .int .i64 l] W fun e w' => e = .returned (.tuple #[.string lab, .bool false]) ∧ W = w')) :
    Calls Tryz.prog 33 #[.agg #[.int .i64 k, .int .i64 l, .string v]] w fun e w' => e = .returned (fldR noFld 1) ∧ Below w.heap.size w w' := by
  obtain ⟨X, hX⟩ : ∃ X, X = (w.alloc (.cells #[.int .i64 k, .int .i64 l, .string v] 36)).alloc (.cells #[.int .i64 0, .int .i64 0, .string ⟨#[]⟩] 36) := ⟨_, rfl⟩
  have HC := hd (fun W (hb : Below X.heap.size X W) => two_cell w W 36 #[.int .i64 k, .int .i64 l, .string v] #[.int .i64 0, .int .i64 0, .string ⟨#[]⟩] (by rw [← hX]; exact hb))
  have HW := hd (fun W (hb : Below X.heap.size X W) => two_bel w W (.cells #[.int .i64 k, .int .i64 l, .string v] 36) (.cells #[.int .i64 0, .int .i64 0, .string ⟨#[]⟩] 36) (by rw [← hX]; exact hb))
  have HB0 := hd (Below.refl X.heap.size X)
  have hx := hd hX
  clear hX
  go_enter Tryz.func33, Tryz.ntmps33
  go_wp2_with fail
  rw [← hx.o]
  obtain ⟨k1, k2⟩ := HC.o _ HB0.o
  have a0 := k1.at_ 0 rfl
  have a1 := k1.at_ 1 rfl
  have a2 := k1.at_ 2 rfl
  have f0 := k1.frozen 0
  have f1 := k1.frozen 1
  have f2 := k1.frozen 2
  have b0 := k2.at_ 0 rfl
  have b1 := k2.at_ 1 rfl
  have b2 := k2.at_ 2 rfl
  have g0 := k2.frozen 0
  have g1 := k2.frozen 1
  have g2 := k2.frozen 2
  have hl : w.heap.size < _ := k1.lt
  have hl2 : w.heap.size + 1 < _ := k2.lt
  have K1 := hd k1
  have K2 := hd k2
  clear k1 k2
  go_wp2_with fail
  refine (H1.o _).mono ?_
  rintro e w1 ⟨rfl, rfl⟩
  go_wp2
  (try simp only [Exit.inBlock, Exit.then])
  refine bodyPost_ret (res_cell rfl _ _ _ _ _ _ _ rfl (((K2.o.set_ 0 _).set_ 1 _).set_ 2 _) rfl rfl rfl) rfl ⟨?_, ?_⟩
  · exact retF (f := noFld) (a := 1) rfl rfl
  · exact ((((HW.o _ HB0.o).setCell (Nat.le_succ _) _).setCell (Nat.le_succ _) _).setCell (Nat.le_succ _) _)

set_option maxRecDepth 100000 in
set_option maxHeartbeats 1000000 in
theorem fcanon_bad2 (k l : Int) (v lab kd : ByteArray) (w : World) (H1 : Hd (∀ W, Calls Tryz.prog 51 #[.int .i64 k, .int .i64 l] W fun e w' => e = .returned (.tuple #[.string lab, .bool true]) ∧ W = w')) (H2 : Hd (∀ W, Calls Tryz.prog 52 #[.int .i64 k] W fun e w' => e = .returned (.string kd) ∧ W = w')) (hkd : (kd.toList == []) = true) :
    Calls Tryz.prog 33 #[.agg #[.int .i64 k, .int .i64 l, .string v]] w fun e w' => e = .returned (fldR noFld 1) ∧ Below w.heap.size w w' := by
  obtain ⟨X, hX⟩ : ∃ X, X = (w.alloc (.cells #[.int .i64 k, .int .i64 l, .string v] 36)).alloc (.cells #[.int .i64 0, .int .i64 0, .string ⟨#[]⟩] 36) := ⟨_, rfl⟩
  have HC := hd (fun W (hb : Below X.heap.size X W) => two_cell w W 36 #[.int .i64 k, .int .i64 l, .string v] #[.int .i64 0, .int .i64 0, .string ⟨#[]⟩] (by rw [← hX]; exact hb))
  have HW := hd (fun W (hb : Below X.heap.size X W) => two_bel w W (.cells #[.int .i64 k, .int .i64 l, .string v] 36) (.cells #[.int .i64 0, .int .i64 0, .string ⟨#[]⟩] 36) (by rw [← hX]; exact hb))
  have HB0 := hd (Below.refl X.heap.size X)
  have hx := hd hX
  clear hX
  go_enter Tryz.func33, Tryz.ntmps33
  go_wp2_with fail
  rw [← hx.o]
  obtain ⟨k1, k2⟩ := HC.o _ HB0.o
  have a0 := k1.at_ 0 rfl
  have a1 := k1.at_ 1 rfl
  have a2 := k1.at_ 2 rfl
  have f0 := k1.frozen 0
  have f1 := k1.frozen 1
  have f2 := k1.frozen 2
  have b0 := k2.at_ 0 rfl
  have b1 := k2.at_ 1 rfl
  have b2 := k2.at_ 2 rfl
  have g0 := k2.frozen 0
  have g1 := k2.frozen 1
  have g2 := k2.frozen 2
  have hl : w.heap.size < _ := k1.lt
  have hl2 : w.heap.size + 1 < _ := k2.lt
  have K1 := hd k1
  have K2 := hd k2
  clear k1 k2
  go_wp2_with fail
  refine (H1.o _).mono ?_
  rintro e w1 ⟨rfl, rfl⟩
  go_wp2_with fail
  refine (H2.o _).mono ?_
  rintro e w1 ⟨rfl, rfl⟩
  go_wp2
  (try simp only [Exit.inBlock, Exit.then])
  refine bodyPost_ret (res_cell rfl _ _ _ _ _ _ _ rfl (((K2.o.set_ 0 _).set_ 1 _).set_ 2 _) rfl rfl rfl) rfl ⟨?_, ?_⟩
  · exact retF (f := noFld) (a := 1) rfl rfl
  · exact ((((HW.o _ HB0.o).setCell (Nat.le_succ _) _).setCell (Nat.le_succ _) _).setCell (Nat.le_succ _) _)

set_option maxRecDepth 100000 in
set_option maxHeartbeats 2000000 in
theorem fcanon_3 (l : Int) (v : ByteArray) (lab kd : ByteArray) (T : List UInt8) (E : Int) (R : Int) (HR : Hd (R = E)) (w : World)
    (H1 : Hd (∀ W, Calls Tryz.prog 51 #[.int .i64 3, .int .i64 l] W fun e w' => e = .returned (.tuple #[.string lab, .bool true]) ∧ W = w'))
    (H2 : Hd (∀ W, Calls Tryz.prog 52 #[.int .i64 3] W fun e w' => e = .returned (.string kd) ∧ W = w')) (hkd : (kd.toList == []) = false)
    (H3 : Hd (∀ W, Below w.heap.size w W → Calls Tryz.prog 53 #[.string v] W fun e w' => e = .returned (.tuple #[.string (bs T), .int .i64 E]) ∧ Below W.heap.size W w')) :
    Calls Tryz.prog 33 #[.agg #[.int .i64 3, .int .i64 l, .string v]] w fun e w' => e = .returned (fldR (resF ⟨3, l, T⟩ R) R) ∧ Below w.heap.size w w' := by
  obtain ⟨X, hX⟩ : ∃ X, X = (w.alloc (.cells #[.int .i64 3, .int .i64 l, .string v] 36)).alloc (.cells #[.int .i64 0, .int .i64 0, .string ⟨#[]⟩] 36) := ⟨_, rfl⟩
  have HC := hd (fun W (hb : Below X.heap.size X W) => two_cell w W 36 #[.int .i64 3, .int .i64 l, .string v] #[.int .i64 0, .int .i64 0, .string ⟨#[]⟩] (by rw [← hX]; exact hb))
  have HW := hd (fun W (hb : Below X.heap.size X W) => two_bel w W (.cells #[.int .i64 3, .int .i64 l, .string v] 36) (.cells #[.int .i64 0, .int .i64 0, .string ⟨#[]⟩] 36) (by rw [← hX]; exact hb))
  have HB0 := hd (Below.refl X.heap.size X)
  have hx := hd hX
  clear hX
  by_cases hE : E = 0
  · subst hE
    go_enter Tryz.func33, Tryz.ntmps33
    go_wp2_with fail
    rw [← hx.o]
    obtain ⟨k1, k2⟩ := HC.o _ HB0.o
    have a0 := k1.at_ 0 rfl
    have a1 := k1.at_ 1 rfl
    have a2 := k1.at_ 2 rfl
    have f0 := k1.frozen 0
    have f1 := k1.frozen 1
    have f2 := k1.frozen 2
    have b0 := k2.at_ 0 rfl
    have b1 := k2.at_ 1 rfl
    have b2 := k2.at_ 2 rfl
    have g0 := k2.frozen 0
    have g1 := k2.frozen 1
    have g2 := k2.frozen 2
    have hl : w.heap.size < _ := k1.lt
    have hl2 : w.heap.size + 1 < _ := k2.lt
    have K1 := hd k1
    have K2 := hd k2
    clear k1 k2
    go_wp2_with fail
    refine (H1.o _).mono ?_
    rintro e w1 ⟨rfl, rfl⟩
    go_wp2_with fail
    refine (H2.o _).mono ?_
    rintro e w1 ⟨rfl, rfl⟩
    go_wp2_with fail
    refine (H3.o _ (HW.o _ HB0.o)).mono ?_
    rintro e w2 ⟨rfl, hb2⟩
    have HB2 := hd hb2
    clear hb2
    clear a0 a1 a2 f0 f1 f2 b0 b1 b2 g0 g1 g2 hl hl2 K1 K2
    obtain ⟨k1, k2⟩ := HC.o _ HB2.o
    have a0 := k1.at_ 0 rfl
    have a1 := k1.at_ 1 rfl
    have a2 := k1.at_ 2 rfl
    have f0 := k1.frozen 0
    have f1 := k1.frozen 1
    have f2 := k1.frozen 2
    have b0 := k2.at_ 0 rfl
    have b1 := k2.at_ 1 rfl
    have b2 := k2.at_ 2 rfl
    have g0 := k2.frozen 0
    have g1 := k2.frozen 1
    have g2 := k2.frozen 2
    have hl : w.heap.size < _ := k1.lt
    have hl2 : w.heap.size + 1 < _ := k2.lt
    have K1 := hd k1
    have K2 := hd k2
    clear k1 k2
    go_wp2
    (try simp only [Exit.inBlock, Exit.then])
    refine bodyPost_ret (res_cell rfl _ _ _ _ _ _ _ rfl ((((K2.o.far (by show w.heap.size + 1 ≠ w.heap.size; omega) _).set_ 0 _).set_ 1 _).set_ 2 _) rfl rfl rfl) rfl ⟨?_, ?_⟩
    · exact retF (f := ⟨3, l, T⟩) (a := 0) (by rw [HR.o, resF_0]) (by rw [HR.o])
    · exact (((((HW.o _ HB2.o).setCell (Nat.le_refl _) _).setCell (Nat.le_succ _) _).setCell (Nat.le_succ _) _).setCell (Nat.le_succ _) _)
  · have nE : (E != 0) = true := by simpa using hE
    have eE : (E == 0) = false := by simpa using hE
    have HE := hd hE
    clear hE
    go_enter Tryz.func33, Tryz.ntmps33
    go_wp2_with fail
    rw [← hx.o]
    obtain ⟨k1, k2⟩ := HC.o _ HB0.o
    have a0 := k1.at_ 0 rfl
    have a1 := k1.at_ 1 rfl
    have a2 := k1.at_ 2 rfl
    have f0 := k1.frozen 0
    have f1 := k1.frozen 1
    have f2 := k1.frozen 2
    have b0 := k2.at_ 0 rfl
    have b1 := k2.at_ 1 rfl
    have b2 := k2.at_ 2 rfl
    have g0 := k2.frozen 0
    have g1 := k2.frozen 1
    have g2 := k2.frozen 2
    have hl : w.heap.size < _ := k1.lt
    have hl2 : w.heap.size + 1 < _ := k2.lt
    have K1 := hd k1
    have K2 := hd k2
    clear k1 k2
    go_wp2_with fail
    refine (H1.o _).mono ?_
    rintro e w1 ⟨rfl, rfl⟩
    go_wp2_with fail
    refine (H2.o _).mono ?_
    rintro e w1 ⟨rfl, rfl⟩
    go_wp2_with fail
    refine (H3.o _ (HW.o _ HB0.o)).mono ?_
    rintro e w2 ⟨rfl, hb2⟩
    have HB2 := hd hb2
    clear hb2
    clear a0 a1 a2 f0 f1 f2 b0 b1 b2 g0 g1 g2 hl hl2 K1 K2
    obtain ⟨k1, k2⟩ := HC.o _ HB2.o
    have a0 := k1.at_ 0 rfl
    have a1 := k1.at_ 1 rfl
    have a2 := k1.at_ 2 rfl
    have f0 := k1.frozen 0
    have f1 := k1.frozen 1
    have f2 := k1.frozen 2
    have b0 := k2.at_ 0 rfl
    have b1 := k2.at_ 1 rfl
    have b2 := k2.at_ 2 rfl
    have g0 := k2.frozen 0
    have g1 := k2.frozen 1
    have g2 := k2.frozen 2
    have hl : w.heap.size < _ := k1.lt
    have hl2 : w.heap.size + 1 < _ := k2.lt
    have K1 := hd k1
    have K2 := hd k2
    clear k1 k2
    go_wp2
    (try simp only [Exit.inBlock, Exit.then])
    refine bodyPost_ret (res_cell rfl _ _ _ _ _ _ _ rfl (((K2.o.set_ 0 _).set_ 1 _).set_ 2 _) rfl rfl rfl) rfl ⟨?_, ?_⟩
    · exact retF (f := noFld) (a := E) (by rw [HR.o, resF_e _ HE.o]) (by rw [HR.o])
    · exact ((((HW.o _ HB2.o).setCell (Nat.le_succ _) _).setCell (Nat.le_succ _) _).setCell (Nat.le_succ _) _)

set_option maxRecDepth 100000 in
set_option maxHeartbeats 2000000 in
theorem fcanon_4 (l : Int) (v : ByteArray) (lab kd : ByteArray) (T : List UInt8) (E : Int) (R : Int) (HR : Hd (R = E)) (w : World)
    (H1 : Hd (∀ W, Calls Tryz.prog 51 #[.int .i64 4, .int .i64 l] W fun e w' => e = .returned (.tuple #[.string lab, .bool true]) ∧ W = w'))
    (H2 : Hd (∀ W, Calls Tryz.prog 52 #[.int .i64 4] W fun e w' => e = .returned (.string kd) ∧ W = w')) (hkd : (kd.toList == []) = false)
    (H3 : Hd (∀ W, Below w.heap.size w W → Calls Tryz.prog 54 #[.string v] W fun e w' => e = .returned (.tuple #[.string (bs T), .int .i64 E]) ∧ Below W.heap.size W w')) :
    Calls Tryz.prog 33 #[.agg #[.int .i64 4, .int .i64 l, .string v]] w fun e w' => e = .returned (fldR (resF ⟨4, l, T⟩ R) R) ∧ Below w.heap.size w w' := by
  obtain ⟨X, hX⟩ : ∃ X, X = (w.alloc (.cells #[.int .i64 4, .int .i64 l, .string v] 36)).alloc (.cells #[.int .i64 0, .int .i64 0, .string ⟨#[]⟩] 36) := ⟨_, rfl⟩
  have HC := hd (fun W (hb : Below X.heap.size X W) => two_cell w W 36 #[.int .i64 4, .int .i64 l, .string v] #[.int .i64 0, .int .i64 0, .string ⟨#[]⟩] (by rw [← hX]; exact hb))
  have HW := hd (fun W (hb : Below X.heap.size X W) => two_bel w W (.cells #[.int .i64 4, .int .i64 l, .string v] 36) (.cells #[.int .i64 0, .int .i64 0, .string ⟨#[]⟩] 36) (by rw [← hX]; exact hb))
  have HB0 := hd (Below.refl X.heap.size X)
  have hx := hd hX
  clear hX
  by_cases hE : E = 0
  · subst hE
    go_enter Tryz.func33, Tryz.ntmps33
    go_wp2_with fail
    rw [← hx.o]
    obtain ⟨k1, k2⟩ := HC.o _ HB0.o
    have a0 := k1.at_ 0 rfl
    have a1 := k1.at_ 1 rfl
    have a2 := k1.at_ 2 rfl
    have f0 := k1.frozen 0
    have f1 := k1.frozen 1
    have f2 := k1.frozen 2
    have b0 := k2.at_ 0 rfl
    have b1 := k2.at_ 1 rfl
    have b2 := k2.at_ 2 rfl
    have g0 := k2.frozen 0
    have g1 := k2.frozen 1
    have g2 := k2.frozen 2
    have hl : w.heap.size < _ := k1.lt
    have hl2 : w.heap.size + 1 < _ := k2.lt
    have K1 := hd k1
    have K2 := hd k2
    clear k1 k2
    go_wp2_with fail
    refine (H1.o _).mono ?_
    rintro e w1 ⟨rfl, rfl⟩
    go_wp2_with fail
    refine (H2.o _).mono ?_
    rintro e w1 ⟨rfl, rfl⟩
    go_wp2_with fail
    refine (H3.o _ (HW.o _ HB0.o)).mono ?_
    rintro e w2 ⟨rfl, hb2⟩
    have HB2 := hd hb2
    clear hb2
    clear a0 a1 a2 f0 f1 f2 b0 b1 b2 g0 g1 g2 hl hl2 K1 K2
    obtain ⟨k1, k2⟩ := HC.o _ HB2.o
    have a0 := k1.at_ 0 rfl
    have a1 := k1.at_ 1 rfl
    have a2 := k1.at_ 2 rfl
    have f0 := k1.frozen 0
    have f1 := k1.frozen 1
    have f2 := k1.frozen 2
    have b0 := k2.at_ 0 rfl
    have b1 := k2.at_ 1 rfl
    have b2 := k2.at_ 2 rfl
    have g0 := k2.frozen 0
    have g1 := k2.frozen 1
    have g2 := k2.frozen 2
    have hl : w.heap.size < _ := k1.lt
    have hl2 : w.heap.size + 1 < _ := k2.lt
    have K1 := hd k1
    have K2 := hd k2
    clear k1 k2
    go_wp2
    (try simp only [Exit.inBlock, Exit.then])
    refine bodyPost_ret (res_cell rfl _ _ _ _ _ _ _ rfl ((((K2.o.far (by show w.heap.size + 1 ≠ w.heap.size; omega) _).set_ 0 _).set_ 1 _).set_ 2 _) rfl rfl rfl) rfl ⟨?_, ?_⟩
    · exact retF (f := ⟨4, l, T⟩) (a := 0) (by rw [HR.o, resF_0]) (by rw [HR.o])
    · exact (((((HW.o _ HB2.o).setCell (Nat.le_refl _) _).setCell (Nat.le_succ _) _).setCell (Nat.le_succ _) _).setCell (Nat.le_succ _) _)
  · have nE : (E != 0) = true := by simpa using hE
    have eE : (E == 0) = false := by simpa using hE
    have HE := hd hE
    clear hE
    go_enter Tryz.func33, Tryz.ntmps33
    go_wp2_with fail
    rw [← hx.o]
    obtain ⟨k1, k2⟩ := HC.o _ HB0.o
    have a0 := k1.at_ 0 rfl
    have a1 := k1.at_ 1 rfl
    have a2 := k1.at_ 2 rfl
    have f0 := k1.frozen 0
    have f1 := k1.frozen 1
    have f2 := k1.frozen 2
    have b0 := k2.at_ 0 rfl
    have b1 := k2.at_ 1 rfl
    have b2 := k2.at_ 2 rfl
    have g0 := k2.frozen 0
    have g1 := k2.frozen 1
    have g2 := k2.frozen 2
    have hl : w.heap.size < _ := k1.lt
    have hl2 : w.heap.size + 1 < _ := k2.lt
    have K1 := hd k1
    have K2 := hd k2
    clear k1 k2
    go_wp2_with fail
    refine (H1.o _).mono ?_
    rintro e w1 ⟨rfl, rfl⟩
    go_wp2_with fail
    refine (H2.o _).mono ?_
    rintro e w1 ⟨rfl, rfl⟩
    go_wp2_with fail
    refine (H3.o _ (HW.o _ HB0.o)).mono ?_
    rintro e w2 ⟨rfl, hb2⟩
    have HB2 := hd hb2
    clear hb2
    clear a0 a1 a2 f0 f1 f2 b0 b1 b2 g0 g1 g2 hl hl2 K1 K2
    obtain ⟨k1, k2⟩ := HC.o _ HB2.o
    have a0 := k1.at_ 0 rfl
    have a1 := k1.at_ 1 rfl
    have a2 := k1.at_ 2 rfl
    have f0 := k1.frozen 0
    have f1 := k1.frozen 1
    have f2 := k1.frozen 2
    have b0 := k2.at_ 0 rfl
    have b1 := k2.at_ 1 rfl
    have b2 := k2.at_ 2 rfl
    have g0 := k2.frozen 0
    have g1 := k2.frozen 1
    have g2 := k2.frozen 2
    have hl : w.heap.size < _ := k1.lt
    have hl2 : w.heap.size + 1 < _ := k2.lt
    have K1 := hd k1
    have K2 := hd k2
    clear k1 k2
    go_wp2
    (try simp only [Exit.inBlock, Exit.then])
    refine bodyPost_ret (res_cell rfl _ _ _ _ _ _ _ rfl (((K2.o.set_ 0 _).set_ 1 _).set_ 2 _) rfl rfl rfl) rfl ⟨?_, ?_⟩
    · exact retF (f := noFld) (a := E) (by rw [HR.o, resF_e _ HE.o]) (by rw [HR.o])
    · exact ((((HW.o _ HB2.o).setCell (Nat.le_succ _) _).setCell (Nat.le_succ _) _).setCell (Nat.le_succ _) _)

set_option maxRecDepth 100000 in
set_option maxHeartbeats 2000000 in
theorem fcanon_o (k : Int) (h1 : 1 ≤ k) (h6 : k ≤ 6) (h3 : k ≠ 3) (h4 : k ≠ 4) (v : ByteArray) (lab kd : ByteArray) (T : List UInt8) (E : Int) (y m d D : Int) (R : Int) (HR : Hd (R = if E = 0 ∧ k = 5 then D else E)) (w : World)
    (H1 : Hd (∀ W, Calls Tryz.prog 51 #[.int .i64 k, .int .i64 0] W fun e w' => e = .returned (.tuple #[.string lab, .bool true]) ∧ W = w'))
    (H2 : Hd (∀ W, Calls Tryz.prog 52 #[.int .i64 k] W fun e w' => e = .returned (.string kd) ∧ W = w')) (hkd : (kd.toList == []) = false)
    (H3 : Hd (∀ W, Below w.heap.size w W → Calls Tryz.prog 55 #[.string v] W fun e w' => e = .returned (.tuple #[.string (bs T), .int .i64 E]) ∧ Below W.heap.size W w'))
    (H4 : Hd (∀ W, Below w.heap.size w W → Calls Tryz.prog 56 #[.string (bs T)] W fun e w' => e = .returned (.tuple #[.agg #[.int .i64 y, .int .i64 m, .int .i64 d], .int .i64 D]) ∧ Below W.heap.size W w')) :
    Calls Tryz.prog 33 #[.agg #[.int .i64 k, .int .i64 0, .string v]] w fun e w' => e = .returned (fldR (resF ⟨k, 0, T⟩ R) R) ∧ Below w.heap.size w w' := by
  obtain ⟨X, hX⟩ : ∃ X, X = (w.alloc (.cells #[.int .i64 k, .int .i64 0, .string v] 36)).alloc (.cells #[.int .i64 0, .int .i64 0, .string ⟨#[]⟩] 36) := ⟨_, rfl⟩
  have HC := hd (fun W (hb : Below X.heap.size X W) => two_cell w W 36 #[.int .i64 k, .int .i64 0, .string v] #[.int .i64 0, .int .i64 0, .string ⟨#[]⟩] (by rw [← hX]; exact hb))
  have HW := hd (fun W (hb : Below X.heap.size X W) => two_bel w W (.cells #[.int .i64 k, .int .i64 0, .string v] 36) (.cells #[.int .i64 0, .int .i64 0, .string ⟨#[]⟩] 36) (by rw [← hX]; exact hb))
  have HB0 := hd (Below.refl X.heap.size X)
  have hx := hd hX
  clear hX
  have n3 : (k == 3) = false := by simpa using h3
  have n4 : (k == 4) = false := by simpa using h4
  have m3 : (k != 3) = true := by simpa using h3
  have m4 : (k != 4) = true := by simpa using h4
  clear h3 h4
  by_cases hE : E = 0
  · subst hE
    by_cases h5 : k = 5
    · subst h5
      rw [if_pos ⟨rfl, rfl⟩] at HR
      by_cases hD : D = 0
      · subst hD
        go_enter Tryz.func33, Tryz.ntmps33
        go_wp2_with fail
        rw [← hx.o]
        obtain ⟨k1, k2⟩ := HC.o _ HB0.o
        have a0 := k1.at_ 0 rfl
        have a1 := k1.at_ 1 rfl
        have a2 := k1.at_ 2 rfl
        have f0 := k1.frozen 0
        have f1 := k1.frozen 1
        have f2 := k1.frozen 2
        have b0 := k2.at_ 0 rfl
        have b1 := k2.at_ 1 rfl
        have b2 := k2.at_ 2 rfl
        have g0 := k2.frozen 0
        have g1 := k2.frozen 1
        have g2 := k2.frozen 2
        have hl : w.heap.size < _ := k1.lt
        have hl2 : w.heap.size + 1 < _ := k2.lt
        have K1 := hd k1
        have K2 := hd k2
        clear k1 k2
        go_wp2_with fail
        refine (H1.o _).mono ?_
        rintro e w1 ⟨rfl, rfl⟩
        go_wp2_with fail
        refine (H2.o _).mono ?_
        rintro e w1 ⟨rfl, rfl⟩
        go_wp2_with fail
        refine (H3.o _ (HW.o _ HB0.o)).mono ?_
        rintro e w2 ⟨rfl, hb2⟩
        have HB2 := hd hb2
        clear hb2
        clear a0 a1 a2 f0 f1 f2 b0 b1 b2 g0 g1 g2 hl hl2 K1 K2
        obtain ⟨k1, k2⟩ := HC.o _ HB2.o
        have a0 := k1.at_ 0 rfl
        have a1 := k1.at_ 1 rfl
        have a2 := k1.at_ 2 rfl
        have f0 := k1.frozen 0
        have f1 := k1.frozen 1
        have f2 := k1.frozen 2
        have b0 := k2.at_ 0 rfl
        have b1 := k2.at_ 1 rfl
        have b2 := k2.at_ 2 rfl
        have g0 := k2.frozen 0
        have g1 := k2.frozen 1
        have g2 := k2.frozen 2
        have hl : w.heap.size < _ := k1.lt
        have hl2 : w.heap.size + 1 < _ := k2.lt
        have K1 := hd k1
        have K2 := hd k2
        clear k1 k2
        go_wp2_with fail
        refine (H4.o _ (HW.o _ HB2.o)).mono ?_
        rintro e w3 ⟨rfl, hb3⟩
        have HB3 := hd (HB2.o.trans (hb3.mono HB2.o.size))
        clear hb3
        clear a0 a1 a2 f0 f1 f2 b0 b1 b2 g0 g1 g2 hl hl2 K1 K2
        obtain ⟨k1, k2⟩ := HC.o _ HB3.o
        have a0 := k1.at_ 0 rfl
        have a1 := k1.at_ 1 rfl
        have a2 := k1.at_ 2 rfl
        have f0 := k1.frozen 0
        have f1 := k1.frozen 1
        have f2 := k1.frozen 2
        have b0 := k2.at_ 0 rfl
        have b1 := k2.at_ 1 rfl
        have b2 := k2.at_ 2 rfl
        have g0 := k2.frozen 0
        have g1 := k2.frozen 1
        have g2 := k2.frozen 2
        have hl : w.heap.size < _ := k1.lt
        have hl2 : w.heap.size + 1 < _ := k2.lt
        have K1 := hd k1
        have K2 := hd k2
        clear k1 k2
        go_wp2
        (try simp only [Exit.inBlock, Exit.then])
        refine bodyPost_ret (res_cell rfl _ _ _ _ _ _ _ rfl ((((K2.o.far (by show w.heap.size + 1 ≠ w.heap.size; omega) _).set_ 0 _).set_ 1 _).set_ 2 _) rfl rfl rfl) rfl ⟨?_, ?_⟩
        · exact retF (f := ⟨5, 0, T⟩) (a := 0) (by rw [HR.o, resF_0]) (by rw [HR.o])
        · exact (((((HW.o _ HB3.o).setCell (Nat.le_refl _) _).setCell (Nat.le_succ _) _).setCell (Nat.le_succ _) _).setCell (Nat.le_succ _) _)
      · have nE : (D != 0) = true := by simpa using hD
        have eE : (D == 0) = false := by simpa using hD
        have HE := hd hD
        clear hD
        go_enter Tryz.func33, Tryz.ntmps33
        go_wp2_with fail
        rw [← hx.o]
        obtain ⟨k1, k2⟩ := HC.o _ HB0.o
        have a0 := k1.at_ 0 rfl
        have a1 := k1.at_ 1 rfl
        have a2 := k1.at_ 2 rfl
        have f0 := k1.frozen 0
        have f1 := k1.frozen 1
        have f2 := k1.frozen 2
        have b0 := k2.at_ 0 rfl
        have b1 := k2.at_ 1 rfl
        have b2 := k2.at_ 2 rfl
        have g0 := k2.frozen 0
        have g1 := k2.frozen 1
        have g2 := k2.frozen 2
        have hl : w.heap.size < _ := k1.lt
        have hl2 : w.heap.size + 1 < _ := k2.lt
        have K1 := hd k1
        have K2 := hd k2
        clear k1 k2
        go_wp2_with fail
        refine (H1.o _).mono ?_
        rintro e w1 ⟨rfl, rfl⟩
        go_wp2_with fail
        refine (H2.o _).mono ?_
        rintro e w1 ⟨rfl, rfl⟩
        go_wp2_with fail
        refine (H3.o _ (HW.o _ HB0.o)).mono ?_
        rintro e w2 ⟨rfl, hb2⟩
        have HB2 := hd hb2
        clear hb2
        clear a0 a1 a2 f0 f1 f2 b0 b1 b2 g0 g1 g2 hl hl2 K1 K2
        obtain ⟨k1, k2⟩ := HC.o _ HB2.o
        have a0 := k1.at_ 0 rfl
        have a1 := k1.at_ 1 rfl
        have a2 := k1.at_ 2 rfl
        have f0 := k1.frozen 0
        have f1 := k1.frozen 1
        have f2 := k1.frozen 2
        have b0 := k2.at_ 0 rfl
        have b1 := k2.at_ 1 rfl
        have b2 := k2.at_ 2 rfl
        have g0 := k2.frozen 0
        have g1 := k2.frozen 1
        have g2 := k2.frozen 2
        have hl : w.heap.size < _ := k1.lt
        have hl2 : w.heap.size + 1 < _ := k2.lt
        have K1 := hd k1
        have K2 := hd k2
        clear k1 k2
        go_wp2_with fail
        refine (H4.o _ (HW.o _ HB2.o)).mono ?_
        rintro e w3 ⟨rfl, hb3⟩
        have HB3 := hd (HB2.o.trans (hb3.mono HB2.o.size))
        clear hb3
        clear a0 a1 a2 f0 f1 f2 b0 b1 b2 g0 g1 g2 hl hl2 K1 K2
        obtain ⟨k1, k2⟩ := HC.o _ HB3.o
        have a0 := k1.at_ 0 rfl
        have a1 := k1.at_ 1 rfl
        have a2 := k1.at_ 2 rfl
        have f0 := k1.frozen 0
        have f1 := k1.frozen 1
        have f2 := k1.frozen 2
        have b0 := k2.at_ 0 rfl
        have b1 := k2.at_ 1 rfl
        have b2 := k2.at_ 2 rfl
        have g0 := k2.frozen 0
        have g1 := k2.frozen 1
        have g2 := k2.frozen 2
        have hl : w.heap.size < _ := k1.lt
        have hl2 : w.heap.size + 1 < _ := k2.lt
        have K1 := hd k1
        have K2 := hd k2
        clear k1 k2
        go_wp2
        (try simp only [Exit.inBlock, Exit.then])
        refine bodyPost_ret (res_cell rfl _ _ _ _ _ _ _ rfl (((K2.o.set_ 0 _).set_ 1 _).set_ 2 _) rfl rfl rfl) rfl ⟨?_, ?_⟩
        · exact retF (f := noFld) (a := D) (by rw [HR.o, resF_e _ HE.o]) (by rw [HR.o])
        · exact ((((HW.o _ HB3.o).setCell (Nat.le_succ _) _).setCell (Nat.le_succ _) _).setCell (Nat.le_succ _) _)
    · rw [if_neg (fun h => h5 h.2)] at HR
      have n5 : (k == 5) = false := by simpa using h5
      clear h5 H4
      go_enter Tryz.func33, Tryz.ntmps33
      go_wp2_with fail
      rw [← hx.o]
      obtain ⟨k1, k2⟩ := HC.o _ HB0.o
      have a0 := k1.at_ 0 rfl
      have a1 := k1.at_ 1 rfl
      have a2 := k1.at_ 2 rfl
      have f0 := k1.frozen 0
      have f1 := k1.frozen 1
      have f2 := k1.frozen 2
      have b0 := k2.at_ 0 rfl
      have b1 := k2.at_ 1 rfl
      have b2 := k2.at_ 2 rfl
      have g0 := k2.frozen 0
      have g1 := k2.frozen 1
      have g2 := k2.frozen 2
      have hl : w.heap.size < _ := k1.lt
      have hl2 : w.heap.size + 1 < _ := k2.lt
      have K1 := hd k1
      have K2 := hd k2
      clear k1 k2
      go_wp2_with fail
      refine (H1.o _).mono ?_
      rintro e w1 ⟨rfl, rfl⟩
      go_wp2_with fail
      refine (H2.o _).mono ?_
      rintro e w1 ⟨rfl, rfl⟩
      go_wp2_with fail
      refine (H3.o _ (HW.o _ HB0.o)).mono ?_
      rintro e w2 ⟨rfl, hb2⟩
      have HB2 := hd hb2
      clear hb2
      clear a0 a1 a2 f0 f1 f2 b0 b1 b2 g0 g1 g2 hl hl2 K1 K2
      obtain ⟨k1, k2⟩ := HC.o _ HB2.o
      have a0 := k1.at_ 0 rfl
      have a1 := k1.at_ 1 rfl
      have a2 := k1.at_ 2 rfl
      have f0 := k1.frozen 0
      have f1 := k1.frozen 1
      have f2 := k1.frozen 2
      have b0 := k2.at_ 0 rfl
      have b1 := k2.at_ 1 rfl
      have b2 := k2.at_ 2 rfl
      have g0 := k2.frozen 0
      have g1 := k2.frozen 1
      have g2 := k2.frozen 2
      have hl : w.heap.size < _ := k1.lt
      have hl2 : w.heap.size + 1 < _ := k2.lt
      have K1 := hd k1
      have K2 := hd k2
      clear k1 k2
      go_wp2
      (try simp only [Exit.inBlock, Exit.then])
      refine bodyPost_ret (res_cell rfl _ _ _ _ _ _ _ rfl ((((K2.o.far (by show w.heap.size + 1 ≠ w.heap.size; omega) _).set_ 0 _).set_ 1 _).set_ 2 _) rfl rfl rfl) rfl ⟨?_, ?_⟩
      · exact retF (f := ⟨k, 0, T⟩) (a := 0) (by rw [HR.o, resF_0]) (by rw [HR.o])
      · exact (((((HW.o _ HB2.o).setCell (Nat.le_refl _) _).setCell (Nat.le_succ _) _).setCell (Nat.le_succ _) _).setCell (Nat.le_succ _) _)
  · rw [if_neg (fun h => hE h.1)] at HR
    have nE : (E != 0) = true := by simpa using hE
    have eE : (E == 0) = false := by simpa using hE
    have HE := hd hE
    clear hE H4
    go_enter Tryz.func33, Tryz.ntmps33
    go_wp2_with fail
    rw [← hx.o]
    obtain ⟨k1, k2⟩ := HC.o _ HB0.o
    have a0 := k1.at_ 0 rfl
    have a1 := k1.at_ 1 rfl
    have a2 := k1.at_ 2 rfl
    have f0 := k1.frozen 0
    have f1 := k1.frozen 1
    have f2 := k1.frozen 2
    have b0 := k2.at_ 0 rfl
    have b1 := k2.at_ 1 rfl
    have b2 := k2.at_ 2 rfl
    have g0 := k2.frozen 0
    have g1 := k2.frozen 1
    have g2 := k2.frozen 2
    have hl : w.heap.size < _ := k1.lt
    have hl2 : w.heap.size + 1 < _ := k2.lt
    have K1 := hd k1
    have K2 := hd k2
    clear k1 k2
    go_wp2_with fail
    refine (H1.o _).mono ?_
    rintro e w1 ⟨rfl, rfl⟩
    go_wp2_with fail
    refine (H2.o _).mono ?_
    rintro e w1 ⟨rfl, rfl⟩
    go_wp2_with fail
    refine (H3.o _ (HW.o _ HB0.o)).mono ?_
    rintro e w2 ⟨rfl, hb2⟩
    have HB2 := hd hb2
    clear hb2
    clear a0 a1 a2 f0 f1 f2 b0 b1 b2 g0 g1 g2 hl hl2 K1 K2
    obtain ⟨k1, k2⟩ := HC.o _ HB2.o
    have a0 := k1.at_ 0 rfl
    have a1 := k1.at_ 1 rfl
    have a2 := k1.at_ 2 rfl
    have f0 := k1.frozen 0
    have f1 := k1.frozen 1
    have f2 := k1.frozen 2
    have b0 := k2.at_ 0 rfl
    have b1 := k2.at_ 1 rfl
    have b2 := k2.at_ 2 rfl
    have g0 := k2.frozen 0
    have g1 := k2.frozen 1
    have g2 := k2.frozen 2
    have hl : w.heap.size < _ := k1.lt
    have hl2 : w.heap.size + 1 < _ := k2.lt
    have K1 := hd k1
    have K2 := hd k2
    clear k1 k2
    go_wp2
    (try simp only [Exit.inBlock, Exit.then])
    refine bodyPost_ret (res_cell rfl _ _ _ _ _ _ _ rfl (((K2.o.set_ 0 _).set_ 1 _).set_ 2 _) rfl rfl rfl) rfl ⟨?_, ?_⟩
    · exact retF (f := noFld) (a := E) (by rw [HR.o, resF_e _ HE.o]) (by rw [HR.o])
    · exact ((((HW.o _ HB2.o).setCell (Nat.le_succ _) _).setCell (Nat.le_succ _) _).setCell (Nat.le_succ _) _)

end Go.Proofs.YtpejlcaoggedfaaGreatDoor
