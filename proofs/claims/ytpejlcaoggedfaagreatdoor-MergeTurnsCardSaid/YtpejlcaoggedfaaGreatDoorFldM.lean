/-
  Fields: what may be, over the canonical field.
-/
import Derived.Test.YtpejlcaoggedfaaGreatDoorFldC
set_option linter.unusedVariables false
set_option linter.unusedSimpArgs false
namespace Go.Proofs.YtpejlcaoggedfaaGreatDoor
open Go.RowKit

theorem bs_toL (l : List UInt8) : (bs l).toList = l := by rw [Lib.toList_data]; rfl
structure EqI (v : Bool) (E : Int) (f g : Fld) : Prop where
  o : v = true ↔ E = 0 ∧ g.k = f.k ∧ g.l = f.l ∧ g.v = f.v
theorem eqF_iff {v : Bool} {E gk gl fk fl : Int} {gv fv : List UInt8} (h : v = decide (E = 0 ∧ (⟨gk, gl, gv⟩ : Fld) = ⟨fk, fl, fv⟩)) : EqI v E ⟨fk, fl, fv⟩ ⟨gk, gl, gv⟩ := ⟨by
  rw [h]; simp⟩

set_option maxHeartbeats 1000000 in
theorem may_of (f g : Fld) (E : Int) (w : World) (C : Hd (∀ W, Below w.heap.size w W → Calls Tryz.prog 33 #[fldV f] W fun e w' => e = .returned (fldR g E) ∧ Below W.heap.size W w')) :
    Calls Tryz.prog 94 #[fldV f] w fun e w' => e = .returned (.bool (decide (E = 0 ∧ g = f))) ∧ Below w.heap.size w w' := by
  obtain ⟨v, hv⟩ : ∃ v, decide (E = 0 ∧ g = f) = v := ⟨_, rfl⟩
  rw [hv]
  obtain ⟨fk, fl, fv⟩ := f
  obtain ⟨gk, gl, gv⟩ := g
  have HV := eqF_iff (E := E) (gk := gk) (gl := gl) (fk := fk) (fl := fl) (gv := gv) (fv := fv) hv.symm
  clear hv
  simp only [fldR, fldV] at C
  change Calls _ _ #[.agg #[.int .i64 fk, .int .i64 fl, .string (bs fv)]] _ _
  have HB0 := hd ((Below.refl w.heap.size w).alloc (Nat.le_refl _) (.cells #[.int .i64 fk, .int .i64 fl, .string (bs fv)] 36))
  have HK := hd (Blk.new w 36 #[.int .i64 fk, .int .i64 fl, .string (bs fv)])
  by_cases hE : E = 0
  · subst hE
    go_enter Tryz.func94, Tryz.ntmps94
    go_wp2_with fail
    refine (C.o _ HB0.o).mono ?_
    rintro e w1 ⟨rfl, hb1⟩
    have k1 := HK.o.below hb1 (by simp)
    have HB1 := hd (HB0.o.trans (hb1.mono HB0.o.size))
    have a0 := k1.at_ 0 rfl
    have a1 := k1.at_ 1 rfl
    have a2 := k1.at_ 2 rfl
    have hl : w.heap.size < w1.heap.size := k1.lt
    clear k1 hb1 HK HB0 C
    go_wp2
    all_goals
      ((try simp only [bs_toL] at *)
       go_ret
       first
         | exact ⟨retBB (HV.o.2 ⟨rfl, by first | rfl | assumption, by first | rfl | assumption, by first | rfl | assumption⟩).symm, HB1.o.alloc HB1.o.size _⟩
         | exact ⟨retBB (Bool.eq_false_iff.2 fun h => by obtain ⟨_, i1, i2, i3⟩ := HV.o.1 h; first | contradiction | (exact absurd i1 (by assumption)) | (exact absurd i2 (by assumption)) | (exact absurd i3 (by assumption))).symm, HB1.o.alloc HB1.o.size _⟩)
  · have n0 : (E == 0) = false := by simpa using hE
    have HX := hd (Bool.eq_false_iff.2 fun h => hE (HV.o.1 h).1)
    clear hE
    go_enter Tryz.func94, Tryz.ntmps94
    go_wp2_with fail
    refine (C.o _ HB0.o).mono ?_
    rintro e w1 ⟨rfl, hb1⟩
    have HB1 := hd (HB0.o.trans (hb1.mono HB0.o.size))
    clear hb1 HK HB0 C
    go_wp2

    go_ret
    exact ⟨retBB HX.o.symm, HB1.o.alloc HB1.o.size _⟩

set_option maxHeartbeats 1000000 in
theorem rmay_of (f g : Fld) (E : Int) (w : World) (C : Hd (∀ W, Below w.heap.size w W → Calls Tryz.prog 38 #[fldV f] W fun e w' => e = .returned (fldR g E) ∧ Below W.heap.size W w')) :
    Calls Tryz.prog 72 #[fldV f] w fun e w' => e = .returned (.bool (decide (E = 0 ∧ g = f))) ∧ Below w.heap.size w w' := by
  obtain ⟨v, hv⟩ : ∃ v, decide (E = 0 ∧ g = f) = v := ⟨_, rfl⟩
  rw [hv]
  obtain ⟨fk, fl, fv⟩ := f
  obtain ⟨gk, gl, gv⟩ := g
  have HV := eqF_iff (E := E) (gk := gk) (gl := gl) (fk := fk) (fl := fl) (gv := gv) (fv := fv) hv.symm
  clear hv
  simp only [fldR, fldV] at C
  change Calls _ _ #[.agg #[.int .i64 fk, .int .i64 fl, .string (bs fv)]] _ _
  have HB0 := hd ((Below.refl w.heap.size w).alloc (Nat.le_refl _) (.cells #[.int .i64 fk, .int .i64 fl, .string (bs fv)] 36))
  have HK := hd (Blk.new w 36 #[.int .i64 fk, .int .i64 fl, .string (bs fv)])
  by_cases hE : E = 0
  · subst hE
    go_enter Tryz.func72, Tryz.ntmps72
    go_wp2_with fail
    refine (C.o _ HB0.o).mono ?_
    rintro e w1 ⟨rfl, hb1⟩
    have k1 := HK.o.below hb1 (by simp)
    have HB1 := hd (HB0.o.trans (hb1.mono HB0.o.size))
    have a0 := k1.at_ 0 rfl
    have a1 := k1.at_ 1 rfl
    have a2 := k1.at_ 2 rfl
    have hl : w.heap.size < w1.heap.size := k1.lt
    clear k1 hb1 HK HB0 C
    go_wp2
    all_goals
      ((try simp only [bs_toL] at *)
       go_ret
       first
         | exact ⟨retBB (HV.o.2 ⟨rfl, by first | rfl | assumption, by first | rfl | assumption, by first | rfl | assumption⟩).symm, HB1.o.alloc HB1.o.size _⟩
         | exact ⟨retBB (Bool.eq_false_iff.2 fun h => by obtain ⟨_, i1, i2, i3⟩ := HV.o.1 h; first | contradiction | (exact absurd i1 (by assumption)) | (exact absurd i2 (by assumption)) | (exact absurd i3 (by assumption))).symm, HB1.o.alloc HB1.o.size _⟩)
  · have n0 : (E == 0) = false := by simpa using hE
    have HX := hd (Bool.eq_false_iff.2 fun h => hE (HV.o.1 h).1)
    clear hE
    go_enter Tryz.func72, Tryz.ntmps72
    go_wp2_with fail
    refine (C.o _ HB0.o).mono ?_
    rintro e w1 ⟨rfl, hb1⟩
    have HB1 := hd (HB0.o.trans (hb1.mono HB0.o.size))
    clear hb1 HK HB0 C
    go_wp2

    go_ret
    exact ⟨retBB HX.o.symm, HB1.o.alloc HB1.o.size _⟩

end Go.Proofs.YtpejlcaoggedfaaGreatDoor
