/-
  Fields: the law that what is shown is parsed back.
-/
import Derived.Test.YtpejlcaoggedfaaDoorFldT
set_option linter.unusedVariables false
set_option linter.unusedSimpArgs false
namespace Go.Proofs.YtpejlcaoggedfaaDoor
open Go.RowKit

theorem fldC_kl {f : Fld} (h : fldE f = 0) : fldC f = ⟨f.k, f.l, valT f.k f.v⟩ := by rw [fldC, if_pos h]
theorem may_not {f : Fld} (h : fldE f ≠ 0) : ¬ MayF f := fun m => h m.1

set_option maxRecDepth 100000 in
set_option maxHeartbeats 8000000 in
theorem fback_calls (f : Fld) (s : ByteArray) (w : World) (ht : Tbs w) (h1 : f.v.length ≤ maxLen) (h3 : s.size ≤ maxLen) : Calls Tryd.prog 3 #[fldV f, .string s] w fun e w' => e = .returned (.bool true) ∧ Below w.heap.size w w' := by
  have F1 := hd (fun W (h : Below w.heap.size w W) => ffirst_calls W (ht.below h))
  have HT := hd (fun W (h : Below w.heap.size w W) => ht.below h)
  clear ht
  rw [← bs_size] at h1
  have hbox : ∃ FV, bs f.v = FV := ⟨_, rfl⟩
  obtain ⟨FV, hFV⟩ := hbox
  obtain ⟨X, hX⟩ : ∃ X, X = w.alloc (.cells #[.int .i64 f.k, .int .i64 f.l, .string FV] 23) := ⟨_, rfl⟩
  have HC := hd (fun W (hb : Below X.heap.size X W) => (show Blk X w.heap.size 23 #[.int .i64 f.k, .int .i64 f.l, .string FV] by rw [hX]; exact Blk.new _ _ _).below hb (by rw [hX]; simp))
  have HW := hd (fun W (hb : Below X.heap.size X W) => ((by rw [hX]; exact (Below.refl _ w).alloc (Nat.le_refl _) _ : Below w.heap.size w X)).trans (hb.mono (by rw [hX]; simp)))
  have hx := hd hX
  clear hX
  by_cases s1 : 300 < FV.size ∨ 300 < s.size
  · have hFV' := hFV
    obtain ⟨k, l, v⟩ := f
    simp only at hFV' HC hx
    rw [hFV] at h1
    change Calls _ _ #[.agg #[.int .i64 k, .int .i64 l, .string (bs v)], _] _ _
    rw [hFV']
    clear hFV hFV'
    rcases Nat.lt_or_ge 300 FV.size with s2 | s2
    all_goals
      (try (have s3 : 300 < s.size := by omega)
       go_enter Tryd.func3, Tryd.ntmps3
       go_wp2_with fail
       rw [← hx.o]
       refine (F1.o X (HW.o X (Below.refl _ X))).mono ?_
       rintro e0 w1 ⟨rfl, hb1⟩
       have HB1 := hd hb1
       have k1 := HC.o _ HB1.o
       have a0 := k1.at_ 0 rfl
       have a1 := k1.at_ 1 rfl
       have a2 := k1.at_ 2 rfl
       clear k1 hb1 s1
       go_wp2_with fail
       refine (F1.o _ (HW.o _ HB1.o)).mono ?_
       rintro e0 w2 ⟨rfl, hb2⟩
       go_wp2
       go_ret
       exact ⟨rfl, HW.o _ (HB1.o.trans (hb2.mono HB1.o.size))⟩)
  have s2 : ¬ 300 < FV.size := fun h => s1 (.inl h)
  have s3 : ¬ 300 < s.size := fun h => s1 (.inr h)
  have hF : f.v.length ≤ 1000000 := by rw [← bs_size, hFV]; omega
  have hS : s.size ≤ 1000000 := by omega
  clear s1
  have Z1 := fcanon_calls f hF
  have Z2 := fmay_calls f hF
  have Z3 := fline_calls f hF
  have Z4 := fparse_calls s hS
  have HF0 := hd (fun h : fldE f = 0 => fldC_kl h)
  have HM0 := hd (fun h : fldE f = 0 => fldC_may h)
  have HN0 := hd (fun h : fldE f ≠ 0 => And.intro (fldC_no h) (may_not h))
  rcases par_or s.data.toList with ⟨p, hp, e1, e2⟩ | ⟨hp, e1, e2⟩
  · rw [e1, e2] at Z4
    have hpl := may_len hp.1
    have Z5 := fline_calls p (by omega)
    have Z6 := fmay_calls p (by omega)
    rw [found_line hp, bs_self] at Z5
    rw [mayF_t hp.1] at Z6
    clear hp e1 e2 hpl
    obtain ⟨pk, pl, pv⟩ := p
    simp only [fldV, fldR] at Z4 Z5 Z6
    generalize bs pv = PV at Z4 Z5 Z6
    have T4 := hd (fun W (h : Below w.heap.size w W) => Z4 W (HT.o W h))
    have T5 := hd (fun W (h : Below w.heap.size w W) => Z5 W (HT.o W h))
    have T6 := hd (fun W (h : Below w.heap.size w W) => Z6 W (HT.o W h))
    clear Z4 Z5 Z6
    by_cases hE : fldE f = 0
    · have hc := HF0.o hE
      have hm := HM0.o hE
      have hml := may_len hm
      have hrl := raw_len hm
      have Z7 := fcanon_calls (fldC f) (by omega)
      have Z8 := fline_calls (fldC f) (by omega)
      have Z9 := fparse_calls (bs (rawL (fldC f))) (by rw [bs_size]; omega)
      have Z10 := fmay_calls (fldC f) (by omega)
      rw [may_fldC hm, hm.1] at Z7
      rw [line_yes hm] at Z8
      rw [bs_data, (par_yes (s := rawL (fldC f)) ⟨hm, rfl⟩).1, (par_yes (s := rawL (fldC f)) ⟨hm, rfl⟩).2] at Z9
      rw [mayF_t hm] at Z10
      rw [hE] at Z1
      generalize bs (rawL (fldC f)) = LA at Z8 Z9
      rw [hc] at Z1 Z7 Z8 Z9 Z10
      clear hm hml hrl hc hE HF0 HM0 HN0 Z2 Z3
      obtain ⟨k, l, v⟩ := f
      simp only [fldV, fldR] at *
      generalize bs (valT k v) = CV at *
      rw [hFV] at Z1 h1 ⊢
      clear hF hFV
      have T1 := hd (fun W (h : Below w.heap.size w W) => Z1 W (HT.o W h))
      clear Z1
      have T7 := hd (fun W (h : Below w.heap.size w W) => Z7 W (HT.o W h))
      clear Z7
      have T8 := hd (fun W (h : Below w.heap.size w W) => Z8 W (HT.o W h))
      clear Z8
      have T9 := hd (fun W (h : Below w.heap.size w W) => Z9 W (HT.o W h))
      clear Z9
      have T10 := hd (fun W (h : Below w.heap.size w W) => Z10 W (HT.o W h))
      clear Z10
      go_enter Tryd.func3, Tryd.ntmps3
      go_wp2_with fail
      rw [← hx.o]
      refine (F1.o X (HW.o X (Below.refl _ X))).mono ?_
      rintro e0 w1 ⟨rfl, hb1⟩
      have HB1 := hd hb1
      clear hb1
      have k1 := HC.o _ HB1.o
      have a0 := k1.at_ 0 rfl
      have a1 := k1.at_ 1 rfl
      have a2 := k1.at_ 2 rfl
      clear k1
      go_wp2_with fail
      clear a0 a1 a2
      refine (T4.o _ (HW.o _ HB1.o)).mono ?_
      rintro e0 w2 ⟨rfl, hb2⟩
      have HB2 := hd (HB1.o.trans (hb2.mono HB1.o.size))
      clear hb2
      obtain ⟨Y3, hY3⟩ : ∃ Y, Y = w2.alloc (.cells #[.int .i64 pk, .int .i64 pl, .string PV] 23) := ⟨_, rfl⟩
      have HB3 := hd (show Below X.heap.size X Y3 by rw [hY3]; exact HB2.o.alloc HB2.o.size _)
      obtain ⟨g5, hg5⟩ : ∃ g, g = w2.heap.size := ⟨_, rfl⟩
      have Hg5 := hd (show Blk Y3 g5 23 #[.int .i64 pk, .int .i64 pl, .string PV] by rw [hY3]; exact Blk.new_ _ _ hg5 _ _)
      have k1 := HC.o _ HB3.o
      have a0 := k1.at_ 0 rfl
      have a1 := k1.at_ 1 rfl
      have a2 := k1.at_ 2 rfl
      clear k1
      have g50 := Hg5.o.at_ 0 rfl
      have g51 := Hg5.o.at_ 1 rfl
      have g52 := Hg5.o.at_ 2 rfl
      rw [hY3] at a0 a1 a2 g50 g51 g52
      rw [hg5] at g50 g51 g52
      go_wp2_with fail
      rw [← hY3, ← hg5]
      rw [← hY3] at a0 a1 a2 g50 g51 g52
      rw [← hg5] at g50 g51 g52
      clear hY3 hg5
      clear a0 a1 a2 g50 g51 g52
      refine (T5.o _ (HW.o _ HB3.o)).mono ?_
      rintro e0 w4 ⟨rfl, hb4⟩
      have HB4 := hd (HB3.o.trans (hb4.mono HB3.o.size))
      replace Hg5 := hd (Hg5.o.below hb4 (Blk.lt Hg5.o))
      clear hb4
      have k1 := HC.o _ HB4.o
      have a0 := k1.at_ 0 rfl
      have a1 := k1.at_ 1 rfl
      have a2 := k1.at_ 2 rfl
      clear k1
      have g50 := Hg5.o.at_ 0 rfl
      have g51 := Hg5.o.at_ 1 rfl
      have g52 := Hg5.o.at_ 2 rfl
      go_wp2_with fail
      clear a0 a1 a2 g50 g51 g52
      refine (T6.o _ (HW.o _ HB4.o)).mono ?_
      rintro e0 w5 ⟨rfl, hb5⟩
      have HB5 := hd (HB4.o.trans (hb5.mono HB4.o.size))
      replace Hg5 := hd (Hg5.o.below hb5 (Blk.lt Hg5.o))
      clear hb5
      have k1 := HC.o _ HB5.o
      have a0 := k1.at_ 0 rfl
      have a1 := k1.at_ 1 rfl
      have a2 := k1.at_ 2 rfl
      clear k1
      have g50 := Hg5.o.at_ 0 rfl
      have g51 := Hg5.o.at_ 1 rfl
      have g52 := Hg5.o.at_ 2 rfl
      go_wp2_with fail
      clear a0 a1 a2 g50 g51 g52
      refine (T1.o _ (HW.o _ HB5.o)).mono ?_
      rintro e0 w6 ⟨rfl, hb6⟩
      have HB6 := hd (HB5.o.trans (hb6.mono HB5.o.size))
      replace Hg5 := hd (Hg5.o.below hb6 (Blk.lt Hg5.o))
      clear hb6
      obtain ⟨Y7, hY7⟩ : ∃ Y, Y = w6.alloc (.cells #[.int .i64 k, .int .i64 l, .string CV] 23) := ⟨_, rfl⟩
      have HB7 := hd (show Below X.heap.size X Y7 by rw [hY7]; exact HB6.o.alloc HB6.o.size _)
      obtain ⟨g7, hg7⟩ : ∃ g, g = w6.heap.size := ⟨_, rfl⟩
      have Hg7 := hd (show Blk Y7 g7 23 #[.int .i64 k, .int .i64 l, .string CV] by rw [hY7]; exact Blk.new_ _ _ hg7 _ _)
      replace Hg5 := hd (show Blk Y7 g5 23 _ by rw [hY7]; exact Hg5.o.alloc _)
      have k1 := HC.o _ HB7.o
      have a0 := k1.at_ 0 rfl
      have a1 := k1.at_ 1 rfl
      have a2 := k1.at_ 2 rfl
      clear k1
      have g50 := Hg5.o.at_ 0 rfl
      have g51 := Hg5.o.at_ 1 rfl
      have g52 := Hg5.o.at_ 2 rfl
      have g70 := Hg7.o.at_ 0 rfl
      have g71 := Hg7.o.at_ 1 rfl
      have g72 := Hg7.o.at_ 2 rfl
      rw [hY7] at a0 a1 a2 g50 g51 g52 g70 g71 g72
      rw [hg7] at g70 g71 g72
      go_wp2_with fail
      rw [← hY7, ← hg7]
      rw [← hY7] at a0 a1 a2 g50 g51 g52 g70 g71 g72
      rw [← hg7] at g70 g71 g72
      clear hY7 hg7
      clear a0 a1 a2 g50 g51 g52 g70 g71 g72
      refine (T7.o _ (HW.o _ HB7.o)).mono ?_
      rintro e0 w8 ⟨rfl, hb8⟩
      have HB8 := hd (HB7.o.trans (hb8.mono HB7.o.size))
      replace Hg5 := hd (Hg5.o.below hb8 (Blk.lt Hg5.o))
      replace Hg7 := hd (Hg7.o.below hb8 (Blk.lt Hg7.o))
      clear hb8
      obtain ⟨Y9, hY9⟩ : ∃ Y, Y = w8.alloc (.cells #[.int .i64 k, .int .i64 l, .string CV] 23) := ⟨_, rfl⟩
      have HB9 := hd (show Below X.heap.size X Y9 by rw [hY9]; exact HB8.o.alloc HB8.o.size _)
      obtain ⟨g9, hg9⟩ : ∃ g, g = w8.heap.size := ⟨_, rfl⟩
      have Hg9 := hd (show Blk Y9 g9 23 #[.int .i64 k, .int .i64 l, .string CV] by rw [hY9]; exact Blk.new_ _ _ hg9 _ _)
      replace Hg5 := hd (show Blk Y9 g5 23 _ by rw [hY9]; exact Hg5.o.alloc _)
      replace Hg7 := hd (show Blk Y9 g7 23 _ by rw [hY9]; exact Hg7.o.alloc _)
      have k1 := HC.o _ HB9.o
      have a0 := k1.at_ 0 rfl
      have a1 := k1.at_ 1 rfl
      have a2 := k1.at_ 2 rfl
      clear k1
      have g50 := Hg5.o.at_ 0 rfl
      have g51 := Hg5.o.at_ 1 rfl
      have g52 := Hg5.o.at_ 2 rfl
      have g70 := Hg7.o.at_ 0 rfl
      have g71 := Hg7.o.at_ 1 rfl
      have g72 := Hg7.o.at_ 2 rfl
      have g90 := Hg9.o.at_ 0 rfl
      have g91 := Hg9.o.at_ 1 rfl
      have g92 := Hg9.o.at_ 2 rfl
      rw [hY9] at a0 a1 a2 g50 g51 g52 g70 g71 g72 g90 g91 g92
      rw [hg9] at g90 g91 g92
      go_wp2_with fail
      rw [← hY9, ← hg9]
      rw [← hY9] at a0 a1 a2 g50 g51 g52 g70 g71 g72 g90 g91 g92
      rw [← hg9] at g90 g91 g92
      clear hY9 hg9
      clear a0 a1 a2 g50 g51 g52 g70 g71 g72 g90 g91 g92
      refine (T8.o _ (HW.o _ HB9.o)).mono ?_
      rintro e0 w10 ⟨rfl, hb10⟩
      have HB10 := hd (HB9.o.trans (hb10.mono HB9.o.size))
      replace Hg5 := hd (Hg5.o.below hb10 (Blk.lt Hg5.o))
      replace Hg7 := hd (Hg7.o.below hb10 (Blk.lt Hg7.o))
      replace Hg9 := hd (Hg9.o.below hb10 (Blk.lt Hg9.o))
      clear hb10
      have k1 := HC.o _ HB10.o
      have a0 := k1.at_ 0 rfl
      have a1 := k1.at_ 1 rfl
      have a2 := k1.at_ 2 rfl
      clear k1
      have g50 := Hg5.o.at_ 0 rfl
      have g51 := Hg5.o.at_ 1 rfl
      have g52 := Hg5.o.at_ 2 rfl
      have g70 := Hg7.o.at_ 0 rfl
      have g71 := Hg7.o.at_ 1 rfl
      have g72 := Hg7.o.at_ 2 rfl
      have g90 := Hg9.o.at_ 0 rfl
      have g91 := Hg9.o.at_ 1 rfl
      have g92 := Hg9.o.at_ 2 rfl
      go_wp2_with fail
      clear a0 a1 a2 g50 g51 g52 g70 g71 g72 g90 g91 g92
      refine (T9.o _ (HW.o _ HB10.o)).mono ?_
      rintro e0 w11 ⟨rfl, hb11⟩
      have HB11 := hd (HB10.o.trans (hb11.mono HB10.o.size))
      replace Hg5 := hd (Hg5.o.below hb11 (Blk.lt Hg5.o))
      replace Hg7 := hd (Hg7.o.below hb11 (Blk.lt Hg7.o))
      replace Hg9 := hd (Hg9.o.below hb11 (Blk.lt Hg9.o))
      clear hb11
      obtain ⟨Y12, hY12⟩ : ∃ Y, Y = w11.alloc (.cells #[.int .i64 k, .int .i64 l, .string CV] 23) := ⟨_, rfl⟩
      have HB12 := hd (show Below X.heap.size X Y12 by rw [hY12]; exact HB11.o.alloc HB11.o.size _)
      obtain ⟨g11, hg11⟩ : ∃ g, g = w11.heap.size := ⟨_, rfl⟩
      have Hg11 := hd (show Blk Y12 g11 23 #[.int .i64 k, .int .i64 l, .string CV] by rw [hY12]; exact Blk.new_ _ _ hg11 _ _)
      replace Hg5 := hd (show Blk Y12 g5 23 _ by rw [hY12]; exact Hg5.o.alloc _)
      replace Hg7 := hd (show Blk Y12 g7 23 _ by rw [hY12]; exact Hg7.o.alloc _)
      replace Hg9 := hd (show Blk Y12 g9 23 _ by rw [hY12]; exact Hg9.o.alloc _)
      have k1 := HC.o _ HB12.o
      have a0 := k1.at_ 0 rfl
      have a1 := k1.at_ 1 rfl
      have a2 := k1.at_ 2 rfl
      clear k1
      have g50 := Hg5.o.at_ 0 rfl
      have g51 := Hg5.o.at_ 1 rfl
      have g52 := Hg5.o.at_ 2 rfl
      have g70 := Hg7.o.at_ 0 rfl
      have g71 := Hg7.o.at_ 1 rfl
      have g72 := Hg7.o.at_ 2 rfl
      have g90 := Hg9.o.at_ 0 rfl
      have g91 := Hg9.o.at_ 1 rfl
      have g92 := Hg9.o.at_ 2 rfl
      have g110 := Hg11.o.at_ 0 rfl
      have g111 := Hg11.o.at_ 1 rfl
      have g112 := Hg11.o.at_ 2 rfl
      rw [hY12] at a0 a1 a2 g50 g51 g52 g70 g71 g72 g90 g91 g92 g110 g111 g112
      rw [hg11] at g110 g111 g112
      go_wp2_with fail
      rw [← hY12, ← hg11]
      rw [← hY12] at a0 a1 a2 g50 g51 g52 g70 g71 g72 g90 g91 g92 g110 g111 g112
      rw [← hg11] at g110 g111 g112
      clear hY12 hg11
      clear a0 a1 a2 g50 g51 g52 g70 g71 g72 g90 g91 g92 g110 g111 g112
      refine (T10.o _ (HW.o _ HB12.o)).mono ?_
      rintro e0 w13 ⟨rfl, hb13⟩
      have HB13 := hd (HB12.o.trans (hb13.mono HB12.o.size))
      replace Hg5 := hd (Hg5.o.below hb13 (Blk.lt Hg5.o))
      replace Hg7 := hd (Hg7.o.below hb13 (Blk.lt Hg7.o))
      replace Hg9 := hd (Hg9.o.below hb13 (Blk.lt Hg9.o))
      replace Hg11 := hd (Hg11.o.below hb13 (Blk.lt Hg11.o))
      clear hb13
      have k1 := HC.o _ HB13.o
      have a0 := k1.at_ 0 rfl
      have a1 := k1.at_ 1 rfl
      have a2 := k1.at_ 2 rfl
      clear k1
      have g50 := Hg5.o.at_ 0 rfl
      have g51 := Hg5.o.at_ 1 rfl
      have g52 := Hg5.o.at_ 2 rfl
      have g70 := Hg7.o.at_ 0 rfl
      have g71 := Hg7.o.at_ 1 rfl
      have g72 := Hg7.o.at_ 2 rfl
      have g90 := Hg9.o.at_ 0 rfl
      have g91 := Hg9.o.at_ 1 rfl
      have g92 := Hg9.o.at_ 2 rfl
      have g110 := Hg11.o.at_ 0 rfl
      have g111 := Hg11.o.at_ 1 rfl
      have g112 := Hg11.o.at_ 2 rfl
      go_wp2
      go_ret
      exact ⟨rfl, HW.o _ HB13.o⟩
    · obtain ⟨hc, hm⟩ := HN0.o hE
      have nE : (fldE f != 0) = true := by simpa using hE
      have nE2 : (fldE f == 0) = false := by simpa using hE
      rw [hc] at Z1
      rw [mayF_f hm] at Z2
      rw [line_no hm] at Z3
      generalize fldE f = ce at Z1 nE nE2
      clear hm hc hE HF0 HM0 HN0
      obtain ⟨k, l, v⟩ := f
      simp only [fldV, fldR, noFld] at *
      rw [hFV] at Z1 Z2 Z3 h1 ⊢
      rw [show bs [] = ⟨#[]⟩ from rfl] at Z1 Z3
      clear hF hFV
      have T1 := hd (fun W (h : Below w.heap.size w W) => Z1 W (HT.o W h))
      clear Z1
      have T2 := hd (fun W (h : Below w.heap.size w W) => Z2 W (HT.o W h))
      clear Z2
      have T3 := hd (fun W (h : Below w.heap.size w W) => Z3 W (HT.o W h))
      clear Z3
      go_enter Tryd.func3, Tryd.ntmps3
      go_wp2_with fail
      rw [← hx.o]
      refine (F1.o X (HW.o X (Below.refl _ X))).mono ?_
      rintro e0 w1 ⟨rfl, hb1⟩
      have HB1 := hd hb1
      clear hb1
      have k1 := HC.o _ HB1.o
      have a0 := k1.at_ 0 rfl
      have a1 := k1.at_ 1 rfl
      have a2 := k1.at_ 2 rfl
      clear k1
      go_wp2_with fail
      clear a0 a1 a2
      refine (T4.o _ (HW.o _ HB1.o)).mono ?_
      rintro e0 w2 ⟨rfl, hb2⟩
      have HB2 := hd (HB1.o.trans (hb2.mono HB1.o.size))
      clear hb2
      obtain ⟨Y3, hY3⟩ : ∃ Y, Y = w2.alloc (.cells #[.int .i64 pk, .int .i64 pl, .string PV] 23) := ⟨_, rfl⟩
      have HB3 := hd (show Below X.heap.size X Y3 by rw [hY3]; exact HB2.o.alloc HB2.o.size _)
      obtain ⟨g5, hg5⟩ : ∃ g, g = w2.heap.size := ⟨_, rfl⟩
      have Hg5 := hd (show Blk Y3 g5 23 #[.int .i64 pk, .int .i64 pl, .string PV] by rw [hY3]; exact Blk.new_ _ _ hg5 _ _)
      have k1 := HC.o _ HB3.o
      have a0 := k1.at_ 0 rfl
      have a1 := k1.at_ 1 rfl
      have a2 := k1.at_ 2 rfl
      clear k1
      have g50 := Hg5.o.at_ 0 rfl
      have g51 := Hg5.o.at_ 1 rfl
      have g52 := Hg5.o.at_ 2 rfl
      rw [hY3] at a0 a1 a2 g50 g51 g52
      rw [hg5] at g50 g51 g52
      go_wp2_with fail
      rw [← hY3, ← hg5]
      rw [← hY3] at a0 a1 a2 g50 g51 g52
      rw [← hg5] at g50 g51 g52
      clear hY3 hg5
      clear a0 a1 a2 g50 g51 g52
      refine (T5.o _ (HW.o _ HB3.o)).mono ?_
      rintro e0 w4 ⟨rfl, hb4⟩
      have HB4 := hd (HB3.o.trans (hb4.mono HB3.o.size))
      replace Hg5 := hd (Hg5.o.below hb4 (Blk.lt Hg5.o))
      clear hb4
      have k1 := HC.o _ HB4.o
      have a0 := k1.at_ 0 rfl
      have a1 := k1.at_ 1 rfl
      have a2 := k1.at_ 2 rfl
      clear k1
      have g50 := Hg5.o.at_ 0 rfl
      have g51 := Hg5.o.at_ 1 rfl
      have g52 := Hg5.o.at_ 2 rfl
      go_wp2_with fail
      clear a0 a1 a2 g50 g51 g52
      refine (T6.o _ (HW.o _ HB4.o)).mono ?_
      rintro e0 w5 ⟨rfl, hb5⟩
      have HB5 := hd (HB4.o.trans (hb5.mono HB4.o.size))
      replace Hg5 := hd (Hg5.o.below hb5 (Blk.lt Hg5.o))
      clear hb5
      have k1 := HC.o _ HB5.o
      have a0 := k1.at_ 0 rfl
      have a1 := k1.at_ 1 rfl
      have a2 := k1.at_ 2 rfl
      clear k1
      have g50 := Hg5.o.at_ 0 rfl
      have g51 := Hg5.o.at_ 1 rfl
      have g52 := Hg5.o.at_ 2 rfl
      go_wp2_with fail
      clear a0 a1 a2 g50 g51 g52
      refine (T1.o _ (HW.o _ HB5.o)).mono ?_
      rintro e0 w6 ⟨rfl, hb6⟩
      have HB6 := hd (HB5.o.trans (hb6.mono HB5.o.size))
      replace Hg5 := hd (Hg5.o.below hb6 (Blk.lt Hg5.o))
      clear hb6
      obtain ⟨Y7, hY7⟩ : ∃ Y, Y = w6.alloc (.cells #[.int .i64 0, .int .i64 0, .string ⟨#[]⟩] 23) := ⟨_, rfl⟩
      have HB7 := hd (show Below X.heap.size X Y7 by rw [hY7]; exact HB6.o.alloc HB6.o.size _)
      obtain ⟨g7, hg7⟩ : ∃ g, g = w6.heap.size := ⟨_, rfl⟩
      have Hg7 := hd (show Blk Y7 g7 23 #[.int .i64 0, .int .i64 0, .string ⟨#[]⟩] by rw [hY7]; exact Blk.new_ _ _ hg7 _ _)
      replace Hg5 := hd (show Blk Y7 g5 23 _ by rw [hY7]; exact Hg5.o.alloc _)
      have k1 := HC.o _ HB7.o
      have a0 := k1.at_ 0 rfl
      have a1 := k1.at_ 1 rfl
      have a2 := k1.at_ 2 rfl
      clear k1
      have g50 := Hg5.o.at_ 0 rfl
      have g51 := Hg5.o.at_ 1 rfl
      have g52 := Hg5.o.at_ 2 rfl
      have g70 := Hg7.o.at_ 0 rfl
      have g71 := Hg7.o.at_ 1 rfl
      have g72 := Hg7.o.at_ 2 rfl
      rw [hY7] at a0 a1 a2 g50 g51 g52 g70 g71 g72
      rw [hg7] at g70 g71 g72
      go_wp2_with fail
      rw [← hY7, ← hg7]
      rw [← hY7] at a0 a1 a2 g50 g51 g52 g70 g71 g72
      rw [← hg7] at g70 g71 g72
      clear hY7 hg7
      clear a0 a1 a2 g50 g51 g52 g70 g71 g72
      refine (T2.o _ (HW.o _ HB7.o)).mono ?_
      rintro e0 w8 ⟨rfl, hb8⟩
      have HB8 := hd (HB7.o.trans (hb8.mono HB7.o.size))
      replace Hg5 := hd (Hg5.o.below hb8 (Blk.lt Hg5.o))
      replace Hg7 := hd (Hg7.o.below hb8 (Blk.lt Hg7.o))
      clear hb8
      have k1 := HC.o _ HB8.o
      have a0 := k1.at_ 0 rfl
      have a1 := k1.at_ 1 rfl
      have a2 := k1.at_ 2 rfl
      clear k1
      have g50 := Hg5.o.at_ 0 rfl
      have g51 := Hg5.o.at_ 1 rfl
      have g52 := Hg5.o.at_ 2 rfl
      have g70 := Hg7.o.at_ 0 rfl
      have g71 := Hg7.o.at_ 1 rfl
      have g72 := Hg7.o.at_ 2 rfl
      go_wp2_with fail
      clear a0 a1 a2 g50 g51 g52 g70 g71 g72
      refine (T3.o _ (HW.o _ HB8.o)).mono ?_
      rintro e0 w9 ⟨rfl, hb9⟩
      have HB9 := hd (HB8.o.trans (hb9.mono HB8.o.size))
      replace Hg5 := hd (Hg5.o.below hb9 (Blk.lt Hg5.o))
      replace Hg7 := hd (Hg7.o.below hb9 (Blk.lt Hg7.o))
      clear hb9
      go_wp2
      go_ret
      exact ⟨rfl, HW.o _ HB9.o⟩
  · rw [e1, e2] at Z4
    clear hp e1 e2
    simp only [fldV, fldR, noFld] at Z4
    rw [show bs [] = ⟨#[]⟩ from rfl] at Z4
    have T4 := hd (fun W (h : Below w.heap.size w W) => Z4 W (HT.o W h))
    clear Z4
    by_cases hE : fldE f = 0
    · have hc := HF0.o hE
      have hm := HM0.o hE
      have hml := may_len hm
      have hrl := raw_len hm
      have Z7 := fcanon_calls (fldC f) (by omega)
      have Z8 := fline_calls (fldC f) (by omega)
      have Z9 := fparse_calls (bs (rawL (fldC f))) (by rw [bs_size]; omega)
      have Z10 := fmay_calls (fldC f) (by omega)
      rw [may_fldC hm, hm.1] at Z7
      rw [line_yes hm] at Z8
      rw [bs_data, (par_yes (s := rawL (fldC f)) ⟨hm, rfl⟩).1, (par_yes (s := rawL (fldC f)) ⟨hm, rfl⟩).2] at Z9
      rw [mayF_t hm] at Z10
      rw [hE] at Z1
      generalize bs (rawL (fldC f)) = LA at Z8 Z9
      rw [hc] at Z1 Z7 Z8 Z9 Z10
      clear hm hml hrl hc hE HF0 HM0 HN0 Z2 Z3
      obtain ⟨k, l, v⟩ := f
      simp only [fldV, fldR] at *
      generalize bs (valT k v) = CV at *
      rw [hFV] at Z1 h1 ⊢
      clear hF hFV
      have T1 := hd (fun W (h : Below w.heap.size w W) => Z1 W (HT.o W h))
      clear Z1
      have T7 := hd (fun W (h : Below w.heap.size w W) => Z7 W (HT.o W h))
      clear Z7
      have T8 := hd (fun W (h : Below w.heap.size w W) => Z8 W (HT.o W h))
      clear Z8
      have T9 := hd (fun W (h : Below w.heap.size w W) => Z9 W (HT.o W h))
      clear Z9
      have T10 := hd (fun W (h : Below w.heap.size w W) => Z10 W (HT.o W h))
      clear Z10
      go_enter Tryd.func3, Tryd.ntmps3
      go_wp2_with fail
      rw [← hx.o]
      refine (F1.o X (HW.o X (Below.refl _ X))).mono ?_
      rintro e0 w1 ⟨rfl, hb1⟩
      have HB1 := hd hb1
      clear hb1
      have k1 := HC.o _ HB1.o
      have a0 := k1.at_ 0 rfl
      have a1 := k1.at_ 1 rfl
      have a2 := k1.at_ 2 rfl
      clear k1
      go_wp2_with fail
      clear a0 a1 a2
      refine (T4.o _ (HW.o _ HB1.o)).mono ?_
      rintro e0 w2 ⟨rfl, hb2⟩
      have HB2 := hd (HB1.o.trans (hb2.mono HB1.o.size))
      clear hb2
      obtain ⟨Y3, hY3⟩ : ∃ Y, Y = w2.alloc (.cells #[.int .i64 0, .int .i64 0, .string ⟨#[]⟩] 23) := ⟨_, rfl⟩
      have HB3 := hd (show Below X.heap.size X Y3 by rw [hY3]; exact HB2.o.alloc HB2.o.size _)
      obtain ⟨g5, hg5⟩ : ∃ g, g = w2.heap.size := ⟨_, rfl⟩
      have Hg5 := hd (show Blk Y3 g5 23 #[.int .i64 0, .int .i64 0, .string ⟨#[]⟩] by rw [hY3]; exact Blk.new_ _ _ hg5 _ _)
      have k1 := HC.o _ HB3.o
      have a0 := k1.at_ 0 rfl
      have a1 := k1.at_ 1 rfl
      have a2 := k1.at_ 2 rfl
      clear k1
      have g50 := Hg5.o.at_ 0 rfl
      have g51 := Hg5.o.at_ 1 rfl
      have g52 := Hg5.o.at_ 2 rfl
      rw [hY3] at a0 a1 a2 g50 g51 g52
      rw [hg5] at g50 g51 g52
      go_wp2_with fail
      rw [← hY3, ← hg5]
      rw [← hY3] at a0 a1 a2 g50 g51 g52
      rw [← hg5] at g50 g51 g52
      clear hY3 hg5
      clear a0 a1 a2 g50 g51 g52
      refine (T1.o _ (HW.o _ HB3.o)).mono ?_
      rintro e0 w4 ⟨rfl, hb4⟩
      have HB4 := hd (HB3.o.trans (hb4.mono HB3.o.size))
      replace Hg5 := hd (Hg5.o.below hb4 (Blk.lt Hg5.o))
      clear hb4
      obtain ⟨Y5, hY5⟩ : ∃ Y, Y = w4.alloc (.cells #[.int .i64 k, .int .i64 l, .string CV] 23) := ⟨_, rfl⟩
      have HB5 := hd (show Below X.heap.size X Y5 by rw [hY5]; exact HB4.o.alloc HB4.o.size _)
      obtain ⟨g7, hg7⟩ : ∃ g, g = w4.heap.size := ⟨_, rfl⟩
      have Hg7 := hd (show Blk Y5 g7 23 #[.int .i64 k, .int .i64 l, .string CV] by rw [hY5]; exact Blk.new_ _ _ hg7 _ _)
      replace Hg5 := hd (show Blk Y5 g5 23 _ by rw [hY5]; exact Hg5.o.alloc _)
      have k1 := HC.o _ HB5.o
      have a0 := k1.at_ 0 rfl
      have a1 := k1.at_ 1 rfl
      have a2 := k1.at_ 2 rfl
      clear k1
      have g50 := Hg5.o.at_ 0 rfl
      have g51 := Hg5.o.at_ 1 rfl
      have g52 := Hg5.o.at_ 2 rfl
      have g70 := Hg7.o.at_ 0 rfl
      have g71 := Hg7.o.at_ 1 rfl
      have g72 := Hg7.o.at_ 2 rfl
      rw [hY5] at a0 a1 a2 g50 g51 g52 g70 g71 g72
      rw [hg7] at g70 g71 g72
      go_wp2_with fail
      rw [← hY5, ← hg7]
      rw [← hY5] at a0 a1 a2 g50 g51 g52 g70 g71 g72
      rw [← hg7] at g70 g71 g72
      clear hY5 hg7
      clear a0 a1 a2 g50 g51 g52 g70 g71 g72
      refine (T7.o _ (HW.o _ HB5.o)).mono ?_
      rintro e0 w6 ⟨rfl, hb6⟩
      have HB6 := hd (HB5.o.trans (hb6.mono HB5.o.size))
      replace Hg5 := hd (Hg5.o.below hb6 (Blk.lt Hg5.o))
      replace Hg7 := hd (Hg7.o.below hb6 (Blk.lt Hg7.o))
      clear hb6
      obtain ⟨Y7, hY7⟩ : ∃ Y, Y = w6.alloc (.cells #[.int .i64 k, .int .i64 l, .string CV] 23) := ⟨_, rfl⟩
      have HB7 := hd (show Below X.heap.size X Y7 by rw [hY7]; exact HB6.o.alloc HB6.o.size _)
      obtain ⟨g9, hg9⟩ : ∃ g, g = w6.heap.size := ⟨_, rfl⟩
      have Hg9 := hd (show Blk Y7 g9 23 #[.int .i64 k, .int .i64 l, .string CV] by rw [hY7]; exact Blk.new_ _ _ hg9 _ _)
      replace Hg5 := hd (show Blk Y7 g5 23 _ by rw [hY7]; exact Hg5.o.alloc _)
      replace Hg7 := hd (show Blk Y7 g7 23 _ by rw [hY7]; exact Hg7.o.alloc _)
      have k1 := HC.o _ HB7.o
      have a0 := k1.at_ 0 rfl
      have a1 := k1.at_ 1 rfl
      have a2 := k1.at_ 2 rfl
      clear k1
      have g50 := Hg5.o.at_ 0 rfl
      have g51 := Hg5.o.at_ 1 rfl
      have g52 := Hg5.o.at_ 2 rfl
      have g70 := Hg7.o.at_ 0 rfl
      have g71 := Hg7.o.at_ 1 rfl
      have g72 := Hg7.o.at_ 2 rfl
      have g90 := Hg9.o.at_ 0 rfl
      have g91 := Hg9.o.at_ 1 rfl
      have g92 := Hg9.o.at_ 2 rfl
      rw [hY7] at a0 a1 a2 g50 g51 g52 g70 g71 g72 g90 g91 g92
      rw [hg9] at g90 g91 g92
      go_wp2_with fail
      rw [← hY7, ← hg9]
      rw [← hY7] at a0 a1 a2 g50 g51 g52 g70 g71 g72 g90 g91 g92
      rw [← hg9] at g90 g91 g92
      clear hY7 hg9
      clear a0 a1 a2 g50 g51 g52 g70 g71 g72 g90 g91 g92
      refine (T8.o _ (HW.o _ HB7.o)).mono ?_
      rintro e0 w8 ⟨rfl, hb8⟩
      have HB8 := hd (HB7.o.trans (hb8.mono HB7.o.size))
      replace Hg5 := hd (Hg5.o.below hb8 (Blk.lt Hg5.o))
      replace Hg7 := hd (Hg7.o.below hb8 (Blk.lt Hg7.o))
      replace Hg9 := hd (Hg9.o.below hb8 (Blk.lt Hg9.o))
      clear hb8
      have k1 := HC.o _ HB8.o
      have a0 := k1.at_ 0 rfl
      have a1 := k1.at_ 1 rfl
      have a2 := k1.at_ 2 rfl
      clear k1
      have g50 := Hg5.o.at_ 0 rfl
      have g51 := Hg5.o.at_ 1 rfl
      have g52 := Hg5.o.at_ 2 rfl
      have g70 := Hg7.o.at_ 0 rfl
      have g71 := Hg7.o.at_ 1 rfl
      have g72 := Hg7.o.at_ 2 rfl
      have g90 := Hg9.o.at_ 0 rfl
      have g91 := Hg9.o.at_ 1 rfl
      have g92 := Hg9.o.at_ 2 rfl
      go_wp2_with fail
      clear a0 a1 a2 g50 g51 g52 g70 g71 g72 g90 g91 g92
      refine (T9.o _ (HW.o _ HB8.o)).mono ?_
      rintro e0 w9 ⟨rfl, hb9⟩
      have HB9 := hd (HB8.o.trans (hb9.mono HB8.o.size))
      replace Hg5 := hd (Hg5.o.below hb9 (Blk.lt Hg5.o))
      replace Hg7 := hd (Hg7.o.below hb9 (Blk.lt Hg7.o))
      replace Hg9 := hd (Hg9.o.below hb9 (Blk.lt Hg9.o))
      clear hb9
      obtain ⟨Y10, hY10⟩ : ∃ Y, Y = w9.alloc (.cells #[.int .i64 k, .int .i64 l, .string CV] 23) := ⟨_, rfl⟩
      have HB10 := hd (show Below X.heap.size X Y10 by rw [hY10]; exact HB9.o.alloc HB9.o.size _)
      obtain ⟨g11, hg11⟩ : ∃ g, g = w9.heap.size := ⟨_, rfl⟩
      have Hg11 := hd (show Blk Y10 g11 23 #[.int .i64 k, .int .i64 l, .string CV] by rw [hY10]; exact Blk.new_ _ _ hg11 _ _)
      replace Hg5 := hd (show Blk Y10 g5 23 _ by rw [hY10]; exact Hg5.o.alloc _)
      replace Hg7 := hd (show Blk Y10 g7 23 _ by rw [hY10]; exact Hg7.o.alloc _)
      replace Hg9 := hd (show Blk Y10 g9 23 _ by rw [hY10]; exact Hg9.o.alloc _)
      have k1 := HC.o _ HB10.o
      have a0 := k1.at_ 0 rfl
      have a1 := k1.at_ 1 rfl
      have a2 := k1.at_ 2 rfl
      clear k1
      have g50 := Hg5.o.at_ 0 rfl
      have g51 := Hg5.o.at_ 1 rfl
      have g52 := Hg5.o.at_ 2 rfl
      have g70 := Hg7.o.at_ 0 rfl
      have g71 := Hg7.o.at_ 1 rfl
      have g72 := Hg7.o.at_ 2 rfl
      have g90 := Hg9.o.at_ 0 rfl
      have g91 := Hg9.o.at_ 1 rfl
      have g92 := Hg9.o.at_ 2 rfl
      have g110 := Hg11.o.at_ 0 rfl
      have g111 := Hg11.o.at_ 1 rfl
      have g112 := Hg11.o.at_ 2 rfl
      rw [hY10] at a0 a1 a2 g50 g51 g52 g70 g71 g72 g90 g91 g92 g110 g111 g112
      rw [hg11] at g110 g111 g112
      go_wp2_with fail
      rw [← hY10, ← hg11]
      rw [← hY10] at a0 a1 a2 g50 g51 g52 g70 g71 g72 g90 g91 g92 g110 g111 g112
      rw [← hg11] at g110 g111 g112
      clear hY10 hg11
      clear a0 a1 a2 g50 g51 g52 g70 g71 g72 g90 g91 g92 g110 g111 g112
      refine (T10.o _ (HW.o _ HB10.o)).mono ?_
      rintro e0 w11 ⟨rfl, hb11⟩
      have HB11 := hd (HB10.o.trans (hb11.mono HB10.o.size))
      replace Hg5 := hd (Hg5.o.below hb11 (Blk.lt Hg5.o))
      replace Hg7 := hd (Hg7.o.below hb11 (Blk.lt Hg7.o))
      replace Hg9 := hd (Hg9.o.below hb11 (Blk.lt Hg9.o))
      replace Hg11 := hd (Hg11.o.below hb11 (Blk.lt Hg11.o))
      clear hb11
      have k1 := HC.o _ HB11.o
      have a0 := k1.at_ 0 rfl
      have a1 := k1.at_ 1 rfl
      have a2 := k1.at_ 2 rfl
      clear k1
      have g50 := Hg5.o.at_ 0 rfl
      have g51 := Hg5.o.at_ 1 rfl
      have g52 := Hg5.o.at_ 2 rfl
      have g70 := Hg7.o.at_ 0 rfl
      have g71 := Hg7.o.at_ 1 rfl
      have g72 := Hg7.o.at_ 2 rfl
      have g90 := Hg9.o.at_ 0 rfl
      have g91 := Hg9.o.at_ 1 rfl
      have g92 := Hg9.o.at_ 2 rfl
      have g110 := Hg11.o.at_ 0 rfl
      have g111 := Hg11.o.at_ 1 rfl
      have g112 := Hg11.o.at_ 2 rfl
      go_wp2
      go_ret
      exact ⟨rfl, HW.o _ HB11.o⟩
    · obtain ⟨hc, hm⟩ := HN0.o hE
      have nE : (fldE f != 0) = true := by simpa using hE
      have nE2 : (fldE f == 0) = false := by simpa using hE
      rw [hc] at Z1
      rw [mayF_f hm] at Z2
      rw [line_no hm] at Z3
      generalize fldE f = ce at Z1 nE nE2
      clear hm hc hE HF0 HM0 HN0
      obtain ⟨k, l, v⟩ := f
      simp only [fldV, fldR, noFld] at *
      rw [hFV] at Z1 Z2 Z3 h1 ⊢
      rw [show bs [] = ⟨#[]⟩ from rfl] at Z1 Z3
      clear hF hFV
      have T1 := hd (fun W (h : Below w.heap.size w W) => Z1 W (HT.o W h))
      clear Z1
      have T2 := hd (fun W (h : Below w.heap.size w W) => Z2 W (HT.o W h))
      clear Z2
      have T3 := hd (fun W (h : Below w.heap.size w W) => Z3 W (HT.o W h))
      clear Z3
      go_enter Tryd.func3, Tryd.ntmps3
      go_wp2_with fail
      rw [← hx.o]
      refine (F1.o X (HW.o X (Below.refl _ X))).mono ?_
      rintro e0 w1 ⟨rfl, hb1⟩
      have HB1 := hd hb1
      clear hb1
      have k1 := HC.o _ HB1.o
      have a0 := k1.at_ 0 rfl
      have a1 := k1.at_ 1 rfl
      have a2 := k1.at_ 2 rfl
      clear k1
      go_wp2_with fail
      clear a0 a1 a2
      refine (T4.o _ (HW.o _ HB1.o)).mono ?_
      rintro e0 w2 ⟨rfl, hb2⟩
      have HB2 := hd (HB1.o.trans (hb2.mono HB1.o.size))
      clear hb2
      obtain ⟨Y3, hY3⟩ : ∃ Y, Y = w2.alloc (.cells #[.int .i64 0, .int .i64 0, .string ⟨#[]⟩] 23) := ⟨_, rfl⟩
      have HB3 := hd (show Below X.heap.size X Y3 by rw [hY3]; exact HB2.o.alloc HB2.o.size _)
      obtain ⟨g5, hg5⟩ : ∃ g, g = w2.heap.size := ⟨_, rfl⟩
      have Hg5 := hd (show Blk Y3 g5 23 #[.int .i64 0, .int .i64 0, .string ⟨#[]⟩] by rw [hY3]; exact Blk.new_ _ _ hg5 _ _)
      have k1 := HC.o _ HB3.o
      have a0 := k1.at_ 0 rfl
      have a1 := k1.at_ 1 rfl
      have a2 := k1.at_ 2 rfl
      clear k1
      have g50 := Hg5.o.at_ 0 rfl
      have g51 := Hg5.o.at_ 1 rfl
      have g52 := Hg5.o.at_ 2 rfl
      rw [hY3] at a0 a1 a2 g50 g51 g52
      rw [hg5] at g50 g51 g52
      go_wp2_with fail
      rw [← hY3, ← hg5]
      rw [← hY3] at a0 a1 a2 g50 g51 g52
      rw [← hg5] at g50 g51 g52
      clear hY3 hg5
      clear a0 a1 a2 g50 g51 g52
      refine (T1.o _ (HW.o _ HB3.o)).mono ?_
      rintro e0 w4 ⟨rfl, hb4⟩
      have HB4 := hd (HB3.o.trans (hb4.mono HB3.o.size))
      replace Hg5 := hd (Hg5.o.below hb4 (Blk.lt Hg5.o))
      clear hb4
      obtain ⟨Y5, hY5⟩ : ∃ Y, Y = w4.alloc (.cells #[.int .i64 0, .int .i64 0, .string ⟨#[]⟩] 23) := ⟨_, rfl⟩
      have HB5 := hd (show Below X.heap.size X Y5 by rw [hY5]; exact HB4.o.alloc HB4.o.size _)
      obtain ⟨g7, hg7⟩ : ∃ g, g = w4.heap.size := ⟨_, rfl⟩
      have Hg7 := hd (show Blk Y5 g7 23 #[.int .i64 0, .int .i64 0, .string ⟨#[]⟩] by rw [hY5]; exact Blk.new_ _ _ hg7 _ _)
      replace Hg5 := hd (show Blk Y5 g5 23 _ by rw [hY5]; exact Hg5.o.alloc _)
      have k1 := HC.o _ HB5.o
      have a0 := k1.at_ 0 rfl
      have a1 := k1.at_ 1 rfl
      have a2 := k1.at_ 2 rfl
      clear k1
      have g50 := Hg5.o.at_ 0 rfl
      have g51 := Hg5.o.at_ 1 rfl
      have g52 := Hg5.o.at_ 2 rfl
      have g70 := Hg7.o.at_ 0 rfl
      have g71 := Hg7.o.at_ 1 rfl
      have g72 := Hg7.o.at_ 2 rfl
      rw [hY5] at a0 a1 a2 g50 g51 g52 g70 g71 g72
      rw [hg7] at g70 g71 g72
      go_wp2_with fail
      rw [← hY5, ← hg7]
      rw [← hY5] at a0 a1 a2 g50 g51 g52 g70 g71 g72
      rw [← hg7] at g70 g71 g72
      clear hY5 hg7
      clear a0 a1 a2 g50 g51 g52 g70 g71 g72
      refine (T2.o _ (HW.o _ HB5.o)).mono ?_
      rintro e0 w6 ⟨rfl, hb6⟩
      have HB6 := hd (HB5.o.trans (hb6.mono HB5.o.size))
      replace Hg5 := hd (Hg5.o.below hb6 (Blk.lt Hg5.o))
      replace Hg7 := hd (Hg7.o.below hb6 (Blk.lt Hg7.o))
      clear hb6
      have k1 := HC.o _ HB6.o
      have a0 := k1.at_ 0 rfl
      have a1 := k1.at_ 1 rfl
      have a2 := k1.at_ 2 rfl
      clear k1
      have g50 := Hg5.o.at_ 0 rfl
      have g51 := Hg5.o.at_ 1 rfl
      have g52 := Hg5.o.at_ 2 rfl
      have g70 := Hg7.o.at_ 0 rfl
      have g71 := Hg7.o.at_ 1 rfl
      have g72 := Hg7.o.at_ 2 rfl
      go_wp2_with fail
      clear a0 a1 a2 g50 g51 g52 g70 g71 g72
      refine (T3.o _ (HW.o _ HB6.o)).mono ?_
      rintro e0 w7 ⟨rfl, hb7⟩
      have HB7 := hd (HB6.o.trans (hb7.mono HB6.o.size))
      replace Hg5 := hd (Hg5.o.below hb7 (Blk.lt Hg5.o))
      replace Hg7 := hd (Hg7.o.below hb7 (Blk.lt Hg7.o))
      clear hb7
      go_wp2
      go_ret
      exact ⟨rfl, HW.o _ HB7.o⟩

end Go.Proofs.YtpejlcaoggedfaaDoor
