/-
  Fields: the law that both answer alike.
-/
import Derived.Test.YtpejlcaoggedfaaDoorFldT
import Derived.Test.YtpejlcaoggedfaaDoorFldLr
import Derived.Lib.QuietBelow
set_option linter.unusedVariables false
set_option linter.unusedSimpArgs false
namespace Go.Proofs.YtpejlcaoggedfaaDoor
open Go.RowKit Go.Sort

set_option maxRecDepth 100000 in
set_option maxHeartbeats 8000000 in
theorem ftells_calls (f g : Fld) (s : ByteArray) (w : World) (ht : Tbs w) (h1 : f.v.length ≤ maxLen) (h2 : g.v.length ≤ maxLen) (h3 : s.size ≤ maxLen) : Calls Tryd.prog 4 #[fldV f, fldV g, .string s] w fun e w' => e = .returned (.bool true) ∧ Below w.heap.size w w' := by
  have F1 := hd (fun W (h : Below w.heap.size w W) => ffirst_calls W (ht.below h))
  have HT := hd (fun W (h : Below w.heap.size w W) => ht.below h)
  clear ht
  rw [← bs_size] at h1 h2
  have C1 := hd (fun (hs : f.v.length ≤ 1000000) W (h : Below w.heap.size w W) => fcanon_calls f hs W (HT.o W h))
  have C2 := hd (fun (hs : f.v.length ≤ 1000000) W => rcanon_calls f hs W)
  have C3 := hd (fun (hs : s.size ≤ 1000000) W (h : Below w.heap.size w W) => fparse_calls s hs W (HT.o W h))
  have C4 := hd (fun (hs : s.size ≤ 1000000) W => rfparse_calls s hs W)
  have C5 := hd (fun (hs : f.v.length ≤ 1000000) W (h : Below w.heap.size w W) => fmay_calls f hs W (HT.o W h))
  have C6 := hd (fun (hs : f.v.length ≤ 1000000) W => rfmay_calls f hs W)
  have C7 := hd (fun (hs : f.v.length ≤ 1000000) W (h : Below w.heap.size w W) => fline_calls f hs W (HT.o W h))
  have C8 := hd (fun (hs : f.v.length ≤ 1000000) W => rfline_calls f hs W)
  have C9 := hd (fun W => less_calls f g W)
  have C10 := hd (fun W => rless_calls f g W)
  generalize fldC f = c at C1 C2
  generalize fldE f = ce at C1 C2
  generalize parF s.data.toList = p at C3 C4
  generalize parE s.data.toList = pe at C3 C4
  generalize mayF f = mb at C5 C6
  generalize lineF f = lf at C7 C8
  generalize lessF f g = lb at C9 C10
  rw [← bs_size] at C1 C2 C5 C6 C7 C8
  obtain ⟨fk, fl, fv⟩ := f
  obtain ⟨gk, gl, gv⟩ := g
  obtain ⟨ck, cl, cv⟩ := c
  obtain ⟨pk, pl, pv⟩ := p
  simp only [fldV, fldR] at *
  generalize bs fv = FV at *
  generalize bs gv = GV at *
  generalize bs cv = CV at *
  generalize bs pv = PV at *
  generalize bs lf = LF at *
  obtain ⟨X, hX⟩ : ∃ X, X = (w.alloc (.cells #[.int .i64 fk, .int .i64 fl, .string FV] 23)).alloc (.cells #[.int .i64 gk, .int .i64 gl, .string GV] 23) := ⟨_, rfl⟩
  have HC := hd (fun W (hb : Below X.heap.size X W) => two_cell w W 23 #[.int .i64 fk, .int .i64 fl, .string FV] #[.int .i64 gk, .int .i64 gl, .string GV] (by rw [← hX]; exact hb))
  have HW := hd (fun W (hb : Below X.heap.size X W) => two_bel w W (.cells #[.int .i64 fk, .int .i64 fl, .string FV] 23) (.cells #[.int .i64 gk, .int .i64 gl, .string GV] 23) (by rw [← hX]; exact hb))
  have hx := hd hX
  clear hX
  go_enter Tryd.func4, Tryd.ntmps4
  go_wp2_with fail
  rw [← hx.o]
  refine (F1.o X (HW.o X (Below.refl _ X))).mono ?_
  rintro e0 w1 ⟨rfl, hb1⟩
  have HB1 := hd hb1
  obtain ⟨k1, k2⟩ := HC.o _ HB1.o
  have a0 := k1.at_ 0 rfl
  have a1 := k1.at_ 1 rfl
  have a2 := k1.at_ 2 rfl
  have b0 := k2.at_ 0 rfl
  have b1 := k2.at_ 1 rfl
  have b2 := k2.at_ 2 rfl
  clear k1 k2 hb1
  by_cases s1 : 300 < FV.size
  · go_wp2_with fail
    refine (F1.o _ (HW.o _ HB1.o)).mono ?_
    rintro e0 w2 ⟨rfl, hb2⟩
    go_wp2
    go_ret
    exact ⟨rfl, HW.o _ (HB1.o.trans (hb2.mono HB1.o.size))⟩
  by_cases s2 : 300 < GV.size
  · go_wp2_with fail
    refine (F1.o _ (HW.o _ HB1.o)).mono ?_
    rintro e0 w2 ⟨rfl, hb2⟩
    go_wp2
    go_ret
    exact ⟨rfl, HW.o _ (HB1.o.trans (hb2.mono HB1.o.size))⟩
  by_cases s3 : 300 < s.size
  · go_wp2_with fail
    refine (F1.o _ (HW.o _ HB1.o)).mono ?_
    rintro e0 w2 ⟨rfl, hb2⟩
    go_wp2
    go_ret
    exact ⟨rfl, HW.o _ (HB1.o.trans (hb2.mono HB1.o.size))⟩
  have hF : FV.size ≤ 1000000 := by omega
  have hS : s.size ≤ 1000000 := by omega
  have D1 := hd (C1.o hF)
  have D2 := hd (C2.o hF)
  have D3 := hd (C3.o hS)
  have D4 := hd (C4.o hS)
  have D5 := hd (C5.o hF)
  have D6 := hd (C6.o hF)
  have D7 := hd (C7.o hF)
  have D8 := hd (C8.o hF)
  clear hF hS C1 C2 C3 C4 C5 C6 C7 C8
  go_wp2_with fail
  clear a0 a1 a2 b0 b1 b2
  refine (D1.o _ (HW.o _ HB1.o)).mono ?_
  rintro e0 w2 ⟨rfl, hb2⟩
  have HB2 := hd (HB1.o.trans (hb2.mono HB1.o.size))
  clear hb2
  obtain ⟨Y1, hY1⟩ : ∃ Y1, Y1 = w2.alloc (.cells #[.int .i64 ck, .int .i64 cl, .string CV] 23) := ⟨_, rfl⟩
  have HY1 := hd (show Below X.heap.size X Y1 by rw [hY1]; exact HB2.o.alloc HB2.o.size _)
  obtain ⟨g1, hg1⟩ : ∃ g1, g1 = w2.heap.size := ⟨_, rfl⟩
  have HG1 := hd (show Blk Y1 g1 23 #[.int .i64 ck, .int .i64 cl, .string CV] by rw [hY1]; exact Blk.new_ _ _ hg1 _ _)
  obtain ⟨k1, k2⟩ := HC.o _ HY1.o
  have a0 := k1.at_ 0 rfl
  have a1 := k1.at_ 1 rfl
  have a2 := k1.at_ 2 rfl
  rw [hY1] at a0 a1 a2
  clear k1 k2
  go_wp2_with fail
  rw [← hY1, ← hg1]
  clear hY1 hg1
  refine (D2.o _).mono ?_
  rintro e0 w3 ⟨rfl, hb3⟩
  have HB3 := hd (HY1.o.trans (hb3.mono HY1.o.size))
  have HG1' := hd (HG1.o.below hb3 (Blk.lt HG1.o))
  clear hb3 a0 a1 a2
  obtain ⟨Y2, hY2⟩ : ∃ Y2, Y2 = w3.alloc (.cells #[.int .i64 ck, .int .i64 cl, .string CV] 23) := ⟨_, rfl⟩
  have HY2 := hd (show Below X.heap.size X Y2 by rw [hY2]; exact HB3.o.alloc HB3.o.size _)
  obtain ⟨g2, hg2⟩ : ∃ g2, g2 = w3.heap.size := ⟨_, rfl⟩
  have HG2 := hd (show Blk Y2 g2 23 #[.int .i64 ck, .int .i64 cl, .string CV] by rw [hY2]; exact Blk.new_ _ _ hg2 _ _)
  have HG12 := hd (show Blk Y2 g1 23 #[.int .i64 ck, .int .i64 cl, .string CV] by rw [hY2]; exact HG1'.o.alloc _)
  go_wp2_with fail
  rw [← hY2, ← hg2]
  clear hY2 hg2 HG1'
  refine (D3.o _ (HW.o _ HY2.o)).mono ?_
  rintro e0 w4 ⟨rfl, hb4⟩
  have HB4 := hd (HY2.o.trans (hb4.mono HY2.o.size))
  have HG1' := hd (HG12.o.below hb4 (Blk.lt HG12.o))
  have HG2' := hd (HG2.o.below hb4 (Blk.lt HG2.o))
  clear hb4
  obtain ⟨Y3, hY3⟩ : ∃ Y3, Y3 = w4.alloc (.cells #[.int .i64 pk, .int .i64 pl, .string PV] 23) := ⟨_, rfl⟩
  have HY3 := hd (show Below X.heap.size X Y3 by rw [hY3]; exact HB4.o.alloc HB4.o.size _)
  obtain ⟨g3, hg3⟩ : ∃ g3, g3 = w4.heap.size := ⟨_, rfl⟩
  have HG3 := hd (show Blk Y3 g3 23 #[.int .i64 pk, .int .i64 pl, .string PV] by rw [hY3]; exact Blk.new_ _ _ hg3 _ _)
  have HG13 := hd (show Blk Y3 g1 23 #[.int .i64 ck, .int .i64 cl, .string CV] by rw [hY3]; exact HG1'.o.alloc _)
  have HG23 := hd (show Blk Y3 g2 23 #[.int .i64 ck, .int .i64 cl, .string CV] by rw [hY3]; exact HG2'.o.alloc _)
  go_wp2_with fail
  rw [← hY3, ← hg3]
  clear hY3 hg3 HG1' HG2'
  refine (D4.o _).mono ?_
  rintro e0 w5 ⟨rfl, hb5⟩
  have HB5 := hd (HY3.o.trans (hb5.mono HY3.o.size))
  have HG1' := hd (HG13.o.below hb5 (Blk.lt HG13.o))
  have HG2' := hd (HG23.o.below hb5 (Blk.lt HG23.o))
  have HG3' := hd (HG3.o.below hb5 (Blk.lt HG3.o))
  clear hb5
  obtain ⟨Y4, hY4⟩ : ∃ Y4, Y4 = w5.alloc (.cells #[.int .i64 pk, .int .i64 pl, .string PV] 23) := ⟨_, rfl⟩
  have HY4 := hd (show Below X.heap.size X Y4 by rw [hY4]; exact HB5.o.alloc HB5.o.size _)
  obtain ⟨g4, hg4⟩ : ∃ g4, g4 = w5.heap.size := ⟨_, rfl⟩
  have HG4 := hd (show Blk Y4 g4 23 #[.int .i64 pk, .int .i64 pl, .string PV] by rw [hY4]; exact Blk.new_ _ _ hg4 _ _)
  have HG14 := hd (show Blk Y4 g1 23 #[.int .i64 ck, .int .i64 cl, .string CV] by rw [hY4]; exact HG1'.o.alloc _)
  have HG24 := hd (show Blk Y4 g2 23 #[.int .i64 ck, .int .i64 cl, .string CV] by rw [hY4]; exact HG2'.o.alloc _)
  have HG34 := hd (show Blk Y4 g3 23 #[.int .i64 pk, .int .i64 pl, .string PV] by rw [hY4]; exact HG3'.o.alloc _)
  go_wp2_with fail
  rw [← hY4, ← hg4]
  clear hY4 hg4 HG1' HG2' HG3'
  obtain ⟨k1, k2⟩ := HC.o _ HY4.o
  have r1 := cell_regrown (k1.at_ 0 rfl)
  have r2 := cell_regrown (k1.at_ 1 rfl)
  have r3 := cell_regrown (k1.at_ 2 rfl)
  have r4 := cell_regrown (k2.at_ 0 rfl)
  have r5 := cell_regrown (k2.at_ 1 rfl)
  have r6 := cell_regrown (k2.at_ 2 rfl)
  have r7 := cell_regrown (HG14.o.at_ 0 rfl)
  have r8 := cell_regrown (HG14.o.at_ 1 rfl)
  have r9 := cell_regrown (HG14.o.at_ 2 rfl)
  have r10 := cell_regrown (HG24.o.at_ 0 rfl)
  have r11 := cell_regrown (HG24.o.at_ 1 rfl)
  have r12 := cell_regrown (HG24.o.at_ 2 rfl)
  have r13 := cell_regrown (HG34.o.at_ 0 rfl)
  have r14 := cell_regrown (HG34.o.at_ 1 rfl)
  have r15 := cell_regrown (HG34.o.at_ 2 rfl)
  have r16 := cell_regrown (HG4.o.at_ 0 rfl)
  have r17 := cell_regrown (HG4.o.at_ 1 rfl)
  have r18 := cell_regrown (HG4.o.at_ 2 rfl)
  clear k1 k2
  have E5 := hd (fun dd os => Calls.regrown_of (D5.o (grow (redrawn Y4 dd) os) (HW.o _ (HY4.o.trans ((below_regrown Y4 dd os).mono HY4.o.size)))))
  have E6 := hd (fun dd os => Calls.regrown_of (D6.o (grow (redrawn Y4 dd) os)))
  have E7 := hd (fun dd os => Calls.regrown_of (D7.o (grow (redrawn Y4 dd) os) (HW.o _ (HY4.o.trans ((below_regrown Y4 dd os).mono HY4.o.size)))))
  have E8 := hd (fun dd os => Calls.regrown_of (D8.o (grow (redrawn Y4 dd) os)))
  have E9 := hd (fun dd os => Calls.regrown_of (C9.o (grow (redrawn Y4 dd) os)))
  have E10 := hd (fun dd os => Calls.regrown_of (C10.o (grow (redrawn Y4 dd) os)))
  clear HG14 HG24 HG34 HG4 HG1 HG2 HG3 HG12 HG13 HG23 D1 D2 D3 D4
  refine wp_region_quiet_below (by kernel_rfl) (by kernel_rfl) ?_
  iterate 21 (go_big_quiet_step (exact E5.o _ _))
  iterate 2 (go_big_quiet_step (exact E6.o _ _))
  iterate 5 (go_big_quiet_step (exact E7.o _ _))
  iterate 2 (go_big_quiet_step (exact E8.o _ _))
  iterate 6 (go_big_quiet_step (exact E9.o _ _))
  repeat (go_big_quiet_step (exact E10.o _ _))
  refine wpQuiet_nil ?_
  intro _ hw'
  obtain ⟨⟨dq, osq⟩, hw''⟩ := hw'
  subst hw''
  go_wp2
  go_ret
  exact ⟨rfl, HW.o _ (HY4.o.trans ((below_regrown Y4 dq osq).mono HY4.o.size))⟩

end Go.Proofs.YtpejlcaoggedfaaDoor
