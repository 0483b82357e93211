/-
  Fields: the law of their order.
-/
import Derived.Test.YtpejlcaoggedfaaDoorFldT
import Derived.Lib.QuietBelow
set_option linter.unusedVariables false
set_option linter.unusedSimpArgs false
namespace Go.Proofs.YtpejlcaoggedfaaDoor
open Go.RowKit Go.Sort

theorem three_cell (w W : World) (t : TypeId) (c1 c2 c3 : Array Value)
    (hb : Below (((w.alloc (.cells c1 t)).alloc (.cells c2 t)).alloc (.cells c3 t)).heap.size (((w.alloc (.cells c1 t)).alloc (.cells c2 t)).alloc (.cells c3 t)) W) :
    Blk W w.heap.size t c1 ∧ Blk W (w.heap.size + 1) t c2 ∧ Blk W (w.heap.size + 2) t c3 :=
  ⟨(((Blk.new w t c1).alloc _).alloc _).below hb (by simp; omega), ((Blk.new_ (w.alloc (.cells c1 t)) (w.heap.size + 1) (by simp) t c2).alloc _).below hb (by simp), (Blk.new_ ((w.alloc (.cells c1 t)).alloc (.cells c2 t)) (w.heap.size + 2) (by simp) t c3).below hb (by simp)⟩
theorem three_bel (w W : World) (o1 o2 o3 : Obj) (hb : Below (((w.alloc o1).alloc o2).alloc o3).heap.size (((w.alloc o1).alloc o2).alloc o3) W) : Below w.heap.size w W :=
  ((((Below.refl _ w).alloc (Nat.le_refl _) _).alloc (by simp) _).alloc (by simp <;> omega) _).trans (hb.mono (by simp; omega))
/-- What the law says, plain. -/
structure OrdIs (x y e v1 v2 : Bool) (f g h : Fld) : Prop where
  px : lessF f g = x
  py : lessF g f = y
  pe : decide (f = g) = e
  pz : lessF f f = false
  p1 : lessF g h = v1
  p2 : lessF f h = v2
  pt : x = true → v1 = true → v2 = true
  pa : x = true → y = false
  pn : e = true → x = false
  pm : e = false → x = false → y = true
  pk : x = true → f.k ≠ g.k → f.k < g.k
  pl : x = false → f.k ≠ g.k → ¬ f.k < g.k
theorem ord_is (f g h : Fld) : ∃ x y e v1 v2, OrdIs x y e v1 v2 f g h := by
  refine ⟨_, _, _, _, _, rfl, rfl, rfl, ?_, rfl, rfl, ?_, ?_, ?_, ?_, ?_, ?_⟩
  · simp [lessF, less_irr]
  · intro h1 h2
    simp only [lessF, decide_eq_true_eq] at *
    exact less_trans h1 h2
  · intro h1
    simp only [lessF, decide_eq_true_eq, decide_eq_false_iff_not] at *
    exact less_asym h1
  · intro h1
    simp only [lessF, decide_eq_true_eq, decide_eq_false_iff_not] at *
    subst h1; exact less_irr f
  · intro h1 h2
    simp only [lessF, decide_eq_true_eq, decide_eq_false_iff_not] at *
    exact less_not h2 h1
  · intro h1 h2
    simp only [lessF, decide_eq_true_eq] at *
    rcases h1 with h1 | ⟨h1, _⟩
    · exact h1
    · exact absurd h1 h2
  · intro h1 h2 h3
    simp only [lessF, decide_eq_false_iff_not] at *
    exact h1 (.inl h3)

set_option maxRecDepth 100000 in
set_option maxHeartbeats 4000000 in
theorem forders_calls (f g h : Fld) (w : World) (ht : Tbs w) (h1 : f.v.length ≤ maxLen) (h2 : g.v.length ≤ maxLen) (h3 : h.v.length ≤ maxLen) : Calls Tryd.prog 5 #[fldV f, fldV g, fldV h] w fun e w' => e = .returned (.bool true) ∧ Below w.heap.size w w' := by
  have F1 := hd (fun W (h : Below w.heap.size w W) => ffirst_calls W (ht.below h))
  obtain ⟨x, y, e, v1, v2, ho⟩ := ord_is f g h
  have L1 := less_calls f g
  have L2 := less_calls g f
  have L3 := less_calls f f
  have L4 := less_calls g h
  have L5 := less_calls f h
  rw [ho.px] at L1
  rw [ho.py] at L2
  rw [ho.pz] at L3
  rw [ho.p1] at L4
  rw [ho.p2] at L5
  have HO := hd ho
  clear ho ht
  obtain ⟨fk, fl, fv⟩ := f
  obtain ⟨gk, gl, gv⟩ := g
  obtain ⟨hk, hl, hv⟩ := h
  rw [← bs_size] at h1 h2 h3
  simp only [fldV] at *
  have HFG := hd (show (bs fv).toList = (bs gv).toList → fv = gv by rw [bs_toL, bs_toL]; exact id)
  have HGF := hd (show fv = gv → bs fv = bs gv by intro h; rw [h])
  generalize bs fv = FV at h1 L1 L2 L3 L5 HFG HGF ⊢
  generalize bs gv = GV at h2 L1 L2 L4 HFG HGF ⊢
  generalize bs hv = HV at h3 L4 L5 ⊢
  obtain ⟨X, hX⟩ : ∃ X, X = ((w.alloc (.cells #[.int .i64 fk, .int .i64 fl, .string FV] 23)).alloc (.cells #[.int .i64 gk, .int .i64 gl, .string GV] 23)).alloc (.cells #[.int .i64 hk, .int .i64 hl, .string HV] 23) := ⟨_, rfl⟩
  have HC := hd (fun W (hb : Below X.heap.size X W) => three_cell w W 23 #[.int .i64 fk, .int .i64 fl, .string FV] #[.int .i64 gk, .int .i64 gl, .string GV] #[.int .i64 hk, .int .i64 hl, .string HV] (by rw [← hX]; exact hb))
  have HW := hd (fun W (hb : Below X.heap.size X W) => three_bel w W (.cells #[.int .i64 fk, .int .i64 fl, .string FV] 23) (.cells #[.int .i64 gk, .int .i64 gl, .string GV] 23) (.cells #[.int .i64 hk, .int .i64 hl, .string HV] 23) (by rw [← hX]; exact hb))
  have hx := hd hX
  clear hX
  have M1 := hd L1
  have M2 := hd L2
  have M3 := hd L3
  have M4 := hd L4
  have M5 := hd L5
  clear L1 L2 L3 L4 L5
  go_enter Tryd.func5, Tryd.ntmps5
  go_wp2_with fail
  rw [← hx.o]
  refine (F1.o X (HW.o X (Below.refl _ X))).mono ?_
  rintro e0 w1 ⟨rfl, hb1⟩
  have HB1 := hd hb1
  obtain ⟨k1, k2, k3⟩ := HC.o _ HB1.o
  have a0 := k1.at_ 0 rfl
  have a1 := k1.at_ 1 rfl
  have a2 := k1.at_ 2 rfl
  have b0 := k2.at_ 0 rfl
  have b1 := k2.at_ 1 rfl
  have b2 := k2.at_ 2 rfl
  have c0 := k3.at_ 0 rfl
  have c1 := k3.at_ 1 rfl
  have c2 := k3.at_ 2 rfl
  clear k1 k2 k3 hb1
  by_cases s1 : 200 < FV.size
  · go_wp2_with fail
    refine (F1.o _ (HW.o _ HB1.o)).mono ?_
    rintro e0 w2 ⟨rfl, hb2⟩
    go_wp2
    go_ret
    exact ⟨rfl, HW.o _ (HB1.o.trans (hb2.mono HB1.o.size))⟩
  by_cases s2 : 200 < GV.size
  · go_wp2_with fail
    refine (F1.o _ (HW.o _ HB1.o)).mono ?_
    rintro e0 w2 ⟨rfl, hb2⟩
    go_wp2
    go_ret
    exact ⟨rfl, HW.o _ (HB1.o.trans (hb2.mono HB1.o.size))⟩
  by_cases s3 : 200 < HV.size
  · go_wp2_with fail
    refine (F1.o _ (HW.o _ HB1.o)).mono ?_
    rintro e0 w2 ⟨rfl, hb2⟩
    go_wp2
    go_ret
    exact ⟨rfl, HW.o _ (HB1.o.trans (hb2.mono HB1.o.size))⟩
  -- WALKS
  go_wp2_with fail
  have r1 := cell_regrown a0
  have r2 := cell_regrown a1
  have r3 := cell_regrown a2
  have r4 := cell_regrown b0
  have r5 := cell_regrown b1
  have r6 := cell_regrown b2
  have D1 := hd (fun dd os => Calls.regrown_of (M1.o (grow (redrawn w1 dd) os)))
  have D2 := hd (fun dd os => Calls.regrown_of (M2.o (grow (redrawn w1 dd) os)))
  refine wp_region_quiet_below (by kernel_rfl) (by kernel_rfl) ?_
  go_big_quiet_step (exact D1.o _ _)
  go_big_quiet_step (exact D1.o _ _)
  go_big_quiet_step (exact D1.o _ _)
  repeat (go_big_quiet_step (exact D2.o _ _))
  refine wpQuiet_nil ?_
  intro _ hw'
  obtain ⟨⟨dq, osq⟩, hw''⟩ := hw'
  subst hw''
  have hb2 := below_regrown w1 dq osq
  generalize grow (redrawn w1 dq) osq = w2 at hb2 ⊢
  have HB2 := hd (HB1.o.trans (hb2.mono HB1.o.size))
  clear r1 r2 r3 r4 r5 r6 D1 D2 hb2 a0 a1 a2 b0 b1 b2 c0 c1 c2
  obtain ⟨k1, k2, k3⟩ := HC.o _ HB2.o
  have a0 := k1.at_ 0 rfl
  have a1 := k1.at_ 1 rfl
  have a2 := k1.at_ 2 rfl
  have b0 := k2.at_ 0 rfl
  have b1 := k2.at_ 1 rfl
  have b2 := k2.at_ 2 rfl
  have c0 := k3.at_ 0 rfl
  have c1 := k3.at_ 1 rfl
  have c2 := k3.at_ 2 rfl
  clear k1 k2 k3
  by_cases ek : fk = gk
  · by_cases el : fl = gl
    · by_cases ev : FV.toList = GV.toList
      · have hv := HFG.o ev
        have hV := HGF.o hv
        subst ek el hv
        subst hV
        obtain rfl : e = true := HO.o.pe.symm.trans (by simp)
        obtain rfl : x = false := HO.o.pn rfl
        obtain rfl : y = false := HO.o.py.symm.trans HO.o.pz
        clear ev
        go_wp2_with fail
        clear a0 a1 a2 b0 b1 b2 c0 c1 c2
        refine (M3.o _).mono ?_
        rintro e0 w3 ⟨rfl, hb3⟩
        have HB3 := hd (HB2.o.trans (hb3.mono HB2.o.size))
        clear hb3
        obtain ⟨k1, k2, k3⟩ := HC.o _ HB3.o
        have a0 := k1.at_ 0 rfl
        have a1 := k1.at_ 1 rfl
        have a2 := k1.at_ 2 rfl
        have b0 := k2.at_ 0 rfl
        have b1 := k2.at_ 1 rfl
        have b2 := k2.at_ 2 rfl
        have c0 := k3.at_ 0 rfl
        have c1 := k3.at_ 1 rfl
        have c2 := k3.at_ 2 rfl
        clear k1 k2 k3
        go_wp2
        go_ret
        exact ⟨rfl, HW.o _ HB3.o⟩
      · have nv : (FV.toList == GV.toList) = false := by simpa using ev
        subst ek el
        obtain rfl : e = false := HO.o.pe.symm.trans (by
          rw [decide_eq_false_iff_not]; intro h; injection h with _ _ h; exact ev (by rw [HGF.o h]))
        clear ev
        cases x with
        | true =>
          obtain rfl : y = false := HO.o.pa rfl
          cases v1 with
          | true =>
            obtain rfl : v2 = true := HO.o.pt rfl rfl
            go_wp2_with fail
            clear a0 a1 a2 b0 b1 b2 c0 c1 c2
            refine (M3.o _).mono ?_
            rintro e0 w3 ⟨rfl, hb3⟩
            have HB3 := hd (HB2.o.trans (hb3.mono HB2.o.size))
            clear hb3
            obtain ⟨k1, k2, k3⟩ := HC.o _ HB3.o
            have a0 := k1.at_ 0 rfl
            have a1 := k1.at_ 1 rfl
            have a2 := k1.at_ 2 rfl
            have b0 := k2.at_ 0 rfl
            have b1 := k2.at_ 1 rfl
            have b2 := k2.at_ 2 rfl
            have c0 := k3.at_ 0 rfl
            have c1 := k3.at_ 1 rfl
            have c2 := k3.at_ 2 rfl
            clear k1 k2 k3
            go_wp2_with fail
            clear a0 a1 a2 b0 b1 b2 c0 c1 c2
            refine (M4.o _).mono ?_
            rintro e0 w4 ⟨rfl, hb4⟩
            have HB4 := hd (HB3.o.trans (hb4.mono HB3.o.size))
            clear hb4
            obtain ⟨k1, k2, k3⟩ := HC.o _ HB4.o
            have a0 := k1.at_ 0 rfl
            have a1 := k1.at_ 1 rfl
            have a2 := k1.at_ 2 rfl
            have b0 := k2.at_ 0 rfl
            have b1 := k2.at_ 1 rfl
            have b2 := k2.at_ 2 rfl
            have c0 := k3.at_ 0 rfl
            have c1 := k3.at_ 1 rfl
            have c2 := k3.at_ 2 rfl
            clear k1 k2 k3
            go_wp2_with fail
            clear a0 a1 a2 b0 b1 b2 c0 c1 c2
            refine (M5.o _).mono ?_
            rintro e0 w5 ⟨rfl, hb5⟩
            have HB5 := hd (HB4.o.trans (hb5.mono HB4.o.size))
            clear hb5
            obtain ⟨k1, k2, k3⟩ := HC.o _ HB5.o
            have a0 := k1.at_ 0 rfl
            have a1 := k1.at_ 1 rfl
            have a2 := k1.at_ 2 rfl
            have b0 := k2.at_ 0 rfl
            have b1 := k2.at_ 1 rfl
            have b2 := k2.at_ 2 rfl
            have c0 := k3.at_ 0 rfl
            have c1 := k3.at_ 1 rfl
            have c2 := k3.at_ 2 rfl
            clear k1 k2 k3
            go_wp2
            go_ret
            exact ⟨rfl, HW.o _ HB5.o⟩
          | false =>
            go_wp2_with fail
            clear a0 a1 a2 b0 b1 b2 c0 c1 c2
            refine (M3.o _).mono ?_
            rintro e0 w3 ⟨rfl, hb3⟩
            have HB3 := hd (HB2.o.trans (hb3.mono HB2.o.size))
            clear hb3
            obtain ⟨k1, k2, k3⟩ := HC.o _ HB3.o
            have a0 := k1.at_ 0 rfl
            have a1 := k1.at_ 1 rfl
            have a2 := k1.at_ 2 rfl
            have b0 := k2.at_ 0 rfl
            have b1 := k2.at_ 1 rfl
            have b2 := k2.at_ 2 rfl
            have c0 := k3.at_ 0 rfl
            have c1 := k3.at_ 1 rfl
            have c2 := k3.at_ 2 rfl
            clear k1 k2 k3
            go_wp2_with fail
            clear a0 a1 a2 b0 b1 b2 c0 c1 c2
            refine (M4.o _).mono ?_
            rintro e0 w4 ⟨rfl, hb4⟩
            have HB4 := hd (HB3.o.trans (hb4.mono HB3.o.size))
            clear hb4
            obtain ⟨k1, k2, k3⟩ := HC.o _ HB4.o
            have a0 := k1.at_ 0 rfl
            have a1 := k1.at_ 1 rfl
            have a2 := k1.at_ 2 rfl
            have b0 := k2.at_ 0 rfl
            have b1 := k2.at_ 1 rfl
            have b2 := k2.at_ 2 rfl
            have c0 := k3.at_ 0 rfl
            have c1 := k3.at_ 1 rfl
            have c2 := k3.at_ 2 rfl
            clear k1 k2 k3
            go_wp2
            go_ret
            exact ⟨rfl, HW.o _ HB4.o⟩
        | false =>
          obtain rfl : y = true := HO.o.pm rfl rfl
          go_wp2_with fail
          clear a0 a1 a2 b0 b1 b2 c0 c1 c2
          refine (M3.o _).mono ?_
          rintro e0 w3 ⟨rfl, hb3⟩
          have HB3 := hd (HB2.o.trans (hb3.mono HB2.o.size))
          clear hb3
          obtain ⟨k1, k2, k3⟩ := HC.o _ HB3.o
          have a0 := k1.at_ 0 rfl
          have a1 := k1.at_ 1 rfl
          have a2 := k1.at_ 2 rfl
          have b0 := k2.at_ 0 rfl
          have b1 := k2.at_ 1 rfl
          have b2 := k2.at_ 2 rfl
          have c0 := k3.at_ 0 rfl
          have c1 := k3.at_ 1 rfl
          have c2 := k3.at_ 2 rfl
          clear k1 k2 k3
          go_wp2
          go_ret
          exact ⟨rfl, HW.o _ HB3.o⟩
    · have nl : (fl == gl) = false := by simpa using el
      subst ek
      obtain rfl : e = false := HO.o.pe.symm.trans (by
        rw [decide_eq_false_iff_not]; intro h; injection h with _ h _; exact el h)
      clear el
      cases x with
      | true =>
        obtain rfl : y = false := HO.o.pa rfl
        cases v1 with
        | true =>
          obtain rfl : v2 = true := HO.o.pt rfl rfl
          go_wp2_with fail
          clear a0 a1 a2 b0 b1 b2 c0 c1 c2
          refine (M3.o _).mono ?_
          rintro e0 w3 ⟨rfl, hb3⟩
          have HB3 := hd (HB2.o.trans (hb3.mono HB2.o.size))
          clear hb3
          obtain ⟨k1, k2, k3⟩ := HC.o _ HB3.o
          have a0 := k1.at_ 0 rfl
          have a1 := k1.at_ 1 rfl
          have a2 := k1.at_ 2 rfl
          have b0 := k2.at_ 0 rfl
          have b1 := k2.at_ 1 rfl
          have b2 := k2.at_ 2 rfl
          have c0 := k3.at_ 0 rfl
          have c1 := k3.at_ 1 rfl
          have c2 := k3.at_ 2 rfl
          clear k1 k2 k3
          go_wp2_with fail
          clear a0 a1 a2 b0 b1 b2 c0 c1 c2
          refine (M4.o _).mono ?_
          rintro e0 w4 ⟨rfl, hb4⟩
          have HB4 := hd (HB3.o.trans (hb4.mono HB3.o.size))
          clear hb4
          obtain ⟨k1, k2, k3⟩ := HC.o _ HB4.o
          have a0 := k1.at_ 0 rfl
          have a1 := k1.at_ 1 rfl
          have a2 := k1.at_ 2 rfl
          have b0 := k2.at_ 0 rfl
          have b1 := k2.at_ 1 rfl
          have b2 := k2.at_ 2 rfl
          have c0 := k3.at_ 0 rfl
          have c1 := k3.at_ 1 rfl
          have c2 := k3.at_ 2 rfl
          clear k1 k2 k3
          go_wp2_with fail
          clear a0 a1 a2 b0 b1 b2 c0 c1 c2
          refine (M5.o _).mono ?_
          rintro e0 w5 ⟨rfl, hb5⟩
          have HB5 := hd (HB4.o.trans (hb5.mono HB4.o.size))
          clear hb5
          obtain ⟨k1, k2, k3⟩ := HC.o _ HB5.o
          have a0 := k1.at_ 0 rfl
          have a1 := k1.at_ 1 rfl
          have a2 := k1.at_ 2 rfl
          have b0 := k2.at_ 0 rfl
          have b1 := k2.at_ 1 rfl
          have b2 := k2.at_ 2 rfl
          have c0 := k3.at_ 0 rfl
          have c1 := k3.at_ 1 rfl
          have c2 := k3.at_ 2 rfl
          clear k1 k2 k3
          go_wp2
          go_ret
          exact ⟨rfl, HW.o _ HB5.o⟩
        | false =>
          go_wp2_with fail
          clear a0 a1 a2 b0 b1 b2 c0 c1 c2
          refine (M3.o _).mono ?_
          rintro e0 w3 ⟨rfl, hb3⟩
          have HB3 := hd (HB2.o.trans (hb3.mono HB2.o.size))
          clear hb3
          obtain ⟨k1, k2, k3⟩ := HC.o _ HB3.o
          have a0 := k1.at_ 0 rfl
          have a1 := k1.at_ 1 rfl
          have a2 := k1.at_ 2 rfl
          have b0 := k2.at_ 0 rfl
          have b1 := k2.at_ 1 rfl
          have b2 := k2.at_ 2 rfl
          have c0 := k3.at_ 0 rfl
          have c1 := k3.at_ 1 rfl
          have c2 := k3.at_ 2 rfl
          clear k1 k2 k3
          go_wp2_with fail
          clear a0 a1 a2 b0 b1 b2 c0 c1 c2
          refine (M4.o _).mono ?_
          rintro e0 w4 ⟨rfl, hb4⟩
          have HB4 := hd (HB3.o.trans (hb4.mono HB3.o.size))
          clear hb4
          obtain ⟨k1, k2, k3⟩ := HC.o _ HB4.o
          have a0 := k1.at_ 0 rfl
          have a1 := k1.at_ 1 rfl
          have a2 := k1.at_ 2 rfl
          have b0 := k2.at_ 0 rfl
          have b1 := k2.at_ 1 rfl
          have b2 := k2.at_ 2 rfl
          have c0 := k3.at_ 0 rfl
          have c1 := k3.at_ 1 rfl
          have c2 := k3.at_ 2 rfl
          clear k1 k2 k3
          go_wp2
          go_ret
          exact ⟨rfl, HW.o _ HB4.o⟩
      | false =>
        obtain rfl : y = true := HO.o.pm rfl rfl
        go_wp2_with fail
        clear a0 a1 a2 b0 b1 b2 c0 c1 c2
        refine (M3.o _).mono ?_
        rintro e0 w3 ⟨rfl, hb3⟩
        have HB3 := hd (HB2.o.trans (hb3.mono HB2.o.size))
        clear hb3
        obtain ⟨k1, k2, k3⟩ := HC.o _ HB3.o
        have a0 := k1.at_ 0 rfl
        have a1 := k1.at_ 1 rfl
        have a2 := k1.at_ 2 rfl
        have b0 := k2.at_ 0 rfl
        have b1 := k2.at_ 1 rfl
        have b2 := k2.at_ 2 rfl
        have c0 := k3.at_ 0 rfl
        have c1 := k3.at_ 1 rfl
        have c2 := k3.at_ 2 rfl
        clear k1 k2 k3
        go_wp2
        go_ret
        exact ⟨rfl, HW.o _ HB3.o⟩
  · have nk : (fk == gk) = false := by simpa using ek
    have HNE := hd ek
    obtain rfl : e = false := HO.o.pe.symm.trans (by
      rw [decide_eq_false_iff_not]; intro h; injection h with h _ _; exact ek h)
    clear ek
    cases x with
    | true =>
      obtain rfl : y = false := HO.o.pa rfl
      have lk : fk < gk := HO.o.pk rfl HNE.o
      have lkd : decide (fk < gk) = true := by simpa using lk
      cases v1 with
      | true =>
        obtain rfl : v2 = true := HO.o.pt rfl rfl
        go_wp2_with fail
        clear a0 a1 a2 b0 b1 b2 c0 c1 c2
        refine (M3.o _).mono ?_
        rintro e0 w3 ⟨rfl, hb3⟩
        have HB3 := hd (HB2.o.trans (hb3.mono HB2.o.size))
        clear hb3
        obtain ⟨k1, k2, k3⟩ := HC.o _ HB3.o
        have a0 := k1.at_ 0 rfl
        have a1 := k1.at_ 1 rfl
        have a2 := k1.at_ 2 rfl
        have b0 := k2.at_ 0 rfl
        have b1 := k2.at_ 1 rfl
        have b2 := k2.at_ 2 rfl
        have c0 := k3.at_ 0 rfl
        have c1 := k3.at_ 1 rfl
        have c2 := k3.at_ 2 rfl
        clear k1 k2 k3
        go_wp2_with fail
        clear a0 a1 a2 b0 b1 b2 c0 c1 c2
        refine (M4.o _).mono ?_
        rintro e0 w4 ⟨rfl, hb4⟩
        have HB4 := hd (HB3.o.trans (hb4.mono HB3.o.size))
        clear hb4
        obtain ⟨k1, k2, k3⟩ := HC.o _ HB4.o
        have a0 := k1.at_ 0 rfl
        have a1 := k1.at_ 1 rfl
        have a2 := k1.at_ 2 rfl
        have b0 := k2.at_ 0 rfl
        have b1 := k2.at_ 1 rfl
        have b2 := k2.at_ 2 rfl
        have c0 := k3.at_ 0 rfl
        have c1 := k3.at_ 1 rfl
        have c2 := k3.at_ 2 rfl
        clear k1 k2 k3
        go_wp2_with fail
        clear a0 a1 a2 b0 b1 b2 c0 c1 c2
        refine (M5.o _).mono ?_
        rintro e0 w5 ⟨rfl, hb5⟩
        have HB5 := hd (HB4.o.trans (hb5.mono HB4.o.size))
        clear hb5
        obtain ⟨k1, k2, k3⟩ := HC.o _ HB5.o
        have a0 := k1.at_ 0 rfl
        have a1 := k1.at_ 1 rfl
        have a2 := k1.at_ 2 rfl
        have b0 := k2.at_ 0 rfl
        have b1 := k2.at_ 1 rfl
        have b2 := k2.at_ 2 rfl
        have c0 := k3.at_ 0 rfl
        have c1 := k3.at_ 1 rfl
        have c2 := k3.at_ 2 rfl
        clear k1 k2 k3
        go_wp2
        go_ret
        exact ⟨rfl, HW.o _ HB5.o⟩
      | false =>
        go_wp2_with fail
        clear a0 a1 a2 b0 b1 b2 c0 c1 c2
        refine (M3.o _).mono ?_
        rintro e0 w3 ⟨rfl, hb3⟩
        have HB3 := hd (HB2.o.trans (hb3.mono HB2.o.size))
        clear hb3
        obtain ⟨k1, k2, k3⟩ := HC.o _ HB3.o
        have a0 := k1.at_ 0 rfl
        have a1 := k1.at_ 1 rfl
        have a2 := k1.at_ 2 rfl
        have b0 := k2.at_ 0 rfl
        have b1 := k2.at_ 1 rfl
        have b2 := k2.at_ 2 rfl
        have c0 := k3.at_ 0 rfl
        have c1 := k3.at_ 1 rfl
        have c2 := k3.at_ 2 rfl
        clear k1 k2 k3
        go_wp2_with fail
        clear a0 a1 a2 b0 b1 b2 c0 c1 c2
        refine (M4.o _).mono ?_
        rintro e0 w4 ⟨rfl, hb4⟩
        have HB4 := hd (HB3.o.trans (hb4.mono HB3.o.size))
        clear hb4
        obtain ⟨k1, k2, k3⟩ := HC.o _ HB4.o
        have a0 := k1.at_ 0 rfl
        have a1 := k1.at_ 1 rfl
        have a2 := k1.at_ 2 rfl
        have b0 := k2.at_ 0 rfl
        have b1 := k2.at_ 1 rfl
        have b2 := k2.at_ 2 rfl
        have c0 := k3.at_ 0 rfl
        have c1 := k3.at_ 1 rfl
        have c2 := k3.at_ 2 rfl
        clear k1 k2 k3
        go_wp2
        go_ret
        exact ⟨rfl, HW.o _ HB4.o⟩
    | false =>
      obtain rfl : y = true := HO.o.pm rfl rfl
      have lk : ¬ fk < gk := HO.o.pl rfl HNE.o
      have lkd : decide (fk < gk) = false := by simpa using lk
      go_wp2_with fail
      clear a0 a1 a2 b0 b1 b2 c0 c1 c2
      refine (M3.o _).mono ?_
      rintro e0 w3 ⟨rfl, hb3⟩
      have HB3 := hd (HB2.o.trans (hb3.mono HB2.o.size))
      clear hb3
      obtain ⟨k1, k2, k3⟩ := HC.o _ HB3.o
      have a0 := k1.at_ 0 rfl
      have a1 := k1.at_ 1 rfl
      have a2 := k1.at_ 2 rfl
      have b0 := k2.at_ 0 rfl
      have b1 := k2.at_ 1 rfl
      have b2 := k2.at_ 2 rfl
      have c0 := k3.at_ 0 rfl
      have c1 := k3.at_ 1 rfl
      have c2 := k3.at_ 2 rfl
      clear k1 k2 k3
      go_wp2
      go_ret
      exact ⟨rfl, HW.o _ HB3.o⟩

end Go.Proofs.YtpejlcaoggedfaaDoor
