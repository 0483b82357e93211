/-
  Merge: the law of the one that changed nothing.
-/
import Derived.Test.YtpejlcaoggedfaaGreatDoorGD
import Derived.Test.YtpejlcaoggedfaaGreatDoorGB
set_option linter.unusedVariables false
set_option linter.unusedSimpArgs false
namespace Go.Proofs.YtpejlcaoggedfaaGreatDoor
open Go.RowKit Go.Sort

set_option maxRecDepth 100000 in
set_option maxHeartbeats 8000000 in
theorem mone_calls (so sa : ByteArray) (w : World) (ht : Tbs w) (zo : so.size ≤ maxLen) (za : sa.size ≤ maxLen) :
    Calls Tryz.prog 6 #[.string so, .string sa] w fun e w' => e = .returned (.bool true) ∧ Below w.heap.size w w' := by
  have HT := hd (fun W (h : Below w.heap.size w W) => ht.below h)
  have F1 := hd (fun W (h : Below w.heap.size w W) => mfirst_calls W (ht.below h))
  have L1 := fun W => mlight_calls so sa ⟨#[]⟩ zo za (by decide) W
  clear ht
  by_cases hl : ShortP so sa ⟨#[]⟩
  case neg =>
    rw [decide_eq_false hl] at L1
    replace L1 := hd L1
    clear hl
    go_enter Tryz.func6, Tryz.ntmps6
    go_wp2_with fail
    refine (F1.o w (Below.refl _ _)).mono ?_
    rintro e w1 ⟨rfl, hb1⟩
    have HB1 := hd hb1
    clear hb1
    go_wp2_with fail
    refine (L1.o w1).mono ?_
    rintro e w2 ⟨rfl, rfl⟩
    go_wp2_with fail
    refine (F1.o w1 HB1.o).mono ?_
    rintro e wz ⟨rfl, hbz⟩
    have HBz := hd (HB1.o.trans (hbz.mono HB1.o.size))
    clear hbz
    go_wp2
    go_ret
    exact ⟨rfl, HBz.o⟩
  rw [decide_eq_true hl] at L1
  replace L1 := hd L1
  have yo : so.size ≤ 1000000 := by have := hl.1; omega
  have ya : sa.size ≤ 1000000 := by have := hl.2.1; omega
  clear hl
  have I1 := fun W => rcis_calls so yo W
  have I2 := fun W => rcis_calls sa ya W
  by_cases h1 : crdE so.data.toList = 0
  case neg =>
    rw [decide_eq_false h1] at I1
    replace I1 := hd I1
    clear h1 I2
    go_enter Tryz.func6, Tryz.ntmps6
    go_wp2_with fail
    refine (F1.o w (Below.refl _ _)).mono ?_
    rintro e w1 ⟨rfl, hb1⟩
    have HB1 := hd hb1
    clear hb1
    go_wp2_with fail
    refine (L1.o w1).mono ?_
    rintro e w2 ⟨rfl, rfl⟩
    go_wp2_with fail
    refine (I1.o w1).mono ?_
    rintro e w2 ⟨rfl, hb⟩
    have HB2 := hd (HB1.o.trans (hb.mono HB1.o.size))
    clear hb
    go_wp2_with fail
    refine (F1.o w2 HB2.o).mono ?_
    rintro e wz ⟨rfl, hbz⟩
    have HBz := hd (HB2.o.trans (hbz.mono HB2.o.size))
    clear hbz
    go_wp2
    go_ret
    exact ⟨rfl, HBz.o⟩
  rw [decide_eq_true h1] at I1
  replace I1 := hd I1
  by_cases h2 : crdE sa.data.toList = 0
  case neg =>
    rw [decide_eq_false h2] at I2
    replace I2 := hd I2
    clear h1 h2
    go_enter Tryz.func6, Tryz.ntmps6
    go_wp2_with fail
    refine (F1.o w (Below.refl _ _)).mono ?_
    rintro e w1 ⟨rfl, hb1⟩
    have HB1 := hd hb1
    clear hb1
    go_wp2_with fail
    refine (L1.o w1).mono ?_
    rintro e w2 ⟨rfl, rfl⟩
    go_wp2_with fail
    refine (I1.o w1).mono ?_
    rintro e w2 ⟨rfl, hb⟩
    have HB2 := hd (HB1.o.trans (hb.mono HB1.o.size))
    clear hb
    go_wp2_with fail
    refine (I2.o w2).mono ?_
    rintro e w3 ⟨rfl, hb⟩
    have HB3 := hd (HB2.o.trans (hb.mono HB2.o.size))
    clear hb
    go_wp2_with fail
    refine (F1.o w3 HB3.o).mono ?_
    rintro e wz ⟨rfl, hbz⟩
    have HBz := hd (HB3.o.trans (hbz.mono HB3.o.size))
    clear hbz
    go_wp2
    go_ret
    exact ⟨rfl, HBz.o⟩
  rw [decide_eq_true h2] at I2
  replace I2 := hd I2
  have HP := thr_one h1 h2
  have T1 := fun W (h : Below w.heap.size w W) => three_calls so so sa yo yo ya W (HT.o W h)
  have T2 := fun W (h : Below w.heap.size w W) => three_calls so sa so yo ya yo W (HT.o W h)
  have T3 := fun W (h : Below w.heap.size w W) => three_calls so sa sa yo ya ya W (HT.o W h)
  rw [HP.1.1, HP.1.2.1, HP.1.2.2, bs_self] at T1
  rw [HP.2.1.1, HP.2.1.2.1, HP.2.1.2.2, bs_self] at T2
  rw [HP.2.2.1, HP.2.2.2.1, HP.2.2.2.2, bs_self] at T3
  replace T1 := hd T1
  replace T2 := hd T2
  replace T3 := hd T3
  clear HP h1 h2
  go_enter Tryz.func6, Tryz.ntmps6
  go_wp2_with fail
  refine (F1.o w (Below.refl _ _)).mono ?_
  rintro e w1 ⟨rfl, hb1⟩
  have HB1 := hd hb1
  clear hb1
  go_wp2_with fail
  refine (L1.o w1).mono ?_
  rintro e w2 ⟨rfl, rfl⟩
  go_wp2_with fail
  refine (I1.o w1).mono ?_
  rintro e w2 ⟨rfl, hb⟩
  have HB2 := hd (HB1.o.trans (hb.mono HB1.o.size))
  clear hb
  go_wp2_with fail
  refine (I2.o w2).mono ?_
  rintro e w3 ⟨rfl, hb⟩
  have HB3 := hd (HB2.o.trans (hb.mono HB2.o.size))
  clear hb
  go_wp2_with fail
  refine (T1.o w3 HB3.o).mono ?_
  rintro e w4 ⟨rfl, hb⟩
  have HB4 := hd (HB3.o.trans (hb.mono HB3.o.size))
  clear hb
  go_wp2_with fail
  refine (T2.o w4 HB4.o).mono ?_
  rintro e w5 ⟨rfl, hb⟩
  have HB5 := hd (HB4.o.trans (hb.mono HB4.o.size))
  clear hb
  go_wp2_with fail
  refine (T3.o w5 HB5.o).mono ?_
  rintro e w6 ⟨rfl, hb⟩
  have HB6 := hd (HB5.o.trans (hb.mono HB5.o.size))
  clear hb
  go_wp2
  go_ret
  exact ⟨rfl, HB6.o⟩

end Go.Proofs.YtpejlcaoggedfaaGreatDoor
