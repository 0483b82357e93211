/-
  Merge: the law of places changed.
-/
import Derived.Test.YtpejlcaoggedfaaGreatDoorGD
set_option linter.unusedVariables false
set_option linter.unusedSimpArgs false
namespace Go.Proofs.YtpejlcaoggedfaaGreatDoor
open Go.RowKit Go.Sort

set_option maxRecDepth 100000 in
set_option maxHeartbeats 8000000 in
theorem mturns_calls (so sa sb : ByteArray) (w : World) (ht : Tbs w) (zo : so.size ≤ maxLen) (za : sa.size ≤ maxLen) (zb : sb.size ≤ maxLen) :
    Calls Tryz.prog 7 #[.string so, .string sa, .string sb] w fun e w' => e = .returned (.bool true) ∧ Below w.heap.size w w' := by
  have HT := hd (fun W (h : Below w.heap.size w W) => ht.below h)
  have F1 := hd (fun W (h : Below w.heap.size w W) => mfirst_calls W (ht.below h))
  have L1 := fun W => mlight_calls so sa sb zo za zb W
  clear ht
  by_cases hl : ShortP so sa sb
  case neg =>
    rw [decide_eq_false hl] at L1
    replace L1 := hd L1
    clear hl
    go_enter Tryz.func7, Tryz.ntmps7
    go_wp2_with fail
    refine (F1.o w (Below.refl _ _)).mono ?_
    rintro e w1 ⟨rfl, hb1⟩
    have HB1 := hd hb1
    clear hb1
    go_wp2_with fail
    refine (L1.o w1).mono ?_
    rintro e w2 ⟨rfl, rfl⟩
    go_wp2_with fail
    refine (F1.o w1 HB1.o).mono ?_
    rintro e wz ⟨rfl, hbz⟩
    have HBz := hd (HB1.o.trans (hbz.mono HB1.o.size))
    clear hbz
    go_wp2
    go_ret
    exact ⟨rfl, HBz.o⟩
  rw [decide_eq_true hl] at L1
  replace L1 := hd L1
  have yo : so.size ≤ 1000000 := by have := hl.1; omega
  have ya : sa.size ≤ 1000000 := by have := hl.2.1; omega
  have yb : sb.size ≤ 1000000 := by have := hl.2.2; omega
  clear hl
  have T1 := fun W (h : Below w.heap.size w W) => three_calls so sa sb yo ya yb W (HT.o W h)
  have T2 := fun W (h : Below w.heap.size w W) => three_calls so sb sa yo yb ya W (HT.o W h)
  by_cases h1 : thrE so.data.toList sa.data.toList sb.data.toList = 0
  case neg =>
    rw [(thr_fail h1).1, (thr_fail h1).2] at T1
    obtain ⟨E, hE⟩ : ∃ V, thrE so.data.toList sa.data.toList sb.data.toList = V := ⟨_, rfl⟩
    rw [hE] at T1 h1
    have hne : (E != 0) = true := by simpa using h1
    have hbn : bs [] = ⟨#[]⟩ := rfl
    rw [hbn] at T1
    replace T1 := hd T1
    replace T2 := hd T2
    clear h1 hE hbn
    go_enter Tryz.func7, Tryz.ntmps7
    go_wp2_with fail
    refine (F1.o w (Below.refl _ _)).mono ?_
    rintro e w1 ⟨rfl, hb1⟩
    have HB1 := hd hb1
    clear hb1
    go_wp2_with fail
    refine (L1.o w1).mono ?_
    rintro e w2 ⟨rfl, rfl⟩
    go_wp2_with fail
    refine (T1.o w1 HB1.o).mono ?_
    rintro e w2 ⟨rfl, hb⟩
    have HB2 := hd (HB1.o.trans (hb.mono HB1.o.size))
    clear hb
    go_wp2_with fail
    refine (T2.o w2 HB2.o).mono ?_
    rintro e w3 ⟨rfl, hb⟩
    have HB3 := hd (HB2.o.trans (hb.mono HB2.o.size))
    clear hb
    go_wp2
    go_ret
    exact ⟨rfl, HB3.o⟩
  by_cases h2 : thrE so.data.toList sb.data.toList sa.data.toList = 0
  case neg =>
    rw [h1] at T1
    obtain ⟨E, hE⟩ : ∃ V, thrE so.data.toList sb.data.toList sa.data.toList = V := ⟨_, rfl⟩
    rw [hE] at T2 h2
    have hne : (E != 0) = true := by simpa using h2
    replace T1 := hd T1
    replace T2 := hd T2
    clear h1 h2 hE
    go_enter Tryz.func7, Tryz.ntmps7
    go_wp2_with fail
    refine (F1.o w (Below.refl _ _)).mono ?_
    rintro e w1 ⟨rfl, hb1⟩
    have HB1 := hd hb1
    clear hb1
    go_wp2_with fail
    refine (L1.o w1).mono ?_
    rintro e w2 ⟨rfl, rfl⟩
    go_wp2_with fail
    refine (T1.o w1 HB1.o).mono ?_
    rintro e w2 ⟨rfl, hb⟩
    have HB2 := hd (HB1.o.trans (hb.mono HB1.o.size))
    clear hb
    go_wp2_with fail
    refine (T2.o w2 HB2.o).mono ?_
    rintro e w3 ⟨rfl, hb⟩
    have HB3 := hd (HB2.o.trans (hb.mono HB2.o.size))
    clear hb
    go_wp2
    go_ret
    exact ⟨rfl, HB3.o⟩
  have HP := thr_turn h1 h2
  rw [h1] at T1
  rw [h2, ← HP.1] at T2
  by_cases h3 : thrM so.data.toList sa.data.toList sb.data.toList = 0
  · rw [h3] at T1 T2
    rw [← HP.2 h3] at T2
    obtain ⟨V, hV⟩ : ∃ V, thrT so.data.toList sa.data.toList sb.data.toList = V := ⟨_, rfl⟩
    rw [hV] at T1 T2
    replace T1 := hd T1
    replace T2 := hd T2
    clear h1 h2 h3 HP hV
    go_enter Tryz.func7, Tryz.ntmps7
    go_wp2_with fail
    refine (F1.o w (Below.refl _ _)).mono ?_
    rintro e w1 ⟨rfl, hb1⟩
    have HB1 := hd hb1
    clear hb1
    go_wp2_with fail
    refine (L1.o w1).mono ?_
    rintro e w2 ⟨rfl, rfl⟩
    go_wp2_with fail
    refine (T1.o w1 HB1.o).mono ?_
    rintro e w2 ⟨rfl, hb⟩
    have HB2 := hd (HB1.o.trans (hb.mono HB1.o.size))
    clear hb
    go_wp2_with fail
    refine (T2.o w2 HB2.o).mono ?_
    rintro e w3 ⟨rfl, hb⟩
    have HB3 := hd (HB2.o.trans (hb.mono HB2.o.size))
    clear hb
    go_wp2
    go_ret
    exact ⟨rfl, HB3.o⟩
  · obtain ⟨M, hM⟩ : ∃ V, thrM so.data.toList sa.data.toList sb.data.toList = V := ⟨_, rfl⟩
    rw [hM] at T1 T2 h3
    have hM0 : 0 < M := by omega
    have hMi : (0 : Int) < (M : Int) := by omega
    replace T1 := hd T1
    replace T2 := hd T2
    clear h1 h2 h3 HP hM
    go_enter Tryz.func7, Tryz.ntmps7
    go_wp2_with fail
    refine (F1.o w (Below.refl _ _)).mono ?_
    rintro e w1 ⟨rfl, hb1⟩
    have HB1 := hd hb1
    clear hb1
    go_wp2_with fail
    refine (L1.o w1).mono ?_
    rintro e w2 ⟨rfl, rfl⟩
    go_wp2_with fail
    refine (T1.o w1 HB1.o).mono ?_
    rintro e w2 ⟨rfl, hb⟩
    have HB2 := hd (HB1.o.trans (hb.mono HB1.o.size))
    clear hb
    go_wp2_with fail
    refine (T2.o w2 HB2.o).mono ?_
    rintro e w3 ⟨rfl, hb⟩
    have HB3 := hd (HB2.o.trans (hb.mono HB2.o.size))
    clear hb
    go_wp2
    go_ret
    exact ⟨rfl, HB3.o⟩

end Go.Proofs.YtpejlcaoggedfaaGreatDoor
