/-
  Merge: the law of what the two sides tell.
-/
import Derived.Test.YtpejlcaoggedfaaGreatDoorGD
import Derived.Test.YtpejlcaoggedfaaGreatDoorMRth
import Derived.Test.YtpejlcaoggedfaaGreatDoorKFs
set_option linter.unusedVariables false
set_option linter.unusedSimpArgs false
namespace Go.Proofs.YtpejlcaoggedfaaGreatDoor
open Go.RowKit Go.Sort

set_option maxRecDepth 100000 in
set_option maxHeartbeats 8000000 in
theorem mtells8_calls (so sa sb : ByteArray) (w : World) (ht : Tbs w) (zo : so.size ≤ maxLen) (za : sa.size ≤ maxLen) (zb : sb.size ≤ maxLen) :
    Calls Tryz.prog 9 #[.string so, .string sa, .string sb] w fun e w' => e = .returned (.bool true) ∧ Below w.heap.size w w' := by
  have HT := hd (fun W (h : Below w.heap.size w W) => ht.below h)
  have F1 := hd (fun W (h : Below w.heap.size w W) => mfirst_calls W (ht.below h))
  have L1 := fun W => mlight_calls so sa sb zo za zb W
  clear ht
  by_cases hl : ShortP so sa sb
  case neg =>
    rw [decide_eq_false hl] at L1
    replace L1 := hd L1
    clear hl
    go_enter Tryz.func9, Tryz.ntmps9
    go_wp2_with fail
    refine (F1.o w (Below.refl _ _)).mono ?_
    rintro e w1 ⟨rfl, hb1⟩
    have HB1 := hd hb1
    clear hb1
    go_wp2_with fail
    refine (L1.o w1).mono ?_
    rintro e w2 ⟨rfl, rfl⟩
    go_wp2_with fail
    refine (F1.o w1 HB1.o).mono ?_
    rintro e wz ⟨rfl, hbz⟩
    have HBz := hd (HB1.o.trans (hbz.mono HB1.o.size))
    clear hbz
    go_wp2
    go_ret
    exact ⟨rfl, HBz.o⟩
  rw [decide_eq_true hl] at L1
  replace L1 := hd L1
  have yo : so.size ≤ 1000000 := by have := hl.1; omega
  have ya : sa.size ≤ 1000000 := by have := hl.2.1; omega
  have yb : sb.size ≤ 1000000 := by have := hl.2.2; omega
  clear hl
  have T1 := hd (fun W (h : Below w.heap.size w W) => three_calls so sa sb yo ya yb W (HT.o W h))
  have T2 := hd (fun W (_ : Below w.heap.size w W) => rthree_calls so sa sb yo ya yb W)
  have C1 := hd (fun W (h : Below w.heap.size w W) => chg_calls sa sb ya yb W (HT.o W h))
  have C2 := hd (fun W (_ : Below w.heap.size w W) => rchg_calls sa sb ya yb W)
  obtain ⟨V, hV⟩ : ∃ V, thrT so.data.toList sa.data.toList sb.data.toList = V := ⟨_, rfl⟩
  obtain ⟨M, hM⟩ : ∃ V, thrM so.data.toList sa.data.toList sb.data.toList = V := ⟨_, rfl⟩
  obtain ⟨E, hE⟩ : ∃ V, thrE so.data.toList sa.data.toList sb.data.toList = V := ⟨_, rfl⟩
  have T1' := fun W h => T1.o W h
  have T2' := fun W h => T2.o W h
  rw [hV, hM, hE] at T1' T2'
  replace T1 := hd T1'
  replace T2 := hd T2'
  clear T1' T2' hV hM hE
  go_enter Tryz.func9, Tryz.ntmps9
  go_wp2_with fail
  refine (F1.o w (Below.refl _ _)).mono ?_
  rintro e w1 ⟨rfl, hb1⟩
  have HB1 := hd hb1
  clear hb1
  go_wp2_with fail
  refine (L1.o w1).mono ?_
  rintro e w2 ⟨rfl, rfl⟩
  go_wp2_with fail
  refine (T1.o w1 HB1.o).mono ?_
  rintro e w2 ⟨rfl, hb⟩
  have HB2 := hd (HB1.o.trans (hb.mono HB1.o.size))
  clear hb
  go_wp2_with fail
  refine (T2.o w2 HB2.o).mono ?_
  rintro e w3 ⟨rfl, hb⟩
  have HB3 := hd (HB2.o.trans (hb.mono HB2.o.size))
  clear hb
  go_wp2_with fail
  refine (C1.o w3 HB3.o).mono ?_
  rintro e w4 ⟨⟨A1, B1, n1, c1, m1, d1, rfl, hn1, hm1, ha1, hb1, ln1, lm1, hb⟩⟩
  have HB4 := hd (HB3.o.trans (hb.mono HB3.o.size))
  have N1 := hd hn1
  have M1 := hd hm1
  have RA1 := hd ha1
  have RB1 := hd hb1
  clear hb hn1 hm1 ha1 hb1
  go_wp2_with fail
  refine (C2.o w4 HB4.o).mono ?_
  rintro e w5 ⟨⟨A2, B2, n2, c2, m2, d2, rfl, hn2, hm2, ha2, hb2, ln2, lm2, hb⟩⟩
  have HB5 := hd (HB4.o.trans (hb.mono HB4.o.size))
  have K1 := hd (kfs_calls w5 A1 A2 n1 c1 n2 c2 _ _ N1.o hn2 (RA1.o.below hb) ha2 (by omega) (by omega))
  have K2 := hd (fun W (h : Below w5.heap.size w5 W) => kfs_calls W B1 B2 m1 d1 m2 d2 _ _ M1.o hm2 ((RB1.o.below hb).below h) (hb2.below h) (by omega) (by omega))
  clear hb hn2 hm2 ha2 hb2 RA1 RB1 N1 M1
  obtain ⟨CE, hCE⟩ : ∃ V, chgE sa.data.toList sb.data.toList = V := ⟨_, rfl⟩
  rw [hCE]
  clear hCE
  have K1' := K1.o
  have K2' := fun W h => K2.o W h
  simp only [decide_true] at K1' K2'
  replace K1 := hd K1'
  replace K2 := hd K2'
  clear K1' K2'
  go_wp2_with fail
  refine K1.o.mono ?_
  rintro e w6 ⟨rfl, hb⟩
  have HB6 := hd (HB5.o.trans (hb.mono HB5.o.size))
  have HW6 := hd hb
  clear hb
  go_wp2_with fail
  refine (K2.o w6 HW6.o).mono ?_
  rintro e w7 ⟨rfl, hb⟩
  have HB7 := hd (HB6.o.trans (hb.mono HB6.o.size))
  clear hb
  go_wp2
  go_ret
  exact ⟨rfl, HB7.o⟩

end Go.Proofs.YtpejlcaoggedfaaGreatDoor
