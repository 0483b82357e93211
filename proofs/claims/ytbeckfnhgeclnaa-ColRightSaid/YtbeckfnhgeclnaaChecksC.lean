/-
  ColChecks, as a call: it returns true, whatever the acts, the writes, the room.
-/
import Derived.Test.YtbeckfnhgeclnaaChkB
import Derived.Test.YtbeckfnhgeclnaaChkR
import Derived.Test.YtbeckfnhgeclnaaMade
import Derived.Test.YtbeckfnhgeclnaaIts
set_option linter.unusedVariables false
set_option linter.unusedSimpArgs false
namespace Go.Proofs.Ytbeckfnhgeclnaa
open Go.RowKit Go.Lib

/-- Check on both. -/
theorem twoc_check1 {B : Nat} {w wr : World} {b1 b2 : Nat} {s1 s2 : Cs} (h : TwoC B w wr b1 b2 s1 s2) (A : Option Addr) (n c : Nat) (l : List OpV) (room : Int) (hl : s1.ml.length ≤ 1000000) (hby : bytesM s1.ml ≤ 1000000) (hr : Rds w A n 5 (opsE l)) (hn : n = l.length) (hnc : n ≤ c) (hf : fewP l = true) :
    Calls Try.prog 54 #[.pointer (some ⟨b1, 0, none⟩), .slice A n c, .int .i64 room] wr fun e w' => e = .returned (.tuple #[.int .i64 (chkG s1 room [] l (s1.ml.length : Nat) 0).1, .int .i64 (chkG s1 room [] l (s1.ml.length : Nat) 0).2.1, .int .i64 (chkG s1 room [] l (s1.ml.length : Nat) 0).2.2]) ∧ TwoC B w w' b1 b2 s1 s2 := by
  obtain ⟨S, T, h1, h2, _⟩ := h.ex
  exact (check_calls wr S b1 s1 A n c l room h1 hl hby (hr.below h.below) hn hnc hf).mono fun e w' ⟨he, hb⟩ => ⟨he, h.bel hb⟩
theorem twoc_check2 {B : Nat} {w wr : World} {b1 b2 : Nat} {s1 s2 : Cs} (h : TwoC B w wr b1 b2 s1 s2) (A : Option Addr) (n c : Nat) (l : List OpV) (room : Int) (hl : s2.ml.length ≤ 1000000) (hby : bytesM s2.ml ≤ 1000000) (hr : Rds w A n 5 (opsE l)) (hn : n = l.length) (hf : fewP l = true) :
    Calls Try.prog 55 #[.pointer (some ⟨b2, 0, none⟩), .slice A n c, .int .i64 room] wr fun e w' => e = .returned (.tuple #[.int .i64 (chkG s2 room [] l (s2.ml.length : Nat) 0).1, .int .i64 (chkG s2 room [] l (s2.ml.length : Nat) 0).2.1, .int .i64 (chkG s2 room [] l (s2.ml.length : Nat) 0).2.2]) ∧ TwoC B w w' b1 b2 s1 s2 := by
  obtain ⟨S, T, h1, h2, _⟩ := h.ex
  exact (rcheck_calls wr T b2 s2 A n c l room h2 h.ok2.rise hl hby (hr.below h.below) hn hf).mono fun e w' ⟨he, hb⟩ => ⟨he, h.bel hb⟩

set_option maxRecDepth 100000 in
set_option maxHeartbeats 4000000 in
theorem lchecks_calls (w : World) (birth cards log : Int) (A : Option Addr) (n c : Nat) (l : List ActV) (A2 : Option Addr) (n2 c2 : Nat) (ops : List OpV) (room : Int) (hr : Rds w A n 6 (actsE l)) (hn : n = l.length) (hm : n ≤ maxLen) (hok : ∀ x ∈ l, OpOk x.1)
    (hr2 : Rds w A2 n2 5 (opsE ops)) (hn2 : n2 = ops.length) (hm2 : n2 ≤ maxLen) (hok2 : ∀ x ∈ ops, OpOk x) (hnc2 : n2 ≤ c2) :
    Calls Try.prog 14 #[.int .i64 birth, .int .i64 cards, .int .i64 log, .slice A n c, .slice A2 n2 c2, .int .i64 room] w fun e w' => e = .returned (.bool true) ∧ Below w.heap.size w w' := by
  have HLI := hd (fun w' (hb : Below w.heap.size w w') => clight_calls w' A n c l (hr.below hb) hn hm hok)
  have HFE := hd (fun w' (hb : Below w.heap.size w w') => few_calls w' A2 n2 c2 ops (hr2.below hb) hn2 hm2 hok2)
  cases hlt : lightC l with
  | false =>
    rw [hlt] at HLI
    clear hn hok hr hlt hr2 hn2 hok2 HFE
    go_enter Try.func14, Try.ntmps14
    go_wp2_with fail
    refine (cfirst_calls w).mono ?_
    rintro e w1 ⟨rfl, b1⟩
    go_wp2_with fail
    refine (HLI.o w1 b1).mono ?_
    rintro e w2 ⟨rfl, b2⟩
    go_wp2_with fail
    refine (cfirst_calls w2).mono ?_
    rintro e w3 ⟨rfl, b3⟩
    go_wp2
    go_ret
    exact ⟨rfl, b1.trans ((b2.mono b1.size).trans (b3.mono (by have := b1.size; have := b2.size; omega)))⟩
  | true =>
    rw [hlt] at HLI
    cases hfe : fewP ops with
    | false =>
      rw [hfe] at HFE
      clear hn hok hr hlt hr2 hn2 hok2 hfe
      go_enter Try.func14, Try.ntmps14
      go_wp2_with fail
      refine (cfirst_calls w).mono ?_
      rintro e w1 ⟨rfl, b1⟩
      go_wp2_with fail
      refine (HLI.o w1 b1).mono ?_
      rintro e w2 ⟨rfl, b2⟩
      have b12 := hd (b1.trans (b2.mono b1.size))
      clear b1 b2
      go_wp2_with fail
      refine (HFE.o w2 b12.o).mono ?_
      rintro e w3 ⟨rfl, b3⟩
      have b13 := hd (b12.o.trans (b3.mono b12.o.size))
      clear b3
      go_wp2_with fail
      refine (cfirst_calls w3).mono ?_
      rintro e w4 ⟨rfl, b4⟩
      go_wp2
      go_ret
      exact ⟨rfl, b13.o.trans (b4.mono b13.o.size)⟩
    | true =>
      rw [hfe] at HFE
      have HM := hd (fun w' (hb : Below w.heap.size w w') => made_calls w w' hb birth cards log A n c l hr hn hlt)
      have HC1 := hd (fun (B : Nat) (wr : World) (b1 b2 : Nat) (s : Cs) (h : TwoC B w wr b1 b2 s s) (hz : s.Small 80) => twoc_check1 h A2 n2 c2 ops room (by have := hz.ml; omega) (by have := hz.bytes; omega) hr2 hn2 hnc2 hfe)
      have HC2 := hd (fun (B : Nat) (wr : World) (b1 b2 : Nat) (s : Cs) (h : TwoC B w wr b1 b2 s s) (hz : s.Small 80) => twoc_check2 h A2 n2 c2 ops room (by have := hz.ml; omega) (by have := hz.bytes; omega) hr2 hn2 hfe)
      obtain ⟨s, hs⟩ : ∃ s, madeF (Cs.new birth cards log) l = s := ⟨_, rfl⟩
      rw [hs] at HM
      clear hn hok hr hlt hs hm hr2 hn2 hok2 hfe hnc2 hm2
      go_enter Try.func14, Try.ntmps14
      go_wp2_with fail
      refine (cfirst_calls w).mono ?_
      rintro e w1 ⟨rfl, b1⟩
      go_wp2_with fail
      refine (HLI.o w1 b1).mono ?_
      rintro e w2 ⟨rfl, b2⟩
      have b12 := hd (b1.trans (b2.mono b1.size))
      clear b1 b2
      go_wp2_with fail
      refine (HFE.o w2 b12.o).mono ?_
      rintro e w3 ⟨rfl, b3⟩
      have b13 := hd (b12.o.trans (b3.mono b12.o.size))
      clear b3 b12
      go_wp2_with fail
      refine (HM.o w3 b13.o).mono ?_
      rintro e w4 ⟨b, b2, B, rfl, hz, hT⟩
      have HZ := hd hz
      have HO := hd hT
      clear hz hT b13
      have hK1 := HC1.o _ _ _ _ _ HO.o HZ.o
      have hK2 := fun W h => HC2.o B W b b2 s h HZ.o
      obtain ⟨R, hR⟩ : ∃ R, chkG s room [] ops (s.ml.length : Nat) 0 = R := ⟨_, rfl⟩
      rw [hR] at hK1 hK2
      obtain ⟨r1, r2, r3⟩ := R
      have HK1 := hd hK1
      have HK2 := hd hK2
      simp only at HK1 HK2
      clear hK1 hK2 hR
      have n1 : (r1 == r1) = true := by simp
      have n2 : (r2 == r2) = true := by simp
      have n3 : (r3 == r3) = true := by simp
      go_wp2_with fail
      refine HK1.o.mono ?_
      rintro e w5 ⟨rfl, hO5⟩
      have HO5 := hd hO5
      clear hO5
      go_wp2_with fail
      refine (HK2.o _ HO5.o).mono ?_
      rintro e w6 ⟨rfl, hO6⟩
      have HO6 := hd hO6
      clear hO6
      have SM := hd (fun (B : Nat) (wr : World) (h : TwoC B w wr b b2 s s) => twoc_same h (by have := HZ.o.ml; omega) (by have := HZ.o.bytes; omega))
      have L1 := hd (fun (B : Nat) (wr : World) (h : TwoC B w wr b b2 s s) => twoc_live1 h (by have := HZ.o.ml; omega))
      have L2 := hd (fun (B : Nat) (wr : World) (h : TwoC B w wr b b2 s s) => twoc_live2 h (by have := HZ.o.ml; omega))
      have hI := fun (wr : World) (A1 A2 : Option Addr) (c1 c2 : Nat) (h1 : Rds wr A1 s.ml.length 4 (itsEnc (liveL s.ml))) (h2 : Rds wr A2 s.ml.length 4 (itsEnc (liveL s.ml))) => its_calls wr A1 A2 s.ml.length s.ml.length c1 c2 (liveL s.ml) (liveL s.ml) (liveL_len _).symm (liveL_len _).symm h1 h2 (by have := HZ.o.ml; omega) (by have := HZ.o.ml; omega)
      rw [decide_eq_true (rfl : liveL s.ml = liveL s.ml)] at hI
      have HI := hd hI
      clear hI
      go_wp2_with fail
      refine (SM.o _ _ HO6.o).mono ?_
      rintro e w8 ⟨rfl, hO8⟩
      have HO8 := hd hO8
      clear hO8
      go_wp2_with fail
      refine (L1.o _ _ HO8.o).mono ?_
      rintro e w9 ⟨A1, c1, rfl, hr1, hO9, hb9⟩
      have HR1 := hd hr1.rds
      have HO9 := hd hO9
      clear hr1 hO9 hb9
      go_wp2_with fail
      refine (L2.o _ _ HO9.o).mono ?_
      rintro e w10 ⟨A3, c3, rfl, hr3, hO10, hb10⟩
      have HR2 := hd hr3
      have HR3 := hd (HR1.o.below hb10)
      have HO10 := hd hO10
      clear hr3 hO10 hb10
      go_wp2_with fail
      refine (HI.o _ _ _ _ _ HR3.o HR2.o).mono ?_
      rintro e w11 ⟨rfl, hb11⟩
      have HB11 := hd (HO10.o.bel hb11).below
      clear hb11
      go_wp2
      go_ret
      exact ⟨rfl, HB11.o⟩

end Go.Proofs.Ytbeckfnhgeclnaa
