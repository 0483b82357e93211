/-
  ColSince, as a call: it returns true, whatever the acts and the token.
-/
import Derived.Test.YtbeckfnhgeclnaaSinceP
import Derived.Test.YtbeckfnhgeclnaaIts
set_option linter.unusedVariables false
set_option linter.unusedSimpArgs false
namespace Go.Proofs.Ytbeckfnhgeclnaa
open Go.RowKit Go.Lib

theorem twoc_since1 {B : Nat} {w wr : World} {b1 b2 : Nat} {s1 s2 : Cs} (h : TwoC B w wr b1 b2 s1 s2) (tok : Int) (hl : s1.ml.length ≤ 1000000) (hlg : s1.log.length ≤ 1000000) :
    Calls Try.prog 34 #[.pointer (some ⟨b1, 0, none⟩), .int .i64 tok] wr fun e w' => ∃ l' err A c, e = .returned (.tuple #[.slice A l'.length c, .int .i64 err]) ∧ SinceIs s1 tok l' err ∧ Row w' (From wr.heap.size) 41 4 A l'.length c (itsEnc l') ∧ TwoC B w w' b1 b2 s1 s2 ∧ Below wr.heap.size wr w' := by
  obtain ⟨S, T, h1, h2, _⟩ := h.ex
  exact (since_calls wr S b1 s1 tok h1 hl hlg h.uid).mono fun e w' ⟨l', err, A, c, he, hs, hr, hb⟩ => ⟨l', err, A, c, he, hs, hr, h.bel hb, hb⟩
theorem twoc_since2o {B : Nat} {w wr : World} {b1 b2 : Nat} {s1 s2 : Cs} (h : TwoC B w wr b1 b2 s1 s2) (tok : Int) (hl : s2.ml.length ≤ 1000000) (hlg : s2.log.length ≤ 1000000) :
    Calls Try.prog 35 #[.pointer (some ⟨b2, 0, none⟩), .int .i64 tok] wr fun e w' => ∃ l' err A c, e = .returned (.tuple #[.slice A l'.length c, .int .i64 err]) ∧ RSinceIs s2 tok l' err ∧ RowO w' (From wr.heap.size) 41 4 A l'.length c (itsEnc l') ∧ TwoC B w w' b1 b2 s1 s2 ∧ Below wr.heap.size wr w' := by
  obtain ⟨S, T, h1, h2, _⟩ := h.ex
  exact (rsince_calls wr T b2 s2 tok h2 h.ok2.rise hl hlg).mono fun e w' ⟨l', err, A, c, he, hs, hr, hb⟩ => ⟨l', err, A, c, he, hs, hr, h.bel hb, hb⟩
theorem twoc_since2 {B : Nat} {w wr : World} {b1 b2 : Nat} {s1 s2 : Cs} (h : TwoC B w wr b1 b2 s1 s2) (tok : Int) (hl : s2.ml.length ≤ 1000000) (hlg : s2.log.length ≤ 1000000) :
    Calls Try.prog 35 #[.pointer (some ⟨b2, 0, none⟩), .int .i64 tok] wr fun e w' => ∃ l' err A c, e = .returned (.tuple #[.slice A l'.length c, .int .i64 err]) ∧ RSinceIs s2 tok l' err ∧ Rds w' A l'.length 4 (itsEnc l') ∧ TwoC B w w' b1 b2 s1 s2 ∧ Below wr.heap.size wr w' :=
  (twoc_since2o h tok hl hlg).mono fun e w' ⟨l', err, A, c, he, hs, hr, hO, hb⟩ => ⟨l', err, A, c, he, hs, RowO.rds hr, hO, hb⟩
theorem since_len {s : Cs} {tok : Int} {l' : List It} {err : Int} (h : SinceIs s tok l' err) : l'.length ≤ s.ml.length ∨ l'.length ≤ s.log.length := by
  rcases h with ⟨_, _, h⟩ | ⟨_, _, _, h⟩ | ⟨_, _, _, h⟩
  · left; rw [h.1.length_eq, liveL_len]; exact Nat.le_refl _
  · left; rw [h]; exact Nat.zero_le _
  · right; rw [h.1.length_eq]; have := outP_len s.ml tok _ s.log.reverse rfl; simpa using this

set_option maxRecDepth 100000 in
set_option maxHeartbeats 4000000 in
theorem lsince_calls (w : World) (birth cards log : Int) (A : Option Addr) (n c : Nat) (l : List ActV) (tok : Int) (hr : Rds w A n 6 (actsE l)) (hn : n = l.length) (hm : n ≤ maxLen) (hok : ∀ x ∈ l, OpOk x.1) :
    Calls Try.prog 7 #[.int .i64 birth, .int .i64 cards, .int .i64 log, .slice A n c, .int .i64 tok] w fun e w' => e = .returned (.bool true) ∧ Below w.heap.size w w' := by
  have HLI := hd (fun w' (hb : Below w.heap.size w w') => clight_calls w' A n c l (hr.below hb) hn hm hok)
  cases hlt : lightC l with
  | false =>
    rw [hlt] at HLI
    clear hn hok hr hlt
    go_enter Try.func7, Try.ntmps7
    go_wp2_with fail
    refine (cfirst_calls w).mono ?_
    rintro e w1 ⟨rfl, b1⟩
    go_wp2_with fail
    refine (HLI.o w1 b1).mono ?_
    rintro e w2 ⟨rfl, b2⟩
    go_wp2_with fail
    refine (cfirst_calls w2).mono ?_
    rintro e w3 ⟨rfl, b3⟩
    go_wp2
    go_ret
    exact ⟨rfl, b1.trans ((b2.mono b1.size).trans (b3.mono (by have := b1.size; have := b2.size; omega)))⟩
  | true =>
    rw [hlt] at HLI
    have HM := hd (fun w' (hb : Below w.heap.size w w') => made_calls w w' hb birth cards log A n c l hr hn hlt)
    have HT := hd (made_tok birth cards log l)
    obtain ⟨s, hs⟩ : ∃ s, madeF (Cs.new birth cards log) l = s := ⟨_, rfl⟩
    rw [hs] at HM HT
    clear hn hok hr hlt hs hm
    go_enter Try.func7, Try.ntmps7
    go_wp2_with fail
    refine (cfirst_calls w).mono ?_
    rintro e w1 ⟨rfl, b1⟩
    go_wp2_with fail
    refine (HLI.o w1 b1).mono ?_
    rintro e w2 ⟨rfl, b2⟩
    have b12 := hd (b1.trans (b2.mono b1.size))
    clear b1 b2
    go_wp2_with fail
    refine (HM.o w2 b12.o).mono ?_
    rintro e w3 ⟨b, b2, B, rfl, hz, hT⟩
    have HZ := hd hz
    have HO := hd hT
    clear hz hT b12
    go_wp2_with fail
    refine (twoc_since1 HO.o tok (by have := HZ.o.ml; omega) (by have := HZ.o.log; omega)).mono ?_
    rintro e w4 ⟨l1, e1, A1, c1, rfl, hs1, hr1, hO4, hb4⟩
    have HS1 := hd hs1
    have HR1 := hd hr1.rds
    have HO4 := hd hO4
    have hle := since_len hs1
    clear hs1 hr1 hO4 hb4 HO
    go_wp2_with fail
    refine (twoc_since2 HO4.o tok (by have := HZ.o.ml; omega) (by have := HZ.o.log; omega)).mono ?_
    rintro e w5 ⟨l2, e2, A2, c2, rfl, hs2, hr2, hO5, hb5⟩
    obtain ⟨rfl, rfl⟩ := since_agree HO4.o.ok1.rise HT.o HS1.o hs2
    have HR2 := hd hr2
    have HR3 := hd (HR1.o.below hb5)
    have HO5 := hd hO5
    have hz1 := HZ.o.ml
    have hz2 := HZ.o.log
    have hI := fun (wr : World) (h1 : Rds wr A1 l1.length 4 (itsEnc l1)) (h2 : Rds wr A2 l1.length 4 (itsEnc l1)) => its_calls wr A1 A2 l1.length l1.length c1 c2 l1 l1 rfl rfl h1 h2 (by omega) (by omega)
    rw [decide_eq_true (rfl : l1 = l1)] at hI
    have HI := hd hI
    obtain ⟨q, hq⟩ : ∃ q, l1.length = q := ⟨_, rfl⟩
    rw [hq] at HI HR2 HR3
    have n1 : (e1 == e1) = true := by simp
    clear hI hs2 hr2 hO5 hb5 HR1 HO4 hle hz1 hz2 HS1
    simp only [hq]
    go_wp2_with fail
    refine (HI.o _ HR3.o HR2.o).mono ?_
    rintro e w11 ⟨rfl, hb11⟩
    have HB11 := hd (HO5.o.bel hb11).below
    clear hb11
    go_wp2
    go_ret
    exact ⟨rfl, HB11.o⟩

end Go.Proofs.Ytbeckfnhgeclnaa
