/-
  ColPages: whatever the arguments, the call returns true, and all reads as it did. No condition.
-/
import Derived.Test.YtbeckfnhgeclnaaPageC
import Derived.Test.YtbeckfnhgeclnaaColLift
set_option linter.unusedVariables false
set_option linter.unusedSimpArgs false
/-
  ColPages, as a call: it returns true, whatever the acts, the token, the size.
-/
namespace Go.Proofs.Ytbeckfnhgeclnaa
open Go.RowKit Go.Lib

theorem pageR_len (l : List It) (tok most la err : Int) : (pageR l tok most la err).1.length ≤ l.length := by
  unfold pageR
  split
  · unfold pageP
    split
    · exact Nat.le_refl _
    · show (l.take _).length ≤ _
      rw [List.length_take]
      omega
  · exact Nat.zero_le _

set_option maxRecDepth 100000 in
set_option maxHeartbeats 4000000 in
theorem lpages_calls (w : World) (birth cards log : Int) (A : Option Addr) (n c : Nat) (l : List ActV) (tok most : Int) (hr : Rds w A n 6 (actsE l)) (hn : n = l.length) (hm : n ≤ maxLen) (hok : ∀ x ∈ l, OpOk x.1) :
    Calls Try.prog 12 #[.int .i64 birth, .int .i64 cards, .int .i64 log, .slice A n c, .int .i64 tok, .int .i64 most] w fun e w' => e = .returned (.bool true) ∧ Below w.heap.size w w' := by
  have HLI := hd (fun w' (hb : Below w.heap.size w w') => clight_calls w' A n c l (hr.below hb) hn hm hok)
  cases hlt : lightC l with
  | false =>
    rw [hlt] at HLI
    clear hn hok hr hlt
    go_enter Try.func12, Try.ntmps12
    go_wp2_with fail
    refine (cfirst_calls w).mono ?_
    rintro e w1 ⟨rfl, b1⟩
    go_wp2_with fail
    refine (HLI.o w1 b1).mono ?_
    rintro e w2 ⟨rfl, b2⟩
    go_wp2_with fail
    refine (cfirst_calls w2).mono ?_
    rintro e w3 ⟨rfl, b3⟩
    go_wp2
    go_ret
    exact ⟨rfl, b1.trans ((b2.mono b1.size).trans (b3.mono (by have := b1.size; have := b2.size; omega)))⟩
  | true =>
    rw [hlt] at HLI
    have HM := hd (fun w' (hb : Below w.heap.size w w') => made_calls w w' hb birth cards log A n c l hr hn hlt)
    have HT := hd (made_tok birth cards log l)
    obtain ⟨s, hs⟩ : ∃ s, madeF (Cs.new birth cards log) l = s := ⟨_, rfl⟩
    rw [hs] at HM HT
    clear hn hok hr hlt hs hm
    go_enter Try.func12, Try.ntmps12
    go_wp2_with fail
    refine (cfirst_calls w).mono ?_
    rintro e w1 ⟨rfl, b1⟩
    go_wp2_with fail
    refine (HLI.o w1 b1).mono ?_
    rintro e w2 ⟨rfl, b2⟩
    have b12 := hd (b1.trans (b2.mono b1.size))
    clear b1 b2
    go_wp2_with fail
    refine (HM.o w2 b12.o).mono ?_
    rintro e w3 ⟨b, b2, B, rfl, hz, hT⟩
    have HZ := hd hz
    have HO := hd hT
    clear hz hT b12
    go_wp2_with fail
    refine (cpage_calls HO.o tok most (by have := HZ.o.ml; omega) (by have := HZ.o.log; omega)).mono ?_
    rintro e w4 ⟨l1, e1, A1, c1, rfl, hs1, hr1, hO4, hb4⟩
    have HS1 := hd hs1
    have HR1 := hd hr1
    have HO4 := hd hO4
    have hle := since_len hs1
    clear hs1 hr1 hO4 hb4 HO
    have HP1 := hd (pageR_len l1 tok most s.latest e1)
    obtain ⟨r1, hr1⟩ : ∃ r, pageR l1 tok most s.latest e1 = r := ⟨_, rfl⟩
    have HE1 := hd hr1
    rw [hr1] at HR1 HP1
    simp only [hr1]
    clear hr1
    obtain ⟨p1, t1, m1⟩ := r1
    simp only at HR1 HP1 ⊢
    go_wp2_with fail
    refine (rpage_calls HO4.o tok most (by have := HZ.o.ml; omega) (by have := HZ.o.log; omega)).mono ?_
    rintro e w5 ⟨l2, e2, A2, c2, rfl, hs2, hr2, hO5, hb5⟩
    obtain ⟨rfl, rfl⟩ := since_agree HO4.o.ok1.rise HT.o HS1.o hs2
    rw [HE1.o] at hr2
    simp only [HE1.o]
    have HR2 := hd hr2
    have HR3 := hd (HR1.o.below hb5)
    have HO5 := hd hO5
    have hz1 := HZ.o.ml
    have hz2 := HZ.o.log
    have hp1 := HP1.o
    have hI := fun (wr : World) (h1 : Rds wr A1 p1.length 4 (itsEnc p1)) (h2 : Rds wr A2 p1.length 4 (itsEnc p1)) => its_calls wr A1 A2 p1.length p1.length c1 c2 p1 p1 rfl rfl h1 h2 (by omega) (by omega)
    rw [decide_eq_true (rfl : p1 = p1)] at hI
    have HI := hd hI
    obtain ⟨q, hq⟩ : ∃ q, p1.length = q := ⟨_, rfl⟩
    simp only [hq] at HI HR2 HR3
    have n1 : (e1 == e1) = true := by simp
    have n2 : (t1 == t1) = true := by simp
    have n3 : (m1 == m1) = true := by simp
    clear hI hs2 hr2 hO5 hb5 HR1 HO4 hle hz1 hz2 HS1 HE1 HP1 hp1
    simp only [hq]
    go_wp2_with fail
    refine (HI.o _ HR3.o HR2.o).mono ?_
    rintro e w11 ⟨rfl, hb11⟩
    have HB11 := hd (HO5.o.bel hb11).below
    clear hb11
    go_wp2
    go_ret
    exact ⟨rfl, HB11.o⟩

end Go.Proofs.Ytbeckfnhgeclnaa
/-
  ColPages: whatever the arguments, the call returns true, and all reads as it did. No condition.
-/
namespace Go.Proofs.Ytbeckfnhgeclnaa.colPagesLaw
open Go.ChangeShapes Go.WideShapes Go.ChangeAt Go.RowKit

set_option maxRecDepth 100000 in
theorem lifted (os : Os) (started : os.Started) (H : Type) (enc : TypeId × Value → H) :
    ReturnsInHanded {} Try.checked os 12 .any (Rows.colPagesSpec.pre6 enc Try.prog Try.f12 Rows.colPagesRow.domain false) (Rows.colPagesSpec.post enc Try.prog Try.f12 false true false false) := by
  refine returnsInHanded_of_change (C := Try.checked) own started (by kernel_rfl) Try.func12
    (ChangeSpec.witness6 (enc := enc) (C := Try.checked) false ⟨#[], #[.int .i64 0, .int .i64 0, .int .i64 0, .slice none 0 0, .int .i64 0, .int .i64 0], []⟩ 8 (by kernel_rfl) (by kernel_rfl) (by kernel_rfl) (by kernel_rfl)) ?_
  intro W base args ds gs before hval0 hW hcnd _
  have hval : ∀ (j : Nat) t v, Try.f12.params[j]? = some t → args[j]? = some v → Value.okWide Try.prog W .any base t v := hval0
  have hW' := hW
  obtain ⟨p, q, hA0, hV, rfl, hfz, hnd⟩ := hW
  have hA : DataW.TrodAll enc Try.prog W 0 (fun _ => true) true Try.f12.params.toList args.toList ds p := hA0
  rw [Try.params12] at hA hval
  obtain ⟨v0, vs0, d0, ds0, p0, q0, hargs0, rfl, rfl, h0, r0⟩ := trodAll_cons hA
  obtain ⟨v1, vs1, d1, ds1, p1, q1, hargs1, rfl, rfl, h1, r1⟩ := trodAll_cons r0
  obtain ⟨v2, vs2, d2, ds2, p2, q2, hargs2, rfl, rfl, h2, r2⟩ := trodAll_cons r1
  obtain ⟨v3, vs3, d3, ds3, p3, q3, hargs3, rfl, rfl, h3, r3⟩ := trodAll_cons r2
  obtain ⟨v4, vs4, d4, ds4, p4, q4, hargs4, rfl, rfl, h4, r4⟩ := trodAll_cons r3
  obtain ⟨v5, vs5, d5, ds5, p5, q5, hargs5, rfl, rfl, h5, r5⟩ := trodAll_cons r4
  obtain ⟨rfl, rfl, rfl⟩ := trodAll_nil r5
  obtain rfl : args = #[v0, v1, v2, v3, v4, v5] := by cases args; simp_all
  obtain ⟨rfl, rfl⟩ := trodVars_none hV
  have lt0 : ∀ x ∈ p0, x.block < W.heap.size := by obtain ⟨m, hm⟩ := h0; exact DataW.trod_lt m _ _ _ hm
  have lt1 : ∀ x ∈ p1, x.block < W.heap.size := by obtain ⟨m, hm⟩ := h1; exact DataW.trod_lt m _ _ _ hm
  have lt2 : ∀ x ∈ p2, x.block < W.heap.size := by obtain ⟨m, hm⟩ := h2; exact DataW.trod_lt m _ _ _ hm
  have lt3 : ∀ x ∈ p3, x.block < W.heap.size := by obtain ⟨m, hm⟩ := h3; exact DataW.trod_lt m _ _ _ hm
  have lt4 : ∀ x ∈ p4, x.block < W.heap.size := by obtain ⟨m, hm⟩ := h4; exact DataW.trod_lt m _ _ _ hm
  have lt5 : ∀ x ∈ p5, x.block < W.heap.size := by obtain ⟨m, hm⟩ := h5; exact DataW.trod_lt m _ _ _ hm
  have g0 := h0
  have g1 := h1
  have g2 := h2
  have g3 := h3
  have g4 := h4
  have g5 := h5
  obtain ⟨x0, rfl, lo0, hi0⟩ := open_int (k := .i64) Try.underlying2 (hval 0 2 v0 rfl rfl) g0
  obtain ⟨x1, rfl, lo1, hi1⟩ := open_int (k := .i64) Try.underlying3 (hval 1 3 v1 rfl rfl) g1
  obtain ⟨x2, rfl, lo2, hi2⟩ := open_int (k := .i64) Try.underlying3 (hval 2 3 v2 rfl rfl) g2
  obtain ⟨A3, n3, c3, rfl⟩ := okWide_slice Try.underlying49 (hval 3 49 v3 rfl rfl)
  obtain ⟨l3, rd3, ln3, mx3, ok3⟩ := rds_of_acts Try.underlying49 g3
  obtain ⟨x4, rfl, lo4, hi4⟩ := open_int (k := .i64) Try.underlying2 (hval 4 2 v4 rfl rfl) g4
  obtain ⟨x5, rfl, lo5, hi5⟩ := open_int (k := .i64) Try.underlying3 (hval 5 3 v5 rfl rfl) g5
  clear hA0 hval0
  refine (lpages_calls W x0 x1 x2 A3 n3 c3 l3 x4 x5 rd3 ln3 mx3 ok3).mono fun e W' ⟨he, bel⟩ => ?_
  subst he
  exact ⟨_, rfl, _, _, _, [], _, [], hW', trodAll_mk1 (shut_bool Try.underlying4 _), (trodAll_cons_mk (Below.trod laidOut (by kernel_rfl) (of_decide_eq_true (by kernel_rfl)) h0 bel lt0) (trodAll_cons_mk (Below.trod laidOut (by kernel_rfl) (of_decide_eq_true (by kernel_rfl)) h1 bel lt1) (trodAll_cons_mk (Below.trod laidOut (by kernel_rfl) (of_decide_eq_true (by kernel_rfl)) h2 bel lt2) (trodAll_cons_mk (Below.trod laidOut (by kernel_rfl) (of_decide_eq_true (by kernel_rfl)) h3 bel lt3) (trodAll_cons_mk (Below.trod laidOut (by kernel_rfl) (of_decide_eq_true (by kernel_rfl)) h4 bel lt4) (trodAll_cons_mk (Below.trod laidOut (by kernel_rfl) (of_decide_eq_true (by kernel_rfl)) h5 bel lt5) trodAll_mk0)))))), rfl, bel.frame _, fun h => by cases h⟩

theorem over : Rows.colPagesRow.holds Try.pinned (OpenSpec.ofChange Rows.colPagesSpec) :=
  OpenClaim.holds_of_wide 12 Try.f12 rfl rfl rfl rfl rfl rfl rfl ⟨rfl, rfl, rfl, rfl, rfl⟩ rfl rfl rfl rfl rfl (by kernel_rfl) Try.func12 (by kernel_rfl)
    (of_decide_eq_true (by kernel_rfl)) (by unfold Func.isWrapper; first | (rw [if_pos (by decide +kernel)]; kernel_rfl) | (rw [if_neg (by decide +kernel)]; exact ⟨rfl, rfl⟩))
    (fun os started H enc _ => lifted os started H enc)

/-- The statement. -/
theorem proved : Rows.ColPagesSaid := over
end Go.Proofs.Ytbeckfnhgeclnaa.colPagesLaw
