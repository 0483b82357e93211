/-
  Check's parts: ContainsFunc, IndexFunc at writes; few writes; what a check says.
-/
import Derived.Test.YtbeckfnhgeclnaaLightR
import Derived.Test.YtbeckfnhgeclnaaChkP
import Derived.Test.YtbeckfnhgeclnaaRColA
set_option linter.unusedVariables false
set_option linter.unusedSimpArgs false
namespace Go.Proofs.Ytbeckfnhgeclnaa
open Go.RowKit Go.Lib

theorem opEnc_len' (x : OpV) : (opEnc x).length = 5 := rfl
theorem opsE_at (l : List OpV) (i : Nat) (h : i < l.length) (j : Nat) (hj : j < 5) : (opsE l)[i * 5 + j]? = (opEnc l[i])[j]? := flat_at opEnc 5 opEnc_len' l i h j hj

theorem chk1_calls (w : World) (x : OpV) (b : Nat) (u : List UInt8) (hb : w.cell? ⟨b, 1, none⟩ = some (.string (bs u))) (hl : b < w.heap.size) :
    Calls Try.prog 80 #[.agg (opEnc x).toArray, .pointer (some ⟨b, 0, none⟩)] w fun e w' => e = .returned (.bool (decide (x.uid = u))) ∧ w.alloc (.cells (opEnc x).toArray 65) = w' := by
  obtain ⟨xd, xu, xc, xk, xv⟩ := x
  simp only [opEnc]
  have heq := rstr_eq xu u
  go_enter Try.func80, Try.ntmps80
  go_wp2
  go_ret
  exact ⟨rfl, rfl⟩

set_option maxRecDepth 100000 in
set_option maxHeartbeats 2000000 in
theorem ifO_calls (w : World) (A : Option Addr) (n c : Nat) (l : List OpV) (b : Nat) (v : List UInt8) (hr : Rds w A n 5 (opsE l)) (hn : n = l.length) (hm : n ≤ 1000000) (hb : w.cell? ⟨b, 1, none⟩ = some (.string (bs v))) (hl : b < w.heap.size) :
    Calls Try.prog 96 #[.slice A n c, .func (.func 80) #[] #[.pointer (some ⟨b, 0, none⟩)]] w fun e w' => ∃ i : Int, e = .returned (.int .i64 i) ∧ decide (0 ≤ i) = uidIn l v ∧ Below w.heap.size w w' := by
  have HR := hd hr
  have HN := hd hn
  have HC := hd (fun wr (hbe : Below w.heap.size w wr) (x : OpV) => chk1_calls wr x b v ((hbe.cell (p := ⟨b, 1, none⟩) hl).trans hb) (Nat.lt_of_lt_of_le hl hbe.size))
  clear hr hn hb
  go_enter Try.func96, Try.ntmps96
  go_wp2_with fail
  go_loopw [8, 5] (fun s8 s5 wr => ∃ k : Nat, s8 = .int .i64 k ∧ k ≤ n ∧ Hd (uidIn (l.take k) v = false) ∧ Hd (Below w.heap.size w wr)) (fun s8 _ _ => n - (intOf s8).toNat)
  case atStart => exact ⟨0, rfl, Nat.zero_le _, hd rfl, hd (Below.refl _ _)⟩
  case round =>
    obtain ⟨k, rfl, hk, HV, HB⟩ := hrel
    have hki : (0 : Int) ≤ (k : Int) := by omega
    by_cases hlt : k < n
    · have hlti : (k : Int) < (n : Int) := by omega
      have hkl : k < l.length := by rw [← HN.o]; exact hlt
      obtain ⟨g, o, rfl, hg, hc⟩ := HR.o.at_ (by omega)
      obtain ⟨x, hx⟩ : ∃ x, l[k]'hkl = x := ⟨_, rfl⟩
      have HT : Hd (l.take (k + 1) = l.take k ++ [x]) := hd (by rw [List.take_succ_eq_append_getElem hkl, hx])
      have HMEM : Hd (x ∈ l) := hd (by rw [← hx]; exact List.getElem_mem hkl)
      have hcell : ∀ j u, j < 5 → (opEnc x)[j]? = some u → wr.cell? ⟨g, o + (k * 5 + j), none⟩ = some u := fun j u hj hv => (HB.o.cell (p := ⟨g, o + (k * 5 + j), none⟩) hg).trans (hc _ _ ((opsE_at l k hkl j hj).trans (by rw [hx]; exact hv)))
      have hcall := hd (HC.o wr HB.o x)
      obtain ⟨xd, xu, xc, xk, xv⟩ := x
      have k0 := hcell 0 _ (by omega) rfl
      have k1 := hcell 1 _ (by omega) rfl
      have k2 := hcell 2 _ (by omega) rfl
      have k3 := hcell 3 _ (by omega) rfl
      have k4 := hcell 4 _ (by omega) rfl
      rw [← Nat.add_assoc] at k0 k1 k2 k3 k4
      rw [Nat.add_zero] at k0
      simp only [opEnc] at hcall
      obtain ⟨bq, hbq⟩ : ∃ q : Bool, decide (xu = v) = q := ⟨_, rfl⟩
      rw [hbq] at hcall
      have HBQ := hd hbq
      clear hcell hc hx hkl hbq
      go_wp2_with fail
      refine hcall.o.mono ?_
      rintro e w1 ⟨rfl, rfl⟩
      have HB1 := hd (HB.o.alloc HB.o.size (.cells #[.bool xd, .string (bs xu), .string (bs xc), .int .i64 xk, .int .i64 xv] 65))
      cases bq with
      | true =>
        go_wp2
        go_ret
        refine ⟨(k : Int), rfl, ?_, HB1.o⟩
        rw [decide_eq_true hki]
        symm
        simp only [uidIn, List.any_eq_true]
        exact ⟨_, HMEM.o, HBQ.o⟩
      | false =>
        have HV2 : Hd (uidIn (l.take (k + 1)) v = false) := hd (by rw [HT.o, uidIn_snoc, HV.o]; simpa using HBQ.o)
        go_wp2
        go_roundw
        case rel => exact ⟨k + 1, by go_num, by omega, HV2, HB1⟩
        case measure => simp [intOf]; omega
    · obtain rfl : k = n := by omega
      have HE : Hd (l.take k = l) := hd (List.take_of_length_le (by rw [← HN.o]; exact Nat.le_refl _))
      go_wp2
      go_ret
      refine ⟨-1, rfl, ?_, HB.o⟩
      have := HV.o
      rw [HE.o] at this
      rw [this]
      rfl
theorem cfO_calls (w : World) (A : Option Addr) (n c : Nat) (l : List OpV) (b : Nat) (v : List UInt8) (hr : Rds w A n 5 (opsE l)) (hn : n = l.length) (hm : n ≤ 1000000) (hb : w.cell? ⟨b, 1, none⟩ = some (.string (bs v))) (hl : b < w.heap.size) :
    Calls Try.prog 79 #[.slice A n c, .func (.func 80) #[] #[.pointer (some ⟨b, 0, none⟩)]] w fun e w' => e = .returned (.bool (uidIn l v)) ∧ Below w.heap.size w w' := by
  have hc := hd (ifO_calls w A n c l b v hr hn hm hb hl)
  clear hr hn hb
  go_enter Try.func79, Try.ntmps79
  go_wp2_with fail
  refine hc.o.mono ?_
  rintro e w1 ⟨i, rfl, hi, hb1⟩
  have HI := hd hi
  clear hi
  go_wp2
  go_ret
  exact ⟨ret_bool (by rw [← HI.o]), hb1⟩

/-- Few writes. -/
def fewP (l : List OpV) : Bool := !(decide (20 < l.length)) && l.all fun x => !(decide (60 < x.uid.length) || decide (1000 < x.card.length))
theorem fewP_len {l : List OpV} (h : fewP l = true) : l.length ≤ 20 := by
  unfold fewP at h
  simp only [Bool.and_eq_true, Bool.not_eq_true', decide_eq_false_iff_not] at h
  omega
theorem fewP_each {l : List OpV} (h : fewP l = true) : ∀ x ∈ l, x.uid.length ≤ 60 ∧ x.card.length ≤ 1000 := by
  intro x hx
  unfold fewP at h
  simp only [Bool.and_eq_true] at h
  have := List.all_eq_true.1 h.2 x hx
  simp only [Bool.not_eq_true', Bool.or_eq_false_iff, decide_eq_false_iff_not] at this
  omega

set_option maxHeartbeats 1000000 in
theorem few_calls (w : World) (A : Option Addr) (n c : Nat) (l : List OpV) (hr0 : Rds w A n 5 (opsE l)) (hn : n = l.length) (hm : n ≤ maxLen) (hok : ∀ x ∈ l, OpOk x) :
    Calls Try.prog 52 #[.slice A n c] w fun e w' => e = .returned (.bool (fewP l)) ∧ Below w.heap.size w w' := by
  obtain ⟨LB, hLB⟩ : ∃ LB, fewP l = LB := ⟨_, rfl⟩
  rw [hLB]
  simp only [fewP] at hLB
  rw [← hn] at hLB
  have HL := hd hLB
  have HN := hd hn.symm
  have HE := hd hok
  unfold maxLen at hm
  clear hLB hn hok
  by_cases c2 : 20 < n
  · have f2 : decide ((20 : Int) < (n : Int)) = true := by simp; omega
    have HR : Hd (LB = false) := hd (by rw [← HL.o]; simp [c2])
    clear c2
    go_enter Try.func52, Try.ntmps52
    go_wp2
    go_ret
    exact ⟨ret_bool HR.o.symm, Below.refl _ w⟩
  · have f2 : decide ((20 : Int) < (n : Int)) = false := by simp; omega
    have HR : Hd (LB = l.all fun x => !(decide (60 < x.uid.length) || decide (1000 < x.card.length))) := hd (by rw [← HL.o]; simp [c2])
    go_enter Try.func52, Try.ntmps52
    go_wp2_with fail
    go_loop [3] (fun i => ∃ k : Nat, i = .int .i64 k ∧ k ≤ n ∧ Hd (∀ j (h : j < l.length), j < k → (!(decide (60 < l[j].uid.length) || decide (1000 < l[j].card.length))) = true)) (fun i => n - (intOf i).toNat)
    case atStart => exact ⟨0, rfl, Nat.zero_le _, hd (fun j _ h => absurd h (Nat.not_lt_zero _))⟩
    case round =>
      obtain ⟨k, rfl, hk, hall⟩ := hrel
      have hki : (0 : Int) ≤ (k : Int) := by omega
      by_cases hlt : k < n
      · have hlti : (k : Int) < (n : Int) := by omega
        have hkl : k < l.length := by rw [HN.o]; exact hlt
        obtain ⟨g, o, rfl, hg, hc⟩ := hr0.at_ (by omega)
        obtain ⟨x, hx⟩ : ∃ x, l[k]'hkl = x := ⟨_, rfl⟩
        have HX := hd hx
        have hes := HE.o x (by rw [← hx]; exact List.getElem_mem hkl)
        have hcell : ∀ j u, j < 5 → (opEnc x)[j]? = some u → w.cell? ⟨g, o + (k * 5 + j), none⟩ = some u := fun j u hj hv => hc _ _ ((opsE_at l k hkl j hj).trans (by rw [hx]; exact hv))
        obtain ⟨del, uid, text, ck, cv⟩ := x
        have k0 := hcell 1 _ (by omega) rfl
        have k3 := hcell 2 _ (by omega) rfl
        rw [← Nat.add_assoc] at k0 k3
        obtain ⟨uz, huz⟩ : ∃ uz, uid.length = uz := ⟨_, rfl⟩
        obtain ⟨tz, htz⟩ : ∃ tz, text.length = tz := ⟨_, rfl⟩
        simp only [OpOk, huz, htz] at hes
        unfold maxLen at hes
        have hsu : (bs uid).size = uz := by rw [bs_sz, huz]
        have hst : (bs text).size = tz := by rw [bs_sz, htz]
        have HBAD : Hd ((60 < uz ∨ 1000 < tz) → LB = false) := hd (fun hh => by
          rw [HR.o, Bool.eq_false_iff]
          intro ha
          have := List.all_eq_true.1 ha _ (List.getElem_mem hkl)
          rw [HX.o] at this
          simp only [huz, htz] at this
          rcases hh with h | h <;> simp [h] at this)
        have HG : Hd (¬ 60 < uz → ¬ 1000 < tz → ∀ j (h : j < l.length), j < k + 1 → (!(decide (60 < l[j].uid.length) || decide (1000 < l[j].card.length))) = true) := hd (fun h1 h2 j hj hjk => by
          by_cases hjj : j < k
          · exact hall.o j hj hjj
          · obtain rfl : j = k := by omega
            rw [HX.o]
            simp only [huz, htz]
            simp [h1, h2])
        clear hcell hc hx hr0 huz htz
        by_cases v1 : 60 < uz
        · have g1 : decide ((60 : Int) < (uz : Int)) = true := by simp; omega
          have HH := hd (HBAD.o (.inl v1))
          clear v1
          go_wp2
          go_ret
          exact ⟨ret_bool HH.o.symm, Below.refl _ _⟩
        · have g1 : decide ((60 : Int) < (uz : Int)) = false := by simp; omega
          by_cases v2 : 1000 < tz
          · have g2 : decide ((1000 : Int) < (tz : Int)) = true := by simp; omega
            have HH := hd (HBAD.o (.inr v2))
            clear v1 v2
            go_wp2
            go_ret
            exact ⟨ret_bool HH.o.symm, Below.refl _ _⟩
          · have g2 : decide ((1000 : Int) < (tz : Int)) = false := by simp; omega
            have HH := hd (HG.o v1 v2)
            clear v1 v2
            go_wp2
            go_round
            case rel => exact ⟨k + 1, by go_num, by omega, HH⟩
            case measure => simp [intOf]; omega
      · obtain rfl : k = n := by omega
        have HH : Hd (LB = true) := hd (by
          rw [HR.o, List.all_eq_true]
          intro x hx
          obtain ⟨j, hj, rfl⟩ := List.getElem_of_mem hx
          exact hall.o j hj (by rw [← HN.o]; exact hj))
        go_wp2
        go_ret
        exact ⟨ret_bool HH.o.symm, Below.refl _ _⟩

end Go.Proofs.Ytbeckfnhgeclnaa
