/-
  Light acts of chapter 17.
-/
import Derived.Test.YtbeckfnhgeclnaaLightR
import Derived.Test.YtbeckfnhgeclnaaColLift
set_option linter.unusedVariables false
set_option linter.unusedSimpArgs false
namespace Go.Proofs.Ytbeckfnhgeclnaa
open Go.RowKit

def lightC (l : List ActV) : Bool := !(decide (80 < l.length)) && l.all fun x => !(decide (60 < x.1.uid.length) || decide (1000 < x.1.card.length))
theorem lightC_len {l : List ActV} (h : lightC l = true) : l.length ≤ 80 := by
  unfold lightC at h
  simp only [Bool.and_eq_true, Bool.not_eq_true', decide_eq_false_iff_not] at h
  omega
theorem lightC_each {l : List ActV} (h : lightC l = true) : ∀ x ∈ l, x.1.uid.length ≤ 60 ∧ x.1.card.length ≤ 1000 := by
  intro x hx
  unfold lightC at h
  simp only [Bool.and_eq_true] at h
  have := List.all_eq_true.1 h.2 x hx
  simp only [Bool.not_eq_true', Bool.or_eq_false_iff, decide_eq_false_iff_not] at this
  omega
theorem actsE_at (l : List ActV) (i : Nat) (h : i < l.length) (j : Nat) (hj : j < 6) : (actsE l)[i * 6 + j]? = (actE l[i])[j]? := flat_at actE 6 actE_len l i h j hj

set_option maxHeartbeats 1000000 in
theorem clight_calls (w : World) (A : Option Addr) (n c : Nat) (l : List ActV) (hr0 : Rds w A n 6 (actsE l)) (hn : n = l.length) (hm : n ≤ maxLen) (hok : ∀ x ∈ l, OpOk x.1) :
    Calls Try.prog 32 #[.slice A n c] w fun e w' => e = .returned (.bool (lightC l)) ∧ Below w.heap.size w w' := by
  obtain ⟨LB, hLB⟩ : ∃ LB, lightC l = LB := ⟨_, rfl⟩
  rw [hLB]
  simp only [lightC] at hLB
  rw [← hn] at hLB
  have HL := hd hLB
  have HN := hd hn.symm
  have HE := hd hok
  unfold maxLen at hm
  clear hLB hn hok
  by_cases c2 : 80 < n
  · have f2 : decide ((80 : Int) < (n : Int)) = true := by simp; omega
    have HR : Hd (LB = false) := hd (by rw [← HL.o]; simp [c2])
    clear c2
    go_enter Try.func32, Try.ntmps32
    go_wp2
    go_ret
    exact ⟨ret_bool HR.o.symm, Below.refl _ w⟩
  · have f2 : decide ((80 : Int) < (n : Int)) = false := by simp; omega
    have HR : Hd (LB = l.all fun x => !(decide (60 < x.1.uid.length) || decide (1000 < x.1.card.length))) := hd (by rw [← HL.o]; simp [c2])
    go_enter Try.func32, Try.ntmps32
    go_wp2_with fail
    go_loop [3] (fun i => ∃ k : Nat, i = .int .i64 k ∧ k ≤ n ∧ Hd (∀ j (h : j < l.length), j < k → (!(decide (60 < l[j].1.uid.length) || decide (1000 < l[j].1.card.length))) = true)) (fun i => n - (intOf i).toNat)
    case atStart => exact ⟨0, rfl, Nat.zero_le _, hd (fun j _ h => absurd h (Nat.not_lt_zero _))⟩
    case round =>
      obtain ⟨k, rfl, hk, hall⟩ := hrel
      have hki : (0 : Int) ≤ (k : Int) := by omega
      by_cases hlt : k < n
      · have hlti : (k : Int) < (n : Int) := by omega
        have hkl : k < l.length := by rw [HN.o]; exact hlt
        obtain ⟨g, o, rfl, hg, hc⟩ := hr0.at_ (by omega)
        obtain ⟨x, hx⟩ : ∃ x, l[k]'hkl = x := ⟨_, rfl⟩
        have HX := hd hx
        have hes := HE.o x (by rw [← hx]; exact List.getElem_mem hkl)
        have hcell : ∀ j u, j < 6 → (actE x)[j]? = some u → w.cell? ⟨g, o + (k * 6 + j), none⟩ = some u := fun j u hj hv => hc _ _ ((actsE_at l k hkl j hj).trans (by rw [hx]; exact hv))
        obtain ⟨⟨del, uid, text, ck, cv⟩, tok⟩ := x
        have k0 := hcell 1 _ (by omega) rfl
        have k3 := hcell 2 _ (by omega) rfl
        rw [← Nat.add_assoc] at k0 k3
        obtain ⟨uz, huz⟩ : ∃ uz, uid.length = uz := ⟨_, rfl⟩
        obtain ⟨tz, htz⟩ : ∃ tz, text.length = tz := ⟨_, rfl⟩
        simp only [OpOk, huz, htz] at hes
        unfold maxLen at hes
        have hsu : (bs uid).size = uz := by rw [bs_sz, huz]
        have hst : (bs text).size = tz := by rw [bs_sz, htz]
        have HBAD : Hd ((60 < uz ∨ 1000 < tz) → LB = false) := hd (fun hh => by
          rw [HR.o, Bool.eq_false_iff]
          intro ha
          have := List.all_eq_true.1 ha _ (List.getElem_mem hkl)
          rw [HX.o] at this
          simp only [huz, htz] at this
          rcases hh with h | h <;> simp [h] at this)
        have HG : Hd (¬ 60 < uz → ¬ 1000 < tz → ∀ j (h : j < l.length), j < k + 1 → (!(decide (60 < l[j].1.uid.length) || decide (1000 < l[j].1.card.length))) = true) := hd (fun h1 h2 j hj hjk => by
          by_cases hjj : j < k
          · exact hall.o j hj hjj
          · obtain rfl : j = k := by omega
            rw [HX.o]
            simp only [huz, htz]
            simp [h1, h2])
        clear hcell hc hx hr0 huz htz
        by_cases v1 : 60 < uz
        · have g1 : decide ((60 : Int) < (uz : Int)) = true := by simp; omega
          have HH := hd (HBAD.o (.inl v1))
          clear v1
          go_wp2
          go_ret
          exact ⟨ret_bool HH.o.symm, Below.refl _ _⟩
        · have g1 : decide ((60 : Int) < (uz : Int)) = false := by simp; omega
          by_cases v2 : 1000 < tz
          · have g2 : decide ((1000 : Int) < (tz : Int)) = true := by simp; omega
            have HH := hd (HBAD.o (.inr v2))
            clear v1 v2
            go_wp2
            go_ret
            exact ⟨ret_bool HH.o.symm, Below.refl _ _⟩
          · have g2 : decide ((1000 : Int) < (tz : Int)) = false := by simp; omega
            have HH := hd (HG.o v1 v2)
            clear v1 v2
            go_wp2
            go_round
            case rel => exact ⟨k + 1, by go_num, by omega, HH⟩
            case measure => simp [intOf]; omega
      · obtain rfl : k = n := by omega
        have HH : Hd (LB = true) := hd (by
          rw [HR.o, List.all_eq_true]
          intro x hx
          obtain ⟨j, hj, rfl⟩ := List.getElem_of_mem hx
          exact hall.o j hj (by rw [← HN.o]; exact hj))
        go_wp2
        go_ret
        exact ⟨ret_bool HH.o.symm, Below.refl _ _⟩

end Go.Proofs.Ytbeckfnhgeclnaa
