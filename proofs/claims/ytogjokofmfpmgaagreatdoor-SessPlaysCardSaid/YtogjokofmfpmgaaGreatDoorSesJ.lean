/-
  henlaw26: acts, light.
-/
import Derived.Test.YtogjokofmfpmgaaGreatDoorGAS
import Derived.Test.YtogjokofmfpmgaaGreatDoorGAJ
set_option linter.unusedVariables false
set_option linter.unusedSimpArgs false
namespace Go.Proofs.YtogjokofmfpmgaaGreatDoor
open Go.RowKit

/-- One act: a Feed of s (op 0), a Half (1), a Next. -/
structure SAc where
  op : Int
  s : List UInt8
def sacEnc (a : SAc) : List Value := [.int .i64 a.op, .string (bs a.s)]
def sacE (l : List SAc) : List Value := l.flatMap sacEnc
theorem sacEnc_len (a : SAc) : (sacEnc a).length = 2 := rfl
theorem sacE_at (l : List SAc) (i : Nat) (h : i < l.length) (j : Nat) (hj : j < 2) : (sacE l)[i * 2 + j]? = (sacEnc l[i])[j]? := flat_at sacEnc 2 sacEnc_len l i h j hj
def lightA (x : SAc) : Bool := !decide (2000 < x.s.length)
def lightL (l : List SAc) : Bool := !decide (60 < l.length) && l.all lightA
theorem lightL_le {l : List SAc} (h : lightL l = true) : l.length ≤ 60 ∧ ∀ a ∈ l, a.s.length ≤ 2000 := by
  unfold lightL lightA at h
  simp only [Bool.and_eq_true, Bool.not_eq_true', decide_eq_false_iff_not, Nat.not_lt, List.all_eq_true] at h
  exact h

set_option maxHeartbeats 2000000 in
theorem slight_calls (w : World) (l : List SAc) (A : Option Addr) (c : Nat) (hr : Rds w A l.length 2 (sacE l)) (hlen : l.length ≤ maxLen) (heach : ∀ a ∈ l, a.s.length ≤ maxLen) :
    Calls Tryz.prog 27 #[.slice A l.length c] w fun e w' => e = .returned (.bool (lightL l)) ∧ w = w' := by
  obtain ⟨LB, hLB⟩ : ∃ LB, lightL l = LB := ⟨_, rfl⟩
  rw [hLB]
  simp only [lightL] at hLB
  obtain ⟨n, hn⟩ : ∃ n, l.length = n := ⟨_, rfl⟩
  rw [hn] at hr hlen hLB ⊢
  have HL := hd hLB
  have HN := hd hn
  have HE := hd heach
  unfold maxLen at hlen
  have HRX := hd hr
  clear hLB hn heach hr
  by_cases c0 : 60 < n
  case pos =>
    have f0 : decide ((60 : Int) < (n : Int)) = true := by simp; omega
    have HR : Hd (LB = false) := hd (by rw [← HL.o]; simp [c0])
    clear c0
    go_enter Tryz.func27, Tryz.ntmps27
    go_wp2
    go_ret
    exact ⟨ret_bool HR.o.symm, rfl⟩
  case neg =>
  have f0 : decide ((60 : Int) < (n : Int)) = false := by simp; omega
  have HR : Hd (LB = l.all lightA) := hd (by rw [← HL.o]; simp [c0])
  go_enter Tryz.func27, Tryz.ntmps27
  go_wp2_with fail
  clear f0 c0
  go_loop [3] (fun i => ∃ k : Nat, i = .int .i64 k ∧ k ≤ n ∧ Hd (∀ j (h : j < l.length), j < k → lightA l[j] = true)) (fun i => n - (intOf i).toNat)
  case atStart => exact ⟨0, rfl, Nat.zero_le _, hd (fun j _ h => absurd h (Nat.not_lt_zero _))⟩
  case round =>
    obtain ⟨k, rfl, hk, hall⟩ := hrel
    have hki : (0 : Int) ≤ (k : Int) := by omega
    by_cases hlt : k < n
    · have hlti : (k : Int) < (n : Int) := by omega
      have hkl : k < l.length := by rw [HN.o]; exact hlt
      obtain ⟨g, o, rfl, hg, hc⟩ := HRX.o.at_ (by omega)
      obtain ⟨x, hx⟩ : ∃ x, l[k]'hkl = x := ⟨_, rfl⟩
      have HX2 := hd hx
      have hes := HE.o x (by rw [← hx]; exact List.getElem_mem hkl)
      have hcell : ∀ j u, j < 2 → (sacEnc x)[j]? = some u → w.cell? ⟨g, o + (k * 2 + j), none⟩ = some u := fun j u hj hv => hc _ _ ((sacE_at l k hkl j hj).trans (by rw [hx]; exact hv))
      obtain ⟨xo, xs⟩ := x
      have k1 := hcell 1 _ (by omega) rfl
      rw [← Nat.add_assoc] at k1
      obtain ⟨vz, hvz⟩ : ∃ z, xs.length = z := ⟨_, rfl⟩
      simp only [hvz] at hes
      unfold maxLen at hes
      have hsu : (bs xs).size = vz := by rw [bs_size, hvz]
      have HBAD : Hd (2000 < vz → LB = false) := hd (fun h => by
        rw [HR.o, Bool.eq_false_iff]
        intro ha
        have := List.all_eq_true.1 ha _ (List.getElem_mem hkl)
        rw [HX2.o] at this
        simp only [lightA, hvz] at this
        simp [h] at this)
      have HG : Hd (¬ 2000 < vz → ∀ j (h : j < l.length), j < k + 1 → lightA l[j] = true) := hd (fun h1 j hj hjk => by
        by_cases hjj : j < k
        · exact hall.o j hj hjj
        · obtain rfl : j = k := by omega
          rw [HX2.o]
          simp only [lightA, hvz]
          simp [h1])
      clear hcell hc hx hvz hall
      by_cases v2 : 2000 < vz
      · have g2 : decide ((2000 : Int) < (vz : Int)) = true := by simp; omega
        have HH := hd (HBAD.o v2)
        clear v2
        go_wp2
        go_ret
        exact ⟨ret_bool HH.o.symm, rfl⟩
      · have g2 : decide ((2000 : Int) < (vz : Int)) = false := by simp; omega
        have HH := hd (HG.o v2)
        clear v2
        go_wp2
        go_round
        case rel => exact ⟨k + 1, by go_num, by omega, HH⟩
        case measure => simp [intOf]; omega
    · obtain rfl : k = n := by omega
      have HH : Hd (LB = true) := hd (by
        rw [HR.o, List.all_eq_true]
        intro x hx
        obtain ⟨j, hj, rfl⟩ := List.getElem_of_mem hx
        exact hall.o j hj (by rw [← HN.o]; exact hj))
      have hki2 : ¬ (k : Int) < (k : Int) := by omega
      clear hall
      go_wp2
      go_ret
      exact ⟨ret_bool HH.o.symm, rfl⟩
end Go.Proofs.YtogjokofmfpmgaaGreatDoor
