/-
  A map that rises (EntItem): where a key stands.
-/
import Derived.Test.YtbeckfnhgeclnaaItP
import Derived.Test.YtbeckfnhgeclnaaCmpS
import Derived.Test.YtbeckfnhgeclnaaProg
import Derived.BigQuiet
set_option linter.unusedVariables false
set_option linter.unusedSimpArgs false
namespace Go.Proofs.Ytbeckfnhgeclnaa
open Go.RowKit Go.Lib

def enEntItem (x : List UInt8 × It) : List Value := .string (bs x.1) :: itEnc x.2
def meEntItem (l : ML It) : List Value := l.flatMap enEntItem
theorem enEntItem_len (x : List UInt8 × It) : (enEntItem x).length = 5 := rfl
theorem enEntItem_one (x : List UInt8 × It) : ∀ u ∈ enEntItem x, u.oneCell' = true := by
  intro u hu
  simp [enEntItem, itEnc] at hu
  rcases hu with rfl | rfl | rfl | rfl | rfl <;> rfl
theorem meEntItem_one (l : ML It) : ∀ u ∈ meEntItem l, u.oneCell' = true := by
  intro u hu
  obtain ⟨x, _, h⟩ := List.mem_flatMap.1 hu
  exact enEntItem_one x u h
theorem meEntItem_at (l : ML It) (i : Nat) (h : i < l.length) (j : Nat) (hj : j < 5) : (meEntItem l)[i * 5 + j]? = (enEntItem l[i])[j]? := flat_at enEntItem 5 enEntItem_len l i h j hj

theorem find1EntItem_calls (w : World) (x : List UInt8 × It) (k : List UInt8) :
    Calls Try.prog 100 #[.agg (enEntItem x).toArray, .string (bs k)] w fun e w' => e = .returned (.int .i64 (compareBytes x.1 k)) ∧ w.alloc (.cells (enEntItem x).toArray 139) = w' := by
  obtain ⟨key, ⟨uid, ver, gone, card⟩⟩ := x
  have hc := hd (scmp_calls (w.alloc (.cells (enEntItem (key, ⟨uid, ver, gone, card⟩)).toArray 139)) key k)
  simp only [enEntItem, itEnc] at hc ⊢
  go_enter Try.func100, Try.ntmps100
  go_wp2_with fail
  refine hc.o.mono ?_
  rintro e w1 ⟨rfl, rfl⟩
  go_wp2_with fail
  go_ret
  exact ⟨rfl, rfl⟩

set_option maxHeartbeats 1000000 in
theorem bsfEntItem_calls (w : World) (S : Nat → Prop) (A : Option Addr) (c : Nat) (l : ML It) (k : List UInt8) (hr : Row w S 139 5 A l.length c (meEntItem l)) (hs : Rising l) (hl : l.length ≤ 1000000) :
    Calls Try.prog 99 #[.slice A l.length c, .string (bs k), .func (.func 100) #[] #[]] w fun e w' => e = .returned (.tuple #[.int .i64 (place l k : Nat), .bool (hasM l k)]) ∧ Below w.heap.size w w' := by
  obtain ⟨n, hn⟩ : ∃ n, l.length = n := ⟨_, rfl⟩
  obtain ⟨p, hp⟩ : ∃ p, place l k = p := ⟨_, rfl⟩
  obtain ⟨q, hq⟩ : ∃ q, hasM l k = q := ⟨_, rfl⟩
  have hpn : p ≤ n := by rw [← hp, ← hn]; exact place_le l k
  have HQ : Hd (q = match l[p]? with | some x => decide (x.1 = k) | none => false) := hd (by
    rw [← hq, ← hp, hasM, getM_place hs]
    cases l[place l k]? with
    | none => rfl
    | some x => by_cases h : x.1 = k <;> simp [h])
  have HP := hd (fun t (ht : t < l.length) => hp ▸ place_lt (k := k) hs t ht)
  have hcell := hd (fun (t : Nat) (ht : t < n) => (show ∃ x : List UInt8 × It, l[t]? = some x ∧ (t < p ↔ compareBytes x.1 k < 0) ∧ ∀ j, j < 5 → (meEntItem l)[t * 5 + j]? = (enEntItem x)[j]? from
    ⟨l[t]'(by omega), by simp [hn, ht], HP.o t (by omega), fun j hj => meEntItem_at l t (by omega) j hj⟩))
  rw [hn] at hr hl ⊢
  rw [hp, hq]
  have hcap := hr.cap
  unfold maxLen at hcap
  clear hp hq hn HP
  go_enter Try.func99, Try.ntmps99
  go_wp2_with fail
  go_loopw [9, 10] (fun x y wr => ∃ lo hi : Nat, x = .int .i64 lo ∧ y = .int .i64 hi ∧ lo ≤ hi ∧ hi ≤ n ∧ lo ≤ p ∧ p ≤ hi ∧ Below w.heap.size w wr) (fun x y _ => (intOf y - intOf x).toNat)
  case atStart => exact ⟨0, n, rfl, rfl, by omega, by omega, by omega, hpn, Below.refl _ _⟩
  case round =>
    obtain ⟨lo, hi, rfl, rfl, h1, h2, h3, h4, hbe⟩ := hrel
    by_cases hlt : lo < hi
    · obtain ⟨m, hm⟩ : ∃ m, m = (lo + hi) / 2 := ⟨_, rfl⟩
      have hmi : ((lo : Int) + (hi : Int)) / 2 = (m : Int) := by omega
      have hm1 : lo ≤ m := by omega
      have hm2 : m < hi := by omega
      have hm3 : m < n := by omega
      obtain ⟨g, rfl, _, hg, _, _, hc, _⟩ := hr.at_ (by omega)
      obtain ⟨x, hx, hxp, hxc⟩ := hcell.o m hm3
      have hcc : ∀ j v, j < 5 → (enEntItem x)[j]? = some v → wr.cell? ⟨g, m * 5 + j, none⟩ = some v := fun j v hj hv => (hbe.cell (p := ⟨g, m * 5 + j, none⟩) hg).trans (hc _ _ ((hxc j hj).trans hv))
      obtain ⟨key, ⟨uid, ver, gone, card⟩⟩ := x
      (have k0 := hcc 0 _ (by omega) rfl; have k1 := hcc 1 _ (by omega) rfl; have k2 := hcc 2 _ (by omega) rfl; have k3 := hcc 3 _ (by omega) rfl; have k4 := hcc 4 _ (by omega) rfl; rw [Nat.add_zero] at k0)
      have hf := hd (find1EntItem_calls wr (key, ⟨uid, ver, gone, card⟩) k)
      simp only [enEntItem, itEnc] at hf
      obtain ⟨z, hz⟩ : ∃ z, compareBytes key k = z := ⟨_, rfl⟩
      simp only at hxp
      rw [hz] at hxp hf
      have HXP := hd hxp
      clear hm hx hxc hcc hc hr hxp hz
      by_cases hzl : z < 0
      · go_wp2_with (go_at_call 100; refine hf.o.mono ?_; rintro e w1 ⟨rfl, rfl⟩)
        have hmp := HXP.o.2 hzl
        go_roundw
        case rel => exact ⟨m + 1, hi, by go_num, rfl, by omega, by omega, by omega, by omega, hbe.alloc hbe.size _⟩
        case measure => simp [intOf]; omega
      · have hmp : p ≤ m := Nat.le_of_not_lt (fun h => hzl (HXP.o.1 h))
        go_wp2_with (go_at_call 100; refine hf.o.mono ?_; rintro e w1 ⟨rfl, rfl⟩)
        go_roundw
        case rel => exact ⟨lo, m, rfl, by go_num, by omega, by omega, by omega, by omega, hbe.alloc hbe.size _⟩
        case measure => simp [intOf]; omega
    · obtain rfl : hi = lo := by omega
      obtain rfl : p = hi := by omega
      by_cases hpn' : p < n
      · obtain ⟨g, rfl, _, hg, _, _, hc, _⟩ := hr.at_ (by omega)
        obtain ⟨x, hx, hxp, hxc⟩ := hcell.o p hpn'
        have hcc : ∀ j v, j < 5 → (enEntItem x)[j]? = some v → wr.cell? ⟨g, p * 5 + j, none⟩ = some v := fun j v hj hv => (hbe.cell (p := ⟨g, p * 5 + j, none⟩) hg).trans (hc _ _ ((hxc j hj).trans hv))
        obtain ⟨key, ⟨uid, ver, gone, card⟩⟩ := x
        obtain ⟨m, hm⟩ : ∃ m, m = p := ⟨_, rfl⟩
        have HQ2 : Hd (q = decide (compareBytes key k = 0)) := hd (by
          rw [HQ.o, hx]
          show decide (key = k) = _
          by_cases h : key = k
          · rw [h, cmp_self]; simp
          · have : compareBytes key k ≠ 0 := fun e => h (cmp_zero e)
            simp [h, this])
        rw [← hm] at hcc hpn'
        (have k0 := hcc 0 _ (by omega) rfl; have k1 := hcc 1 _ (by omega) rfl; have k2 := hcc 2 _ (by omega) rfl; have k3 := hcc 3 _ (by omega) rfl; have k4 := hcc 4 _ (by omega) rfl; rw [Nat.add_zero] at k0)
        have hf := hd (find1EntItem_calls wr (key, ⟨uid, ver, gone, card⟩) k)
        simp only [enEntItem, itEnc] at hf
        obtain ⟨z, hz⟩ : ∃ z, compareBytes key k = z := ⟨_, rfl⟩
        rw [hz] at hf HQ2
        subst hm
        clear hx hxp hxc hcc hc hr hz HQ hcell
        go_wp2_with (go_at_call 100; refine hf.o.mono ?_; rintro e w1 ⟨rfl, rfl⟩)
        all_goals
          go_ret2
          refine ⟨ret_val ?_, hbe.alloc hbe.size _⟩
          rw [HQ2.o]
          first | rfl | (congr 2; simp_all) | simp_all
      · have HQ2 : Hd (q = false) := hd (by
          have e : l[p]? = none := by
            by_cases h : p < l.length
            · exfalso
              have hn2 := hr.len
              rw [meEntItem, flat_length enEntItem 5 enEntItem_len] at hn2
              omega
            · simp; omega
          rw [HQ.o, e])
        clear HQ hcell hr
        go_wp2
        go_ret2
        exact ⟨ret_val (by rw [HQ2.o]; first | rfl | simp), hbe⟩

end Go.Proofs.Ytbeckfnhgeclnaa
