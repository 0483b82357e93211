/-
  henkeep.Ints: two lists of numbers alike.
-/
import Derived.Test.YtdnmeffglpmlaaaBase
import Derived.Test.YtdnmeffglpmlaaaProg
import Derived.BigQuiet
import Derived.Deep.QuietTactic
namespace Go.Proofs.Ytdnmeffglpmlaaa
open Go.RowKit

def iEnc (l : List Int) : List Value := l.map (Value.int .i64)
theorem iEnc_get (l : List Int) (k : Nat) (hk : k < l.length) : (iEnc l)[k]? = some (.int .i64 (l[k]?.getD 0)) := by simp [iEnc, hk]

set_option maxHeartbeats 600000 in
theorem ints_calls (w : World) (A A' : Option Addr) (n n' c c' : Nat) (l l' : List Int) (hn : n = l.length) (hn' : n' = l'.length) (hr : Rds w A n 1 (iEnc l)) (hr' : Rds w A' n' 1 (iEnc l')) (hb : n ≤ 9223372036854775807) (hb' : n' ≤ 9223372036854775807) :
    Calls Try.prog 20 #[.slice A n c, .slice A' n' c'] w fun e w' => e = .returned (.bool (l == l')) ∧ Below w.heap.size w w' := by
  have HN := hd hn
  have HN' := hd hn'
  clear hn hn'
  by_cases hne : n = n'
  · subst hne
    go_enter Try.func20, Try.ntmps20
    go_wp2
    go_loopw [5] (fun i wr => ∃ k : Nat, i = .int .i64 k ∧ k ≤ n ∧ (∃ q, wr = w.drewN q) ∧ Hd (∀ j, j < k → l[j]?.getD 0 = l'[j]?.getD 0)) (fun i _ => n - (intOf i).toNat)
    case atStart => exact ⟨0, rfl, Nat.zero_le _, ⟨0, rfl⟩, fun j hj => by omega⟩
    case round =>
      obtain ⟨k, rfl, hk, ⟨q, rfl⟩, hall⟩ := hrel
      by_cases hlt : k < n
      · obtain ⟨g, o, rfl, hg, hc⟩ := hr.at_ (by omega)
        obtain ⟨g', o', rfl, hg', hc'⟩ := hr'.at_ (by omega)
        have h1 := hc _ _ (iEnc_get l k (by rw [← HN.o]; exact hlt))
        have h2 := hc' _ _ (iEnc_get l' k (by rw [← HN'.o]; exact hlt))
        obtain ⟨x, hx⟩ : ∃ x, l[k]?.getD 0 = x := ⟨_, rfl⟩
        obtain ⟨y, hy⟩ : ∃ y, l'[k]?.getD 0 = y := ⟨_, rfl⟩
        rw [hx] at h1
        rw [hy] at h2
        have HX := hd hx
        have HY := hd hy
        clear hx hy hc hc' hr hr'
        go_wp2
        go_quiet (fail)
        go_wp2
        · go_ret
          have hne : (x != y) = true := by assumption
          refine ⟨ret_bool ?_, by repeat (first | exact Below.refl _ _ | apply bdrewN)⟩
          have : l ≠ l' := by
            rintro rfl
            rw [HX.o] at HY
            have := HY.o
            simp [this] at hne
          simp [this]
        · have hne : (x != y) = false := by assumption
          go_roundw
          case rel => exact ⟨k + 1, by go_num, by omega, ⟨_, rfl⟩, fun j hj => by
            rcases Nat.lt_or_ge j k with h | h
            · exact hall.o j h
            · obtain rfl : j = k := by omega
              rw [HX.o, HY.o]; simpa using hne⟩
          case measure => simp [intOf]; omega
      · obtain rfl : k = n := by omega
        go_wp2
        go_ret
        refine ⟨ret_bool ?_, by repeat (first | exact Below.refl _ _ | apply bdrewN)⟩
        have : l = l' := by
          refine List.ext_getElem (by rw [← HN.o, ← HN'.o]) fun j h1 h2 => ?_
          have := hall.o j (by rw [HN.o]; exact h1)
          simpa [h1, h2] using this
        simp [this]
  · go_enter Try.func20, Try.ntmps20
    have hbn : ((n : Int) != (n' : Int)) = true := by simp; omega
    go_wp2
    go_ret
    refine ⟨ret_bool ?_, Below.refl _ _⟩
    have : l ≠ l' := by rintro rfl; exact hne (by rw [HN.o, HN'.o])
    simp [this]

end Go.Proofs.Ytdnmeffglpmlaaa
