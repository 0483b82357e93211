/-
  henref10.Items: two lists of items alike.
-/
import Derived.Test.YtbeckfnhgeclnaaCards
import Derived.Deep.QuietTactic
set_option linter.unusedVariables false
set_option linter.unusedSimpArgs false
namespace Go.Proofs.Ytbeckfnhgeclnaa
open Go.RowKit

theorem it_neq (x y : It) (W : World) : (binOp .neq 41 (.agg #[.string (bs x.uid), .int .i64 x.ver, .bool x.gone, .string (bs x.card)]) (.agg #[.string (bs y.uid), .int .i64 y.ver, .bool y.gone, .string (bs y.card)])).run Try.prog W = .ok (.bool (x != y)) W := by
  have u1 := Try.underlying2
  have a1 := Try.isAgg2
  have z1 := Try.sizeOf2
  have u2 := Try.underlying4
  have a2 := Try.isAgg4
  have z2 := Try.sizeOf4
  have u3 := Try.underlying9
  have a3 := Try.isAgg9
  have z3 := Try.sizeOf9
  have hS : Try.prog.underlying 41 = some (.struct (Try.prog.fieldsOf 41)) := by kernel_rfl
  have hp : Try.prog.stoodInHeld 41 = false := by kernel_rfl
  rw [run_neq_struct, show (10000 : Nat) = 9999 + 1 from rfl, run_equalIn_agg W 9999 41 _ _ hS hp]
  simp only [Program.fieldsOf, Try.underlying41]
  go_simp
  obtain ⟨a, b, c, d⟩ := x
  obtain ⟨a', b', c', d'⟩ := y
  have e : ∀ l : List UInt8, (bs l).toList = l := fun l => by rw [Lib.toList_data]; rfl
  simp only [e]
  by_cases h1 : a = a'
  · by_cases h2 : b = b'
    · by_cases h3 : c = c'
      · by_cases h4 : d = d'
        · simp [h1, h2, h3, h4]
        · simp [h1, h2, h3, h4]
      · simp [h1, h2, h3]
    · simp [h1, h2]
  · simp [h1]

theorem it_at (l : List It) (k : Nat) (h : k < l.length) : ∃ x, l[k]? = some x ∧ ∀ j, j < 4 → (itsEnc l)[k * 4 + j]? = (itEnc x)[j]? := ⟨l[k], by simp [h], fun j hj => flat_at itEnc 4 itEnc_len l k h j hj⟩

set_option maxHeartbeats 2000000 in
theorem its_calls (w : World) (A A' : Option Addr) (n n' c c' : Nat) (l l' : List It) (hn : n = l.length) (hn' : n' = l'.length) (hr : Rds w A n 4 (itsEnc l)) (hr' : Rds w A' n' 4 (itsEnc l')) (hb : n ≤ 1000000) (hb' : n' ≤ 1000000) :
    Calls Try.prog 28 #[.slice A n c, .slice A' n' c'] w fun e w' => e = .returned (.bool (decide (l = l'))) ∧ Below w.heap.size w w' := by
  have HN := hd hn
  have HN' := hd hn'
  clear hn hn'
  by_cases hne : n = n'
  · subst hne
    go_enter Try.func28, Try.ntmps28
    go_wp2
    go_loopw [5] (fun i wr => ∃ k : Nat, i = .int .i64 k ∧ k ≤ n ∧ (∃ q, wr = w.drewN q) ∧ Hd (∀ j, j < k → l[j]? = l'[j]?)) (fun i _ => n - (intOf i).toNat)
    case atStart => exact ⟨0, rfl, Nat.zero_le _, ⟨0, rfl⟩, fun j hj => by omega⟩
    case round =>
      obtain ⟨k, rfl, hk, ⟨q, rfl⟩, hall⟩ := hrel
      have hki : (0 : Int) ≤ (k : Int) := by omega
      by_cases hlt : k < n
      · have hlti : (k : Int) < (n : Int) := by omega
        obtain ⟨g, o, rfl, hg, hc⟩ := hr.at_ (by omega)
        obtain ⟨g', o', rfl, hg', hc'⟩ := hr'.at_ (by omega)
        obtain ⟨x, hx, hxc⟩ := it_at l k (by rw [← HN.o]; exact hlt)
        obtain ⟨y, hy, hyc⟩ := it_at l' k (by rw [← HN'.o]; exact hlt)
        have hcx : ∀ j u, j < 4 → (itEnc x)[j]? = some u → w.cell? ⟨g, o + (k * 4 + j), none⟩ = some u := fun j u hj hv => hc _ _ ((hxc j hj).trans hv)
        have hcy : ∀ j u, j < 4 → (itEnc y)[j]? = some u → w.cell? ⟨g', o' + (k * 4 + j), none⟩ = some u := fun j u hj hv => hc' _ _ ((hyc j hj).trans hv)
        have heq := it_neq x y
        have HX := hd hx
        have HY := hd hy
        have HXY : Hd ((x != y) = true → l ≠ l') := hd (fun h e => by
          subst e
          have := HX.o.symm.trans HY.o
          injection this with this
          subst this
          simp at h)
        have HXY2 : Hd ((x != y) = false → ∀ j, j < k + 1 → l[j]? = l'[j]?) := hd (fun h j hj => by
          have hxy : x = y := by simpa using h
          by_cases hjk : j < k
          · exact hall.o j hjk
          · obtain rfl : j = k := by omega
            rw [HX.o, HY.o, hxy])
        obtain ⟨bq, hbq⟩ : ∃ bq, (x != y) = bq := ⟨_, rfl⟩
        rw [hbq] at HXY HXY2
        simp only [hbq] at heq
        obtain ⟨xu, xv, xg, xc⟩ := x
        obtain ⟨yu, yv, yg, yc⟩ := y
        have a0 := hcx 0 _ (by omega) rfl
        have a1 := hcx 1 _ (by omega) rfl
        have a2 := hcx 2 _ (by omega) rfl
        have a3 := hcx 3 _ (by omega) rfl
        have b0 := hcy 0 _ (by omega) rfl
        have b1 := hcy 1 _ (by omega) rfl
        have b2 := hcy 2 _ (by omega) rfl
        have b3 := hcy 3 _ (by omega) rfl
        rw [← Nat.add_assoc] at a0 a1 a2 a3 b0 b1 b2 b3
        rw [Nat.add_zero] at a0 b0
        simp only at heq
        clear hx hy hc hc' hr hr' hxc hyc hcx hcy hbq
        go_wp2
        go_quiet (fail)
        cases bq with
        | true =>
          go_wp2
          go_ret
          refine ⟨ret_bool ?_, by repeat (first | exact Below.refl _ _ | apply bdrewN)⟩
          have := HXY.o (by first | rfl | trivial)
          simp [this]
        | false =>
          have HNX := hd (HXY2.o (by first | rfl | trivial))
          go_wp2
          go_roundw
          case rel => exact ⟨k + 1, by go_num, by omega, ⟨_, rfl⟩, HNX.o⟩
          case measure => simp [intOf]; omega
      · obtain rfl : k = n := by omega
        go_wp2
        go_ret
        refine ⟨ret_bool ?_, by repeat (first | exact Below.refl _ _ | apply bdrewN)⟩
        have : l = l' := by
          refine List.ext_getElem? fun j => ?_
          by_cases hj : j < k
          · exact hall.o j hj
          · rw [List.getElem?_eq_none (by rw [← HN.o]; omega), List.getElem?_eq_none (by rw [← HN'.o]; omega)]
        simp [this]
  · go_enter Try.func28, Try.ntmps28
    have hbn : ((n : Int) != (n' : Int)) = true := by simp; omega
    go_wp2
    go_ret
    refine ⟨ret_bool ?_, Below.refl _ _⟩
    have : l ≠ l' := by rintro rfl; exact hne (by rw [HN.o, HN'.o])
    simp [this]

end Go.Proofs.Ytbeckfnhgeclnaa
