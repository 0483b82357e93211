/-
  Numbers and texts in bytes, plain.
-/
import Derived.Test.YtogjokofmfpmgaaGreatDoorGAI
import Derived.Test.YtogjokofmfpmgaaGreatDoorGAA
import Derived.Test.YtogjokofmfpmgaaGreatDoorProg
import Derived.Sort.Grow
import Derived.Laws.ShiftsVar
import Derived.IntWalk
import Derived.Test.YtogjokofmfpmgaaGreatDoorGAJ
import Derived.Deep.RegionHeld3
import Derived.Test.YtogjokofmfpmgaaGreatDoorGAK
set_option linter.unusedVariables false
set_option linter.unusedSimpArgs false
namespace Go.Proofs.YtogjokofmfpmgaaGreatDoor
open Go.RowKit

theorem be_step (m n j : Nat) : be (m + 1) (n / 256 ^ j) = be m (n / 256 ^ (j + 1)) ++ [UInt8.ofNat (n / 256 ^ j)] := by
  rw [be, Nat.div_div_eq_div_mul, Nat.pow_succ]

end Go.Proofs.YtogjokofmfpmgaaGreatDoor
namespace Go.Proofs.YtogjokofmfpmgaaGreatDoor
open Go.RowKit

theorem shr_eq {m : Int} (h : 0 ≤ m) (k : Nat) : m / 2 ^ (8 * k) = ((m.toNat / 256 ^ k : Nat) : Int) := by
  have e : (2 : Int) ^ (8 * k) = ((256 ^ k : Nat) : Int) := by
    rw [Int.natCast_pow, Int.pow_mul]
    have : (2 : Int) ^ 8 = ((256 : Nat) : Int) := by decide
    rw [this]
  rw [e, Int.natCast_ediv, Int.toNat_of_nonneg h]

set_option maxRecDepth 100000 in
set_option maxHeartbeats 4000000 in
theorem pnum_calls (w : World) (A : Option Addr) (n c : Nat) (l : List UInt8) (m : Int) (hn : n = l.length) (hr : Rds w A n 1 (u8E l)) (hb : n ≤ 1000000) (hm : m ≤ 9223372036854775807) (hm0 : -9223372036854775808 ≤ m) :
    Calls Tryz.prog 45 #[.slice A n c, .int .i64 m] w fun e w' => BytR 5 w (l ++ numB m) e w' := by
  obtain ⟨i0, hi, hz0, hz1, hz2⟩ := info_parts pkInfo
  have HN := hd hn
  have HR := hd hr
  clear hn hr
  by_cases h0 : m < 0
  · have HV := hd (show numB m = [] by unfold numB; rw [if_pos h0])
    go_enter Tryz.func45, Tryz.ntmps45
    go_wp2_with (first
      | (refine wpList_make_own _ rfl _ _ 27 rfl 0 5 i0 (.int .u8 0) 1 Tryz.underlying27 hi hz0 hz1 _ _ _ (n + 9) rfl rfl (by omega) (by rw [hz2]; omega) (by unfold maxLen; omega) (Nat.zero_le _) ?_; intro w1 hown hgr; have HR1 := hd (show Row w1 (From w.heap.size) 5 1 (some ⟨w.heap.size, 0, none⟩) 0 (n + 9) [] from ⟨hown, fun a ha => by cases ha; exact Nat.le_refl _⟩); have HB1 := hd (((Chg.refl (From w.heap.size) w).grown hgr (fun _ h => by cases h)).below (fun _ h => h) (Nat.le_refl _)); have hs1 := HB1.o.size; have HL1 := hd (HR.o.below HB1.o); clear hown hgr)
      | (at_builtin; refine wpList_append_rowG rfl _ _ 27 rfl (From w.heap.size) 5 i0 (.int .u8 0) 1 1 Tryz.underlying27 hi hz0 hz1 hz2 rfl _ 0 (n + 9) [] rfl HR1.o A n c (u8E l) rfl HL1.o (u8E_one _) (by unfold maxLen; omega) (by omega) ?_; intro A2 c2 w2 hown hchg; have HR2 := hd (show Row w2 (From w.heap.size) 5 1 A2 n c2 (u8E l) by simpa using hown.mono (fun q hq => hq.elim id (fun hq => Nat.le_trans hs1 hq))); have HB2 := hd (HB1.o.trans (hchg.below (fun _ h => h) hs1)); have hs2 := HB2.o.size; clear hown hchg HR1 HL1; simp only [Nat.zero_add]))
    go_wp2
    go_ret
    exact ⟨⟨A2, n, c2, rfl, by rw [HV.o, List.append_nil]; exact HN.o, by rw [HV.o, List.append_nil]; exact HR2.o, HB2.o⟩⟩
  · by_cases h1 : m ≤ 247
    · have HV := hd (show numB m = [UInt8.ofNat m.toNat] by unfold numB; rw [if_neg h0, if_pos h1])
      have HU := hd (show ((UInt8.ofNat m.toNat).toNat : Int) = m by rw [ofNat_toNat]; omega)
      go_enter Tryz.func45, Tryz.ntmps45
      go_wp2_with (first
        | (refine wpList_make_own _ rfl _ _ 27 rfl 0 5 i0 (.int .u8 0) 1 Tryz.underlying27 hi hz0 hz1 _ _ _ (n + 9) rfl rfl (by omega) (by rw [hz2]; omega) (by unfold maxLen; omega) (Nat.zero_le _) ?_; intro w1 hown hgr; have HR1 := hd (show Row w1 (From w.heap.size) 5 1 (some ⟨w.heap.size, 0, none⟩) 0 (n + 9) [] from ⟨hown, fun a ha => by cases ha; exact Nat.le_refl _⟩); have HB1 := hd (((Chg.refl (From w.heap.size) w).grown hgr (fun _ h => by cases h)).below (fun _ h => h) (Nat.le_refl _)); have hs1 := HB1.o.size; have HL1 := hd (HR.o.below HB1.o); clear hown hgr)
        | (at_builtin; refine wpList_append_rowG rfl _ _ 27 rfl (From w.heap.size) 5 i0 (.int .u8 0) 1 1 Tryz.underlying27 hi hz0 hz1 hz2 rfl _ 0 (n + 9) [] rfl HR1.o A n c (u8E l) rfl HL1.o (u8E_one _) (by unfold maxLen; omega) (by omega) ?_; intro A2 c2 w2 hown hchg; have HR2 := hd (show Row w2 (From w.heap.size) 5 1 A2 n c2 (u8E l) by simpa using hown.mono (fun q hq => hq.elim id (fun hq => Nat.le_trans hs1 hq))); have HB2 := hd (HB1.o.trans (hchg.below (fun _ h => h) hs1)); have hs2 := HB2.o.size; clear hown hchg HR1 HL1; simp only [Nat.zero_add])
        | (at_builtin; refine wpList_append_row rfl _ _ 27 rfl (From w.heap.size) 5 i0 (.int .u8 0) 1 1 Tryz.underlying27 hi hz0 hz1 hz2 rfl A2 n c2 (u8E l) rfl (HR2.o.alloc _) ⟨_, 0, none⟩ 1 1 [.int .u8 m] rfl rfl (cells_at8 (Blk.new_ _ _ (by simp) _ _) rfl) (by simp [Value.oneCell']) (by omega) (by unfold maxLen; omega) (by omega) ?_; intro A3 c3 w3 hown3 hchg3))
      go_ret
      refine ⟨⟨A3, n + 1, c3, rfl, ?_, ?_, ?_⟩⟩
      · rw [HV.o, List.length_append, ← HN.o]; rfl
      · rw [HV.o, u8E_app, show u8E [UInt8.ofNat m.toNat] = [.int .u8 m] by show [Value.int .u8 ((UInt8.ofNat m.toNat).toNat : Int)] = _; rw [HU.o]]
        exact hown3.mono (fun q hq => hq.elim id (fun hq => by simp at hq; show w.heap.size ≤ q; omega))
      · exact HB2.o.trans (((Chg.refl (From w.heap.size) w2).alloc _).trans hchg3 (fun q hq => .inl hq) |>.below (fun _ h => h) hs2)
    · have HV := hd (show numB m = UInt8.ofNat (247 + nb m.toNat) :: be (nb m.toNat) m.toNat by unfold numB; rw [if_neg h0, if_neg h1])
      go_enter Tryz.func45, Tryz.ntmps45
      go_wp2_with (first
        | (refine wpList_make_own _ rfl _ _ 27 rfl 0 5 i0 (.int .u8 0) 1 Tryz.underlying27 hi hz0 hz1 _ _ _ (n + 9) rfl rfl (by omega) (by rw [hz2]; omega) (by unfold maxLen; omega) (Nat.zero_le _) ?_; intro w1 hown hgr; have HR1 := hd (show Row w1 (From w.heap.size) 5 1 (some ⟨w.heap.size, 0, none⟩) 0 (n + 9) [] from ⟨hown, fun a ha => by cases ha; exact Nat.le_refl _⟩); have HB1 := hd (((Chg.refl (From w.heap.size) w).grown hgr (fun _ h => by cases h)).below (fun _ h => h) (Nat.le_refl _)); have hs1 := HB1.o.size; have HL1 := hd (HR.o.below HB1.o); clear hown hgr)
        | (at_builtin; refine wpList_append_rowG rfl _ _ 27 rfl (From w.heap.size) 5 i0 (.int .u8 0) 1 1 Tryz.underlying27 hi hz0 hz1 hz2 rfl _ 0 (n + 9) [] rfl HR1.o A n c (u8E l) rfl HL1.o (u8E_one _) (by unfold maxLen; omega) (by omega) ?_; intro A2 c2 w2 hown hchg; have HR2 := hd (show Row w2 (From w.heap.size) 5 1 A2 n c2 (u8E l) by simpa using hown.mono (fun q hq => hq.elim id (fun hq => Nat.le_trans hs1 hq))); have HB2 := hd (HB1.o.trans (hchg.below (fun _ h => h) hs1)); have hs2 := HB2.o.size; clear hown hchg HR1 HL1; simp only [Nat.zero_add]))
      go_loop [6] (fun i => ∃ k : Nat, i = .int .i64 k ∧ k ≤ 8 ∧ Hd (∀ j, j < k → m.toNat / 256 ^ j ≠ 0)) (fun i => 8 - (intOf i).toNat)
      case atStart => exact ⟨0, rfl, Nat.zero_le _, hd (fun j hj => by omega)⟩
      case round =>
        obtain ⟨k, rfl, hk, HK⟩ := hrel
        have hsr := shr_eq (m := m) (by omega) k
        by_cases hc : k < 8 ∧ m.toNat / 256 ^ k ≠ 0
        · have hk8i : decide ((k : Int) < 8) = true := by simp; omega
          have ht : (m / 2 ^ (8 * k) != 0) = true := by rw [hsr]; exact bne_iff_ne.2 (fun h => hc.2 (Int.natCast_eq_zero.1 h))
          have HNX := hd (show ∀ j, j < k + 1 → m.toNat / 256 ^ j ≠ 0 from fun j hj => by
            by_cases e : j = k
            · rw [e]; exact hc.2
            · exact HK.o j (by omega))
          have hk8 := hc.1
          clear hc hsr
          go_wp2
          go_round
          case rel => exact ⟨k + 1, by go_num, by omega, HNX⟩
          case measure => simp [intOf]; omega
        · have HNB := hd (show nb m.toNat = k from nb_of (by
            by_cases h8 : k < 8
            · exact Decidable.not_not.1 (fun h => hc ⟨h8, h⟩)
            · have hk8 : k = 8 := by omega
              rw [hk8]
              exact Nat.div_eq_of_lt (by have : (256 : Nat) ^ 8 = 18446744073709551616 := by decide
                                         rw [this]; omega)) HK.o)
          have hk1 : 1 ≤ k := by
            have := nb_pos (n := m.toNat) (by omega)
            rw [HNB.o] at this; omega
          have hcs : decide ((k : Int) < 8) = false ∨ (decide ((k : Int) < 8) = true ∧ (m / 2 ^ (8 * k) != 0) = false) := by
            by_cases h8 : k < 8
            · refine .inr ⟨by simp; omega, ?_⟩
              have : m.toNat / 256 ^ k = 0 := Decidable.not_not.1 (fun h => hc ⟨h8, h⟩)
              rw [hsr, this]; rfl
            · exact .inl (by simp; omega)
          clear hc hsr
          rcases hcs with h8 | ⟨h8, ht⟩
          · go_wp2_with ((at_builtin; refine wpList_append_row rfl _ _ 27 rfl (From w.heap.size) 5 i0 (.int .u8 0) 1 1 Tryz.underlying27 hi hz0 hz1 hz2 rfl A2 n c2 (u8E l) rfl (HR2.o.alloc _) ⟨_, 0, none⟩ 1 1 [.int .u8 _] rfl rfl (cells_at8 (Blk.new_ _ _ (by simp) _ _) rfl) (by simp [Value.oneCell']) (by omega) (by unfold maxLen; omega) (by omega) ?_; intro A3 c3 w3 hown3 hchg3))
            have HE := hd (show u8E (l ++ [UInt8.ofNat (247 + nb m.toNat)]) = u8E l ++ [.int .u8 (247 + (k : Int))] by
              rw [u8E_app, HNB.o]
              show _ ++ [Value.int .u8 ((UInt8.ofNat (247 + k)).toNat : Int)] = _
              rw [ofNat_toNat, Nat.mod_eq_of_lt (by omega), Int.natCast_add]
              rfl)
            have HR3 := hd (show Row w3 (From w.heap.size) 5 1 A3 (n + 1) c3 (u8E (l ++ [UInt8.ofNat (247 + nb m.toNat)])) by
              rw [HE.o]; exact hown3.mono (fun q hq => hq.elim id (fun hq => by simp at hq; show w.heap.size ≤ q; omega)))
            have HB3 := hd (HB2.o.trans (((Chg.refl (From w.heap.size) w2).alloc _).trans hchg3 (fun q hq => .inl hq) |>.below (fun _ h => h) hs2))
            clear hown3 hchg3 HE
            go_loopw [7, 5] (fun i out wr => ∃ (j r : Nat) (x : Int) (A4 : Option Addr) (c4 : Nat), j + r = k ∧ i = .int .i64 x ∧ x + 1 = (j : Int) ∧ out = .slice A4 (n + 1 + r) c4 ∧ Hd (Row wr (From w.heap.size) 5 1 A4 (n + 1 + r) c4 (u8E (l ++ UInt8.ofNat (247 + nb m.toNat) :: be r (m.toNat / 256 ^ j)))) ∧ Hd (Below w.heap.size w wr)) (fun i _ _ => (intOf i + 1).toNat)
            case atStart => exact ⟨k, 0, (k : Int) - 1, A3, c3, by omega, rfl, by omega, rfl, HR3, HB3⟩
            case round =>
              obtain ⟨j, r, x, A4, c4, hjr, rfl, hx, rfl, HR4, HB4⟩ := hrel
              obtain ⟨wi, rfl⟩ : ∃ wi : World, wi = wr := ⟨_, rfl⟩
              have hs4 := HB4.o.size
              by_cases hj : j = 0
              · subst hj
                obtain rfl : x = -1 := by omega
                have HRK := hd (show r = k by omega)
                clear hjr hx
                go_wp2
                go_ret
                have hL : l ++ UInt8.ofNat (247 + nb m.toNat) :: be r (m.toNat / 256 ^ 0) = l ++ numB m := by rw [HV.o, HRK.o, HNB.o, Nat.pow_zero, Nat.div_one]
                have h4 := HR4.o
                rw [hL] at h4
                exact ⟨⟨A4, n + 1 + r, c4, rfl, by rw [← hL, List.length_append, List.length_cons, be_len, ← HN.o]; omega, h4, HB4.o⟩⟩
              · obtain ⟨j', rfl⟩ : ∃ j', j = j' + 1 := ⟨j - 1, by omega⟩
                obtain rfl : x = (j' : Int) := by omega
                have hge : decide ((0 : Int) ≤ (j' : Int)) = true := by simp
                have HSH := hd (shr_eq (m := m) (by omega) j')
                have hj8 : j' < 8 := by omega
                have HJR := hd hjr
                have hr8 : r ≤ 8 := by omega
                clear hjr hx
                go_wp2_with ((at_builtin; refine wpList_append_row rfl _ _ 27 rfl (From w.heap.size) 5 i0 (.int .u8 0) 1 1 Tryz.underlying27 hi hz0 hz1 hz2 rfl A4 (n + 1 + r) c4 (u8E (l ++ UInt8.ofNat (247 + nb m.toNat) :: be r (m.toNat / 256 ^ (j' + 1)))) rfl (HR4.o.alloc _) ⟨_, 0, none⟩ 1 1 [.int .u8 _] rfl rfl (cells_at8 (Blk.new_ _ _ (by simp) _ _) rfl) (by simp [Value.oneCell']) (by omega) (by unfold maxLen; omega) (by omega) ?_; intro A5 c5 w5 hown5 hchg5))
                go_roundw
                case rel =>
                  refine ⟨j', r + 1, (j' : Int) - 1, A5, c5, by have := HJR.o; omega, by first | rfl | go_num, by omega, by rfl, hd ?_, hd ?_⟩
                  · rw [be_step, ← List.cons_append, ← List.append_assoc, u8E_app]
                    have e : u8E [UInt8.ofNat (m.toNat / 256 ^ j')] = [.int .u8 (m / 2 ^ (8 * j') % 256)] := by
                      rw [HSH.o]
                      show [Value.int .u8 ((UInt8.ofNat (m.toNat / 256 ^ j')).toNat : Int)] = _
                      rw [ofNat_toNat, Int.natCast_emod]
                      rfl
                    rw [e]
                    exact hown5.mono (fun q hq => hq.elim id (fun hq => by simp at hq; show w.heap.size ≤ q; omega))
                  · exact HB4.o.trans (((Chg.refl (From w.heap.size) wi).alloc _).trans hchg5 (fun q hq => .inl hq) |>.below (fun _ h => h) hs4)
                case measure => simp [intOf] <;> omega
          · go_wp2_with ((at_builtin; refine wpList_append_row rfl _ _ 27 rfl (From w.heap.size) 5 i0 (.int .u8 0) 1 1 Tryz.underlying27 hi hz0 hz1 hz2 rfl A2 n c2 (u8E l) rfl (HR2.o.alloc _) ⟨_, 0, none⟩ 1 1 [.int .u8 _] rfl rfl (cells_at8 (Blk.new_ _ _ (by simp) _ _) rfl) (by simp [Value.oneCell']) (by omega) (by unfold maxLen; omega) (by omega) ?_; intro A3 c3 w3 hown3 hchg3))
            have HE := hd (show u8E (l ++ [UInt8.ofNat (247 + nb m.toNat)]) = u8E l ++ [.int .u8 (247 + (k : Int))] by
              rw [u8E_app, HNB.o]
              show _ ++ [Value.int .u8 ((UInt8.ofNat (247 + k)).toNat : Int)] = _
              rw [ofNat_toNat, Nat.mod_eq_of_lt (by omega), Int.natCast_add]
              rfl)
            have HR3 := hd (show Row w3 (From w.heap.size) 5 1 A3 (n + 1) c3 (u8E (l ++ [UInt8.ofNat (247 + nb m.toNat)])) by
              rw [HE.o]; exact hown3.mono (fun q hq => hq.elim id (fun hq => by simp at hq; show w.heap.size ≤ q; omega)))
            have HB3 := hd (HB2.o.trans (((Chg.refl (From w.heap.size) w2).alloc _).trans hchg3 (fun q hq => .inl hq) |>.below (fun _ h => h) hs2))
            clear hown3 hchg3 HE
            go_loopw [7, 5] (fun i out wr => ∃ (j r : Nat) (x : Int) (A4 : Option Addr) (c4 : Nat), j + r = k ∧ i = .int .i64 x ∧ x + 1 = (j : Int) ∧ out = .slice A4 (n + 1 + r) c4 ∧ Hd (Row wr (From w.heap.size) 5 1 A4 (n + 1 + r) c4 (u8E (l ++ UInt8.ofNat (247 + nb m.toNat) :: be r (m.toNat / 256 ^ j)))) ∧ Hd (Below w.heap.size w wr)) (fun i _ _ => (intOf i + 1).toNat)
            case atStart => exact ⟨k, 0, (k : Int) - 1, A3, c3, by omega, rfl, by omega, rfl, HR3, HB3⟩
            case round =>
              obtain ⟨j, r, x, A4, c4, hjr, rfl, hx, rfl, HR4, HB4⟩ := hrel
              obtain ⟨wi, rfl⟩ : ∃ wi : World, wi = wr := ⟨_, rfl⟩
              have hs4 := HB4.o.size
              by_cases hj : j = 0
              · subst hj
                obtain rfl : x = -1 := by omega
                have HRK := hd (show r = k by omega)
                clear hjr hx
                go_wp2
                go_ret
                have hL : l ++ UInt8.ofNat (247 + nb m.toNat) :: be r (m.toNat / 256 ^ 0) = l ++ numB m := by rw [HV.o, HRK.o, HNB.o, Nat.pow_zero, Nat.div_one]
                have h4 := HR4.o
                rw [hL] at h4
                exact ⟨⟨A4, n + 1 + r, c4, rfl, by rw [← hL, List.length_append, List.length_cons, be_len, ← HN.o]; omega, h4, HB4.o⟩⟩
              · obtain ⟨j', rfl⟩ : ∃ j', j = j' + 1 := ⟨j - 1, by omega⟩
                obtain rfl : x = (j' : Int) := by omega
                have hge : decide ((0 : Int) ≤ (j' : Int)) = true := by simp
                have HSH := hd (shr_eq (m := m) (by omega) j')
                have hj8 : j' < 8 := by omega
                have HJR := hd hjr
                have hr8 : r ≤ 8 := by omega
                clear hjr hx
                go_wp2_with ((at_builtin; refine wpList_append_row rfl _ _ 27 rfl (From w.heap.size) 5 i0 (.int .u8 0) 1 1 Tryz.underlying27 hi hz0 hz1 hz2 rfl A4 (n + 1 + r) c4 (u8E (l ++ UInt8.ofNat (247 + nb m.toNat) :: be r (m.toNat / 256 ^ (j' + 1)))) rfl (HR4.o.alloc _) ⟨_, 0, none⟩ 1 1 [.int .u8 _] rfl rfl (cells_at8 (Blk.new_ _ _ (by simp) _ _) rfl) (by simp [Value.oneCell']) (by omega) (by unfold maxLen; omega) (by omega) ?_; intro A5 c5 w5 hown5 hchg5))
                go_roundw
                case rel =>
                  refine ⟨j', r + 1, (j' : Int) - 1, A5, c5, by have := HJR.o; omega, by first | rfl | go_num, by omega, by rfl, hd ?_, hd ?_⟩
                  · rw [be_step, ← List.cons_append, ← List.append_assoc, u8E_app]
                    have e : u8E [UInt8.ofNat (m.toNat / 256 ^ j')] = [.int .u8 (m / 2 ^ (8 * j') % 256)] := by
                      rw [HSH.o]
                      show [Value.int .u8 ((UInt8.ofNat (m.toNat / 256 ^ j')).toNat : Int)] = _
                      rw [ofNat_toNat, Int.natCast_emod]
                      rfl
                    rw [e]
                    exact hown5.mono (fun q hq => hq.elim id (fun hq => by simp at hq; show w.heap.size ≤ q; omega))
                  · exact HB4.o.trans (((Chg.refl (From w.heap.size) wi).alloc _).trans hchg5 (fun q hq => .inl hq) |>.below (fun _ h => h) hs4)
                case measure => simp [intOf] <;> omega

end Go.Proofs.YtogjokofmfpmgaaGreatDoor
namespace Go.Proofs.YtogjokofmfpmgaaGreatDoor
open Go.RowKit

set_option maxHeartbeats 2000000 in
theorem ptext_calls (w : World) (A : Option Addr) (n c : Nat) (l : List UInt8) (s : ByteArray) (hn : n = l.length) (hr : Rds w A n 1 (u8E l)) (hb : n ≤ 900000) (hs : s.size ≤ 90000) :
    Calls Tryz.prog 43 #[.slice A n c, .string s] w fun e w' => BytR 5 w (l ++ textB s.data.toList) e w' := by
  obtain ⟨i0, hi, hz0, hz1, hz2⟩ := info_parts pkInfo
  have C1 := hd (pnum_calls w A n c l (s.size : Int) hn hr (by omega) (by omega) (by omega))
  have HNL := hd (show (numB (s.size : Int)).length ≤ 9 from numB_len _ (by omega))
  have HN := hd hn
  have HS := hd (show textB s.data.toList = numB (s.size : Int) ++ s.data.toList by unfold textB; rw [ba_size])
  clear hn hr
  go_enter Tryz.func43, Tryz.ntmps43
  go_wp2_with fail
  refine C1.o.mono ?_
  rintro e w1 ⟨⟨B, m, d, rfl, hm, hr, hb1⟩⟩
  have hmb : m ≤ 900009 := by rw [hm, List.length_append, ← HN.o]; have := HNL.o; omega
  have HM := hd hm
  have HR := hd hr
  have HB1 := hd hb1
  clear hm hr hb1
  go_wp2_with (at_builtin; refine wpList_append_str rfl _ _ 27 9 rfl (From w.heap.size) 5 i0 (.int .u8 0) 1 Tryz.underlying27 Tryz.underlying9 hi hz0 hz1 hz2 rfl B m d (u8E (l ++ numB (s.size : Int))) rfl HR.o s rfl (by unfold maxLen; omega) (by omega) ?_; intro A3 c3 w3 hown3 hchg3)
  go_ret
  refine ⟨⟨A3, m + s.size, c3, rfl, ?_, ?_, HB1.o.trans ((hchg3.below (fun _ h => h) HB1.o.size))⟩⟩
  · rw [HS.o, HM.o, ba_size]
    simp only [List.length_append]
    omega
  · rw [HS.o, ← List.append_assoc, u8E_app (l ++ numB (s.size : Int))]
    exact hown3.mono (fun q hq => hq.elim id (fun hq => Nat.le_trans HB1.o.size hq))

end Go.Proofs.YtogjokofmfpmgaaGreatDoor
namespace Go.Proofs.YtogjokofmfpmgaaGreatDoor
open Go.RowKit

set_option maxHeartbeats 2000000 in
theorem pcond_calls (w : World) (A : Option Addr) (n c : Nat) (l : List UInt8) (ck cv : Int) (hn : n = l.length) (hr : Rds w A n 1 (u8E l)) (hb : n ≤ 800000) (hck : I64b ck) (hcv : I64b cv) :
    Calls Tryz.prog 44 #[.slice A n c, .agg #[.int .i64 ck, .int .i64 cv]] w fun e w' => BytR 5 w (l ++ condB ck cv) e w' := by
  obtain ⟨X, hX⟩ : ∃ X, X = w.alloc (.cells #[.int .i64 ck, .int .i64 cv] 23) := ⟨_, rfl⟩
  have hbx : Blk X w.heap.size 23 #[.int .i64 ck, .int .i64 cv] := by rw [hX]; exact Blk.new _ _ _
  have hrx : Rds X A n 1 (u8E l) := by rw [hX]; exact hr.alloc _
  have HBX := hd (show Below w.heap.size w X by rw [hX]; exact (Below.refl _ w).alloc (Nat.le_refl _) _)
  have C1 := hd (pnum_calls X.drew A n c l ck hn (hrx.drewN 1) (by omega) hck.2 hck.1)
  have x0 := hbx.at_ 0 rfl
  have x1 := hbx.at_ 1 rfl
  have hxl := hbx.lt
  have HX := hd hX
  have HN := hd hn
  have HK1 := hd (numB_len9 hck)
  have HCV1 := hd hcv.1
  have HCV2 := hd hcv.2
  clear hX hn hr hrx hck hcv
  have tok1 : True := trivial
  go_enter Tryz.func44, Tryz.ntmps44
  go_wp2_with fail
  rw [← HX.o]
  go_region_held3 (fun w' => w'.cell? ⟨w.heap.size, 0, none⟩ = some (.int .i64 ck) ∧ w'.cell? ⟨w.heap.size, 1, none⟩ = some (.int .i64 cv)) (first | go_keep | (with_reducible exact ⟨k1, k2⟩)) (first
    | (go_at_call 45; have _t := tok1; (with_reducible refine C1.o.mono ?_); rintro e w1 ⟨⟨B, m, d, rfl, hm, hr1, hb1⟩⟩; have k1 := (hb1.cell (p := ⟨w.heap.size, 0, none⟩) hxl).trans x0; have k2 := (hb1.cell (p := ⟨w.heap.size, 1, none⟩) hxl).trans x1; have hml : m ≤ 900000 := (by have h1 := HK1.o; have h2 := HN.o; rw [hm, List.length_append]; omega); have HM := hd hm; have HR1 := hd hr1; have HB1 := hd hb1; clear tok1 hm hr1 hb1 _t)
    | (go_at_call 45; (with_reducible refine (pnum_calls _ B m d _ cv HM.o HR1.o.rds (by omega) HCV2.o HCV1.o).mono ?_); rintro e w2 ⟨⟨B2, m2, d2, rfl, hm2, hr2, hb2⟩⟩; have j1 := (hb2.cell (p := ⟨w.heap.size, 0, none⟩) (Nat.lt_of_lt_of_le hxl HB1.o.size)).trans k1; have j2 := (hb2.cell (p := ⟨w.heap.size, 1, none⟩) (Nat.lt_of_lt_of_le hxl HB1.o.size)).trans k2; clear k1 k2; have k1 := j1; have k2 := j2; clear j1 j2; have HM2 := hd hm2; have HR2 := hd hr2; have HB2 := hd hb2; clear hm2 hr2 hb2))
  go_wp2
  go_ret
  refine ⟨⟨B2, m2, d2, rfl, ?_, ?_, ?_⟩⟩
  · rw [HM2.o]; simp [condB]
  · have h := HR2.o
    rw [List.append_assoc] at h
    exact h.mono (fun q hq => Nat.le_trans (Nat.le_trans HBX.o.size HB1.o.size) hq)
  · exact HBX.o.trans ((undr (HB1.o.trans (HB2.o.mono HB1.o.size))).mono HBX.o.size)

set_option maxRecDepth 100000 in
set_option maxHeartbeats 4000000 in
theorem pop_calls (w : World) (A : Option Addr) (n c : Nat) (l : List UInt8) (o : OpV) (hn : n = l.length) (hr : Rds w A n 1 (u8E l)) (hb : n ≤ 600000) (hu : o.uid.length ≤ 80000) (hc : o.card.length ≤ 80000) (hck : I64b o.ck) (hcv : I64b o.cv) :
    Calls Tryz.prog 46 #[.slice A n c, .agg (opEnc o).toArray] w fun e w' => BytR 5 w (l ++ opB o) e w' := by
  obtain ⟨del, uid, card, ck, cv⟩ := o
  simp only at hu hc hck hcv
  simp only [opEnc]
  obtain ⟨X, hX⟩ : ∃ X, X = w.alloc (.cells #[.bool del, .string (bs uid), .string (bs card), .int .i64 ck, .int .i64 cv] 43) := ⟨_, rfl⟩
  have hbx : Blk X w.heap.size 43 #[.bool del, .string (bs uid), .string (bs card), .int .i64 ck, .int .i64 cv] := by rw [hX]; exact Blk.new _ _ _
  have hrx : Rds X A n 1 (u8E l) := by rw [hX]; exact hr.alloc _
  have HBX := hd (show Below w.heap.size w X by rw [hX]; exact (Below.refl _ w).alloc (Nat.le_refl _) _)
  have x0 := hbx.at_ 0 rfl
  have x1 := hbx.at_ 1 rfl
  have x2 := hbx.at_ 2 rfl
  have x3 := hbx.at_ 3 rfl
  have x4 := hbx.at_ 4 rfl
  have hxl := hbx.lt
  have HX := hd hX
  have HN := hd hn
  have HCK := hd hck
  have HCV := hd hcv
  have hsu : (bs uid).size ≤ 80000 := by rw [bs_size]; exact hu
  have hsc : (bs card).size ≤ 80000 := by rw [bs_size]; exact hc
  have LU := hd (show (textB uid).length ≤ 9 + uid.length from by have := numB_len9 (v := (uid.length : Int)) ⟨by omega, by omega⟩; unfold textB; rw [List.length_append]; omega)
  have LC := hd (show (textB card).length ≤ 9 + card.length from by have := numB_len9 (v := (card.length : Int)) ⟨by omega, by omega⟩; unfold textB; rw [List.length_append]; omega)
  have L0 : ∀ b : Int, b = 0 ∨ b = 1 → (numB b).length ≤ 9 := fun b h => numB_len9 ⟨by omega, by omega⟩
  have L00 := hd (L0 0 (.inl rfl))
  have L01 := hd (L0 1 (.inr rfl))
  clear hX hn hr hck hcv L0
  have tok1 : True := trivial
  have tok2 : True := trivial
  cases del with
  | true =>
    have HOB := hd (show opB ⟨true, uid, card, ck, cv⟩ = numB 1 ++ (textB uid ++ condB ck cv) from rfl)
    have C1 := hd (pnum_calls X.drew A n c l 1 HN.o (hrx.drewN 1) (by omega) (by decide) (by decide))
    clear hrx
    go_enter Tryz.func46, Tryz.ntmps46
    go_upto_region 1 with (fail)
    rw [← HX.o]
    go_wp2_with fail
    go_region_held3 (fun w' => w'.cell? ⟨w.heap.size, 1, none⟩ = some (.string (bs uid)) ∧ w'.cell? ⟨w.heap.size, 3, none⟩ = some (.int .i64 ck) ∧ w'.cell? ⟨w.heap.size, 4, none⟩ = some (.int .i64 cv)) (first | go_keep | (with_reducible exact ⟨k1, k3, k4⟩)) (first
      | (go_at_call 45; (with_reducible refine C1.o.mono ?_); rintro e w1 ⟨⟨B, m, d, rfl, hm, hr1, hb1⟩⟩; have k1 := (hb1.cell (p := ⟨w.heap.size, 1, none⟩) hxl).trans x1; have k3 := (hb1.cell (p := ⟨w.heap.size, 3, none⟩) hxl).trans x3; have k4 := (hb1.cell (p := ⟨w.heap.size, 4, none⟩) hxl).trans x4; have hml : m ≤ 600009 := (by have h1 := L01.o; have h2 := HN.o; rw [hm, List.length_append]; omega); have HM := hd hm; have HR1 := hd hr1; have HB1 := hd (HBX.o.trans ((undr hb1).mono HBX.o.size)); have hl1 := Nat.lt_of_lt_of_le hxl hb1.size; clear hm hr1 hb1)
      | (go_at_call 43; (with_reducible refine (ptext_calls _ B m d _ (bs uid) HM.o HR1.o.rds (by omega) (by omega)).mono ?_); rintro e w2 ⟨⟨B2, m2, d2, rfl, hm2, hr2, hb2⟩⟩; rw [bs_data] at hm2 hr2; have j1 := (hb2.cell (p := ⟨w.heap.size, 1, none⟩) hl1).trans k1; have j3 := (hb2.cell (p := ⟨w.heap.size, 3, none⟩) hl1).trans k3; have j4 := (hb2.cell (p := ⟨w.heap.size, 4, none⟩) hl1).trans k4; clear k1 k3 k4; have k1 := j1; have k3 := j3; have k4 := j4; clear j1 j3 j4; have hml2 : m2 ≤ 700009 := (by have h1 := LU.o; rw [hm2, List.length_append, ← HM.o]; omega); have HM2 := hd hm2; have HR2 := hd hr2; have HB2 := hd (HB1.o.trans (hb2.mono HB1.o.size)); have hl2 := Nat.lt_of_lt_of_le hl1 hb2.size; clear hm2 hr2 hb2)
      | (go_at_call 44; (with_reducible refine (pcond_calls _ B2 m2 d2 _ ck cv HM2.o HR2.o.rds (by omega) HCK.o HCV.o).mono ?_); rintro e w3 ⟨⟨B3, m3, d3, rfl, hm3, hr3, hb3⟩⟩; have j1 := (hb3.cell (p := ⟨w.heap.size, 1, none⟩) hl2).trans k1; have j3 := (hb3.cell (p := ⟨w.heap.size, 3, none⟩) hl2).trans k3; have j4 := (hb3.cell (p := ⟨w.heap.size, 4, none⟩) hl2).trans k4; clear k1 k3 k4; have k1 := j1; have k3 := j3; have k4 := j4; clear j1 j3 j4; have HM3 := hd hm3; have HR3 := hd hr3; have HB3 := hd (HB2.o.trans (hb3.mono HB2.o.size)); clear hm3 hr3 hb3))
    go_wp2
    go_ret
    refine ⟨⟨B3, m3, d3, rfl, ?_, ?_, HB3.o⟩⟩
    · rw [HM3.o, HOB.o]; simp
    · have h := HR3.o
      rw [List.append_assoc, List.append_assoc] at h
      rw [HOB.o]
      exact h.mono (fun q hq => Nat.le_trans HB2.o.size hq)
  | false =>
    have HOB := hd (show opB ⟨false, uid, card, ck, cv⟩ = numB 0 ++ (textB uid ++ (textB card ++ condB ck cv)) from rfl)
    have C1 := hd (pnum_calls X.drew A n c l 0 HN.o (hrx.drewN 1) (by omega) (by decide) (by decide))
    clear hrx
    go_enter Tryz.func46, Tryz.ntmps46
    go_upto_region 1 with (fail)
    rw [← HX.o]
    go_wp2_with fail
    go_region_held3 (fun w' => w'.cell? ⟨w.heap.size, 1, none⟩ = some (.string (bs uid)) ∧ w'.cell? ⟨w.heap.size, 2, none⟩ = some (.string (bs card)) ∧ w'.cell? ⟨w.heap.size, 3, none⟩ = some (.int .i64 ck) ∧ w'.cell? ⟨w.heap.size, 4, none⟩ = some (.int .i64 cv)) (first | go_keep | (with_reducible exact ⟨k1, kk, k3, k4⟩)) (first
      | (go_at_call 45; (with_reducible refine C1.o.mono ?_); rintro e w1 ⟨⟨B, m, d, rfl, hm, hr1, hb1⟩⟩; have k1 := (hb1.cell (p := ⟨w.heap.size, 1, none⟩) hxl).trans x1; have kk := (hb1.cell (p := ⟨w.heap.size, 2, none⟩) hxl).trans x2; have k3 := (hb1.cell (p := ⟨w.heap.size, 3, none⟩) hxl).trans x3; have k4 := (hb1.cell (p := ⟨w.heap.size, 4, none⟩) hxl).trans x4; have hml : m ≤ 600009 := (by have h1 := L00.o; have h2 := HN.o; rw [hm, List.length_append]; omega); have HM := hd hm; have HR1 := hd hr1; have HB1 := hd (HBX.o.trans ((undr hb1).mono HBX.o.size)); have hl1 := Nat.lt_of_lt_of_le hxl hb1.size; clear hm hr1 hb1)
      | (go_at_call 43; have _t := tok1; (with_reducible refine (ptext_calls _ B m d _ (bs uid) HM.o HR1.o.rds (by omega) (by omega)).mono ?_); rintro e w2 ⟨⟨B2, m2, d2, rfl, hm2, hr2, hb2⟩⟩; rw [bs_data] at hm2 hr2; have j1 := (hb2.cell (p := ⟨w.heap.size, 1, none⟩) hl1).trans k1; have jj := (hb2.cell (p := ⟨w.heap.size, 2, none⟩) hl1).trans kk; have j3 := (hb2.cell (p := ⟨w.heap.size, 3, none⟩) hl1).trans k3; have j4 := (hb2.cell (p := ⟨w.heap.size, 4, none⟩) hl1).trans k4; clear k1 kk k3 k4; have k1 := j1; have kk := jj; have k3 := j3; have k4 := j4; clear j1 jj j3 j4; have hml2 : m2 ≤ 700009 := (by have h1 := LU.o; rw [hm2, List.length_append, ← HM.o]; omega); have HM2 := hd hm2; have HR2 := hd hr2; have HB2 := hd (HB1.o.trans (hb2.mono HB1.o.size)); have hl2 := Nat.lt_of_lt_of_le hl1 hb2.size; clear hm2 hr2 hb2 tok1 _t)
      | (go_at_call 43; (with_reducible refine (ptext_calls _ B2 m2 d2 _ (bs card) HM2.o HR2.o.rds (by omega) (by omega)).mono ?_); rintro e w3 ⟨⟨B3, m3, d3, rfl, hm3, hr3, hb3⟩⟩; rw [bs_data] at hm3 hr3; have j1 := (hb3.cell (p := ⟨w.heap.size, 1, none⟩) hl2).trans k1; have jj := (hb3.cell (p := ⟨w.heap.size, 2, none⟩) hl2).trans kk; have j3 := (hb3.cell (p := ⟨w.heap.size, 3, none⟩) hl2).trans k3; have j4 := (hb3.cell (p := ⟨w.heap.size, 4, none⟩) hl2).trans k4; clear k1 kk k3 k4; have k1 := j1; have kk := jj; have k3 := j3; have k4 := j4; clear j1 jj j3 j4; have hml3 : m3 ≤ 800000 := (by have h1 := LC.o; rw [hm3, List.length_append, ← HM2.o]; omega); have HM3 := hd hm3; have HR3 := hd hr3; have HB3 := hd (HB2.o.trans (hb3.mono HB2.o.size)); have hl3 := Nat.lt_of_lt_of_le hl2 hb3.size; clear hm3 hr3 hb3)
      | (go_at_call 44; (with_reducible refine (pcond_calls _ B3 m3 d3 _ ck cv HM3.o HR3.o.rds (by omega) HCK.o HCV.o).mono ?_); rintro e w4 ⟨⟨B4, m4, d4, rfl, hm4, hr4, hb4⟩⟩; have j1 := (hb4.cell (p := ⟨w.heap.size, 1, none⟩) hl3).trans k1; have jj := (hb4.cell (p := ⟨w.heap.size, 2, none⟩) hl3).trans kk; have j3 := (hb4.cell (p := ⟨w.heap.size, 3, none⟩) hl3).trans k3; have j4 := (hb4.cell (p := ⟨w.heap.size, 4, none⟩) hl3).trans k4; clear k1 kk k3 k4; have k1 := j1; have kk := jj; have k3 := j3; have k4 := j4; clear j1 jj j3 j4; have HM4 := hd hm4; have HR4 := hd hr4; have HB4 := hd (HB3.o.trans (hb4.mono HB3.o.size)); clear hm4 hr4 hb4))
    go_wp2
    go_ret
    refine ⟨⟨B4, m4, d4, rfl, ?_, ?_, HB4.o⟩⟩
    · rw [HM4.o, HOB.o]; simp
    · have h := HR4.o
      rw [List.append_assoc, List.append_assoc, List.append_assoc] at h
      rw [HOB.o]
      exact h.mono (fun q hq => Nat.le_trans HB3.o.size hq)

end Go.Proofs.YtogjokofmfpmgaaGreatDoor
namespace Go.Proofs.YtogjokofmfpmgaaGreatDoor
open Go.RowKit

set_option maxRecDepth 100000 in
set_option maxHeartbeats 4000000 in
theorem put_yes (w : World) (A : Option Addr) (n c : Nat) (l : List UInt8) (k : Nat) (b : ByteArray) (hn : n = l.length) (hr : Rds w A n 1 (u8E l)) (hnb : n ≤ 1000000) (hk : k ≤ 255) (hb : b.size ≤ 20000) :
    Calls Tryz.prog 41 #[.slice A n c, .agg #[.int .i64 k, .string b]] w fun e w' => PutR w (l ++ frameB k b.data.toList) e w' := by
  obtain ⟨i0, hi, hz0, hz1, hz2⟩ := info_parts pkInfo
  obtain ⟨w0, hw0⟩ : ∃ w0, w0 = w.alloc (.cells #[.int .i64 k, .string b] 75) := ⟨_, rfl⟩
  have HZ0 := hd (show Blk w0 w.heap.size 75 #[.int .i64 k, .string b] by rw [hw0]; exact Blk.new _ _ _)
  have HB0 := hd (show Below w.heap.size w w0 by rw [hw0]; exact (Below.refl _ w).alloc (Nat.le_refl _) _)
  have HW0 := hd hw0
  have HR := hd (hr.below HB0.o)
  have HN := hd hn
  have z0 : w0.cell? ⟨w.heap.size, 0, none⟩ = some (.int .i64 k) := HZ0.o.at_ 0 rfl
  have z1 : w0.cell? ⟨w.heap.size, 1, none⟩ = some (.string b) := HZ0.o.at_ 1 rfl
  have d1 : decide ((k : Int) < 0) = false := by simp
  have d2 : decide ((255 : Int) < (k : Int)) = false := by simp; omega
  have d3 : decide ((20000 : Int) < (b.size : Int)) = false := by simp; omega
  have hbl : b.data.toList.length = b.size := by simp
  have HFC := hd (frame_cells l b.data.toList k hk (by rw [hbl]; exact hb))
  have hsl : sumF k b.data.toList < 65536 := by have := fsum_lt k b.data.toList; unfold sumF; omega
  have CS := hd (fun W => sum_calls k b (by omega) (by omega) W)
  rw [hbl] at HFC
  generalize sumF k b.data.toList = sm at *
  have HBL := hd hbl
  have hl0 := HZ0.o.lt
  clear hw0 hr hn hbl
  go_enter Tryz.func41, Tryz.ntmps41
  go_upto_region 1 with (fail)
  rw [← HW0.o]
  go_upto_region 6 with (fail)
  clear d1 d2 d3
  go_upto_region 7 with (first
    | (refine wpList_make_own _ rfl _ _ 27 rfl 0 5 i0 (.int .u8 0) 1 Tryz.underlying27 hi hz0 hz1 _ _ _ (n + b.size + 6) rfl rfl (by omega) (by rw [hz2]; omega) (by unfold maxLen; omega) (Nat.zero_le _) ?_; intro w1 hown hgr; have HR1 := hd (show Row w1 (From w0.heap.size) 5 1 (some ⟨w0.heap.size, 0, none⟩) 0 (n + b.size + 6) [] from ⟨hown, fun a ha => by cases ha; exact Nat.le_refl _⟩); have HB1 := hd (((Chg.refl (From w0.heap.size) w0).grown hgr (fun _ h => by cases h)).below (fun _ h => h) (Nat.le_refl _)); have hs1 := HB1.o.size; have HL1 := hd (HR.o.below HB1.o); clear hown hgr)
    | (at_builtin; refine wpList_append_rowG rfl _ _ 27 rfl (From w0.heap.size) 5 i0 (.int .u8 0) 1 1 Tryz.underlying27 hi hz0 hz1 hz2 rfl _ 0 (n + b.size + 6) [] rfl HR1.o A n c (u8E l) rfl HL1.o (u8E_one _) (by unfold maxLen; omega) (by omega) ?_; intro A2 c2 w2 hown hchg; have HR2 := hd (show Row w2 (From w0.heap.size) 5 1 A2 n c2 (u8E l) by simpa using hown.mono (fun q hq => hq.elim id (fun hq => Nat.le_trans hs1 hq))); have HB2 := hd (HB1.o.trans (hchg.below (fun _ h => h) hs1)); clear hown hchg HR1 HL1; simp only [Nat.zero_add]))
  have hz2b := HZ0.o.below HB2.o hl0
  have y0 := hz2b.at_ 0 (v := .int .i64 k) rfl
  have hs2 := HB2.o.size
  clear z0 z1 hz2b
  go_upto_region 8 with (at_builtin; refine wpList_append_row rfl _ _ 27 rfl (From w0.heap.size) 5 i0 (.int .u8 0) 1 1 Tryz.underlying27 hi hz0 hz1 hz2 rfl A2 n c2 (u8E l) rfl (HR2.o.alloc _) ⟨_, 0, none⟩ 4 4 [.int .u8 _, .int .u8 _, .int .u8 _, .int .u8 _] rfl rfl (cells_at8 (Blk.new_ _ _ (by simp) _ _) rfl) (by simp [Value.oneCell']) (by omega) (by unfold maxLen; omega) (by omega) ?_; intro A3 c3 w3 hown hchg; have HR3 := hd (hown.mono (fun q hq => show From w0.heap.size q from hq.elim id (fun hq => by simp at hq; show w0.heap.size ≤ q; omega))); have HB3 := hd (HB2.o.trans (((Chg.refl (From w0.heap.size) w2).alloc _).trans hchg (fun q hq => .inl hq) |>.below (fun _ h => h) hs2)); clear hown hchg HR2)
  have hz3b := HZ0.o.below HB3.o hl0
  have z0 := hz3b.at_ 0 (v := .int .i64 k) rfl
  have z1 := hz3b.at_ 1 (v := .string b) rfl
  have hs3 := HB3.o.size
  clear y0 hz3b
  go_upto_region 9 with (at_builtin; refine wpList_append_str rfl _ _ 27 9 rfl (From w0.heap.size) 5 i0 (.int .u8 0) 1 Tryz.underlying27 Tryz.underlying9 hi hz0 hz1 hz2 rfl A3 _ c3 _ rfl HR3.o b rfl (by unfold maxLen; omega) (by omega) ?_; intro A4 c4 w4 hown hchg; have HR4 := hd (hown.mono (fun q hq => show From w0.heap.size q from hq.elim id (fun hq => Nat.le_trans hs3 hq))); have HB4 := hd (HB3.o.trans (hchg.below (fun _ h => h) hs3)); clear hown hchg HR3)
  have hz4b := HZ0.o.below HB4.o hl0
  have y0 := hz4b.at_ 0 (v := .int .i64 k) rfl
  have y1 := hz4b.at_ 1 (v := .string b) rfl
  have hs4 := HB4.o.size
  clear z0 z1 hz4b
  go_upto_region 10 with (go_at_call 82; refine (CS.o _).mono ?_; rintro e w' ⟨rfl, rfl⟩)
  go_wp2_with (at_builtin; refine wpList_append_row rfl _ _ 27 rfl (From w0.heap.size) 5 i0 (.int .u8 0) 1 1 Tryz.underlying27 hi hz0 hz1 hz2 rfl A4 _ c4 _ rfl (HR4.o.alloc _) ⟨_, 0, none⟩ 2 2 [.int .u8 _, .int .u8 _] rfl rfl (cells_at8 (Blk.new_ _ _ (by simp) _ _) rfl) (by simp [Value.oneCell']) (by omega) (by unfold maxLen; omega) (by omega) ?_; intro A5 c5 w5 hown hchg; have HR5 := hd (hown.mono (fun q hq => show From w0.heap.size q from hq.elim id (fun hq => by simp at hq; show w0.heap.size ≤ q; omega))); have HB5 := hd (HB4.o.trans (((Chg.refl (From w0.heap.size) w4).alloc _).trans hchg (fun q hq => .inl hq) |>.below (fun _ h => h) hs4)); clear hown hchg HR4)
  go_ret2
  refine ⟨⟨A5, _, c5, rfl, by rw [List.length_append, frameB_len, HBL.o, ← HN.o]; omega, ?_, HB0.o.trans (HB5.o.mono HB0.o.size)⟩⟩
  have h5 := HR5.o
  rw [HFC.o]
  exact h5.mono (fun q hq => Nat.le_trans HB0.o.size hq)

end Go.Proofs.YtogjokofmfpmgaaGreatDoor
