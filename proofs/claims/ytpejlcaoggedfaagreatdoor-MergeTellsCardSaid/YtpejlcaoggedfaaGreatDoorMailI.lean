/-
  Addresses: the reference's parts, what an address is, its own form, whether two are one.
-/
import Derived.Test.YtpejlcaoggedfaaGreatDoorMailG
import Derived.Test.YtpejlcaoggedfaaGreatDoorMailH
import Derived.Test.YtpejlcaoggedfaaGreatDoorMailD
import Derived.IntWalk
set_option linter.unusedVariables false
set_option linter.unusedSimpArgs false
namespace Go.Proofs.YtpejlcaoggedfaaGreatDoor
open Go.RowKit

/-- The last @. -/
def LastAt (l : List UInt8) (q : Nat) : Prop := q < l.length ∧ bt l q = 64 ∧ ∀ j, q < j → j < l.length → bt l j ≠ 64
theorem lastAt_split {l : List UInt8} {q : Nat} (h : LastAt l q) : l = l.take q ++ 64 :: l.drop (q + 1) := by
  obtain ⟨h1, h2, _⟩ := h
  have h64 : l[q] = 64 := by
    rw [bt_list l q h1] at h2
    exact UInt8.toNat_inj.1 h2
  conv => lhs; rw [← List.take_append_drop q l, List.drop_eq_getElem_cons h1, h64]
theorem lastAt_aft {l : List UInt8} {q : Nat} (h : LastAt l q) : (64 : UInt8) ∉ l.drop (q + 1) := by
  intro hm
  obtain ⟨i, hi, e⟩ := mem_bt hm
  rw [bt_drop] at e
  rw [List.length_drop] at hi
  exact h.2.2 (q + 1 + i) (by omega) (by omega) (by rw [e]; rfl)
theorem app_uniq (c : UInt8) : ∀ (a b a' b' : List UInt8), a ++ c :: b = a' ++ c :: b' → c ∉ a → c ∉ b' → c ∉ b → a = a' ∧ b = b'
  | [], b, [], b', h, _, _, _ => by simpa using h
  | [], b, x :: a', b', h, _, _, hb => by
    simp only [List.nil_append, List.cons_append, List.cons.injEq] at h
    exact absurd (h.2 ▸ by simp) hb
  | x :: a, b, [], b', h, ha, _, _ => by
    simp only [List.nil_append, List.cons_append, List.cons.injEq] at h
    exact absurd (by simp [h.1]) ha
  | x :: a, b, y :: a', b', h, ha, hb', hb => by
    simp only [List.cons_append, List.cons.injEq] at h
    simp only [List.mem_cons, not_or] at ha
    have := app_uniq c a b a' b' h.2 ha.2 hb' hb
    exact ⟨by rw [h.1, this.1], this.2⟩
/-- Of an address the last @ is the first one. -/
theorem addr_last {l : List UInt8} {q : Nat} (h : AddrP l) (hq : LastAt l q) : bef 64 l = l.take q ∧ aft 64 l = l.drop (q + 1) := by
  have e1 := bef_aft 64 l h.2.1
  have e2 := lastAt_split hq
  exact app_uniq 64 _ _ _ _ (e1.symm.trans e2) (bef_not 64 l) (lastAt_aft hq) (dom_no_at h.2.2.2)
theorem addr_at {l : List UInt8} {q : Nat} (hq : LastAt l q) (h1 : l.length ≤ 64) (ha : LocP (l.take q)) (hb : DomP (l.drop (q + 1))) : AddrP l ∧ bef 64 l = l.take q ∧ aft 64 l = l.drop (q + 1) := by
  have e2 := lastAt_split hq
  have := addr_of_parts (a := l.take q) (b := l.drop (q + 1)) (by rw [← e2]; exact h1) ha hb
  rw [← e2] at this
  exact this
theorem no_at {l : List UInt8} (h : ∀ j, j < l.length → bt l j ≠ 64) : (64 : UInt8) ∉ l := fun hm => by
  obtain ⟨i, hi, e⟩ := mem_bt hm
  exact h i hi (by rw [e]; rfl)

def SeekAt (l : List UInt8) (k : Nat) (p : Int) : Prop := (p = -1 ∧ ∀ j, j < k → bt l j ≠ 64) ∨ (∃ q : Nat, p = q ∧ q < k ∧ bt l q = 64 ∧ ∀ j, q < j → j < k → bt l j ≠ 64)
theorem seek_yes {l : List UInt8} {k : Nat} (hc : bt l k = 64) : SeekAt l (k + 1) k := .inr ⟨k, rfl, by omega, hc, fun j h1 h2 => by omega⟩
theorem seek_no {l : List UInt8} {k : Nat} {p : Int} (h : SeekAt l k p) (hc : bt l k ≠ 64) : SeekAt l (k + 1) p := by
  rcases h with ⟨h1, h2⟩ | ⟨q, h1, h2, h3, h4⟩
  · refine .inl ⟨h1, fun j hj => ?_⟩
    by_cases e : j = k
    · subst e; exact hc
    · exact h2 j (by omega)
  · refine .inr ⟨q, h1, by omega, h3, fun j h5 h6 => ?_⟩
    by_cases e : j = k
    · subst e; exact hc
    · exact h4 j h5 (by omega)

set_option maxRecDepth 100000 in
set_option maxHeartbeats 4000000 in
theorem rparts_calls (s : ByteArray) (hs : s.size ≤ 1000000000) (w : World) : Calls Tryz.prog 114 #[.string s] w fun e w' => e = .returned (.tuple #[.string (bs (partA s.data.toList)), .string (bs (partB s.data.toList)), .bool (addrB s.data.toList)]) ∧ Below w.heap.size w w' := by
  obtain ⟨V, hV⟩ : ∃ V, Value.tuple #[.string (bs (partA s.data.toList)), .string (bs (partB s.data.toList)), .bool (addrB s.data.toList)] = V := ⟨_, rfl⟩
  rw [hV]
  have HNO := hd (fun (h : ¬ AddrP s.data.toList) => by rw [← hV, ← (part_no h).1, ← (part_no h).2.1, ← (part_no h).2.2] : ¬ AddrP s.data.toList → V = .tuple #[.string (bs []), .string (bs []), .bool false])
  have HYES := hd (fun (h : AddrP s.data.toList) => by rw [← hV, ← (part_yes h).1, ← (part_yes h).2.1, ← (part_yes h).2.2] : AddrP s.data.toList → V = .tuple #[.string (bs (bef 64 s.data.toList)), .string (bs (aft 64 s.data.toList)), .bool true])
  clear hV
  have HL := hd (show s.data.toList.length = s.size by simp)
  go_enter Tryz.func114, Tryz.ntmps114
  go_wp2_with fail
  go_loop [5, 6] (fun a i => ∃ k : Nat, i = .int .i64 k ∧ k ≤ s.size ∧ ∃ p : Int, a = .int .i64 p ∧ Hd (SeekAt s.data.toList k p)) (fun _ i => s.size - (intOf i).toNat)
  case atStart => exact ⟨0, rfl, Nat.zero_le _, -1, rfl, .inl ⟨rfl, fun j h => absurd h (Nat.not_lt_zero _)⟩⟩
  case round =>
    obtain ⟨k, rfl, hk, p, rfl, hh⟩ := hrel
    have hki : (0 : Int) ≤ (k : Int) := by omega
    by_cases hlt : k < s.size
    · by_cases hc : s[k].toNat = 64
      · have n64 : ((s[k].toNat : Int) == 64) = true := by simp; omega
        have HN := hd (seek_yes (l := s.data.toList) ((bt_self s k hlt).trans hc))
        clear hc
        go_wp2
        go_round
        case rel => exact ⟨k + 1, by go_num, by omega, k, rfl, HN⟩
        case measure => simp [intOf]; omega
      · have n64 : ((s[k].toNat : Int) == 64) = false := by simp; omega
        have HN := hd (seek_no hh.o (by rw [bt_self s k hlt]; exact hc))
        clear hc
        go_wp2
        go_round
        case rel => exact ⟨k + 1, by go_num, by omega, p, rfl, HN⟩
        case measure => simp [intOf]; omega
    · have hke : k = s.size := by omega
      subst hke
      rcases hh.o with ⟨rfl, h2⟩ | ⟨q, rfl, h1, h2, h3⟩
      · have HX := hd (HNO.o (fun h => no_at (by rw [HL.o]; exact h2) h.2.1))
        clear h2
        go_wp2
        go_ret3
        exact ⟨by rw [HX.o]; rfl, Below.refl _ _⟩
      · have HQ := hd (⟨by rw [HL.o]; exact h1, h2, by rw [HL.o]; exact h3⟩ : LastAt s.data.toList q)
        clear h2 h3 hh hk
        by_cases c1 : 64 < s.size
        · have HX := hd (HNO.o (fun h => by have := h.1; rw [HL.o] at this; omega))
          go_wp2
          go_ret3
          exact ⟨by rw [HX.o]; rfl, Below.refl _ _⟩
        have hz1 : (s.extract 0 q).size ≤ 1000000000 := by rw [ByteArray.size_extract]; omega
        have hz2 : (s.extract (q + 1) s.size).size ≤ 1000000000 := by rw [ByteArray.size_extract]; omega
        have hl := rlocal_calls (s.extract 0 q) hz1 w
        have hd2 := domain_calls (s.extract (q + 1) s.size) hz2 w
        have e1 : (s.extract 0 q).data.toList = s.data.toList.take q := by rw [ext_data, List.drop_zero, Nat.sub_zero]
        have e2 : (s.extract (q + 1) s.size).data.toList = s.data.toList.drop (q + 1) := by
          rw [ext_data]; exact List.take_of_length_le (by rw [List.length_drop, HL.o]; exact Nat.le_refl _)
        have b1 : s.extract 0 q = bs (s.data.toList.take q) := by rw [← e1]; exact (bs_self _).symm
        have b2 : s.extract (q + 1) s.size = bs (s.data.toList.drop (q + 1)) := by rw [← e2]; exact (bs_self _).symm
        have BE := hd (⟨b1, b2⟩ : s.extract 0 q = bs (s.data.toList.take q) ∧ s.extract (q + 1) s.size = bs (s.data.toList.drop (q + 1)))
        clear hz1 hz2 b1 b2
        rw [e1] at hl
        rw [e2] at hd2
        clear e1 e2
        by_cases c2 : LocP (s.data.toList.take q)
        · rw [locB_t c2] at hl
          have H2 := hd hl
          by_cases c3 : DomP (s.data.toList.drop (q + 1))
          · rw [domB_t c3] at hd2
            have H3 := hd hd2
            have HA := hd (addr_at HQ.o (by rw [HL.o]; omega) c2 c3)
            have HX := hd (HYES.o HA.o.1)
            clear hl hd2 c2 c3
            go_wp2_with fail
            refine H2.o.mono ?_
            rintro e w' ⟨rfl, rfl⟩
            go_wp2_with fail
            refine H3.o.mono ?_
            rintro e w' ⟨rfl, rfl⟩
            have hwr : IntKind.i64.wrap ((q : Int) + 1) = (q : Int) + 1 := IntWalk.i64_in _ (by omega)
            have hq0 : (0 : Int) ≤ (q : Int) + 1 := by omega
            have hq1 : ((q : Int) + 1).toNat = q + 1 := by omega
            have hq2 : (0 : Int) ≤ (q : Int) := by omega
            have hq3 : (q : Int) + 1 ≤ (s.size : Int) := by omega
            go_wp2_with fail
            go_quiet (fail)
            go_wp2
            go_ret3
            refine ⟨?_, bdrewN (Below.refl _ _) _⟩
            rw [HX.o, HA.o.2.1, HA.o.2.2, ← BE.o.1, ← BE.o.2]
            rfl
          · rw [domB_f c3] at hd2
            have H3 := hd hd2
            have HX := hd (HNO.o (fun h => c3 (by have e := (addr_last h HQ.o).2; rw [← e]; exact h.2.2.2)))
            clear hl hd2 c2 c3
            go_wp2_with fail
            refine H2.o.mono ?_
            rintro e w' ⟨rfl, rfl⟩
            go_wp2_with fail
            refine H3.o.mono ?_
            rintro e w' ⟨rfl, rfl⟩
            go_wp2_with fail
            go_ret3
            exact ⟨by rw [HX.o]; rfl, Below.refl _ _⟩
        · rw [locB_f c2] at hl
          have H2 := hd hl
          have HX := hd (HNO.o (fun h => c2 (by have e := (addr_last h HQ.o).1; rw [← e]; exact h.2.2.1)))
          clear hl hd2 c2
          go_wp2_with fail
          refine H2.o.mono ?_
          rintro e w' ⟨rfl, rfl⟩
          go_wp2_with fail
          go_ret3
          exact ⟨by rw [HX.o]; rfl, Below.refl _ _⟩

theorem is_calls (s : ByteArray) (hs : s.size ≤ 1000000000) (w : World) (ht : Tbl w) : Calls Tryz.prog 78 #[.string s] w fun e w' => e = .returned (.bool (addrB s.data.toList)) ∧ Below w.heap.size w w' := by
  have HC := hd (parts_calls s hs w ht)
  clear ht
  go_enter Tryz.func78, Tryz.ntmps78
  go_wp2_with fail
  refine HC.o.mono ?_
  rintro e w1 ⟨rfl, hb1⟩
  go_wp2_with fail
  go_ret
  exact ⟨rfl, hb1⟩
theorem ris_calls (s : ByteArray) (hs : s.size ≤ 1000000000) (w : World) : Calls Tryz.prog 97 #[.string s] w fun e w' => e = .returned (.bool (addrB s.data.toList)) ∧ Below w.heap.size w w' := by
  have HC := hd (rparts_calls s hs w)
  go_enter Tryz.func97, Tryz.ntmps97
  go_wp2_with fail
  refine HC.o.mono ?_
  rintro e w1 ⟨rfl, hb1⟩
  go_wp2_with fail
  go_ret
  exact ⟨rfl, hb1⟩

theorem bs_eqv (a b : List UInt8) : ((bs a).toList == (bs b).toList) = decide (a = b) := by
  rw [ByteArray.toList_eq, ByteArray.toList_eq]
  show (a == b) = _
  by_cases h : a = b
  · subst h; simp
  · simp [h]
noncomputable def sameB (a b : List UInt8) : Bool := addrB a && (addrB b && decide (foldL a = foldL b))

end Go.Proofs.YtpejlcaoggedfaaGreatDoor
