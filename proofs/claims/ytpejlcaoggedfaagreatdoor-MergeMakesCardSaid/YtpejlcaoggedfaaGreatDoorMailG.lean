/-
  The program's addresses: their two parts.
-/
import Derived.Test.YtpejlcaoggedfaaGreatDoorMailE
set_option linter.unusedVariables false
set_option linter.unusedSimpArgs false
namespace Go.Proofs.YtpejlcaoggedfaaGreatDoor
open Go.RowKit

theorem cut_calls (s : ByteArray) (hs : s.size ≤ 1000000000) (w : World) (ht : Tbl w) : Calls Tryz.prog 41 #[.string s, .string ⟨#[64]⟩] w fun e w' => (e = .returned (if 64 ∈ s.data.toList then .tuple #[.string (bs (bef 64 s.data.toList)), .string (bs (aft 64 s.data.toList)), .bool true] else .tuple #[.string s, .string (bs []), .bool false])) ∧ Below w.heap.size w w' := by
  obtain ⟨m, hm⟩ := ht.2
  refine (Any.strings_Cut { laysM145 with } s ⟨#[64]⟩ m w (by omega) hm).mono ?_
  rintro e w' ⟨rfl, n, rfl⟩
  refine ⟨?_, bdrewN (Below.refl _ _) _⟩
  rw [show (⟨#[64]⟩ : ByteArray).data.toList = [64] from rfl, cut_one]
  by_cases h : 64 ∈ s.data.toList
  · rw [if_pos h, if_pos h]; rfl
  · rw [if_neg h, if_neg h]; rfl
/-- The labels, as strings. -/
theorem split_calls (s : ByteArray) (hs : s.size ≤ 1000000000) (w : World) (ht : Tbl w) : Calls Tryz.prog 123 #[.string s, .string ⟨#[46]⟩] w fun e w' => ∃ L : List ByteArray, L.map (·.data.toList) = splitC 46 s.data.toList ∧ e = .returned (.slice (some ⟨w.heap.size, 0, none⟩) L.length L.length) ∧ w' = w.alloc (.cells (L.map Value.string).toArray 9) := by
  obtain ⟨m, hm⟩ := ht.2
  refine (Any.strings_Split { laysM146 with } laysM146.i9 s ⟨#[46]⟩ m w (by omega) hm (by decide)).mono ?_
  rintro e w' ⟨rfl, rfl⟩
  have hd := Lib.splitB_data ⟨#[46]⟩ 0 (Lib.countB s ⟨#[46]⟩) s
  have hl := Lib.splitB_all ⟨#[46]⟩ (by decide) 0 _ s rfl
  refine ⟨Lib.splitB ⟨#[46]⟩ 0 (Lib.countB s ⟨#[46]⟩) s, hd.trans (split_one 46 s.data.toList), ?_, rfl⟩
  rw [hl]

theorem splitC_len (c : UInt8) : ∀ l : List UInt8, (splitC c l).length ≤ l.length + 1
  | [] => by simp [splitC]
  | b :: l => by
    have ih := splitC_len c l
    rw [splitC]
    split
    · simp; omega
    · split
      · next h t e => rw [e] at ih; simp at ih ⊢; omega
      · simp
theorem splitC_mem_len (c : UInt8) : ∀ (l x : List UInt8), x ∈ splitC c l → x.length ≤ l.length
  | [], x, h => by simp [splitC] at h; subst h; simp
  | b :: l, x, h => by
    have ih := splitC_mem_len c l
    rw [splitC] at h
    split at h
    · rcases List.mem_cons.1 h with rfl | h
      · simp
      · have := ih x h; simp; omega
    · split at h
      · next q t e =>
        rw [e] at ih
        rcases List.mem_cons.1 h with rfl | h
        · have := ih q (by simp); simp; omega
        · have := ih x (by simp [h]); simp; omega
      · simp at h; subst h; simp

def part3 (a b : List UInt8) (c : Bool) : Value := .tuple #[.string (bs a), .string (bs b), .bool c]
theorem ret3 {l : List UInt8} {a b : List UInt8} {c : Bool} (h : a = partA l) (k : b = partB l) (m : c = addrB l) : Ending.returned (.tuple #[.string (bs a), .string (bs b), .bool c]) = .returned (.tuple #[.string (bs (partA l)), .string (bs (partB l)), .bool (addrB l)]) := by rw [h, k, m]
theorem part_no {l : List UInt8} (h : ¬ AddrP l) : ([] : List UInt8) = partA l ∧ ([] : List UInt8) = partB l ∧ false = addrB l := by
  simp [partA, partB, addrB_f h]
theorem part_yes {l : List UInt8} (h : AddrP l) : bef 64 l = partA l ∧ aft 64 l = partB l ∧ true = addrB l := by
  simp [partA, partB, addrB_t h]
theorem bef_le (c : UInt8) (l : List UInt8) : (bef c l).length ≤ l.length := by
  unfold bef; exact (List.takeWhile_prefix _).length_le
theorem aft_le (c : UInt8) (l : List UInt8) : (aft c l).length ≤ l.length := by
  unfold aft
  rw [List.length_tail]
  have := (List.dropWhile_suffix (l := l) (fun x => x != c)).length_le
  omega

set_option maxRecDepth 100000 in
set_option maxHeartbeats 4000000 in
theorem parts_calls (s : ByteArray) (hs : s.size ≤ 1000000000) (w : World) (ht : Tbl w) : Calls Tryz.prog 102 #[.string s] w fun e w' => e = .returned (.tuple #[.string (bs (partA s.data.toList)), .string (bs (partB s.data.toList)), .bool (addrB s.data.toList)]) ∧ Below w.heap.size w w' := by
  obtain ⟨V, hV⟩ : ∃ V, Value.tuple #[.string (bs (partA s.data.toList)), .string (bs (partB s.data.toList)), .bool (addrB s.data.toList)] = V := ⟨_, rfl⟩
  rw [hV]
  have HNO := hd (fun (h : ¬ AddrP s.data.toList) => by rw [← hV, ← (part_no h).1, ← (part_no h).2.1, ← (part_no h).2.2] : ¬ AddrP s.data.toList → V = .tuple #[.string (bs []), .string (bs []), .bool false])
  have HYES := hd (fun (h : AddrP s.data.toList) => by rw [← hV, ← (part_yes h).1, ← (part_yes h).2.1, ← (part_yes h).2.2] : AddrP s.data.toList → V = .tuple #[.string (bs (bef 64 s.data.toList)), .string (bs (aft 64 s.data.toList)), .bool true])
  clear hV
  have HL := hd (show s.data.toList.length = s.size by simp)
  have HT := hd ht
  clear ht
  by_cases c1 : 64 < s.size
  · have HV := hd (HNO.o (fun h => by have := h.1; rw [HL.o] at this; omega))
    go_enter Tryz.func102, Tryz.ntmps102
    go_wp2
    go_ret3
    exact ⟨by rw [HV.o]; rfl, Below.refl _ _⟩
  have hcut := cut_calls s hs w HT.o
  by_cases c2 : 64 ∈ s.data.toList
  · rw [if_pos c2] at hcut
    have HC := hd hcut
    have H2 := hd c2
    clear hcut c2
    have hla := bef_le 64 s.data.toList
    have hlb := aft_le 64 s.data.toList
    rw [HL.o] at hla hlb
    obtain ⟨a, ha⟩ : ∃ a, bef 64 s.data.toList = a := ⟨_, rfl⟩
    obtain ⟨b, hb⟩ : ∃ b, aft 64 s.data.toList = b := ⟨_, rfl⟩
    rw [ha, hb] at HC HYES
    rw [ha] at hla
    rw [hb] at hlb
    have HA := hd ha
    have HB := hd hb
    clear ha hb
    have za : (bs a).size = a.length := by simp [bs, ByteArray.size]
    have zb : (bs b).size = b.length := by simp [bs, ByteArray.size]
    have hloc := isLocal_calls (bs a) (by omega)
    rw [bs_data] at hloc
    by_cases c3 : LocP a
    · rw [locB_t c3] at hloc
      have HLOC := hd hloc
      have H3 := hd c3
      clear hloc c3
      go_enter Tryz.func102, Tryz.ntmps102
      go_wp2_with fail
      refine HC.o.mono ?_
      rintro e w1 ⟨rfl, hb1⟩
      have HB1 := hd hb1
      clear hb1
      go_wp2_with fail
      refine (HLOC.o w1 (HT.o.below HB1.o)).mono ?_
      rintro e w' ⟨rfl, rfl⟩
      go_wp2_with fail
      refine (split_calls (bs b) (by omega) w1 (HT.o.below HB1.o)).mono ?_
      rintro e w2 ⟨L, hL, rfl, rfl⟩
      rw [bs_data] at hL
      obtain ⟨n, hn⟩ : ∃ n, L.length = n := ⟨_, rfl⟩
      rw [hn]
      have HLL := hd hL
      have HN := hd hn
      obtain ⟨X, hX⟩ : ∃ X, X = w1.alloc (.cells (L.map Value.string).toArray 9) := ⟨_, rfl⟩
      rw [← hX]
      have KX := hd (hX ▸ Blk.new w1 9 (L.map Value.string).toArray : Blk X w1.heap.size 9 (L.map Value.string).toArray)
      have BX := hd (hX ▸ HB1.o.alloc HB1.o.size _ : Below w.heap.size w X)
      have hnl : n ≤ 1000000 := by
        have h1 := congrArg List.length hL
        rw [List.length_map, hn] at h1
        have := splitC_len 46 b
        omega
      have hn1 : 1 ≤ n := by
        have h1 := congrArg List.length hL
        rw [List.length_map, hn] at h1
        have := splitC_ne 46 b
        rcases Nat.eq_zero_or_pos n with h0 | h0
        · exact absurd (List.eq_nil_of_length_eq_zero (by omega)) this
        · exact h0
      clear hX hL hn
      go_wp2_with fail
      go_loop [2, 3, 28] (fun x y i => x = .string (bs a) ∧ y = .string (bs b) ∧ ∃ k : Nat, i = .int .i64 k ∧ k ≤ n ∧ (0 < k → 2 ≤ n) ∧ Hd (∀ j, j < k → LabP (L.getD j ByteArray.empty).data.toList)) (fun _ _ i => n - (intOf i).toNat)
      case atStart => exact ⟨rfl, rfl, 0, rfl, Nat.zero_le _, fun h => absurd h (Nat.lt_irrefl _), fun j hj => absurd hj (Nat.not_lt_zero _)⟩
      case round =>
        obtain ⟨rfl, rfl, k, rfl, hk, hk2, hh⟩ := hrel
        have hki : (0 : Int) ≤ (k : Int) := by omega
        by_cases hlt : k < n
        · have hkL : k < L.length := by rw [HN.o]; exact hlt
          have hc := KX.o.at_ k (v := .string L[k]) (by simp [hkL])
          have hlab := isLabel_calls L[k] (by
            have hm : L[k].data.toList ∈ splitC 46 b := by rw [← HLL.o]; exact List.mem_map_of_mem (List.getElem_mem hkL)
            have := splitC_mem_len 46 b _ hm
            simp at this
            omega) X
          have hgd : L.getD k ByteArray.empty = L[k] := by simp [hkL]
          obtain ⟨t, ht⟩ : ∃ t, L[k] = t := ⟨_, rfl⟩
          rw [ht] at hc hlab hgd
          have HGD := hd hgd
          have HTT := hd ht
          clear hgd ht
          by_cases hn2 : n < 2
          · have HV := hd (HNO.o (fun h => by
              have := h.2.2.2.1
              rw [HB.o, ← HLL.o, List.length_map, HN.o] at this
              omega))
            clear hlab
            go_wp2_with fail
            go_ret3
            exact ⟨by rw [HV.o]; rfl, BX.o⟩
          · by_cases c4 : LabP t.data.toList
            · rw [labB_t c4] at hlab
              have HLAB := hd hlab
              have HNX : Hd (∀ j, j < k + 1 → LabP (L.getD j ByteArray.empty).data.toList) := fun j hj => by
                by_cases e : j = k
                · subst e; rw [HGD.o]; exact c4
                · exact hh.o j (by omega)
              clear hlab c4
              go_wp2_with (go_at_call 124; refine HLAB.o.mono ?_; rintro e w' ⟨rfl, rfl⟩)
              go_round
              case rel => exact ⟨rfl, rfl, k + 1, by go_num, by omega, by omega, HNX⟩
              case measure => simp [intOf]; omega
            · have HV := hd (HNO.o (fun h => c4 (h.2.2.2.2 _ (by
                rw [HB.o, ← HLL.o, ← HTT.o]
                exact List.mem_map_of_mem (List.getElem_mem hkL)))))
              rw [labB_f c4] at hlab
              have HLAB := hd hlab
              clear hlab c4
              go_wp2_with (go_at_call 124; refine HLAB.o.mono ?_; rintro e w' ⟨rfl, rfl⟩)
              go_ret3
              exact ⟨by rw [HV.o]; rfl, BX.o⟩
        · have hke : k = n := by omega
          have HV := hd (HYES.o ⟨by rw [HL.o]; omega, H2.o, by rw [HA.o]; exact H3.o, by rw [HB.o, ← HLL.o, List.length_map, HN.o]; omega, by
            rw [HB.o, ← HLL.o]
            intro x hx
            obtain ⟨y, hy, rfl⟩ := List.mem_map.1 hx
            obtain ⟨i, hi, e⟩ := List.getElem_of_mem hy
            have := hh.o i (by rw [HN.o] at hi; omega)
            simp only [List.getD_eq_getElem?_getD, List.getElem?_eq_getElem hi, Option.getD_some, e] at this
            exact this⟩)
          subst hke
          go_wp2_with fail
          go_ret3
          exact ⟨by rw [HV.o]; rfl, BX.o⟩
    · have HV := hd (HNO.o (fun h => c3 (by have := h.2.2.1; rwa [HA.o] at this)))
      rw [locB_f c3] at hloc
      have HLOC := hd hloc
      clear hloc c3
      go_enter Tryz.func102, Tryz.ntmps102
      go_wp2_with fail
      refine HC.o.mono ?_
      rintro e w1 ⟨rfl, hb1⟩
      have HB1 := hd hb1
      clear hb1
      go_wp2_with fail
      refine (HLOC.o w1 (HT.o.below HB1.o)).mono ?_
      rintro e w' ⟨rfl, rfl⟩
      go_wp2_with fail
      go_ret3
      exact ⟨by rw [HV.o]; rfl, HB1.o⟩
  · rw [if_neg c2] at hcut
    have HV := hd (HNO.o (fun h => c2 h.2.1))
    have HC := hd hcut
    clear hcut c2
    go_enter Tryz.func102, Tryz.ntmps102
    go_wp2_with fail
    refine HC.o.mono ?_
    rintro e w1 ⟨rfl, hb1⟩
    go_wp2_with fail
    go_ret3
    exact ⟨by rw [HV.o]; rfl, hb1⟩

end Go.Proofs.YtpejlcaoggedfaaGreatDoor
