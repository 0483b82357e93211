/-
  The program's addresses: their two parts.
-/
import Derived.Test.YtfacfdjapjhpeaaGreatDoorGAB
import Derived.Test.YtfacfdjapjhpeaaGreatDoorGAA
import Derived.Deep.DeepCutAuto
import Derived.IntWalk
import Derived.Lib.QuietBelow
import Derived.Shelf.Strconv.Itoa3
import Derived.Shelf.LaysM
import Derived.Test.YtfacfdjapjhpeaaGreatDoorProg
set_option linter.unusedVariables false
set_option linter.unusedSimpArgs false
namespace Go.Proofs.YtfacfdjapjhpeaaGreatDoor
open Go.RowKit

theorem cut_calls (s : ByteArray) (hs : s.size ≤ 1000000000) (w : World) (ht : Tbl w) : Calls Tryz.prog 157 #[.string s, .string ⟨#[64]⟩] w fun e w' => (e = .returned (if 64 ∈ s.data.toList then .tuple #[.string (bs (bef 64 s.data.toList)), .string (bs (aft 64 s.data.toList)), .bool true] else .tuple #[.string s, .string (bs []), .bool false])) ∧ Below w.heap.size w w' := by
  obtain ⟨m, hm⟩ := ht.2
  refine (Any.strings_Cut { laysM145 with } s ⟨#[64]⟩ m w (by omega) hm).mono ?_
  rintro e w' ⟨rfl, n, rfl⟩
  refine ⟨?_, bdrewN (Below.refl _ _) _⟩
  rw [show (⟨#[64]⟩ : ByteArray).data.toList = [64] from rfl, cut_one]
  by_cases h : 64 ∈ s.data.toList
  · rw [if_pos h, if_pos h]; rfl
  · rw [if_neg h, if_neg h]; rfl
/-- The labels, as strings. -/
theorem split_calls (s : ByteArray) (hs : s.size ≤ 1000000000) (w : World) (ht : Tbl w) : Calls Tryz.prog 275 #[.string s, .string ⟨#[46]⟩] w fun e w' => ∃ L : List ByteArray, L.map (·.data.toList) = splitC 46 s.data.toList ∧ e = .returned (.slice (some ⟨w.heap.size, 0, none⟩) L.length L.length) ∧ w' = w.alloc (.cells (L.map Value.string).toArray 9) := by
  obtain ⟨m, hm⟩ := ht.2
  refine (Any.strings_Split { laysM146 with } laysM146.i9 s ⟨#[46]⟩ m w (by omega) hm (by decide)).mono ?_
  rintro e w' ⟨rfl, rfl⟩
  have hd := Lib.splitB_data ⟨#[46]⟩ 0 (Lib.countB s ⟨#[46]⟩) s
  have hl := Lib.splitB_all ⟨#[46]⟩ (by decide) 0 _ s rfl
  refine ⟨Lib.splitB ⟨#[46]⟩ 0 (Lib.countB s ⟨#[46]⟩) s, hd.trans (split_one 46 s.data.toList), ?_, rfl⟩
  rw [hl]

theorem splitC_len (c : UInt8) : ∀ l : List UInt8, (splitC c l).length ≤ l.length + 1
  | [] => by simp [splitC]
  | b :: l => by
    have ih := splitC_len c l
    rw [splitC]
    split
    · simp; omega
    · split
      · next h t e => rw [e] at ih; simp at ih ⊢; omega
      · simp
theorem splitC_mem_len (c : UInt8) : ∀ (l x : List UInt8), x ∈ splitC c l → x.length ≤ l.length
  | [], x, h => by simp [splitC] at h; subst h; simp
  | b :: l, x, h => by
    have ih := splitC_mem_len c l
    rw [splitC] at h
    split at h
    · rcases List.mem_cons.1 h with rfl | h
      · simp
      · have := ih x h; simp; omega
    · split at h
      · next q t e =>
        rw [e] at ih
        rcases List.mem_cons.1 h with rfl | h
        · have := ih q (by simp); simp; omega
        · have := ih x (by simp [h]); simp; omega
      · simp at h; subst h; simp

theorem part_no {l : List UInt8} (h : ¬ AddrP l) : ([] : List UInt8) = partA l ∧ ([] : List UInt8) = partB l ∧ false = addrB l := by
  simp [partA, partB, addrB_f h]
theorem part_yes {l : List UInt8} (h : AddrP l) : bef 64 l = partA l ∧ aft 64 l = partB l ∧ true = addrB l := by
  simp [partA, partB, addrB_t h]
theorem bef_le (c : UInt8) (l : List UInt8) : (bef c l).length ≤ l.length := by
  unfold bef; exact (List.takeWhile_prefix _).length_le
theorem aft_le (c : UInt8) (l : List UInt8) : (aft c l).length ≤ l.length := by
  unfold aft
  rw [List.length_tail]
  have := (List.dropWhile_suffix (l := l) (fun x => x != c)).length_le
  omega

set_option maxRecDepth 100000 in
set_option maxHeartbeats 4000000 in
theorem parts_calls (s : ByteArray) (hs : s.size ≤ 1000000000) (w : World) (ht : Tbl w) : Calls Tryz.prog 263 #[.string s] w fun e w' => e = .returned (.tuple #[.string (bs (partA s.data.toList)), .string (bs (partB s.data.toList)), .bool (addrB s.data.toList)]) ∧ Below w.heap.size w w' := by
  obtain ⟨V, hV⟩ : ∃ V, Value.tuple #[.string (bs (partA s.data.toList)), .string (bs (partB s.data.toList)), .bool (addrB s.data.toList)] = V := ⟨_, rfl⟩
  rw [hV]
  have HNO := hd (fun (h : ¬ AddrP s.data.toList) => by rw [← hV, ← (part_no h).1, ← (part_no h).2.1, ← (part_no h).2.2] : ¬ AddrP s.data.toList → V = .tuple #[.string (bs []), .string (bs []), .bool false])
  have HYES := hd (fun (h : AddrP s.data.toList) => by rw [← hV, ← (part_yes h).1, ← (part_yes h).2.1, ← (part_yes h).2.2] : AddrP s.data.toList → V = .tuple #[.string (bs (bef 64 s.data.toList)), .string (bs (aft 64 s.data.toList)), .bool true])
  clear hV
  have HL := hd (show s.data.toList.length = s.size by simp)
  have HT := hd ht
  clear ht
  by_cases c1 : 64 < s.size
  · have HV := hd (HNO.o (fun h => by have := h.1; rw [HL.o] at this; omega))
    go_enter Tryz.func263, Tryz.ntmps263
    go_wp2
    go_ret3
    exact ⟨by rw [HV.o]; rfl, Below.refl _ _⟩
  have hcut := cut_calls s hs w HT.o
  by_cases c2 : 64 ∈ s.data.toList
  · rw [if_pos c2] at hcut
    have HC := hd hcut
    have H2 := hd c2
    clear hcut c2
    have hla := bef_le 64 s.data.toList
    have hlb := aft_le 64 s.data.toList
    rw [HL.o] at hla hlb
    obtain ⟨a, ha⟩ : ∃ a, bef 64 s.data.toList = a := ⟨_, rfl⟩
    obtain ⟨b, hb⟩ : ∃ b, aft 64 s.data.toList = b := ⟨_, rfl⟩
    rw [ha, hb] at HC HYES
    rw [ha] at hla
    rw [hb] at hlb
    have HA := hd ha
    have HB := hd hb
    clear ha hb
    have za : (bs a).size = a.length := by simp [bs, ByteArray.size]
    have zb : (bs b).size = b.length := by simp [bs, ByteArray.size]
    have hloc := isLocal_calls (bs a) (by omega)
    rw [bs_data] at hloc
    by_cases c3 : LocP a
    · rw [locB_t c3] at hloc
      have HLOC := hd hloc
      have H3 := hd c3
      clear hloc c3
      go_enter Tryz.func263, Tryz.ntmps263
      go_wp2_with fail
      refine HC.o.mono ?_
      rintro e w1 ⟨rfl, hb1⟩
      have HB1 := hd hb1
      clear hb1
      go_wp2_with fail
      refine (HLOC.o w1 (HT.o.below HB1.o)).mono ?_
      rintro e w' ⟨rfl, rfl⟩
      go_wp2_with fail
      refine (split_calls (bs b) (by omega) w1 (HT.o.below HB1.o)).mono ?_
      rintro e w2 ⟨L, hL, rfl, rfl⟩
      rw [bs_data] at hL
      obtain ⟨n, hn⟩ : ∃ n, L.length = n := ⟨_, rfl⟩
      rw [hn]
      have HLL := hd hL
      have HN := hd hn
      obtain ⟨X, hX⟩ : ∃ X, X = w1.alloc (.cells (L.map Value.string).toArray 9) := ⟨_, rfl⟩
      rw [← hX]
      have KX := hd (hX ▸ Blk.new w1 9 (L.map Value.string).toArray : Blk X w1.heap.size 9 (L.map Value.string).toArray)
      have BX := hd (hX ▸ HB1.o.alloc HB1.o.size _ : Below w.heap.size w X)
      have hnl : n ≤ 1000000 := by
        have h1 := congrArg List.length hL
        rw [List.length_map, hn] at h1
        have := splitC_len 46 b
        omega
      have hn1 : 1 ≤ n := by
        have h1 := congrArg List.length hL
        rw [List.length_map, hn] at h1
        have := splitC_ne 46 b
        rcases Nat.eq_zero_or_pos n with h0 | h0
        · exact absurd (List.eq_nil_of_length_eq_zero (by omega)) this
        · exact h0
      clear hX hL hn
      go_wp2_with fail
      go_loop [2, 3, 28] (fun x y i => x = .string (bs a) ∧ y = .string (bs b) ∧ ∃ k : Nat, i = .int .i64 k ∧ k ≤ n ∧ (0 < k → 2 ≤ n) ∧ Hd (∀ j, j < k → LabP (L.getD j ByteArray.empty).data.toList)) (fun _ _ i => n - (intOf i).toNat)
      case atStart => exact ⟨rfl, rfl, 0, rfl, Nat.zero_le _, fun h => absurd h (Nat.lt_irrefl _), fun j hj => absurd hj (Nat.not_lt_zero _)⟩
      case round =>
        obtain ⟨rfl, rfl, k, rfl, hk, hk2, hh⟩ := hrel
        have hki : (0 : Int) ≤ (k : Int) := by omega
        by_cases hlt : k < n
        · have hkL : k < L.length := by rw [HN.o]; exact hlt
          have hc := KX.o.at_ k (v := .string L[k]) (by simp [hkL])
          have hlab := isLabel_calls L[k] (by
            have hm : L[k].data.toList ∈ splitC 46 b := by rw [← HLL.o]; exact List.mem_map_of_mem (List.getElem_mem hkL)
            have := splitC_mem_len 46 b _ hm
            simp at this
            omega) X
          have hgd : L.getD k ByteArray.empty = L[k] := by simp [hkL]
          obtain ⟨t, ht⟩ : ∃ t, L[k] = t := ⟨_, rfl⟩
          rw [ht] at hc hlab hgd
          have HGD := hd hgd
          have HTT := hd ht
          clear hgd ht
          by_cases hn2 : n < 2
          · have HV := hd (HNO.o (fun h => by
              have := h.2.2.2.1
              rw [HB.o, ← HLL.o, List.length_map, HN.o] at this
              omega))
            clear hlab
            go_wp2_with fail
            go_ret3
            exact ⟨by rw [HV.o]; rfl, BX.o⟩
          · by_cases c4 : LabP t.data.toList
            · rw [labB_t c4] at hlab
              have HLAB := hd hlab
              have HNX : Hd (∀ j, j < k + 1 → LabP (L.getD j ByteArray.empty).data.toList) := fun j hj => by
                by_cases e : j = k
                · subst e; rw [HGD.o]; exact c4
                · exact hh.o j (by omega)
              clear hlab c4
              go_wp2_with (go_at_call 276; refine HLAB.o.mono ?_; rintro e w' ⟨rfl, rfl⟩)
              go_round
              case rel => exact ⟨rfl, rfl, k + 1, by go_num, by omega, by omega, HNX⟩
              case measure => simp [intOf]; omega
            · have HV := hd (HNO.o (fun h => c4 (h.2.2.2.2 _ (by
                rw [HB.o, ← HLL.o, ← HTT.o]
                exact List.mem_map_of_mem (List.getElem_mem hkL)))))
              rw [labB_f c4] at hlab
              have HLAB := hd hlab
              clear hlab c4
              go_wp2_with (go_at_call 276; refine HLAB.o.mono ?_; rintro e w' ⟨rfl, rfl⟩)
              go_ret3
              exact ⟨by rw [HV.o]; rfl, BX.o⟩
        · have hke : k = n := by omega
          have HV := hd (HYES.o ⟨by rw [HL.o]; omega, H2.o, by rw [HA.o]; exact H3.o, by rw [HB.o, ← HLL.o, List.length_map, HN.o]; omega, by
            rw [HB.o, ← HLL.o]
            intro x hx
            obtain ⟨y, hy, rfl⟩ := List.mem_map.1 hx
            obtain ⟨i, hi, e⟩ := List.getElem_of_mem hy
            have := hh.o i (by rw [HN.o] at hi; omega)
            simp only [List.getD_eq_getElem?_getD, List.getElem?_eq_getElem hi, Option.getD_some, e] at this
            exact this⟩)
          subst hke
          go_wp2_with fail
          go_ret3
          exact ⟨by rw [HV.o]; rfl, BX.o⟩
    · have HV := hd (HNO.o (fun h => c3 (by have := h.2.2.1; rwa [HA.o] at this)))
      rw [locB_f c3] at hloc
      have HLOC := hd hloc
      clear hloc c3
      go_enter Tryz.func263, Tryz.ntmps263
      go_wp2_with fail
      refine HC.o.mono ?_
      rintro e w1 ⟨rfl, hb1⟩
      have HB1 := hd hb1
      clear hb1
      go_wp2_with fail
      refine (HLOC.o w1 (HT.o.below HB1.o)).mono ?_
      rintro e w' ⟨rfl, rfl⟩
      go_wp2_with fail
      go_ret3
      exact ⟨by rw [HV.o]; rfl, HB1.o⟩
  · rw [if_neg c2] at hcut
    have HV := hd (HNO.o (fun h => c2 h.2.1))
    have HC := hd hcut
    clear hcut c2
    go_enter Tryz.func263, Tryz.ntmps263
    go_wp2_with fail
    refine HC.o.mono ?_
    rintro e w1 ⟨rfl, hb1⟩
    go_wp2_with fail
    go_ret3
    exact ⟨by rw [HV.o]; rfl, hb1⟩

end Go.Proofs.YtfacfdjapjhpeaaGreatDoor
namespace Go.Proofs.YtfacfdjapjhpeaaGreatDoor
open Go.RowKit

theorem ext_data (s : ByteArray) (a b : Nat) : (s.extract a b).data.toList = (s.data.toList.drop a).take (b - a) := by
  rw [ByteArray.data_extract, Array.toList_extract, List.extract_eq_take_drop]
end Go.Proofs.YtfacfdjapjhpeaaGreatDoor
namespace Go.Proofs.YtfacfdjapjhpeaaGreatDoor
open Go.RowKit


end Go.Proofs.YtfacfdjapjhpeaaGreatDoor
namespace Go.Proofs.YtfacfdjapjhpeaaGreatDoor
open Go.RowKit

/-- The last @. -/
def LastAt (l : List UInt8) (q : Nat) : Prop := q < l.length ∧ bt l q = 64 ∧ ∀ j, q < j → j < l.length → bt l j ≠ 64
theorem lastAt_split {l : List UInt8} {q : Nat} (h : LastAt l q) : l = l.take q ++ 64 :: l.drop (q + 1) := by
  obtain ⟨h1, h2, _⟩ := h
  have h64 : l[q] = 64 := by
    rw [bt_list l q h1] at h2
    exact UInt8.toNat_inj.1 h2
  conv => lhs; rw [← List.take_append_drop q l, List.drop_eq_getElem_cons h1, h64]
theorem lastAt_aft {l : List UInt8} {q : Nat} (h : LastAt l q) : (64 : UInt8) ∉ l.drop (q + 1) := by
  intro hm
  obtain ⟨i, hi, e⟩ := mem_bt hm
  rw [bt_drop] at e
  rw [List.length_drop] at hi
  exact h.2.2 (q + 1 + i) (by omega) (by omega) (by rw [e]; rfl)
theorem no_at {l : List UInt8} (h : ∀ j, j < l.length → bt l j ≠ 64) : (64 : UInt8) ∉ l := fun hm => by
  obtain ⟨i, hi, e⟩ := mem_bt hm
  exact h i hi (by rw [e]; rfl)

theorem is_calls (s : ByteArray) (hs : s.size ≤ 1000000000) (w : World) (ht : Tbl w) : Calls Tryz.prog 244 #[.string s] w fun e w' => e = .returned (.bool (addrB s.data.toList)) ∧ Below w.heap.size w w' := by
  have HC := hd (parts_calls s hs w ht)
  clear ht
  go_enter Tryz.func244, Tryz.ntmps244
  go_wp2_with fail
  refine HC.o.mono ?_
  rintro e w1 ⟨rfl, hb1⟩
  go_wp2_with fail
  go_ret
  exact ⟨rfl, hb1⟩
end Go.Proofs.YtfacfdjapjhpeaaGreatDoor
namespace Go.Proofs.YtfacfdjapjhpeaaGreatDoor
open Go.RowKit Go.Sort

/-- What stands behind the last @, as small signs. -/
def lfold : List UInt8 → List UInt8
  | [] => []
  | c :: r => if 64 ∈ r then c :: lfold r else if c = 64 then c :: foldL r else c :: r
theorem lfold_no : ∀ l : List UInt8, (64 : UInt8) ∉ l → lfold l = l
  | [], _ => rfl
  | c :: r, h => by
    simp only [List.mem_cons, not_or] at h
    rw [lfold, if_neg h.2, if_neg (fun e => h.1 e.symm)]
theorem lfold_at : ∀ (a b : List UInt8), (64 : UInt8) ∉ b → lfold (a ++ 64 :: b) = a ++ 64 :: foldL b
  | [], b, h => by rw [List.nil_append, lfold, if_neg h, if_pos rfl]; rfl
  | x :: a, b, h => by
    rw [List.cons_append, lfold, if_pos (by simp), lfold_at a b h]; rfl
theorem lfold_last {l : List UInt8} {q : Nat} (h : LastAt l q) : lfold l = l.take q ++ 64 :: foldL (l.drop (q + 1)) := by
  conv => lhs; rw [lastAt_split h]
  exact lfold_at _ _ (lastAt_aft h)
theorem foldL_64 (c : UInt8) : lowU c = 64 → c = 64 := by
  intro h
  unfold lowU at h
  split at h
  · next hc =>
    have := congrArg UInt8.toNat h
    rw [UInt8.toNat_add, show (32 : UInt8).toNat = 32 from rfl, show (64 : UInt8).toNat = 64 from rfl] at this
    omega
  · exact h
theorem fold_no {l : List UInt8} (h : (64 : UInt8) ∉ l) : (64 : UInt8) ∉ foldL l := by
  intro hm
  obtain ⟨c, hc, e⟩ := List.mem_map.1 hm
  exact h (foldL_64 c e ▸ hc)
theorem foldL_len (l : List UInt8) : (foldL l).length = l.length := by simp [foldL]
open Classical in
noncomputable def canT (l : List UInt8) : List UInt8 := if cleanE l = 0 ∧ AddrP (lfold (cleanT l)) then lfold (cleanT l) else []
open Classical in
noncomputable def canE (l : List UInt8) : Int := if cleanE l = 0 then (if AddrP (lfold (cleanT l)) then 0 else 1) else cleanE l
theorem can_e {l : List UInt8} (h : cleanE l ≠ 0) : canT l = [] ∧ canE l = cleanE l := by simp [canT, canE, h]
theorem can_yes {l : List UInt8} (h : cleanE l = 0) (k : AddrP (lfold (cleanT l))) : canT l = lfold (cleanT l) ∧ canE l = 0 := by simp [canT, canE, h, k]
theorem can_no {l : List UInt8} (h : cleanE l = 0) (k : ¬ AddrP (lfold (cleanT l))) : canT l = [] ∧ canE l = 1 := by simp [canT, canE, h, k]
theorem cleanT_len (l : List UInt8) : (cleanT l).length ≤ 64 := by
  unfold cleanT
  repeat' split
  all_goals first | (simp; done) | omega
theorem bs_ext (l : List UInt8) (a b : Nat) : (bs l).extract a b = bs ((l.drop a).take (b - a)) := by
  have := ext_data (bs l) a b
  rw [bs_data] at this
  rw [← this]
  exact (bs_self _).symm
theorem bs_app2 (a b : List UInt8) : bs a ++ bs b = bs (a ++ b) := by
  apply ByteArray.ext; simp [bs]

/-- What the text is behind the folding, from whichever place. -/
def Folded (T : List UInt8) (a : Nat) (C : List UInt8) : Prop := T.take a ++ foldL (T.drop a) = C ∧ (AddrP C → C = lfold T) ∧ (AddrP (lfold T) → AddrP C)
theorem folded_at {T : List UInt8} {q : Nat} (h : LastAt T q) : ∃ C, Folded T (q + 1) C := by
  refine ⟨lfold T, ?_, fun _ => rfl, fun h => h⟩
  rw [lfold_last h]
  have hq := h.1
  have h64 : T[q] = 64 := by
    have := h.2.1
    rw [bt_list T q hq] at this
    exact UInt8.toNat_inj.1 this
  have : T.take (q + 1) = T.take q ++ [64] := by rw [List.take_succ_eq_append_getElem hq, h64]
  rw [this]; simp
theorem folded_none {T : List UInt8} (h : (64 : UInt8) ∉ T) : ∃ C, Folded T 0 C :=
  ⟨foldL T, by simp, fun hA => absurd hA.2.1 (fold_no h), fun hA => absurd hA.2.1 (by rw [lfold_no T h]; exact h)⟩
theorem lastIx_calls (T : List UInt8) (h : T.length ≤ 64) (w : World) : Calls Tryz.prog 242 #[.string (bs T), .int .u8 64] w fun e w' => (∃ a : Nat, e = .returned (.int .i64 ((a : Int) - 1)) ∧ a ≤ T.length ∧ ∃ C, Folded T a C) ∧ w = w' := by
  refine (Any.strings_LastIndexByte lays149 (bs T) 64 (by rw [bs_size]; omega) w).mono ?_
  rintro e w' ⟨rfl, rfl⟩
  refine ⟨?_, rfl⟩
  have key : ∀ j, j < T.length → (((bs T).data[j]!).toNat : Int) = (bt T j : Int) := fun j hj => by
    simp [bs, bt, List.getD_eq_getElem?_getD, hj]
  rcases Lib.lastIndexByte_spec (bs T) 64 with ⟨e, hn⟩ | ⟨i, hi, e, hc, hn⟩
  · rw [bs_size] at hn
    exact ⟨0, by rw [e]; rfl, by omega, folded_none (no_at (fun j hj h64 => hn j hj (by rw [key j hj, h64]; rfl)))⟩
  · rw [bs_size] at hi hn
    refine ⟨i + 1, by rw [e]; simp, by omega, folded_at ⟨hi, ?_, fun j h1 h2 h64 => hn j h1 h2 (by rw [key j h2, h64]; rfl)⟩⟩
    have := hc
    rw [key i hi] at this
    omega

set_option maxRecDepth 100000 in
set_option maxHeartbeats 4000000 in
theorem canon_calls (s : ByteArray) (hs : s.size ≤ 1000000) (w : World) (ht : Tbl w) : Calls Tryz.prog 226 #[.string s] w fun e w' => e = .returned (.tuple #[.string (bs (canT s.data.toList)), .int .i64 (canE s.data.toList)]) ∧ Below w.heap.size w w' := by
  have HT := hd ht
  clear ht
  have C1 := hd (clean_calls s hs w (HT.o))
  obtain ⟨V, hV⟩ : ∃ V, canT s.data.toList = V := ⟨_, rfl⟩
  obtain ⟨F, hF⟩ : ∃ F, canE s.data.toList = F := ⟨_, rfl⟩
  rw [hV, hF]
  have HR := hd (⟨hV.symm, hF.symm⟩ : V = canT s.data.toList ∧ F = canE s.data.toList)
  clear hV hF
  have hl := cleanT_len s.data.toList
  have R1 := hd (fun h : cleanE s.data.toList ≠ 0 => can_e h)
  have R2 := hd (fun (h : cleanE s.data.toList = 0) k => can_yes h k)
  have R3 := hd (fun (h : cleanE s.data.toList = 0) k => can_no h k)
  obtain ⟨T, hT⟩ : ∃ T, cleanT s.data.toList = T := ⟨_, rfl⟩
  obtain ⟨E, hE⟩ : ∃ E, cleanE s.data.toList = E := ⟨_, rfl⟩
  rw [hT, hE] at C1 R2 R3
  rw [hE] at R1
  rw [hT] at hl
  clear hT hE
  by_cases hE0 : E = 0
  · have HE := hd hE0
    subst hE0
    have hz : (bs T).size = T.length := bs_size T
    have HZ := hd hz
    clear hz
    have hz1 : (bs T).size ≤ 64 := by rw [HZ.o]; exact hl
    go_enter Tryz.func226, Tryz.ntmps226
    go_wp2_with fail
    refine C1.o.mono ?_
    rintro e w1 ⟨rfl, hb1⟩
    have B1 := hd hb1
    clear hb1
    go_wp2_with fail
    refine (lastIx_calls T hl w1).mono ?_
    rintro e w' ⟨⟨a, rfl, hal, C, hC⟩, rfl⟩
    have HC := hd hC
    clear hC
    have hsum : (a : Int) - 1 + 1 = (a : Int) := by omega
    go_wp2_with fail
    have ha0 : (0 : Int) ≤ (a : Int) := by omega
    have ha1 : (a : Int) ≤ ((bs T).size : Int) := by rw [HZ.o]; omega
    have hzz : ((bs T).extract a (bs T).size).size ≤ 1000000000 := by rw [ByteArray.size_extract]; omega
    have FC := fold_calls ((bs T).extract a (bs T).size) hzz
    have ef : ((bs T).extract a (bs T).size).data.toList = T.drop a := by
      rw [ext_data, bs_data]; exact List.take_of_length_le (by rw [List.length_drop, HZ.o]; exact Nat.le_refl _)
    rw [ef] at FC
    clear hzz
    have D1 := hd (fun dd os => Calls.regrown_of (FC (grow (redrawn w1 dd) os)))
    have z1 : (bs (foldL (T.drop a))).size ≤ 64 := by rw [bs_size, foldL_len, List.length_drop]; omega
    have z2 : ((bs T).extract 0 a).size ≤ 64 := by rw [ByteArray.size_extract]; omega
    clear FC ef
    refine wp_region_quiet_below (by kernel_rfl) (by kernel_rfl) ?_
    repeat (go_big_quiet_step (exact D1.o _ _))
    refine wpQuiet_nil ?_
    intro w2 hw'
    have hb2 : Below w1.heap.size w1 w2 := by
      obtain ⟨⟨dq, osq⟩, hw''⟩ := hw'
      subst hw''
      exact below_regrown w1 dq osq
    have B2 := hd (B1.o.trans (hb2.mono B1.o.size))
    clear hw' hb2
    have e4 : (bs T).extract 0 a ++ bs (foldL (T.drop a)) = bs C := by
      rw [bs_ext, List.drop_zero, Nat.sub_zero, bs_app2, HC.o.1]
    rw [e4]
    clear e4 z1 z2
    have hIS := is_calls (bs C) (by rw [bs_size, ← HC.o.1, List.length_append, foldL_len, List.length_take, List.length_drop]; omega) w2 (HT.o.below B2.o)
    rw [bs_data] at hIS
    by_cases hA : AddrP C
    · rw [addrB_t hA] at hIS
      have HX := hd (R2.o trivial (HC.o.2.1 hA ▸ hA))
      have HCL := hd (HC.o.2.1 hA)
      have HIS := hd hIS
      clear hIS hA
      go_wp2_with fail
      refine HIS.o.mono ?_
      rintro e w3 ⟨rfl, hb3⟩
      go_wp2_with fail
      go_ret2
      exact ⟨retTE (by rw [HR.o.1, HX.o.1, ← HCL.o]) (by rw [HR.o.2, HX.o.2]), B2.o.trans (hb3.mono B2.o.size)⟩
    · rw [addrB_f hA] at hIS
      have HX := hd (R3.o trivial (fun h => hA (HC.o.2.2 h)))
      have HIS := hd hIS
      clear hIS hA
      go_wp2_with fail
      refine HIS.o.mono ?_
      rintro e w3 ⟨rfl, hb3⟩
      go_wp2_with fail
      go_ret2
      exact ⟨retTE (by rw [HR.o.1, HX.o.1]; rfl) (by rw [HR.o.2, HX.o.2]), B2.o.trans (hb3.mono B2.o.size)⟩
  · have n0 : (E != 0) = true := by simpa using hE0
    have H0 := hd (R1.o hE0)
    clear hE0
    go_enter Tryz.func226, Tryz.ntmps226
    go_wp2_with fail
    refine C1.o.mono ?_
    rintro e w1 ⟨rfl, hb1⟩
    go_wp2_with fail
    go_ret2
    exact ⟨retTE (by rw [HR.o.1, H0.o.1]; rfl) (by rw [HR.o.2, H0.o.2]), hb1⟩

end Go.Proofs.YtfacfdjapjhpeaaGreatDoor
namespace Go.Proofs.YtfacfdjapjhpeaaGreatDoor
open Go.RowKit

def Plain1 (l : List UInt8) : Prop := ∀ c ∈ l, 33 ≤ c.toNat ∧ c.toNat ≤ 126
theorem scanB_ascii : ∀ l : List UInt8, (∀ c ∈ l, 32 ≤ c.toNat ∧ c.toNat ≤ 126) → scanB l = true
  | [], _ => rfl
  | c :: r, h => by
    have hc := h c (by simp)
    have hs : sgn (c :: r) = 1 := by
      unfold sgn signN
      rw [bt_zero, if_pos (by omega)]
    rw [scanB_step _ (by simp), hs, bt_zero, if_neg (by simp [okC]; omega)]
    exact scanB_ascii r (fun x hx => h x (by simp [hx]))
theorem cleanB_ascii (l : List UInt8) (h : ∀ c ∈ l, 32 ≤ c.toNat ∧ c.toNat ≤ 126) : cleanB l = true := by
  rw [← scanB_clean]; exact scanB_ascii l h
theorem sq_plain : ∀ (l out : List UInt8), Plain1 l → l.foldl sq out = out ++ l
  | [], out, _ => by simp
  | c :: r, out, h => by
    have hc := h c (by simp)
    rw [List.foldl_cons, sq_other _ _ (by omega), sq_plain r _ (fun x hx => h x (by simp [hx]))]
    simp
theorem trim_plain (l : List UInt8) (h : Plain1 l) : trimE l = l := by
  rw [trimE, if_neg]
  intro e
  have := h 32 (List.mem_of_getLast? e)
  simp at this
theorem locC_plain {n : Nat} (h : locC n) : 33 ≤ n ∧ n ≤ 126 := by unfold locC at h; omega
theorem labC_plain {n : Nat} (h : labC n) : 33 ≤ n ∧ n ≤ 126 := by unfold labC at h; omega
theorem loc_plain {l : List UInt8} (h : LocP l) : Plain1 l := by
  intro c hc
  obtain ⟨i, hi, e⟩ := mem_bt hc
  have := locC_plain (h.2.2.2.2.2 i hi)
  rwa [e] at this
/-- The signs of a domain. -/
theorem dom_sign {l : List UInt8} (h : ∀ x ∈ splitC 46 l, LabP x) : ∀ c ∈ l, c = 46 ∨ labC c.toNat := by
  intro c hc
  by_cases e : c = 46
  · exact .inl e
  · obtain ⟨p, hp, hx⟩ := splitC_mem 46 l c hc e
    obtain ⟨i, hi, e2⟩ := mem_bt hx
    have := (h p hp).2.2.2.2 i hi
    rw [e2] at this
    exact .inr this
theorem dom_plain {l : List UInt8} (h : DomP l) : Plain1 l := by
  intro c hc
  rcases dom_sign h.2 c hc with rfl | h2
  · decide
  · exact labC_plain h2
theorem lowU_dom {c : UInt8} (h : c = 46 ∨ labC c.toNat) : lowU c = c := by
  refine lowU_no c ?_
  rcases h with rfl | h
  · decide
  · unfold labC at h; omega
theorem foldL_dom {l : List UInt8} (h : DomP l) : foldL l = l := by
  have := dom_sign h.2
  clear h
  unfold foldL
  induction l with
  | nil => rfl
  | cons c r ih =>
    rw [List.map_cons, lowU_dom (this c (by simp)), ih (fun x hx => this x (by simp [hx]))]
theorem addr_form {l : List UInt8} (h : AddrP l) : l = bef 64 l ++ 64 :: aft 64 l := bef_aft 64 l h.2.1
theorem addr_plain {l : List UInt8} (h : AddrP l) : Plain1 l := by
  intro c hc
  rw [addr_form h] at hc
  rcases List.mem_append.1 hc with hc | hc
  · exact loc_plain h.2.2.1 c hc
  · rcases List.mem_cons.1 hc with rfl | hc
    · decide
    · exact dom_plain h.2.2.2 c hc
theorem addr_ne {l : List UInt8} (h : AddrP l) : 0 < l.length := by rw [addr_form h]; simp; omega
theorem can_addr {l : List UInt8} (h : AddrP l) : canT l = l ∧ canE l = 0 := by
  have hp := addr_plain h
  have hc := cleanB_ascii l (fun c hc => by have := hp c hc; omega)
  have hs : sqz l = l := by unfold sqz; rw [sq_plain l [] hp, List.nil_append]; exact trim_plain l hp
  obtain ⟨e1, e2⟩ := cleanB_ok l hc (by rw [hs]; exact h.1) (by rw [hs]; exact addr_ne h)
  rw [hs] at e1
  have hf : lfold l = l := by
    conv => lhs; rw [addr_form h]
    rw [lfold_at _ _ (dom_no_at h.2.2.2), foldL_dom h.2.2.2]
    exact (addr_form h).symm
  have := can_yes e2 (by rw [e1, hf]; exact h)
  rwa [e1, hf] at this
theorem can_ok {l : List UInt8} (h : canE l = 0) : AddrP (canT l) := by
  by_cases c : cleanE l = 0
  · by_cases k : AddrP (lfold (cleanT l))
    · rw [(can_yes c k).1]; exact k
    · have := (can_no c k).2; omega
  · have := (can_e c).2; omega
end Go.Proofs.YtfacfdjapjhpeaaGreatDoor
namespace Go.Proofs.YtfacfdjapjhpeaaGreatDoor
open Go.RowKit

theorem signN_to (n n' b0 b1 b2 b3 c1 c2 c3 k : Nat) (h : signN n b0 b1 b2 b3 = k) (hk : k ≠ 0) (e1 : 2 ≤ k → b1 = c1 ∧ 1 < n') (e2 : 3 ≤ k → b2 = c2 ∧ 2 < n') (e3 : 4 ≤ k → b3 = c3 ∧ 3 < n') : signN n' b0 c1 c2 c3 = k := by
  unfold signN at h ⊢
  by_cases a1 : b0 < 128
  · rw [if_pos a1] at h ⊢; exact h
  · rw [if_neg a1] at h ⊢
    by_cases a2 : 194 ≤ b0 ∧ b0 ≤ 223
    · rw [if_pos a2] at h ⊢
      by_cases a3 : 1 < n ∧ b1 / 64 = 2
      · rw [if_pos a3] at h
        obtain ⟨rfl, l1⟩ := e1 (by omega)
        rw [if_pos ⟨l1, a3.2⟩]; exact h
      · rw [if_neg a3] at h; exact absurd h.symm hk
    · rw [if_neg a2] at h ⊢
      by_cases a4 : 224 ≤ b0 ∧ b0 ≤ 239
      · rw [if_pos a4] at h ⊢
        split at h
        · next c =>
          obtain ⟨rfl, l1⟩ := e1 (by omega)
          obtain ⟨rfl, l2⟩ := e2 (by omega)
          rw [if_pos ⟨⟨l2, c.1.2⟩, c.2⟩]; exact h
        · exact absurd h.symm hk
      · rw [if_neg a4] at h ⊢
        by_cases a5 : 240 ≤ b0 ∧ b0 ≤ 244
        · rw [if_pos a5] at h ⊢
          split at h
          · next c =>
            obtain ⟨rfl, l1⟩ := e1 (by omega)
            obtain ⟨rfl, l2⟩ := e2 (by omega)
            obtain ⟨rfl, l3⟩ := e3 (by omega)
            rw [if_pos ⟨⟨l3, c.1.2⟩, c.2⟩]; exact h
          · exact absurd h.symm hk
        · rw [if_neg a5] at h; exact absurd h.symm hk
theorem bt_app (a b : List UInt8) (i : Nat) (h : i < a.length) : bt (a ++ b) i = bt a i := by
  simp [bt, List.getD_eq_getElem?_getD, List.getElem?_append_left h]
theorem bt_take (l : List UInt8) (k i : Nat) (h : i < k) : bt (l.take k) i = bt l i := by
  simp [bt, List.getD_eq_getElem?_getD, List.getElem?_take, h]
theorem sgn_to {a c : List UInt8} (ha : a ≠ []) (h : sgn a ≠ 0) (e : ∀ i, i < sgn a → bt c i = bt a i) (hl : sgn a ≤ c.length) : sgn c = sgn a := by
  have hle := sgn_le a ha
  have e0 := e 0 (by omega)
  unfold sgn
  rw [e0]
  refine signN_to a.length c.length (bt a 0) (bt a 1) (bt a 2) (bt a 3) (bt c 1) (bt c 2) (bt c 3) _ rfl h (fun hk => ?_) (fun hk => ?_) (fun hk => ?_)
  · have : 2 ≤ sgn a := hk
    exact ⟨(e 1 (by omega)).symm, by omega⟩
  · have : 3 ≤ sgn a := hk
    exact ⟨(e 2 (by omega)).symm, by omega⟩
  · have : 4 ≤ sgn a := hk
    exact ⟨(e 3 (by omega)).symm, by omega⟩
theorem sgn_app (a b : List UInt8) (ha : a ≠ []) (h : sgn a ≠ 0) : sgn (a ++ b) = sgn a := by
  have hle := sgn_le a ha
  exact sgn_to ha h (fun i hi => bt_app a b i (by omega)) (by rw [List.length_append]; omega)
theorem sgn_take (a : List UInt8) (ha : a ≠ []) (h : sgn a ≠ 0) : sgn (a.take (sgn a)) = sgn a := by
  have hle := sgn_le a ha
  exact sgn_to ha h (fun i hi => bt_take a _ i hi) (by rw [List.length_take]; omega)
theorem scanB_nil : scanB [] = true := rfl
theorem scan_head {a : List UInt8} (ha : a ≠ []) (h : scanB a = true) : sgn a ≠ 0 ∧ okC (bt a 0) = true ∧ scanB (a.drop (sgn a)) = true := by
  rw [scanB_step a ha] at h
  by_cases c : sgn a = 0 ∨ okC (bt a 0) = false
  · rw [if_pos c] at h; cases h
  · rw [if_neg c] at h
    refine ⟨fun e => c (.inl e), ?_, h⟩
    cases hb : okC (bt a 0) with
    | true => rfl
    | false => exact absurd (.inr hb) c
theorem scan_of {a : List UInt8} (ha : a ≠ []) (h1 : sgn a ≠ 0) (h2 : okC (bt a 0) = true) : scanB a = scanB (a.drop (sgn a)) := by
  rw [scanB_step a ha, if_neg (by simp [h1, h2])]
theorem scan_app : ∀ (n : Nat) (a b : List UInt8), a.length ≤ n → scanB a = true → scanB (a ++ b) = scanB b := by
  intro n
  induction n with
  | zero => intro a b h _; have : a = [] := List.eq_nil_of_length_eq_zero (by omega); subst this; rfl
  | succ n ih =>
    intro a b h hs
    by_cases ha : a = []
    · subst ha; rfl
    · obtain ⟨h1, h2, h3⟩ := scan_head ha hs
      have hle := sgn_le a ha
      have hab : a ++ b ≠ [] := by simp [ha]
      have h0 : 0 < a.length := List.length_pos_iff.2 ha
      rw [scan_of hab (by rw [sgn_app a b ha h1]; exact h1) (by rw [bt_app a b 0 h0]; exact h2), sgn_app a b ha h1, List.drop_append_of_le_length hle]
      exact ih _ b (by rw [List.length_drop]; omega) h3
theorem scan_chunk {a : List UInt8} (ha : a ≠ []) (h1 : sgn a ≠ 0) (h2 : okC (bt a 0) = true) : scanB (a.take (sgn a)) = true := by
  have hle := sgn_le a ha
  have h0 : 0 < a.length := List.length_pos_iff.2 ha
  have hn : a.take (sgn a) ≠ [] := by
    intro e
    have := congrArg List.length e
    rw [List.length_take, List.length_nil] at this
    omega
  rw [scan_of hn (by rw [sgn_take a ha h1]; exact h1) (by rw [bt_take a _ 0 (by omega)]; exact h2), sgn_take a ha h1, List.drop_take, Nat.sub_self, List.take_zero]
  rfl
theorem sgn_small (b0 : UInt8) (t : List UInt8) (h : b0.toNat < 128) : sgn (b0 :: t) = 1 := by
  unfold sgn signN; rw [bt_zero, if_pos h]
theorem chunk_hi {a : List UInt8} (ha : a ≠ []) (h : 2 ≤ sgn a) : ∀ c ∈ a.take (sgn a), 128 ≤ c.toNat := by
  cases a with
  | nil => exact absurd rfl ha
  | cons b0 t =>
    have h0 : 128 ≤ b0.toNat := by
      rcases Nat.lt_or_ge b0.toNat 128 with hh | hh
      · have := sgn_small b0 t hh; omega
      · exact hh
    rcases sgn_cases b0 t with e | e | ⟨e, b1, r, rfl, q1⟩ | ⟨e, b1, b2, r, rfl, q1, q2⟩ | ⟨e, b1, b2, b3, r, rfl, q1, q2, q3⟩
    · omega
    · omega
    · rw [e]; intro c hc; simp at hc; rcases hc with rfl | rfl <;> omega
    · rw [e]; intro c hc; simp at hc; rcases hc with rfl | rfl | rfl <;> omega
    · rw [e]; intro c hc; simp at hc; rcases hc with rfl | rfl | rfl | rfl <;> omega
theorem fold_hi : ∀ (l out : List UInt8), (∀ c ∈ l, 128 ≤ c.toNat) → l.foldl sq out = out ++ l
  | [], out, _ => by simp
  | c :: r, out, h => by
    have hc := h c (by simp)
    rw [List.foldl_cons, sq_other _ _ (by omega), fold_hi r _ (fun x hx => h x (by simp [hx]))]
    simp
def Whole (o : List UInt8) : Prop := scanB o = true ∧ (o.getLast? = some 32 → scanB o.dropLast = true)
theorem fold_scan : ∀ (n : Nat) (l out : List UInt8), l.length ≤ n → scanB l = true → Whole out → Whole (l.foldl sq out) := by
  intro n
  induction n with
  | zero => intro l out h _ ho; have : l = [] := List.eq_nil_of_length_eq_zero (by omega); subst this; exact ho
  | succ n ih =>
    intro l out h hs ho
    by_cases hl : l = []
    · subst hl; exact ho
    · obtain ⟨h1, h2, h3⟩ := scan_head hl hs
      have hle := sgn_le l hl
      have hch := scan_chunk hl h1 h2
      have e := List.take_append_drop (sgn l) l
      have key : Whole ((l.take (sgn l)).foldl sq out) := by
        by_cases k1 : sgn l = 1
        · obtain ⟨b, t, rfl⟩ := List.exists_cons_of_ne_nil hl
          rw [k1] at hch ⊢
          show Whole (sq out b)
          unfold sq
          split
          · exact ho
          · refine ⟨?_, fun _ => ?_⟩
            · rw [scan_app _ out [b] (Nat.le_refl _) ho.1]; exact hch
            · rw [List.dropLast_concat]; exact ho.1
        · have hhi := chunk_hi hl (by omega)
          rw [fold_hi _ _ hhi]
          refine ⟨by rw [scan_app _ out _ (Nat.le_refl _) ho.1]; exact hch, fun hlast => ?_⟩
          exfalso
          have hne : l.take (sgn l) ≠ [] := by
            intro e
            have := congrArg List.length e
            rw [List.length_take, List.length_nil] at this
            omega
          rw [List.getLast?_append, List.getLast?_eq_some_getLast hne, Option.some_or] at hlast
          injection hlast with hlast
          have := hhi _ (List.getLast_mem hne)
          rw [hlast] at this
          simp at this
      have := ih (l.drop (sgn l)) _ (by rw [List.length_drop]; omega) h3 key
      rw [← List.foldl_append, e] at this
      exact this
theorem sqz_scan {l : List UInt8} (h : scanB l = true) : scanB (sqz l) = true := by
  have := fold_scan l.length l [] (Nat.le_refl _) h ⟨scanB_nil, fun e => by simp at e⟩
  unfold sqz trimE
  split
  · next e => exact this.2 e
  · exact this.1
theorem fold_again : ∀ (l out : List UInt8), out.foldl sq [] = out → (l.foldl sq out).foldl sq [] = l.foldl sq out
  | [], _, h => h
  | c :: r, out, h => by
    rw [List.foldl_cons]
    refine fold_again r _ ?_
    by_cases k : c = 32 ∧ (out = [] ∨ out.getLast? = some 32)
    · rw [show sq out c = out by rw [sq, if_pos k]]; exact h
    · have e : sq out c = out ++ [c] := by rw [sq, if_neg k]
      rw [e, List.foldl_append, h]
      exact e
theorem sqz_again (l : List UInt8) : sqz (sqz l) = sqz l := by
  have h := fold_again l [] rfl
  unfold sqz
  generalize l.foldl sq [] = O at *
  by_cases k : O.getLast? = some 32
  · have e1 : trimE O = O.dropLast := by rw [trimE, if_pos k]
    rw [e1]
    have e2 : O = O.dropLast ++ [32] := by
      have hn : O ≠ [] := fun e => by rw [e] at k; simp at k
      have := List.dropLast_concat_getLast hn
      rw [List.getLast?_eq_some_getLast hn] at k
      injection k with k
      rw [k] at this
      exact this.symm
    generalize O.dropLast = D at *
    subst e2
    rw [List.foldl_append] at h
    have hlen := fold_sq_len D []
    generalize D.foldl sq [] = X at *
    have h' : sq X 32 = D ++ [32] := h
    unfold sq at h'
    split at h'
    · next c =>
      have := congrArg List.length h'
      rw [List.length_append] at this
      simp at this hlen
      omega
    · next c =>
      have e3 := List.append_cancel_right h'
      subst e3
      rw [trimE, if_neg (fun e => c ⟨rfl, .inr e⟩)]
  · have e1 : trimE O = O := by rw [trimE, if_neg k]
    rw [e1, h, e1]
theorem sq_sub : ∀ (l out : List UInt8), ∀ c ∈ l.foldl sq out, c ∈ out ∨ c ∈ l
  | [], out, c, h => .inl h
  | x :: r, out, c, h => by
    rw [List.foldl_cons] at h
    rcases sq_sub r _ c h with h | h
    · unfold sq at h
      split at h
      · exact .inl h
      · rcases List.mem_append.1 h with h | h
        · exact .inl h
        · exact .inr (by simp at h; simp [h])
    · exact .inr (by simp [h])
theorem cleanE_0 {l : List UInt8} (h : cleanE l = 0) : cleanB l = true ∧ sqz l ≠ [] ∧ (sqz l).length ≤ 64 ∧ cleanT l = sqz l := by
  unfold cleanE at h
  split at h
  · next hb =>
    split at h
    · omega
    · next hn =>
      split at h
      · omega
      · next hl =>
        have hp : 0 < (sqz l).length := List.length_pos_iff.2 hn
        exact ⟨hb, hn, by omega, (cleanB_ok l hb (by omega) hp).1⟩
  · omega
/-- Cleaned twice. -/
theorem clean_twice {l : List UInt8} (h : cleanE l = 0) : cleanT (cleanT l) = cleanT l ∧ cleanE (cleanT l) = 0 := by
  obtain ⟨h1, h2, h3, h4⟩ := cleanE_0 h
  rw [h4]
  have hb : cleanB (sqz l) = true := by
    rw [← scanB_clean] at h1 ⊢
    exact sqz_scan h1
  have hp : 0 < (sqz l).length := List.length_pos_iff.2 h2
  have := cleanB_ok (sqz l) hb (by rw [sqz_again]; exact h3) (by rw [sqz_again]; exact hp)
  rw [sqz_again] at this
  exact this
theorem clean_plain {l : List UInt8} (hp : Plain1 l) (h0 : 0 < l.length) (h64 : l.length ≤ 64) : cleanT l = l ∧ cleanE l = 0 := by
  have hc := cleanB_ascii l (fun c hc => by have := hp c hc; omega)
  have hs : sqz l = l := by unfold sqz; rw [sq_plain l [] hp, List.nil_append]; exact trim_plain l hp
  have := cleanB_ok l hc (by rw [hs]; exact h64) (by rw [hs]; exact h0)
  rw [hs] at this
  exact this
theorem clean_ok0 {l : List UInt8} (h : cleanE l = 0) : ∀ c ∈ cleanT l, 32 ≤ c.toNat := by
  obtain ⟨h1, h2, h3, h4⟩ := cleanE_0 h
  have ha : l.all okB = true := by
    unfold cleanB at h1
    simp only [Bool.and_eq_true] at h1
    exact h1.2
  intro c hc
  rw [h4] at hc
  have hm : c ∈ l.foldl sq [] := by
    unfold sqz trimE at hc
    split at hc
    · exact List.dropLast_subset _ hc
    · exact hc
  rcases sq_sub l [] c hm with h | h
  · cases h
  · have := List.all_eq_true.1 ha c h
    simp [okB, okC] at this
    exact this.1

end Go.Proofs.YtfacfdjapjhpeaaGreatDoor
namespace Go.Proofs.YtfacfdjapjhpeaaGreatDoor
open Go.RowKit

def telC (c : UInt8) : Bool := decide (c.toNat ≠ 32 ∧ c.toNat ≠ 45 ∧ c.toNat ≠ 46 ∧ c.toNat ≠ 47 ∧ c.toNat ≠ 40 ∧ c.toNat ≠ 41)
def telD (l : List UInt8) : List UInt8 := l.filter telC
def telR (l : List UInt8) : List UInt8 := if 0 < l.length ∧ bt l 0 = 43 then l.drop 1 else l
def TelP (l : List UInt8) : Prop := 3 ≤ (telR l).length ∧ (telR l).length ≤ 15 ∧ ∀ i, i < (telR l).length → 48 ≤ bt (telR l) i ∧ bt (telR l) i ≤ 57
open Classical in
noncomputable def telB (l : List UInt8) : Bool := decide (TelP l)
theorem telB_t {l : List UInt8} (h : TelP l) : telB l = true := by simp [telB, h]
theorem telB_f {l : List UInt8} (h : ¬ TelP l) : telB l = false := by simp [telB, h]
open Classical in
noncomputable def telT (l : List UInt8) : List UInt8 := if cleanE l = 0 ∧ TelP (telD (cleanT l)) then telD (cleanT l) else []
open Classical in
noncomputable def telE (l : List UInt8) : Int := if cleanE l = 0 then (if TelP (telD (cleanT l)) then 0 else 1) else cleanE l
theorem tel_e {l : List UInt8} (h : cleanE l ≠ 0) : telT l = [] ∧ telE l = cleanE l := by simp [telT, telE, h]
theorem tel_yes {l : List UInt8} (h : cleanE l = 0) (k : TelP (telD (cleanT l))) : telT l = telD (cleanT l) ∧ telE l = 0 := by simp [telT, telE, h, k]
theorem tel_no {l : List UInt8} (h : cleanE l = 0) (k : ¬ TelP (telD (cleanT l))) : telT l = [] ∧ telE l = 1 := by simp [telT, telE, h, k]
theorem telD_next (l : List UInt8) (k : Nat) (h : k < l.length) : telD (l.take (k + 1)) = telD (l.take k) ++ (if telC l[k] = true then [l[k]] else []) := by
  unfold telD
  rw [List.take_succ_eq_append_getElem h, List.filter_append]
  congr 1
  by_cases hc : telC l[k] = true <;> simp [hc]
theorem telD_skip (l : List UInt8) (k : Nat) (h : k < l.length) (c : telC l[k] = false) : telD (l.take (k + 1)) = telD (l.take k) := by
  rw [telD_next l k h, c]; simp
theorem telD_put (l : List UInt8) (k : Nat) (h : k < l.length) (c : telC l[k] = true) : telD (l.take (k + 1)) = telD (l.take k) ++ [l[k]] := by
  rw [telD_next l k h, c]; simp
theorem mem_bt_of {l : List UInt8} {P : Nat → Prop} (h : ∀ i, i < l.length → P (bt l i)) : ∀ c ∈ l, P c.toNat := by
  intro c hc
  obtain ⟨i, hi, e⟩ := mem_bt hc
  rw [← e]; exact h i hi
theorem tel_sign {l : List UInt8} (h : TelP l) : ∀ c ∈ l, c.toNat = 43 ∨ (48 ≤ c.toNat ∧ c.toNat ≤ 57) := by
  have hr := mem_bt_of (P := fun n => 48 ≤ n ∧ n ≤ 57) h.2.2
  intro c hc
  unfold telR at hr
  split at hr
  · next k =>
    cases l with
    | nil => cases hc
    | cons b t =>
      rcases List.mem_cons.1 hc with rfl | hc
      · exact .inl k.2
      · exact .inr (hr c hc)
  · exact .inr (hr c hc)
theorem tel_len {l : List UInt8} (h : TelP l) : 3 ≤ l.length ∧ l.length ≤ 16 := by
  have h1 := h.1
  have h2 := h.2.1
  unfold telR at h1 h2
  split at h1
  · next k => rw [if_pos k] at h2; rw [List.length_drop] at h1 h2; omega
  · next k => rw [if_neg k] at h2; omega
theorem telD_self {l : List UInt8} (h : TelP l) : telD l = l := by
  unfold telD
  rw [List.filter_eq_self]
  intro c hc
  have := tel_sign h c hc
  simp only [telC, decide_eq_true_eq]
  omega
/-- A number is its own form. -/
theorem tel_self {l : List UInt8} (h : TelP l) : telT l = l ∧ telE l = 0 := by
  have hl := tel_len h
  have hc := clean_plain (l := l) (fun c hc => by have := tel_sign h c hc; omega) (by omega) (by omega)
  have := tel_yes hc.2 (by rw [hc.1, telD_self h]; exact h)
  rwa [hc.1, telD_self h] at this
theorem tel_ok {l : List UInt8} (h : telE l = 0) : TelP (telT l) := by
  by_cases c : cleanE l = 0
  · by_cases k : TelP (telD (cleanT l))
    · rw [(tel_yes c k).1]; exact k
    · have := (tel_no c k).2; omega
  · have := (tel_e c).2; omega
end Go.Proofs.YtfacfdjapjhpeaaGreatDoor
namespace Go.Proofs.YtfacfdjapjhpeaaGreatDoor

def leap (y : Int) : Bool := decide (1 ≤ y) && decide (y ≤ 9999) && (y % 4 == 0) && (!(y % 100 == 0) || (y % 400 == 0))
def dm (y m : Int) : Int := if m = 4 ∨ m = 6 ∨ m = 9 ∨ m = 11 then 30 else if m = 2 then (if y = 0 ∨ leap y = true then 29 else 28) else 31
def mayB (y m d : Int) : Bool := decide (0 ≤ y ∧ y ≤ 9999 ∧ 1 ≤ m ∧ m ≤ 12 ∧ 1 ≤ d ∧ d ≤ dm y m)

theorem mayB_iff (y m d : Int) : mayB y m d = true ↔ 0 ≤ y ∧ y ≤ 9999 ∧ 1 ≤ m ∧ m ≤ 12 ∧ 1 ≤ d ∧ d ≤ dm y m := by simp [mayB]
theorem dm_bd (y m : Int) : 28 ≤ dm y m ∧ dm y m ≤ 31 := by
  unfold dm
  split
  · omega
  · split
    · split <;> omega
    · omega
end Go.Proofs.YtfacfdjapjhpeaaGreatDoor
namespace Go.Proofs.YtfacfdjapjhpeaaGreatDoor
open Go.Shelf
def laysM171_ren : Go.Shelf.Ren := ⟨fun | 171 => 278 | 243 => 284 | 246 => 288 | 283 => 292 | 284 => 293 | 285 => 294 | 286 => 295 | 129 => 196 | 317 => 297 | 318 => 298 | 319 => 299 | 320 => 300 | 337 => 301 | 338 => 302 | n => n, fun | 3 => 3 | 9 => 9 | 2 => 2 | 4 => 4 | 171 => 338 | 0 => 0 | 53 => 168 | 37 => 275 | 5 => 5 | 173 => 340 | 212 => 343 | 51 => 267 | 20 => 20 | 213 => 344 | 46 => 205 | 232 => 345 | 233 => 346 | n => n, fun | 17 => 3 | 18 => 4 | 19 => 5 | n => n⟩
theorem laysM171 : Go.Proofs.LaysM.n171 Tryz.prog laysM171_ren := {
  mixed := by kernel_rfl
  f129 := Tryz.func196.trans (congrArg some (by kernel_rfl))
  f171 := Tryz.func278.trans (congrArg some (by kernel_rfl))
  f243 := Tryz.func284.trans (congrArg some (by kernel_rfl))
  f246 := Tryz.func288.trans (congrArg some (by kernel_rfl))
  f283 := Tryz.func292.trans (congrArg some (by kernel_rfl))
  f284 := Tryz.func293.trans (congrArg some (by kernel_rfl))
  f285 := Tryz.func294.trans (congrArg some (by kernel_rfl))
  f286 := Tryz.func295.trans (congrArg some (by kernel_rfl))
  f317 := Tryz.func297.trans (congrArg some (by kernel_rfl))
  f318 := Tryz.func298.trans (congrArg some (by kernel_rfl))
  f319 := Tryz.func299.trans (congrArg some (by kernel_rfl))
  f320 := Tryz.func300.trans (congrArg some (by kernel_rfl))
  f337 := Tryz.func301.trans (congrArg some (by kernel_rfl))
  f338 := Tryz.func302.trans (congrArg some (by kernel_rfl))
  t0 := Tryz.underlying0
  a0 := Tryz.isAgg0
  z0 := Tryz.sizeOf0
  v0 := Tryz.zeroValue0
  t2 := Tryz.underlying2
  a2 := Tryz.isAgg2
  z2 := Tryz.sizeOf2
  v2 := Tryz.zeroValue2
  t3 := Tryz.underlying3
  a3 := Tryz.isAgg3
  z3 := Tryz.sizeOf3
  v3 := Tryz.zeroValue3
  t4 := Tryz.underlying4
  a4 := Tryz.isAgg4
  z4 := Tryz.sizeOf4
  v4 := Tryz.zeroValue4
  t5 := Tryz.underlying5
  a5 := Tryz.isAgg5
  z5 := Tryz.sizeOf5
  v5 := Tryz.zeroValue5
  t9 := Tryz.underlying9
  a9 := Tryz.isAgg9
  z9 := Tryz.sizeOf9
  v9 := Tryz.zeroValue9
  t20 := Tryz.underlying20
  a20 := Tryz.isAgg20
  z20 := Tryz.sizeOf20
  v20 := Tryz.zeroValue20
  t37 := Tryz.underlying275
  a37 := Tryz.isAgg275
  z37 := Tryz.sizeOf275
  v37 := Tryz.zeroValue275
  t46 := Tryz.underlying205
  a46 := Tryz.isAgg205
  z46 := Tryz.sizeOf205
  v46 := Tryz.zeroValue205
  t51 := Tryz.underlying267
  a51 := Tryz.isAgg267
  z51 := Tryz.sizeOf267
  v51 := Tryz.zeroValue267
  t53 := Tryz.underlying168
  a53 := Tryz.isAgg168
  z53 := Tryz.sizeOf168
  v53 := Tryz.zeroValue168
  t171 := Tryz.underlying338
  a171 := Tryz.isAgg338
  z171 := Tryz.sizeOf338
  v171 := Tryz.zeroValue338
  t173 := Tryz.underlying340
  a173 := Tryz.isAgg340
  z173 := Tryz.sizeOf340
  v173 := Tryz.zeroValue340
  t212 := Tryz.underlying343
  a212 := Tryz.isAgg343
  z212 := Tryz.sizeOf343
  v212 := Tryz.zeroValue343
  t213 := Tryz.underlying344
  a213 := Tryz.isAgg344
  z213 := Tryz.sizeOf344
  t232 := Tryz.underlying345
  a232 := Tryz.isAgg345
  z232 := Tryz.sizeOf345
  v232 := Tryz.zeroValue345
  t233 := Tryz.underlying346
  a233 := Tryz.isAgg346
  z233 := Tryz.sizeOf346
  v233 := Tryz.zeroValue346
  g17 := by kernel_rfl
  g18 := by kernel_rfl
  g19 := by kernel_rfl
  i0 := by kernel_rfl
  i2 := by kernel_rfl
  i3 := by kernel_rfl
  i4 := by kernel_rfl
  i5 := by kernel_rfl
  i9 := by kernel_rfl
  i20 := by kernel_rfl
  i37 := by kernel_rfl
  i46 := by kernel_rfl
  i51 := by kernel_rfl
  i53 := by kernel_rfl
  i171 := by kernel_rfl
  i173 := by kernel_rfl
  i212 := by kernel_rfl
  i232 := by kernel_rfl
  i233 := by kernel_rfl
  m17 := by kernel_rfl
  m18 := by kernel_rfl
  m19 := by kernel_rfl }
def lays171_ren : Go.Shelf.Ren := ⟨fun | 171 => 278 | 243 => 284 | 246 => 288 | 283 => 292 | 284 => 293 | 285 => 294 | 286 => 295 | 129 => 196 | 317 => 297 | 318 => 298 | 319 => 299 | 320 => 300 | 337 => 301 | 338 => 302 | n => n, fun | 3 => 3 | 9 => 9 | 2 => 2 | 4 => 4 | 171 => 338 | 0 => 0 | 53 => 168 | 37 => 275 | 5 => 5 | 173 => 340 | 212 => 343 | 51 => 267 | 20 => 20 | 213 => 344 | 46 => 205 | 232 => 345 | 233 => 346 | n => n, fun | 17 => 3 | 18 => 4 | 19 => 5 | n => n⟩
theorem lays171 : Go.Proofs.Lays.n171 Tryz.prog lays171_ren := {
  mixed := by kernel_rfl
  f129 := Tryz.func196.trans (congrArg some (by kernel_rfl))
  f171 := Tryz.func278.trans (congrArg some (by kernel_rfl))
  f243 := Tryz.func284.trans (congrArg some (by kernel_rfl))
  f246 := Tryz.func288.trans (congrArg some (by kernel_rfl))
  f283 := Tryz.func292.trans (congrArg some (by kernel_rfl))
  f284 := Tryz.func293.trans (congrArg some (by kernel_rfl))
  f285 := Tryz.func294.trans (congrArg some (by kernel_rfl))
  f286 := Tryz.func295.trans (congrArg some (by kernel_rfl))
  f317 := Tryz.func297.trans (congrArg some (by kernel_rfl))
  f318 := Tryz.func298.trans (congrArg some (by kernel_rfl))
  f319 := Tryz.func299.trans (congrArg some (by kernel_rfl))
  f320 := Tryz.func300.trans (congrArg some (by kernel_rfl))
  f337 := Tryz.func301.trans (congrArg some (by kernel_rfl))
  f338 := Tryz.func302.trans (congrArg some (by kernel_rfl))
  t0 := Tryz.underlying0
  a0 := Tryz.isAgg0
  z0 := Tryz.sizeOf0
  v0 := Tryz.zeroValue0
  t2 := Tryz.underlying2
  a2 := Tryz.isAgg2
  z2 := Tryz.sizeOf2
  v2 := Tryz.zeroValue2
  t3 := Tryz.underlying3
  a3 := Tryz.isAgg3
  z3 := Tryz.sizeOf3
  v3 := Tryz.zeroValue3
  t4 := Tryz.underlying4
  a4 := Tryz.isAgg4
  z4 := Tryz.sizeOf4
  v4 := Tryz.zeroValue4
  t5 := Tryz.underlying5
  a5 := Tryz.isAgg5
  z5 := Tryz.sizeOf5
  v5 := Tryz.zeroValue5
  t9 := Tryz.underlying9
  a9 := Tryz.isAgg9
  z9 := Tryz.sizeOf9
  v9 := Tryz.zeroValue9
  t20 := Tryz.underlying20
  a20 := Tryz.isAgg20
  z20 := Tryz.sizeOf20
  v20 := Tryz.zeroValue20
  t37 := Tryz.underlying275
  a37 := Tryz.isAgg275
  z37 := Tryz.sizeOf275
  v37 := Tryz.zeroValue275
  t46 := Tryz.underlying205
  a46 := Tryz.isAgg205
  z46 := Tryz.sizeOf205
  v46 := Tryz.zeroValue205
  t51 := Tryz.underlying267
  a51 := Tryz.isAgg267
  z51 := Tryz.sizeOf267
  v51 := Tryz.zeroValue267
  t53 := Tryz.underlying168
  a53 := Tryz.isAgg168
  z53 := Tryz.sizeOf168
  v53 := Tryz.zeroValue168
  t171 := Tryz.underlying338
  a171 := Tryz.isAgg338
  z171 := Tryz.sizeOf338
  v171 := Tryz.zeroValue338
  t173 := Tryz.underlying340
  a173 := Tryz.isAgg340
  z173 := Tryz.sizeOf340
  v173 := Tryz.zeroValue340
  t212 := Tryz.underlying343
  a212 := Tryz.isAgg343
  z212 := Tryz.sizeOf343
  v212 := Tryz.zeroValue343
  t213 := Tryz.underlying344
  a213 := Tryz.isAgg344
  z213 := Tryz.sizeOf344
  t232 := Tryz.underlying345
  a232 := Tryz.isAgg345
  z232 := Tryz.sizeOf345
  v232 := Tryz.zeroValue345
  t233 := Tryz.underlying346
  a233 := Tryz.isAgg346
  z233 := Tryz.sizeOf346
  v233 := Tryz.zeroValue346
  g17 := by kernel_rfl
  g18 := by kernel_rfl
  g19 := by kernel_rfl }
end Go.Proofs.YtfacfdjapjhpeaaGreatDoor
