/-
  Addresses: the law of what parts make.
-/
import Derived.Test.YtdnmeffglpmlaaaDoorMailM1
import Derived.Test.YtdnmeffglpmlaaaDoorMailK
namespace Go.Proofs.YtdnmeffglpmlaaaDoor
open Go.RowKit Go.Sort

theorem makes_dot (l a b : List UInt8) : AddrP (l ++ 64 :: (a ++ 46 :: b)) ↔ (l ++ 64 :: (a ++ 46 :: b)).length ≤ 64 ∧ LocP l ∧ AllLab a ∧ AllLab b := by
  rw [addr_parts_iff]
  unfold DomP AllLab
  rw [splitC_two]
  have h1 := List.length_pos_iff.2 (splitC_ne 46 a)
  have h2 := List.length_pos_iff.2 (splitC_ne 46 b)
  simp only [List.length_append, List.mem_append]
  constructor
  · rintro ⟨g1, g2, _, g3⟩; exact ⟨g1, g2, fun x hx => g3 x (.inl hx), fun x hx => g3 x (.inr hx)⟩
  · rintro ⟨g1, g2, g3, g4⟩; exact ⟨g1, g2, by omega, fun x hx => hx.elim (g3 x) (g4 x)⟩
theorem makes_plain (l a : List UInt8) : AddrP (l ++ 64 :: a) ↔ (l ++ 64 :: a).length ≤ 64 ∧ LocP l ∧ AllLab a ∧ 46 ∈ a := by
  rw [addr_parts_iff]
  unfold DomP AllLab
  rw [splitC_one]
  exact ⟨fun ⟨a, b, c, d⟩ => ⟨a, b, d, c⟩, fun ⟨a, b, c, d⟩ => ⟨a, b, d, c⟩⟩

set_option maxRecDepth 100000 in
set_option maxHeartbeats 2000000 in
theorem mmakes_long (l a b : ByteArray) (dot : Bool) (w : World) (ht : Tbl w) (h1 : l.size ≤ maxLen) (h2 : a.size ≤ maxLen) (h3 : b.size ≤ maxLen) (hl : 50 < l.size ∨ (l.size ≤ 50 ∧ 30 < a.size) ∨ (l.size ≤ 50 ∧ a.size ≤ 30 ∧ 30 < b.size)) : Calls Tryd.prog 9 #[.string l, .string a, .string b, .bool dot] w fun e w' => e = .returned (.bool true) ∧ Below w.heap.size w w' := by
  unfold maxLen at h1 h2 h3
  have HT := hd ht
  clear ht
  rcases hl with hl | ⟨hl0, hl⟩ | ⟨hl0, hl1, hl⟩
  all_goals
    go_enter Tryd.func9, Tryd.ntmps9
    go_wp2_with fail
    refine (first_calls w HT.o).mono ?_
    rintro e w1 ⟨rfl, hb1⟩
    have B1 := hd hb1
    clear hb1
    go_wp2_with fail
    refine (first_calls w1 (HT.o.below B1.o)).mono ?_
    rintro e w2 ⟨rfl, hb2⟩
    go_wp2_with fail
    go_ret
    exact ⟨rfl, B1.o.trans (hb2.mono B1.o.size)⟩

set_option maxRecDepth 100000 in
set_option maxHeartbeats 8000000 in
theorem mmakes_short (l a b : ByteArray) (dot : Bool) (w : World) (ht : Tbl w) (h1 : l.size ≤ 50) (h2 : a.size ≤ 30) (h3 : b.size ≤ 30) : Calls Tryd.prog 9 #[.string l, .string a, .string b, .bool dot] w fun e w' => e = .returned (.bool true) ∧ Below w.heap.size w w' := by
  have HT := hd ht
  clear ht
  have HLA := hd (show a.data.toList.length = a.size by simp)
  have C1 := hd (fun W => part_calls l (by omega) W)
  have C2 := hd (fun W => label_calls a (by omega) W)
  have C3 := hd (fun W => label_calls b (by omega) W)
  go_enter Tryd.func9, Tryd.ntmps9
  go_wp2_with fail
  refine (first_calls w HT.o).mono ?_
  rintro e w1 ⟨rfl, hb1⟩
  have B1 := hd hb1
  clear hb1
  go_wp2_with fail
  go_loop [10, 11] (fun y i => ∃ (k : Nat) (t : Bool), i = .int .i64 k ∧ y = .bool t ∧ k ≤ a.size ∧ Hd (t = true ↔ ∃ j, j < k ∧ bt a.data.toList j = 46)) (fun _ i => a.size - (intOf i).toNat)
  case atStart => exact ⟨0, false, rfl, rfl, Nat.zero_le _, hd ⟨fun e => (by cases e), fun ⟨j, h, _⟩ => absurd h (Nat.not_lt_zero _)⟩⟩
  case round =>
    obtain ⟨k, t, rfl, rfl, hk, hh⟩ := hrel
    have hki : (0 : Int) ≤ (k : Int) := by omega
    by_cases hlt : k < a.size
    · cases t with
      | true =>
        have HN : Hd (true = true ↔ ∃ j, j < k + 1 ∧ bt a.data.toList j = 46) := ⟨fun _ => let ⟨j, h, g⟩ := hh.o.1 rfl; ⟨j, by omega, g⟩, fun _ => rfl⟩
        go_wp2_with fail
        go_round
        case rel => exact ⟨k + 1, true, by go_num, rfl, by omega, HN⟩
        case measure => simp [intOf]; omega
      | false =>
        have hb := bt_self a k hlt
        by_cases hc : a[k].toNat = 46
        · have n46 : ((a[k].toNat : Int) == 46) = true := by simp; omega
          have HN : Hd (true = true ↔ ∃ j, j < k + 1 ∧ bt a.data.toList j = 46) := ⟨fun _ => ⟨k, by omega, hb.trans hc⟩, fun _ => rfl⟩
          clear hb hc
          go_wp2_with fail
          go_round
          case rel => exact ⟨k + 1, true, by go_num, rfl, by omega, HN⟩
          case measure => simp [intOf]; omega
        · have n46 : ((a[k].toNat : Int) == 46) = false := by simp; omega
          have HN : Hd (false = true ↔ ∃ j, j < k + 1 ∧ bt a.data.toList j = 46) := ⟨fun e => (by cases e), fun ⟨j, h, g⟩ => by
            by_cases e : j = k
            · subst e; exact absurd (hb.symm.trans g) hc
            · exact hh.o.2 ⟨j, by omega, g⟩⟩
          clear hb hc
          go_wp2_with fail
          go_round
          case rel => exact ⟨k + 1, false, by go_num, rfl, by omega, HN⟩
          case measure => simp [intOf]; omega
    · have hke : k = a.size := by omega
      have htt : t = true ↔ 46 ∈ a.data.toList := by
        rw [hh.o, hke]
        constructor
        · rintro ⟨j, h, g⟩
          have hj : j < a.data.toList.length := by rw [HLA.o]; exact h
          rw [bt_list _ j hj] at g
          have : a.data.toList[j] = 46 := UInt8.toNat_inj.1 g
          rw [← this]
          exact List.getElem_mem hj
        · intro hm
          obtain ⟨i, hi, e⟩ := mem_bt hm
          exact ⟨i, by rw [HLA.o] at hi; exact hi, by rw [e]; rfl⟩
      have HTT := hd htt
      clear htt hke
      have HLL := hd (show l.data.toList.length = l.size by simp)
      have HLB := hd (show b.data.toList.length = b.size by simp)
      cases dot with
      | true =>
        have C3' := C3.o w1
        obtain ⟨v, hv2⟩ : ∃ v, allB b.data.toList = v := ⟨_, rfl⟩
        rw [hv2] at C3'
        have HV2 := hd hv2
        have D3 := hd C3'
        clear C3' hv2
        go_wp2_with fail
        refine D3.o.mono ?_
        rintro e w' ⟨rfl, rfl⟩
        have eX : (l ++ ⟨#[64]⟩ ++ (a ++ ⟨#[46]⟩ ++ b)).data.toList = l.data.toList ++ 64 :: (a.data.toList ++ 46 :: b.data.toList) := by simp
        have hXs : (l ++ ⟨#[64]⟩ ++ (a ++ ⟨#[46]⟩ ++ b)).size ≤ 1000000000 := by simp only [ByteArray.size_append]; (try simp only [show (⟨#[64]⟩ : ByteArray).size = 1 from rfl, show (⟨#[46]⟩ : ByteArray).size = 1 from rfl]); (try omega)
        have IS := fun W (h : Tbl W) => is_calls (l ++ ⟨#[64]⟩ ++ (a ++ ⟨#[46]⟩ ++ b)) hXs W h
        simp only [eX] at IS
        clear eX hXs
        have hlenL : (l.data.toList ++ 64 :: (a.data.toList ++ 46 :: b.data.toList)).length = l.size + (a.size + (b.size + 1) + 1) := by simp only [List.length_append, List.length_cons, HLL.o, HLA.o, HLB.o]; (try omega)
        by_cases hlen : l.size + (a.size + (b.size + 1) + 1) ≤ 64
        · by_cases cL : LocP l.data.toList
          · by_cases cA : AllLab a.data.toList
            · have hE : addrB (l.data.toList ++ 64 :: (a.data.toList ++ 46 :: b.data.toList)) = v := by
                have hi := (makes_dot l.data.toList a.data.toList b.data.toList)
                by_cases h2 : AllLab b.data.toList
                · rw [addrB_t (hi.2 ⟨by rw [hlenL]; exact hlen, cL, cA, h2⟩), ← HV2.o, allB_t h2]
                · rw [addrB_f (fun h => h2 (hi.1 h).2.2.2), ← HV2.o, allB_f h2]
              simp only [hE] at IS
              have HIS := hd IS
              have D1 := hd (by have := C1.o w1; rwa [locB_t cL] at this : Calls Tryd.prog 33 #[.string l] w1 fun e w' => e = .returned (.bool true) ∧ w1 = w')
              have D2 := hd (by have := C2.o w1; rwa [allB_t cA] at this : Calls Tryd.prog 32 #[.string a] w1 fun e w' => e = .returned (.bool true) ∧ w1 = w')
              clear hE IS hlenL cL cA
              go_wp2_with fail
              refine (D1.o).mono ?_
              rintro e w' ⟨rfl, rfl⟩
              go_wp2_with fail
              refine (D2.o).mono ?_
              rintro e w' ⟨rfl, rfl⟩
              go_wp2_with fail
              refine (HIS.o w1 (HT.o.below B1.o)).mono ?_
              rintro e w2 ⟨rfl, hb2⟩
              go_wp2_with fail
              go_ret
              exact ⟨retB (by simp), B1.o.trans (hb2.mono B1.o.size)⟩
            · have hE : addrB (l.data.toList ++ 64 :: (a.data.toList ++ 46 :: b.data.toList)) = false := addrB_f (fun h => cA ((makes_dot l.data.toList a.data.toList b.data.toList).1 h).2.2.1)
              simp only [hE] at IS
              have HIS := hd IS
              have D1 := hd (by have := C1.o w1; rwa [locB_t cL] at this : Calls Tryd.prog 33 #[.string l] w1 fun e w' => e = .returned (.bool true) ∧ w1 = w')
              have D2 := hd (by have := C2.o w1; rwa [allB_f cA] at this : Calls Tryd.prog 32 #[.string a] w1 fun e w' => e = .returned (.bool false) ∧ w1 = w')
              clear hE IS hlenL cL cA
              go_wp2_with fail
              refine (D1.o).mono ?_
              rintro e w' ⟨rfl, rfl⟩
              go_wp2_with fail
              refine (D2.o).mono ?_
              rintro e w' ⟨rfl, rfl⟩
              go_wp2_with fail
              refine (HIS.o w1 (HT.o.below B1.o)).mono ?_
              rintro e w2 ⟨rfl, hb2⟩
              go_wp2_with fail
              go_ret
              exact ⟨retB (by simp), B1.o.trans (hb2.mono B1.o.size)⟩
          · have hE : addrB (l.data.toList ++ 64 :: (a.data.toList ++ 46 :: b.data.toList)) = false := addrB_f (fun h => cL ((makes_dot l.data.toList a.data.toList b.data.toList).1 h).2.1)
            simp only [hE] at IS
            have HIS := hd IS
            have D1 := hd (by have := C1.o w1; rwa [locB_f cL] at this : Calls Tryd.prog 33 #[.string l] w1 fun e w' => e = .returned (.bool false) ∧ w1 = w')
            clear hE IS hlenL cL
            go_wp2_with fail
            refine (D1.o).mono ?_
            rintro e w' ⟨rfl, rfl⟩
            go_wp2_with fail
            refine (HIS.o w1 (HT.o.below B1.o)).mono ?_
            rintro e w2 ⟨rfl, hb2⟩
            go_wp2_with fail
            go_ret
            exact ⟨retB (by simp), B1.o.trans (hb2.mono B1.o.size)⟩
        · have hE : addrB (l.data.toList ++ 64 :: (a.data.toList ++ 46 :: b.data.toList)) = false := addrB_f (fun h => hlen (by have := ((makes_dot l.data.toList a.data.toList b.data.toList).1 h).1; rwa [hlenL] at this))
          simp only [hE] at IS
          have HIS := hd IS
          clear hE IS hlenL
          go_wp2_with fail
          refine (HIS.o w1 (HT.o.below B1.o)).mono ?_
          rintro e w2 ⟨rfl, hb2⟩
          go_wp2_with fail
          go_ret
          exact ⟨retB (by simp), B1.o.trans (hb2.mono B1.o.size)⟩
      | false =>
        have eX : (l ++ ⟨#[64]⟩ ++ a).data.toList = l.data.toList ++ 64 :: a.data.toList := by simp
        have hXs : (l ++ ⟨#[64]⟩ ++ a).size ≤ 1000000000 := by simp only [ByteArray.size_append]; (try simp only [show (⟨#[64]⟩ : ByteArray).size = 1 from rfl, show (⟨#[46]⟩ : ByteArray).size = 1 from rfl]); (try omega)
        have IS := fun W (h : Tbl W) => is_calls (l ++ ⟨#[64]⟩ ++ a) hXs W h
        simp only [eX] at IS
        clear eX hXs
        have hlenL : (l.data.toList ++ 64 :: a.data.toList).length = l.size + (a.size + 1) := by simp only [List.length_append, List.length_cons, HLL.o, HLA.o, HLB.o]; (try omega)
        by_cases hlen : l.size + (a.size + 1) ≤ 64
        · by_cases cL : LocP l.data.toList
          · by_cases cA : AllLab a.data.toList
            · have hE : addrB (l.data.toList ++ 64 :: a.data.toList) = t := by
                have hi := (makes_plain l.data.toList a.data.toList)
                by_cases h2 : (46 : UInt8) ∈ a.data.toList
                · rw [addrB_t (hi.2 ⟨by rw [hlenL]; exact hlen, cL, cA, h2⟩), HTT.o.2 h2]
                · rw [addrB_f (fun h => h2 (hi.1 h).2.2.2), (by cases t with | false => rfl | true => exact absurd (HTT.o.1 rfl) h2 : t = false)]
              simp only [hE] at IS
              have HIS := hd IS
              have D1 := hd (by have := C1.o w1; rwa [locB_t cL] at this : Calls Tryd.prog 33 #[.string l] w1 fun e w' => e = .returned (.bool true) ∧ w1 = w')
              have D2 := hd (by have := C2.o w1; rwa [allB_t cA] at this : Calls Tryd.prog 32 #[.string a] w1 fun e w' => e = .returned (.bool true) ∧ w1 = w')
              clear hE IS hlenL cL cA
              go_wp2_with fail
              refine (D1.o).mono ?_
              rintro e w' ⟨rfl, rfl⟩
              go_wp2_with fail
              refine (D2.o).mono ?_
              rintro e w' ⟨rfl, rfl⟩
              go_wp2_with fail
              refine (HIS.o w1 (HT.o.below B1.o)).mono ?_
              rintro e w2 ⟨rfl, hb2⟩
              go_wp2_with fail
              go_ret
              exact ⟨retB (by simp), B1.o.trans (hb2.mono B1.o.size)⟩
            · have hE : addrB (l.data.toList ++ 64 :: a.data.toList) = false := addrB_f (fun h => cA ((makes_plain l.data.toList a.data.toList).1 h).2.2.1)
              simp only [hE] at IS
              have HIS := hd IS
              have D1 := hd (by have := C1.o w1; rwa [locB_t cL] at this : Calls Tryd.prog 33 #[.string l] w1 fun e w' => e = .returned (.bool true) ∧ w1 = w')
              have D2 := hd (by have := C2.o w1; rwa [allB_f cA] at this : Calls Tryd.prog 32 #[.string a] w1 fun e w' => e = .returned (.bool false) ∧ w1 = w')
              clear hE IS hlenL cL cA
              go_wp2_with fail
              refine (D1.o).mono ?_
              rintro e w' ⟨rfl, rfl⟩
              go_wp2_with fail
              refine (D2.o).mono ?_
              rintro e w' ⟨rfl, rfl⟩
              go_wp2_with fail
              refine (HIS.o w1 (HT.o.below B1.o)).mono ?_
              rintro e w2 ⟨rfl, hb2⟩
              go_wp2_with fail
              go_ret
              exact ⟨retB (by simp), B1.o.trans (hb2.mono B1.o.size)⟩
          · have hE : addrB (l.data.toList ++ 64 :: a.data.toList) = false := addrB_f (fun h => cL ((makes_plain l.data.toList a.data.toList).1 h).2.1)
            simp only [hE] at IS
            have HIS := hd IS
            have D1 := hd (by have := C1.o w1; rwa [locB_f cL] at this : Calls Tryd.prog 33 #[.string l] w1 fun e w' => e = .returned (.bool false) ∧ w1 = w')
            clear hE IS hlenL cL
            go_wp2_with fail
            refine (D1.o).mono ?_
            rintro e w' ⟨rfl, rfl⟩
            go_wp2_with fail
            refine (HIS.o w1 (HT.o.below B1.o)).mono ?_
            rintro e w2 ⟨rfl, hb2⟩
            go_wp2_with fail
            go_ret
            exact ⟨retB (by simp), B1.o.trans (hb2.mono B1.o.size)⟩
        · have hE : addrB (l.data.toList ++ 64 :: a.data.toList) = false := addrB_f (fun h => hlen (by have := ((makes_plain l.data.toList a.data.toList).1 h).1; rwa [hlenL] at this))
          simp only [hE] at IS
          have HIS := hd IS
          clear hE IS hlenL
          go_wp2_with fail
          refine (HIS.o w1 (HT.o.below B1.o)).mono ?_
          rintro e w2 ⟨rfl, hb2⟩
          go_wp2_with fail
          go_ret
          exact ⟨retB (by simp), B1.o.trans (hb2.mono B1.o.size)⟩

theorem mmakes_calls (l a b : ByteArray) (dot : Bool) (w : World) (ht : Tbl w) (h1 : l.size ≤ maxLen) (h2 : a.size ≤ maxLen) (h3 : b.size ≤ maxLen) : Calls Tryd.prog 9 #[.string l, .string a, .string b, .bool dot] w fun e w' => e = .returned (.bool true) ∧ Below w.heap.size w w' := by
  by_cases c1 : 50 < l.size
  · exact mmakes_long l a b dot w ht h1 h2 h3 (.inl c1)
  · by_cases c2 : 30 < a.size
    · exact mmakes_long l a b dot w ht h1 h2 h3 (.inr (.inl ⟨by omega, c2⟩))
    · by_cases c3 : 30 < b.size
      · exact mmakes_long l a b dot w ht h1 h2 h3 (.inr (.inr ⟨by omega, by omega, c3⟩))
      · exact mmakes_short l a b dot w ht (by omega) (by omega) (by omega)

end Go.Proofs.YtdnmeffglpmlaaaDoor
