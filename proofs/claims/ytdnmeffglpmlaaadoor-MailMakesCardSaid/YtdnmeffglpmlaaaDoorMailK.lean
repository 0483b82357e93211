/-
  Addresses: what the chapter's example fixes; the law of what the two sides tell.
-/
import Derived.Test.YtdnmeffglpmlaaaDoorMailJ
namespace Go.Proofs.YtdnmeffglpmlaaaDoor
open Go.RowKit Go.Sort

instance (l : List UInt8) : Decidable (LabP l) := by unfold LabP; infer_instance
instance (l : List UInt8) : Decidable (DomP l) := by unfold DomP; infer_instance
instance (l : List UInt8) : Decidable (dd l) := decidable_of_iff _ (contains_dd l)
instance (l : List UInt8) : Decidable (LocP l) := by unfold LocP; infer_instance
instance (l : List UInt8) : Decidable (AddrP l) := by unfold AddrP; infer_instance

def x0 : List UInt8 := [65, 110, 110, 46, 76, 101, 101, 64, 69, 120, 97, 109, 112, 108, 101, 46, 79, 82, 71]
def x1 : List UInt8 := [65, 110, 110, 46, 76, 101, 101, 64, 101, 120, 97, 109, 112, 108, 101, 46, 111, 114, 103]
def x2 : List UInt8 := [97, 110, 110, 46, 108, 101, 101, 64, 101, 120, 97, 109, 112, 108, 101, 46, 111, 114, 103]
set_option maxRecDepth 100000 in
theorem x0_clean : cleanE x0 = 0 ∧ cleanT x0 = x0 := by decide +kernel
set_option maxRecDepth 100000 in
theorem x1_addr : AddrP x1 := by decide +kernel
set_option maxRecDepth 100000 in
theorem x2_addr : AddrP x2 := by decide +kernel
theorem x0_fold : lfold x0 = x1 := by decide
theorem x0_can : canT x0 = x1 ∧ canE x0 = 0 := by
  have := can_yes x0_clean.1 (by rw [x0_clean.2, x0_fold]; exact x1_addr)
  rwa [x0_clean.2, x0_fold] at this
theorem x1_same : sameB x1 x2 = true := by
  rw [sameB, addrB_t x1_addr, addrB_t x2_addr]
  decide

theorem first_calls (w : World) (ht : Tbl w) : Calls Tryd.prog 23 #[] w fun e w' => e = .returned (.bool true) ∧ Below w.heap.size w w' := by
  have HT := hd ht
  clear ht
  have C1 := canon_calls (bs x0) (by decide) w HT.o
  rw [bs_data, x0_can.1, x0_can.2] at C1
  have C2 := fun W (h : Tbl W) => is_calls (bs x1) (by decide) W h
  simp only [bs_data, addrB_t x1_addr] at C2
  have C3 := fun W (h : Tbl W) => same_calls (bs x1) (bs x2) (by decide) (by decide) W h
  simp only [bs_data, x1_same] at C3
  have H1 := hd C1
  have H2 := hd C2
  have H3 := hd C3
  clear C1 C2 C3
  go_enter Tryd.func23, Tryd.ntmps23
  go_wp2_with fail
  refine H1.o.mono ?_
  rintro e w1 ⟨rfl, hb1⟩
  have B1 := hd hb1
  clear hb1
  have he : ((bs x1).toList == [65, 110, 110, 46, 76, 101, 101, 64, 101, 120, 97, 109, 112, 108, 101, 46, 111, 114, 103]) = true := by
    rw [ByteArray.toList_eq]; rfl
  go_wp2_with fail
  refine (H2.o w1 (HT.o.below B1.o)).mono ?_
  rintro e w2 ⟨rfl, hb2⟩
  have B2 := hd (B1.o.trans (hb2.mono B1.o.size))
  clear hb2
  go_wp2_with fail
  refine (H3.o w2 (HT.o.below B2.o)).mono ?_
  rintro e w3 ⟨rfl, hb3⟩
  have B3 := hd (B2.o.trans (hb3.mono B2.o.size))
  clear hb3
  go_wp2_with fail
  go_ret
  exact ⟨rfl, B3.o⟩

set_option maxRecDepth 100000 in
set_option maxHeartbeats 2000000 in
theorem mtells_long (s t : ByteArray) (w : World) (ht : Tbl w) (h1 : s.size ≤ maxLen) (h2 : t.size ≤ maxLen) (hl : 300 < s.size ∨ (s.size ≤ 300 ∧ 300 < t.size)) : Calls Tryd.prog 7 #[.string s, .string t] w fun e w' => e = .returned (.bool true) ∧ Below w.heap.size w w' := by
  unfold maxLen at h1 h2
  have HT := hd ht
  clear ht
  rcases hl with hl | ⟨hl0, hl⟩
  all_goals
    go_enter Tryd.func7, Tryd.ntmps7
    go_wp2_with fail
    refine (first_calls w HT.o).mono ?_
    rintro e w1 ⟨rfl, hb1⟩
    have B1 := hd hb1
    clear hb1
    go_wp2_with fail
    refine (first_calls w1 (HT.o.below B1.o)).mono ?_
    rintro e w2 ⟨rfl, hb2⟩
    go_wp2_with fail
    go_ret
    exact ⟨rfl, B1.o.trans (hb2.mono B1.o.size)⟩

set_option maxRecDepth 100000 in
set_option maxHeartbeats 4000000 in
theorem mtells_short (s t : ByteArray) (w : World) (ht : Tbl w) (h1 : s.size ≤ 300) (h2 : t.size ≤ 300) : Calls Tryd.prog 7 #[.string s, .string t] w fun e w' => e = .returned (.bool true) ∧ Below w.heap.size w w' := by
  have HT := hd ht
  clear ht
  have C1 := hd (fun W (h : Tbl W) => canon_calls s (by omega) W h)
  have C2 := hd (fun W => rmail_calls s (by omega) W)
  have C3 := hd (fun W (h : Tbl W) => parts_calls s (by omega) W h)
  have C4 := hd (fun W => rparts_calls s (by omega) W)
  have C5 := hd (fun W (h : Tbl W) => is_calls s (by omega) W h)
  have C6 := hd (fun W => ris_calls s (by omega) W)
  have C7 := hd (fun W (h : Tbl W) => same_calls s t (by omega) (by omega) W h)
  have C8 := hd (fun W => rsame_calls s t (by omega) (by omega) W)
  obtain ⟨ct, hct⟩ : ∃ x, bs (canT s.data.toList) = x := ⟨_, rfl⟩
  obtain ⟨ce, hce⟩ : ∃ x, canE s.data.toList = x := ⟨_, rfl⟩
  obtain ⟨pa, hpa⟩ : ∃ x, bs (partA s.data.toList) = x := ⟨_, rfl⟩
  obtain ⟨pb, hpb⟩ : ∃ x, bs (partB s.data.toList) = x := ⟨_, rfl⟩
  obtain ⟨ab, hab⟩ : ∃ x, addrB s.data.toList = x := ⟨_, rfl⟩
  obtain ⟨sb, hsb⟩ : ∃ x, sameB s.data.toList t.data.toList = x := ⟨_, rfl⟩
  rw [hct, hce] at C1 C2
  rw [hpa, hpb, hab] at C3 C4
  rw [hab] at C5 C6
  rw [hsb] at C7 C8
  clear hct hce hpa hpb hab hsb
  go_enter Tryd.func7, Tryd.ntmps7
  go_wp2_with fail
  refine (first_calls w HT.o).mono ?_
  rintro e w1 ⟨rfl, hb1⟩
  have B1 := hd hb1
  clear hb1
  go_wp2_with fail
  refine (C1.o w1 (HT.o.below B1.o)).mono ?_
  rintro e w2 ⟨rfl, hb2⟩
  have B2 := hd (B1.o.trans (hb2.mono B1.o.size))
  clear hb2
  go_wp2_with fail
  refine (C2.o w2).mono ?_
  rintro e w3 ⟨rfl, hb3⟩
  have B3 := hd (B2.o.trans (hb3.mono B2.o.size))
  clear hb3
  go_wp2_with fail
  refine (C3.o w3 (HT.o.below B3.o)).mono ?_
  rintro e w4 ⟨rfl, hb4⟩
  have B4 := hd (B3.o.trans (hb4.mono B3.o.size))
  clear hb4
  go_wp2_with fail
  refine (C4.o w4).mono ?_
  rintro e w5 ⟨rfl, hb5⟩
  have B5 := hd (B4.o.trans (hb5.mono B4.o.size))
  clear hb5
  go_wp2_with fail
  refine (C5.o w5 (HT.o.below B5.o)).mono ?_
  rintro e w6 ⟨rfl, hb6⟩
  have B6 := hd (B5.o.trans (hb6.mono B5.o.size))
  clear hb6
  go_wp2_with fail
  refine (C6.o w6).mono ?_
  rintro e w7 ⟨rfl, hb7⟩
  have B7 := hd (B6.o.trans (hb7.mono B6.o.size))
  clear hb7
  go_wp2_with fail
  refine (C7.o w7 (HT.o.below B7.o)).mono ?_
  rintro e w8 ⟨rfl, hb8⟩
  have B8 := hd (B7.o.trans (hb8.mono B7.o.size))
  clear hb8
  go_wp2_with fail
  refine (C8.o w8).mono ?_
  rintro e w9 ⟨rfl, hb9⟩
  have B9 := hd (B8.o.trans (hb9.mono B8.o.size))
  clear hb9
  go_wp2_with fail
  go_ret
  exact ⟨rfl, B9.o⟩

theorem mtells_calls (s t : ByteArray) (w : World) (ht : Tbl w) (h1 : s.size ≤ maxLen) (h2 : t.size ≤ maxLen) : Calls Tryd.prog 7 #[.string s, .string t] w fun e w' => e = .returned (.bool true) ∧ Below w.heap.size w w' := by
  by_cases c1 : 300 < s.size
  · exact mtells_long s t w ht h1 h2 (.inl c1)
  · by_cases c2 : 300 < t.size
    · exact mtells_long s t w ht h1 h2 (.inr ⟨by omega, c2⟩)
    · exact mtells_short s t w ht (by omega) (by omega)

end Go.Proofs.YtdnmeffglpmlaaaDoor
