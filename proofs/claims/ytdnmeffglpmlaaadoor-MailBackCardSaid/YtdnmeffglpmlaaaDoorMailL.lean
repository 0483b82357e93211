/-
  Addresses: the law of an address and its own form.
-/
import Derived.Test.YtdnmeffglpmlaaaDoorMailL0
import Derived.Test.YtdnmeffglpmlaaaDoorMailK
namespace Go.Proofs.YtdnmeffglpmlaaaDoor
open Go.RowKit Go.Sort

set_option maxRecDepth 100000 in
set_option maxHeartbeats 2000000 in
theorem mback_long (s : ByteArray) (w : World) (ht : Tbl w) (h1 : s.size ≤ maxLen) (hl : 200 < s.size) : Calls Tryd.prog 8 #[.string s] w fun e w' => e = .returned (.bool true) ∧ Below w.heap.size w w' := by
  unfold maxLen at h1
  have HT := hd ht
  clear ht
  go_enter Tryd.func8, Tryd.ntmps8
  go_wp2_with fail
  refine (first_calls w HT.o).mono ?_
  rintro e w1 ⟨rfl, hb1⟩
  have B1 := hd hb1
  clear hb1
  go_wp2_with fail
  refine (first_calls w1 (HT.o.below B1.o)).mono ?_
  rintro e w2 ⟨rfl, hb2⟩
  go_wp2_with fail
  go_ret
  exact ⟨rfl, B1.o.trans (hb2.mono B1.o.size)⟩

set_option maxRecDepth 100000 in
set_option maxHeartbeats 2000000 in
theorem mback_fail (s : ByteArray) (w : World) (ht : Tbl w) (hl : s.size ≤ 200) (hc : canE s.data.toList ≠ 0) : Calls Tryd.prog 8 #[.string s] w fun e w' => e = .returned (.bool true) ∧ Below w.heap.size w w' := by
  have HT := hd ht
  clear ht
  have C1 := fun W (h : Tbl W) => canon_calls s (by omega) W h
  have C2 := fun W (h : Tbl W) => is_calls s (by omega) W h
  simp only [(can_fail hc).1, addrB_f (can_fail hc).2] at C1 C2
  obtain ⟨E, hE⟩ : ∃ E, canE s.data.toList = E := ⟨_, rfl⟩
  rw [hE] at hc
  simp only [hE] at C1
  have n0 : (E != 0) = true := by simpa using hc
  have H1 := hd C1
  have H2 := hd C2
  clear hE hc C1 C2
  go_enter Tryd.func8, Tryd.ntmps8
  go_wp2_with fail
  refine (first_calls w HT.o).mono ?_
  rintro e w1 ⟨rfl, hb1⟩
  have B1 := hd hb1
  clear hb1
  go_wp2_with fail
  refine (H1.o w1 (HT.o.below B1.o)).mono ?_
  rintro e w2 ⟨rfl, hb2⟩
  have B2 := hd (B1.o.trans (hb2.mono B1.o.size))
  clear hb2
  have he : (bs []).toList = [] := by rw [ByteArray.toList_eq]; rfl
  go_wp2_with fail
  refine (H2.o w2 (HT.o.below B2.o)).mono ?_
  rintro e w3 ⟨rfl, hb3⟩
  go_wp2_with fail
  go_ret
  exact ⟨rfl, B2.o.trans (hb3.mono B2.o.size)⟩

theorem Row8.below {w w' : World} {g N : Nat} {cs : Array Value} (h : Row8 w g cs N) (hb : Below w.heap.size w w') : Row8 w' g cs N := ⟨(hb.block g h.lt).trans h.1, h.2⟩

set_option maxRecDepth 100000 in
set_option maxHeartbeats 4000000 in
theorem mback_ok (s : ByteArray) (w : World) (ht : Tbl w) (hl : s.size ≤ 200) (hc : canE s.data.toList = 0) : Calls Tryd.prog 8 #[.string s] w fun e w' => e = .returned (.bool true) ∧ Below w.heap.size w w' := by
  have HT := hd ht
  clear ht
  have hA := can_ok hc
  have C1 := fun W (h : Tbl W) => canon_calls s (by omega) W h
  simp only [hc] at C1
  obtain ⟨S, hS⟩ : ∃ S, canT s.data.toList = S := ⟨_, rfl⟩
  rw [hS] at hA
  simp only [hS] at C1
  clear hS hc
  have hsz : (bs S).size = S.length := bs_size S
  have hSl := hA.1
  have C2 := fun W (h : Tbl W) => parts_calls (bs S) (by rw [hsz]; omega) W h
  have C3 := fun W (h : Tbl W) => canon_calls (bs S) (by rw [hsz]; omega) W h
  simp only [bs_data, (can_addr hA).1, (can_addr hA).2] at C3
  simp only [bs_data, addrB_t hA, ← (part_yes hA).1, ← (part_yes hA).2.1] at C2
  have hform := addr_form hA
  obtain ⟨a, ha⟩ : ∃ a, bef 64 S = a := ⟨_, rfl⟩
  obtain ⟨d, hd'⟩ : ∃ d, aft 64 S = d := ⟨_, rfl⟩
  have hloc : LocP a := ha ▸ hA.2.2.1
  have hdom : DomP d := hd' ▸ hA.2.2.2
  rw [ha, hd'] at hform
  simp only [ha, hd'] at C2
  have hal : a.length ≤ 63 := by rw [hform] at hSl; simp at hSl; omega
  have hdl : d.length ≤ 63 := by rw [hform] at hSl; simp at hSl; omega
  have hdr := can_dress (hform ▸ hA) hloc hdom
  have C4 := fun W (h : Tbl W) => canon_calls (bs (dress a d)) (by rw [bs_size]; simp [dress, upL]; omega) W h
  simp only [bs_data, hdr.1, hdr.2, ← hform] at C4
  have C5 := fun W (h : Tbl W) => same_calls (bs S) (bs S) (by rw [hsz]; omega) (by rw [hsz]; omega) W h
  simp only [bs_data, sameB, addrB_t hA] at C5
  have H1 := hd C1
  have H2 := hd C2
  have H3 := hd C3
  have H4 := hd C4
  have H5 := hd C5
  have HF := hd hform
  have HA := hd hA
  clear C1 C2 C3 C4 C5 hA ha hd' hloc hdom hdr hform hsz
  go_enter Tryd.func8, Tryd.ntmps8
  go_wp2_with fail
  refine (first_calls w HT.o).mono ?_
  rintro e w1 ⟨rfl, hb1⟩
  have B1 := hd hb1
  clear hb1
  go_wp2_with fail
  refine (H1.o w1 (HT.o.below B1.o)).mono ?_
  rintro e w2 ⟨rfl, hb2⟩
  have B2 := hd (B1.o.trans (hb2.mono B1.o.size))
  clear hb2
  go_wp2_with fail
  refine (H2.o w2 (HT.o.below B2.o)).mono ?_
  rintro e w3 ⟨rfl, hb3⟩
  have B3 := hd (B2.o.trans (hb3.mono B2.o.size))
  clear hb3
  have hzd : (bs d).size = d.length := bs_size d
  have hcv := run_bytes_of_string (P := Tryd.prog) w3 9 42 5 (bs d) Tryd.underlying9 Tryd.underlying42 Tryd.underlying5
  have hge := grownCap_ge w3 (bs d).size 0 5
  obtain ⟨cap, hcap⟩ : ∃ c, grownCap w3 (bs d).size 0 5 = c := ⟨_, rfl⟩
  rw [hcap] at hcv hge
  clear hcap
  have hN : (bytesRow (bs d) cap).size = cap := bytesRow_size (bs d) cap hge
  have hH := bytesRow_holds (bs d) cap
  rw [bs_data] at hH
  obtain ⟨C, hC⟩ : ∃ C, bytesRow (bs d) cap = C := ⟨_, rfl⟩
  rw [hC] at hcv hN hH
  clear hC
  have HN := hd hN
  rw [hN, hzd] at hcv
  rw [hzd] at hge
  clear hN hzd
  have HH := hd hH
  clear hH
  go_wp2
  obtain ⟨X, hX⟩ : ∃ X, X = (w3.alloc (.cells C 5 (cap, cap + 1))).drew := ⟨_, rfl⟩
  rw [← hX]
  have kX : Row8 X w3.heap.size C cap := by
    rw [hX]; exact ⟨heap_alloc_new w3 _, HN.o⟩
  have bX : Below w.heap.size w X := by rw [hX]; exact bdrew (B3.o.alloc B3.o.size _)
  have KX := hd kX
  have BX := hd bX
  have hg3 := B3.o.size
  clear hX kX bX hcv
  go_loopw [9] (fun i wr => ∃ (k : Nat) (cs : Array Value), i = .int .i64 k ∧ k ≤ d.length ∧ Row8 wr w3.heap.size cs cap ∧ Hd (Holds8 cs (upK d k)) ∧ Below w.heap.size w wr) (fun i _ => d.length - (intOf i).toNat)
  case atStart => exact ⟨0, C, rfl, Nat.zero_le _, KX.o, hd (by rw [upK_zero]; exact HH.o), BX.o⟩
  case round =>
    obtain ⟨k, cs, rfl, hk, hr, hh, hb⟩ := hrel
    by_cases hlt : k < d.length
    · have hc := hr.at_ k (hh.o k (by rw [upK_len]; exact hlt))
      rw [upK_at _ k hlt, bt_list d k hlt] at hc
      have hf := hr.free k (by omega)
      have hlb := hr.lt
      have hki : (0 : Int) ≤ (k : Int) := by omega
      have hkc : k < cap := by omega
      by_cases hu : 97 ≤ d[k].toNat ∧ d[k].toNat ≤ 122
      · have HU := hd (upU_up d[k] hu)
        obtain ⟨hu1, hu2⟩ := hu
        go_wp2
        go_roundw
        case rel =>
          refine ⟨k + 1, _, by go_num, by omega, hr.set_ k _, ?_, hb.setCell (by show _ ≤ w3.heap.size; exact hg3) _⟩
          rw [upK_next _ k hlt]
          exact holds8_set hh.o (by rw [upK_len, hr.2]; omega) k (by rw [upK_len]; exact hlt) _ _ HU.o.symm
        case measure => simp [intOf]; omega
      · have HU := hd (upK_same _ k hlt (upU_no _ hu))
        go_wp2
        all_goals first
          | (exfalso; omega)
          | (go_roundw
             case rel => exact ⟨k + 1, cs, by go_num, by omega, hr, hd (by rw [HU.o]; exact hh.o), hb⟩
             case measure => simp [intOf]; omega)
    · have hke : k = d.length := by omega
      have hh' := hd (by have := hh.o; rwa [hke, upK_all _ _ (Nat.le_refl _)] at this : Holds8 cs (upL d))
      have HB := hd hb
      have HR8 := hd hr
      clear hh hb hr hk hlt
      subst hke
      go_wp2_with fail
      refine (H3.o _ (HT.o.below HB.o)).mono ?_
      rintro e w5 ⟨rfl, hb5⟩
      have B5 := hd (HB.o.trans (hb5.mono HB.o.size))
      have HR5 := hd (HR8.o.below hb5)
      clear hb5
      have hul : (upL d).length = d.length := by simp [upL]
      have hv : (convert 42 9 (.slice (some ⟨w3.heap.size, 0, none⟩) d.length cap)).run Tryd.prog w5 = .ok (.string (bs (upL d))) w5 := by
        rw [← hul]
        exact run_convert_bytes_back (P := Tryd.prog) w5 42 9 5 ⟨w3.heap.size, 0, none⟩ cap (upL d) Tryd.underlying42 Tryd.underlying5 Tryd.underlying9 (fun j hj => by
          have := HR5.o.at_ j (hh'.o j hj)
          rw [bt_list _ j hj] at this
          have hp : (⟨w3.heap.size, 0, none⟩ : Addr).add j = ⟨w3.heap.size, j, none⟩ := by unfold Addr.add; split <;> simp_all
          rw [hp]; exact this)
      have z1 : (bs a).size = a.length := bs_size a
      have z2 : (bs (upL d)).size = d.length := by rw [bs_size, hul]
      have z3 : (bs d).size = d.length := bs_size d
      clear hul
      go_wp2_with fail
      have edr : (⟨#[32, 32]⟩ : ByteArray) ++ bs a ++ ⟨#[64]⟩ ++ bs (upL d) ++ ⟨#[32]⟩ = bs (dress a d) := by
        apply ByteArray.ext; simp [bs, dress]
      rw [edr]
      clear edr
      refine (H4.o w5 (HT.o.below B5.o)).mono ?_
      rintro e w6 ⟨rfl, hb6⟩
      have B6 := hd (B5.o.trans (hb6.mono B5.o.size))
      clear hb6 hv
      have ead : bs a ++ (⟨#[64]⟩ : ByteArray) ++ bs d = bs S := by
        rw [HF.o]; apply ByteArray.ext; simp [bs]
      go_wp2_with fail
      refine (H5.o w6 (HT.o.below B6.o)).mono ?_
      rintro e w7 ⟨rfl, hb7⟩
      go_wp2_with fail
      go_ret
      exact ⟨retB (by simp), B6.o.trans (hb7.mono B6.o.size)⟩

theorem mback_calls (s : ByteArray) (w : World) (ht : Tbl w) (h1 : s.size ≤ maxLen) : Calls Tryd.prog 8 #[.string s] w fun e w' => e = .returned (.bool true) ∧ Below w.heap.size w w' := by
  by_cases c1 : 200 < s.size
  · exact mback_long s w ht h1 c1
  · by_cases c2 : canE s.data.toList = 0
    · exact mback_ok s w ht (by omega) c2
    · exact mback_fail s w ht (by omega) c2

end Go.Proofs.YtdnmeffglpmlaaaDoor
