/-
  Texts with small signs, on both sides.
-/
import Derived.Test.YtpejlcaoggedfaaGreatDoorMailA
import Derived.Laws.IdiomStrings
import Derived.Laws.BytesArg
set_option linter.unusedVariables false
set_option linter.unusedSimpArgs false
namespace Go.Proofs.YtpejlcaoggedfaaGreatDoor
open Go.RowKit

/-- A block with cells that may be written. -/
def Row8 (w : World) (g : Nat) (cs : Array Value) (N : Nat) : Prop := w.heap[g]? = some (.cells cs 5 (N, N + 1)) ∧ cs.size = N
section
variable {w w' : World} {g N : Nat} {cs : Array Value}
theorem Row8.lt (h : Row8 w g cs N) : g < w.heap.size := by
  rcases Nat.lt_or_ge g w.heap.size with hlt | hge
  · exact hlt
  · have := h.1; rw [Array.getElem?_eq_none hge] at this; cases this
theorem Row8.at_ (h : Row8 w g cs N) (i : Nat) {v : Value} (hv : cs[i]? = some v) : w.cell? ⟨g, i, none⟩ = some v := (cell_of_row w g i cs 5 (N, N + 1) h.1).trans hv
theorem Row8.free (h : Row8 w g cs N) (i : Nat) (hi : i < N) : w.frozen? ⟨g, i, none⟩ = false := by
  simp [World.frozen?, h.1]
  omega
theorem Row8.set_ (h : Row8 w g cs N) (i : Nat) (u : Value) : Row8 (w.setCell ⟨g, i, none⟩ u) g (cs.setIfInBounds i u) N := by
  refine ⟨?_, by simp [h.2]⟩
  have := h.1
  simp [World.setCell, Array.getElem?_modify, this]
end
/-- The cells of some bytes. -/
def Holds8 (cs : Array Value) (l : List UInt8) : Prop := ∀ j, j < l.length → cs[j]? = some (.int .u8 (bt l j))
theorem holds8_set {cs : Array Value} {l : List UInt8} (h : Holds8 cs l) (hl : l.length ≤ cs.size) (k : Nat) (hk : k < l.length) (c : UInt8) (n : Int) (hn : n = c.toNat) : Holds8 (cs.setIfInBounds k (.int .u8 n)) (l.set k c) := by
  intro j hj
  simp only [List.length_set] at hj
  subst hn
  by_cases e : j = k
  · subst e
    simp [bt, List.getD_eq_getElem?_getD, hj, show j < cs.size by omega]
  · have := h j hj
    rw [Array.getElem?_setIfInBounds_ne (fun e' => e e'.symm), this]
    simp [bt, List.getD_eq_getElem?_getD, List.getElem?_set, show ¬ k = j from fun e' => e e'.symm]
theorem bt_set_ne (l : List UInt8) (k j : Nat) (c : UInt8) (h : k ≠ j) : bt (l.set k c) j = bt l j := by
  simp [bt, List.getD_eq_getElem?_getD, List.getElem?_set, h]

/-- The first k signs as small ones. -/
def foldK (l : List UInt8) (k : Nat) : List UInt8 := (l.take k).map lowU ++ l.drop k
theorem foldK_len (l : List UInt8) (k : Nat) : (foldK l k).length = l.length := by simp [foldK]; omega
theorem foldK_all (l : List UInt8) (k : Nat) (h : l.length ≤ k) : foldK l k = foldL l := by
  rw [foldK, List.take_of_length_le h, List.drop_of_length_le h, List.append_nil, foldL]
theorem foldK_zero (l : List UInt8) : foldK l 0 = l := by simp [foldK]
theorem foldK_next (l : List UInt8) (k : Nat) (h : k < l.length) : foldK l (k + 1) = (foldK l k).set k (lowU l[k]) := by
  have e : l.drop k = l[k] :: l.drop (k + 1) := List.drop_eq_getElem_cons h
  unfold foldK
  rw [List.take_succ_eq_append_getElem h, e, List.map_append]
  rw [List.set_append_right _ _ (by simp; omega), show k - ((l.take k).map lowU).length = 0 by simp; omega, List.append_assoc]
  rfl
theorem foldK_at (l : List UInt8) (k : Nat) (h : k < l.length) : bt (foldK l k) k = bt l k := by
  unfold foldK bt
  simp only [List.getD_eq_getElem?_getD]
  rw [List.getElem?_append_right (by simp; omega)]
  simp [show k - min k l.length = 0 by omega, h]
theorem foldK_same (l : List UInt8) (k : Nat) (h : k < l.length) (hu : lowU l[k] = l[k]) : foldK l (k + 1) = foldK l k := by
  have e : l.drop k = l[k] :: l.drop (k + 1) := List.drop_eq_getElem_cons h
  rw [foldK_next l k h, hu]
  unfold foldK
  rw [e, List.set_append_right _ _ (by simp; omega), show k - ((l.take k).map lowU).length = 0 by simp; omega]
  rfl
theorem lowU_up (c : UInt8) (h : 65 ≤ c.toNat ∧ c.toNat ≤ 90) : ((lowU c).toNat : Int) = (c.toNat : Int) + 32 := by
  rw [lowU, if_pos h, UInt8.toNat_add, show (32 : UInt8).toNat = 32 from rfl]
  omega
theorem lowU_no (c : UInt8) (h : ¬ (65 ≤ c.toNat ∧ c.toNat ≤ 90)) : lowU c = c := by rw [lowU, if_neg h]

theorem bt_list (l : List UInt8) (j : Nat) (h : j < l.length) : bt l j = l[j].toNat := by simp [bt, List.getD_eq_getElem?_getD, h]
theorem bytesRow_size (s : ByteArray) (n : Nat) (h : s.size ≤ n) : (bytesRow s n).size = n := by
  have : s.data.size = s.size := rfl
  simp [bytesRow]; omega
theorem bytesRow_holds (s : ByteArray) (n : Nat) : Holds8 (bytesRow s n) s.data.toList := by
  intro j hj
  have hj' : j < s.data.size := by simpa using hj
  rw [bt_list _ j hj, bytesRow, Array.getElem?_append_left (by simpa using hj')]
  simp only [Array.getElem?_map, Array.getElem?_eq_getElem hj', Option.map_some, Array.getElem_toList]
theorem bdrew {B : Nat} {a w : World} (h : Below B a w) : Below B a w.drew := ⟨h.os, h.tape, h.output, h.size, h.block⟩

set_option maxHeartbeats 1000000 in
theorem fold_calls (s : ByteArray) (hs : s.size ≤ 1000000000) (w : World) : Calls Tryz.prog 77 #[.string s] w fun e w' => e = .returned (.string (bs (foldL s.data.toList))) ∧ Below w.heap.size w w' := by
  have hcv := run_bytes_of_string (P := Tryz.prog) w 9 70 5 s Tryz.underlying9 Tryz.underlying70 Tryz.underlying5
  have hge := grownCap_ge w s.size 0 5
  obtain ⟨cap, hcap⟩ : ∃ c, grownCap w s.size 0 5 = c := ⟨_, rfl⟩
  rw [hcap] at hcv hge
  clear hcap
  have hN : (bytesRow s cap).size = cap := bytesRow_size s cap hge
  have hH := bytesRow_holds s cap
  obtain ⟨C, hC⟩ : ∃ C, bytesRow s cap = C := ⟨_, rfl⟩
  rw [hC] at hcv hN hH
  clear hC
  have HL := hd (show s.data.toList.length = s.size by simp)
  have HN := hd hN
  rw [hN] at hcv
  clear hN
  have HH := hd hH
  clear hH
  go_enter Tryz.func77, Tryz.ntmps77
  go_wp2
  obtain ⟨X, hX⟩ : ∃ X, X = (w.alloc (.cells C 5 (cap, cap + 1))).drew := ⟨_, rfl⟩
  rw [← hX]
  have kX : Row8 X w.heap.size C cap := by
    rw [hX]; exact ⟨heap_alloc_new w _, HN.o⟩
  have bX : Below w.heap.size w X := by rw [hX]; exact bdrew ((Below.refl _ w).alloc (Nat.le_refl _) _)
  have KX := hd kX
  have BX := hd bX
  clear hX kX bX hcv
  go_loopw [10, 4, 5] (fun i _ _ wr => ∃ (k : Nat) (cs : Array Value), i = .int .i64 k ∧ k ≤ s.size ∧ Row8 wr w.heap.size cs cap ∧ Hd (Holds8 cs (foldK s.data.toList k)) ∧ Below w.heap.size w wr) (fun i _ _ _ => s.size - (intOf i).toNat)
  case atStart => exact ⟨0, C, rfl, Nat.zero_le _, KX.o, hd (by rw [foldK_zero]; exact HH.o), BX.o⟩
  case round =>
    obtain ⟨k, cs, rfl, hk, hr, hh, hb⟩ := hrel
    by_cases hlt : k < s.size
    · have hkl : k < s.data.toList.length := by rw [HL.o]; exact hlt
      have hc := hr.at_ k (hh.o k (by rw [foldK_len]; exact hkl))
      rw [foldK_at _ k hkl, bt_self s k hlt] at hc
      have hf := hr.free k (by omega)
      have hlb := hr.lt
      have hki : (0 : Int) ≤ (k : Int) := by omega
      have hkc : k < cap := by omega
      by_cases hu : 65 ≤ s[k].toNat ∧ s[k].toNat ≤ 90
      · have HU := hd (lowU_up s[k] hu)
        obtain ⟨hu1, hu2⟩ := hu
        go_wp2
        go_roundw
        case rel =>
          refine ⟨k + 1, _, by go_num, by omega, hr.set_ k _, ?_, hb.setCell (Nat.le_refl _) _⟩
          rw [foldK_next _ k hkl]
          exact holds8_set hh.o (by rw [foldK_len, HL.o, hr.2]; omega) k (by rw [foldK_len]; exact hkl) _ _ HU.o.symm
        case measure => simp [intOf]; omega
      · have HU := hd (foldK_same _ k hkl (lowU_no _ hu))
        go_wp2
        all_goals first
          | (exfalso; omega)
          | (go_roundw
             case rel => exact ⟨k + 1, cs, by go_num, by omega, hr, hd (by rw [HU.o]; exact hh.o), hb⟩
             case measure => simp [intOf]; omega)
    · have hke : k = s.size := by omega
      subst hke
      have hall : foldK s.data.toList s.size = foldL s.data.toList := foldK_all _ _ (by rw [HL.o]; exact Nat.le_refl _)
      have hlen : (foldL s.data.toList).length = s.size := by rw [foldL, List.length_map, HL.o]
      rw [hall] at hh
      have hv := run_convert_bytes_back (P := Tryz.prog) wr 70 9 5 ⟨w.heap.size, 0, none⟩ cap (foldL s.data.toList) Tryz.underlying70 Tryz.underlying5 Tryz.underlying9 (fun j hj => by
        have := hr.at_ j (hh.o j hj)
        rw [bt_list _ j hj] at this
        have hp : (⟨w.heap.size, 0, none⟩ : Addr).add j = ⟨w.heap.size, j, none⟩ := by unfold Addr.add; split <;> simp_all
        rw [hp]; exact this)
      rw [hlen] at hv
      clear hall hlen
      go_wp2
      go_ret
      exact ⟨rfl, hb⟩

set_option maxHeartbeats 1000000 in
theorem rfold_calls (s : ByteArray) (hs : s.size ≤ 1000000000) (w : World) : Calls Tryz.prog 96 #[.string s] w fun e w' => e = .returned (.string (bs (foldL s.data.toList))) ∧ Below w.heap.size w w' := by
  have hcv := run_bytes_of_string (P := Tryz.prog) w 9 70 5 s Tryz.underlying9 Tryz.underlying70 Tryz.underlying5
  have hge := grownCap_ge w s.size 0 5
  obtain ⟨cap, hcap⟩ : ∃ c, grownCap w s.size 0 5 = c := ⟨_, rfl⟩
  rw [hcap] at hcv hge
  clear hcap
  have hN : (bytesRow s cap).size = cap := bytesRow_size s cap hge
  have hH := bytesRow_holds s cap
  obtain ⟨C, hC⟩ : ∃ C, bytesRow s cap = C := ⟨_, rfl⟩
  rw [hC] at hcv hN hH
  clear hC
  have HL := hd (show s.data.toList.length = s.size by simp)
  have HN := hd hN
  rw [hN] at hcv
  clear hN
  have HH := hd hH
  clear hH
  go_enter Tryz.func96, Tryz.ntmps96
  go_wp2
  obtain ⟨X, hX⟩ : ∃ X, X = (w.alloc (.cells C 5 (cap, cap + 1))).drew := ⟨_, rfl⟩
  rw [← hX]
  have kX : Row8 X w.heap.size C cap := by
    rw [hX]; exact ⟨heap_alloc_new w _, HN.o⟩
  have bX : Below w.heap.size w X := by rw [hX]; exact bdrew ((Below.refl _ w).alloc (Nat.le_refl _) _)
  have KX := hd kX
  have BX := hd bX
  clear hX kX bX hcv
  go_loopw [4] (fun i wr => ∃ (k : Nat) (cs : Array Value), i = .int .i64 k ∧ k ≤ s.size ∧ Row8 wr w.heap.size cs cap ∧ Hd (Holds8 cs (foldK s.data.toList k)) ∧ Below w.heap.size w wr) (fun i _ => s.size - (intOf i).toNat)
  case atStart => exact ⟨0, C, rfl, Nat.zero_le _, KX.o, hd (by rw [foldK_zero]; exact HH.o), BX.o⟩
  case round =>
    obtain ⟨k, cs, rfl, hk, hr, hh, hb⟩ := hrel
    by_cases hlt : k < s.size
    · have hkl : k < s.data.toList.length := by rw [HL.o]; exact hlt
      have hc := hr.at_ k (hh.o k (by rw [foldK_len]; exact hkl))
      rw [foldK_at _ k hkl, bt_self s k hlt] at hc
      have hf := hr.free k (by omega)
      have hlb := hr.lt
      have hki : (0 : Int) ≤ (k : Int) := by omega
      have hkc : k < cap := by omega
      by_cases hu : 65 ≤ s[k].toNat ∧ s[k].toNat ≤ 90
      · have HU := hd (lowU_up s[k] hu)
        obtain ⟨hu1, hu2⟩ := hu
        go_wp2_with (go_at_call 113; refine (up_calls _ _).mono ?_; rintro e w' ⟨rfl, rfl⟩)
        go_roundw
        case rel =>
          refine ⟨k + 1, _, by go_num, by omega, hr.set_ k _, ?_, hb.setCell (Nat.le_refl _) _⟩
          rw [foldK_next _ k hkl]
          exact holds8_set hh.o (by rw [foldK_len, HL.o, hr.2]; omega) k (by rw [foldK_len]; exact hkl) _ _ HU.o.symm
        case measure => simp [intOf]; omega
      · have HU := hd (foldK_same _ k hkl (lowU_no _ hu))
        go_wp2_with (go_at_call 113; refine (up_calls _ _).mono ?_; rintro e w' ⟨rfl, rfl⟩)
        all_goals first
          | (exfalso; omega)
          | (go_roundw
             case rel => exact ⟨k + 1, cs, by go_num, by omega, hr, hd (by rw [HU.o]; exact hh.o), hb⟩
             case measure => simp [intOf]; omega)
    · have hke : k = s.size := by omega
      subst hke
      have hall : foldK s.data.toList s.size = foldL s.data.toList := foldK_all _ _ (by rw [HL.o]; exact Nat.le_refl _)
      have hlen : (foldL s.data.toList).length = s.size := by rw [foldL, List.length_map, HL.o]
      rw [hall] at hh
      have hv := run_convert_bytes_back (P := Tryz.prog) wr 70 9 5 ⟨w.heap.size, 0, none⟩ cap (foldL s.data.toList) Tryz.underlying70 Tryz.underlying5 Tryz.underlying9 (fun j hj => by
        have := hr.at_ j (hh.o j hj)
        rw [bt_list _ j hj] at this
        have hp : (⟨w.heap.size, 0, none⟩ : Addr).add j = ⟨w.heap.size, j, none⟩ := by unfold Addr.add; split <;> simp_all
        rw [hp]; exact this)
      rw [hlen] at hv
      clear hall hlen
      go_wp2
      go_ret
      exact ⟨rfl, hb⟩

end Go.Proofs.YtpejlcaoggedfaaGreatDoor
