/-
  Texts with small signs, on both sides.
-/
import Derived.Test.YtfacfdjapjhpeaaGreatDoorGAA
import Derived.Laws.IdiomStrings
import Derived.Laws.BytesArg
import Derived.Shelf.Strings.Shaped
import Derived.Shelf.Strings.SplitShaped
import Derived.Shelf.Strings.LastIndex
import Derived.Shelf.Unicode.ValidAny
import Derived.Shelf.LaysM
import Derived.Test.YtfacfdjapjhpeaaGreatDoorProg
import Derived.Deep.RegionLaw
import Derived.Laws.CopyRow
import Derived.Lib.SliceRun
set_option linter.unusedVariables false
set_option linter.unusedSimpArgs false
namespace Go.Proofs.YtfacfdjapjhpeaaGreatDoor
open Go.RowKit

/-- A block with cells that may be written. -/
def Row8 (w : World) (g : Nat) (cs : Array Value) (N : Nat) : Prop := w.heap[g]? = some (.cells cs 5 (N, N + 1)) ∧ cs.size = N
section
variable {w w' : World} {g N : Nat} {cs : Array Value}
theorem Row8.lt (h : Row8 w g cs N) : g < w.heap.size := by
  rcases Nat.lt_or_ge g w.heap.size with hlt | hge
  · exact hlt
  · have := h.1; rw [Array.getElem?_eq_none hge] at this; cases this
theorem Row8.at_ (h : Row8 w g cs N) (i : Nat) {v : Value} (hv : cs[i]? = some v) : w.cell? ⟨g, i, none⟩ = some v := (cell_of_row w g i cs 5 (N, N + 1) h.1).trans hv
theorem Row8.free (h : Row8 w g cs N) (i : Nat) (hi : i < N) : w.frozen? ⟨g, i, none⟩ = false := by
  simp [World.frozen?, h.1]
  omega
theorem Row8.set_ (h : Row8 w g cs N) (i : Nat) (u : Value) : Row8 (w.setCell ⟨g, i, none⟩ u) g (cs.setIfInBounds i u) N := by
  refine ⟨?_, by simp [h.2]⟩
  have := h.1
  simp [World.setCell, Array.getElem?_modify, this]
end
/-- The cells of some bytes. -/
def Holds8 (cs : Array Value) (l : List UInt8) : Prop := ∀ j, j < l.length → cs[j]? = some (.int .u8 (bt l j))
theorem holds8_set {cs : Array Value} {l : List UInt8} (h : Holds8 cs l) (hl : l.length ≤ cs.size) (k : Nat) (hk : k < l.length) (c : UInt8) (n : Int) (hn : n = c.toNat) : Holds8 (cs.setIfInBounds k (.int .u8 n)) (l.set k c) := by
  intro j hj
  simp only [List.length_set] at hj
  subst hn
  by_cases e : j = k
  · subst e
    simp [bt, List.getD_eq_getElem?_getD, hj, show j < cs.size by omega]
  · have := h j hj
    rw [Array.getElem?_setIfInBounds_ne (fun e' => e e'.symm), this]
    simp [bt, List.getD_eq_getElem?_getD, List.getElem?_set, show ¬ k = j from fun e' => e e'.symm]
/-- The first k signs as small ones. -/
def foldK (l : List UInt8) (k : Nat) : List UInt8 := (l.take k).map lowU ++ l.drop k
theorem foldK_len (l : List UInt8) (k : Nat) : (foldK l k).length = l.length := by simp [foldK]; omega
theorem foldK_all (l : List UInt8) (k : Nat) (h : l.length ≤ k) : foldK l k = foldL l := by
  rw [foldK, List.take_of_length_le h, List.drop_of_length_le h, List.append_nil, foldL]
theorem foldK_zero (l : List UInt8) : foldK l 0 = l := by simp [foldK]
theorem foldK_next (l : List UInt8) (k : Nat) (h : k < l.length) : foldK l (k + 1) = (foldK l k).set k (lowU l[k]) := by
  have e : l.drop k = l[k] :: l.drop (k + 1) := List.drop_eq_getElem_cons h
  unfold foldK
  rw [List.take_succ_eq_append_getElem h, e, List.map_append]
  rw [List.set_append_right _ _ (by simp; omega), show k - ((l.take k).map lowU).length = 0 by simp; omega, List.append_assoc]
  rfl
theorem foldK_at (l : List UInt8) (k : Nat) (h : k < l.length) : bt (foldK l k) k = bt l k := by
  unfold foldK bt
  simp only [List.getD_eq_getElem?_getD]
  rw [List.getElem?_append_right (by simp; omega)]
  simp [show k - min k l.length = 0 by omega, h]
theorem foldK_same (l : List UInt8) (k : Nat) (h : k < l.length) (hu : lowU l[k] = l[k]) : foldK l (k + 1) = foldK l k := by
  have e : l.drop k = l[k] :: l.drop (k + 1) := List.drop_eq_getElem_cons h
  rw [foldK_next l k h, hu]
  unfold foldK
  rw [e, List.set_append_right _ _ (by simp; omega), show k - ((l.take k).map lowU).length = 0 by simp; omega]
  rfl
theorem lowU_up (c : UInt8) (h : 65 ≤ c.toNat ∧ c.toNat ≤ 90) : ((lowU c).toNat : Int) = (c.toNat : Int) + 32 := by
  rw [lowU, if_pos h, UInt8.toNat_add, show (32 : UInt8).toNat = 32 from rfl]
  omega
theorem lowU_no (c : UInt8) (h : ¬ (65 ≤ c.toNat ∧ c.toNat ≤ 90)) : lowU c = c := by rw [lowU, if_neg h]

theorem bt_list (l : List UInt8) (j : Nat) (h : j < l.length) : bt l j = l[j].toNat := by simp [bt, List.getD_eq_getElem?_getD, h]
theorem bytesRow_size (s : ByteArray) (n : Nat) (h : s.size ≤ n) : (bytesRow s n).size = n := by
  have : s.data.size = s.size := rfl
  simp [bytesRow]; omega
theorem bytesRow_holds (s : ByteArray) (n : Nat) : Holds8 (bytesRow s n) s.data.toList := by
  intro j hj
  have hj' : j < s.data.size := by simpa using hj
  rw [bt_list _ j hj, bytesRow, Array.getElem?_append_left (by simpa using hj')]
  simp only [Array.getElem?_map, Array.getElem?_eq_getElem hj', Option.map_some, Array.getElem_toList]
theorem bdrew {B : Nat} {a w : World} (h : Below B a w) : Below B a w.drew := ⟨h.os, h.tape, h.output, h.size, h.block⟩

set_option maxHeartbeats 1000000 in
theorem fold_calls (s : ByteArray) (hs : s.size ≤ 1000000000) (w : World) : Calls Tryz.prog 243 #[.string s] w fun e w' => e = .returned (.string (bs (foldL s.data.toList))) ∧ Below w.heap.size w w' := by
  have hcv := run_bytes_of_string (P := Tryz.prog) w 9 275 5 s Tryz.underlying9 Tryz.underlying275 Tryz.underlying5
  have hge := grownCap_ge w s.size 0 5
  obtain ⟨cap, hcap⟩ : ∃ c, grownCap w s.size 0 5 = c := ⟨_, rfl⟩
  rw [hcap] at hcv hge
  clear hcap
  have hN : (bytesRow s cap).size = cap := bytesRow_size s cap hge
  have hH := bytesRow_holds s cap
  obtain ⟨C, hC⟩ : ∃ C, bytesRow s cap = C := ⟨_, rfl⟩
  rw [hC] at hcv hN hH
  clear hC
  have HL := hd (show s.data.toList.length = s.size by simp)
  have HN := hd hN
  rw [hN] at hcv
  clear hN
  have HH := hd hH
  clear hH
  go_enter Tryz.func243, Tryz.ntmps243
  go_wp2
  obtain ⟨X, hX⟩ : ∃ X, X = (w.alloc (.cells C 5 (cap, cap + 1))).drew := ⟨_, rfl⟩
  rw [← hX]
  have kX : Row8 X w.heap.size C cap := by
    rw [hX]; exact ⟨heap_alloc_new w _, HN.o⟩
  have bX : Below w.heap.size w X := by rw [hX]; exact bdrew ((Below.refl _ w).alloc (Nat.le_refl _) _)
  have KX := hd kX
  have BX := hd bX
  clear hX kX bX hcv
  go_loopw [10, 4, 5] (fun i _ _ wr => ∃ (k : Nat) (cs : Array Value), i = .int .i64 k ∧ k ≤ s.size ∧ Row8 wr w.heap.size cs cap ∧ Hd (Holds8 cs (foldK s.data.toList k)) ∧ Below w.heap.size w wr) (fun i _ _ _ => s.size - (intOf i).toNat)
  case atStart => exact ⟨0, C, rfl, Nat.zero_le _, KX.o, hd (by rw [foldK_zero]; exact HH.o), BX.o⟩
  case round =>
    obtain ⟨k, cs, rfl, hk, hr, hh, hb⟩ := hrel
    by_cases hlt : k < s.size
    · have hkl : k < s.data.toList.length := by rw [HL.o]; exact hlt
      have hc := hr.at_ k (hh.o k (by rw [foldK_len]; exact hkl))
      rw [foldK_at _ k hkl, bt_self s k hlt] at hc
      have hf := hr.free k (by omega)
      have hlb := hr.lt
      have hki : (0 : Int) ≤ (k : Int) := by omega
      have hkc : k < cap := by omega
      by_cases hu : 65 ≤ s[k].toNat ∧ s[k].toNat ≤ 90
      · have HU := hd (lowU_up s[k] hu)
        obtain ⟨hu1, hu2⟩ := hu
        go_wp2
        go_roundw
        case rel =>
          refine ⟨k + 1, _, by go_num, by omega, hr.set_ k _, ?_, hb.setCell (Nat.le_refl _) _⟩
          rw [foldK_next _ k hkl]
          exact holds8_set hh.o (by rw [foldK_len, HL.o, hr.2]; omega) k (by rw [foldK_len]; exact hkl) _ _ HU.o.symm
        case measure => simp [intOf]; omega
      · have HU := hd (foldK_same _ k hkl (lowU_no _ hu))
        go_wp2
        all_goals first
          | (exfalso; omega)
          | (go_roundw
             case rel => exact ⟨k + 1, cs, by go_num, by omega, hr, hd (by rw [HU.o]; exact hh.o), hb⟩
             case measure => simp [intOf]; omega)
    · have hke : k = s.size := by omega
      subst hke
      have hall : foldK s.data.toList s.size = foldL s.data.toList := foldK_all _ _ (by rw [HL.o]; exact Nat.le_refl _)
      have hlen : (foldL s.data.toList).length = s.size := by rw [foldL, List.length_map, HL.o]
      rw [hall] at hh
      have hv := run_convert_bytes_back (P := Tryz.prog) wr 275 9 5 ⟨w.heap.size, 0, none⟩ cap (foldL s.data.toList) Tryz.underlying275 Tryz.underlying5 Tryz.underlying9 (fun j hj => by
        have := hr.at_ j (hh.o j hj)
        rw [bt_list _ j hj] at this
        have hp : (⟨w.heap.size, 0, none⟩ : Addr).add j = ⟨w.heap.size, j, none⟩ := by unfold Addr.add; split <;> simp_all
        rw [hp]; exact this)
      rw [hlen] at hv
      clear hall hlen
      go_wp2
      go_ret
      exact ⟨rfl, hb⟩

end Go.Proofs.YtfacfdjapjhpeaaGreatDoor
namespace Go.Proofs.YtfacfdjapjhpeaaGreatDoor
open Go.Shelf
def laysM144_ren : Go.Shelf.Ren := ⟨fun | 144 => 282 | 143 => 285 | 219 => 200 | 217 => 221 | 225 => 222 | 224 => 223 | 267 => 224 | 266 => 239 | 314 => 240 | n => n, fun | 9 => 9 | 4 => 4 | 3 => 3 | 5 => 5 | 46 => 205 | 146 => 308 | 51 => 267 | n => n, fun | 1 => 0 | n => n⟩
theorem laysM144 : Go.Proofs.LaysM.n144 Tryz.prog laysM144_ren := {
  mixed := by kernel_rfl
  f143 := Tryz.func285.trans (congrArg some (by kernel_rfl))
  f144 := Tryz.func282.trans (congrArg some (by kernel_rfl))
  f217 := Tryz.func221.trans (congrArg some (by kernel_rfl))
  f219 := Tryz.func200.trans (congrArg some (by kernel_rfl))
  f224 := Tryz.func223.trans (congrArg some (by kernel_rfl))
  f225 := Tryz.func222.trans (congrArg some (by kernel_rfl))
  f266 := Tryz.func239.trans (congrArg some (by kernel_rfl))
  f267 := Tryz.func224.trans (congrArg some (by kernel_rfl))
  f314 := Tryz.func240.trans (congrArg some (by kernel_rfl))
  t3 := Tryz.underlying3
  a3 := Tryz.isAgg3
  z3 := Tryz.sizeOf3
  v3 := Tryz.zeroValue3
  t4 := Tryz.underlying4
  a4 := Tryz.isAgg4
  z4 := Tryz.sizeOf4
  v4 := Tryz.zeroValue4
  t5 := Tryz.underlying5
  a5 := Tryz.isAgg5
  z5 := Tryz.sizeOf5
  v5 := Tryz.zeroValue5
  t9 := Tryz.underlying9
  a9 := Tryz.isAgg9
  z9 := Tryz.sizeOf9
  v9 := Tryz.zeroValue9
  t46 := Tryz.underlying205
  a46 := Tryz.isAgg205
  z46 := Tryz.sizeOf205
  v46 := Tryz.zeroValue205
  t51 := Tryz.underlying267
  a51 := Tryz.isAgg267
  z51 := Tryz.sizeOf267
  v51 := Tryz.zeroValue267
  t146 := Tryz.underlying308
  a146 := Tryz.isAgg308
  z146 := Tryz.sizeOf308
  v146 := Tryz.zeroValue308
  g1 := by kernel_rfl
  i3 := by kernel_rfl
  i4 := by kernel_rfl
  i5 := by kernel_rfl
  i9 := by kernel_rfl
  i46 := by kernel_rfl
  i51 := by kernel_rfl
  i146 := by kernel_rfl
  m1 := by kernel_rfl
  s1_3 := fun w h => Go.Proofs.cell_of_shapedOpen_int (zero := #[.int .i64 0]) (t := 3) h (of_decide_eq_true (by kernel_rfl)) (by kernel_rfl) rfl (by kernel_rfl) (by kernel_rfl) Tryz.underlying3 }
def laysM145_ren : Go.Shelf.Ren := ⟨fun | 145 => 157 | 220 => 178 | 219 => 200 | 217 => 221 | 225 => 222 | 224 => 223 | 267 => 224 | 266 => 239 | 314 => 240 | n => n, fun | 9 => 9 | 4 => 4 | 59 => 236 | 3 => 3 | 5 => 5 | 46 => 205 | 146 => 308 | 51 => 267 | n => n, fun | 1 => 0 | n => n⟩
theorem laysM145 : Go.Proofs.LaysM.n145 Tryz.prog laysM145_ren := {
  mixed := by kernel_rfl
  f145 := Tryz.func157.trans (congrArg some (by kernel_rfl))
  f217 := Tryz.func221.trans (congrArg some (by kernel_rfl))
  f219 := Tryz.func200.trans (congrArg some (by kernel_rfl))
  f220 := Tryz.func178.trans (congrArg some (by kernel_rfl))
  f224 := Tryz.func223.trans (congrArg some (by kernel_rfl))
  f225 := Tryz.func222.trans (congrArg some (by kernel_rfl))
  f266 := Tryz.func239.trans (congrArg some (by kernel_rfl))
  f267 := Tryz.func224.trans (congrArg some (by kernel_rfl))
  f314 := Tryz.func240.trans (congrArg some (by kernel_rfl))
  t3 := Tryz.underlying3
  a3 := Tryz.isAgg3
  z3 := Tryz.sizeOf3
  v3 := Tryz.zeroValue3
  t4 := Tryz.underlying4
  a4 := Tryz.isAgg4
  z4 := Tryz.sizeOf4
  v4 := Tryz.zeroValue4
  t5 := Tryz.underlying5
  a5 := Tryz.isAgg5
  z5 := Tryz.sizeOf5
  v5 := Tryz.zeroValue5
  t9 := Tryz.underlying9
  a9 := Tryz.isAgg9
  z9 := Tryz.sizeOf9
  v9 := Tryz.zeroValue9
  t46 := Tryz.underlying205
  a46 := Tryz.isAgg205
  z46 := Tryz.sizeOf205
  v46 := Tryz.zeroValue205
  t51 := Tryz.underlying267
  a51 := Tryz.isAgg267
  z51 := Tryz.sizeOf267
  v51 := Tryz.zeroValue267
  t59 := Tryz.underlying236
  a59 := Tryz.isAgg236
  z59 := Tryz.sizeOf236
  v59 := Tryz.zeroValue236
  t146 := Tryz.underlying308
  a146 := Tryz.isAgg308
  z146 := Tryz.sizeOf308
  v146 := Tryz.zeroValue308
  g1 := by kernel_rfl
  i3 := by kernel_rfl
  i4 := by kernel_rfl
  i5 := by kernel_rfl
  i9 := by kernel_rfl
  i46 := by kernel_rfl
  i51 := by kernel_rfl
  i59 := by kernel_rfl
  i146 := by kernel_rfl
  m1 := by kernel_rfl
  s1_3 := fun w h => Go.Proofs.cell_of_shapedOpen_int (zero := #[.int .i64 0]) (t := 3) h (of_decide_eq_true (by kernel_rfl)) (by kernel_rfl) rfl (by kernel_rfl) (by kernel_rfl) Tryz.underlying3 }
def laysM146_ren : Go.Shelf.Ren := ⟨fun | 146 => 275 | 221 => 283 | 268 => 286 | 138 => 287 | 143 => 285 | 195 => 289 | 197 => 290 | 218 => 291 | 219 => 200 | 260 => 296 | 217 => 221 | 225 => 222 | 224 => 223 | 267 => 224 | 266 => 239 | 314 => 240 | n => n, fun | 9 => 9 | 31 => 69 | 3 => 3 | 4 => 4 | 0 => 0 | 105 => 336 | 21 => 21 | 5 => 5 | 46 => 205 | 119 => 321 | 139 => 324 | 138 => 323 | 146 => 308 | 51 => 267 | n => n, fun | 1 => 0 | 3 => 1 | 4 => 2 | n => n⟩
theorem laysM146 : Go.Proofs.LaysM.n146 Tryz.prog laysM146_ren := {
  mixed := by kernel_rfl
  f138 := Tryz.func287.trans (congrArg some (by kernel_rfl))
  f143 := Tryz.func285.trans (congrArg some (by kernel_rfl))
  f146 := Tryz.func275.trans (congrArg some (by kernel_rfl))
  f195 := Tryz.func289.trans (congrArg some (by kernel_rfl))
  f197 := Tryz.func290.trans (congrArg some (by kernel_rfl))
  f217 := Tryz.func221.trans (congrArg some (by kernel_rfl))
  f218 := Tryz.func291.trans (congrArg some (by kernel_rfl))
  f219 := Tryz.func200.trans (congrArg some (by kernel_rfl))
  f221 := Tryz.func283.trans (congrArg some (by kernel_rfl))
  f224 := Tryz.func223.trans (congrArg some (by kernel_rfl))
  f225 := Tryz.func222.trans (congrArg some (by kernel_rfl))
  f260 := Tryz.func296.trans (congrArg some (by kernel_rfl))
  f266 := Tryz.func239.trans (congrArg some (by kernel_rfl))
  f267 := Tryz.func224.trans (congrArg some (by kernel_rfl))
  f268 := Tryz.func286.trans (congrArg some (by kernel_rfl))
  f314 := Tryz.func240.trans (congrArg some (by kernel_rfl))
  t0 := Tryz.underlying0
  a0 := Tryz.isAgg0
  z0 := Tryz.sizeOf0
  v0 := Tryz.zeroValue0
  t3 := Tryz.underlying3
  a3 := Tryz.isAgg3
  z3 := Tryz.sizeOf3
  v3 := Tryz.zeroValue3
  t4 := Tryz.underlying4
  a4 := Tryz.isAgg4
  z4 := Tryz.sizeOf4
  v4 := Tryz.zeroValue4
  t5 := Tryz.underlying5
  a5 := Tryz.isAgg5
  z5 := Tryz.sizeOf5
  v5 := Tryz.zeroValue5
  t9 := Tryz.underlying9
  a9 := Tryz.isAgg9
  z9 := Tryz.sizeOf9
  v9 := Tryz.zeroValue9
  t21 := Tryz.underlying21
  a21 := Tryz.isAgg21
  z21 := Tryz.sizeOf21
  v21 := Tryz.zeroValue21
  t31 := Tryz.underlying69
  a31 := Tryz.isAgg69
  z31 := Tryz.sizeOf69
  v31 := Tryz.zeroValue69
  t46 := Tryz.underlying205
  a46 := Tryz.isAgg205
  z46 := Tryz.sizeOf205
  v46 := Tryz.zeroValue205
  t51 := Tryz.underlying267
  a51 := Tryz.isAgg267
  z51 := Tryz.sizeOf267
  v51 := Tryz.zeroValue267
  t105 := Tryz.underlying336
  a105 := Tryz.isAgg336
  z105 := Tryz.sizeOf336
  v105 := Tryz.zeroValue336
  t119 := Tryz.underlying321
  a119 := Tryz.isAgg321
  z119 := Tryz.sizeOf321
  t138 := Tryz.underlying323
  a138 := Tryz.isAgg323
  z138 := Tryz.sizeOf323
  v138 := Tryz.zeroValue323
  t139 := Tryz.underlying324
  a139 := Tryz.isAgg324
  z139 := Tryz.sizeOf324
  v139 := Tryz.zeroValue324
  t146 := Tryz.underlying308
  a146 := Tryz.isAgg308
  z146 := Tryz.sizeOf308
  v146 := Tryz.zeroValue308
  g1 := by kernel_rfl
  g3 := by kernel_rfl
  g4 := by kernel_rfl
  i0 := by kernel_rfl
  i3 := by kernel_rfl
  i4 := by kernel_rfl
  i5 := by kernel_rfl
  i9 := by kernel_rfl
  i21 := by kernel_rfl
  i31 := by kernel_rfl
  i46 := by kernel_rfl
  i51 := by kernel_rfl
  i105 := by kernel_rfl
  i138 := by kernel_rfl
  i139 := by kernel_rfl
  i146 := by kernel_rfl
  m1 := by kernel_rfl
  s1_3 := fun w h => Go.Proofs.cell_of_shapedOpen_int (zero := #[.int .i64 0]) (t := 3) h (of_decide_eq_true (by kernel_rfl)) (by kernel_rfl) rfl (by kernel_rfl) (by kernel_rfl) Tryz.underlying3
  m3 := by kernel_rfl
  m4 := by kernel_rfl }
def lays149_ren : Go.Shelf.Ren := ⟨fun | 149 => 242 | 222 => 262 | n => n, fun | 9 => 9 | 5 => 5 | 3 => 3 | 4 => 4 | n => n, fun | n => n⟩
theorem lays149 : Go.Proofs.Lays.n149 Tryz.prog lays149_ren := {
  mixed := by kernel_rfl
  f149 := Tryz.func242.trans (congrArg some (by kernel_rfl))
  f222 := Tryz.func262.trans (congrArg some (by kernel_rfl))
  t3 := Tryz.underlying3
  a3 := Tryz.isAgg3
  z3 := Tryz.sizeOf3
  v3 := Tryz.zeroValue3
  t4 := Tryz.underlying4
  a4 := Tryz.isAgg4
  z4 := Tryz.sizeOf4
  v4 := Tryz.zeroValue4
  t5 := Tryz.underlying5
  a5 := Tryz.isAgg5
  z5 := Tryz.sizeOf5
  v5 := Tryz.zeroValue5
  t9 := Tryz.underlying9
  a9 := Tryz.isAgg9
  z9 := Tryz.sizeOf9
  v9 := Tryz.zeroValue9 }
def lays196_ren : Go.Shelf.Ren := ⟨fun | 196 => 245 | 259 => 264 | n => n, fun | 9 => 9 | 4 => 4 | 3 => 3 | 5 => 5 | 12 => 12 | 119 => 321 | 0 => 0 | 46 => 205 | 139 => 324 | 138 => 323 | 53 => 168 | n => n, fun | 3 => 1 | 4 => 2 | n => n⟩
theorem lays196 : Go.Proofs.Lays.n196 Tryz.prog lays196_ren := {
  mixed := by kernel_rfl
  f196 := Tryz.func245.trans (congrArg some (by kernel_rfl))
  f259 := Tryz.func264.trans (congrArg some (by kernel_rfl))
  t0 := Tryz.underlying0
  a0 := Tryz.isAgg0
  z0 := Tryz.sizeOf0
  v0 := Tryz.zeroValue0
  t3 := Tryz.underlying3
  a3 := Tryz.isAgg3
  z3 := Tryz.sizeOf3
  v3 := Tryz.zeroValue3
  t4 := Tryz.underlying4
  a4 := Tryz.isAgg4
  z4 := Tryz.sizeOf4
  v4 := Tryz.zeroValue4
  t5 := Tryz.underlying5
  a5 := Tryz.isAgg5
  z5 := Tryz.sizeOf5
  v5 := Tryz.zeroValue5
  t9 := Tryz.underlying9
  a9 := Tryz.isAgg9
  z9 := Tryz.sizeOf9
  v9 := Tryz.zeroValue9
  t12 := Tryz.underlying12
  a12 := Tryz.isAgg12
  z12 := Tryz.sizeOf12
  v12 := Tryz.zeroValue12
  t46 := Tryz.underlying205
  a46 := Tryz.isAgg205
  z46 := Tryz.sizeOf205
  v46 := Tryz.zeroValue205
  t53 := Tryz.underlying168
  a53 := Tryz.isAgg168
  z53 := Tryz.sizeOf168
  v53 := Tryz.zeroValue168
  t119 := Tryz.underlying321
  a119 := Tryz.isAgg321
  z119 := Tryz.sizeOf321
  t138 := Tryz.underlying323
  a138 := Tryz.isAgg323
  z138 := Tryz.sizeOf323
  v138 := Tryz.zeroValue323
  t139 := Tryz.underlying324
  a139 := Tryz.isAgg324
  z139 := Tryz.sizeOf324
  v139 := Tryz.zeroValue324
  g3 := by kernel_rfl
  g4 := by kernel_rfl }
end Go.Proofs.YtfacfdjapjhpeaaGreatDoor
namespace Go.Proofs.YtfacfdjapjhpeaaGreatDoor
open Go.RowKit

theorem Chg.setRow {S : Nat → Prop} {a w : World} (h : Chg S a w) {g : Nat} (hp : S g ∨ a.heap.size ≤ g) (cs : Array Value) : Chg S a (w.setRow g cs) :=
  h.trans (S1 := One g) ⟨rfl, rfl, rfl, by simp [World.setRow], fun k _ hk => setRow_other w g k cs hk⟩ (fun k hk => by cases hk; exact hp)
theorem Blk.setRow {w : World} {g : Nat} {t : TypeId} {cs : Array Value} (h : Blk w g t cs) (cs' : Array Value) : Blk (w.setRow g cs') g t cs' := setRow_heap w g cs cs' t (0, 0) h
theorem Blk.setRow_far {w : World} {g g' : Nat} {t : TypeId} {cs : Array Value} (h : Blk w g t cs) (hn : g ≠ g') (cs' : Array Value) : Blk (w.setRow g' cs') g t cs := (setRow_other w g' g cs' hn).trans h

/-- append WHERE THERE IS ROOM, as one step of a region that draws, told by the whole row. -/
theorem step_append_row {P : Program} {ops : Array Oper} {o : Oper} {a : Act} {w : World} {K : Act → World → Prop} {Q : Exit → Act → World → Prop} {E : Prop}
    (hg : o.guard = none) (s x : Operand) (t : TypeId) (hop : o.op = Op.call { callee := Callee.builtin Builtin.append, args := #[s, x], argTypes := #[t, t] })
    (e : TypeId) (i : TypeInfo) (size : Nat) (h1 : P.underlying t = some (.slice e)) (h2 : P.info? e = some i) (h4 : i.size = size)
    (g n cap : Nat) (cur : Array Value) (hb : Blk w g e cur) (hs : a.eval s = .slice (some ⟨g, 0, none⟩) n cap)
    (ad : Addr) (m c : Nat) (news : List Value) (hx : a.eval x = .slice (some ad) m c) (hn : news.length = m * size) (hc : ∀ j u, news[j]? = some u → w.cell? (ad.add j) = some u) (h1c : ∀ u ∈ news, u.oneCell' = true)
    (hroom : n + m ≤ cap) (hfit : n * size + news.length ≤ cur.size)
    (hK : K (a.put o.dst (.slice (some ⟨g, 0, none⟩) (n + m) cap)) (w.setRow g (cur.toList.take (n * size) ++ news ++ cur.toList.drop (n * size + news.length)).toArray)) :
    if Region.wanted o (yielded ops a.tmps) = true then Oper.wp P o a w K Q else E := by
  have hw : Region.wanted o (yielded ops a.tmps) = true := by simp [Region.wanted, hg]
  rw [if_pos hw]
  subst h4
  have hrun := run_append_room (P := P) w t o.type e i h1 h2 g n cap cur hb ad m c news hn hc h1c hroom hfit
  unfold Oper.wp
  simp only [List.append_assoc] at hK
  simp [execOp, hop, resolve, invoke, builtin, hs, hx, hrun, Result.andThen]
  exact hK

theorem zeroCells_one (zs : List Value) (h0 : 0 < zs.length) : (Builtin.zeroCells zs.toArray 1).toList = zs := by
  apply List.ext_getElem
  · simp [Builtin.zeroCells]
  · intro i h1 h2
    simp [Builtin.zeroCells, Nat.mod_eq_of_lt h2, h2]

/-- 'clear(s)', s of one element of several cells. -/
theorem run_clear_one {P : Program} (w : World) (t e ty : TypeId) (z : Value) (zs : List Value) (ht : P.underlying t = some (.slice e)) (hv : ∀ w, (zeroValue e).run P w = .ok z w) (hz : z.cells = zs.toArray) (h0 : 0 < zs.length) (h1 : ∀ v ∈ zs, v.oneCell' = true)
    (g o c : Nat) (cur : Array Value) (hb : Blk w g e cur) (hl : o + zs.length ≤ cur.size) :
    (Builtin.clear_ #[t] ty #[.slice (some ⟨g, o, none⟩) 1 c]).run P w = .ok (.tuple #[]) (w.setRow g (cur.toList.take o ++ zs ++ cur.toList.drop (o + zs.length)).toArray) := by
  have hst := run_storeCells_at P g o e zs 0 cur w hb (by simpa using hl) h1
  simp only [Nat.add_zero] at hst
  have hzc := zeroCells_one zs h0
  simp [Builtin.clear_, run_underlying ht, hv, hz, hzc, hst]

/-- append of at least one element onto an owned row: where it lies then. -/
theorem run_append_row {P : Program} (w : World) (S : Nat → Prop) (t ty e : TypeId) (i : TypeInfo) (z : Value) (size bytes : Nat) (ht : P.underlying t = some (.slice e)) (hi : P.info? e = some i) (hz : i.zero = some z)
    (hsize : i.size = size) (hby : i.bytes = bytes) (hzs : z.cells.size = size) (A : Option Addr) (n cap : Nat) (xs : List Value) (hr : Row w S e size A n cap xs)
    (a : Addr) (m c : Nat) (news : List Value) (hl : news.length = m * size) (hnews : ∀ j u, news[j]? = some u → w.cell? (a.add j) = some u) (h1 : ∀ u ∈ news, u.oneCell' = true)
    (h0 : 0 < m) (h63 : n + m ≤ maxLen) (hbytes : (n + m) * bytes ≤ 140737488355328) :
    ∃ A' c' w', (Builtin.append_ #[t, t] ty #[.slice A n cap, .slice (some a) m c]).run P w = .ok (.slice A' (n + m) c') w' ∧ Row w' (Plus S w.heap.size) e size A' (n + m) c' (xs ++ news) ∧ Chg S w w' := by
  subst hsize
  subst hby
  have hsmall : n + m ≤ 9223372036854775807 := by simp only [maxLen] at h63; omega
  have hlen : (xs ++ news).length = (n + m) * i.size := by rw [List.length_append, hr.len, hl, Nat.add_mul]
  have grown : ∀ (old : Nat),
      Row (w.drew.alloc (.cells (xs.toArray ++ news.toArray ++ Builtin.zeroCells z.cells (grownCap w (n + m) old e - (n + m))) e)) (Plus S w.heap.size) e i.size (some ⟨w.heap.size, 0, none⟩) (n + m) (grownCap w (n + m) old e) (xs ++ news) ∧
      Chg S w (w.drew.alloc (.cells (xs.toArray ++ news.toArray ++ Builtin.zeroCells z.cells (grownCap w (n + m) old e - (n + m))) e)) := by
    intro old
    have hge := grownCap_ge w (n + m) old e
    have hcm : grownCap w (n + m) old e ≤ maxLen := grownCap_le_maxLen w (n + m) old e h63
    refine ⟨Row.of_block (Blk.new w.drew e _) (.inr (Nat.le_refl _)) hge hcm ?_ ?_ hlen, (Chg.refl S w).drew.alloc _⟩
    · simp only [Array.size_append, List.size_toArray, size_zeroCells, hzs, hr.len, hl, ← Nat.add_mul]
      congr 1
      omega
    · simp only [Array.toList_append, List.append_assoc]
      rw [← List.append_assoc, ← hlen]
      exact List.take_left
  cases A with
  | none =>
    obtain ⟨rfl, rfl, rfl⟩ := hr.none_
    have hrun := run_append_nil (P := P) (w := w) t ty e i z ht hi hz a m c news hl hnews h0 (by omega) (by have hb := hbytes; simp only [Nat.zero_add] at hb; omega)
    have hgr := grown 0
    simp only [Nat.zero_add, List.nil_append, Array.empty_append] at hgr ⊢
    exact ⟨_, _, _, hrun, hgr.1, hgr.2⟩
  | some ad =>
    obtain ⟨g, cur, rfl, hS, hb, hnc, hcm, hcs, htake⟩ := hr.block rfl
    by_cases hroom : n + m ≤ cap
    · have hfit : n * i.size + news.length ≤ cur.size := by rw [hl, hcs, ← Nat.add_mul]; exact Nat.mul_le_mul_right _ hroom
      have hrun := run_append_room (P := P) w t ty e i ht hi g n cap cur hb a m c news hl hnews h1 hroom hfit
      refine ⟨_, _, _, hrun, Row.of_block (hb.setRow _) (.inl hS) hroom hcm ?_ ?_ hlen, (Chg.refl S w).setRow (.inl hS) _⟩
      · simp only [List.size_toArray, List.length_append, List.length_take, List.length_drop, Array.length_toList]
        omega
      · rw [htake, ← hlen]
        exact List.take_left
    · have holds : ∀ j u, xs[j]? = some u → w.cell? ((⟨g, 0, none⟩ : Addr).add j) = some u := hr.own.cells (g := g) rfl
      have hrun := run_append_grow (P := P) (w := w) t ty e i z ht hi hz ⟨g, 0, none⟩ n cap xs hr.len holds a m c news hl hnews (by omega) (by omega) (growslice_fits (by omega) hbytes)
      have hgr := grown cap
      exact ⟨_, _, _, hrun, hgr.1, hgr.2⟩

/-- The same as a step of the walk. -/
theorem wpList_append_row {P : Program} {w : World} {Q : Exit → Act → World → Prop} {a : Act} {ops : Array Oper} {rest : List Oper} {o : Oper} (hgd : o.guard = none) (s x : Operand) (t : TypeId)
    (ho : o.op = .call { callee := .builtin .append, args := #[s, x], argTypes := #[t, t] })
    (S : Nat → Prop) (e : TypeId) (i : TypeInfo) (z : Value) (size bytes : Nat) (ht : P.underlying t = some (.slice e)) (hi : P.info? e = some i) (hz : i.zero = some z)
    (hsize : i.size = size) (hby : i.bytes = bytes) (hzs : z.cells.size = size) (A : Option Addr) (n cap : Nat) (xs : List Value) (hs : a.eval s = .slice A n cap) (hr : Row w S e size A n cap xs)
    (ad : Addr) (m c : Nat) (news : List Value) (hx : a.eval x = .slice (some ad) m c) (hl : news.length = m * size) (hnews : ∀ j u, news[j]? = some u → w.cell? (ad.add j) = some u) (h1 : ∀ u ∈ news, u.oneCell' = true)
    (h0 : 0 < m) (h63 : n + m ≤ maxLen) (hbytes : (n + m) * bytes ≤ 140737488355328)
    (h : ∀ A' c' w', Row w' (Plus S w.heap.size) e size A' (n + m) c' (xs ++ news) → Chg S w w' → wpList P ops Q rest (a.put o.dst (.slice A' (n + m) c')) w') : wpList P ops Q (o :: rest) a w :=
  wpList_plain hgd fun K hK => by
    obtain ⟨A', c', w', hrun, h2, h3⟩ := run_append_row (P := P) w S t o.type e i z size bytes ht hi hz hsize hby hzs A n cap xs hr ad m c news hl hnews h1 h0 h63 hbytes
    unfold Oper.wp execOp
    simp only [ho, resolve, invoke, builtin, Sem.run_bind, Sem.run_pure, Result.andThen_ok, List.map_toArray, List.map_cons, List.map_nil, hs, hx, hrun]
    exact hK _ _ (h A' c' w' h2 h3)

/-- The row behind a delete, as lists: p cells stand ahead, k cells go, q + k cells there were. -/
theorem del_list (cur xs news z : List Value) (p k q : Nat) (hx : cur.take (q + k) = xs) (hl : q + k ≤ cur.length) (hp : p ≤ q) (hn : news = xs.drop (p + k)) :
    ((cur.take p ++ news ++ cur.drop (p + news.length)).take q ++ z ++ (cur.take p ++ news ++ cur.drop (p + news.length)).drop (q + z.length)).take q = xs.take p ++ xs.drop (p + k) := by
  have hxl : xs.length = q + k := by rw [← hx, List.length_take]; omega
  have hnl : news.length = q - p := by rw [hn, List.length_drop, hxl]; omega
  have h1 : (cur.take p ++ news).length = q := by rw [List.length_append, List.length_take, hnl]; omega
  rw [List.take_append_of_le_length (l₁ := cur.take p ++ news) (by omega), List.take_of_length_le (l := cur.take p ++ news) (by omega), List.append_assoc _ z, List.take_append_of_le_length (by omega), List.take_of_length_le (by omega), hn, ← hx, List.take_take, show min p (q + k) = p by omega]

end Go.Proofs.YtfacfdjapjhpeaaGreatDoor
namespace Go.Proofs.YtfacfdjapjhpeaaGreatDoor
open Go.RowKit

/-- The tables that the library reads. -/
def Tbl (w : World) : Prop := Lib.Utf8Tabs 1 2 w ∧ ∃ m, w.cell? ⟨0, 0, none⟩ = some (.int .i64 m)
theorem lt_of_cell {w : World} {a : Addr} {v : Value} (h : w.cell? a = some v) : a.block < w.heap.size := by
  rcases Nat.lt_or_ge a.block w.heap.size with h' | h'
  · exact h'
  · simp [World.cell?, Array.getElem?_eq_none h'] at h
theorem Tbl.below {w w' : World} (h : Tbl w) (hb : Below w.heap.size w w') : Tbl w' :=
  ⟨Utf8Tabs_below h.1 hb, let ⟨m, hm⟩ := h.2; ⟨m, (hb.cell (lt_of_cell hm)).trans hm⟩⟩
theorem valid_calls (s : ByteArray) (hs : s.size ≤ 9223372036854775807) (w : World) (ht : Tbl w) : Calls Tryz.prog 245 #[.string s] w fun e w' => e = .returned (.bool (Lib.validD s.data.toList)) ∧ Below w.heap.size w w' :=
  Any.utf8_ValidString lays196 s w hs ht.1
theorem retTE {a b : ByteArray} {x y : Int} (h : a = b) (k : x = y) : Ending.returned (.tuple #[.string a, .int .i64 x]) = .returned (.tuple #[.string b, .int .i64 y]) := by rw [h, k]
theorem u8Info : (Tryz.prog.info? 5).map (fun i => (i.zero, i.size, i.bytes)) = some (some (.int .u8 0), 1, 1) := by kernel_rfl

theorem cells_at {w : World} {g : Nat} {t : TypeId} {cs : Array Value} {l : List Value} (hb : Blk w g t cs) (hl : cs.toList = l) : ∀ j u, l[j]? = some u → w.cell? ((⟨g, 0, none⟩ : Addr).add j) = some u := by
  intro j u hu
  rw [Addr.add_lit, Nat.zero_add, hb.cell, ← hu, ← hl]
  simp

def enc8 (l : List UInt8) : List Value := l.map fun c => .int .u8 c.toNat
theorem enc8_get (l : List UInt8) (j : Nat) (h : j < l.length) : (enc8 l)[j]? = some (.int .u8 (bt l j)) := by
  rw [bt_list l j h]; simp [enc8, h]
theorem enc8_snoc (l : List UInt8) (c : UInt8) : enc8 (l ++ [c]) = enc8 l ++ [.int .u8 c.toNat] := by simp [enc8]
theorem scanF_fuel : ∀ (n m : Nat) (l : List UInt8), l.length ≤ n → l.length ≤ m → scanF n l = scanF m l
  | 0, m, l, h, _ => by
    have : l = [] := List.eq_nil_of_length_eq_zero (by omega)
    subst this
    cases m <;> simp [scanF]
  | n + 1, 0, l, _, h => by
    have : l = [] := List.eq_nil_of_length_eq_zero (by omega)
    subst this
    simp [scanF]
  | n + 1, m + 1, l, h, k => by
    rw [scanF, scanF]
    by_cases hl : l = []
    · rw [if_pos hl, if_pos hl]
    · rw [if_neg hl, if_neg hl]
      by_cases hb : sgn l = 0 ∨ okC (bt l 0) = false
      · rw [if_pos hb, if_pos hb]
      · rw [if_neg hb, if_neg hb]
        exact scanF_fuel n m _ (by rw [List.length_drop]; omega) (by rw [List.length_drop]; omega)
def scanB (l : List UInt8) : Bool := scanF l.length l
theorem scanB_clean (l : List UInt8) : scanB l = cleanB l := scan_valid l
theorem scanB_step (l : List UInt8) (h : l ≠ []) : scanB l = if sgn l = 0 ∨ okC (bt l 0) = false then false else scanB (l.drop (sgn l)) := by
  unfold scanB
  cases l with
  | nil => exact absurd rfl h
  | cons b t =>
    show scanF (t.length + 1) (b :: t) = _
    rw [scanF, if_neg h]
    by_cases hb : sgn (b :: t) = 0 ∨ okC (bt (b :: t) 0) = false
    · rw [if_pos hb, if_pos hb]
    · rw [if_neg hb, if_neg hb]
      exact scanF_fuel _ _ _ (by rw [List.length_drop, List.length_cons]; omega) (Nat.le_refl _)
theorem cleanB_no (l : List UInt8) (h : cleanB l = false) : cleanT l = [] ∧ cleanE l = 1 := by simp [cleanT, cleanE, h]
theorem cleanB_0 (l : List UInt8) (h : cleanB l = true) (k : sqz l = []) : cleanT l = [] ∧ cleanE l = 14 := by simp [cleanT, cleanE, h, k]
theorem cleanB_64 (l : List UInt8) (h : cleanB l = true) (k : 64 < (sqz l).length) : cleanT l = [] ∧ cleanE l = 2 := by
  have : sqz l ≠ [] := fun e => by rw [e] at k; simp at k
  simp [cleanT, cleanE, h, k, this]
theorem cleanB_ok (l : List UInt8) (h : cleanB l = true) (k : (sqz l).length ≤ 64) (k0 : 0 < (sqz l).length) : cleanT l = sqz l ∧ cleanE l = 0 := by
  have : sqz l ≠ [] := fun e => by rw [e] at k0; simp at k0
  simp [cleanT, cleanE, h, this, show ¬ 64 < (sqz l).length by omega]
theorem okB_all (s : ByteArray) (h : ∀ j, j < s.size → okC (bt s.data.toList j) = true) : s.data.toList.all okB = true := by
  rw [List.all_eq_true]
  intro c hc
  obtain ⟨i, hi, e⟩ := mem_bt hc
  have := h i (by simpa using hi)
  rw [e] at this
  exact this
theorem okB_bad (s : ByteArray) (k : Nat) (hk : k < s.size) (h : okC s[k].toNat = false) : s.data.toList.all okB = false := by
  rw [List.all_eq_false]
  have hl : k < s.data.toList.length := by simpa using hk
  refine ⟨s.data.toList[k], List.getElem_mem hl, ?_⟩
  have e := bt_list _ k hl
  rw [bt_self s k hk] at e
  unfold okB
  rw [← e, h]
  exact Bool.false_ne_true
theorem last_of {O : List UInt8} {m : Nat} (h : O.length = m + 1) : O.getLast? = some 32 ↔ bt O m = 32 := by
  have hm : m < O.length := by omega
  rw [List.getLast?_eq_getElem?, h, Nat.add_sub_cancel, bt_list O m hm, List.getElem?_eq_getElem hm]
  constructor
  · intro e; injection e with e; rw [e]; rfl
  · intro e; rw [show O[m] = 32 from UInt8.toNat_inj.1 e]
theorem trimE_yes {O : List UInt8} {m : Nat} (h : O.length = m + 1) (k : bt O m = 32) : trimE O = O.take m := by
  rw [trimE, if_pos ((last_of h).2 k), List.dropLast_eq_take, h, Nat.add_sub_cancel]
theorem trimE_no {O : List UInt8} {m : Nat} (h : O.length = m + 1) (k : ¬ bt O m = 32) : trimE O = O := by
  rw [trimE, if_neg (fun e => k ((last_of h).1 e))]
theorem sq_skip0 (O : List UInt8) (c : UInt8) (hc : c.toNat = 32) (h : O.length = 0) : sq O c = O := by
  rw [sq, if_pos ⟨UInt8.toNat_inj.1 hc, .inl (List.eq_nil_of_length_eq_zero h)⟩]
theorem sq_skip {O : List UInt8} {m : Nat} (c : UInt8) (hc : c.toNat = 32) (h : O.length = m + 1) (k : bt O m = 32) : sq O c = O := by
  rw [sq, if_pos ⟨UInt8.toNat_inj.1 hc, .inr ((last_of h).2 k)⟩]
theorem sq_put {O : List UInt8} {m : Nat} (c : UInt8) (h : O.length = m + 1) (k : ¬ bt O m = 32) : sq O c = O ++ [c] := by
  rw [sq, if_neg]
  rintro ⟨_, e | e⟩
  · rw [e] at h; cases h
  · exact k ((last_of h).1 e)
theorem sq_other (O : List UInt8) (c : UInt8) (hc : ¬ c.toNat = 32) : sq O c = O ++ [c] := by
  rw [sq, if_neg]
  rintro ⟨e, _⟩
  rw [e] at hc
  exact hc rfl


set_option maxRecDepth 100000 in
set_option maxHeartbeats 4000000 in
theorem clean_calls (s : ByteArray) (hs : s.size ≤ 1000000) (w : World) (ht : Tbl w) : Calls Tryz.prog 227 #[.string s] w fun e w' => e = .returned (.tuple #[.string (bs (cleanT s.data.toList)), .int .i64 (cleanE s.data.toList)]) ∧ Below w.heap.size w w' := by
  have HL := hd (show s.data.toList.length = s.size by simp)
  obtain ⟨T, hT⟩ : ∃ T, cleanT s.data.toList = T := ⟨_, rfl⟩
  obtain ⟨E, hE⟩ : ∃ E, cleanE s.data.toList = E := ⟨_, rfl⟩
  rw [hT, hE]
  have HR := hd (⟨hT.symm, hE.symm⟩ : T = cleanT s.data.toList ∧ E = cleanE s.data.toList)
  clear hT hE
  obtain ⟨i0, hi, hz0, hz1, hz2⟩ := info_parts u8Info
  have HT := hd ht
  clear ht
  go_enter Tryz.func227, Tryz.ntmps227
  go_wp2_with fail
  refine (valid_calls s (by omega) w HT.o).mono ?_
  rintro e w1 ⟨rfl, hb1⟩
  have HB1 := hd hb1
  cases hv : Lib.validD s.data.toList with
  | false =>
    have HZ := hd (cleanB_no s.data.toList (by simp [cleanB, hv]))
    clear hv
    go_wp2
    go_ret2
    exact ⟨retTE (by rw [HR.o.1, HZ.o.1]; rfl) (by rw [HR.o.2, HZ.o.2]), hb1⟩
  | true =>
    have HV := hd hv
    clear hv
    go_wp2
    go_loop [4, 13] (fun _ i => ∃ k : Nat, i = .int .i64 k ∧ k ≤ s.size ∧ Hd (∀ j, j < k → okC (bt s.data.toList j) = true)) (fun _ i => s.size - (intOf i).toNat)
    case atStart => exact ⟨0, rfl, Nat.zero_le _, fun j hj => absurd hj (Nat.not_lt_zero _)⟩
    case round =>
      obtain ⟨k, rfl, hk, hh⟩ := hrel
      by_cases hlt : k < s.size
      · have hki : (0 : Int) ≤ (k : Int) := by omega
        by_cases hc : 32 ≤ s[k].toNat ∧ s[k].toNat ≠ 127
        · have HN : Hd (∀ j, j < k + 1 → okC (bt s.data.toList j) = true) := fun j hj => by
            by_cases e : j = k
            · subst e; rw [bt_self s _ hlt]; simp [okC, hc]
            · exact hh.o j (by omega)
          obtain ⟨hc1, hc2⟩ := hc
          have n127 : ((s[k].toNat : Int) == 127) = false := by simp; omega
          clear hc2
          go_wp2
          go_round
          case rel => exact ⟨k + 1, by go_num, by omega, HN⟩
          case measure => simp [intOf]; omega
        · have HZ := hd (cleanB_no s.data.toList (by
            have := okB_bad s k hlt (by simp [okC]; omega)
            simp [cleanB, this]))
          by_cases hc1 : s[k].toNat < 32
          · clear hc
            go_wp2
            go_ret2
            exact ⟨retTE (by rw [HR.o.1, HZ.o.1]; rfl) (by rw [HR.o.2, HZ.o.2]), hb1⟩
          · have n127 : ((s[k].toNat : Int) == 127) = true := by simp; omega
            clear hc
            go_wp2
            go_ret2
            exact ⟨retTE (by rw [HR.o.1, HZ.o.1]; rfl) (by rw [HR.o.2, HZ.o.2]), hb1⟩
      · have hke : k = s.size := by omega
        subst hke
        have HCL := hd (show cleanB s.data.toList = true by simp [cleanB, HV.o, okB_all s hh.o])
        clear hb1
        go_wp2
        clear hh
        obtain ⟨wo, rfl⟩ : ∃ wo : World, wo = w1 := ⟨_, rfl⟩
        go_loopw [5, 6, 29] (fun out _ i wr => ∃ (k : Nat) (A : Option Addr) (c m : Nat) (O : List UInt8), i = .int .i64 k ∧ k ≤ s.size ∧ out = .slice A m c ∧ m ≤ k ∧ Hd ((s.data.toList.take k).foldl sq [] = O) ∧ Hd (O.length = m) ∧ Row wr (From w.heap.size) 5 1 A m c (enc8 O) ∧ Below w.heap.size w wr) (fun _ _ i _ => s.size - (intOf i).toNat)
        case atStart => exact ⟨0, none, 0, 0, [], rfl, Nat.zero_le _, rfl, Nat.le_refl _, rfl, rfl, Row.nil _ _ _ _, HB1.o⟩
        case round =>
          obtain ⟨k, A, c, m, O, rfl, hk, rfl, hm, HO, HM, hr, hbe⟩ := hrel
          have hsz := hbe.size
          have hki : (0 : Int) ≤ (k : Int) := by omega
          by_cases hlt : k < s.size
          · by_cases h32 : s[k].toNat = 32
            · have n32 : ((s[k].toNat : Int) == 32) = true := by simp; omega
              have H32 := hd h32
              clear h32
              by_cases hm0 : m = 0
              · have HM0 := hd hm0
                obtain rfl := hm0
                go_wp2_with fail
                go_roundw
                case rel => exact ⟨k + 1, A, c, 0, O, by go_num, by omega, rfl, by omega, hd (by rw [fold_take s k hlt, HO.o]; exact sq_skip0 O _ H32.o HM.o), HM, hr, hbe⟩
                case measure => simp [intOf]; omega
              · obtain ⟨m', hm'⟩ : ∃ m', m = m' + 1 := ⟨m - 1, by omega⟩
                have n0 : ((m : Int) == 0) = false := by simp; omega
                obtain ⟨g, hA, _, hg, hmc, hcm, hcell, _⟩ := hr.at_ (by omega)
                unfold maxLen at hcm
                have hlast := hcell m' _ (enc8_get O m' (by rw [HM.o]; omega))
                have e1 : (m : Int) - 1 = (m' : Int) := by omega
                have HM' := hd hm'
                have hm1 : m' < m := by omega
                have hm2 : m ≤ 1000000 := by omega
                clear hm' hcell hm0
                subst hA
                by_cases hl : bt O m' = 32
                · have HLL := hd hl
                  rw [hl] at hlast
                  clear hl
                  go_wp2_with fail
                  go_roundw
                  case rel => exact ⟨k + 1, some ⟨g, 0, none⟩, c, m, O, by go_num, by omega, rfl, by omega, hd (by rw [fold_take s k hlt, HO.o]; exact sq_skip _ H32.o (HM.o.trans HM'.o) HLL.o), HM, hr, hbe⟩
                  case measure => simp [intOf]; omega
                · have nl : ((bt O m' : Int) == 32) = false := by simp; omega
                  have HLL := hd hl
                  clear hl
                  go_wp2_with (at_builtin; go_loud (refine wpList_append_row rfl _ _ 275 rfl (Of (some ⟨g, 0, none⟩)) 5 i0 (.int .u8 0) 1 1 Tryz.underlying275 hi hz0 hz1 hz2 rfl (some ⟨g, 0, none⟩) m c (enc8 O) rfl (hr.own_.alloc _) ⟨_, 0, none⟩ 1 1 [.int .u8 (s[k].toNat : Int)] rfl rfl (cells_at (Blk.new_ _ _ (by simp) _ _) rfl) (by simp [Value.oneCell']) (by omega) (by unfold maxLen; omega) (by omega) ?_; intro A2 c2 w2 hown2 hchg2))
                  go_roundw
                  case rel =>
                    refine ⟨k + 1, A2, c2, m + 1, O ++ [s[k]], by go_num, by omega, rfl, by omega, hd (by rw [fold_take s k hlt, HO.o]; exact sq_put _ (HM.o.trans HM'.o) HLL.o), hd (by rw [List.length_append, HM.o]; rfl), ?_, ?_⟩
                    · rw [enc8_snoc]
                      refine hown2.mono fun q hq => ?_
                      rcases hq with hq | hq
                      · exact hr.of_sub q hq
                      · simp at hq; show w.heap.size ≤ q; omega
                    · exact hbe.trans ((((Chg.refl (From w.heap.size) wr).alloc _).trans hchg2 (fun q hq => .inl (hr.of_sub q hq))).below (fun _ h => h) hsz)
                  case measure => simp [intOf]; omega
            · have n32 : ((s[k].toNat : Int) == 32) = false := by simp; omega
              have H32 := hd h32
              clear h32
              go_wp2_with (at_builtin; go_loud (refine wpList_append_row rfl _ _ 275 rfl (Of A) 5 i0 (.int .u8 0) 1 1 Tryz.underlying275 hi hz0 hz1 hz2 rfl A m c (enc8 O) rfl (hr.own_.alloc _) ⟨_, 0, none⟩ 1 1 [.int .u8 (s[k].toNat : Int)] rfl rfl (cells_at (Blk.new_ _ _ (by simp) _ _) rfl) (by simp [Value.oneCell']) (by omega) (by unfold maxLen; omega) (by omega) ?_; intro A2 c2 w2 hown2 hchg2))
              go_roundw
              case rel =>
                refine ⟨k + 1, A2, c2, m + 1, O ++ [s[k]], by go_num, by omega, rfl, by omega, hd (by rw [fold_take s k hlt, HO.o]; exact sq_other O _ H32.o), hd (by rw [List.length_append, HM.o]; rfl), ?_, ?_⟩
                · rw [enc8_snoc]
                  refine hown2.mono fun q hq => ?_
                  rcases hq with hq | hq
                  · exact hr.of_sub q hq
                  · simp at hq; show w.heap.size ≤ q; omega
                · exact hbe.trans ((((Chg.refl (From w.heap.size) wr).alloc _).trans hchg2 (fun q hq => .inl (hr.of_sub q hq))).below (fun _ h => h) hsz)
              case measure => simp [intOf]; omega
          · have hke : k = s.size := by omega
            subst hke
            clear hk
            have hfold : s.data.toList.take s.size = s.data.toList := List.take_of_length_le (by rw [HL.o]; exact Nat.le_refl _)
            rw [hfold] at HO
            clear hfold
            by_cases hm0 : m = 0
            · have HZ := hd (cleanB_0 _ HCL.o (by
                have : O = [] := List.eq_nil_of_length_eq_zero (HM.o.trans hm0)
                unfold sqz
                rw [HO.o, this]; rfl))
              have HM0 := hd hm0
              obtain rfl := hm0
              go_wp2
              go_ret2
              exact ⟨retTE (by rw [HR.o.1, HZ.o.1]; rfl) (by rw [HR.o.2, HZ.o.2]), hbe⟩
            · obtain ⟨m', rfl⟩ : ∃ m', m = m' + 1 := ⟨m - 1, by omega⟩
              clear hm0
              obtain ⟨g, rfl, _, hg, hmc, hcm, hcell, _⟩ := hr.at_ (by omega)
              unfold maxLen at hcm
              have hlast := hcell m' _ (enc8_get O m' (by rw [HM.o]; omega))
              have e1 : ((m' + 1 : Nat) : Int) - 1 = (m' : Int) := by omega
              by_cases h32 : bt O m' = 32
              · have H32 := hd h32
                rw [h32] at hlast
                clear h32
                have hfin : sqz s.data.toList = O.take m' := by unfold sqz; rw [HO.o]; exact trimE_yes HM.o H32.o
                have hlen : (O.take m').length = m' := by rw [List.length_take, HM.o]; omega
                have HFN := hd hfin
                have HLN := hd hlen
                clear hfin
                have hv := run_convert_bytes_back (P := Tryz.prog) wr 275 9 5 ⟨g, 0, none⟩ c (O.take m') Tryz.underlying275 Tryz.underlying5 Tryz.underlying9 (fun j hj => by
                  have hjO : j < O.length := by rw [HLN.o] at hj; rw [HM.o]; omega
                  have := hcell j _ (enc8_get O j hjO)
                  rw [bt_list O j hjO] at this
                  have hp : (⟨g, 0, none⟩ : Addr).add j = ⟨g, j, none⟩ := by unfold Addr.add; split <;> simp_all
                  rw [hp]
                  simpa using this)
                rw [hlen] at hv
                clear hlen
                by_cases q0 : m' = 0
                · have HZ := hd (cleanB_0 _ HCL.o (by rw [HFN.o]; exact List.eq_nil_of_length_eq_zero (HLN.o.trans q0)))
                  subst q0
                  clear hv
                  go_wp2
                  go_ret2
                  exact ⟨retTE (by rw [HR.o.1, HZ.o.1]; rfl) (by rw [HR.o.2, HZ.o.2]), hbe⟩
                · have n0 : ((m' : Int) == 0) = false := by simp; omega
                  have q0p : 1 ≤ m' := by omega
                  clear q0
                  by_cases q1 : 64 < m'
                  · clear hv
                    have HZ := hd (cleanB_64 _ HCL.o (by rw [HFN.o, HLN.o]; omega))
                    go_wp2
                    go_ret2
                    exact ⟨retTE (by rw [HR.o.1, HZ.o.1]; rfl) (by rw [HR.o.2, HZ.o.2]), hbe⟩
                  · have HZ := hd (cleanB_ok _ HCL.o (by rw [HFN.o, HLN.o]; omega) (by rw [HFN.o, HLN.o]; omega))
                    go_wp2
                    go_ret2
                    exact ⟨retTE (by rw [HR.o.1, HZ.o.1, HFN.o]; rfl) (by rw [HR.o.2, HZ.o.2]), hbe⟩
              · have n32 : ((bt O m' : Int) == 32) = false := by simp; omega
                have H32 := hd h32
                clear h32
                have hfin : sqz s.data.toList = O := by unfold sqz; rw [HO.o]; exact trimE_no HM.o H32.o
                have hlen : (O).length = m' + 1 := HM.o
                have HFN := hd hfin
                have HLN := hd hlen
                clear hfin
                have hv := run_convert_bytes_back (P := Tryz.prog) wr 275 9 5 ⟨g, 0, none⟩ c (O) Tryz.underlying275 Tryz.underlying5 Tryz.underlying9 (fun j hj => by
                  have hjO : j < O.length := by rw [HLN.o] at hj; rw [HM.o]; omega
                  have := hcell j _ (enc8_get O j hjO)
                  rw [bt_list O j hjO] at this
                  have hp : (⟨g, 0, none⟩ : Addr).add j = ⟨g, j, none⟩ := by unfold Addr.add; split <;> simp_all
                  rw [hp]
                  simpa using this)
                rw [hlen] at hv
                clear hlen
                by_cases q1 : 64 < m' + 1
                · clear hv
                  have HZ := hd (cleanB_64 _ HCL.o (by rw [HFN.o, HLN.o]; omega))
                  go_wp2
                  go_ret2
                  exact ⟨retTE (by rw [HR.o.1, HZ.o.1]; rfl) (by rw [HR.o.2, HZ.o.2]), hbe⟩
                · have HZ := hd (cleanB_ok _ HCL.o (by rw [HFN.o, HLN.o]; omega) (by rw [HFN.o, HLN.o]; omega))
                  go_wp2
                  go_ret2
                  exact ⟨retTE (by rw [HR.o.1, HZ.o.1, HFN.o]; rfl) (by rw [HR.o.2, HZ.o.2]), hbe⟩

end Go.Proofs.YtfacfdjapjhpeaaGreatDoor
namespace Go.Proofs.YtfacfdjapjhpeaaGreatDoor
open Go.RowKit

theorem contains_calls (s : ByteArray) (hs : s.size ≤ 1000000000) (w : World) (ht : Tbl w) : Calls Tryz.prog 282 #[.string s, .string ⟨#[46, 46]⟩] w fun e w' => e = .returned (.bool (Lib.contains s.data.toList [46, 46])) ∧ w = w' := by
  obtain ⟨m, hm⟩ := ht.2
  exact (Any.strings_Contains { laysM144 with } s ⟨#[46, 46]⟩ m w (by omega) hm).mono fun _ _ ⟨a, b⟩ => ⟨a, b.symm⟩

set_option maxHeartbeats 4000000 in
theorem isLocal_calls (s : ByteArray) (hs : s.size ≤ 1000000000) (w : World) (ht : Tbl w) : Calls Tryz.prog 274 #[.string s] w fun e w' => e = .returned (.bool (locB s.data.toList)) ∧ w = w' := by
  have hl : s.data.toList.length = s.size := by simp
  obtain ⟨v, hv⟩ : ∃ v, locB s.data.toList = v := ⟨_, rfl⟩
  rw [hv]
  have HF := hd (fun h => hv.symm.trans (locB_f h) : ¬ LocP s.data.toList → v = false)
  have HT := hd (fun h => hv.symm.trans (locB_t h) : LocP s.data.toList → v = true)
  clear hv
  have HL := hd hl
  clear hl
  by_cases c1 : s.size < 1
  · go_enter Tryz.func274, Tryz.ntmps274
    go_wp2
    go_ret
    exact ⟨retB (HF.o (fun h => by have := h.1; rw [HL.o] at this; omega)).symm, rfl⟩
  by_cases c2 : 32 < s.size
  · go_enter Tryz.func274, Tryz.ntmps274
    go_wp2
    go_ret
    exact ⟨retB (HF.o (fun h => by have := h.2.1; rw [HL.o] at this; omega)).symm, rfl⟩
  have c3 : 0 < s.size := by omega
  have c4 : s.size - 1 < s.size := by omega
  have B0 := hd (bt_self s 0 c3)
  have B1 := hd (bt_self s (s.size - 1) c4)
  by_cases c5 : s[0].toNat = 46
  · have n5 : ((s[0].toNat : Int) == 46) = true := by simp; omega
    have H5 := hd c5
    clear c5
    go_enter Tryz.func274, Tryz.ntmps274
    go_wp2
    go_ret
    exact ⟨retB (HF.o (fun h => h.2.2.1 (B0.o.trans H5.o))).symm, rfl⟩
  have n5 : ((s[0].toNat : Int) == 46) = false := by simp; omega
  by_cases c6 : s[s.size - 1].toNat = 46
  · have n6 : ((s[s.size - 1].toNat : Int) == 46) = true := by simp; omega
    have H6 := hd c6
    clear c6 c5
    go_enter Tryz.func274, Tryz.ntmps274
    go_wp2
    go_ret
    exact ⟨retB (HF.o (fun h => h.2.2.2.1 (by rw [HL.o]; exact B1.o.trans H6.o))).symm, rfl⟩
  have n6 : ((s[s.size - 1].toNat : Int) == 46) = false := by simp; omega
  have H5 := hd c5
  have H6 := hd c6
  clear c5 c6
  have hcall := contains_calls s hs w ht
  by_cases c7 : dd s.data.toList
  · rw [(contains_dd _).2 c7] at hcall
    have HV := hd (HF.o (fun h => h.2.2.2.2.1 c7))
    have HC := hd hcall
    clear hcall c7
    go_enter Tryz.func274, Tryz.ntmps274
    go_wp2_with (go_at_call 282; refine HC.o.mono ?_; rintro e w' ⟨rfl, rfl⟩)
    go_ret
    exact ⟨retB HV.o.symm, rfl⟩
  · rw [show Lib.contains s.data.toList [46, 46] = false by
      cases hx : Lib.contains s.data.toList [46, 46] with
      | false => rfl
      | true => exact absurd ((contains_dd _).1 hx) c7] at hcall
    have H7 := hd c7
    have HC := hd hcall
    clear hcall c7
    go_enter Tryz.func274, Tryz.ntmps274
    go_wp2_with (go_at_call 282; refine HC.o.mono ?_; rintro e w' ⟨rfl, rfl⟩)
    go_loop [33] (fun i => ∃ k : Nat, i = .int .i64 k ∧ k ≤ s.size ∧ Hd (∀ j, j < k → locC (bt s.data.toList j))) (fun i => s.size - (intOf i).toNat)
    case atStart => exact ⟨0, rfl, Nat.zero_le _, fun j hj => absurd hj (Nat.not_lt_zero _)⟩
    case round =>
      obtain ⟨k, rfl, hk, hh⟩ := hrel
      by_cases hlt : k < s.size
      · have BK := hd (bt_self s k hlt)
        by_cases hc : locC s[k].toNat
        · have HN : Hd (∀ j, j < k + 1 → locC (bt s.data.toList j)) := fun j hj => by
            by_cases e : j = k
            · subst e; rw [BK.o]; exact hc
            · exact hh.o j (by omega)
          unfold locC at hc
          go_wp2
          all_goals first
            | (exfalso; omega)
            | (exfalso; simp only [bne_iff_ne, ne_eq, beq_iff_eq, bne_eq_false_iff_eq, beq_eq_false_iff_ne, bne_self_eq_false, Bool.false_eq_true, Bool.not_eq_false', Bool.not_eq_true', decide_eq_true_eq, decide_eq_false_iff_not] at *; omega)
            | (go_round
               case rel => exact ⟨k + 1, by go_num, by omega, HN⟩
               case measure => simp [intOf]; omega)
        · have HV := hd (HF.o (fun h => hc (by rw [← BK.o]; exact h.2.2.2.2.2 k (by rw [HL.o]; exact hlt))))
          unfold locC at hc
          have m46 : ((s[k].toNat : Int) != 46) = true := by simp; omega
          have m95 : ((s[k].toNat : Int) != 95) = true := by simp; omega
          have m43 : ((s[k].toNat : Int) != 43) = true := by simp; omega
          have m45 : ((s[k].toNat : Int) != 45) = true := by simp; omega
          go_wp2
          all_goals first
            | (exfalso; omega)
            | (exfalso; simp only [bne_iff_ne, ne_eq, beq_iff_eq, bne_eq_false_iff_eq, beq_eq_false_iff_ne, bne_self_eq_false, Bool.false_eq_true, Bool.not_eq_false', Bool.not_eq_true', decide_eq_true_eq, decide_eq_false_iff_not] at *; omega)
            | (go_ret; exact ⟨retB HV.o.symm, rfl⟩)
      · have : k = s.size := by omega
        subst this
        go_wp2
        go_ret
        exact ⟨retB (HT.o ⟨by rw [HL.o]; omega, by rw [HL.o]; omega, by rw [B0.o]; exact H5.o, by rw [HL.o, B1.o]; exact H6.o, H7.o, fun i hi => hh.o i (by rw [HL.o] at hi; exact hi)⟩).symm, rfl⟩

end Go.Proofs.YtfacfdjapjhpeaaGreatDoor
