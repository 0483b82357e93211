/-
  Fields: a field's line, on both sides.
-/
import Derived.Test.YtpejlcaoggedfaaDoorFldB
import Derived.Deep.RegionHeld3
set_option linter.unusedVariables false
set_option linter.unusedSimpArgs false
namespace Go.Proofs.YtpejlcaoggedfaaDoor
open Go.RowKit

theorem kindL_len (k : Int) : (kindL k).length ≤ 4 := by
  unfold kindL
  repeat' split
  all_goals simp
theorem labL_len (l : Int) : (labL l).length ≤ 5 := by
  unfold labL
  repeat' split
  all_goals simp
theorem raw_sum (k l : Int) (v : List UInt8) : bs (kindL k) ++ bs (labL l) ++ ⟨#[58]⟩ ++ bs v = bs (rawL ⟨k, l, v⟩) := by
  have : (⟨#[58]⟩ : ByteArray) = bs [58] := rfl
  rw [this, bs_app2, bs_app2, bs_app2]
  congr 1
  simp [rawL, headL]

set_option maxRecDepth 100000 in
set_option maxHeartbeats 2000000 in
theorem fline_calls (f : Fld) (hs : f.v.length ≤ 1000000) (w : World) (ht : Tbs w) : Calls Tryd.prog 9 #[fldV f] w fun e w' => e = .returned (.string (bs (lineF f))) ∧ Below w.heap.size w w' := by
  have C1 := hd (fun W h => fmay_calls f hs W (ht.below h) : ∀ W, Below w.heap.size w W → _)
  obtain ⟨L, hL⟩ : ∃ L, lineF f = L := ⟨_, rfl⟩
  rw [hL]
  have hR := raw_sum f.k f.l f.v
  have hl1 := kindL_len f.k
  have hl2 := labL_len f.l
  rw [← bs_size] at hl1 hl2
  have hz3 : (bs f.v).size ≤ 1000000 := by rw [bs_size]; exact hs
  have HB0 := hd ((Below.refl w.heap.size w).alloc (Nat.le_refl _) (.cells #[.int .i64 f.k, .int .i64 f.l, .string (bs f.v)] 23))
  have HK := hd (Blk.new w 23 #[.int .i64 f.k, .int .i64 f.l, .string (bs f.v)])
  by_cases hm : MayF f
  · rw [mayF_t hm] at C1
    have hok := may_ok hm
    obtain ⟨hk, hl⟩ := (okKL_iff _ _).1 hok
    have C2 := label_calls f.k f.l
    have C3 := kind_calls f.k
    rw [show decide (okL f.k f.l) = true by simp [hl], show labV f.k f.l = labL f.l by rw [labV, if_pos hl]] at C2
    rw [line_yes hm] at hL
    have HL := hd hL
    obtain ⟨k, l, v⟩ := f
    simp only [fldV] at C1
    change Calls _ _ #[.agg #[.int .i64 k, .int .i64 l, .string (bs v)]] _ _
    simp only at hR hl1 hl2 hz3 HB0 HK C2 C3
    obtain ⟨K, hK⟩ : ∃ K, bs (kindL k) = K := ⟨_, rfl⟩
    obtain ⟨B, hB⟩ : ∃ B, bs (labL l) = B := ⟨_, rfl⟩
    obtain ⟨V, hV⟩ : ∃ V, bs v = V := ⟨_, rfl⟩
    rw [hK] at C3 hl1
    rw [hB] at C2 hl2
    rw [hV] at C1 hz3 HB0 HK ⊢
    rw [hK, hB, hV] at hR
    have HR := hd hR
    have H2 := hd C2
    have H3 := hd C3
    clear hK hB hV hR C2 C3 hL hm hok hk hl hs ht
    go_enter Tryd.func9, Tryd.ntmps9
    go_wp2_with fail
    refine (C1.o _ HB0.o).mono ?_
    rintro e w1 ⟨rfl, hb1⟩
    have k1 := HK.o.below hb1 (by simp)
    have HB1 := hd (HB0.o.trans (hb1.mono HB0.o.size))
    have a0 := k1.at_ 0 rfl
    have a1 := k1.at_ 1 rfl
    have a2 := k1.at_ 2 rfl
    clear k1 hb1 HK HB0 C1
    go_wp2_with fail
    refine (H2.o _).mono ?_
    rintro e w2 ⟨rfl, rfl⟩
    go_wp2_with fail
    go_quiet ((go_at_call 23; exact q1 (H3.o _)))
    go_wp2
    go_ret
    exact ⟨retS (HR.o.trans (by rw [← HL.o])), bdrewN HB1.o _⟩
  · rw [mayF_f hm] at C1
    rw [line_no hm] at hL
    have HL := hd hL
    obtain ⟨k, l, v⟩ := f
    simp only [fldV] at C1
    change Calls _ _ #[.agg #[.int .i64 k, .int .i64 l, .string (bs v)]] _ _
    simp only at HB0 HK
    clear hL hm hs ht hR hl1 hl2 hz3
    go_enter Tryd.func9, Tryd.ntmps9
    go_wp2_with fail
    refine (C1.o _ HB0.o).mono ?_
    rintro e w1 ⟨rfl, hb1⟩
    have HB1 := hd (HB0.o.trans (hb1.mono HB0.o.size))
    clear hb1 HK HB0 C1
    go_wp2
    go_ret
    exact ⟨retS (by rw [← HL.o]; rfl), HB1.o⟩

def wordsC : Array Value := #[.string ⟨#[]⟩, .string ⟨#[110, 97, 109, 101]⟩, .string ⟨#[111, 114, 103]⟩, .string ⟨#[116, 101, 108]⟩, .string ⟨#[109, 97, 105, 108]⟩, .string ⟨#[100, 97, 121]⟩, .string ⟨#[110, 111, 116, 101]⟩]
def labelsC : Array Value := #[.string ⟨#[]⟩, .string ⟨#[59, 104, 111, 109, 101]⟩, .string ⟨#[59, 119, 111, 114, 107]⟩, .string ⟨#[59, 99, 101, 108, 108]⟩]
theorem words_at (j : Nat) (h : j < 7) : wordsC[j]? = some (.string (bs (kindL j))) := by
  match j, h with
  | 0, _ => rfl
  | 1, _ => rfl
  | 2, _ => rfl
  | 3, _ => rfl
  | 4, _ => rfl
  | 5, _ => rfl
  | 6, _ => rfl
theorem labels_at (j : Nat) (h : j < 4) : labelsC[j]? = some (.string (bs (labL j))) := by
  match j, h with
  | 0, _ => rfl
  | 1, _ => rfl
  | 2, _ => rfl
  | 3, _ => rfl
theorem words_calls (w : World) : Calls Tryd.prog 32 #[] w fun e w' => e = .returned (.slice (some ⟨w.heap.size, 0, none⟩) 7 7) ∧ w.alloc (.cells wordsC 9) = w' := by
  go_enter Tryd.func32, Tryd.ntmps32
  go_wp2
  go_ret
  exact ⟨rfl, rfl⟩
theorem labels_calls (w : World) : Calls Tryd.prog 33 #[] w fun e w' => e = .returned (.slice (some ⟨w.heap.size, 0, none⟩) 4 4) ∧ w.alloc (.cells labelsC 9) = w' := by
  go_enter Tryd.func33, Tryd.ntmps33
  go_wp2
  go_ret
  exact ⟨rfl, rfl⟩

end Go.Proofs.YtpejlcaoggedfaaDoor
