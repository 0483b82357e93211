/-
  Fields: what the chapter's example fixes.
-/
import Derived.Test.YtpejlcaoggedfaaDoorFldR
set_option linter.unusedVariables false
set_option linter.unusedSimpArgs false
namespace Go.Proofs.YtpejlcaoggedfaaDoor
open Go.RowKit

def n0 : List UInt8 := [43, 52, 57, 51, 48, 49, 50, 51, 52, 53, 54]
def s0 : List UInt8 := [116, 101, 108, 59, 99, 101, 108, 108, 58, 43, 52, 57, 51, 48, 49, 50, 51, 52, 53, 54]
theorem n0_tel : TelP n0 := by unfold TelP; decide
theorem f0_may : MayF ⟨3, 3, n0⟩ := by
  have h := tel_self n0_tel
  refine ⟨?_, h.1⟩
  show (if okKL 3 3 then telE n0 else 1) = 0
  rw [if_pos (by decide)]
  exact h.2
theorem f0_raw : rawL ⟨3, 3, n0⟩ = s0 := rfl
theorem f0_found : Found s0 ⟨3, 3, n0⟩ := ⟨f0_may, f0_raw⟩

set_option maxRecDepth 100000 in
set_option maxHeartbeats 2000000 in
theorem ffirst_calls (w : World) (ht : Tbs w) : Calls Tryd.prog 7 #[] w fun e w' => e = .returned (.bool true) ∧ Below w.heap.size w w' := by
  have C1 := fparse_calls (bs s0) (by decide) w ht
  rw [bs_data, (par_yes f0_found).1, (par_yes f0_found).2] at C1
  have C2 := hd (fun W (h : Below w.heap.size w W) => fline_calls ⟨3, 3, n0⟩ (by decide) W (ht.below h))
  rw [line_yes f0_may, f0_raw] at C2
  have C3 := hd (fun W (h : Below w.heap.size w W) => fmay_calls ⟨3, 3, n0⟩ (by decide) W (ht.below h))
  rw [mayF_t f0_may] at C3
  simp only [fldV, fldR] at C1 C2 C3
  have H1 := hd C1
  clear C1 ht
  have hb0 : bs s0 = ⟨#[116, 101, 108, 59, 99, 101, 108, 108, 58, 43, 52, 57, 51, 48, 49, 50, 51, 52, 53, 54]⟩ := rfl
  have hb1 : bs n0 = ⟨#[43, 52, 57, 51, 48, 49, 50, 51, 52, 53, 54]⟩ := rfl
  rw [hb0, hb1] at H1
  rw [hb0, hb1] at C2
  rw [hb1] at C3
  clear hb0 hb1
  go_enter Tryd.func7, Tryd.ntmps7
  go_wp2_with fail
  refine H1.o.mono ?_
  rintro e w1 ⟨rfl, hb1⟩
  have HB1 := hd hb1
  have HBA := hd (hb1.alloc hb1.size (.cells #[.int .i64 3, .int .i64 3, .string ⟨#[43, 52, 57, 51, 48, 49, 50, 51, 52, 53, 54]⟩] 23))
  have HBOX := hd (Blk.new w1 23 #[.int .i64 3, .int .i64 3, .string ⟨#[43, 52, 57, 51, 48, 49, 50, 51, 52, 53, 54]⟩])
  clear hb1
  go_wp2_with fail
  refine (C2.o _ HBA.o).mono ?_
  rintro e w2 ⟨rfl, hb2⟩
  have HB2 := hd (HBA.o.trans (hb2.mono HBA.o.size))
  have k2 := HBOX.o.below hb2 (by simp)
  have a0 := k2.at_ 0 rfl
  have a1 := k2.at_ 1 rfl
  have a2 := k2.at_ 2 rfl
  clear k2 hb2
  go_wp2_with fail
  refine (C3.o _ HB2.o).mono ?_
  rintro e w3 ⟨rfl, hb3⟩
  have HB3 := hd (HB2.o.trans (hb3.mono HB2.o.size))
  clear a0 a1 a2 hb3
  go_wp2
  go_ret
  exact ⟨rfl, HB3.o⟩

end Go.Proofs.YtpejlcaoggedfaaDoor
