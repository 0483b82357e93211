/-
  Fields: kinds, labels, cuts.
-/
import Derived.Test.YtpejlcaoggedfaaGreatDoorTelB
import Derived.Test.YtpejlcaoggedfaaGreatDoorFldP
set_option linter.unusedVariables false
set_option linter.unusedSimpArgs false
namespace Go.Proofs.YtpejlcaoggedfaaGreatDoor
open Go.RowKit

theorem retSB {a b : ByteArray} {x y : Bool} (h : a = b) (k : x = y) : Ending.returned (.tuple #[.string a, .bool x]) = .returned (.tuple #[.string b, .bool y]) := by rw [h, k]
theorem retS {a b : ByteArray} (h : a = b) : Ending.returned (.string a) = .returned (.string b) := by rw [h]
def okL (k l : Int) : Prop := l = 0 ∨ ((l = 1 ∨ l = 2) ∧ (k = 3 ∨ k = 4)) ∨ (l = 3 ∧ k = 3)
instance (k l : Int) : Decidable (okL k l) := by unfold okL; infer_instance
theorem okKL_iff (k l : Int) : okKL k l ↔ (1 ≤ k ∧ k ≤ 6) ∧ okL k l := by unfold okKL okL; constructor <;> (intro h; omega)
def labV (k l : Int) : List UInt8 := if okL k l then labL l else []
theorem kindL_ne (k : Int) : kindL k = [] ↔ ¬ (1 ≤ k ∧ k ≤ 6) := by
  unfold kindL
  repeat' split
  all_goals (simp; try omega)

theorem kind_calls (k : Int) (w : World) : Calls Tryz.prog 52 #[.int .i64 k] w fun e w' => e = .returned (.string (bs (kindL k))) ∧ w = w' := by
  by_cases hh : k = 1 ∨ k = 2 ∨ k = 3 ∨ k = 4 ∨ k = 5 ∨ k = 6
  · rcases hh with rfl | rfl | rfl | rfl | rfl | rfl
    all_goals
      (go_enter Tryz.func52, Tryz.ntmps52
       go_wp2
       go_ret
       exact ⟨rfl, rfl⟩)
  · have n1 : (k == 1) = false := by simp; omega
    have n2 : (k == 2) = false := by simp; omega
    have n3 : (k == 3) = false := by simp; omega
    have n4 : (k == 4) = false := by simp; omega
    have n5 : (k == 5) = false := by simp; omega
    have n6 : (k == 6) = false := by simp; omega
    have HX := hd ((kindL_ne k).2 (by omega))
    clear hh
    go_enter Tryz.func52, Tryz.ntmps52
    go_wp2
    go_ret
    exact ⟨by rw [HX.o]; rfl, rfl⟩

set_option maxHeartbeats 1000000 in
theorem label_calls (k l : Int) (w : World) : Calls Tryz.prog 51 #[.int .i64 k, .int .i64 l] w fun e w' => e = .returned (.tuple #[.string (bs (labV k l)), .bool (decide (okL k l))]) ∧ w = w' := by
  by_cases hl : l = 0 ∨ l = 1 ∨ l = 2 ∨ l = 3
  · by_cases hk : k = 3 ∨ k = 4
    · rcases hl with rfl | rfl | rfl | rfl <;> rcases hk with rfl | rfl
      all_goals
        (go_enter Tryz.func51, Tryz.ntmps51
         go_wp2
         go_ret2
         exact ⟨retSB (by decide) (by decide), rfl⟩)
    · have n3 : (k == 3) = false := by simp; omega
      have n4 : (k == 4) = false := by simp; omega
      rcases hl with rfl | rfl | rfl | rfl
      · have e1 : okL k 0 := .inl rfl
        have HX := hd (show labV k 0 = [] ∧ decide (okL k 0) = true from ⟨by rw [labV, if_pos e1]; rfl, by simp [e1]⟩)
        clear hk e1
        go_enter Tryz.func51, Tryz.ntmps51
        go_wp2
        go_ret2
        exact ⟨retSB (by rw [HX.o.1]; rfl) HX.o.2.symm, rfl⟩
      · have e1 : ¬ okL k 1 := fun h => hk (by unfold okL at h; omega)
        have HX := hd (show labV k 1 = [] ∧ decide (okL k 1) = false from ⟨by rw [labV, if_neg e1], by simp [e1]⟩)
        clear hk e1
        go_enter Tryz.func51, Tryz.ntmps51
        go_wp2
        go_ret2
        exact ⟨retSB (by rw [HX.o.1]; rfl) HX.o.2.symm, rfl⟩
      · have e1 : ¬ okL k 2 := fun h => hk (by unfold okL at h; omega)
        have HX := hd (show labV k 2 = [] ∧ decide (okL k 2) = false from ⟨by rw [labV, if_neg e1], by simp [e1]⟩)
        clear hk e1
        go_enter Tryz.func51, Tryz.ntmps51
        go_wp2
        go_ret2
        exact ⟨retSB (by rw [HX.o.1]; rfl) HX.o.2.symm, rfl⟩
      · have e1 : ¬ okL k 3 := fun h => hk (by unfold okL at h; omega)
        have HX := hd (show labV k 3 = [] ∧ decide (okL k 3) = false from ⟨by rw [labV, if_neg e1], by simp [e1]⟩)
        clear hk e1
        go_enter Tryz.func51, Tryz.ntmps51
        go_wp2
        go_ret2
        exact ⟨retSB (by rw [HX.o.1]; rfl) HX.o.2.symm, rfl⟩
  · have e1 : ¬ okL k l := fun h => hl (by unfold okL at h; omega)
    have HX := hd (show labV k l = [] ∧ decide (okL k l) = false from ⟨by rw [labV, if_neg e1], by simp [e1]⟩)
    have n0 : (l == 0) = false := by simp; omega
    have n1 : (l == 1) = false := by simp; omega
    have n2 : (l == 2) = false := by simp; omega
    have n3 : (l == 3) = false := by simp; omega
    clear hl e1
    go_enter Tryz.func51, Tryz.ntmps51
    go_wp2
    go_ret2
    exact ⟨retSB (by rw [HX.o.1]; rfl) HX.o.2.symm, rfl⟩

theorem cutc_calls (c : UInt8) (s : ByteArray) (hs : s.size ≤ 1000000000) (w : World) (ht : Tbl w) : Calls Tryz.prog 41 #[.string s, .string ⟨#[c]⟩] w fun e w' => (e = .returned (if c ∈ s.data.toList then .tuple #[.string (bs (bef c s.data.toList)), .string (bs (aft c s.data.toList)), .bool true] else .tuple #[.string s, .string (bs []), .bool false])) ∧ Below w.heap.size w w' := by
  obtain ⟨m, hm⟩ := ht.2
  refine (Any.strings_Cut { laysM145 with } s ⟨#[c]⟩ m w (by omega) hm).mono ?_
  rintro e w' ⟨rfl, n, rfl⟩
  refine ⟨?_, bdrewN (Below.refl _ _) _⟩
  rw [show (⟨#[c]⟩ : ByteArray).data.toList = [c] from rfl, cut_one]
  by_cases h : c ∈ s.data.toList
  · rw [if_pos h, if_pos h]; rfl
  · rw [if_neg h, if_neg h]; rfl

end Go.Proofs.YtpejlcaoggedfaaGreatDoor
