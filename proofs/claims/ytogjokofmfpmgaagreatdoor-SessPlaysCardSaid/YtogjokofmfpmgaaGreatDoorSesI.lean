/-
  sess.Sess: Ready.
-/
import Derived.Test.YtogjokofmfpmgaaGreatDoorGAS
set_option linter.unusedVariables false
set_option linter.unusedSimpArgs false
namespace Go.Proofs.YtogjokofmfpmgaaGreatDoor
open Go.RowKit

theorem lookV_w (s : Ss) : ∃ (k : Int) (b : ByteArray) (n e : Int), lookV s = .tuple #[.int .i64 (lookW s), .agg #[.int .i64 k, .string b], .int .i64 n, .int .i64 e] := by
  unfold lookV
  split
  · rename_i h; exact ⟨_, _, _, _, by rw [h]⟩
  · exact ⟨_, _, _, _, rfl⟩
theorem ready_eq (x : Int) : (x != 0) = decide (x ≠ 0) := by
  by_cases h : x = 0
  · subst h; rfl
  · rw [decide_eq_true h]; simpa using h
set_option maxRecDepth 100000 in
set_option maxHeartbeats 4000000 in
theorem ready_calls (w : World) (g p : Nat) (s : Ss) (h : SesR w g p s) (hb : s.buf.length ≤ 1000000) :
    Calls Tryz.prog 36 #[.pointer (some ⟨g, 0, none⟩)] w fun e w' => e = .returned (.bool (readyS s)) ∧ Below w.heap.size w w' := by
  have C1 := look_whole w g p s h hb
  obtain ⟨kf, bf, n, e0, hv⟩ := lookV_w s
  rw [hv] at C1
  have hr : readyS s = (lookW s != 0) := (ready_eq _).symm
  rw [hr]
  generalize lookW s = x at *
  replace C1 := hd C1
  clear hv hr h hb
  go_enter Tryz.func36, Tryz.ntmps36
  go_wp2_with (go_at_call 78; refine C1.o.mono ?_; rintro e w1 ⟨rfl, hb1⟩; have HB1 := hd hb1; clear hb1)
  go_ret
  exact ⟨rfl, HB1.o.alloc HB1.o.size _⟩
end Go.Proofs.YtogjokofmfpmgaaGreatDoor
