/-
  Conditions: May, Holds, both sides.
-/
import Derived.Test.YtbeckfnhgeclnaaColLift
set_option linter.unusedVariables false
set_option linter.unusedSimpArgs false
namespace Go.Proofs.Ytbeckfnhgeclnaa
open Go.RowKit Go.Lib

def mayP (ck cv : Int) : Bool := if ck = 0 ∨ ck = 1 ∨ ck = 2 then cv == 0 else if ck = 3 then decide (1 ≤ cv) else false
def holdsP (ck cv : Int) (th : Bool) (v : Int) : Bool := mayP ck cv && (if ck = 1 then !th else if ck = 2 then th else if ck = 3 then th && (v == cv) else true)

set_option maxHeartbeats 1000000 in
theorem may_calls (w : World) (ck cv : Int) : Calls Try.prog 97 #[.agg #[.int .i64 ck, .int .i64 cv]] w fun e w' => e = .returned (.bool (mayP ck cv)) ∧ Below w.heap.size w w' := by
  have HV : Hd (∃ b, b = mayP ck cv) := hd ⟨_, rfl⟩
  have hb := hd ((Below.refl w.heap.size w).alloc (Nat.le_refl _) (.cells #[.int .i64 ck, .int .i64 cv] 63))
  by_cases c0 : ck = 0
  · subst c0
    go_enter Try.func97, Try.ntmps97
    go_wp2
    go_ret
    exact ⟨rfl, hb.o⟩
  · by_cases c1 : ck = 1
    · subst c1
      go_enter Try.func97, Try.ntmps97
      go_wp2
      go_ret
      exact ⟨rfl, hb.o⟩
    · by_cases c2 : ck = 2
      · subst c2
        go_enter Try.func97, Try.ntmps97
        go_wp2
        go_ret
        exact ⟨rfl, hb.o⟩
      · by_cases c3 : ck = 3
        · subst c3
          go_enter Try.func97, Try.ntmps97
          go_wp2
          go_ret
          exact ⟨rfl, hb.o⟩
        · have e0 : (ck == 0) = false := by simpa using c0
          have e1 : (ck == 1) = false := by simpa using c1
          have e2 : (ck == 2) = false := by simpa using c2
          have e3 : (ck == 3) = false := by simpa using c3
          have HF : Hd (mayP ck cv = false) := hd (by simp [mayP, c0, c1, c2, c3])
          clear c0 c1 c2 c3
          go_enter Try.func97, Try.ntmps97
          go_wp2
          go_ret
          exact ⟨ret_bool HF.o.symm, hb.o⟩

set_option maxHeartbeats 1000000 in
theorem holds_calls (w : World) (ck cv : Int) (th : Bool) (v : Int) : Calls Try.prog 81 #[.agg #[.int .i64 ck, .int .i64 cv], .bool th, .int .i64 v] w fun e w' => e = .returned (.bool (holdsP ck cv th v)) ∧ Below w.heap.size w w' := by
  have hb := hd ((Below.refl w.heap.size w).alloc (Nat.le_refl _) (.cells #[.int .i64 ck, .int .i64 cv] 63))
  have HM := hd (may_calls (w.alloc (.cells #[.int .i64 ck, .int .i64 cv] 63)) ck cv)
  have HB := hd (Blk.new w 63 #[.int .i64 ck, .int .i64 cv])
  obtain ⟨res, hres⟩ : ∃ r, holdsP ck cv th v = r := ⟨_, rfl⟩
  rw [hres]
  have HR := hd hres
  simp only [holdsP] at hres
  cases hm : mayP ck cv with
  | false =>
    rw [hm] at HM
    have HF : Hd (res = false) := hd (by rw [← hres, hm]; rfl)
    clear hres hm
    go_enter Try.func81, Try.ntmps81
    go_wp2_with fail
    refine HM.o.mono ?_
    rintro e w2 ⟨rfl, hb2⟩
    have HB2 := hd (hb.o.trans (hb2.mono (by simp)))
    clear hb2
    go_wp2
    go_ret
    exact ⟨ret_bool HF.o.symm, HB2.o⟩
  | true =>
    rw [hm] at HM
    rw [hm, Bool.true_and] at hres
    have HF := hd hres
    clear hres hm
    go_enter Try.func81, Try.ntmps81
    go_wp2_with fail
    refine HM.o.mono ?_
    rintro e w2 ⟨rfl, hb2⟩
    have hx := HB.o.below hb2 (by simp)
    have x0 := hx.at_ 0 rfl
    have x1 := hx.at_ 1 rfl
    have HB2 := hd (hb.o.trans (hb2.mono (by simp)))
    clear hb2 hx
    by_cases c1 : ck = 1
    · subst c1
      have HF2 : Hd (res = !th) := hd (by rw [← HF.o]; rfl)
      go_wp2
      go_ret
      exact ⟨ret_bool HF2.o.symm, HB2.o⟩
    · have e1 : (ck == 1) = false := by simpa using c1
      by_cases c2 : ck = 2
      · subst c2
        have HF2 : Hd (res = th) := hd (by rw [← HF.o]; rfl)
        go_wp2
        go_ret
        exact ⟨ret_bool HF2.o.symm, HB2.o⟩
      · have e2 : (ck == 2) = false := by simpa using c2
        by_cases c3 : ck = 3
        · subst c3
          have HF2 : Hd (res = (th && (v == cv))) := hd (by rw [← HF.o]; rfl)
          cases th with
          | true =>
            go_wp2
            go_ret
            exact ⟨ret_bool HF2.o.symm, HB2.o⟩
          | false =>
            go_wp2
            go_ret
            exact ⟨ret_bool HF2.o.symm, HB2.o⟩
        · have e3 : (ck == 3) = false := by simpa using c3
          have HF2 : Hd (res = true) := hd (by rw [← HF.o]; simp [c1, c2, c3])
          clear c1 c2 c3
          go_wp2
          go_ret
          exact ⟨ret_bool HF2.o.symm, HB2.o⟩

set_option maxHeartbeats 1000000 in
theorem rmay_calls (w : World) (ck cv : Int) : Calls Try.prog 98 #[.agg #[.int .i64 ck, .int .i64 cv]] w fun e w' => e = .returned (.bool (mayP ck cv)) ∧ Below w.heap.size w w' := by
  have HV : Hd (∃ b, b = mayP ck cv) := hd ⟨_, rfl⟩
  have hb := hd ((Below.refl w.heap.size w).alloc (Nat.le_refl _) (.cells #[.int .i64 ck, .int .i64 cv] 63))
  by_cases c0 : ck = 0
  · subst c0
    go_enter Try.func98, Try.ntmps98
    go_wp2
    go_ret
    exact ⟨rfl, hb.o⟩
  · by_cases c1 : ck = 1
    · subst c1
      go_enter Try.func98, Try.ntmps98
      go_wp2
      go_ret
      exact ⟨rfl, hb.o⟩
    · by_cases c2 : ck = 2
      · subst c2
        go_enter Try.func98, Try.ntmps98
        go_wp2
        go_ret
        exact ⟨rfl, hb.o⟩
      · by_cases c3 : ck = 3
        · subst c3
          go_enter Try.func98, Try.ntmps98
          go_wp2
          go_ret
          exact ⟨rfl, hb.o⟩
        · have e0 : (ck == 0) = false := by simpa using c0
          have e1 : (ck == 1) = false := by simpa using c1
          have e2 : (ck == 2) = false := by simpa using c2
          have e3 : (ck == 3) = false := by simpa using c3
          have HF : Hd (mayP ck cv = false) := hd (by simp [mayP, c0, c1, c2, c3])
          clear c0 c1 c2 c3
          go_enter Try.func98, Try.ntmps98
          go_wp2
          go_ret
          exact ⟨ret_bool HF.o.symm, hb.o⟩

set_option maxHeartbeats 1000000 in
theorem rholds_calls (w : World) (ck cv : Int) (th : Bool) (v : Int) : Calls Try.prog 82 #[.agg #[.int .i64 ck, .int .i64 cv], .bool th, .int .i64 v] w fun e w' => e = .returned (.bool (holdsP ck cv th v)) ∧ Below w.heap.size w w' := by
  have hb := hd ((Below.refl w.heap.size w).alloc (Nat.le_refl _) (.cells #[.int .i64 ck, .int .i64 cv] 63))
  have HM := hd (rmay_calls (w.alloc (.cells #[.int .i64 ck, .int .i64 cv] 63)) ck cv)
  have HB := hd (Blk.new w 63 #[.int .i64 ck, .int .i64 cv])
  obtain ⟨res, hres⟩ : ∃ r, holdsP ck cv th v = r := ⟨_, rfl⟩
  rw [hres]
  have HR := hd hres
  simp only [holdsP] at hres
  cases hm : mayP ck cv with
  | false =>
    rw [hm] at HM
    have HF : Hd (res = false) := hd (by rw [← hres, hm]; rfl)
    clear hres hm
    go_enter Try.func82, Try.ntmps82
    go_wp2_with fail
    refine HM.o.mono ?_
    rintro e w2 ⟨rfl, hb2⟩
    have HB2 := hd (hb.o.trans (hb2.mono (by simp)))
    clear hb2
    go_wp2
    go_ret
    exact ⟨ret_bool HF.o.symm, HB2.o⟩
  | true =>
    rw [hm] at HM
    rw [hm, Bool.true_and] at hres
    have HF := hd hres
    clear hres hm
    go_enter Try.func82, Try.ntmps82
    go_wp2_with fail
    refine HM.o.mono ?_
    rintro e w2 ⟨rfl, hb2⟩
    have hx := HB.o.below hb2 (by simp)
    have x0 := hx.at_ 0 rfl
    have x1 := hx.at_ 1 rfl
    have HB2 := hd (hb.o.trans (hb2.mono (by simp)))
    clear hb2 hx
    by_cases c1 : ck = 1
    · subst c1
      have HF2 : Hd (res = !th) := hd (by rw [← HF.o]; rfl)
      go_wp2
      go_ret
      exact ⟨ret_bool HF2.o.symm, HB2.o⟩
    · have e1 : (ck == 1) = false := by simpa using c1
      by_cases c2 : ck = 2
      · subst c2
        have HF2 : Hd (res = th) := hd (by rw [← HF.o]; rfl)
        go_wp2
        go_ret
        exact ⟨ret_bool HF2.o.symm, HB2.o⟩
      · have e2 : (ck == 2) = false := by simpa using c2
        by_cases c3 : ck = 3
        · subst c3
          have HF2 : Hd (res = (th && (v == cv))) := hd (by rw [← HF.o]; rfl)
          cases th with
          | true =>
            go_wp2
            go_ret
            exact ⟨ret_bool HF2.o.symm, HB2.o⟩
          | false =>
            go_wp2
            go_ret
            exact ⟨ret_bool HF2.o.symm, HB2.o⟩
        · have e3 : (ck == 3) = false := by simpa using c3
          have HF2 : Hd (res = true) := hd (by rw [← HF.o]; simp [c1, c2, c3])
          clear c1 c2 c3
          go_wp2
          go_ret
          exact ⟨ret_bool HF2.o.symm, HB2.o⟩

end Go.Proofs.Ytbeckfnhgeclnaa
