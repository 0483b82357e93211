/-
  Days: a date's text, the number of some digits, the date of a text.
-/
import Derived.Test.YtpejlcaoggedfaaGreatDoorDayA
set_option linter.unusedVariables false
set_option linter.unusedSimpArgs false
namespace Go.Proofs.YtpejlcaoggedfaaGreatDoor
open Go.RowKit

/-- A date's text. -/
def showL (y m d : Int) : List UInt8 := if mayB y m d = true then (if y = 0 then [45] else sh4 y.toNat) ++ 45 :: (sh2 m.toNat ++ 45 :: sh2 d.toNat) else []

theorem Tab.below {w w' : World} (h : Tab w) (hb : Below w.heap.size w w') : Tab w' := by
  unfold Tab Lib.TabIs at *
  obtain ⟨g, hg⟩ : ∃ g, Tryz.prog.globalNamed "internal/strconv.uint64pow10" = some g := by
    cases hgn : Tryz.prog.globalNamed "internal/strconv.uint64pow10" with
    | none => simp [World.var?, hgn] at h
    | some g => exact ⟨g, rfl⟩
  simp only [World.var?, hg, Option.bind_some] at h ⊢
  rw [hb.block g ?_]
  · exact h
  · rcases Nat.lt_or_ge g w.heap.size with hlt | hge
    · exact hlt
    · simp [Array.getElem?_eq_none hge] at h

theorem show_no (y m d : Int) (w : World) (hm : mayB y m d = false) : Calls Tryz.prog 82 #[.agg #[.int .i64 y, .int .i64 m, .int .i64 d]] w fun e w' => e = .returned (.string (bs [])) ∧ Below w.heap.size w w' := by
  have HM := hd hm
  clear hm
  go_enter Tryz.func82, Tryz.ntmps82
  go_wp2_with fail
  refine (may_calls y m d _).mono ?_
  rintro e w' ⟨rfl, hb⟩
  rw [HM.o]
  go_wp2
  go_ret
  exact ⟨rfl, ((Below.refl _ w).alloc (Nat.le_refl _) _).trans (hb.mono (by simp))⟩

set_option maxHeartbeats 800000 in
theorem show_yes (y m d : Int) (w : World) (hm : mayB y m d = true) (ht : Tab w) : Calls Tryz.prog 82 #[.agg #[.int .i64 y, .int .i64 m, .int .i64 d]] w fun e w' => e = .returned (.string (bs (showL y m d))) ∧ Below w.heap.size w w' := by
  have hdm := dm_bd y m
  have hb := (mayB_iff y m d).1 hm
  obtain ⟨c1, c2, c3, c4, c5, c6⟩ := hb
  have c7 : d ≤ 31 := by omega
  clear c6 hdm
  have HM := hd hm
  clear hm
  have HT := hd ht
  clear ht
  have hcell : ∀ W, Below (w.alloc (.cells #[.int .i64 y, .int .i64 m, .int .i64 d] 62)).heap.size (w.alloc (.cells #[.int .i64 y, .int .i64 m, .int .i64 d] 62)) W → Blk W w.heap.size 62 #[.int .i64 y, .int .i64 m, .int .i64 d] := fun W hb => (Blk.new w _ _).below hb (by simp)
  have HC := hd hcell
  clear hcell
  have z1 : (bs (sh2 m.toNat)).size = 2 := rfl
  have z2 : (bs (sh2 d.toNat)).size = 2 := rfl
  have z3 : (bs (sh4 y.toNat)).size = 4 := rfl
  by_cases hy : y = 0
  · subst hy
    go_enter Tryz.func82, Tryz.ntmps82
    go_wp2_with fail
    refine (may_calls 0 m d _).mono ?_
    rintro e w1 ⟨rfl, hb⟩
    rw [HM.o]
    have hk := HC.o w1 hb
    have h0 := hk.at_ 0 rfl
    have h1 := hk.at_ 1 rfl
    have h2 := hk.at_ 2 rfl
    clear hk
    go_wp2_with fail
    go_quiet ((go_at_call 105; exact q1 (digits2 _ (by omega) (by omega) _)))
    go_wp2
    go_ret
    refine ⟨ret_val (congrArg Value.string (ba_ext ?_)), ?_⟩
    · simp [showL, HM.o, bs_data]
    · exact ((Below.refl _ w).alloc (Nat.le_refl _) _).trans ((bdrewN hb _).mono (by simp))
  · have hne : (y != 0) = true := by simpa using hy
    have HY := hd hy
    clear hy
    go_enter Tryz.func82, Tryz.ntmps82
    go_wp2_with fail
    refine (may_calls y m d _).mono ?_
    rintro e w1 ⟨rfl, hb⟩
    rw [HM.o]
    have hk := HC.o w1 hb
    have h0 := hk.at_ 0 rfl
    clear hk
    have hbw : Below w.heap.size w w1 := ((Below.refl _ w).alloc (Nat.le_refl _) _).trans (hb.mono (by simp))
    go_wp2_with fail
    refine (digits4 y c1 c2 w1 (HT.o.below hbw)).mono ?_
    rintro e w2 ⟨rfl, hb2⟩
    have hk := HC.o w2 (hb.trans (hb2.mono hb.size))
    have h1 := hk.at_ 1 rfl
    have h2 := hk.at_ 2 rfl
    clear hk
    go_wp2_with fail
    go_quiet ((go_at_call 105; exact q1 (digits2 _ (by omega) (by omega) _)))
    go_wp2
    go_ret
    refine ⟨ret_val (congrArg Value.string (ba_ext ?_)), ?_⟩
    · simp [showL, HM.o, HY.o, bs_data]
    · exact hbw.trans ((bdrewN hb2 _).mono hbw.size)

end Go.Proofs.YtpejlcaoggedfaaGreatDoor
