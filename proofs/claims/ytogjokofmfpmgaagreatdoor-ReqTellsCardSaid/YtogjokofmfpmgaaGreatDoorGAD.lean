/-
  Days: leap years, months, what may be, numbers shown.
-/
import Derived.Test.YtogjokofmfpmgaaGreatDoorGAC
import Derived.Test.YtogjokofmfpmgaaGreatDoorProg
import Derived.BigQuiet
import Derived.Deep.QuietTactic
import Derived.StillTailTactics
import Derived.WalkLawsBesides
import Derived.Lib.LaidTab
import Derived.Test.YtogjokofmfpmgaaGreatDoorGAA
import Derived.Test.YtogjokofmfpmgaaGreatDoorBytesOrd
set_option linter.unusedVariables false
set_option linter.unusedSimpArgs false
namespace Go.Proofs.YtogjokofmfpmgaaGreatDoor
open Go.RowKit

set_option maxHeartbeats 400000 in
theorem leap_calls (y : Int) (w : World) : Calls Tryz.prog 195 #[.int .i64 y] w fun e w' => e = .returned (.bool (leap y)) ∧ w = w' := by
  by_cases c1 : 1 ≤ y
  · by_cases c2 : y ≤ 9999
    · by_cases c3 : y % 4 = 0
      · have b3 : (y % 4 == 0) = true := by simpa using c3
        by_cases c4 : y % 100 = 0
        · have b4 : (y % 100 == 0) = true := by simpa using c4
          have b4' : (y % 100 != 0) = false := by simpa using c4
          by_cases c5 : y % 400 = 0
          · have b5 : (y % 400 == 0) = true := by simpa using c5
            have e1 : leap y = true := by simp [leap, c1, c2, c3, c5]
            rw [e1]
            clear c3 c4 c5 e1
            go_enter Tryz.func195, Tryz.ntmps195
            go_wp2
            go_ret
            exact ⟨rfl, rfl⟩
          · have b5 : (y % 400 == 0) = false := by simpa using c5
            have e1 : leap y = false := by simp [leap, c1, c2, c3, c4, c5]
            rw [e1]
            clear c3 c4 c5 e1
            go_enter Tryz.func195, Tryz.ntmps195
            go_wp2
            go_ret
            exact ⟨rfl, rfl⟩
        · have b4' : (y % 100 != 0) = true := by simpa using c4
          have e1 : leap y = true := by simp [leap, c1, c2, c3, c4]
          rw [e1]
          clear c3 c4 e1
          go_enter Tryz.func195, Tryz.ntmps195
          go_wp2
          go_ret
          exact ⟨rfl, rfl⟩
      · have b3 : (y % 4 == 0) = false := by simpa using c3
        have e1 : leap y = false := by simp [leap, c1, c2, c3]
        rw [e1]
        clear c3 e1
        go_enter Tryz.func195, Tryz.ntmps195
        go_wp2
        go_ret
        exact ⟨rfl, rfl⟩
    · have e1 : leap y = false := by simp [leap, c1, c2]
      rw [e1]
      clear e1
      go_enter Tryz.func195, Tryz.ntmps195
      go_wp2
      go_ret
      exact ⟨rfl, rfl⟩
  · have e1 : leap y = false := by simp [leap, c1]
    rw [e1]
    clear e1
    go_enter Tryz.func195, Tryz.ntmps195
    go_wp2
    go_ret
    exact ⟨rfl, rfl⟩

set_option maxHeartbeats 400000 in
theorem days_calls (y m : Int) (w : World) : Calls Tryz.prog 181 #[.int .i64 y, .int .i64 m] w fun e w' => e = .returned (.int .i64 (dm y m)) ∧ w = w' := by
  by_cases c0 : m = 4 ∨ m = 6 ∨ m = 9 ∨ m = 11
  · have e1 : dm y m = 30 := by simp [dm, c0]
    rw [e1]
    clear e1
    rcases c0 with rfl | rfl | rfl | rfl
    all_goals
      go_enter Tryz.func181, Tryz.ntmps181
      go_wp2
      go_ret
      exact ⟨rfl, rfl⟩
  · have n4 : (m == 4) = false := by simp; omega
    have n6 : (m == 6) = false := by simp; omega
    have n9 : (m == 9) = false := by simp; omega
    have n11 : (m == 11) = false := by simp; omega
    by_cases c1 : m = 2
    · subst c1
      by_cases c2 : y = 0
      · subst c2
        have e1 : dm 0 2 = 29 := by simp [dm]
        rw [e1]
        clear e1 c0 n4 n6 n9 n11
        go_enter Tryz.func181, Tryz.ntmps181
        go_wp2
        go_ret
        exact ⟨rfl, rfl⟩
      · have b2 : (y == 0) = false := by simpa using c2
        cases hl : leap y with
        | true =>
          have e1 : dm y 2 = 29 := by simp [dm, hl]
          rw [e1]
          have HL := hd hl
          clear e1 c0 n4 n6 n9 n11 c2 hl
          go_enter Tryz.func181, Tryz.ntmps181
          go_wp2_with fail
          refine (leap_calls y w).mono ?_
          rintro e w' ⟨rfl, rfl⟩
          rw [HL.o]
          go_wp2
          go_ret
          exact ⟨rfl, rfl⟩
        | false =>
          have e1 : dm y 2 = 28 := by simp [dm, hl, c2]
          rw [e1]
          have HL := hd hl
          clear e1 c0 n4 n6 n9 n11 c2 hl
          go_enter Tryz.func181, Tryz.ntmps181
          go_wp2_with fail
          refine (leap_calls y w).mono ?_
          rintro e w' ⟨rfl, rfl⟩
          rw [HL.o]
          go_wp2
          go_ret
          exact ⟨rfl, rfl⟩
    · have n2 : (m == 2) = false := by simpa using c1
      have e1 : dm y m = 31 := by simp [dm, c0, c1]
      rw [e1]
      clear e1 c0 c1
      go_enter Tryz.func181, Tryz.ntmps181
      go_wp2
      go_ret
      exact ⟨rfl, rfl⟩

set_option maxHeartbeats 400000 in
theorem may_calls (y m d : Int) (w : World) : Calls Tryz.prog 161 #[.agg #[.int .i64 y, .int .i64 m, .int .i64 d]] w fun e w' => e = .returned (.bool (mayB y m d)) ∧ Below w.heap.size w w' := by
  by_cases hh : 0 ≤ y ∧ y ≤ 9999 ∧ 1 ≤ m ∧ m ≤ 12 ∧ 1 ≤ d
  · obtain ⟨c1, c2, c3, c4, c5⟩ := hh
    have e1 : mayB y m d = decide (d ≤ dm y m) := by simp [mayB, c1, c2, c3, c4, c5]
    rw [e1]
    clear e1
    go_enter Tryz.func161, Tryz.ntmps161
    go_wp2_with fail
    go_quiet ((go_at_call 181; exact q1 (days_calls y m _)))
    go_wp2
    go_ret
    exact ⟨rfl, bdrewN ((Below.refl _ _).alloc (Nat.le_refl _) _) _⟩
  · have e1 : mayB y m d = false := by
      cases h : mayB y m d with
      | false => rfl
      | true => rw [mayB_iff] at h; omega
    rw [e1]
    clear e1
    have hc : y < 0 ∨ (0 ≤ y ∧ 9999 < y) ∨ (0 ≤ y ∧ y ≤ 9999 ∧ m < 1) ∨ (0 ≤ y ∧ y ≤ 9999 ∧ 1 ≤ m ∧ 12 < m) ∨ (0 ≤ y ∧ y ≤ 9999 ∧ 1 ≤ m ∧ m ≤ 12 ∧ d < 1) := by omega
    clear hh
    rcases hc with c1 | ⟨c1, c2⟩ | ⟨c1, c2, c3⟩ | ⟨c1, c2, c3, c4⟩ | ⟨c1, c2, c3, c4, c5⟩
    · have b : decide (0 ≤ y) = false := by simp; omega
      go_enter Tryz.func161, Tryz.ntmps161
      go_wp2_with fail
      go_quiet (fail)
      go_wp2
      go_ret
      exact ⟨rfl, bdrewN ((Below.refl _ _).alloc (Nat.le_refl _) _) _⟩
    · have b : decide (y ≤ 9999) = false := by simp; omega
      go_enter Tryz.func161, Tryz.ntmps161
      go_wp2_with fail
      go_quiet (fail)
      go_wp2
      go_ret
      exact ⟨rfl, bdrewN ((Below.refl _ _).alloc (Nat.le_refl _) _) _⟩
    · have b : decide (1 ≤ m) = false := by simp; omega
      go_enter Tryz.func161, Tryz.ntmps161
      go_wp2_with fail
      go_quiet (fail)
      go_wp2
      go_ret
      exact ⟨rfl, bdrewN ((Below.refl _ _).alloc (Nat.le_refl _) _) _⟩
    · have b : decide (m ≤ 12) = false := by simp; omega
      go_enter Tryz.func161, Tryz.ntmps161
      go_wp2_with fail
      go_quiet (fail)
      go_wp2
      go_ret
      exact ⟨rfl, bdrewN ((Below.refl _ _).alloc (Nat.le_refl _) _) _⟩
    · have b : decide (1 ≤ d) = false := by simp; omega
      go_enter Tryz.func161, Tryz.ntmps161
      go_wp2_with fail
      go_quiet (fail)
      go_wp2
      go_ret
      exact ⟨rfl, bdrewN ((Below.refl _ _).alloc (Nat.le_refl _) _) _⟩

/-- The table that strconv reads. -/
def Tab (w : World) : Prop := Lib.TabIs Tryz.prog w "internal/strconv.uint64pow10" .u64 Lib.pow10Tab

theorem itoa_calls (n : Int) (h0 : -9223372036854775808 ≤ n) (h1 : n ≤ 9223372036854775807) (w : World) (ht : Tab w) :
    Calls Tryz.prog 196 #[.int .i64 n] w fun e w' => e = .returned (.string ⟨(Lib.itoa n).toArray⟩) ∧ Below w.heap.size w w' := by
  refine (Any.strconv_Itoa laysM171 n h0 h1 w ht).mono ?_
  rintro e w' ⟨rfl, k, os, rfl⟩
  exact ⟨rfl, rfl, rfl, rfl, by simp [Go.Sort.grow], fun i hi => by rw [Go.Sort.heap_grow_old _ _ (by simpa using hi)]; rfl⟩
theorem itoa_small (n : Nat) (hn : n < 100) (w : World) :
    Calls Tryz.prog 196 #[.int .i64 n] w fun e w' => e = .returned (.string ⟨(Lib.decDigits n).toArray⟩) ∧ w = w' :=
  (Any.strconv_Itoa_small lays171 n hn w).mono fun _ _ ⟨he, hw⟩ => ⟨he, hw.symm⟩

def pad (k : Nat) (l : List UInt8) : List UInt8 := List.replicate (k - l.length) 48 ++ l

theorem digits_calls (n : Int) (k : Nat) (hk : k ≤ 4) (l : List UInt8) (hl : l.length ≤ 20) (w : World) (R : World → Prop) (h : Calls Tryz.prog 196 #[.int .i64 n] w fun e w' => e = .returned (.string ⟨l.toArray⟩) ∧ R w') :
    Calls Tryz.prog 182 #[.int .i64 n, .int .i64 k] w fun e w' => e = .returned (.string (bs (pad k l))) ∧ R w' := by
  go_enter Tryz.func182, Tryz.ntmps182
  go_wp2_with fail
  refine h.mono ?_
  rintro e w' ⟨rfl, hR⟩
  have HR := hd hR
  clear hR h
  go_wp2_with fail
  go_loop [5] (fun s => ∃ b : ByteArray, s = .string b ∧ b.size ≤ 24 ∧ Hd (∃ j, b.data.toList = List.replicate j 48 ++ l ∧ (j = 0 ∨ j + l.length ≤ k))) (fun s => match s with | .string b => k - b.size | _ => 0)
  case atStart => exact ⟨_, rfl, by simpa [ByteArray.size] using (by omega : l.length ≤ 24), 0, by simp, .inl rfl⟩
  case round =>
    obtain ⟨b, rfl, hb, hh⟩ := hrel
    by_cases hlt : b.size < k
    · go_wp2_with fail
      go_round
      case rel =>
        obtain ⟨j, hj, hjk⟩ := hh.o
        have hsz : ((⟨#[48]⟩ : ByteArray) ++ b).size = b.size + 1 := by rw [ba_size, ba_app, ba_size]; simp
        refine ⟨_, rfl, by omega, j + 1, ?_, .inr ?_⟩
        · rw [ba_app, hj, List.replicate_succ]; rfl
        · rw [ba_size, hj] at hlt; simp at hlt; omega
      case measure =>
        have hsz : ((⟨#[48]⟩ : ByteArray) ++ b).size = b.size + 1 := by rw [ba_size, ba_app, ba_size]; simp
        show k - _ < k - b.size
        omega
    · go_wp2_with fail
      go_ret
      refine ⟨ret_val (a := .string b) (congrArg Value.string (ba_ext ?_)), HR.o⟩
      obtain ⟨j, hj, hjk⟩ := hh.o
      show b.data.toList = pad k l
      rw [hj, pad]
      have : j = k - l.length := by rw [ba_size, hj] at hlt; simp at hlt; omega
      rw [this]

theorem dig_lt (n : Nat) (hn : n < 10) : Lib.decDigits n = [UInt8.ofNat (48 + n)] := by rw [Lib.decDigits]; simp [hn]
theorem dig_ge (n : Nat) (hn : 10 ≤ n) : Lib.decDigits n = Lib.decDigits (n / 10) ++ [UInt8.ofNat (48 + n % 10)] := by
  rw [Lib.decDigits]; simp [show ¬ n < 10 by omega]
def sh2 (n : Nat) : List UInt8 := [UInt8.ofNat (48 + n / 10 % 10), UInt8.ofNat (48 + n % 10)]
def sh4 (n : Nat) : List UInt8 := sh2 (n / 100) ++ sh2 n
theorem pad2 (n : Nat) (hn : n < 100) : pad 2 (Lib.decDigits n) = sh2 n := by
  by_cases h : n < 10
  · rw [dig_lt n h, sh2, show n / 10 % 10 = 0 by omega, show n % 10 = n by omega]; rfl
  · rw [dig_ge n (by omega), dig_lt (n / 10) (by omega), sh2, show n / 10 % 10 = n / 10 by omega]; rfl
theorem pad4 (n : Nat) (hn : n < 10000) : pad 4 (Lib.decDigits n) = sh4 n := by
  unfold sh4 sh2
  by_cases h : n < 10
  · rw [dig_lt n h, show n / 100 / 10 % 10 = 0 by omega, show n / 100 % 10 = 0 by omega, show n / 10 % 10 = 0 by omega, show n % 10 = n by omega]; rfl
  · rw [dig_ge n (by omega)]
    by_cases h2 : n < 100
    · rw [dig_lt (n / 10) (by omega), show n / 100 / 10 % 10 = 0 by omega, show n / 100 % 10 = 0 by omega, show n / 10 % 10 = n / 10 by omega]; rfl
    · rw [dig_ge (n / 10) (by omega)]
      by_cases h3 : n < 1000
      · rw [dig_lt (n / 10 / 10) (by omega), show n / 100 / 10 % 10 = 0 by omega, show n / 100 % 10 = n / 10 / 10 by omega]; rfl
      · rw [dig_ge (n / 10 / 10) (by omega), dig_lt (n / 10 / 10 / 10) (by omega), show n / 100 / 10 % 10 = n / 10 / 10 / 10 by omega, show n / 100 % 10 = n / 10 / 10 % 10 by omega]; rfl
theorem len4 (n : Nat) (hn : n < 10000) : (Lib.decDigits n).length ≤ 4 := by
  have := congrArg List.length (pad4 n hn)
  simp [pad, sh4, sh2] at this
  omega

theorem digits2 (n : Int) (h0 : 0 ≤ n) (h1 : n < 100) (w : World) :
    Calls Tryz.prog 182 #[.int .i64 n, .int .i64 2] w fun e w' => e = .returned (.string (bs (sh2 n.toNat))) ∧ w = w' := by
  obtain ⟨m, rfl⟩ := Int.eq_ofNat_of_zero_le h0
  rw [Int.toNat_natCast, ← pad2 m (by omega)]
  exact digits_calls m 2 (by omega) _ (by have := len4 m (by omega); omega) w (fun w' => w = w') (itoa_small m (by omega) w)

theorem digits4 (n : Int) (h0 : 0 ≤ n) (h1 : n ≤ 9999) (w : World) (ht : Tab w) :
    Calls Tryz.prog 182 #[.int .i64 n, .int .i64 4] w fun e w' => e = .returned (.string (bs (sh4 n.toNat))) ∧ Below w.heap.size w w' := by
  obtain ⟨m, rfl⟩ := Int.eq_ofNat_of_zero_le h0
  rw [Int.toNat_natCast, ← pad4 m (by omega)]
  have hi := itoa_calls (m : Int) (by omega) (by omega) w ht
  rw [show Lib.itoa (m : Int) = Lib.decDigits m by simp [Lib.itoa]] at hi
  exact digits_calls m 4 (by omega) _ (by have := len4 m (by omega); omega) w (fun w' => Below w.heap.size w w') hi

end Go.Proofs.YtogjokofmfpmgaaGreatDoor
namespace Go.Proofs.YtogjokofmfpmgaaGreatDoor
open Go.RowKit

/-- A date's text. -/
def showL (y m d : Int) : List UInt8 := if mayB y m d = true then (if y = 0 then [45] else sh4 y.toNat) ++ 45 :: (sh2 m.toNat ++ 45 :: sh2 d.toNat) else []

theorem Tab.below {w w' : World} (h : Tab w) (hb : Below w.heap.size w w') : Tab w' := by
  unfold Tab Lib.TabIs at *
  obtain ⟨g, hg⟩ : ∃ g, Tryz.prog.globalNamed "internal/strconv.uint64pow10" = some g := by
    cases hgn : Tryz.prog.globalNamed "internal/strconv.uint64pow10" with
    | none => simp [World.var?, hgn] at h
    | some g => exact ⟨g, rfl⟩
  simp only [World.var?, hg, Option.bind_some] at h ⊢
  rw [hb.block g ?_]
  · exact h
  · rcases Nat.lt_or_ge g w.heap.size with hlt | hge
    · exact hlt
    · simp [Array.getElem?_eq_none hge] at h

set_option maxHeartbeats 800000 in
theorem show_yes (y m d : Int) (w : World) (hm : mayB y m d = true) (ht : Tab w) : Calls Tryz.prog 162 #[.agg #[.int .i64 y, .int .i64 m, .int .i64 d]] w fun e w' => e = .returned (.string (bs (showL y m d))) ∧ Below w.heap.size w w' := by
  have hdm := dm_bd y m
  have hb := (mayB_iff y m d).1 hm
  obtain ⟨c1, c2, c3, c4, c5, c6⟩ := hb
  have c7 : d ≤ 31 := by omega
  clear c6 hdm
  have HM := hd hm
  clear hm
  have HT := hd ht
  clear ht
  have hcell : ∀ W, Below (w.alloc (.cells #[.int .i64 y, .int .i64 m, .int .i64 d] 158)).heap.size (w.alloc (.cells #[.int .i64 y, .int .i64 m, .int .i64 d] 158)) W → Blk W w.heap.size 158 #[.int .i64 y, .int .i64 m, .int .i64 d] := fun W hb => (Blk.new w _ _).below hb (by simp)
  have HC := hd hcell
  clear hcell
  have z1 : (bs (sh2 m.toNat)).size = 2 := rfl
  have z2 : (bs (sh2 d.toNat)).size = 2 := rfl
  have z3 : (bs (sh4 y.toNat)).size = 4 := rfl
  by_cases hy : y = 0
  · subst hy
    go_enter Tryz.func162, Tryz.ntmps162
    go_wp2_with fail
    refine (may_calls 0 m d _).mono ?_
    rintro e w1 ⟨rfl, hb⟩
    rw [HM.o]
    have hk := HC.o w1 hb
    have h0 := hk.at_ 0 rfl
    have h1 := hk.at_ 1 rfl
    have h2 := hk.at_ 2 rfl
    clear hk
    go_wp2_with fail
    go_quiet ((go_at_call 182; exact q1 (digits2 _ (by omega) (by omega) _)))
    go_wp2
    go_ret
    refine ⟨ret_val (congrArg Value.string (ba_ext ?_)), ?_⟩
    · simp [showL, HM.o, bs_data]
    · exact ((Below.refl _ w).alloc (Nat.le_refl _) _).trans ((bdrewN hb _).mono (by simp))
  · have hne : (y != 0) = true := by simpa using hy
    have HY := hd hy
    clear hy
    go_enter Tryz.func162, Tryz.ntmps162
    go_wp2_with fail
    refine (may_calls y m d _).mono ?_
    rintro e w1 ⟨rfl, hb⟩
    rw [HM.o]
    have hk := HC.o w1 hb
    have h0 := hk.at_ 0 rfl
    clear hk
    have hbw : Below w.heap.size w w1 := ((Below.refl _ w).alloc (Nat.le_refl _) _).trans (hb.mono (by simp))
    go_wp2_with fail
    refine (digits4 y c1 c2 w1 (HT.o.below hbw)).mono ?_
    rintro e w2 ⟨rfl, hb2⟩
    have hk := HC.o w2 (hb.trans (hb2.mono hb.size))
    have h1 := hk.at_ 1 rfl
    have h2 := hk.at_ 2 rfl
    clear hk
    go_wp2_with fail
    go_quiet ((go_at_call 182; exact q1 (digits2 _ (by omega) (by omega) _)))
    go_wp2
    go_ret
    refine ⟨ret_val (congrArg Value.string (ba_ext ?_)), ?_⟩
    · simp [showL, HM.o, HY.o, bs_data]
    · exact hbw.trans ((bdrewN hb2 _).mono hbw.size)

end Go.Proofs.YtogjokofmfpmgaaGreatDoor
namespace Go.Proofs.YtogjokofmfpmgaaGreatDoor
open Go.RowKit Go.Lib

structure Fld where
  k : Int
  l : Int
  v : List UInt8
deriving DecidableEq
def noFld : Fld := ⟨0, 0, []⟩
theorem fld_ext {f g : Fld} (h1 : f.k = g.k) (h2 : f.l = g.l) (h3 : f.v = g.v) : f = g := by
  cases f; cases g; simp at *; exact ⟨h1, h2, h3⟩
def fldV (f : Fld) : Value := .agg #[.int .i64 f.k, .int .i64 f.l, .string (bs f.v)]
def LessP (f g : Fld) : Prop := f.k < g.k ∨ (f.k = g.k ∧ (f.l < g.l ∨ (f.l = g.l ∧ compareBytes f.v g.v < 0)))
instance (f g : Fld) : Decidable (LessP f g) := by unfold LessP; infer_instance
def lessF (f g : Fld) : Bool := decide (LessP f g)
theorem less_irr (f : Fld) : ¬ LessP f f := by
  rintro (h | ⟨_, h | ⟨_, h⟩⟩)
  · omega
  · omega
  · rw [cmp_self] at h; omega
theorem less_trans {f g h : Fld} (h1 : LessP f g) (h2 : LessP g h) : LessP f h := by
  rcases h1 with h1 | ⟨e1, h1 | ⟨d1, h1⟩⟩ <;> rcases h2 with h2 | ⟨e2, h2 | ⟨d2, h2⟩⟩
  · left; omega
  · left; omega
  · left; omega
  · left; omega
  · right; exact ⟨by omega, .inl (by omega)⟩
  · right; exact ⟨by omega, .inl (by omega)⟩
  · left; omega
  · right; exact ⟨by omega, .inl (by omega)⟩
  · right; exact ⟨by omega, .inr ⟨by omega, cmp_trans h1 h2⟩⟩
theorem less_asym {f g : Fld} (h : LessP f g) : ¬ LessP g f := fun k => less_irr f (less_trans h k)
theorem less_tot {f g : Fld} (h : f ≠ g) : LessP f g ∨ LessP g f := by
  by_cases h1 : f.k < g.k
  · exact .inl (.inl h1)
  · by_cases h2 : g.k < f.k
    · exact .inr (.inl h2)
    · have e1 : f.k = g.k := by omega
      by_cases h3 : f.l < g.l
      · exact .inl (.inr ⟨e1, .inl h3⟩)
      · by_cases h4 : g.l < f.l
        · exact .inr (.inr ⟨e1.symm, .inl h4⟩)
        · have e2 : f.l = g.l := by omega
          have hv : f.v ≠ g.v := fun e => h (fld_ext e1 e2 e)
          by_cases h5 : compareBytes f.v g.v < 0
          · exact .inl (.inr ⟨e1, .inr ⟨e2, h5⟩⟩)
          · exact .inr (.inr ⟨e1.symm, .inr ⟨e2.symm, cmp_not h5 hv⟩⟩)
theorem less_not {f g : Fld} (h : ¬ LessP f g) (hn : f ≠ g) : LessP g f := (less_tot hn).resolve_left h


end Go.Proofs.YtogjokofmfpmgaaGreatDoor
namespace Go.Proofs.YtogjokofmfpmgaaGreatDoor
open Go.RowKit

def okKL (k l : Int) : Prop := 1 ≤ k ∧ k ≤ 6 ∧ (l = 0 ∨ ((l = 1 ∨ l = 2) ∧ (k = 3 ∨ k = 4)) ∨ (l = 3 ∧ k = 3))
instance (k l : Int) : Decidable (okKL k l) := by unfold okKL; infer_instance
def DayT (l : List UInt8) : Prop := ∃ y m d, mayB y m d = true ∧ showL y m d = l
noncomputable def valT (k : Int) (v : List UInt8) : List UInt8 := if k = 3 then telT v else if k = 4 then canT v else cleanT v
open Classical in
noncomputable def valE (k : Int) (v : List UInt8) : Int := if k = 3 then telE v else if k = 4 then canE v else if cleanE v = 0 ∧ k = 5 ∧ ¬ DayT (cleanT v) then 1 else cleanE v
noncomputable def fldE (f : Fld) : Int := if okKL f.k f.l then valE f.k f.v else 1
noncomputable def fldC (f : Fld) : Fld := if fldE f = 0 then ⟨f.k, f.l, valT f.k f.v⟩ else noFld
def MayF (f : Fld) : Prop := fldE f = 0 ∧ valT f.k f.v = f.v
open Classical in
noncomputable def mayF (f : Fld) : Bool := decide (MayF f)
theorem mayF_t {f : Fld} (h : MayF f) : mayF f = true := by simp [mayF, h]
theorem mayF_f {f : Fld} (h : ¬ MayF f) : mayF f = false := by simp [mayF, h]
def kindL (k : Int) : List UInt8 := if k = 1 then [110, 97, 109, 101] else if k = 2 then [111, 114, 103] else if k = 3 then [116, 101, 108] else if k = 4 then [109, 97, 105, 108] else if k = 5 then [100, 97, 121] else if k = 6 then [110, 111, 116, 101] else []
def labL (l : Int) : List UInt8 := if l = 1 then [59, 104, 111, 109, 101] else if l = 2 then [59, 119, 111, 114, 107] else if l = 3 then [59, 99, 101, 108, 108] else []
def headL (k l : Int) : List UInt8 := kindL k ++ labL l
def rawL (f : Fld) : List UInt8 := headL f.k f.l ++ 58 :: f.v
open Classical in
noncomputable def lineF (f : Fld) : List UInt8 := if MayF f then rawL f else []
theorem line_yes {f : Fld} (h : MayF f) : lineF f = rawL f := by simp [lineF, h]
theorem line_no {f : Fld} (h : ¬ MayF f) : lineF f = [] := by simp [lineF, h]

/-- The kinds and labels that go together. -/
def prs : List (Int × Int) := [(1, 0), (2, 0), (3, 0), (3, 1), (3, 2), (3, 3), (4, 0), (4, 1), (4, 2), (5, 0), (6, 0)]
theorem ok_prs {k l : Int} (h : okKL k l) : (k, l) ∈ prs := by
  obtain ⟨h1, h2, h3⟩ := h
  have hk : k = 1 ∨ k = 2 ∨ k = 3 ∨ k = 4 ∨ k = 5 ∨ k = 6 := by omega
  rcases h3 with rfl | ⟨h3, h4⟩ | ⟨rfl, rfl⟩
  · rcases hk with rfl | rfl | rfl | rfl | rfl | rfl <;> decide
  · rcases h3 with rfl | rfl <;> rcases h4 with rfl | rfl <;> decide
  · decide
theorem head_inj' : ∀ p ∈ prs, ∀ q ∈ prs, headL p.1 p.2 = headL q.1 q.2 → p = q := by decide
theorem head_58' : ∀ p ∈ prs, (58 : UInt8) ∉ headL p.1 p.2 := by decide
theorem head_10' : ∀ p ∈ prs, (10 : UInt8) ∉ headL p.1 p.2 := by decide
theorem head_len' : ∀ p ∈ prs, (headL p.1 p.2).length ≤ 9 := by decide
theorem head_inj {k l k' l' : Int} (h : okKL k l) (h' : okKL k' l') (e : headL k l = headL k' l') : k = k' ∧ l = l' := by
  have := head_inj' _ (ok_prs h) _ (ok_prs h') e
  simpa using this
theorem head_58 {k l : Int} (h : okKL k l) : (58 : UInt8) ∉ headL k l := head_58' _ (ok_prs h)
theorem head_10 {k l : Int} (h : okKL k l) : (10 : UInt8) ∉ headL k l := head_10' _ (ok_prs h)
theorem head_len {k l : Int} (h : okKL k l) : (headL k l).length ≤ 9 := head_len' _ (ok_prs h)

theorem fldE_ok {f : Fld} (h : fldE f = 0) : okKL f.k f.l ∧ valE f.k f.v = 0 := by
  unfold fldE at h
  split at h
  · next c => exact ⟨c, h⟩
  · omega
theorem may_ok {f : Fld} (h : MayF f) : okKL f.k f.l := (fldE_ok h.1).1

theorem can_twice {l : List UInt8} (h : canE l = 0) : canE (canT l) = 0 ∧ canT (canT l) = canT l :=
  ⟨(can_addr (can_ok h)).2, (can_addr (can_ok h)).1⟩
theorem tel_twice {l : List UInt8} (h : telE l = 0) : telE (telT l) = 0 ∧ telT (telT l) = telT l :=
  ⟨(tel_self (tel_ok h)).2, (tel_self (tel_ok h)).1⟩
theorem val_twice {k : Int} {v : List UInt8} (h : valE k v = 0) : valE k (valT k v) = 0 ∧ valT k (valT k v) = valT k v := by
  unfold valE valT at *
  by_cases k3 : k = 3
  · simp only [if_pos k3] at *; exact tel_twice h
  · by_cases k4 : k = 4
    · simp only [if_neg k3, if_pos k4] at *; exact can_twice h
    · simp only [if_neg k3, if_neg k4] at *
      by_cases c : cleanE v = 0 ∧ k = 5 ∧ ¬ DayT (cleanT v)
      · rw [if_pos c] at h; omega
      · rw [if_neg c] at h
        obtain ⟨e1, e2⟩ := clean_twice h
        rw [e1, e2]
        refine ⟨?_, rfl⟩
        rw [if_neg]
        rintro ⟨_, c2, c3⟩
        refine c ⟨h, c2, ?_⟩
        rw [if_neg k3, if_neg k4, e1] at c3
        exact c3
theorem val_len (k : Int) (v : List UInt8) (h : valE k v = 0) : (valT k v).length ≤ 64 := by
  unfold valE at h
  unfold valT
  by_cases k3 : k = 3
  · rw [if_pos k3] at *; have := (tel_len (tel_ok h)).2; omega
  · by_cases k4 : k = 4
    · rw [if_neg k3, if_pos k4] at *; exact (can_ok h).1
    · rw [if_neg k3, if_neg k4] at *; exact cleanT_len v
theorem val_sign {k : Int} {v : List UInt8} (h : valE k v = 0) : ∀ c ∈ valT k v, 32 ≤ c.toNat := by
  unfold valE at h
  unfold valT
  by_cases k3 : k = 3
  · rw [if_pos k3] at *; intro c hc; have := tel_sign (tel_ok h) c hc; omega
  · by_cases k4 : k = 4
    · rw [if_neg k3, if_pos k4] at *; intro c hc; have := addr_plain (can_ok h) c hc; omega
    · rw [if_neg k3, if_neg k4] at *
      split at h
      · omega
      · exact clean_ok0 h
theorem fldC_may {f : Fld} (h : fldE f = 0) : MayF (fldC f) := by
  obtain ⟨h1, h2⟩ := fldE_ok h
  obtain ⟨e1, e2⟩ := val_twice h2
  have e : fldC f = ⟨f.k, f.l, valT f.k f.v⟩ := by rw [fldC, if_pos h]
  rw [e]
  refine ⟨?_, e2⟩
  unfold fldE
  rw [if_pos h1]
  exact e1
theorem may_fldC {f : Fld} (h : MayF f) : fldC f = f := by
  rw [fldC, if_pos h.1]
  exact fld_ext rfl rfl h.2
theorem may_len {f : Fld} (h : MayF f) : f.v.length ≤ 64 := by
  rw [← h.2]; exact val_len _ _ (fldE_ok h.1).2
theorem may_sign {f : Fld} (h : MayF f) : ∀ c ∈ f.v, 32 ≤ c.toNat := by
  have := val_sign (fldE_ok h.1).2
  rwa [h.2] at this
theorem raw_len {f : Fld} (h : MayF f) : (rawL f).length ≤ 74 := by
  have h1 := head_len (may_ok h)
  have h2 := may_len h
  unfold rawL
  rw [List.length_append, List.length_cons]
  omega
theorem raw_10 {f : Fld} (h : MayF f) : (10 : UInt8) ∉ rawL f := by
  intro hm
  unfold rawL at hm
  rcases List.mem_append.1 hm with hm | hm
  · exact head_10 (may_ok h) hm
  · rcases List.mem_cons.1 hm with hm | hm
    · exact absurd hm (by decide)
    · have := may_sign h _ hm; simp at this
theorem line_len (f : Fld) : (lineF f).length ≤ 74 := by
  by_cases h : MayF f
  · rw [line_yes h]; exact raw_len h
  · rw [line_no h]; simp

/-- The field of a line. -/
def Found (s : List UInt8) (f : Fld) : Prop := MayF f ∧ rawL f = s
theorem found_uniq {s : List UInt8} {f g : Fld} (hf : Found s f) (hg : Found s g) : f = g := by
  have e := hf.2.trans hg.2.symm
  unfold rawL at e
  have a1 := bef_app 58 (headL f.k f.l) f.v (head_58 (may_ok hf.1))
  have a2 := bef_app 58 (headL g.k g.l) g.v (head_58 (may_ok hg.1))
  rw [e] at a1
  obtain ⟨e1, e2⟩ := head_inj (may_ok hf.1) (may_ok hg.1) (a1.1.symm.trans a2.1)
  exact fld_ext e1 e2 (a1.2.symm.trans a2.2)
theorem found_cut {s : List UInt8} {f : Fld} (h : Found s f) : (58 : UInt8) ∈ s ∧ bef 58 s = headL f.k f.l ∧ aft 58 s = f.v := by
  obtain ⟨h1, h2⟩ := h
  have a1 := bef_app 58 (headL f.k f.l) f.v (head_58 (may_ok h1))
  unfold rawL at h2
  rw [h2] at a1
  exact ⟨by rw [← h2]; simp, a1⟩
open Classical in
noncomputable def parF (s : List UInt8) : Fld := if h : ∃ f, Found s f then h.choose else noFld
open Classical in
noncomputable def parE (s : List UInt8) : Int := if ∃ f, Found s f then 0 else 1
theorem par_yes {s : List UInt8} {f : Fld} (h : Found s f) : parF s = f ∧ parE s = 0 := by
  have hx : ∃ f, Found s f := ⟨f, h⟩
  refine ⟨?_, by simp only [parE, if_pos hx]⟩
  rw [parF, dif_pos hx]
  exact found_uniq hx.choose_spec h
theorem par_no {s : List UInt8} (h : ∀ f, ¬ Found s f) : parF s = noFld ∧ parE s = 1 := by
  have hx : ¬ ∃ f, Found s f := fun ⟨f, hf⟩ => h f hf
  exact ⟨by rw [parF, dif_neg hx], by simp only [parE, if_neg hx]⟩
theorem par_or (s : List UInt8) : (∃ f, Found s f ∧ parF s = f ∧ parE s = 0) ∨ ((∀ f, ¬ Found s f) ∧ parF s = noFld ∧ parE s = 1) := by
  by_cases h : ∃ f, Found s f
  · obtain ⟨f, hf⟩ := h; exact .inl ⟨f, hf, par_yes hf⟩
  · have : ∀ f, ¬ Found s f := fun f hf => h ⟨f, hf⟩
    exact .inr ⟨this, par_no this⟩
theorem found_line {s : List UInt8} {f : Fld} (h : Found s f) : lineF f = s := (line_yes h.1).trans h.2
end Go.Proofs.YtogjokofmfpmgaaGreatDoor
namespace Go.Proofs.YtogjokofmfpmgaaGreatDoor
open Go.RowKit

theorem retSB {a b : ByteArray} {x y : Bool} (h : a = b) (k : x = y) : Ending.returned (.tuple #[.string a, .bool x]) = .returned (.tuple #[.string b, .bool y]) := by rw [h, k]
theorem retS {a b : ByteArray} (h : a = b) : Ending.returned (.string a) = .returned (.string b) := by rw [h]
def okL (k l : Int) : Prop := l = 0 ∨ ((l = 1 ∨ l = 2) ∧ (k = 3 ∨ k = 4)) ∨ (l = 3 ∧ k = 3)
instance (k l : Int) : Decidable (okL k l) := by unfold okL; infer_instance
theorem okKL_iff (k l : Int) : okKL k l ↔ (1 ≤ k ∧ k ≤ 6) ∧ okL k l := by unfold okKL okL; constructor <;> (intro h; omega)
def labV (k l : Int) : List UInt8 := if okL k l then labL l else []
theorem kindL_ne (k : Int) : kindL k = [] ↔ ¬ (1 ≤ k ∧ k ≤ 6) := by
  unfold kindL
  repeat' split
  all_goals (simp; try omega)

theorem kind_calls (k : Int) (w : World) : Calls Tryz.prog 114 #[.int .i64 k] w fun e w' => e = .returned (.string (bs (kindL k))) ∧ w = w' := by
  by_cases hh : k = 1 ∨ k = 2 ∨ k = 3 ∨ k = 4 ∨ k = 5 ∨ k = 6
  · rcases hh with rfl | rfl | rfl | rfl | rfl | rfl
    all_goals
      (go_enter Tryz.func114, Tryz.ntmps114
       go_wp2
       go_ret
       exact ⟨rfl, rfl⟩)
  · have n1 : (k == 1) = false := by simp; omega
    have n2 : (k == 2) = false := by simp; omega
    have n3 : (k == 3) = false := by simp; omega
    have n4 : (k == 4) = false := by simp; omega
    have n5 : (k == 5) = false := by simp; omega
    have n6 : (k == 6) = false := by simp; omega
    have HX := hd ((kindL_ne k).2 (by omega))
    clear hh
    go_enter Tryz.func114, Tryz.ntmps114
    go_wp2
    go_ret
    exact ⟨by rw [HX.o]; rfl, rfl⟩

set_option maxHeartbeats 1000000 in
theorem label_calls (k l : Int) (w : World) : Calls Tryz.prog 113 #[.int .i64 k, .int .i64 l] w fun e w' => e = .returned (.tuple #[.string (bs (labV k l)), .bool (decide (okL k l))]) ∧ w = w' := by
  by_cases hl : l = 0 ∨ l = 1 ∨ l = 2 ∨ l = 3
  · by_cases hk : k = 3 ∨ k = 4
    · rcases hl with rfl | rfl | rfl | rfl <;> rcases hk with rfl | rfl
      all_goals
        (go_enter Tryz.func113, Tryz.ntmps113
         go_wp2
         go_ret2
         exact ⟨retSB (by decide) (by decide), rfl⟩)
    · have n3 : (k == 3) = false := by simp; omega
      have n4 : (k == 4) = false := by simp; omega
      rcases hl with rfl | rfl | rfl | rfl
      · have e1 : okL k 0 := .inl rfl
        have HX := hd (show labV k 0 = [] ∧ decide (okL k 0) = true from ⟨by rw [labV, if_pos e1]; rfl, by simp [e1]⟩)
        clear hk e1
        go_enter Tryz.func113, Tryz.ntmps113
        go_wp2
        go_ret2
        exact ⟨retSB (by rw [HX.o.1]; rfl) HX.o.2.symm, rfl⟩
      · have e1 : ¬ okL k 1 := fun h => hk (by unfold okL at h; omega)
        have HX := hd (show labV k 1 = [] ∧ decide (okL k 1) = false from ⟨by rw [labV, if_neg e1], by simp [e1]⟩)
        clear hk e1
        go_enter Tryz.func113, Tryz.ntmps113
        go_wp2
        go_ret2
        exact ⟨retSB (by rw [HX.o.1]; rfl) HX.o.2.symm, rfl⟩
      · have e1 : ¬ okL k 2 := fun h => hk (by unfold okL at h; omega)
        have HX := hd (show labV k 2 = [] ∧ decide (okL k 2) = false from ⟨by rw [labV, if_neg e1], by simp [e1]⟩)
        clear hk e1
        go_enter Tryz.func113, Tryz.ntmps113
        go_wp2
        go_ret2
        exact ⟨retSB (by rw [HX.o.1]; rfl) HX.o.2.symm, rfl⟩
      · have e1 : ¬ okL k 3 := fun h => hk (by unfold okL at h; omega)
        have HX := hd (show labV k 3 = [] ∧ decide (okL k 3) = false from ⟨by rw [labV, if_neg e1], by simp [e1]⟩)
        clear hk e1
        go_enter Tryz.func113, Tryz.ntmps113
        go_wp2
        go_ret2
        exact ⟨retSB (by rw [HX.o.1]; rfl) HX.o.2.symm, rfl⟩
  · have e1 : ¬ okL k l := fun h => hl (by unfold okL at h; omega)
    have HX := hd (show labV k l = [] ∧ decide (okL k l) = false from ⟨by rw [labV, if_neg e1], by simp [e1]⟩)
    have n0 : (l == 0) = false := by simp; omega
    have n1 : (l == 1) = false := by simp; omega
    have n2 : (l == 2) = false := by simp; omega
    have n3 : (l == 3) = false := by simp; omega
    clear hl e1
    go_enter Tryz.func113, Tryz.ntmps113
    go_wp2
    go_ret2
    exact ⟨retSB (by rw [HX.o.1]; rfl) HX.o.2.symm, rfl⟩

theorem cutc_calls (c : UInt8) (s : ByteArray) (hs : s.size ≤ 1000000000) (w : World) (ht : Tbl w) : Calls Tryz.prog 104 #[.string s, .string ⟨#[c]⟩] w fun e w' => (e = .returned (if c ∈ s.data.toList then .tuple #[.string (bs (bef c s.data.toList)), .string (bs (aft c s.data.toList)), .bool true] else .tuple #[.string s, .string (bs []), .bool false])) ∧ Below w.heap.size w w' := by
  obtain ⟨m, hm⟩ := ht.2
  refine (Any.strings_Cut { laysM145 with } s ⟨#[c]⟩ m w (by omega) hm).mono ?_
  rintro e w' ⟨rfl, n, rfl⟩
  refine ⟨?_, bdrewN (Below.refl _ _) _⟩
  rw [show (⟨#[c]⟩ : ByteArray).data.toList = [c] from rfl, cut_one]
  by_cases h : c ∈ s.data.toList
  · rw [if_pos h, if_pos h]; rfl
  · rw [if_neg h, if_neg h]; rfl

end Go.Proofs.YtogjokofmfpmgaaGreatDoor
namespace Go.Proofs.YtogjokofmfpmgaaGreatDoor
open Go.RowKit Go.Lib

theorem less_cmp : ∀ a b : List UInt8, Op.bytesLess a b = decide (compareBytes a b < 0)
  | [], [] => by simp [Op.bytesLess, compareBytes]
  | [], _ :: _ => by simp [Op.bytesLess, compareBytes]
  | _ :: _, [] => by simp [Op.bytesLess, compareBytes]
  | a :: t1, b :: t2 => by
    rw [Op.bytesLess, cmp_cons, less_cmp t1 t2]
    by_cases h1 : a.toNat < b.toNat
    · have h : a < b := (u8_lt a b).2 h1
      simp [h1, h]
    · have h : ¬ a < b := fun h => h1 ((u8_lt a b).1 h)
      by_cases h2 : b.toNat < a.toNat
      · have hne : ¬ a = b := fun e => by rw [e] at h2; omega
        simp [h1, h2, h, hne]
      · have he : a = b := UInt8.toNat_inj.1 (by omega)
        subst he
        simp [h1]
theorem bytesLess_dec (a b : List UInt8) : Op.bytesLess (bs a).toList (bs b).toList = decide (compareBytes a b < 0) := by
  rw [less_cmp, toList_data, toList_data]
  rfl
theorem twoB (w : World) (o1 o2 : Obj) : Below w.heap.size w ((w.alloc o1).alloc o2) := ((Below.refl _ w).alloc (Nat.le_refl _) _).alloc (by simp) _
theorem retBB {a b : Bool} (h : a = b) : Ending.returned (.bool a) = .returned (.bool b) := by rw [h]

end Go.Proofs.YtogjokofmfpmgaaGreatDoor
