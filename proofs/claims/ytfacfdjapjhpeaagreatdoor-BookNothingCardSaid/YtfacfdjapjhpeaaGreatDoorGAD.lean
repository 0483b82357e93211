/-
  Days: leap years, months, what may be, numbers shown.
-/
import Derived.Test.YtfacfdjapjhpeaaGreatDoorGAC
import Derived.Test.YtfacfdjapjhpeaaGreatDoorProg
import Derived.BigQuiet
import Derived.Deep.QuietTactic
import Derived.StillTailTactics
import Derived.WalkLawsBesides
import Derived.Lib.LaidTab
import Derived.Test.YtfacfdjapjhpeaaGreatDoorGAA
import Derived.Test.YtfacfdjapjhpeaaGreatDoorBytesOrd
import Derived.Laws.Externs
import Derived.Lib.Bytealg
set_option linter.unusedVariables false
set_option linter.unusedSimpArgs false
namespace Go.Proofs.YtfacfdjapjhpeaaGreatDoor
open Go.RowKit

set_option maxHeartbeats 400000 in
theorem leap_calls (y : Int) (w : World) : Calls Tryz.prog 277 #[.int .i64 y] w fun e w' => e = .returned (.bool (leap y)) ∧ w = w' := by
  by_cases c1 : 1 ≤ y
  · by_cases c2 : y ≤ 9999
    · by_cases c3 : y % 4 = 0
      · have b3 : (y % 4 == 0) = true := by simpa using c3
        by_cases c4 : y % 100 = 0
        · have b4 : (y % 100 == 0) = true := by simpa using c4
          have b4' : (y % 100 != 0) = false := by simpa using c4
          by_cases c5 : y % 400 = 0
          · have b5 : (y % 400 == 0) = true := by simpa using c5
            have e1 : leap y = true := by simp [leap, c1, c2, c3, c5]
            rw [e1]
            clear c3 c4 c5 e1
            go_enter Tryz.func277, Tryz.ntmps277
            go_wp2
            go_ret
            exact ⟨rfl, rfl⟩
          · have b5 : (y % 400 == 0) = false := by simpa using c5
            have e1 : leap y = false := by simp [leap, c1, c2, c3, c4, c5]
            rw [e1]
            clear c3 c4 c5 e1
            go_enter Tryz.func277, Tryz.ntmps277
            go_wp2
            go_ret
            exact ⟨rfl, rfl⟩
        · have b4' : (y % 100 != 0) = true := by simpa using c4
          have e1 : leap y = true := by simp [leap, c1, c2, c3, c4]
          rw [e1]
          clear c3 c4 e1
          go_enter Tryz.func277, Tryz.ntmps277
          go_wp2
          go_ret
          exact ⟨rfl, rfl⟩
      · have b3 : (y % 4 == 0) = false := by simpa using c3
        have e1 : leap y = false := by simp [leap, c1, c2, c3]
        rw [e1]
        clear c3 e1
        go_enter Tryz.func277, Tryz.ntmps277
        go_wp2
        go_ret
        exact ⟨rfl, rfl⟩
    · have e1 : leap y = false := by simp [leap, c1, c2]
      rw [e1]
      clear e1
      go_enter Tryz.func277, Tryz.ntmps277
      go_wp2
      go_ret
      exact ⟨rfl, rfl⟩
  · have e1 : leap y = false := by simp [leap, c1]
    rw [e1]
    clear e1
    go_enter Tryz.func277, Tryz.ntmps277
    go_wp2
    go_ret
    exact ⟨rfl, rfl⟩

set_option maxHeartbeats 400000 in
theorem days_calls (y m : Int) (w : World) : Calls Tryz.prog 265 #[.int .i64 y, .int .i64 m] w fun e w' => e = .returned (.int .i64 (dm y m)) ∧ w = w' := by
  by_cases c0 : m = 4 ∨ m = 6 ∨ m = 9 ∨ m = 11
  · have e1 : dm y m = 30 := by simp [dm, c0]
    rw [e1]
    clear e1
    rcases c0 with rfl | rfl | rfl | rfl
    all_goals
      go_enter Tryz.func265, Tryz.ntmps265
      go_wp2
      go_ret
      exact ⟨rfl, rfl⟩
  · have n4 : (m == 4) = false := by simp; omega
    have n6 : (m == 6) = false := by simp; omega
    have n9 : (m == 9) = false := by simp; omega
    have n11 : (m == 11) = false := by simp; omega
    by_cases c1 : m = 2
    · subst c1
      by_cases c2 : y = 0
      · subst c2
        have e1 : dm 0 2 = 29 := by simp [dm]
        rw [e1]
        clear e1 c0 n4 n6 n9 n11
        go_enter Tryz.func265, Tryz.ntmps265
        go_wp2
        go_ret
        exact ⟨rfl, rfl⟩
      · have b2 : (y == 0) = false := by simpa using c2
        cases hl : leap y with
        | true =>
          have e1 : dm y 2 = 29 := by simp [dm, hl]
          rw [e1]
          have HL := hd hl
          clear e1 c0 n4 n6 n9 n11 c2 hl
          go_enter Tryz.func265, Tryz.ntmps265
          go_wp2_with fail
          refine (leap_calls y w).mono ?_
          rintro e w' ⟨rfl, rfl⟩
          rw [HL.o]
          go_wp2
          go_ret
          exact ⟨rfl, rfl⟩
        | false =>
          have e1 : dm y 2 = 28 := by simp [dm, hl, c2]
          rw [e1]
          have HL := hd hl
          clear e1 c0 n4 n6 n9 n11 c2 hl
          go_enter Tryz.func265, Tryz.ntmps265
          go_wp2_with fail
          refine (leap_calls y w).mono ?_
          rintro e w' ⟨rfl, rfl⟩
          rw [HL.o]
          go_wp2
          go_ret
          exact ⟨rfl, rfl⟩
    · have n2 : (m == 2) = false := by simpa using c1
      have e1 : dm y m = 31 := by simp [dm, c0, c1]
      rw [e1]
      clear e1 c0 c1
      go_enter Tryz.func265, Tryz.ntmps265
      go_wp2
      go_ret
      exact ⟨rfl, rfl⟩

set_option maxHeartbeats 400000 in
theorem may_calls (y m d : Int) (w : World) : Calls Tryz.prog 247 #[.agg #[.int .i64 y, .int .i64 m, .int .i64 d]] w fun e w' => e = .returned (.bool (mayB y m d)) ∧ Below w.heap.size w w' := by
  by_cases hh : 0 ≤ y ∧ y ≤ 9999 ∧ 1 ≤ m ∧ m ≤ 12 ∧ 1 ≤ d
  · obtain ⟨c1, c2, c3, c4, c5⟩ := hh
    have e1 : mayB y m d = decide (d ≤ dm y m) := by simp [mayB, c1, c2, c3, c4, c5]
    rw [e1]
    clear e1
    go_enter Tryz.func247, Tryz.ntmps247
    go_wp2_with fail
    go_quiet ((go_at_call 265; exact q1 (days_calls y m _)))
    go_wp2
    go_ret
    exact ⟨rfl, bdrewN ((Below.refl _ _).alloc (Nat.le_refl _) _) _⟩
  · have e1 : mayB y m d = false := by
      cases h : mayB y m d with
      | false => rfl
      | true => rw [mayB_iff] at h; omega
    rw [e1]
    clear e1
    have hc : y < 0 ∨ (0 ≤ y ∧ 9999 < y) ∨ (0 ≤ y ∧ y ≤ 9999 ∧ m < 1) ∨ (0 ≤ y ∧ y ≤ 9999 ∧ 1 ≤ m ∧ 12 < m) ∨ (0 ≤ y ∧ y ≤ 9999 ∧ 1 ≤ m ∧ m ≤ 12 ∧ d < 1) := by omega
    clear hh
    rcases hc with c1 | ⟨c1, c2⟩ | ⟨c1, c2, c3⟩ | ⟨c1, c2, c3, c4⟩ | ⟨c1, c2, c3, c4, c5⟩
    · have b : decide (0 ≤ y) = false := by simp; omega
      go_enter Tryz.func247, Tryz.ntmps247
      go_wp2_with fail
      go_quiet (fail)
      go_wp2
      go_ret
      exact ⟨rfl, bdrewN ((Below.refl _ _).alloc (Nat.le_refl _) _) _⟩
    · have b : decide (y ≤ 9999) = false := by simp; omega
      go_enter Tryz.func247, Tryz.ntmps247
      go_wp2_with fail
      go_quiet (fail)
      go_wp2
      go_ret
      exact ⟨rfl, bdrewN ((Below.refl _ _).alloc (Nat.le_refl _) _) _⟩
    · have b : decide (1 ≤ m) = false := by simp; omega
      go_enter Tryz.func247, Tryz.ntmps247
      go_wp2_with fail
      go_quiet (fail)
      go_wp2
      go_ret
      exact ⟨rfl, bdrewN ((Below.refl _ _).alloc (Nat.le_refl _) _) _⟩
    · have b : decide (m ≤ 12) = false := by simp; omega
      go_enter Tryz.func247, Tryz.ntmps247
      go_wp2_with fail
      go_quiet (fail)
      go_wp2
      go_ret
      exact ⟨rfl, bdrewN ((Below.refl _ _).alloc (Nat.le_refl _) _) _⟩
    · have b : decide (1 ≤ d) = false := by simp; omega
      go_enter Tryz.func247, Tryz.ntmps247
      go_wp2_with fail
      go_quiet (fail)
      go_wp2
      go_ret
      exact ⟨rfl, bdrewN ((Below.refl _ _).alloc (Nat.le_refl _) _) _⟩

/-- The table that strconv reads. -/
def Tab (w : World) : Prop := Lib.TabIs Tryz.prog w "internal/strconv.uint64pow10" .u64 Lib.pow10Tab

theorem itoa_calls (n : Int) (h0 : -9223372036854775808 ≤ n) (h1 : n ≤ 9223372036854775807) (w : World) (ht : Tab w) :
    Calls Tryz.prog 278 #[.int .i64 n] w fun e w' => e = .returned (.string ⟨(Lib.itoa n).toArray⟩) ∧ Below w.heap.size w w' := by
  refine (Any.strconv_Itoa laysM171 n h0 h1 w ht).mono ?_
  rintro e w' ⟨rfl, k, os, rfl⟩
  exact ⟨rfl, rfl, rfl, rfl, by simp [Go.Sort.grow], fun i hi => by rw [Go.Sort.heap_grow_old _ _ (by simpa using hi)]; rfl⟩
theorem itoa_small (n : Nat) (hn : n < 100) (w : World) :
    Calls Tryz.prog 278 #[.int .i64 n] w fun e w' => e = .returned (.string ⟨(Lib.decDigits n).toArray⟩) ∧ w = w' :=
  (Any.strconv_Itoa_small lays171 n hn w).mono fun _ _ ⟨he, hw⟩ => ⟨he, hw.symm⟩

def pad (k : Nat) (l : List UInt8) : List UInt8 := List.replicate (k - l.length) 48 ++ l

theorem digits_calls (n : Int) (k : Nat) (hk : k ≤ 4) (l : List UInt8) (hl : l.length ≤ 20) (w : World) (R : World → Prop) (h : Calls Tryz.prog 278 #[.int .i64 n] w fun e w' => e = .returned (.string ⟨l.toArray⟩) ∧ R w') :
    Calls Tryz.prog 266 #[.int .i64 n, .int .i64 k] w fun e w' => e = .returned (.string (bs (pad k l))) ∧ R w' := by
  go_enter Tryz.func266, Tryz.ntmps266
  go_wp2_with fail
  refine h.mono ?_
  rintro e w' ⟨rfl, hR⟩
  have HR := hd hR
  clear hR h
  go_wp2_with fail
  go_loop [5] (fun s => ∃ b : ByteArray, s = .string b ∧ b.size ≤ 24 ∧ Hd (∃ j, b.data.toList = List.replicate j 48 ++ l ∧ (j = 0 ∨ j + l.length ≤ k))) (fun s => match s with | .string b => k - b.size | _ => 0)
  case atStart => exact ⟨_, rfl, by simpa [ByteArray.size] using (by omega : l.length ≤ 24), 0, by simp, .inl rfl⟩
  case round =>
    obtain ⟨b, rfl, hb, hh⟩ := hrel
    by_cases hlt : b.size < k
    · go_wp2_with fail
      go_round
      case rel =>
        obtain ⟨j, hj, hjk⟩ := hh.o
        have hsz : ((⟨#[48]⟩ : ByteArray) ++ b).size = b.size + 1 := by rw [ba_size, ba_app, ba_size]; simp
        refine ⟨_, rfl, by omega, j + 1, ?_, .inr ?_⟩
        · rw [ba_app, hj, List.replicate_succ]; rfl
        · rw [ba_size, hj] at hlt; simp at hlt; omega
      case measure =>
        have hsz : ((⟨#[48]⟩ : ByteArray) ++ b).size = b.size + 1 := by rw [ba_size, ba_app, ba_size]; simp
        show k - _ < k - b.size
        omega
    · go_wp2_with fail
      go_ret
      refine ⟨ret_val (a := .string b) (congrArg Value.string (ba_ext ?_)), HR.o⟩
      obtain ⟨j, hj, hjk⟩ := hh.o
      show b.data.toList = pad k l
      rw [hj, pad]
      have : j = k - l.length := by rw [ba_size, hj] at hlt; simp at hlt; omega
      rw [this]

theorem dig_lt (n : Nat) (hn : n < 10) : Lib.decDigits n = [UInt8.ofNat (48 + n)] := by rw [Lib.decDigits]; simp [hn]
theorem dig_ge (n : Nat) (hn : 10 ≤ n) : Lib.decDigits n = Lib.decDigits (n / 10) ++ [UInt8.ofNat (48 + n % 10)] := by
  rw [Lib.decDigits]; simp [show ¬ n < 10 by omega]
def sh2 (n : Nat) : List UInt8 := [UInt8.ofNat (48 + n / 10 % 10), UInt8.ofNat (48 + n % 10)]
def sh4 (n : Nat) : List UInt8 := sh2 (n / 100) ++ sh2 n
theorem pad2 (n : Nat) (hn : n < 100) : pad 2 (Lib.decDigits n) = sh2 n := by
  by_cases h : n < 10
  · rw [dig_lt n h, sh2, show n / 10 % 10 = 0 by omega, show n % 10 = n by omega]; rfl
  · rw [dig_ge n (by omega), dig_lt (n / 10) (by omega), sh2, show n / 10 % 10 = n / 10 by omega]; rfl
theorem pad4 (n : Nat) (hn : n < 10000) : pad 4 (Lib.decDigits n) = sh4 n := by
  unfold sh4 sh2
  by_cases h : n < 10
  · rw [dig_lt n h, show n / 100 / 10 % 10 = 0 by omega, show n / 100 % 10 = 0 by omega, show n / 10 % 10 = 0 by omega, show n % 10 = n by omega]; rfl
  · rw [dig_ge n (by omega)]
    by_cases h2 : n < 100
    · rw [dig_lt (n / 10) (by omega), show n / 100 / 10 % 10 = 0 by omega, show n / 100 % 10 = 0 by omega, show n / 10 % 10 = n / 10 by omega]; rfl
    · rw [dig_ge (n / 10) (by omega)]
      by_cases h3 : n < 1000
      · rw [dig_lt (n / 10 / 10) (by omega), show n / 100 / 10 % 10 = 0 by omega, show n / 100 % 10 = n / 10 / 10 by omega]; rfl
      · rw [dig_ge (n / 10 / 10) (by omega), dig_lt (n / 10 / 10 / 10) (by omega), show n / 100 / 10 % 10 = n / 10 / 10 / 10 by omega, show n / 100 % 10 = n / 10 / 10 % 10 by omega]; rfl
theorem len4 (n : Nat) (hn : n < 10000) : (Lib.decDigits n).length ≤ 4 := by
  have := congrArg List.length (pad4 n hn)
  simp [pad, sh4, sh2] at this
  omega

theorem digits2 (n : Int) (h0 : 0 ≤ n) (h1 : n < 100) (w : World) :
    Calls Tryz.prog 266 #[.int .i64 n, .int .i64 2] w fun e w' => e = .returned (.string (bs (sh2 n.toNat))) ∧ w = w' := by
  obtain ⟨m, rfl⟩ := Int.eq_ofNat_of_zero_le h0
  rw [Int.toNat_natCast, ← pad2 m (by omega)]
  exact digits_calls m 2 (by omega) _ (by have := len4 m (by omega); omega) w (fun w' => w = w') (itoa_small m (by omega) w)

theorem digits4 (n : Int) (h0 : 0 ≤ n) (h1 : n ≤ 9999) (w : World) (ht : Tab w) :
    Calls Tryz.prog 266 #[.int .i64 n, .int .i64 4] w fun e w' => e = .returned (.string (bs (sh4 n.toNat))) ∧ Below w.heap.size w w' := by
  obtain ⟨m, rfl⟩ := Int.eq_ofNat_of_zero_le h0
  rw [Int.toNat_natCast, ← pad4 m (by omega)]
  have hi := itoa_calls (m : Int) (by omega) (by omega) w ht
  rw [show Lib.itoa (m : Int) = Lib.decDigits m by simp [Lib.itoa]] at hi
  exact digits_calls m 4 (by omega) _ (by have := len4 m (by omega); omega) w (fun w' => Below w.heap.size w w') hi

end Go.Proofs.YtfacfdjapjhpeaaGreatDoor
namespace Go.Proofs.YtfacfdjapjhpeaaGreatDoor
open Go.RowKit

/-- A date's text. -/
def showL (y m d : Int) : List UInt8 := if mayB y m d = true then (if y = 0 then [45] else sh4 y.toNat) ++ 45 :: (sh2 m.toNat ++ 45 :: sh2 d.toNat) else []

theorem Tab.below {w w' : World} (h : Tab w) (hb : Below w.heap.size w w') : Tab w' := by
  unfold Tab Lib.TabIs at *
  obtain ⟨g, hg⟩ : ∃ g, Tryz.prog.globalNamed "internal/strconv.uint64pow10" = some g := by
    cases hgn : Tryz.prog.globalNamed "internal/strconv.uint64pow10" with
    | none => simp [World.var?, hgn] at h
    | some g => exact ⟨g, rfl⟩
  simp only [World.var?, hg, Option.bind_some] at h ⊢
  rw [hb.block g ?_]
  · exact h
  · rcases Nat.lt_or_ge g w.heap.size with hlt | hge
    · exact hlt
    · simp [Array.getElem?_eq_none hge] at h

set_option maxHeartbeats 800000 in
theorem show_yes (y m d : Int) (w : World) (hm : mayB y m d = true) (ht : Tab w) : Calls Tryz.prog 248 #[.agg #[.int .i64 y, .int .i64 m, .int .i64 d]] w fun e w' => e = .returned (.string (bs (showL y m d))) ∧ Below w.heap.size w w' := by
  have hdm := dm_bd y m
  have hb := (mayB_iff y m d).1 hm
  obtain ⟨c1, c2, c3, c4, c5, c6⟩ := hb
  have c7 : d ≤ 31 := by omega
  clear c6 hdm
  have HM := hd hm
  clear hm
  have HT := hd ht
  clear ht
  have hcell : ∀ W, Below (w.alloc (.cells #[.int .i64 y, .int .i64 m, .int .i64 d] 292)).heap.size (w.alloc (.cells #[.int .i64 y, .int .i64 m, .int .i64 d] 292)) W → Blk W w.heap.size 292 #[.int .i64 y, .int .i64 m, .int .i64 d] := fun W hb => (Blk.new w _ _).below hb (by simp)
  have HC := hd hcell
  clear hcell
  have z1 : (bs (sh2 m.toNat)).size = 2 := rfl
  have z2 : (bs (sh2 d.toNat)).size = 2 := rfl
  have z3 : (bs (sh4 y.toNat)).size = 4 := rfl
  by_cases hy : y = 0
  · subst hy
    go_enter Tryz.func248, Tryz.ntmps248
    go_wp2_with fail
    refine (may_calls 0 m d _).mono ?_
    rintro e w1 ⟨rfl, hb⟩
    rw [HM.o]
    have hk := HC.o w1 hb
    have h0 := hk.at_ 0 rfl
    have h1 := hk.at_ 1 rfl
    have h2 := hk.at_ 2 rfl
    clear hk
    go_wp2_with fail
    go_quiet ((go_at_call 266; exact q1 (digits2 _ (by omega) (by omega) _)))
    go_wp2
    go_ret
    refine ⟨ret_val (congrArg Value.string (ba_ext ?_)), ?_⟩
    · simp [showL, HM.o, bs_data]
    · exact ((Below.refl _ w).alloc (Nat.le_refl _) _).trans ((bdrewN hb _).mono (by simp))
  · have hne : (y != 0) = true := by simpa using hy
    have HY := hd hy
    clear hy
    go_enter Tryz.func248, Tryz.ntmps248
    go_wp2_with fail
    refine (may_calls y m d _).mono ?_
    rintro e w1 ⟨rfl, hb⟩
    rw [HM.o]
    have hk := HC.o w1 hb
    have h0 := hk.at_ 0 rfl
    clear hk
    have hbw : Below w.heap.size w w1 := ((Below.refl _ w).alloc (Nat.le_refl _) _).trans (hb.mono (by simp))
    go_wp2_with fail
    refine (digits4 y c1 c2 w1 (HT.o.below hbw)).mono ?_
    rintro e w2 ⟨rfl, hb2⟩
    have hk := HC.o w2 (hb.trans (hb2.mono hb.size))
    have h1 := hk.at_ 1 rfl
    have h2 := hk.at_ 2 rfl
    clear hk
    go_wp2_with fail
    go_quiet ((go_at_call 266; exact q1 (digits2 _ (by omega) (by omega) _)))
    go_wp2
    go_ret
    refine ⟨ret_val (congrArg Value.string (ba_ext ?_)), ?_⟩
    · simp [showL, HM.o, HY.o, bs_data]
    · exact hbw.trans ((bdrewN hb2 _).mono hbw.size)

end Go.Proofs.YtfacfdjapjhpeaaGreatDoor
namespace Go.Proofs.YtfacfdjapjhpeaaGreatDoor
open Go.RowKit Go.Lib

structure Fld where
  k : Int
  l : Int
  v : List UInt8
deriving DecidableEq
def noFld : Fld := ⟨0, 0, []⟩
theorem fld_ext {f g : Fld} (h1 : f.k = g.k) (h2 : f.l = g.l) (h3 : f.v = g.v) : f = g := by
  cases f; cases g; simp at *; exact ⟨h1, h2, h3⟩
def fldV (f : Fld) : Value := .agg #[.int .i64 f.k, .int .i64 f.l, .string (bs f.v)]
def LessP (f g : Fld) : Prop := f.k < g.k ∨ (f.k = g.k ∧ (f.l < g.l ∨ (f.l = g.l ∧ compareBytes f.v g.v < 0)))
instance (f g : Fld) : Decidable (LessP f g) := by unfold LessP; infer_instance
def lessF (f g : Fld) : Bool := decide (LessP f g)
theorem less_irr (f : Fld) : ¬ LessP f f := by
  rintro (h | ⟨_, h | ⟨_, h⟩⟩)
  · omega
  · omega
  · rw [cmp_self] at h; omega
theorem less_trans {f g h : Fld} (h1 : LessP f g) (h2 : LessP g h) : LessP f h := by
  rcases h1 with h1 | ⟨e1, h1 | ⟨d1, h1⟩⟩ <;> rcases h2 with h2 | ⟨e2, h2 | ⟨d2, h2⟩⟩
  · left; omega
  · left; omega
  · left; omega
  · left; omega
  · right; exact ⟨by omega, .inl (by omega)⟩
  · right; exact ⟨by omega, .inl (by omega)⟩
  · left; omega
  · right; exact ⟨by omega, .inl (by omega)⟩
  · right; exact ⟨by omega, .inr ⟨by omega, cmp_trans h1 h2⟩⟩
theorem less_asym {f g : Fld} (h : LessP f g) : ¬ LessP g f := fun k => less_irr f (less_trans h k)
theorem less_tot {f g : Fld} (h : f ≠ g) : LessP f g ∨ LessP g f := by
  by_cases h1 : f.k < g.k
  · exact .inl (.inl h1)
  · by_cases h2 : g.k < f.k
    · exact .inr (.inl h2)
    · have e1 : f.k = g.k := by omega
      by_cases h3 : f.l < g.l
      · exact .inl (.inr ⟨e1, .inl h3⟩)
      · by_cases h4 : g.l < f.l
        · exact .inr (.inr ⟨e1.symm, .inl h4⟩)
        · have e2 : f.l = g.l := by omega
          have hv : f.v ≠ g.v := fun e => h (fld_ext e1 e2 e)
          by_cases h5 : compareBytes f.v g.v < 0
          · exact .inl (.inr ⟨e1, .inr ⟨e2, h5⟩⟩)
          · exact .inr (.inr ⟨e1.symm, .inr ⟨e2.symm, cmp_not h5 hv⟩⟩)
theorem less_not {f g : Fld} (h : ¬ LessP f g) (hn : f ≠ g) : LessP g f := (less_tot hn).resolve_left h


end Go.Proofs.YtfacfdjapjhpeaaGreatDoor
namespace Go.Proofs.YtfacfdjapjhpeaaGreatDoor
open Go.RowKit

def okKL (k l : Int) : Prop := 1 ≤ k ∧ k ≤ 6 ∧ (l = 0 ∨ ((l = 1 ∨ l = 2) ∧ (k = 3 ∨ k = 4)) ∨ (l = 3 ∧ k = 3))
instance (k l : Int) : Decidable (okKL k l) := by unfold okKL; infer_instance
def DayT (l : List UInt8) : Prop := ∃ y m d, mayB y m d = true ∧ showL y m d = l
noncomputable def valT (k : Int) (v : List UInt8) : List UInt8 := if k = 3 then telT v else if k = 4 then canT v else cleanT v
open Classical in
noncomputable def valE (k : Int) (v : List UInt8) : Int := if k = 3 then telE v else if k = 4 then canE v else if cleanE v = 0 ∧ k = 5 ∧ ¬ DayT (cleanT v) then 1 else cleanE v
noncomputable def fldE (f : Fld) : Int := if okKL f.k f.l then valE f.k f.v else 1
noncomputable def fldC (f : Fld) : Fld := if fldE f = 0 then ⟨f.k, f.l, valT f.k f.v⟩ else noFld
def MayF (f : Fld) : Prop := fldE f = 0 ∧ valT f.k f.v = f.v
open Classical in
noncomputable def mayF (f : Fld) : Bool := decide (MayF f)
theorem mayF_t {f : Fld} (h : MayF f) : mayF f = true := by simp [mayF, h]
theorem mayF_f {f : Fld} (h : ¬ MayF f) : mayF f = false := by simp [mayF, h]
def kindL (k : Int) : List UInt8 := if k = 1 then [110, 97, 109, 101] else if k = 2 then [111, 114, 103] else if k = 3 then [116, 101, 108] else if k = 4 then [109, 97, 105, 108] else if k = 5 then [100, 97, 121] else if k = 6 then [110, 111, 116, 101] else []
def labL (l : Int) : List UInt8 := if l = 1 then [59, 104, 111, 109, 101] else if l = 2 then [59, 119, 111, 114, 107] else if l = 3 then [59, 99, 101, 108, 108] else []
def headL (k l : Int) : List UInt8 := kindL k ++ labL l
def rawL (f : Fld) : List UInt8 := headL f.k f.l ++ 58 :: f.v
open Classical in
noncomputable def lineF (f : Fld) : List UInt8 := if MayF f then rawL f else []
theorem line_yes {f : Fld} (h : MayF f) : lineF f = rawL f := by simp [lineF, h]
theorem line_no {f : Fld} (h : ¬ MayF f) : lineF f = [] := by simp [lineF, h]

/-- The kinds and labels that go together. -/
def prs : List (Int × Int) := [(1, 0), (2, 0), (3, 0), (3, 1), (3, 2), (3, 3), (4, 0), (4, 1), (4, 2), (5, 0), (6, 0)]
theorem ok_prs {k l : Int} (h : okKL k l) : (k, l) ∈ prs := by
  obtain ⟨h1, h2, h3⟩ := h
  have hk : k = 1 ∨ k = 2 ∨ k = 3 ∨ k = 4 ∨ k = 5 ∨ k = 6 := by omega
  rcases h3 with rfl | ⟨h3, h4⟩ | ⟨rfl, rfl⟩
  · rcases hk with rfl | rfl | rfl | rfl | rfl | rfl <;> decide
  · rcases h3 with rfl | rfl <;> rcases h4 with rfl | rfl <;> decide
  · decide
theorem head_inj' : ∀ p ∈ prs, ∀ q ∈ prs, headL p.1 p.2 = headL q.1 q.2 → p = q := by decide
theorem head_58' : ∀ p ∈ prs, (58 : UInt8) ∉ headL p.1 p.2 := by decide
theorem head_10' : ∀ p ∈ prs, (10 : UInt8) ∉ headL p.1 p.2 := by decide
theorem head_len' : ∀ p ∈ prs, (headL p.1 p.2).length ≤ 9 := by decide
theorem head_inj {k l k' l' : Int} (h : okKL k l) (h' : okKL k' l') (e : headL k l = headL k' l') : k = k' ∧ l = l' := by
  have := head_inj' _ (ok_prs h) _ (ok_prs h') e
  simpa using this
theorem head_58 {k l : Int} (h : okKL k l) : (58 : UInt8) ∉ headL k l := head_58' _ (ok_prs h)
theorem head_10 {k l : Int} (h : okKL k l) : (10 : UInt8) ∉ headL k l := head_10' _ (ok_prs h)
theorem head_len {k l : Int} (h : okKL k l) : (headL k l).length ≤ 9 := head_len' _ (ok_prs h)

theorem fldE_ok {f : Fld} (h : fldE f = 0) : okKL f.k f.l ∧ valE f.k f.v = 0 := by
  unfold fldE at h
  split at h
  · next c => exact ⟨c, h⟩
  · omega
theorem may_ok {f : Fld} (h : MayF f) : okKL f.k f.l := (fldE_ok h.1).1

theorem can_twice {l : List UInt8} (h : canE l = 0) : canE (canT l) = 0 ∧ canT (canT l) = canT l :=
  ⟨(can_addr (can_ok h)).2, (can_addr (can_ok h)).1⟩
theorem tel_twice {l : List UInt8} (h : telE l = 0) : telE (telT l) = 0 ∧ telT (telT l) = telT l :=
  ⟨(tel_self (tel_ok h)).2, (tel_self (tel_ok h)).1⟩
theorem val_twice {k : Int} {v : List UInt8} (h : valE k v = 0) : valE k (valT k v) = 0 ∧ valT k (valT k v) = valT k v := by
  unfold valE valT at *
  by_cases k3 : k = 3
  · simp only [if_pos k3] at *; exact tel_twice h
  · by_cases k4 : k = 4
    · simp only [if_neg k3, if_pos k4] at *; exact can_twice h
    · simp only [if_neg k3, if_neg k4] at *
      by_cases c : cleanE v = 0 ∧ k = 5 ∧ ¬ DayT (cleanT v)
      · rw [if_pos c] at h; omega
      · rw [if_neg c] at h
        obtain ⟨e1, e2⟩ := clean_twice h
        rw [e1, e2]
        refine ⟨?_, rfl⟩
        rw [if_neg]
        rintro ⟨_, c2, c3⟩
        refine c ⟨h, c2, ?_⟩
        rw [if_neg k3, if_neg k4, e1] at c3
        exact c3
theorem val_len (k : Int) (v : List UInt8) (h : valE k v = 0) : (valT k v).length ≤ 64 := by
  unfold valE at h
  unfold valT
  by_cases k3 : k = 3
  · rw [if_pos k3] at *; have := (tel_len (tel_ok h)).2; omega
  · by_cases k4 : k = 4
    · rw [if_neg k3, if_pos k4] at *; exact (can_ok h).1
    · rw [if_neg k3, if_neg k4] at *; exact cleanT_len v
theorem val_sign {k : Int} {v : List UInt8} (h : valE k v = 0) : ∀ c ∈ valT k v, 32 ≤ c.toNat := by
  unfold valE at h
  unfold valT
  by_cases k3 : k = 3
  · rw [if_pos k3] at *; intro c hc; have := tel_sign (tel_ok h) c hc; omega
  · by_cases k4 : k = 4
    · rw [if_neg k3, if_pos k4] at *; intro c hc; have := addr_plain (can_ok h) c hc; omega
    · rw [if_neg k3, if_neg k4] at *
      split at h
      · omega
      · exact clean_ok0 h
theorem fldC_may {f : Fld} (h : fldE f = 0) : MayF (fldC f) := by
  obtain ⟨h1, h2⟩ := fldE_ok h
  obtain ⟨e1, e2⟩ := val_twice h2
  have e : fldC f = ⟨f.k, f.l, valT f.k f.v⟩ := by rw [fldC, if_pos h]
  rw [e]
  refine ⟨?_, e2⟩
  unfold fldE
  rw [if_pos h1]
  exact e1
theorem may_fldC {f : Fld} (h : MayF f) : fldC f = f := by
  rw [fldC, if_pos h.1]
  exact fld_ext rfl rfl h.2
theorem may_len {f : Fld} (h : MayF f) : f.v.length ≤ 64 := by
  rw [← h.2]; exact val_len _ _ (fldE_ok h.1).2
theorem may_sign {f : Fld} (h : MayF f) : ∀ c ∈ f.v, 32 ≤ c.toNat := by
  have := val_sign (fldE_ok h.1).2
  rwa [h.2] at this
theorem raw_len {f : Fld} (h : MayF f) : (rawL f).length ≤ 74 := by
  have h1 := head_len (may_ok h)
  have h2 := may_len h
  unfold rawL
  rw [List.length_append, List.length_cons]
  omega
theorem raw_10 {f : Fld} (h : MayF f) : (10 : UInt8) ∉ rawL f := by
  intro hm
  unfold rawL at hm
  rcases List.mem_append.1 hm with hm | hm
  · exact head_10 (may_ok h) hm
  · rcases List.mem_cons.1 hm with hm | hm
    · exact absurd hm (by decide)
    · have := may_sign h _ hm; simp at this
theorem line_len (f : Fld) : (lineF f).length ≤ 74 := by
  by_cases h : MayF f
  · rw [line_yes h]; exact raw_len h
  · rw [line_no h]; simp

/-- The field of a line. -/
def Found (s : List UInt8) (f : Fld) : Prop := MayF f ∧ rawL f = s
theorem found_uniq {s : List UInt8} {f g : Fld} (hf : Found s f) (hg : Found s g) : f = g := by
  have e := hf.2.trans hg.2.symm
  unfold rawL at e
  have a1 := bef_app 58 (headL f.k f.l) f.v (head_58 (may_ok hf.1))
  have a2 := bef_app 58 (headL g.k g.l) g.v (head_58 (may_ok hg.1))
  rw [e] at a1
  obtain ⟨e1, e2⟩ := head_inj (may_ok hf.1) (may_ok hg.1) (a1.1.symm.trans a2.1)
  exact fld_ext e1 e2 (a1.2.symm.trans a2.2)
theorem found_cut {s : List UInt8} {f : Fld} (h : Found s f) : (58 : UInt8) ∈ s ∧ bef 58 s = headL f.k f.l ∧ aft 58 s = f.v := by
  obtain ⟨h1, h2⟩ := h
  have a1 := bef_app 58 (headL f.k f.l) f.v (head_58 (may_ok h1))
  unfold rawL at h2
  rw [h2] at a1
  exact ⟨by rw [← h2]; simp, a1⟩
open Classical in
noncomputable def parF (s : List UInt8) : Fld := if h : ∃ f, Found s f then h.choose else noFld
open Classical in
noncomputable def parE (s : List UInt8) : Int := if ∃ f, Found s f then 0 else 1
theorem par_yes {s : List UInt8} {f : Fld} (h : Found s f) : parF s = f ∧ parE s = 0 := by
  have hx : ∃ f, Found s f := ⟨f, h⟩
  refine ⟨?_, by simp only [parE, if_pos hx]⟩
  rw [parF, dif_pos hx]
  exact found_uniq hx.choose_spec h
theorem par_no {s : List UInt8} (h : ∀ f, ¬ Found s f) : parF s = noFld ∧ parE s = 1 := by
  have hx : ¬ ∃ f, Found s f := fun ⟨f, hf⟩ => h f hf
  exact ⟨by rw [parF, dif_neg hx], by simp only [parE, if_neg hx]⟩
theorem par_or (s : List UInt8) : (∃ f, Found s f ∧ parF s = f ∧ parE s = 0) ∨ ((∀ f, ¬ Found s f) ∧ parF s = noFld ∧ parE s = 1) := by
  by_cases h : ∃ f, Found s f
  · obtain ⟨f, hf⟩ := h; exact .inl ⟨f, hf, par_yes hf⟩
  · have : ∀ f, ¬ Found s f := fun f hf => h ⟨f, hf⟩
    exact .inr ⟨this, par_no this⟩
theorem found_line {s : List UInt8} {f : Fld} (h : Found s f) : lineF f = s := (line_yes h.1).trans h.2
end Go.Proofs.YtfacfdjapjhpeaaGreatDoor
namespace Go.Proofs.YtfacfdjapjhpeaaGreatDoor
open Go.RowKit Go.Lib

def Rises (l : List Fld) : Prop := l.Pairwise LessP
theorem rises_ext : ∀ {l m : List Fld}, Rises l → Rises m → (∀ x, x ∈ l ↔ x ∈ m) → l = m
  | [], [], _, _, _ => rfl
  | [], b :: m, _, _, h => by have := (h b).2 (by simp); cases this
  | a :: l, [], _, _, h => by have := (h a).1 (by simp); cases this
  | a :: l, b :: m, hl, hm, h => by
    have l1 := (List.pairwise_cons.1 hl).1
    have m1 := (List.pairwise_cons.1 hm).1
    have e : a = b := by
      rcases List.mem_cons.1 ((h a).1 (by simp)) with e | e
      · exact e
      · rcases List.mem_cons.1 ((h b).2 (by simp)) with e' | e'
        · exact e'.symm
        · exact absurd (l1 b e') (less_asym (m1 a e))
    subst e
    have := rises_ext (List.pairwise_cons.1 hl).2 (List.pairwise_cons.1 hm).2 (fun x => by
      constructor
      · intro hx
        rcases List.mem_cons.1 ((h x).1 (by simp [hx])) with e | e
        · exact absurd (l1 x hx) (by rw [e]; exact less_irr a)
        · exact e
      · intro hx
        rcases List.mem_cons.1 ((h x).2 (by simp [hx])) with e | e
        · exact absurd (m1 x hx) (by rw [e]; exact less_irr a)
        · exact e)
    rw [this]

/-- Put where it belongs, unless it is there. -/
def putF (x : Fld) : List Fld → List Fld
  | [] => [x]
  | y :: t => if LessP y x then y :: putF x t else x :: y :: t
def insF (o : List Fld) (x : Fld) : List Fld := if x ∈ o then o else putF x o
theorem mem_putF (x : Fld) : ∀ (o : List Fld) (y : Fld), y ∈ putF x o ↔ y = x ∨ y ∈ o
  | [], y => by simp [putF]
  | z :: t, y => by
    unfold putF
    split
    · rw [List.mem_cons, mem_putF x t y, List.mem_cons]
      constructor
      · rintro (h | h | h)
        · exact .inr (.inl h)
        · exact .inl h
        · exact .inr (.inr h)
      · rintro (h | h | h)
        · exact .inr (.inl h)
        · exact .inl h
        · exact .inr (.inr h)
    · simp
theorem putF_rises (x : Fld) : ∀ (o : List Fld), Rises o → x ∉ o → Rises (putF x o)
  | [], _, _ => by simp [putF, Rises]
  | y :: t, h, hn => by
    have h1 := (List.pairwise_cons.1 h).1
    have h2 := (List.pairwise_cons.1 h).2
    unfold putF
    split
    · next hl =>
      refine List.pairwise_cons.2 ⟨fun z hz => ?_, putF_rises x t h2 (fun hm => hn (by simp [hm]))⟩
      rcases (mem_putF x t z).1 hz with rfl | hz
      · exact hl
      · exact h1 z hz
    · next hl =>
      have hxy : LessP x y := less_not hl (fun e => hn (by simp [e]))
      refine List.pairwise_cons.2 ⟨fun z hz => ?_, h⟩
      rcases List.mem_cons.1 hz with rfl | hz
      · exact hxy
      · exact less_trans hxy (h1 z hz)
theorem putF_len (x : Fld) : ∀ o : List Fld, (putF x o).length = o.length + 1
  | [] => rfl
  | y :: t => by unfold putF; split <;> simp [putF_len x t]
theorem mem_insF (o : List Fld) (x y : Fld) : y ∈ insF o x ↔ y ∈ o ∨ y = x := by
  unfold insF
  split
  · next h => constructor
              · exact .inl
              · rintro (h' | rfl); exact h'; exact h
  · rw [mem_putF]; exact Or.comm
theorem insF_rises {o : List Fld} (h : Rises o) (x : Fld) : Rises (insF o x) := by
  unfold insF
  split
  · exact h
  · next hn => exact putF_rises x o h hn
theorem insF_len (o : List Fld) (x : Fld) : (insF o x).length ≤ o.length + 1 := by
  unfold insF
  split
  · omega
  · rw [putF_len]; exact Nat.le_refl _
def riseF (l : List Fld) : List Fld := l.foldl insF []
theorem fold_ins : ∀ (l o : List Fld), Rises o → Rises (l.foldl insF o) ∧ (∀ y, y ∈ l.foldl insF o ↔ y ∈ o ∨ y ∈ l) ∧ (l.foldl insF o).length ≤ o.length + l.length
  | [], o, h => ⟨h, fun y => by simp, by simp⟩
  | x :: t, o, h => by
    obtain ⟨h1, h2, h3⟩ := fold_ins t (insF o x) (insF_rises h x)
    refine ⟨h1, fun y => ?_, ?_⟩
    · rw [List.foldl_cons, h2 y, mem_insF, List.mem_cons]
      constructor
      · rintro ((h | h) | h)
        · exact .inl h
        · exact .inr (.inl h)
        · exact .inr (.inr h)
      · rintro (h | h | h)
        · exact .inl (.inl h)
        · exact .inl (.inr h)
        · exact .inr h
    · have := insF_len o x
      rw [List.foldl_cons, List.length_cons]
      omega
theorem rise_rises (l : List Fld) : Rises (riseF l) := (fold_ins l [] List.Pairwise.nil).1
theorem mem_rise (l : List Fld) (y : Fld) : y ∈ riseF l ↔ y ∈ l := by
  have := (fold_ins l [] List.Pairwise.nil).2.1 y
  unfold riseF
  simpa using this
theorem rise_len (l : List Fld) : (riseF l).length ≤ l.length := by
  have := (fold_ins l [] List.Pairwise.nil).2.2
  unfold riseF
  simpa using this
theorem rise_self {l : List Fld} (h : Rises l) : riseF l = l := rises_ext (rise_rises l) h (mem_rise l)
theorem rise_of {l m : List Fld} (h : Rises m) (hm : ∀ x, x ∈ m ↔ x ∈ l) : m = riseF l := rises_ext h (rise_rises l) (fun x => (hm x).trans (mem_rise l x).symm)
/-- Neighbours that are alike, once. -/
def dd1 (o : List Fld) (x : Fld) : List Fld := if o.getLast? = some x then o else o ++ [x]
def dedup (l : List Fld) : List Fld := l.foldl dd1 []
theorem dedup_take (l : List Fld) (k : Nat) (h : k < l.length) : dedup (l.take (k + 1)) = dd1 (dedup (l.take k)) l[k] := by
  unfold dedup
  rw [List.take_succ_eq_append_getElem h, List.foldl_append]
  rfl
theorem dd1_last (o : List Fld) (x : Fld) : (dd1 o x).getLast? = some x := by
  unfold dd1
  split
  · next h => exact h
  · simp
theorem dedup_last (l : List Fld) (k : Nat) (h : k < l.length) : (dedup (l.take (k + 1))).getLast? = some l[k] := by
  rw [dedup_take l k h, dd1_last]
theorem dedup_same (l : List Fld) (k : Nat) (h : k + 1 < l.length) (e : l[k + 1] = l[k]) : dedup (l.take (k + 2)) = dedup (l.take (k + 1)) := by
  rw [dedup_take l (k + 1) h, dd1, if_pos]
  rw [dedup_last l k (by omega), e]
theorem dedup_new (l : List Fld) (k : Nat) (h : k + 1 < l.length) (e : l[k + 1] ≠ l[k]) : dedup (l.take (k + 2)) = dedup (l.take (k + 1)) ++ [l[k + 1]] := by
  rw [dedup_take l (k + 1) h, dd1, if_neg]
  rw [dedup_last l k (by omega)]
  intro h; injection h with h; exact e h.symm
theorem dedup_one (l : List Fld) (h : 0 < l.length) : dedup (l.take 1) = l.take 1 := by
  cases l with
  | nil => simp at h
  | cons a t => simp [dedup, dd1]
theorem dedup_facts : ∀ (l o : List Fld), Rises o → (∀ x ∈ o, ∀ y ∈ l, ¬ LessP y x) → l.Pairwise (fun x y => ¬ LessP y x) →
    Rises (l.foldl dd1 o) ∧ ∀ y, y ∈ l.foldl dd1 o ↔ y ∈ o ∨ y ∈ l
  | [], o, h, _, _ => ⟨h, fun y => by simp⟩
  | x :: t, o, h, h1, h2 => by
    have p1 := (List.pairwise_cons.1 h2).1
    have p2 := (List.pairwise_cons.1 h2).2
    rw [List.foldl_cons]
    have hm : ∀ y, y ∈ dd1 o x ↔ y ∈ o ∨ y = x := by
      intro y
      unfold dd1
      split
      · next hl =>
        have := List.mem_of_getLast? hl
        constructor
        · exact .inl
        · rintro (h | rfl); exact h; exact this
      · simp
    have hr : Rises (dd1 o x) := by
      unfold dd1
      split
      · exact h
      · next hl =>
        refine List.pairwise_append.2 ⟨h, by simp, fun a ha b hb => ?_⟩
        have hb : b = x := by simpa using hb
        subst hb
        have hn := h1 a ha b (by simp)
        by_cases e : a = b
        · subst e
          exfalso
          rcases List.eq_nil_or_concat o with rfl | ⟨o', z, rfl⟩
          · cases ha
          · rw [List.concat_eq_append] at *
            have hz : z ≠ a := fun e => hl (by simp [e])
            rcases List.mem_append.1 ha with ha' | ha'
            · have := (List.pairwise_append.1 h).2.2 a ha' z (by simp)
              exact h1 z (by simp) a (by simp) this
            · exact hz (List.mem_singleton.1 ha').symm
        · exact less_not hn (fun e' => e e'.symm)
    obtain ⟨r1, r2⟩ := dedup_facts t (dd1 o x) hr (fun a ha y hy => by
      rcases (hm a).1 ha with ha | rfl
      · exact h1 a ha y (by simp [hy])
      · exact p1 y hy) p2
    refine ⟨r1, fun y => ?_⟩
    rw [r2 y, hm y, List.mem_cons]
    constructor
    · rintro ((h | h) | h)
      · exact .inl h
      · exact .inr (.inl h)
      · exact .inr (.inr h)
    · rintro (h | h | h)
      · exact .inl (.inl h)
      · exact .inl (.inr h)
      · exact .inr h
/-- Sorted, then each once: that is the order. -/
theorem dedup_sorted {l m : List Fld} (hp : m.Perm l) (hs : m.Pairwise (fun x y => ¬ LessP y x)) : dedup m = riseF l := by
  obtain ⟨h1, h2⟩ := dedup_facts m [] List.Pairwise.nil (fun x hx => by cases hx) hs
  refine rise_of h1 (fun x => ?_)
  rw [show x ∈ dedup m ↔ x ∈ [] ∨ x ∈ m from h2 x]
  simp [hp.mem_iff]

/-- The first error. -/
noncomputable def errL : List Fld → Int
  | [] => 0
  | f :: t => if fldE f = 0 then errL t else fldE f
def cntK (k : Int) (l : List Fld) : Nat := l.countP (fun f => decide (f.k = k))
noncomputable def textL (l : List Fld) : List UInt8 := l.flatMap (fun f => lineF f ++ [10])
noncomputable def cans (l : List Fld) : List Fld := riseF (l.map fldC)
def CntP (l : List Fld) : Prop := cntK 1 l = 1 ∧ cntK 2 l ≤ 1 ∧ cntK 5 l ≤ 1
instance (l : List Fld) : Decidable (CntP l) := by unfold CntP; infer_instance
noncomputable def cardE (l : List Fld) : Int :=
  if errL l ≠ 0 then errL l else if 12 < (cans l).length then 2 else if ¬ CntP (cans l) then 1 else if 900 < (textL (cans l)).length then 2 else 0
noncomputable def cardC (l : List Fld) : List Fld := if cardE l = 0 then cans l else []
noncomputable def cardT (l : List Fld) : List UInt8 := if cardE l = 0 then textL (cans l) else []
theorem errL_0 : ∀ {l : List Fld}, errL l = 0 → ∀ f ∈ l, fldE f = 0
  | [], _, f, hf => by cases hf
  | g :: t, h, f, hf => by
    unfold errL at h
    split at h
    · next c =>
      rcases List.mem_cons.1 hf with rfl | hf
      · exact c
      · exact errL_0 h f hf
    · next c => exact absurd h c
theorem errL_of : ∀ {l : List Fld}, (∀ f ∈ l, fldE f = 0) → errL l = 0
  | [], _ => rfl
  | g :: t, h => by
    unfold errL
    rw [if_pos (h g (by simp))]
    exact errL_of (fun f hf => h f (by simp [hf]))
theorem cardE_0 {l : List Fld} (h : cardE l = 0) : errL l = 0 ∧ (cans l).length ≤ 12 ∧ CntP (cans l) ∧ (textL (cans l)).length ≤ 900 := by
  unfold cardE at h
  split at h
  · next c => exact absurd h c
  · next c =>
    split at h
    · omega
    · split at h
      · omega
      · next c3 =>
        split at h
        · omega
        · exact ⟨Decidable.not_not.1 c, by omega, Decidable.not_not.1 c3, by omega⟩
theorem cardE_of {l : List Fld} (h1 : errL l = 0) (h2 : (cans l).length ≤ 12) (h3 : CntP (cans l)) (h4 : (textL (cans l)).length ≤ 900) : cardE l = 0 := by
  unfold cardE
  rw [if_neg (by simp [h1]), if_neg (by omega), if_neg (by simp [h3]), if_neg (by omega)]
def AllMay (l : List Fld) : Prop := ∀ f ∈ l, MayF f
theorem map_may {l : List Fld} (h : AllMay l) : l.map fldC = l := by
  induction l with
  | nil => rfl
  | cons a t ih =>
    rw [List.map_cons, may_fldC (h a (by simp)), ih (fun f hf => h f (by simp [hf]))]
theorem cans_may {l : List Fld} (h : errL l = 0) : AllMay (cans l) := by
  intro f hf
  obtain ⟨g, hg, rfl⟩ := List.mem_map.1 ((mem_rise _ f).1 hf)
  exact fldC_may (errL_0 h g hg)
/-- A card's fields. -/
def CardOk (l : List Fld) : Prop := cardE l = 0 ∧ cans l = l
theorem cans_self {l : List Fld} (h : AllMay l) (hr : Rises l) : cans l = l := by
  rw [cans, map_may h, rise_self hr]
theorem ok_may {l : List Fld} (h : CardOk l) : AllMay l := by
  have := cans_may (cardE_0 h.1).1
  rwa [h.2] at this
theorem textL_cons (f : Fld) (t : List Fld) (h : MayF f) : textL (f :: t) = rawL f ++ 10 :: textL t := by
  unfold textL
  rw [List.flatMap_cons, line_yes h]
  simp
theorem textL_app (a b : List Fld) : textL (a ++ b) = textL a ++ textL b := by
  unfold textL; rw [List.flatMap_append]
theorem textL_snoc (a : List Fld) (f : Fld) : textL (a ++ [f]) = textL a ++ (lineF f ++ [10]) := by
  rw [textL_app]; simp [textL]
theorem textL_take (l : List Fld) (k : Nat) (h : k < l.length) : textL (l.take (k + 1)) = textL (l.take k) ++ (lineF l[k] ++ [10]) := by
  rw [List.take_succ_eq_append_getElem h, textL_snoc]
theorem textL_len : ∀ l : List Fld, (textL l).length ≤ l.length * 75
  | [] => by simp [textL]
  | f :: t => by
    have := textL_len t
    have := line_len f
    unfold textL at *
    rw [List.flatMap_cons, List.length_append, List.length_append, List.length_cons]
    simp only [List.length_cons, List.length_nil]
    omega
theorem app_uniq1 (c : UInt8) {a b a' b' : List UInt8} (h : a ++ c :: b = a' ++ c :: b') (ha : c ∉ a) (ha' : c ∉ a') : a = a' ∧ b = b' := by
  obtain ⟨e1, e2⟩ := bef_app c a b ha
  obtain ⟨e3, e4⟩ := bef_app c a' b' ha'
  rw [h] at e1 e2
  exact ⟨e1.symm.trans e3, e2.symm.trans e4⟩
/-- What a text begins with. -/
theorem text_split : ∀ (l m : List Fld) (r : List UInt8), AllMay l → AllMay m → textL m = textL l ++ r → ∃ m', m = l ++ m' ∧ textL m' = r
  | [], m, r, _, _, h => ⟨m, rfl, by simpa [textL] using h⟩
  | f :: t, [], r, hl, _, h => by
    rw [textL_cons f t (hl f (by simp))] at h
    have := congrArg List.length h
    simp [textL] at this
  | f :: t, g :: m, r, hl, hm, h => by
    have hf := hl f (by simp)
    have hg := hm g (by simp)
    rw [textL_cons f t hf, textL_cons g m hg, List.append_assoc, List.cons_append] at h
    obtain ⟨e1, e2⟩ := app_uniq1 10 h (raw_10 hg) (raw_10 hf)
    have e : g = f := found_uniq (s := rawL g) ⟨hg, rfl⟩ ⟨hf, e1.symm⟩
    subst e
    obtain ⟨m', h1, h2⟩ := text_split t m r (fun f hf => hl f (by simp [hf])) (fun f hf => hm f (by simp [hf])) e2
    exact ⟨m', by rw [h1]; rfl, h2⟩
theorem text_nil {m : List Fld} (hm : AllMay m) (h : (10 : UInt8) ∉ textL m) : m = [] := by
  cases m with
  | nil => rfl
  | cons g m => rw [textL_cons g m (hm g (by simp))] at h; simp at h
theorem text_inj {l m : List Fld} (hl : AllMay l) (hm : AllMay m) (h : textL m = textL l) : m = l := by
  obtain ⟨m', e, h'⟩ := text_split l m [] hl hm (by simpa using h)
  have := text_nil (m := m') (fun f hf => hm f (by rw [e]; simp [hf])) (by rw [h']; simp)
  rw [e, this, List.append_nil]
/-- The fields that a text is parsed to. -/
def Reads (s : List UInt8) (l : List Fld) : Prop := CardOk l ∧ textL l = s
theorem reads_uniq {s : List UInt8} {l m : List Fld} (h : Reads s l) (h' : Reads s m) : m = l := text_inj (ok_may h.1) (ok_may h'.1) (h'.2.trans h.2.symm)
open Classical in
noncomputable def crdF (s : List UInt8) : List Fld := if h : ∃ l, Reads s l then h.choose else []
open Classical in
noncomputable def crdE (s : List UInt8) : Int := if ∃ l, Reads s l then 0 else 1
theorem crd_yes {s : List UInt8} {l : List Fld} (h : Reads s l) : crdF s = l ∧ crdE s = 0 := by
  have hx : ∃ f, Reads s f := ⟨l, h⟩
  refine ⟨?_, by simp only [crdE, if_pos hx]⟩
  rw [crdF, dif_pos hx]
  exact (reads_uniq h hx.choose_spec)
theorem crd_no {s : List UInt8} (h : ∀ f, ¬ Reads s f) : crdF s = [] ∧ crdE s = 1 := by
  have hx : ¬ ∃ f, Reads s f := fun ⟨f, hf⟩ => h f hf
  exact ⟨by rw [crdF, dif_neg hx], by simp only [crdE, if_neg hx]⟩
theorem crd_or (s : List UInt8) : (∃ l, Reads s l ∧ crdF s = l ∧ crdE s = 0) ∨ ((∀ l, ¬ Reads s l) ∧ crdF s = [] ∧ crdE s = 1) := by
  by_cases h : ∃ f, Reads s f
  · obtain ⟨f, hf⟩ := h; exact .inl ⟨f, hf, crd_yes hf⟩
  · have : ∀ f, ¬ Reads s f := fun f hf => h ⟨f, hf⟩
    exact .inr ⟨this, crd_no this⟩
theorem reads_len {s : List UInt8} {l : List Fld} (h : Reads s l) : s.length ≤ 900 ∧ l.length ≤ 12 := by
  have := cardE_0 h.1.1
  rw [h.1.2] at this
  exact ⟨by rw [← h.2]; exact this.2.2.2, this.2.1⟩
/-- The lines so far, and what is left. -/
theorem reads_line {s : List UInt8} {l m : List Fld} {r : List UInt8} (hl : AllMay l) (hs : s = textL l ++ r) (h : Reads s m) : ∃ m', m = l ++ m' ∧ textL m' = r ∧ AllMay m' := by
  obtain ⟨m', e, h'⟩ := text_split l m r hl (ok_may h.1) (h.2.trans hs)
  exact ⟨m', e, h', fun f hf => ok_may h.1 f (by rw [e]; simp [hf])⟩
theorem reads_cut {s : List UInt8} {l m : List Fld} {a b : List UInt8} (hl : AllMay l) (hs : s = textL l ++ (a ++ 10 :: b)) (ha : (10 : UInt8) ∉ a) (h : Reads s m) : ∃ f, Found a f := by
  obtain ⟨m', e, h', hm⟩ := reads_line hl hs h
  cases m' with
  | nil => have := congrArg List.length h'; simp [textL] at this
  | cons g t =>
    have hg := hm g (by simp)
    rw [textL_cons g t hg] at h'
    obtain ⟨e1, _⟩ := app_uniq1 10 h' (raw_10 hg) ha
    exact ⟨g, hg, e1⟩
theorem reads_end {s : List UInt8} {l m : List Fld} {r : List UInt8} (hl : AllMay l) (hs : s = textL l ++ r) (hr : (10 : UInt8) ∉ r) (h : Reads s m) : m = l ∧ r = [] := by
  obtain ⟨m', e, h', hm⟩ := reads_line hl hs h
  have := text_nil hm (by rw [h']; exact hr)
  subst this
  exact ⟨by rw [e, List.append_nil], by rw [← h']; rfl⟩
/-- What is checked at the end. -/
theorem reads_of {s : List UInt8} {l : List Fld} {r : List UInt8} (hl : AllMay l) (hs : s = textL l ++ r) (he : cardE l = 0) (ht : cardT l = s) : Reads s l := by
  rw [cardT, if_pos he] at ht
  have hm := cans_may (cardE_0 he).1
  obtain ⟨m', e, h'⟩ := text_split l (cans l) r hl hm (ht.trans hs)
  have hlen := rise_len (l.map fldC)
  rw [List.length_map] at hlen
  have e2 := congrArg List.length e
  rw [List.length_append] at e2
  have : m' = [] := List.eq_nil_of_length_eq_zero (by unfold cans at e2; omega)
  subst this
  rw [List.append_nil] at e
  exact ⟨⟨he, e⟩, by rw [← ht, e]⟩
theorem reads_text {s : List UInt8} {l : List Fld} (h : Reads s l) : cardE l = 0 ∧ cardT l = s := ⟨h.1.1, by rw [cardT, if_pos h.1.1, h.1.2]; exact h.2⟩
end Go.Proofs.YtfacfdjapjhpeaaGreatDoor
namespace Go.Proofs.YtfacfdjapjhpeaaGreatDoor
open Go.RowKit

/-- A request. -/
structure Rq where
  k : Int
  tn : List UInt8
  col : List UInt8
  uid : List UInt8
  card : List UInt8
  ck : Int
  cv : Int
  ops : List OpV
  tok : Int
  most : Int
  ticks : Int
  deriving DecidableEq
/-- Which fields a kind has. -/
def hT (k : Int) : Bool := decide (k = 1)
def hC (k : Int) : Bool := decide (2 ≤ k) && decide (k ≤ 9)
def hU (k : Int) : Bool := decide (4 ≤ k) && decide (k ≤ 6)
def hCd (k : Int) : Bool := decide (k = 4)
def hCn (k : Int) : Bool := decide (4 ≤ k) && decide (k ≤ 5)
def hO (k : Int) : Bool := decide (k = 7)
def hTk (k : Int) : Bool := decide (8 ≤ k) && decide (k ≤ 9)
def hM (k : Int) : Bool := decide (k = 8)
def hTi (k : Int) : Bool := decide (k = 9)
def isK (k : Int) : Bool := decide (1 ≤ k) && decide (k ≤ 11)
def writesK (k : Int) : Bool := decide (2 ≤ k) && decide (k ≤ 5) || decide (k = 7)

/-- Names. -/
def lowC (c : Nat) : Prop := 97 ≤ c ∧ c ≤ 122
def nameC (c : Nat) : Prop := lowC c ∨ (48 ≤ c ∧ c ≤ 57) ∨ c = 45
def uidC (c : Nat) : Prop := lowC c ∨ (65 ≤ c ∧ c ≤ 90) ∨ (48 ≤ c ∧ c ≤ 57) ∨ c = 45 ∨ c = 46 ∨ c = 95 ∨ c = 64
instance (c : Nat) : Decidable (lowC c) := by unfold lowC; infer_instance
instance (c : Nat) : Decidable (nameC c) := by unfold nameC; infer_instance
instance (c : Nat) : Decidable (uidC c) := by unfold uidC; infer_instance
def NameP (s : List UInt8) : Prop := 1 ≤ s.length ∧ s.length ≤ 16 ∧ lowC (s.headD 0).toNat ∧ (s.getLastD 0).toNat ≠ 45 ∧ ∀ c ∈ s, nameC c.toNat
def UidP (s : List UInt8) : Prop := 1 ≤ s.length ∧ s.length ≤ 24 ∧ ∀ c ∈ s, uidC c.toNat
instance (s : List UInt8) : Decidable (NameP s) := by unfold NameP; infer_instance
instance (s : List UInt8) : Decidable (UidP s) := by unfold UidP; infer_instance
def nameB (s : List UInt8) : Bool := decide (NameP s)
def uidB (s : List UInt8) : Bool := decide (UidP s)

/-- Why a request may not be. -/
def strayB (q : Rq) : Bool :=
  (!hT q.k && decide (q.tn ≠ [])) || (!hC q.k && decide (q.col ≠ [])) || (!hU q.k && decide (q.uid ≠ [])) || (!hCd q.k && decide (q.card ≠ [])) ||
  (!hCn q.k && (decide (q.ck ≠ 0) || decide (q.cv ≠ 0))) || (!hO q.k && decide (q.ops ≠ [])) || (!hTk q.k && decide (q.tok ≠ 0)) || (!hM q.k && decide (q.most ≠ 0)) || (!hTi q.k && decide (q.ticks ≠ 0)) ||
  q.ops.any (fun o => o.del && decide (o.card ≠ []))
def namedB (q : Rq) : Bool := (!hT q.k || nameB q.tn) && (!hC q.k || nameB q.col) && (!hU q.k || uidB q.uid) && q.ops.all (fun o => uidB o.uid)
noncomputable def isB (s : List UInt8) : Bool := decide (crdE s = 0)
noncomputable def formedB (q : Rq) : Bool := (!hCd q.k || isB q.card) && (!hCn q.k || mayP q.ck q.cv) && q.ops.all (fun o => (o.del || isB o.card) && mayP o.ck o.cv)
def outB (q : Rq) : Bool := (hO q.k && (decide (q.ops.length < 1) || decide (8 < q.ops.length))) || decide (q.tok < 0) || (hM q.k && (decide (q.most < 1) || decide (1000 < q.most))) || decide (q.ticks < 0) || decide (1048576 < q.ticks)
noncomputable def chk (q : Rq) : Int :=
  if isK q.k = false then 12 else if strayB q = true then 1 else if namedB q = false then 3 else if formedB q = false then 1 else if outB q = true then 12 else 0
theorem chk_0 {q : Rq} (h : chk q = 0) : isK q.k = true ∧ strayB q = false ∧ namedB q = true ∧ formedB q = true ∧ outB q = false := by
  unfold chk at h
  cases h1 : isK q.k <;> cases h2 : strayB q <;> cases h3 : namedB q <;> cases h4 : formedB q <;> cases h5 : outB q <;> simp [h1, h2, h3, h4, h5] at h ⊢

/-- What can stand in bytes. -/
def RawOp (o : OpV) : Prop := o.uid.length ≤ 20000 ∧ o.card.length ≤ 20000 ∧ (o.del = true → o.card = []) ∧ 0 ≤ o.ck ∧ o.ck ≤ 2147483647 ∧ 0 ≤ o.cv ∧ o.cv < 2 ^ 63
structure RawOk (q : Rq) : Prop where
  tn : q.tn.length ≤ 20000 ∧ (hT q.k = false → q.tn = [])
  col : q.col.length ≤ 20000 ∧ (hC q.k = false → q.col = [])
  uid : q.uid.length ≤ 20000 ∧ (hU q.k = false → q.uid = [])
  card : q.card.length ≤ 20000 ∧ (hCd q.k = false → q.card = [])
  cond : 0 ≤ q.ck ∧ q.ck ≤ 2147483647 ∧ 0 ≤ q.cv ∧ q.cv < 2 ^ 63 ∧ (hCn q.k = false → q.ck = 0 ∧ q.cv = 0)
  ops : q.ops.length ≤ 16 ∧ (∀ o ∈ q.ops, RawOp o) ∧ (hO q.k = false → q.ops = [])
  tok : 0 ≤ q.tok ∧ q.tok < 2 ^ 63 ∧ (hTk q.k = false → q.tok = 0)
  most : 0 ≤ q.most ∧ q.most ≤ 2147483647 ∧ (hM q.k = false → q.most = 0)
  ticks : 0 ≤ q.ticks ∧ q.ticks ≤ 2147483647 ∧ (hTi q.k = false → q.ticks = 0)

/-- Numbers that a machine holds. -/
structure RqB (q : Rq) : Prop where
  k : -9223372036854775808 ≤ q.k ∧ q.k ≤ 9223372036854775807
  ck : -9223372036854775808 ≤ q.ck ∧ q.ck ≤ 9223372036854775807
  cv : -9223372036854775808 ≤ q.cv ∧ q.cv ≤ 9223372036854775807
  ops : ∀ o ∈ q.ops, (-9223372036854775808 ≤ o.ck ∧ o.ck ≤ 9223372036854775807) ∧ -9223372036854775808 ≤ o.cv ∧ o.cv ≤ 9223372036854775807
  tok : -9223372036854775808 ≤ q.tok ∧ q.tok ≤ 9223372036854775807
  most : -9223372036854775808 ≤ q.most ∧ q.most ≤ 9223372036854775807
  ticks : -9223372036854775808 ≤ q.ticks ∧ q.ticks ≤ 9223372036854775807
theorem is_len {s : List UInt8} (h : isB s = true) : s.length ≤ 900 := by
  have h : crdE s = 0 := of_decide_eq_true h
  rcases crd_or s with ⟨l, h1, _, _⟩ | ⟨_, _, e⟩
  · exact (reads_len h1).1
  · rw [e] at h; cases h
theorem name_len {s : List UInt8} (h : nameB s = true) : s.length ≤ 16 := (of_decide_eq_true h : NameP s).2.1
theorem uid_len {s : List UInt8} (h : uidB s = true) : s.length ≤ 24 := (of_decide_eq_true h : UidP s).2.1

/-- Which of a request's fields are there. -/
structure Shape (q : Rq) : Prop where
  tn : hT q.k = false → q.tn = []
  col : hC q.k = false → q.col = []
  uid : hU q.k = false → q.uid = []
  card : hCd q.k = false → q.card = []
  cond : hCn q.k = false → q.ck = 0 ∧ q.cv = 0
  ops : hO q.k = false → q.ops = []
  tok : hTk q.k = false → q.tok = 0
  most : hM q.k = false → q.most = 0
  ticks : hTi q.k = false → q.ticks = 0
  del : ∀ o ∈ q.ops, o.del = true → o.card = []
end Go.Proofs.YtfacfdjapjhpeaaGreatDoor
namespace Go.Proofs.YtfacfdjapjhpeaaGreatDoor
open Go.RowKit Go.Lib

def uidIn (l : List OpV) (u : List UInt8) : Bool := l.any fun x => decide (x.uid = u)
theorem uidIn_snoc (l : List OpV) (x : OpV) (u : List UInt8) : uidIn (l ++ [x]) u = (uidIn l u || decide (x.uid = u)) := by simp [uidIn]

/-- One write looked at: what is wrong, or how many and how much then. -/
def chkO (s : Cs) (room : Int) (pre : List OpV) (o : OpV) (m g : Int) : Int ⊕ (Int × Int) :=
  if uidIn pre o.uid = true then .inl 11
  else if holdsP o.ck o.cv (hasM s.ml o.uid) (verM s.ml o.uid) = false then .inl 6
  else if o.del = true ∧ hasM s.ml o.uid = false then .inl 4
  else
    let m' := (if hasM s.ml o.uid = true then m - 1 else m) + (if o.del = true then 0 else 1)
    let g' := (if hasM s.ml o.uid = true then g - ((txtM s.ml o.uid).length : Int) else g) + (if o.del = true then 0 else (o.card.length : Int))
    if s.most < m' ∨ room < g' then .inl 7 else .inr (m', g')
def chkG (s : Cs) (room : Int) : List OpV → List OpV → Int → Int → Int × Int × Int
  | _, [], _, g => (0, g, 0)
  | pre, o :: r, m, g =>
    match chkO s room pre o m g with
    | .inl e => ((pre.length : Int), 0, e)
    | .inr p => chkG s room (pre ++ [o]) r p.1 p.2
theorem chkG_err {s : Cs} {room : Int} {l : List OpV} {k : Nat} {m g e : Int} (h : k < l.length) (hc : chkO s room (l.take k) l[k] m g = .inl e) : chkG s room (l.take k) (l.drop k) m g = ((k : Int), 0, e) := by
  rw [List.drop_eq_getElem_cons h, chkG, hc]
  simp only [List.length_take]
  rw [Nat.min_eq_left (Nat.le_of_lt h)]
theorem chkG_ok {s : Cs} {room : Int} {l : List OpV} {k : Nat} {m g : Int} {p : Int × Int} (h : k < l.length) (hc : chkO s room (l.take k) l[k] m g = .inr p) : chkG s room (l.take k) (l.drop k) m g = chkG s room (l.take (k + 1)) (l.drop (k + 1)) p.1 p.2 := by
  rw [List.drop_eq_getElem_cons h, chkG, hc, List.take_succ_eq_append_getElem h]

end Go.Proofs.YtfacfdjapjhpeaaGreatDoor
namespace Go.Proofs.YtfacfdjapjhpeaaGreatDoor
open Go.RowKit Go.Lib

theorem bcmp_calls (w : World) (a b : List UInt8) :
    Calls Tryz.prog 135 #[.string (bs a), .string (bs b)] w fun e w' => e = .returned (.int .i64 (compareBytes a b)) ∧ w = w' := by
  have hx : (callFunc 160 #[.string (bs a), .string (bs b)]).run Tryz.prog w = .ok (.value (.int .i64 (compareBytes a b))) w := by
    rw [run_callFunc_extern Tryz.func160 (by kernel_rfl) (by kernel_rfl) (by kernel_rfl) (e := Extern.BytealgCompare.compare) (by kernel_rfl), Lib.run_compareString]
    rfl
  go_enter Tryz.func135, Tryz.ntmps135
  go_wp2_with (simp only [hx])
  go_ret
  exact ⟨rfl, rfl⟩
theorem scmp_calls (w : World) (a b : List UInt8) :
    Calls Tryz.prog 109 #[.string (bs a), .string (bs b)] w fun e w' => e = .returned (.int .i64 (compareBytes a b)) ∧ w = w' := by
  have hb := hd (bcmp_calls w a b)
  go_enter Tryz.func109, Tryz.ntmps109
  go_wp2_with fail
  refine hb.o.mono ?_
  rintro e w1 ⟨rfl, rfl⟩
  go_wp2_with fail
  go_ret
  exact ⟨rfl, rfl⟩

/-- A place as a cell. -/
def ptE (b : Nat) : List Value := [.pointer (some ⟨b, 0, none⟩)]

end Go.Proofs.YtfacfdjapjhpeaaGreatDoor
