/-
  The collection: New, Len, Bytes, Latest, Horizon, Get.
-/
import Derived.Test.YtbeckfnhgeclnaaRing
import Derived.Test.YtbeckfnhgeclnaaOmIEntCol
set_option linter.unusedVariables false
set_option linter.unusedSimpArgs false
namespace Go.Proofs.Ytbeckfnhgeclnaa
open Go.RowKit Go.Lib

/-- A collection at block b. -/
def ColR (w : World) (S : Nat → Prop) (b : Nat) (s : Cs) : Prop :=
  ∃ mb rb S1 S2, Blk w b 101 #[.pointer (some ⟨mb, 0, none⟩), .pointer (some ⟨rb, 0, none⟩), .int .i64 s.most, .int .i64 (bytesM s.ml), .int .i64 s.latest, .int .i64 s.horizon] ∧
    OmEntCol w S1 mb s.ml ∧ RingR w S2 rb s.cap s.log ∧ S b ∧ (∀ q, S1 q → S q ∧ q ≠ b ∧ ¬ S2 q ∧ q < w.heap.size) ∧ (∀ q, S2 q → S q ∧ q ≠ b ∧ q < w.heap.size)
theorem ColR.lt {w : World} {S : Nat → Prop} {b : Nat} {s : Cs} (h : ColR w S b s) : b < w.heap.size := by
  obtain ⟨mb, rb, S1, S2, hb, _⟩ := h
  exact hb.lt
theorem ColR.mono {w : World} {S T : Nat → Prop} {b : Nat} {s : Cs} (h : ColR w S b s) (hs : ∀ k, S k → T k) : ColR w T b s := by
  obtain ⟨mb, rb, S1, S2, h1, h2, h3, h4, h5, h6⟩ := h
  exact ⟨mb, rb, S1, S2, h1, h2, h3, hs _ h4, fun q hq => ⟨hs _ (h5 q hq).1, (h5 q hq).2⟩, fun q hq => ⟨hs _ (h6 q hq).1, (h6 q hq).2⟩⟩
theorem ColR.chg {w w' : World} {S T : Nat → Prop} {b : Nat} {s : Cs} (h : ColR w S b s) (hc : Chg T w w') (hd : ∀ k, S k → ¬ T k) : ColR w' S b s := by
  obtain ⟨mb, rb, S1, S2, h1, h2, h3, h4, h5, h6⟩ := h
  have hs := hc.size
  exact ⟨mb, rb, S1, S2, h1.chg hc (hd _ h4), h2.chg hc (fun q hq => hd _ (h5 q hq).1), h3.chg hc (fun q hq => hd _ (h6 q hq).1), h4, fun q hq => ⟨(h5 q hq).1, (h5 q hq).2.1, (h5 q hq).2.2.1, by have := (h5 q hq).2.2.2; omega⟩, fun q hq => ⟨(h6 q hq).1, (h6 q hq).2.1, by have := (h6 q hq).2.2; omega⟩⟩
theorem ColR.below {w w' : World} {S : Nat → Prop} {b : Nat} {s : Cs} (h : ColR w S b s) (hb : Below w.heap.size w w') : ColR w' S b s :=
  h.chg (Chg.of_below Non hb) (fun _ _ => id)
theorem ColR.shrink {w : World} {S : Nat → Prop} {b : Nat} {s : Cs} (h : ColR w S b s) : ColR w (fun k => S k ∧ k < w.heap.size) b s := by
  obtain ⟨mb, rb, S1, S2, h1, h2, h3, h4, h5, h6⟩ := h
  exact ⟨mb, rb, S1, S2, h1, h2, h3, ⟨h4, h1.lt⟩, fun q hq => ⟨⟨(h5 q hq).1, (h5 q hq).2.2.2⟩, (h5 q hq).2⟩, fun q hq => ⟨⟨(h6 q hq).1, (h6 q hq).2.2⟩, (h6 q hq).2⟩⟩
theorem ColR.rise {w : World} {S : Nat → Prop} {b : Nat} {s : Cs} (h : ColR w S b s) : Rising s.ml := by
  obtain ⟨mb, rb, S1, S2, h1, h2, _⟩ := h
  exact h2.rise

theorem cnew_calls (w : World) (S : Nat → Prop) (birth cards log : Int) (hS : ∀ k, w.heap.size ≤ k → S k) :
    Calls Try.prog 42 #[.int .i64 birth, .int .i64 cards, .int .i64 log] w fun e w' => ∃ b, e = .returned (.pointer (some ⟨b, 0, none⟩)) ∧ w.heap.size ≤ b ∧ ColR w' S b (Cs.new birth cards log) ∧ Below w.heap.size w w' := by
  have hn := hd (omnewEntCol_calls w (fun q => q = w.heap.size) rfl)
  have HS := hd hS
  clear hS
  go_enter Try.func42, Try.ntmps42
  go_wp2_with fail
  refine hn.o.mono ?_
  rintro e w1 ⟨rfl, hO, hbe⟩
  have HO := hd hO
  have HB := hd hbe
  have hol := hO.lt
  have HW := hd (show w.heap.size < w1.heap.size from hol)
  clear hn hO hbe
  go_wp2_with fail
  refine (rgnew_calls w1 (fun q => q = w1.heap.size) log rfl).mono ?_
  rintro e w2 ⟨rfl, hR, hbe⟩
  have HR := hd hR
  have HB2 := hd hbe
  have hs2 := hR.lt
  clear hR hbe
  go_wp2
  all_goals
    go_ret
    have hb12 : Below w.heap.size w w2 := HB.o.trans (HB2.o.mono HB.o.size)
    refine ⟨w2.heap.size, rfl, hb12.size, ?_, hb12.alloc hb12.size _⟩
    have hsz : w2.heap.size < (w2.alloc (.cells #[.pointer (some ⟨w.heap.size, 0, none⟩), .pointer (some ⟨w1.heap.size, 0, none⟩), .int .i64 (max cards 1), .int .i64 0, .int .i64 birth, .int .i64 birth] 101)).heap.size := by simp
    have hH := HW.o
    have hal : ∀ o, Below w2.heap.size w2 (w2.alloc o) := fun o => (Below.refl _ w2).alloc (Nat.le_refl _) o
    first
      | (have hm : max cards 1 = cards := by omega
         refine ⟨w.heap.size, w1.heap.size, _, _, ?_, (HO.o.below HB2.o).below (hal _), HR.o.below (hal _), HS.o _ hb12.size, fun q hq => ?_, fun q hq => ?_⟩
         · show Blk _ _ _ #[_, _, .int .i64 (max cards 1), _, _, _]
           rw [hm]; exact Blk.new _ _ _
         · subst hq; exact ⟨HS.o _ (Nat.le_refl _), by omega, by omega, by simp; omega⟩
         · subst hq; exact ⟨HS.o _ (by omega), by omega, by simp; omega⟩)
      | (have hm : max cards 1 = 1 := by omega
         refine ⟨w.heap.size, w1.heap.size, _, _, ?_, (HO.o.below HB2.o).below (hal _), HR.o.below (hal _), HS.o _ hb12.size, fun q hq => ?_, fun q hq => ?_⟩
         · show Blk _ _ _ #[_, _, .int .i64 (max cards 1), _, _, _]
           rw [hm]; exact Blk.new _ _ _
         · subst hq; exact ⟨HS.o _ (Nat.le_refl _), by omega, by omega, by simp; omega⟩
         · subst hq; exact ⟨HS.o _ (by omega), by omega, by simp; omega⟩)

theorem omlen_calls (w : World) (S : Nat → Prop) (b : Nat) (l : ML Ce) (h : OmEntCol w S b l) :
    Calls Try.prog 68 #[.pointer (some ⟨b, 0, none⟩)] w fun e w' => e = .returned (.int .i64 (l.length : Nat)) ∧ w = w' := by
  obtain ⟨A, c, hb, _⟩ := h
  have h0 := hb.at_ 0 rfl
  generalize l.length = n at *
  clear hb
  go_enter Try.func68, Try.ntmps68
  go_wp2
  go_ret
  exact ⟨rfl, rfl⟩
theorem clen_calls (w : World) (S : Nat → Prop) (b : Nat) (s : Cs) (h : ColR w S b s) :
    Calls Try.prog 39 #[.pointer (some ⟨b, 0, none⟩)] w fun e w' => e = .returned (.int .i64 (s.ml.length : Nat)) ∧ w = w' := by
  obtain ⟨mb, rb, S1, S2, h1, h2, _⟩ := h
  have h0 := h1.at_ 0 rfl
  have HC := hd (omlen_calls w S1 mb s.ml h2)
  generalize s.ml.length = n at *
  clear h1 h2
  go_enter Try.func39, Try.ntmps39
  go_wp2_with fail
  refine HC.o.mono ?_
  rintro e w' ⟨rfl, rfl⟩
  go_wp2
  go_ret
  exact ⟨rfl, rfl⟩
theorem cbytes_calls (w : World) (S : Nat → Prop) (b : Nat) (s : Cs) (h : ColR w S b s) :
    Calls Try.prog 56 #[.pointer (some ⟨b, 0, none⟩)] w fun e w' => e = .returned (.int .i64 (bytesM s.ml)) ∧ w = w' := by
  obtain ⟨mb, rb, S1, S2, h1, h2, _⟩ := h
  have h0 := h1.at_ 3 rfl
  generalize bytesM s.ml = n at *
  clear h1 h2
  go_enter Try.func56, Try.ntmps56
  go_wp2
  go_ret
  exact ⟨rfl, rfl⟩
theorem clatest_calls (w : World) (S : Nat → Prop) (b : Nat) (s : Cs) (h : ColR w S b s) :
    Calls Try.prog 37 #[.pointer (some ⟨b, 0, none⟩)] w fun e w' => e = .returned (.int .i64 s.latest) ∧ w = w' := by
  obtain ⟨mb, rb, S1, S2, h1, h2, _⟩ := h
  have h0 := h1.at_ 4 rfl
  generalize s.latest = n at *
  clear h1 h2
  go_enter Try.func37, Try.ntmps37
  go_wp2
  go_ret
  exact ⟨rfl, rfl⟩
theorem chor_calls (w : World) (S : Nat → Prop) (b : Nat) (s : Cs) (h : ColR w S b s) :
    Calls Try.prog 36 #[.pointer (some ⟨b, 0, none⟩)] w fun e w' => e = .returned (.int .i64 s.horizon) ∧ w = w' := by
  obtain ⟨mb, rb, S1, S2, h1, h2, _⟩ := h
  have h0 := h1.at_ 5 rfl
  generalize s.horizon = n at *
  clear h1 h2
  go_enter Try.func36, Try.ntmps36
  go_wp2
  go_ret
  exact ⟨rfl, rfl⟩

set_option maxHeartbeats 1000000 in
theorem cget_calls (w : World) (S : Nat → Prop) (b : Nat) (s : Cs) (k : List UInt8) (h : ColR w S b s) (hl : s.ml.length ≤ 1000000) :
    Calls Try.prog 38 #[.pointer (some ⟨b, 0, none⟩), .string (bs k)] w fun e w' => e = .returned (.tuple #[.int .i64 (verM s.ml k), .string (bs (txtM s.ml k)), .bool (hasM s.ml k)]) ∧ Below w.heap.size w w' := by
  obtain ⟨mb, rb, S1, S2, h1, hO, _⟩ := h
  have h0 := h1.at_ 0 rfl
  have HO := hd hO
  clear h1 hO
  cases hg : getM s.ml k with
  | none =>
    have HC := hd (omgetEntCol_none w S1 mb s.ml k HO.o hl hg)
    have hh : hasM s.ml k = false := by simp [hasM, hg]
    rw [ver_none hh, txt_none hh, hh]
    clear hg hh
    go_enter Try.func38, Try.ntmps38
    go_wp2_with fail
    refine HC.o.mono ?_
    rintro e w1 ⟨rfl, hbe⟩
    go_wp2
    go_quiet (fail)
    go_wp2
    go_ret3
    exact ⟨rfl, bdrewN (hbe.alloc hbe.size _) _⟩
  | some v =>
    have HC := hd (omgetEntCol_some w S1 mb s.ml k v HO.o hl hg)
    have hh : hasM s.ml k = true := by simp [hasM, hg]
    have e1 : verM s.ml k = v.ver := by simp [verM, hg]
    have e2 : txtM s.ml k = v.text := by simp [txtM, hg]
    rw [hh, e1, e2]
    obtain ⟨ver, text⟩ := v
    simp only [ceEnc] at HC ⊢
    clear hg hh e1 e2
    go_enter Try.func38, Try.ntmps38
    go_wp2_with fail
    refine HC.o.mono ?_
    rintro e w1 ⟨rfl, hbe⟩
    go_wp2
    go_quiet (fail)
    go_wp2
    go_ret3
    exact ⟨rfl, bdrewN (hbe.alloc hbe.size _) _⟩

end Go.Proofs.Ytbeckfnhgeclnaa
