/-
  Two copies side by side; an answer's items turned.
-/
import Derived.Test.YtbeckfnhgeclnaaFirstR
import Derived.Test.YtbeckfnhgeclnaaLightR
import Derived.Test.YtbeckfnhgeclnaaIts
import Derived.Test.YtbeckfnhgeclnaaFoldP
import Derived.Deep.RegionHeld3
namespace Go.Proofs.Ytbeckfnhgeclnaa
open Go.RowKit Go.Lib

/-- Two copies of a law's own, apart. -/
structure TwoR (B : Nat) (w wr : World) (b1 b2 : Nat) (s1 s2 : St) : Prop where
  ex : ∃ S T : Nat → Prop, Rep wr S b1 s1.token s1.more s1.ml ∧ Rep wr T b2 s2.token s2.more s2.ml ∧ (∀ q, S q → ¬ T q) ∧ (∀ q, S q → w.heap.size ≤ q ∧ q < B) ∧ (∀ q, T q → w.heap.size ≤ q ∧ q < B)
  below : Below w.heap.size w wr
  le : B ≤ wr.heap.size
theorem TwoR.bel {B : Nat} {w wr w' : World} {b1 b2 : Nat} {s1 s2 : St} (h : TwoR B w wr b1 b2 s1 s2) (hb : Below wr.heap.size wr w') : TwoR B w w' b1 b2 s1 s2 := by
  obtain ⟨⟨S, T, h1, h2, h3, h4, h5⟩, h6, h7⟩ := h
  exact ⟨⟨S, T, h1.below hb, h2.below hb, h3, h4, h5⟩, h6.trans (hb.mono h6.size), Nat.le_trans h7 hb.size⟩
theorem TwoR.swap {B : Nat} {w wr : World} {b1 b2 : Nat} {s1 s2 : St} (h : TwoR B w wr b1 b2 s1 s2) : TwoR B w wr b2 b1 s2 s1 := by
  obtain ⟨⟨S, T, h1, h2, h3, h4, h5⟩, h6, h7⟩ := h
  exact ⟨⟨T, S, h2, h1, fun q hq hs => h3 q hs hq, h5, h4⟩, h6, h7⟩
theorem TwoR.rise {B : Nat} {w wr : World} {b1 b2 : Nat} {s1 s2 : St} (h : TwoR B w wr b1 b2 s1 s2) : Rising s1.ml := by
  obtain ⟨⟨S, T, h1, _⟩, _⟩ := h
  exact h1.rise
theorem two_new {w wr w1 w2 : World} {b1 b2 : Nat} (hw : Below w.heap.size w wr) (h1 : Rep w1 (fun q => wr.heap.size ≤ q) b1 0 false []) (hb1 : Below wr.heap.size wr w1) (h2 : Rep w2 (fun q => w1.heap.size ≤ q) b2 0 false []) (hb2 : Below w1.heap.size w1 w2) : TwoR w2.heap.size w w2 b1 b2 ⟨0, false, []⟩ ⟨0, false, []⟩ := by
  have hs1 := hb1.size
  have hs2 := hb2.size
  refine ⟨⟨_, _, h1.shrink.below hb2, h2.shrink, fun q hq ht => ?_, fun q hq => ?_, fun q hq => ?_⟩, (hw.trans (hb1.mono hw.size)).trans (hb2.mono (Nat.le_trans hw.size hs1)), Nat.le_refl _⟩
  · have := hq.2; have := ht.1; omega
  · exact ⟨Nat.le_trans hw.size hq.1, Nat.lt_of_lt_of_le hq.2 hs2⟩
  · exact ⟨Nat.le_trans (Nat.le_trans hw.size hs1) hq.1, hq.2⟩
theorem two_fold {B : Nat} {w wr : World} {b1 b2 : Nat} {s1 s2 : St} (h : TwoR B w wr b1 b2 s1 s2) (asked : Int) (r : Rs) (items : List It) (A : Option Addr) (c : Nat) (hr : Rds wr A items.length 4 (itsEnc items)) (hA : items ≠ [] → ∀ q, Of A q → q < w.heap.size ∨ B ≤ q) (hl : s1.ml.length + items.length ≤ 1000000) (hsz : ∀ x ∈ items, x.uid.length ≤ maxLen) :
    Calls Try.prog 21 #[.pointer (some ⟨b1, 0, none⟩), .int .i64 asked, .agg (rsEnc r A items.length c).toArray] wr fun e w' => e = .returned (.int .i64 (foldSem s1 asked r items).1) ∧ TwoR w'.heap.size w w' b1 b2 (foldSem s1 asked r items).2 s2 ∧ Chg (fun q => w.heap.size ≤ q ∧ q < B) wr w' := by
  obtain ⟨⟨S, T, h1, h2, h3, h4, h5⟩, h6, h7⟩ := h
  refine (fold_calls wr S b1 s1 h1 (fun q hq => Nat.lt_of_lt_of_le (h4 q hq).2 h7) asked r items A c hr (fun hne q hq hs => ?_) hl hsz).mono fun e w' ⟨he, hrep, hc⟩ => ⟨he, ⟨⟨_, T, hrep.shrink, h2.chg hc (fun q hq hs => h3 q hs hq), fun q hq ht => ?_, fun q hq => ?_, fun q hq => ?_⟩, ?_, Nat.le_refl _⟩, hc.mono h4⟩
  · have := h4 q hs
    rcases hA hne q hq with h | h <;> omega
  · obtain ⟨hq | hq, hq2⟩ := hq
    · exact h3 q hq ht
    · have := h5 q ht; have : wr.heap.size ≤ q := hq; omega
  · obtain ⟨hq | hq, hq2⟩ := hq
    · exact ⟨(h4 q hq).1, hq2⟩
    · exact ⟨Nat.le_trans h6.size hq, hq2⟩
  · have := h5 q hq; have := hc.size; exact ⟨by omega, by omega⟩
  · exact h6.trans (hc.below (fun q hq => (h4 q hq).1) h6.size)
theorem two_token {B : Nat} {w wr : World} {b1 b2 : Nat} {s1 s2 : St} (h : TwoR B w wr b1 b2 s1 s2) : Calls Try.prog 25 #[.pointer (some ⟨b1, 0, none⟩)] wr fun e w' => e = .returned (.int .i64 s1.token) ∧ wr = w' := by
  obtain ⟨⟨S, T, h1, _⟩, _⟩ := h
  exact rtoken_calls wr S b1 _ _ _ h1
theorem two_more {B : Nat} {w wr : World} {b1 b2 : Nat} {s1 s2 : St} (h : TwoR B w wr b1 b2 s1 s2) : Calls Try.prog 26 #[.pointer (some ⟨b1, 0, none⟩)] wr fun e w' => e = .returned (.bool s1.more) ∧ wr = w' := by
  obtain ⟨⟨S, T, h1, _⟩, _⟩ := h
  exact rmore_calls wr S b1 _ _ _ h1
theorem two_cards {B : Nat} {w wr : World} {b1 b2 : Nat} {s1 s2 : St} (h : TwoR B w wr b1 b2 s1 s2) (hl : s1.ml.length ≤ 1000000) : Calls Try.prog 27 #[.pointer (some ⟨b1, 0, none⟩)] wr fun e w' => ∃ A c, e = .returned (.slice A s1.ml.length c) ∧ Rds w' A s1.ml.length 4 (itsEnc (s1.ml.map (·.2))) ∧ Below wr.heap.size wr w' := by
  obtain ⟨⟨S, T, h1, _⟩, _⟩ := h
  exact (cards_calls wr S b1 _ _ _ h1 hl).mono fun e w' ⟨A, c, he, hr, hb⟩ => ⟨A, c, he, hr.rds, hb⟩

end Go.Proofs.Ytbeckfnhgeclnaa
