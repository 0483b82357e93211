/-
  A law's own collection and the reference's, apart; both alike.
-/
import Derived.Test.YtbeckfnhgeclnaaRColAp
import Derived.Test.YtbeckfnhgeclnaaColF
import Derived.Test.YtbeckfnhgeclnaaColAp
set_option linter.unusedVariables false
set_option linter.unusedSimpArgs false
namespace Go.Proofs.Ytbeckfnhgeclnaa
open Go.RowKit Go.Lib

theorem below_drewN (w : World) (q : Nat) : Below w.heap.size w (w.drewN q) := bdrewN (Below.refl _ _) q

set_option maxRecDepth 100000 in
set_option maxHeartbeats 4000000 in
theorem csame_calls (w : World) (S T : Nat → Prop) (b1 b2 : Nat) (s : Cs) (h1 : ColR w S b1 s) (h2 : RCol w T b2 s) (hl : s.ml.length ≤ 1000000) (hby : bytesM s.ml ≤ 1000000000000) :
    Calls Try.prog 46 #[.pointer (some ⟨b1, 0, none⟩), .pointer (some ⟨b2, 0, none⟩)] w fun e w' => e = .returned (.bool true) ∧ ∃ q, w' = w.drewN q := by
  have HL := hd (fun q => clen_calls (w.drewN q) S b1 s (h1.below (below_drewN w q)))
  have HB := hd (fun q => cbytes_calls (w.drewN q) S b1 s (h1.below (below_drewN w q)))
  have HR := hd (fun q => rbytes_calls (w.drewN q) T b2 s (h2.below (below_drewN w q)) hl hby)
  have HT := hd (fun q => clatest_calls (w.drewN q) S b1 s (h1.below (below_drewN w q)))
  have HH := hd (fun q => chor_calls (w.drewN q) S b1 s (h1.below (below_drewN w q)))
  obtain ⟨A, c, A2, c2, hb, _⟩ := h2
  rw [liveL_len] at hb
  have y2 := hb.at_ 2 rfl
  have y4 := hb.at_ 4 rfl
  have y5 := hb.at_ 5 rfl
  clear hb h1 hl hby
  generalize bytesM s.ml = by0 at *
  generalize s.ml.length = n at *
  generalize s.latest = la at *
  generalize s.horizon = ho at *
  have e1 : ((n : Int) == (n : Int)) = true := by simp
  have e2 : (by0 == by0) = true := by simp
  have e3 : (la == la) = true := by simp
  have e4 : (ho == ho) = true := by simp
  go_enter Try.func46, Try.ntmps46
  go_wp2_with fail
  go_quiet (first | (go_at_call 39; exact q1 (HL.o _)) | (go_at_call 39; exact q2 (HL.o _)) | (go_at_call 56; exact q1 (HB.o _)) | (go_at_call 56; exact q2 (HB.o _)) | (go_at_call 76; exact q1 (HR.o _)) | (go_at_call 76; exact q2 (HR.o _)) | (go_at_call 37; exact q1 (HT.o _)) | (go_at_call 37; exact q2 (HT.o _)) | (go_at_call 36; exact q1 (HH.o _)) | (go_at_call 36; exact q2 (HH.o _)))
  go_wp2
  go_ret
  exact ⟨rfl, _, rfl⟩

/-- A collection and the reference's, a law's own, apart. -/
structure TwoC (B : Nat) (w wr : World) (b1 b2 : Nat) (s1 s2 : Cs) : Prop where
  ex : ∃ S T : Nat → Prop, ColR wr S b1 s1 ∧ RCol wr T b2 s2 ∧ (∀ q, S q → ¬ T q) ∧ (∀ q, S q → w.heap.size ≤ q ∧ q < B) ∧ (∀ q, T q → w.heap.size ≤ q ∧ q < B)
  below : Below w.heap.size w wr
  le : B ≤ wr.heap.size
  ok1 : s1.Ok
  ok2 : s2.Ok
  uid : ∀ x ∈ s1.log, x.2.length ≤ maxLen
theorem TwoC.bel {B : Nat} {w wr w' : World} {b1 b2 : Nat} {s1 s2 : Cs} (h : TwoC B w wr b1 b2 s1 s2) (hb : Below wr.heap.size wr w') : TwoC B w w' b1 b2 s1 s2 := by
  obtain ⟨⟨S, T, h1, h2, h3, h4, h5⟩, h6, h7, h8, h9, h10⟩ := h
  exact ⟨⟨S, T, h1.below hb, h2.below hb, h3, h4, h5⟩, h6.trans (hb.mono h6.size), Nat.le_trans h7 hb.size, h8, h9, h10⟩
theorem TwoC.drew {B : Nat} {w wr : World} {b1 b2 : Nat} {s1 s2 : Cs} (h : TwoC B w wr b1 b2 s1 s2) : TwoC B w wr.drew b1 b2 s1 s2 := h.bel (below_drewN wr 1)
theorem TwoC.drewN {B : Nat} {w wr : World} {b1 b2 : Nat} {s1 s2 : Cs} (h : TwoC B w wr b1 b2 s1 s2) (q : Nat) : TwoC B w (wr.drewN q) b1 b2 s1 s2 := h.bel (below_drewN wr q)
/-- Behind New: NewCol. -/
theorem twoc_new {B : Nat} {w wr : World} {b : Nat} {s : Cs} (hO : OwnC B w wr b s) (birth cards log : Int) :
    Calls Try.prog 43 #[.int .i64 birth, .int .i64 cards, .int .i64 log] wr fun e w' => ∃ b2, e = .returned (.pointer (some ⟨b2, 0, none⟩)) ∧ TwoC w'.heap.size w w' b b2 s (Cs.new birth cards log) := by
  obtain ⟨⟨S, h1, h2⟩, h3, h4, h5, h6⟩ := hO
  refine (rcnew_calls wr (fun q => q = wr.heap.size) birth cards log rfl).mono fun e w' ⟨he, hr, hb⟩ => ⟨_, he, ⟨S, _, h1.below hb, hr, fun q hq ht => ?_, fun q hq => ?_, fun q hq => ?_⟩, h3.trans (hb.mono h3.size), Nat.le_refl _, h5, Cs.new_ok _ _ _, h6⟩
  · have := h2 q hq; have ht : q = _ := ht; omega
  · have := h2 q hq; have := hb.size; omega
  · have hq : q = _ := hq; subst hq; exact ⟨h3.size, hr.lt⟩
theorem twoc_apply1 {B : Nat} {w wr : World} {b1 b2 : Nat} {s1 s2 : Cs} (h : TwoC B w wr b1 b2 s1 s2) (o : OpV) (t : Int) (hl : s1.ml.length < 1000000) (hlg : s1.log.length < 1000000) (hby : bytesM s1.ml ≤ 1000000000000) (hcl : o.card.length ≤ 1000000000000) (hu : o.uid.length ≤ maxLen) :
    Calls Try.prog 44 #[.pointer (some ⟨b1, 0, none⟩), .agg (opEnc o).toArray, .int .i64 t] wr fun e w' => e = .returned (.bool (s1.step o t).1) ∧ TwoC w'.heap.size w w' b1 b2 (s1.step o t).2 s2 := by
  obtain ⟨⟨S, T, h1, h2, h3, h4, h5⟩, h6, h7, h8, h9, h10⟩ := h
  refine (apply_calls wr S b1 s1 o t h1 h8 (fun q hq => Nat.lt_of_lt_of_le (h4 q hq).2 h7) hl hlg hby hcl).mono fun e w' ⟨he, hrep, hc⟩ => ⟨he, ⟨_, T, hrep.shrink, h2.chg hc (fun q hq hs => h3 q hs hq), fun q hq ht => ?_, fun q hq => ?_, fun q hq => ?_⟩, ?_, Nat.le_refl _, Cs.step_ok h8 o t, h9, step_uid h10 hu⟩
  · obtain ⟨hq | hq, hq2⟩ := hq
    · exact h3 q hq ht
    · have := h5 q ht; have : wr.heap.size ≤ q := hq; omega
  · obtain ⟨hq | hq, hq2⟩ := hq
    · exact ⟨(h4 q hq).1, hq2⟩
    · exact ⟨Nat.le_trans h6.size hq, hq2⟩
  · have := h5 q hq; have := hc.size; exact ⟨by omega, by omega⟩
  · exact h6.trans (hc.below (fun q hq => (h4 q hq).1) h6.size)
theorem twoc_apply2 {B : Nat} {w wr : World} {b1 b2 : Nat} {s1 s2 : Cs} (h : TwoC B w wr b1 b2 s1 s2) (o : OpV) (t : Int) (hl : s2.ml.length < 1000000) (hlg : s2.log.length < 1000000) :
    Calls Try.prog 45 #[.pointer (some ⟨b2, 0, none⟩), .agg (opEnc o).toArray, .int .i64 t] wr fun e w' => e = .returned (.bool (s2.step o t).1) ∧ TwoC w'.heap.size w w' b1 b2 s1 (s2.step o t).2 := by
  obtain ⟨⟨S, T, h1, h2, h3, h4, h5⟩, h6, h7, h8, h9, h10⟩ := h
  refine (rapply_calls wr T b2 s2 o t h2 h9 (fun q hq => Nat.lt_of_lt_of_le (h5 q hq).2 h7) hl hlg).mono fun e w' ⟨he, hrep, hc⟩ => ⟨he, ⟨S, _, h1.chg hc (fun q hq hs => h3 q hq hs), hrep.shrink, fun q hq ht => ?_, fun q hq => ?_, fun q hq => ?_⟩, ?_, Nat.le_refl _, h8, Cs.step_ok h9 o t, h10⟩
  · obtain ⟨ht | ht, ht2⟩ := ht
    · exact h3 q hq ht
    · have := h4 q hq; have : wr.heap.size ≤ q := ht; omega
  · have := h4 q hq; have := hc.size; exact ⟨by omega, by omega⟩
  · obtain ⟨hq | hq, hq2⟩ := hq
    · exact ⟨(h5 q hq).1, hq2⟩
    · exact ⟨Nat.le_trans h6.size hq, hq2⟩
  · exact h6.trans (hc.below (fun q hq => (h5 q hq).1) h6.size)
theorem twoc_same {B : Nat} {w wr : World} {b1 b2 : Nat} {s : Cs} (h : TwoC B w wr b1 b2 s s) (hl : s.ml.length ≤ 1000000) (hby : bytesM s.ml ≤ 1000000000000) : Calls Try.prog 46 #[.pointer (some ⟨b1, 0, none⟩), .pointer (some ⟨b2, 0, none⟩)] wr fun e w' => e = .returned (.bool true) ∧ TwoC B w w' b1 b2 s s := by
  obtain ⟨S, T, h1, h2, _⟩ := h.ex
  exact (csame_calls wr S T b1 b2 s h1 h2 hl hby).mono fun e w' ⟨he, q, hq⟩ => ⟨he, hq ▸ h.drewN q⟩
theorem twoc_get1 {B : Nat} {w wr : World} {b1 b2 : Nat} {s1 s2 : Cs} (h : TwoC B w wr b1 b2 s1 s2) (k : List UInt8) (hl : s1.ml.length ≤ 1000000) : Calls Try.prog 38 #[.pointer (some ⟨b1, 0, none⟩), .string (bs k)] wr fun e w' => e = .returned (.tuple #[.int .i64 (verM s1.ml k), .string (bs (txtM s1.ml k)), .bool (hasM s1.ml k)]) ∧ TwoC B w w' b1 b2 s1 s2 := by
  obtain ⟨S, T, h1, h2, _⟩ := h.ex
  exact (cget_calls wr S b1 s1 k h1 hl).mono fun e w' ⟨he, hb⟩ => ⟨he, h.bel hb⟩
theorem twoc_get2 {B : Nat} {w wr : World} {b1 b2 : Nat} {s1 s2 : Cs} (h : TwoC B w wr b1 b2 s1 s2) (k : List UInt8) (hl : s2.ml.length ≤ 1000000) : Calls Try.prog 47 #[.pointer (some ⟨b2, 0, none⟩), .string (bs k)] wr fun e w' => e = .returned (.tuple #[.int .i64 (verM s2.ml k), .string (bs (txtM s2.ml k)), .bool (hasM s2.ml k)]) ∧ TwoC B w w' b1 b2 s1 s2 := by
  obtain ⟨S, T, h1, h2, _⟩ := h.ex
  exact (rcget_calls wr T b2 s2 k h2 h.ok2.rise hl).mono fun e w' ⟨he, q, hq⟩ => ⟨he, hq ▸ h.drewN q⟩
theorem twoc_live1 {B : Nat} {w wr : World} {b1 b2 : Nat} {s1 s2 : Cs} (h : TwoC B w wr b1 b2 s1 s2) (hl : s1.ml.length ≤ 1000000) : Calls Try.prog 40 #[.pointer (some ⟨b1, 0, none⟩)] wr fun e w' => ∃ A c, e = .returned (.slice A s1.ml.length c) ∧ Row w' (From wr.heap.size) 41 4 A s1.ml.length c (itsEnc (liveL s1.ml)) ∧ TwoC B w w' b1 b2 s1 s2 ∧ Below wr.heap.size wr w' := by
  obtain ⟨S, T, h1, h2, _⟩ := h.ex
  exact (clive_calls wr S b1 s1 h1 hl).mono fun e w' ⟨A, c, he, hr, hb⟩ => ⟨A, c, he, hr, h.bel hb, hb⟩
theorem RowO.rds {w : World} {S : Nat → Prop} {e : TypeId} {size n c : Nat} {A : Option Addr} {xs : List Value} (h : RowO w S e size A n c xs) : Rds w A n size xs := by
  rcases h with h | ⟨rfl, rfl, rfl⟩
  · exact h.rds
  · exact ⟨by simp, fun h0 => absurd h0 (Nat.lt_irrefl 0)⟩
theorem twoc_live2 {B : Nat} {w wr : World} {b1 b2 : Nat} {s1 s2 : Cs} (h : TwoC B w wr b1 b2 s1 s2) (hl : s2.ml.length ≤ 1000000) : Calls Try.prog 41 #[.pointer (some ⟨b2, 0, none⟩)] wr fun e w' => ∃ A c, e = .returned (.slice A s2.ml.length c) ∧ Rds w' A s2.ml.length 4 (itsEnc (liveL s2.ml)) ∧ TwoC B w w' b1 b2 s1 s2 ∧ Below wr.heap.size wr w' := by
  obtain ⟨S, T, h1, h2, _⟩ := h.ex
  exact (rlive_calls wr T b2 s2 h2 hl).mono fun e w' ⟨A, c, he, hr, hb⟩ => ⟨A, c, he, hr.rds, h.bel hb, hb⟩

end Go.Proofs.Ytbeckfnhgeclnaa
