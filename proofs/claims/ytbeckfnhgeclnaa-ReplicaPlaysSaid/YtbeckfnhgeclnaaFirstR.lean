/-
  The copy's Get; the chapter's example.
-/
import Derived.Test.YtbeckfnhgeclnaaFoldB
import Derived.Test.YtbeckfnhgeclnaaOmHEntItem
import Derived.Deep.QuietTactic
namespace Go.Proofs.Ytbeckfnhgeclnaa
open Go.RowKit Go.Lib

/-- What is at a key, as the copy's Get says it. -/
def getV (ml : ML It) (k : List UInt8) : Value := match getM ml k with | some v => .tuple #[.int .i64 v.ver, .string (bs v.card), .bool true] | none => .tuple #[.int .i64 0, .string ⟨#[]⟩, .bool false]

set_option maxHeartbeats 1000000 in
theorem rget_calls (w : World) (S : Nat → Prop) (b : Nat) (token : Int) (more : Bool) (ml : ML It) (k : List UInt8) (h : Rep w S b token more ml) (hl : ml.length ≤ 1000000) :
    Calls Try.prog 23 #[.pointer (some ⟨b, 0, none⟩), .string (bs k)] w fun e w' => e = .returned (getV ml k) ∧ Below w.heap.size w w' := by
  obtain ⟨mb, hb, hO, hS⟩ := h
  have h0 := hb.at_ 0 rfl
  have HO := hd hO
  clear hb hO
  unfold getV
  cases hg : getM ml k with
  | none =>
    have HC := hd (omgetEntItem_none w S mb ml k HO.o hl hg)
    simp only
    clear hg
    go_enter Try.func23, Try.ntmps23
    go_wp2_with fail
    refine HC.o.mono ?_
    rintro e w1 ⟨rfl, hbe⟩
    go_wp2
    go_quiet (fail)
    go_wp2
    go_ret3
    exact ⟨rfl, bdrewN (hbe.alloc hbe.size _) _⟩
  | some v =>
    have HC := hd (omgetEntItem_some w S mb ml k v HO.o hl hg)
    obtain ⟨uid, ver, gone, card⟩ := v
    simp only [itEnc] at HC ⊢
    clear hg
    go_enter Try.func23, Try.ntmps23
    go_wp2_with fail
    refine HC.o.mono ?_
    rintro e w1 ⟨rfl, hbe⟩
    go_wp2
    go_quiet (fail)
    go_wp2
    go_ret3
    exact ⟨rfl, bdrewN (hbe.alloc hbe.size _) _⟩

/-- A copy of a law's own: its blocks lie from w's size on, below B; nothing that came in has turned. -/
structure OwnR (B : Nat) (w wr : World) (b : Nat) (s : St) : Prop where
  ex : ∃ S : Nat → Prop, Rep wr S b s.token s.more s.ml ∧ ∀ q, S q → w.heap.size ≤ q ∧ q < B
  below : Below w.heap.size w wr
  le : B ≤ wr.heap.size
theorem OwnR.bel {B : Nat} {w wr w' : World} {b : Nat} {s : St} (h : OwnR B w wr b s) (hb : Below wr.heap.size wr w') : OwnR B w w' b s := by
  obtain ⟨⟨S, h1, h2⟩, h3, h4⟩ := h
  exact ⟨⟨S, h1.below hb, h2⟩, h3.trans (hb.mono h3.size), Nat.le_trans h4 hb.size⟩
theorem OwnR.lt {B : Nat} {w wr : World} {b : Nat} {s : St} (h : OwnR B w wr b s) : b < wr.heap.size := by
  obtain ⟨⟨S, h1, h2⟩, h3, h4⟩ := h
  exact h1.lt
theorem OwnR.rise {B : Nat} {w wr : World} {b : Nat} {s : St} (h : OwnR B w wr b s) : Rising s.ml := by
  obtain ⟨⟨S, h1, h2⟩, h3, h4⟩ := h
  exact h1.rise
theorem own_new {w wr w' : World} {b : Nat} (hw : Below w.heap.size w wr) (hr : Rep w' (fun q => wr.heap.size ≤ q) b 0 false []) (hb : Below wr.heap.size wr w') : OwnR w'.heap.size w w' b ⟨0, false, []⟩ := by
  have h := hr.shrink
  exact ⟨⟨_, h, fun q hq => ⟨Nat.le_trans hw.size hq.1, hq.2⟩⟩, hw.trans (hb.mono hw.size), Nat.le_refl _⟩
theorem own_fold {B : Nat} {w wr : World} {b : Nat} {s : St} (h : OwnR B w wr b s) (asked : Int) (r : Rs) (items : List It) (A : Option Addr) (c : Nat) (hr : Rds wr A items.length 4 (itsEnc items)) (hA : items ≠ [] → ∀ q, Of A q → q < w.heap.size ∨ B ≤ q) (hl : s.ml.length + items.length ≤ 1000000) (hsz : ∀ x ∈ items, x.uid.length ≤ maxLen) :
    Calls Try.prog 21 #[.pointer (some ⟨b, 0, none⟩), .int .i64 asked, .agg (rsEnc r A items.length c).toArray] wr fun e w' => e = .returned (.int .i64 (foldSem s asked r items).1) ∧ OwnR w'.heap.size w w' b (foldSem s asked r items).2 ∧ Chg (fun q => w.heap.size ≤ q ∧ q < B) wr w' := by
  obtain ⟨⟨S, h1, h2⟩, h3, h4⟩ := h
  refine (fold_calls wr S b s h1 (fun q hq => Nat.lt_of_lt_of_le (h2 q hq).2 h4) asked r items A c hr (fun hne q hq hs => ?_) hl hsz).mono fun e w' ⟨he, hrep, hc⟩ => ⟨he, ⟨⟨_, hrep.shrink, fun q hq => ?_⟩, ?_, Nat.le_refl _⟩, hc.mono h2⟩
  · have := h2 q hs
    rcases hA hne q hq with h | h <;> omega
  · obtain ⟨hq | hq, hq2⟩ := hq
    · exact ⟨(h2 q hq).1, hq2⟩
    · exact ⟨Nat.le_trans h3.size hq, hq2⟩
  · exact h3.trans (hc.below (fun q hq => (h2 q hq).1) h3.size)
theorem rds_lt {w : World} {A : Option Addr} {n k : Nat} {xs : List Value} (h : Rds w A n k xs) (hn : 0 < n) : ∀ q, Of A q → q < w.heap.size := fun q hq => by
  obtain ⟨g, o, rfl, hg, _⟩ := h.at_ hn
  rw [hq.some_]
  exact hg
theorem own_token {B : Nat} {w wr : World} {b : Nat} {s : St} (h : OwnR B w wr b s) : Calls Try.prog 25 #[.pointer (some ⟨b, 0, none⟩)] wr fun e w' => e = .returned (.int .i64 s.token) ∧ wr = w' := by
  obtain ⟨⟨S, h1, h2⟩, h3, h4⟩ := h
  exact rtoken_calls wr S b _ _ _ h1
theorem own_more {B : Nat} {w wr : World} {b : Nat} {s : St} (h : OwnR B w wr b s) : Calls Try.prog 26 #[.pointer (some ⟨b, 0, none⟩)] wr fun e w' => e = .returned (.bool s.more) ∧ wr = w' := by
  obtain ⟨⟨S, h1, h2⟩, h3, h4⟩ := h
  exact rmore_calls wr S b _ _ _ h1
theorem own_get {B : Nat} {w wr : World} {b : Nat} {s : St} (h : OwnR B w wr b s) (hl : s.ml.length ≤ 1000000) (k : List UInt8) : Calls Try.prog 23 #[.pointer (some ⟨b, 0, none⟩), .string (bs k)] wr fun e w' => e = .returned (getV s.ml k) ∧ Below wr.heap.size wr w' := by
  obtain ⟨⟨S, h1, h2⟩, h3, h4⟩ := h
  exact rget_calls wr S b _ _ _ k h1 hl
theorem own_cards {B : Nat} {w wr : World} {b : Nat} {s : St} (h : OwnR B w wr b s) (hl : s.ml.length ≤ 1000000) : Calls Try.prog 27 #[.pointer (some ⟨b, 0, none⟩)] wr fun e w' => ∃ A c, e = .returned (.slice A s.ml.length c) ∧ Rds w' A s.ml.length 4 (itsEnc (s.ml.map (·.2))) ∧ (∀ q, Of A q → wr.heap.size ≤ q) ∧ Below wr.heap.size wr w' := by
  obtain ⟨⟨S, h1, h2⟩, h3, h4⟩ := h
  exact (cards_calls wr S b _ _ _ h1 hl).mono fun e w' ⟨A, c, he, hr, hb⟩ => ⟨A, c, he, hr.rds, hr.of_sub, hb⟩

def x0 : It := ⟨[97], 6, false, [110, 97, 109, 101, 58, 65, 110, 110, 10]⟩
theorem first_fold : foldSem ⟨0, false, []⟩ 0 ⟨8, 0, 6, 0, [], 0, false⟩ [x0] = (0, ⟨6, false, [([97], x0)]⟩) := by
  rw [fold_ok rfl rfl rfl (by decide)]
  · rfl
  · intro k hk
    have : k = 0 := by simp at hk; omega
    subst this
    rfl

set_option maxHeartbeats 2000000 in
theorem first_calls (w : World) : Calls Try.prog 17 #[] w fun e w' => e = .returned (.bool true) ∧ Below w.heap.size w w' := by
  go_enter Try.func17, Try.ntmps17
  go_wp2_with fail
  refine (rnew_calls w (fun q => w.heap.size ≤ q) (fun _ h => h)).mono ?_
  rintro e w1 ⟨b, rfl, hbb, hrep, hbe⟩
  have HO := hd (own_new (Below.refl _ w) hrep hbe)
  clear hrep hbe hbb
  go_wp2_with fail
  have hr0 : Rds (w1.alloc (.cells #[.string ⟨#[97]⟩, .int .i64 6, .bool false, .string ⟨#[110, 97, 109, 101, 58, 65, 110, 110, 10]⟩] 41)) (some ⟨w1.heap.size, 0, none⟩) [x0].length 4 (itsEnc [x0]) :=
    ⟨rfl, fun _ => ⟨w1.heap.size, 0, rfl, by simp, fun j u hu => by rw [Nat.zero_add]; exact ((Blk.new w1 41 _).cell j).trans (by simpa [itsEnc, itEnc, x0, bs] using hu)⟩⟩
  have hF := own_fold (HO.o.bel ((Below.refl _ w1).alloc (Nat.le_refl _) _)) 0 ⟨8, 0, 6, 0, [], 0, false⟩ [x0] (some ⟨w1.heap.size, 0, none⟩) 1 hr0 (fun _ q hq => .inr (by rw [hq.some_]; exact Nat.le_refl _)) (by decide) (fun x hx => by rw [List.mem_singleton.1 hx]; decide)
  rw [first_fold] at hF
  refine hF.mono ?_
  rintro e w2 ⟨rfl, hO2, _⟩
  have HO2 := hd hO2
  clear hO2 hF hr0 HO
  go_wp2_with fail
  refine (own_get HO2.o (by decide) [97]).mono ?_
  rintro e w3 ⟨rfl, b3⟩
  have HO3 := hd (HO2.o.bel b3)
  rw [show getV [([97], x0)] [97] = .tuple #[.int .i64 6, .string (bs [110, 97, 109, 101, 58, 65, 110, 110, 10]), .bool true] from rfl]
  clear b3 HO2
  have hts : (bs [110, 97, 109, 101, 58, 65, 110, 110, 10]).toList = [110, 97, 109, 101, 58, 65, 110, 110, 10] := by rw [Lib.toList_data]; rfl
  go_wp2_with fail
  refine (own_token HO3.o).mono ?_
  rintro e w4 ⟨rfl, rfl⟩
  go_wp2_with fail
  refine (own_cards HO3.o (by decide)).mono ?_
  rintro e w5 ⟨A, c, rfl, _, _, b5⟩
  have HO5 := hd (HO3.o.bel b5)
  clear b5 HO3
  go_wp2_with fail
  refine (own_more HO5.o).mono ?_
  rintro e w6 ⟨rfl, rfl⟩
  go_wp2
  go_ret
  exact ⟨rfl, HO5.o.below⟩

end Go.Proofs.Ytbeckfnhgeclnaa
