/-
  The copy: New, Token, More, Get; Fold where nothing, or all, goes.
-/
import Derived.Test.YtbeckfnhgeclnaaRepP
import Derived.Test.YtbeckfnhgeclnaaCards
namespace Go.Proofs.Ytbeckfnhgeclnaa
open Go.RowKit Go.Lib

theorem Rep.lt {w : World} {S : Nat → Prop} {b : Nat} {token : Int} {more : Bool} {ml : ML It} (h : Rep w S b token more ml) : b < w.heap.size := by
  obtain ⟨mb, hb, _⟩ := h
  exact hb.lt
theorem Rep.mono {w : World} {S T : Nat → Prop} {b : Nat} {token : Int} {more : Bool} {ml : ML It} (h : Rep w S b token more ml) (hs : ∀ k, S k → T k) : Rep w T b token more ml := by
  obtain ⟨mb, hb, hO, hS⟩ := h
  exact ⟨mb, hb, hO.mono hs, hs _ hS⟩
theorem Rep.chg {w w' : World} {S T : Nat → Prop} {b : Nat} {token : Int} {more : Bool} {ml : ML It} (h : Rep w S b token more ml) (hc : Chg T w w') (hd : ∀ k, S k → ¬ T k) : Rep w' S b token more ml := by
  obtain ⟨mb, hb, hO, hS⟩ := h
  exact ⟨mb, hb.chg hc (hd _ hS), hO.chg hc hd, hS⟩
theorem Rep.below {w w' : World} {S : Nat → Prop} {b : Nat} {token : Int} {more : Bool} {ml : ML It} (h : Rep w S b token more ml) (hb : Below w.heap.size w w') : Rep w' S b token more ml :=
  h.chg (Chg.of_below Non hb) (fun _ _ => id)
theorem Rep.shrink {w : World} {S : Nat → Prop} {b : Nat} {token : Int} {more : Bool} {ml : ML It} (h : Rep w S b token more ml) : Rep w (fun k => S k ∧ k < w.heap.size) b token more ml := by
  obtain ⟨mb, hb, hO, hS⟩ := h
  exact ⟨mb, hb, hO.shrink, hS, hb.lt⟩
theorem Rep.rise {w : World} {S : Nat → Prop} {b : Nat} {token : Int} {more : Bool} {ml : ML It} (h : Rep w S b token more ml) : Rising ml := by
  obtain ⟨mb, hb, hO, hS⟩ := h
  exact hO.rise
/-- The map's blocks are none of another kind's. -/
theorem om_avoid {w : World} {S : Nat → Prop} {mb b : Nat} {ml : ML It} {t : TypeId} {cs : Array Value} (h : OmEntItem w S mb ml) (hb : Blk w b t cs) (h1 : 136 ≠ t) (h2 : 139 ≠ t) : OmEntItem w (fun q => S q ∧ q ≠ b) mb ml := by
  obtain ⟨A, c, hm, hr, hS, hi⟩ := h
  exact ⟨A, c, hm, ⟨hr.own, fun a ha => ⟨hr.fp a ha, hr.ne_blk hb h2 a ha⟩⟩, ⟨hS, hm.ne_ hb h1⟩, hi⟩

theorem rnew_calls (w : World) (S : Nat → Prop) (hS : ∀ k, w.heap.size ≤ k → S k) :
    Calls Try.prog 19 #[] w fun e w' => ∃ b, e = .returned (.pointer (some ⟨b, 0, none⟩)) ∧ w.heap.size ≤ b ∧ Rep w' S b 0 false [] ∧ Below w.heap.size w w' := by
  have hn := hd (omnewEntItem_calls w S (hS _ (Nat.le_refl _)))
  go_enter Try.func19, Try.ntmps19
  go_wp2_with fail
  refine hn.o.mono ?_
  rintro e w1 ⟨rfl, hO, hbe⟩
  obtain ⟨mb, hmb⟩ : ∃ mb, mb = w.heap.size := ⟨_, rfl⟩
  rw [← hmb] at hO ⊢
  have HS := hd hS
  have HO := hd hO
  have HB := hd hbe
  clear hmb hS hO hbe hn
  go_wp2
  go_ret
  exact ⟨w1.heap.size, rfl, HB.o.size, ⟨mb, Blk.new _ _ _, HO.o.below ((Below.refl _ w1).alloc (Nat.le_refl _) _), HS.o _ HB.o.size⟩, HB.o.alloc HB.o.size _⟩

theorem rtoken_calls (w : World) (S : Nat → Prop) (b : Nat) (token : Int) (more : Bool) (ml : ML It) (h : Rep w S b token more ml) :
    Calls Try.prog 25 #[.pointer (some ⟨b, 0, none⟩)] w fun e w' => e = .returned (.int .i64 token) ∧ w = w' := by
  obtain ⟨mb, hb, _⟩ := h
  have h1 := hb.at_ 1 rfl
  clear hb
  go_enter Try.func25, Try.ntmps25
  go_wp2
  go_ret
  exact ⟨rfl, rfl⟩
theorem rmore_calls (w : World) (S : Nat → Prop) (b : Nat) (token : Int) (more : Bool) (ml : ML It) (h : Rep w S b token more ml) :
    Calls Try.prog 26 #[.pointer (some ⟨b, 0, none⟩)] w fun e w' => e = .returned (.bool more) ∧ w = w' := by
  obtain ⟨mb, hb, _⟩ := h
  have h1 := hb.at_ 2 rfl
  clear hb
  go_enter Try.func26, Try.ntmps26
  go_wp2
  go_ret
  exact ⟨rfl, rfl⟩

/-- Nothing is taken. -/
theorem fold_no1 (w : World) (S : Nat → Prop) (b : Nat) (token : Int) (more : Bool) (ml : ML It) (h : Rep w S b token more ml) (asked : Int) (r : Rs) (A : Option Addr) (n c : Nat) (hk : r.kind ≠ 8 ∨ asked ≠ token) :
    Calls Try.prog 21 #[.pointer (some ⟨b, 0, none⟩), .int .i64 asked, .agg (rsEnc r A n c).toArray] w fun e w' => e = .returned (.int .i64 10) ∧ Below w.heap.size w w' := by
  obtain ⟨mb, hb, _⟩ := h
  have h1 := hb.at_ 1 rfl
  have hbl := hb.lt
  obtain ⟨kind, err, tok, version, card, index, mr⟩ := r
  simp only [rsEnc] at hk ⊢
  clear hb
  by_cases c1 : kind = 8
  · subst c1
    have hk2 : asked ≠ token := by rcases hk with h | h; exact absurd rfl h; exact h
    have f2 : (asked != token) = true := by simpa using hk2
    clear hk hk2
    go_enter Try.func21, Try.ntmps21
    go_wp2
    go_ret
    exact ⟨rfl, (Below.refl _ w).alloc (Nat.le_refl _) _⟩
  · have f1 : (kind != 8) = true := by simpa using c1
    clear hk c1
    go_enter Try.func21, Try.ntmps21
    go_wp2
    go_ret
    exact ⟨rfl, (Below.refl _ w).alloc (Nat.le_refl _) _⟩

theorem fold_no2 (w : World) (S : Nat → Prop) (b : Nat) (token : Int) (more : Bool) (ml : ML It) (h : Rep w S b token more ml) (r : Rs) (A : Option Addr) (n c : Nat) (hk : r.kind = 8) (he : r.err ≠ 8) (he0 : r.err ≠ 0) :
    Calls Try.prog 21 #[.pointer (some ⟨b, 0, none⟩), .int .i64 token, .agg (rsEnc r A n c).toArray] w fun e w' => e = .returned (.int .i64 10) ∧ Below w.heap.size w w' := by
  obtain ⟨mb, hb, _⟩ := h
  have h1 := hb.at_ 1 rfl
  have hbl := hb.lt
  obtain ⟨kind, err, tok, version, card, index, mr⟩ := r
  simp only at hk he he0
  simp only [rsEnc]
  subst hk
  have f1 : (err == 8) = false := by simpa using he
  have f2 : (err != 0) = true := by simpa using he0
  have f3 : (token != token) = false := by simp
  clear hb he he0
  go_enter Try.func21, Try.ntmps21
  go_wp2
  go_ret
  exact ⟨rfl, (Below.refl _ w).alloc (Nat.le_refl _) _⟩

theorem fold_no3 (w : World) (S : Nat → Prop) (b : Nat) (token : Int) (more : Bool) (ml : ML It) (h : Rep w S b token more ml) (r : Rs) (A : Option Addr) (n c : Nat) (hk : r.kind = 8) (he : r.err = 0) (ht : r.token < token) :
    Calls Try.prog 21 #[.pointer (some ⟨b, 0, none⟩), .int .i64 token, .agg (rsEnc r A n c).toArray] w fun e w' => e = .returned (.int .i64 1) ∧ Below w.heap.size w w' := by
  obtain ⟨mb, hb, _⟩ := h
  have h1 := hb.at_ 1 rfl
  have hbl := hb.lt
  obtain ⟨kind, err, tok, version, card, index, mr⟩ := r
  simp only at hk he ht
  simp only [rsEnc]
  subst hk he
  have f3 : (token != token) = false := by simp
  clear hb
  go_enter Try.func21, Try.ntmps21
  go_wp2
  go_ret
  exact ⟨rfl, (Below.refl _ w).alloc (Nat.le_refl _) _⟩

/-- All goes. -/
theorem fold_all (w : World) (S : Nat → Prop) (b : Nat) (token : Int) (more : Bool) (ml : ML It) (h : Rep w S b token more ml) (r : Rs) (A : Option Addr) (n c : Nat) (hk : r.kind = 8) (he : r.err = 8) :
    Calls Try.prog 21 #[.pointer (some ⟨b, 0, none⟩), .int .i64 token, .agg (rsEnc r A n c).toArray] w fun e w' => e = .returned (.int .i64 0) ∧ Rep w' (Plus S w.heap.size) b 0 false [] ∧ Chg S w w' := by
  obtain ⟨mb, hb, hO, hS⟩ := h
  have h1 := hb.at_ 1 rfl
  have hbl := hb.lt
  have HB := hd hb
  obtain ⟨kind, err, tok, version, card, index, mr⟩ := r
  simp only at hk he
  simp only [rsEnc]
  subst hk he
  have f3 : (token != token) = false := by simp
  clear hb hO
  go_enter Try.func21, Try.ntmps21
  go_wp2_with fail
  refine (rnew_calls _ (fun q => w.heap.size < q) (fun q hq => by simp at hq; omega)).mono ?_
  rintro e w1 ⟨nb, rfl, hnb, ⟨mb2, hb2, hO2, hS2⟩, hbe⟩
  have hbw : Below w.heap.size w w1 := ((Below.refl _ w).alloc (Nat.le_refl _) _).trans (hbe.mono (by simp))
  have hb1 := HB.o.below hbw HB.o.lt
  have y0 := hb1.at_ 0 rfl
  have y1 := hb1.at_ 1 rfl
  have y2 := hb1.at_ 2 rfl
  have q0 := hb1.frozen 0
  have q1 := hb1.frozen 1
  have q2 := hb1.frozen 2
  have z0 := hb2.at_ 0 rfl
  have z1 := hb2.at_ 1 rfl
  have z2 := hb2.at_ 2 rfl
  have HB1 := hd hb1
  have HO2 := hd hO2
  have HBW := hd hbw
  clear hb1 hb2 hO2 hbe hbw
  go_wp2
  go_ret
  have hmb : mb2 ≠ b := by
    obtain ⟨A, c, hm, hr, hS, hi⟩ := HO2.o
    have : w.heap.size < mb2 := hS
    omega
  refine ⟨rfl, ⟨mb2, ?_, ?_, .inl hS⟩, ?_⟩
  · exact ((HB1.o.set_ 0 _).set_ 1 _).set_ 2 _
  · obtain ⟨A, c, hm, hr, hS, hi⟩ := HO2.o
    refine ⟨A, c, ((hm.far hmb _).far hmb _).far hmb _, (((hr.mono fun q hq => Or.inr (by omega : w.heap.size ≤ q)).far ?_ _).far ?_ _).far ?_ _, .inr (by have : w.heap.size < mb2 := hS; omega), hi⟩
    all_goals exact fun a ha => by have : w.heap.size < a.block := hr.fp a ha; show a.block ≠ b; omega
  · exact (((Chg.of_below S HBW.o).setCell (.inl hS) _).setCell (.inl hS) _).setCell (.inl hS) _

end Go.Proofs.Ytbeckfnhgeclnaa
