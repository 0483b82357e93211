/-
  Light answers.
-/
import Derived.Test.YtbeckfnhgeclnaaRepP
import Derived.Test.YtbeckfnhgeclnaaCards
set_option linter.unusedVariables false
set_option linter.unusedSimpArgs false
namespace Go.Proofs.Ytbeckfnhgeclnaa
open Go.RowKit

/-- An answer, and the token that it was asked with; where its items lie. -/
structure Ac where
  asked : Int
  rs : Rs
  A : Option Addr
  c : Nat
  items : List It
def acEnc (x : Ac) : List Value := .int .i64 x.asked :: rsEnc x.rs x.A x.items.length x.c
theorem acEnc_len (x : Ac) : (acEnc x).length = 9 := rfl
/-- What is known of an answer that came in. -/
structure RsOk (W : World) (r : Rs) (A : Option Addr) (items : List It) : Prop where
  rds : Rds W A items.length 4 (itsEnc items)
  len : items.length ≤ maxLen
  card : r.card.length ≤ maxLen
  each : ∀ x ∈ items, x.uid.length ≤ maxLen ∧ x.card.length ≤ maxLen
theorem RsOk.below {W W' : World} {r : Rs} {A : Option Addr} {items : List It} (h : RsOk W r A items) (hb : Below W.heap.size W W') : RsOk W' r A items := ⟨h.rds.below hb, h.len, h.card, h.each⟩
def lightR (r : Rs) (items : List It) : Bool := !(decide (2000 < r.card.length) || decide (120 < items.length)) && items.all fun x => !(decide (60 < x.uid.length) || decide (2000 < x.card.length))

theorem bs_sz (l : List UInt8) : (bs l).size = l.length := bs_size l

set_option maxHeartbeats 1000000 in
theorem lresp_calls (w : World) (r : Rs) (A : Option Addr) (c : Nat) (items : List It) (h : RsOk w r A items) :
    Calls Try.prog 29 #[.agg (rsEnc r A items.length c).toArray] w fun e w' => e = .returned (.bool (lightR r items)) ∧ Below w.heap.size w w' := by
  obtain ⟨hr, hlen, hcard, heach⟩ := h
  obtain ⟨kind, err, tok, version, card, index, mr⟩ := r
  simp only at hcard
  simp only [rsEnc]
  obtain ⟨LB, hLB⟩ : ∃ LB, lightR ⟨kind, err, tok, version, card, index, mr⟩ items = LB := ⟨_, rfl⟩
  rw [hLB]
  simp only [lightR] at hLB
  obtain ⟨n, hn⟩ : ∃ n, items.length = n := ⟨_, rfl⟩
  obtain ⟨cz, hcz⟩ : ∃ cz, card.length = cz := ⟨_, rfl⟩
  rw [hn] at hr hlen hLB ⊢
  rw [hcz] at hcard hLB
  have hsz : (bs card).size = cz := by rw [bs_sz, hcz]
  have HL := hd hLB
  have HN := hd hn
  have HE := hd heach
  unfold maxLen at hlen hcard
  clear hLB hn hcz heach
  by_cases c1 : 2000 < cz
  · have f1 : decide ((2000 : Int) < (cz : Int)) = true := by simp; omega
    have HR : Hd (LB = false) := hd (by rw [← HL.o]; simp [c1])
    clear c1
    go_enter Try.func29, Try.ntmps29
    go_wp2
    go_ret
    exact ⟨ret_bool HR.o.symm, (Below.refl _ w).alloc (Nat.le_refl _) _⟩
  · have f1 : decide ((2000 : Int) < (cz : Int)) = false := by simp; omega
    by_cases c2 : 120 < n
    · have f2 : decide ((120 : Int) < (n : Int)) = true := by simp; omega
      have HR : Hd (LB = false) := hd (by rw [← HL.o]; simp [c2])
      clear c1 c2
      go_enter Try.func29, Try.ntmps29
      go_wp2
      go_ret
      exact ⟨ret_bool HR.o.symm, (Below.refl _ w).alloc (Nat.le_refl _) _⟩
    · have f2 : decide ((120 : Int) < (n : Int)) = false := by simp; omega
      have HR : Hd (LB = items.all fun x => !(decide (60 < x.uid.length) || decide (2000 < x.card.length))) := hd (by rw [← HL.o]; simp [c1, c2])
      clear c1
      go_enter Try.func29, Try.ntmps29
      go_wp2_with fail
      obtain ⟨w0, hw0⟩ : ∃ w0, w0 = w.alloc (.cells #[.int .i64 kind, .int .i64 err, .int .i64 tok, .int .i64 version, .string (bs card), .int .i64 index, .bool mr, .slice A n c] 35) := ⟨_, rfl⟩
      have hbx : Blk w0 w.heap.size 35 #[.int .i64 kind, .int .i64 err, .int .i64 tok, .int .i64 version, .string (bs card), .int .i64 index, .bool mr, .slice A n c] := by rw [hw0]; exact Blk.new w 35 _
      have hb0 : Below w.heap.size w w0 := by rw [hw0]; exact (Below.refl _ w).alloc (Nat.le_refl _) _
      have x7 := hbx.at_ 7 rfl
      have hr0 := hr.below hb0
      rw [← hw0]
      clear hw0 hr hbx
      go_loop [3] (fun i => ∃ k : Nat, i = .int .i64 k ∧ k ≤ n ∧ Hd (∀ j (h : j < items.length), j < k → (!(decide (60 < items[j].uid.length) || decide (2000 < items[j].card.length))) = true)) (fun i => n - (intOf i).toNat)
      case atStart => exact ⟨0, rfl, Nat.zero_le _, hd (fun j _ h => absurd h (Nat.not_lt_zero _))⟩
      case round =>
        obtain ⟨k, rfl, hk, hall⟩ := hrel
        have hki : (0 : Int) ≤ (k : Int) := by omega
        by_cases hlt : k < n
        · have hlti : (k : Int) < (n : Int) := by omega
          have hkl : k < items.length := by rw [HN.o]; exact hlt
          obtain ⟨g, o, rfl, hg, hc⟩ := hr0.at_ (by omega)
          obtain ⟨x, hx⟩ : ∃ x, items[k]'hkl = x := ⟨_, rfl⟩
          have HX := hd hx
          have hes := HE.o x (by rw [← hx]; exact List.getElem_mem hkl)
          have hcell : ∀ j u, j < 4 → (itEnc x)[j]? = some u → w0.cell? ⟨g, o + (k * 4 + j), none⟩ = some u := fun j u hj hv => hc _ _ ((flat_at itEnc 4 itEnc_len items k hkl j hj).trans (by rw [hx]; exact hv))
          obtain ⟨uid, ver, gone, text⟩ := x
          have k0 := hcell 0 _ (by omega) rfl
          have k3 := hcell 3 _ (by omega) rfl
          rw [← Nat.add_assoc] at k0 k3
          rw [Nat.add_zero] at k0
          obtain ⟨uz, huz⟩ : ∃ uz, uid.length = uz := ⟨_, rfl⟩
          obtain ⟨tz, htz⟩ : ∃ tz, text.length = tz := ⟨_, rfl⟩
          simp only [huz, htz] at hes
          unfold maxLen at hes
          have hsu : (bs uid).size = uz := by rw [bs_sz, huz]
          have hst : (bs text).size = tz := by rw [bs_sz, htz]
          have HBAD : Hd ((60 < uz ∨ 2000 < tz) → LB = false) := hd (fun hh => by
            rw [HR.o, Bool.eq_false_iff]
            intro ha
            have := List.all_eq_true.1 ha _ (List.getElem_mem hkl)
            rw [HX.o] at this
            simp only [huz, htz] at this
            rcases hh with h | h <;> simp [h] at this)
          have HG : Hd (¬ 60 < uz → ¬ 2000 < tz → ∀ j (h : j < items.length), j < k + 1 → (!(decide (60 < items[j].uid.length) || decide (2000 < items[j].card.length))) = true) := hd (fun h1 h2 j hj hjk => by
            by_cases hjj : j < k
            · exact hall.o j hj hjj
            · obtain rfl : j = k := by omega
              rw [HX.o]
              simp only [huz, htz]
              simp [h1, h2])
          clear hcell hc hx hr0 huz htz
          by_cases v1 : 60 < uz
          · have g1 : decide ((60 : Int) < (uz : Int)) = true := by simp; omega
            have HH := hd (HBAD.o (.inl v1))
            clear v1
            go_wp2
            go_ret
            exact ⟨ret_bool HH.o.symm, hb0⟩
          · have g1 : decide ((60 : Int) < (uz : Int)) = false := by simp; omega
            by_cases v2 : 2000 < tz
            · have g2 : decide ((2000 : Int) < (tz : Int)) = true := by simp; omega
              have HH := hd (HBAD.o (.inr v2))
              clear v1 v2
              go_wp2
              go_ret
              exact ⟨ret_bool HH.o.symm, hb0⟩
            · have g2 : decide ((2000 : Int) < (tz : Int)) = false := by simp; omega
              have HH := hd (HG.o v1 v2)
              clear v1 v2
              go_wp2
              go_round
              case rel => exact ⟨k + 1, by go_num, by omega, HH⟩
              case measure => simp [intOf]; omega
        · obtain rfl : k = n := by omega
          have HH : Hd (LB = true) := hd (by
            rw [HR.o, List.all_eq_true]
            intro x hx
            obtain ⟨j, hj, rfl⟩ := List.getElem_of_mem hx
            exact hall.o j hj (by rw [← HN.o]; exact hj))
          go_wp2
          go_ret
          exact ⟨ret_bool HH.o.symm, hb0⟩

def lightA (l : List Ac) : Bool := !(decide (40 < l.length)) && l.all fun x => lightR x.rs x.items
def acsEnc (l : List Ac) : List Value := l.flatMap acEnc

set_option maxHeartbeats 1000000 in
theorem light_calls (w : World) (A : Option Addr) (n c : Nat) (l : List Ac) (hr : Rds w A n 9 (acsEnc l)) (hn : n = l.length) (hm : n ≤ maxLen) (hok : ∀ x ∈ l, RsOk w x.rs x.A x.items) :
    Calls Try.prog 18 #[.slice A n c] w fun e w' => e = .returned (.bool (lightA l)) ∧ Below w.heap.size w w' := by
  obtain ⟨LB, hLB⟩ : ∃ LB, lightA l = LB := ⟨_, rfl⟩
  rw [hLB]
  simp only [lightA] at hLB
  rw [← hn] at hLB
  have HL := hd hLB
  have HN := hd hn
  have HE := hd hok
  unfold maxLen at hm
  clear hLB hn hok
  by_cases c1 : 40 < n
  · have HR : Hd (LB = false) := hd (by rw [← HL.o]; simp [c1])
    go_enter Try.func18, Try.ntmps18
    go_wp2
    go_ret
    exact ⟨ret_bool HR.o.symm, Below.refl _ _⟩
  · have HR : Hd (LB = l.all fun x => lightR x.rs x.items) := hd (by rw [← HL.o]; simp [c1])
    go_enter Try.func18, Try.ntmps18
    go_wp2_with fail
    go_loopw [3] (fun i wr => ∃ k : Nat, i = .int .i64 k ∧ k ≤ n ∧ Below w.heap.size w wr ∧ Hd (∀ j (h : j < l.length), j < k → lightR l[j].rs l[j].items = true)) (fun i _ => n - (intOf i).toNat)
    case atStart => exact ⟨0, rfl, Nat.zero_le _, Below.refl _ _, hd (fun j _ h => absurd h (Nat.not_lt_zero _))⟩
    case round =>
      obtain ⟨k, rfl, hk, hbe, hall⟩ := hrel
      have hki : (0 : Int) ≤ (k : Int) := by omega
      by_cases hlt : k < n
      · have hlti : (k : Int) < (n : Int) := by omega
        have hkl : k < l.length := by rw [← HN.o]; exact hlt
        obtain ⟨g, o, rfl, hg, hc⟩ := hr.at_ (by omega)
        obtain ⟨x, hx⟩ : ∃ x, l[k]'hkl = x := ⟨_, rfl⟩
        have HX := hd hx
        have hes := HE.o x (by rw [← hx]; exact List.getElem_mem hkl)
        have hcell : ∀ j u, j < 9 → (acEnc x)[j]? = some u → wr.cell? ⟨g, o + (k * 9 + j), none⟩ = some u := fun j u hj hv => (hbe.cell (p := ⟨g, o + (k * 9 + j), none⟩) hg).trans (hc _ _ ((flat_at acEnc 9 acEnc_len l k hkl j hj).trans (by rw [hx]; exact hv)))
        obtain ⟨asked, rs, A2, c2, items⟩ := x
        have HC := hd (lresp_calls wr rs A2 c2 items (hes.below hbe))
        obtain ⟨lb, hlb⟩ : ∃ lb, lightR rs items = lb := ⟨_, rfl⟩
        rw [hlb] at HC
        have HBAD : Hd (lb = false → LB = false) := hd (fun hh => by
          rw [HR.o, Bool.eq_false_iff]
          intro ha
          have := List.all_eq_true.1 ha _ (List.getElem_mem hkl)
          rw [HX.o] at this
          simp only [hlb] at this
          rw [hh] at this
          cases this)
        have HG : Hd (lb = true → ∀ j (h : j < l.length), j < k + 1 → lightR l[j].rs l[j].items = true) := hd (fun h1 j hj hjk => by
          by_cases hjj : j < k
          · exact hall.o j hj hjj
          · obtain rfl : j = k := by omega
            rw [HX.o]
            exact hlb.trans h1)
        obtain ⟨m, hmm⟩ : ∃ m, items.length = m := ⟨_, rfl⟩
        obtain ⟨kind, err, tok, version, card, index, mr⟩ := rs
        have k1 := hcell 1 _ (by omega) rfl
        have k2 := hcell 2 _ (by omega) rfl
        have k3 := hcell 3 _ (by omega) rfl
        have k4 := hcell 4 _ (by omega) rfl
        have k5 := hcell 5 _ (by omega) rfl
        have k6 := hcell 6 _ (by omega) rfl
        have k7 := hcell 7 _ (by omega) rfl
        have k8 := hcell 8 _ (by omega) rfl
        rw [← Nat.add_assoc] at k1 k2 k3 k4 k5 k6 k7 k8
        simp only [hmm] at k8 HC
        simp only [rsEnc] at HC
        clear hcell hc hx hr hes hlb hmm
        go_wp2_with fail
        refine HC.o.mono ?_
        rintro e w1 ⟨rfl, b1⟩
        have hb1 : Below w.heap.size w w1 := hbe.trans (b1.mono hbe.size)
        cases lb with
        | true =>
          have HH := hd (HG.o rfl)
          go_wp2
          go_roundw
          case rel => exact ⟨k + 1, by go_num, by omega, hb1, HH⟩
          case measure => simp [intOf]; omega
        | false =>
          have HH := hd (HBAD.o rfl)
          go_wp2
          go_ret
          exact ⟨ret_bool HH.o.symm, hb1⟩
      · obtain rfl : k = n := by omega
        have HH : Hd (LB = true) := hd (by
          rw [HR.o, List.all_eq_true]
          intro x hx
          obtain ⟨j, hj, rfl⟩ := List.getElem_of_mem hx
          exact hall.o j hj (by rw [HN.o]; exact hj))
        go_wp2
        go_ret
        exact ⟨ret_bool HH.o.symm, hbe⟩

end Go.Proofs.Ytbeckfnhgeclnaa
