/-
  The reference's copy: Get; both copies alike; a law's own two copies.
-/
import Derived.Test.YtbeckfnhgeclnaaRefFold
import Derived.Test.YtbeckfnhgeclnaaIts
import Derived.Test.YtbeckfnhgeclnaaLightR
import Derived.Test.YtbeckfnhgeclnaaTwoR
import Derived.Deep.RegionHeld3
namespace Go.Proofs.Ytbeckfnhgeclnaa
open Go.RowKit Go.Lib

def fndV : Option It → Value
  | some v => .tuple #[.int .i64 v.ver, .string (bs v.card), .bool true]
  | none => .tuple #[.int .i64 0, .string ⟨#[]⟩, .bool false]
theorem fnd_at (l : List It) (k : List UInt8) (i : Nat) (h : i < l.length) (hn : ∀ t (ht : t < l.length), t < i → (l[t].uid == k) = false) (he : (l[i].uid == k) = true) : findIt l k = some l[i] := by
  induction l generalizing i with
  | nil => simp at h
  | cons x l ih =>
    unfold findIt at ih ⊢
    cases i with
    | zero => simp only [List.getElem_cons_zero] at he ⊢; rw [List.find?_cons, he]
    | succ i =>
      have h0 := hn 0 (by simp) (by omega)
      simp only [List.getElem_cons_zero] at h0
      rw [List.find?_cons, h0]
      exact ih i (by simpa using h) (fun t ht hti => by have := hn (t + 1) (by simpa using ht) (by omega); simpa using this) (by simpa using he)
theorem fnd_none (l : List It) (k : List UInt8) (hn : ∀ t (ht : t < l.length), (l[t].uid == k) = false) : findIt l k = none := by
  unfold findIt
  rw [List.find?_eq_none]
  intro x hx
  obtain ⟨t, ht, rfl⟩ := List.getElem_of_mem hx
  simpa using hn t ht

set_option maxRecDepth 100000 in
set_option maxHeartbeats 4000000 in
theorem rrget_calls (w : World) (S : Nat → Prop) (b : Nat) (token : Int) (more : Bool) (L : List It) (key : List UInt8) (h : RRp w S b token more L) (hl : L.length ≤ 1000000) :
    Calls Try.prog 24 #[.pointer (some ⟨b, 0, none⟩), .string (bs key)] w fun e w' => e = .returned (fndV (findIt L key)) ∧ Below w.heap.size w w' := by
  obtain ⟨A, c, hb, hrow, _⟩ := h
  have h0 := hb.at_ 0 rfl
  have HR := hd hrow.rds
  obtain ⟨n, hn⟩ : ∃ n, L.length = n := ⟨_, rfl⟩
  have HN := hd hn
  obtain ⟨res, hres⟩ : ∃ r, findIt L key = r := ⟨_, rfl⟩
  have HRES := hd hres
  rw [hres]
  rw [hn] at h0 hl
  clear hb hrow hn hres
  go_enter Try.func24, Try.ntmps24
  go_wp2_with fail
  go_loop [7] (fun i => ∃ k : Nat, i = .int .i64 k ∧ k ≤ n ∧ Hd (∀ t (h : t < L.length), t < k → (L[t].uid == key) = false)) (fun i => n - (intOf i).toNat)
  case atStart => exact ⟨0, rfl, Nat.zero_le _, hd (fun t _ h => absurd h (Nat.not_lt_zero _))⟩
  case round =>
    obtain ⟨k, rfl, hk, HNO⟩ := hrel
    have hki : (0 : Int) ≤ (k : Int) := by omega
    by_cases hlt : k < n
    · have hlti : (k : Int) < (n : Int) := by omega
      have hkl : k < L.length := by rw [HN.o]; exact hlt
      obtain ⟨g, o, rfl, hgw, hc⟩ := HR.o.at_ (by rw [HN.o]; omega)
      obtain ⟨x, hx⟩ : ∃ x, L[k]'hkl = x := ⟨_, rfl⟩
      have HKL := hd hkl
      have hcell : ∀ j u, j < 4 → (itEnc x)[j]? = some u → w.cell? ⟨g, o + (k * 4 + j), none⟩ = some u := fun j u hj hv => hc _ _ ((itsEnc_at L k hkl j hj).trans (by rw [hx]; exact hv))
      have HX : Hd (L[k]'HKL.o = x) := hd hx
      obtain ⟨uid, ver, gone, text⟩ := x
      have k0 := hcell 0 _ (by omega) rfl
      have k1 := hcell 1 _ (by omega) rfl
      have k3 := hcell 3 _ (by omega) rfl
      rw [← Nat.add_assoc] at k0 k1 k3
      rw [Nat.add_zero] at k0
      have heq := str_eq uid key
      obtain ⟨be, hbe⟩ : ∃ b : Bool, decide (uid = key) = b := ⟨_, rfl⟩
      rw [hbe] at heq
      have HBQ := hd hbe
      clear hcell hc hx hkl hbe
      cases be with
      | true =>
        have HF : Hd (res = some ⟨uid, ver, gone, text⟩) := hd (by
          rw [← HRES.o, fnd_at L key k HKL.o HNO.o (by rw [HX.o]; simpa using HBQ.o), HX.o])
        go_wp2
        go_quiet (fail)
        go_wp2
        go_ret3
        exact ⟨by rw [HF.o]; rfl, bdrewN (Below.refl _ _) _⟩
      | false =>
        have HN2 : Hd (∀ t (h : t < L.length), t < k + 1 → (L[t].uid == key) = false) := hd (fun t h htm => by
          by_cases htm2 : t < k
          · exact HNO.o t h htm2
          · obtain rfl : t = k := by omega
            rw [HX.o]
            simpa using HBQ.o)
        go_wp2
        go_round
        case rel => exact ⟨k + 1, by go_num, by omega, HN2⟩
        case measure => simp [intOf]; omega
    · obtain rfl : k = n := by omega
      have HF : Hd (res = none) := hd (by rw [← HRES.o, fnd_none L key (fun t ht => HNO.o t ht (by rw [HN.o] at ht; exact ht))])
      go_wp2
      go_ret3
      exact ⟨by rw [HF.o]; rfl, Below.refl _ _⟩

theorem bdr_ {B : Nat} {a w : World} (h : Below B a w) : Below B a w.drew := ⟨h.os, h.tape, h.output, h.size, h.block⟩

set_option maxRecDepth 100000 in
set_option maxHeartbeats 4000000 in
theorem same_calls (w : World) (S T : Nat → Prop) (b1 b2 : Nat) (s : St) (h1 : Rep w S b1 s.token s.more s.ml) (h2 : RRp w T b2 s.token s.more (s.ml.map (·.2))) (hl : s.ml.length ≤ 1000000) :
    Calls Try.prog 20 #[.pointer (some ⟨b1, 0, none⟩), .pointer (some ⟨b2, 0, none⟩)] w fun e w' => e = .returned (.bool true) ∧ Below w.heap.size w w' := by
  obtain ⟨A, c, hb, hrow, _⟩ := h2
  have HT := hd (fun w' (hb : Below w.heap.size w w') => rtoken_calls w' S b1 _ _ _ (h1.below hb))
  have HM := hd (fun w' (hb : Below w.heap.size w w') => rmore_calls w' S b1 _ _ _ (h1.below hb))
  have HC := hd (fun w' (hb : Below w.heap.size w w') => cards_calls w' S b1 _ _ _ (h1.below hb) hl)
  rw [List.length_map] at hb hrow
  have HI := hd (fun w' A' c' (hb : Below w.heap.size w w') (hr : Rds w' A' s.ml.length 4 (itsEnc (s.ml.map (·.2)))) => its_calls w' A' A s.ml.length s.ml.length c' c (s.ml.map (·.2)) (s.ml.map (·.2)) (by simp) (by simp) hr (hrow.rds.below hb) hl hl)
  rw [decide_eq_true (rfl : s.ml.map (·.2) = s.ml.map (·.2))] at HI
  have KEEP := hd (fun w' (hbe : Below w.heap.size w w') => (⟨(hb.below hbe hb.lt).at_ 0 rfl, (hb.below hbe hb.lt).at_ 1 rfl, (hb.below hbe hb.lt).at_ 2 rfl⟩ : w'.cell? ⟨b2, 0, none⟩ = some (.slice A s.ml.length c) ∧ w'.cell? ⟨b2, 1, none⟩ = some (.int .i64 s.token) ∧ w'.cell? ⟨b2, 2, none⟩ = some (.bool s.more)))
  have RB := hd (fun (w1 w' : World) (A' : Option Addr) (c' : Nat) (hr : Row w' (From w1.heap.size) 41 4 A' s.ml.length c' (itsEnc (s.ml.map (·.2)))) => hr.rds)
  obtain ⟨n, hn⟩ : ∃ n, s.ml.length = n := ⟨_, rfl⟩
  obtain ⟨tk, ht⟩ : ∃ n, s.token = n := ⟨_, rfl⟩
  obtain ⟨mo, hm⟩ : ∃ n, s.more = n := ⟨_, rfl⟩
  obtain ⟨xs, hx⟩ : ∃ n, itsEnc (s.ml.map (·.2)) = n := ⟨_, rfl⟩
  rw [ht] at HT KEEP
  rw [hm] at HM KEEP
  rw [hn] at HC HI KEEP RB
  rw [hx] at HC HI RB
  obtain ⟨a0, a1, a2⟩ := KEEP.o w (Below.refl _ _)
  have n1 : (tk == tk) = true := by simp
  have n2 : (mo == mo) = true := by simp
  clear hb hrow h1 hn ht hm hx
  have B0 : Hd (Below w.heap.size w w) := hd (Below.refl _ _)
  go_enter Try.func20, Try.ntmps20
  go_wp2_with fail
  go_region_held3 (fun w' => w'.cell? ⟨b2, 0, none⟩ = some (.slice A n c) ∧ w'.cell? ⟨b2, 1, none⟩ = some (.int .i64 tk) ∧ w'.cell? ⟨b2, 2, none⟩ = some (.bool mo)) (with_reducible first
      | exact KEEP.o _ (Hd.o (by assumption))
      | exact KEEP.o _ (bdr_ (Hd.o (by assumption))))
    (first
      | (go_at_call 25
         with_reducible refine (HT.o _ (by first | exact B0.o | exact bdr_ B0.o)).mono ?_
         rintro e w2 ⟨rfl, rfl⟩)
      | (go_at_call 26
         with_reducible refine (HM.o _ (by first | exact B0.o | exact bdr_ B0.o)).mono ?_
         rintro e w3 ⟨rfl, rfl⟩)
      | (go_at_call 27
         with_reducible refine (HC.o _ (by first | exact B0.o | exact bdr_ B0.o)).mono ?_
         rintro e w4 ⟨A4, c4, rfl, hr4, hb4⟩
         have HR4 := hd (RB.o _ _ _ _ hr4)
         have HB4 : Hd (Below w.heap.size w w4) := hd ((bdr_ B0.o).trans hb4)
         clear hr4 hb4)
      | (go_at_call 28
         with_reducible refine (HI.o _ _ _ (by first | exact HB4.o | exact bdr_ HB4.o) (by first | exact HR4.o | exact Rds.drew_ HR4.o)).mono ?_
         rintro e w5 ⟨rfl, hb5⟩
         have HB5 : Hd (Below w.heap.size w w5) := hd (HB4.o.trans (hb5.mono HB4.o.size))
         clear hb5))
  all_goals
    go_wp2
    go_ret
    exact ⟨rfl, HB5.o⟩

end Go.Proofs.Ytbeckfnhgeclnaa
