/-
  ReplicaPlays, as a call: it returns true, whatever the answers.
-/
import Derived.Test.YtbeckfnhgeclnaaRefGet
import Derived.Test.YtbeckfnhgeclnaaKeepsR
namespace Go.Proofs.Ytbeckfnhgeclnaa
open Go.RowKit Go.Lib

/-- A copy and the reference's copy, a law's own, apart. -/
structure TwoQ (B : Nat) (w wr : World) (b1 b2 : Nat) (s1 s2 : St) : Prop where
  ex : ∃ S T : Nat → Prop, Rep wr S b1 s1.token s1.more s1.ml ∧ RRp wr T b2 s2.token s2.more (s2.ml.map (·.2)) ∧ (∀ q, S q → ¬ T q) ∧ (∀ q, S q → w.heap.size ≤ q ∧ q < B) ∧ (∀ q, T q → w.heap.size ≤ q ∧ q < B)
  below : Below w.heap.size w wr
  le : B ≤ wr.heap.size
  rise : Rising s2.ml
  key : KeyUid s2.ml
theorem TwoQ.bel {B : Nat} {w wr w' : World} {b1 b2 : Nat} {s1 s2 : St} (h : TwoQ B w wr b1 b2 s1 s2) (hb : Below wr.heap.size wr w') : TwoQ B w w' b1 b2 s1 s2 := by
  obtain ⟨⟨S, T, h1, h2, h3, h4, h5⟩, h6, h7, h8, h9⟩ := h
  exact ⟨⟨S, T, h1.below hb, h2.below hb, h3, h4, h5⟩, h6.trans (hb.mono h6.size), Nat.le_trans h7 hb.size, h8, h9⟩
theorem TwoQ.drew {B : Nat} {w wr : World} {b1 b2 : Nat} {s1 s2 : St} (h : TwoQ B w wr b1 b2 s1 s2) : TwoQ B w wr.drew b1 b2 s1 s2 := h.bel (bdr_ (Below.refl _ _))
theorem twoq_new {w wr w1 : World} {b1 : Nat} (hw : Below w.heap.size w wr) (h1 : Rep w1 (fun q => wr.heap.size ≤ q) b1 0 false []) (hb1 : Below wr.heap.size wr w1) :
    TwoQ (w1.heap.size + 1) w (w1.alloc (.cells #[.slice none 0 0, .int .i64 0, .bool false] 30)) b1 w1.heap.size ⟨0, false, []⟩ ⟨0, false, []⟩ := by
  have hs1 := hb1.size
  have hb2 : Below w1.heap.size w1 (w1.alloc (.cells #[.slice none 0 0, .int .i64 0, .bool false] 30)) := (Below.refl _ _).alloc (Nat.le_refl _) _
  refine ⟨⟨_, fun q => q = w1.heap.size, h1.shrink.below hb2, ⟨none, 0, Blk.new _ _ _, Row.nil _ _ _ _, rfl⟩, fun q hq ht => ?_, fun q hq => ?_, fun q hq => ?_⟩, (hw.trans (hb1.mono hw.size)).trans (hb2.mono (Nat.le_trans hw.size hs1)), by simp, List.Pairwise.nil, fun _ h => by cases h⟩
  · have := hq.2; have ht : q = w1.heap.size := ht; omega
  · exact ⟨Nat.le_trans hw.size hq.1, by have := hq.2; omega⟩
  · have hq : q = w1.heap.size := hq
    subst hq
    exact ⟨Nat.le_trans hw.size hs1, Nat.lt_succ_self _⟩
theorem twoq_fold1 {B : Nat} {w wr : World} {b1 b2 : Nat} {s1 s2 : St} (h : TwoQ B w wr b1 b2 s1 s2) (asked : Int) (r : Rs) (items : List It) (A : Option Addr) (c : Nat) (hr : Rds w A items.length 4 (itsEnc items)) (hl : s1.ml.length + items.length ≤ 1000000) (hsz : ∀ x ∈ items, x.uid.length ≤ maxLen) :
    Calls Try.prog 21 #[.pointer (some ⟨b1, 0, none⟩), .int .i64 asked, .agg (rsEnc r A items.length c).toArray] wr fun e w' => e = .returned (.int .i64 (foldSem s1 asked r items).1) ∧ TwoQ w'.heap.size w w' b1 b2 (foldSem s1 asked r items).2 s2 := by
  obtain ⟨⟨S, T, h1, h2, h3, h4, h5⟩, h6, h7, h8, h9⟩ := h
  refine (fold_calls wr S b1 s1 h1 (fun q hq => Nat.lt_of_lt_of_le (h4 q hq).2 h7) asked r items A c (hr.below h6) (fun hne q hq hs => ?_) hl hsz).mono fun e w' ⟨he, hrep, hc⟩ => ⟨he, ⟨_, T, hrep.shrink, h2.chg hc (fun q hq hs => h3 q hs hq), fun q hq ht => ?_, fun q hq => ?_, fun q hq => ?_⟩, ?_, Nat.le_refl _, h8, h9⟩
  · have := h4 q hs
    have := rds_lt hr (List.length_pos_iff.2 hne) q hq
    omega
  · obtain ⟨hq | hq, hq2⟩ := hq
    · exact h3 q hq ht
    · have := h5 q ht; have : wr.heap.size ≤ q := hq; omega
  · obtain ⟨hq | hq, hq2⟩ := hq
    · exact ⟨(h4 q hq).1, hq2⟩
    · exact ⟨Nat.le_trans h6.size hq, hq2⟩
  · have := h5 q hq; have := hc.size; exact ⟨by omega, by omega⟩
  · exact h6.trans (hc.below (fun q hq => (h4 q hq).1) h6.size)
theorem twoq_fold2 {B : Nat} {w wr : World} {b1 b2 : Nat} {s1 s2 : St} (h : TwoQ B w wr b1 b2 s1 s2) (asked : Int) (r : Rs) (items : List It) (A : Option Addr) (c : Nat) (hr : Rds w A items.length 4 (itsEnc items)) (hl : s2.ml.length + items.length < 1000000) :
    Calls Try.prog 22 #[.pointer (some ⟨b2, 0, none⟩), .int .i64 asked, .agg (rsEnc r A items.length c).toArray] wr fun e w' => e = .returned (.int .i64 (foldSem s2 asked r items).1) ∧ TwoQ w'.heap.size w w' b1 b2 s1 (foldSem s2 asked r items).2 := by
  obtain ⟨⟨S, T, h1, h2, h3, h4, h5⟩, h6, h7, h8, h9⟩ := h
  have hri : Rising (foldSem s2 asked r items).2.ml := by
    by_cases c1 : r.kind ≠ 8 ∨ asked ≠ s2.token
    · rw [fold_kind c1]; exact h8
    · have c2 : r.kind = 8 := Decidable.byContradiction fun hn => c1 (.inl hn)
      have c3 : asked = s2.token := Decidable.byContradiction fun hn => c1 (.inr hn)
      by_cases c4 : r.err = 8
      · rw [fold_tok c2 c3 c4]; exact List.Pairwise.nil
      · by_cases c5 : r.err = 0
        · by_cases c6 : r.token < asked
          · rw [fold_low c2 c3 c5 c6]; exact h8
          · by_cases c7 : okIts asked items
            · rw [fold_ok c2 c3 c5 c6 c7]
              refine foldIts_rise ?_ items
              split
              · exact List.Pairwise.nil
              · exact h8
            · rw [fold_bad c2 c3 c5 c6 c7]; exact h8
        · rw [fold_err c2 c3 c4 c5]; exact h8
  refine (rfold_calls wr T b2 s2 h2 h8 h9 (fun q hq => Nat.lt_of_lt_of_le (h5 q hq).2 h7) asked r items A c (hr.below h6) (fun hne q hq hs => ?_) hl).mono fun e w' ⟨he, hrep, hc⟩ => ⟨he, ⟨S, _, h1.chg hc (fun q hq hs => h3 q hq hs), hrep.shrink, fun q hq ht => ?_, fun q hq => ?_, fun q hq => ?_⟩, ?_, Nat.le_refl _, hri, foldSem_key h8 h9 asked r items⟩
  · have := h5 q hs
    have := rds_lt hr (List.length_pos_iff.2 hne) q hq
    omega
  · obtain ⟨ht | ht, ht2⟩ := ht
    · exact h3 q hq ht
    · have := h4 q hq; have : wr.heap.size ≤ q := ht; omega
  · have := h4 q hq; have := hc.size; exact ⟨by omega, by omega⟩
  · obtain ⟨hq | hq, hq2⟩ := hq
    · exact ⟨(h5 q hq).1, hq2⟩
    · exact ⟨Nat.le_trans h6.size hq, hq2⟩
  · exact h6.trans (hc.below (fun q hq => (h5 q hq).1) h6.size)
theorem twoq_same {B : Nat} {w wr : World} {b1 b2 : Nat} {s : St} (h : TwoQ B w wr b1 b2 s s) (hl : s.ml.length ≤ 1000000) : Calls Try.prog 20 #[.pointer (some ⟨b1, 0, none⟩), .pointer (some ⟨b2, 0, none⟩)] wr fun e w' => e = .returned (.bool true) ∧ TwoQ B w w' b1 b2 s s := by
  obtain ⟨S, T, h1, h2, _⟩ := h.ex
  exact (same_calls wr S T b1 b2 s h1 h2 hl).mono fun e w' ⟨he, hb⟩ => ⟨he, h.bel hb⟩
theorem twoq_get1 {B : Nat} {w wr : World} {b1 b2 : Nat} {s : St} (h : TwoQ B w wr b1 b2 s s) (hl : s.ml.length ≤ 1000000) (k : List UInt8) : Calls Try.prog 23 #[.pointer (some ⟨b1, 0, none⟩), .string (bs k)] wr fun e w' => e = .returned (fndV (getM s.ml k)) ∧ TwoQ B w w' b1 b2 s s := by
  obtain ⟨S, T, h1, h2, _⟩ := h.ex
  exact (rget_calls wr S b1 _ _ _ k h1 hl).mono fun e w' ⟨he, hb⟩ => ⟨by rw [he]; unfold getV fndV; cases getM s.ml k <;> rfl, h.bel hb⟩
theorem twoq_get2 {B : Nat} {w wr : World} {b1 b2 : Nat} {s : St} (h : TwoQ B w wr b1 b2 s s) (hl : s.ml.length ≤ 1000000) (k : List UInt8) : Calls Try.prog 24 #[.pointer (some ⟨b2, 0, none⟩), .string (bs k)] wr fun e w' => e = .returned (fndV (getM s.ml k)) ∧ TwoQ B w w' b1 b2 s s := by
  obtain ⟨S, T, h1, h2, _⟩ := h.ex
  have := rrget_calls wr T b2 _ _ _ k h2 (by rw [List.length_map]; exact hl)
  rw [find_get h.key] at this
  exact this.mono fun e w' ⟨he, hb⟩ => ⟨he, h.bel hb⟩

set_option maxRecDepth 100000 in
set_option maxHeartbeats 8000000 in
theorem plays_calls (w : World) (A : Option Addr) (n c : Nat) (l : List Ac) (hr : Rds w A n 9 (acsEnc l)) (hn : n = l.length) (hm : n ≤ maxLen) (hok : ∀ x ∈ l, RsOk w x.rs x.A x.items) :
    Calls Try.prog 3 #[.slice A n c] w fun e w' => e = .returned (.bool true) ∧ Below w.heap.size w w' := by
  have HN := hd hn
  have HOK := hd hok
  have HR := hd hr
  cases hlt : lightA l with
  | false =>
    have HLI := hd (fun w' (hb : Below w.heap.size w w') => light_calls w' A n c l (hr.below hb) hn hm (fun x hx => (hok x hx).below hb))
    rw [hlt] at HLI
    unfold maxLen at hm
    clear hn hok hr hlt
    go_enter Try.func3, Try.ntmps3
    go_wp2_with fail
    refine (first_calls w).mono ?_
    rintro e w1 ⟨rfl, b1⟩
    go_wp2_with fail
    refine (HLI.o w1 b1).mono ?_
    rintro e w2 ⟨rfl, b2⟩
    go_wp2_with fail
    refine (first_calls w2).mono ?_
    rintro e w3 ⟨rfl, b3⟩
    go_wp2
    go_ret
    exact ⟨rfl, b1.trans ((b2.mono b1.size).trans (b3.mono (by have := b1.size; have := b2.size; omega)))⟩
  | true =>
    have HLI := hd (fun w' (hb : Below w.heap.size w w') => light_calls w' A n c l (hr.below hb) hn hm (fun x hx => (hok x hx).below hb))
    rw [hlt] at HLI
    have hn40 : n ≤ 40 := by rw [hn]; exact lightA_len hlt
    have HE := hd (lightA_each hlt)
    unfold maxLen at hm
    clear hn hok hr hlt
    go_enter Try.func3, Try.ntmps3
    go_wp2_with fail
    refine (first_calls w).mono ?_
    rintro e w1 ⟨rfl, b1⟩
    go_wp2_with fail
    refine (HLI.o w1 b1).mono ?_
    rintro e w2 ⟨rfl, b2⟩
    have b12 : Below w.heap.size w w2 := b1.trans (b2.mono b1.size)
    clear b1 b2
    go_wp2_with fail
    refine (rnew_calls w2 (fun q => w2.heap.size ≤ q) (fun _ h => h)).mono ?_
    rintro e w3 ⟨b, rfl, hbb, hrep, hbe⟩
    have HO := hd (twoq_new b12 hrep hbe)
    obtain ⟨b2, hb2⟩ : ∃ b2, w3.heap.size = b2 := ⟨_, rfl⟩
    rw [hb2] at HO
    obtain ⟨B0, hB0⟩ : ∃ B, b2 + 1 = B := ⟨_, rfl⟩
    rw [hB0] at HO
    clear hrep hbe hbb b12 hB0
    go_wp2_with fail
    clear hb2
    refine (twoq_same HO.o (by simp)).mono ?_
    rintro e w4 ⟨rfl, hO4⟩
    have HO4 := hd hO4
    clear hO4 HO
    go_wp2_with fail
    go_loopw [5] (fun i wr => ∃ (k B : Nat) (s : St), i = .int .i64 k ∧ k ≤ n ∧ s.ml.length ≤ 120 * k ∧ Hd (TwoQ B w wr b b2 s s)) (fun i _ => n - (intOf i).toNat)
    case atStart => exact ⟨0, _, ⟨0, false, []⟩, rfl, Nat.zero_le _, Nat.le_refl _, HO4⟩
    case round =>
      clear HO4
      obtain ⟨k, B, s, rfl, hk, hsl, HO⟩ := hrel
      have hki : (0 : Int) ≤ (k : Int) := by omega
      by_cases hlt : k < n
      · have hlti : (k : Int) < (n : Int) := by omega
        have hkl : k < l.length := by rw [← HN.o]; exact hlt
        obtain ⟨g, o, rfl, hg, hc⟩ := HR.o.at_ (by omega)
        obtain ⟨x, hx⟩ : ∃ x, l[k]'hkl = x := ⟨_, rfl⟩
        have HXOK := hd (HOK.o x (by rw [← hx]; exact List.getElem_mem hkl))
        have HX120 := hd (HE.o x (by rw [← hx]; exact List.getElem_mem hkl))
        have hcell : ∀ j u, j < 9 → (acEnc x)[j]? = some u → w.cell? ⟨g, o + (k * 9 + j), none⟩ = some u := fun j u hj hv => hc _ _ ((flat_at acEnc 9 acEnc_len l k hkl j hj).trans (by rw [hx]; exact hv))
        obtain ⟨asked, rs, A2, c2, items⟩ := x
        have h120 := HX120.o
        simp only at h120
        have hrs := HXOK.o.rds
        have hitl : ∀ y ∈ items, y.uid.length ≤ maxLen := fun y hy => (HXOK.o.each y hy).1
        simp only at hrs hitl
        have hfl := fold_len s asked rs items
        have F1 := hd (fun (B : Nat) (wr : World) (h : TwoQ B w wr b b2 s s) => twoq_fold1 h asked rs items A2 c2 hrs (by omega) hitl)
        have F2 := hd (fun (B : Nat) (wr : World) (h : TwoQ B w wr b b2 (foldSem s asked rs items).2 s) => twoq_fold2 h asked rs items A2 c2 hrs (by omega))
        have hcu := hd (fun (j : Nat) (hj : j < items.length) => (flat_at itEnc 4 itEnc_len items j hj 0 (by omega)))
        have HITS : Hd (∀ (W : World) (hb : Below w.heap.size w W) (j : Nat) (hj : j < items.length), ∃ g2 o2, A2 = some ⟨g2, o2, none⟩ ∧ W.cell? ⟨g2, o2 + (j * 4 + 0), none⟩ = some (.string (bs items[j].uid))) := hd (fun W hb j hj => by
          obtain ⟨g2, o2, hA, hg2, hc2⟩ := hrs.at_ (by omega)
          exact ⟨g2, o2, hA, (hb.cell (p := ⟨g2, o2 + (j * 4 + 0), none⟩) hg2).trans (hc2 _ _ ((hcu.o j hj).trans rfl))⟩)
        obtain ⟨m, hmm⟩ : ∃ m, items.length = m := ⟨_, rfl⟩
        obtain ⟨er, ht1⟩ : ∃ er, (foldSem s asked rs items).1 = er := ⟨_, rfl⟩
        obtain ⟨s', ht2⟩ : ∃ s', (foldSem s asked rs items).2 = s' := ⟨_, rfl⟩
        rw [ht1, ht2] at F1 F2
        rw [ht2] at hfl
        have HCELL := hd (fun (w' : World) (hb : Below w.heap.size w w') (j : Nat) (u : Value) (hj : j < 9) (hv : (acEnc ⟨asked, rs, A2, c2, items⟩)[j]? = some u) => (hb.cell (p := ⟨g, o + (k * 9 + j), none⟩) hg).trans (hcell j u hj hv))
        obtain ⟨kind, err, tok, version, card, index, mr⟩ := rs
        have KEEP : Hd (∀ w', Below w.heap.size w w' → w'.cell? ⟨g, o + k * 9, none⟩ = some (.int .i64 asked) ∧ w'.cell? ⟨g, o + k * 9 + 1, none⟩ = some (.int .i64 kind) ∧ w'.cell? ⟨g, o + k * 9 + 2, none⟩ = some (.int .i64 err) ∧ w'.cell? ⟨g, o + k * 9 + 3, none⟩ = some (.int .i64 tok) ∧ w'.cell? ⟨g, o + k * 9 + 4, none⟩ = some (.int .i64 version) ∧ w'.cell? ⟨g, o + k * 9 + 5, none⟩ = some (.string (bs card)) ∧ w'.cell? ⟨g, o + k * 9 + 6, none⟩ = some (.int .i64 index) ∧ w'.cell? ⟨g, o + k * 9 + 7, none⟩ = some (.bool mr) ∧ w'.cell? ⟨g, o + k * 9 + 8, none⟩ = some (.slice A2 m c2)) := hd (fun w' hb => by
          have k0 := HCELL.o w' hb 0 _ (by omega) rfl
          have k1 := HCELL.o w' hb 1 _ (by omega) rfl
          have k2 := HCELL.o w' hb 2 _ (by omega) rfl
          have k3 := HCELL.o w' hb 3 _ (by omega) rfl
          have k4 := HCELL.o w' hb 4 _ (by omega) rfl
          have k5 := HCELL.o w' hb 5 _ (by omega) rfl
          have k6 := HCELL.o w' hb 6 _ (by omega) rfl
          have k7 := HCELL.o w' hb 7 _ (by omega) rfl
          have k8 := HCELL.o w' hb 8 _ (by omega) rfl
          rw [← Nat.add_assoc] at k0 k1 k2 k3 k4 k5 k6 k7 k8
          simp only [hmm] at k8
          exact ⟨k0, k1, k2, k3, k4, k5, k6, k7, k8⟩)
        simp only [hmm] at F1 F2
        simp only [rsEnc] at F1 F2
        rw [hmm] at hfl h120
        have hnl : s'.ml.length ≤ 120 * (k + 1) := by omega
        have SM := hd (fun (B : Nat) (wr : World) (h : TwoQ B w wr b b2 s' s') => twoq_same h (by omega))
        have G1 := hd (fun (B : Nat) (wr : World) (u : List UInt8) (h : TwoQ B w wr b b2 s' s') => twoq_get1 h (by omega) u)
        have G2 := hd (fun (B : Nat) (wr : World) (u : List UInt8) (h : TwoQ B w wr b b2 s' s') => twoq_get2 h (by omega) u)
        have HNL := hd hnl
        have HM := hd hmm
        have n1 : (er != er) = false := by simp
        obtain ⟨a0, a1, a2, a3, a4, a5, a6, a7, a8⟩ := KEEP.o _ HO.o.below
        have T0 := HO.o
        clear hcell hc hx hmm ht1 ht2 hkl hfl hrs hitl hcu HCELL HO HXOK HX120
        go_wp2_with fail
        go_region_held3 (fun w' => w'.cell? ⟨g, o + k * 9, none⟩ = some (.int .i64 asked) ∧ w'.cell? ⟨g, o + k * 9 + 1, none⟩ = some (.int .i64 kind) ∧ w'.cell? ⟨g, o + k * 9 + 2, none⟩ = some (.int .i64 err) ∧ w'.cell? ⟨g, o + k * 9 + 3, none⟩ = some (.int .i64 tok) ∧ w'.cell? ⟨g, o + k * 9 + 4, none⟩ = some (.int .i64 version) ∧ w'.cell? ⟨g, o + k * 9 + 5, none⟩ = some (.string (bs card)) ∧ w'.cell? ⟨g, o + k * 9 + 6, none⟩ = some (.int .i64 index) ∧ w'.cell? ⟨g, o + k * 9 + 7, none⟩ = some (.bool mr) ∧ w'.cell? ⟨g, o + k * 9 + 8, none⟩ = some (.slice A2 m c2)) (with_reducible first
            | exact KEEP.o _ (TwoQ.below (by assumption))
            | exact KEEP.o _ (TwoQ.below (TwoQ.drew (by assumption))))
          (first
            | (go_at_call 21
               with_reducible refine (F1.o _ _ (by first | assumption | exact TwoQ.drew (by assumption))).mono ?_
               rintro e w6 ⟨rfl, hT1⟩)
            | (go_at_call 22
               with_reducible refine (F2.o _ _ (by first | assumption | exact TwoQ.drew (by assumption))).mono ?_
               rintro e w7 ⟨rfl, hT2⟩)
            | (go_at_call 20
               with_reducible refine (SM.o _ _ (by first | assumption | exact TwoQ.drew (by assumption))).mono ?_
               rintro e w8 ⟨rfl, hT3⟩))
        have HO8 := hd hT3
        clear hT1 hT2 hT3 T0 F1 F2 SM a0 a1 a2 a3 a4 a5 a6 a7 a8 n1
        go_wp2_with fail
        go_loopw [6] (fun i wr => ∃ (j : Nat), i = .int .i64 j ∧ j ≤ m ∧ Hd (TwoQ w7.heap.size w wr b b2 s' s')) (fun i _ => m - (intOf i).toNat)
        case atStart => exact ⟨0, rfl, Nat.zero_le _, HO8⟩
        case round =>
          clear HO8
          obtain ⟨j, rfl, hj, HO⟩ := hrel
          have hji : (0 : Int) ≤ (j : Int) := by omega
          obtain ⟨a0, a1, a2, a3, a4, a5, a6, a7, a8⟩ := KEEP.o _ HO.o.below
          clear a0 a1 a2 a3 a4 a5 a6 a7
          by_cases hjm : j < m
          · have hjmi : (j : Int) < (m : Int) := by omega
            have d1 : decide ((j : Int) < (m : Int)) = true := by simpa using hjmi
            by_cases hj5 : j < 5
            · have hj5i : (j : Int) < 5 := by omega
              obtain ⟨u, hu⟩ : ∃ u, (items[j]'(by rw [HM.o]; exact hjm)).uid = u := ⟨_, rfl⟩
              have HU := hd hu
              obtain ⟨g2, o2, hA2, c0⟩ := HITS.o _ HO.o.below j (by rw [HM.o]; exact hjm)
              rw [hu, ← Nat.add_assoc, Nat.add_zero] at c0
              subst hA2
              have C1 := hd (fun (W : World) (hb : Below w.heap.size w W) => (show W.cell? ⟨g2, o2 + j * 4, none⟩ = some (.string (bs u)) by
                obtain ⟨g3, o3, h1, h2⟩ := HITS.o W hb j (by rw [HM.o]; exact hjm)
                injection h1 with h1
                injection h1 with h1 h3
                subst h1 h3
                rw [HU.o, ← Nat.add_assoc, Nat.add_zero] at h2
                exact h2))
              clear hu
              cases hgm : getM s'.ml u with
              | none =>
                have g1 := hd (fun B wr h => G1.o B wr u h)
                have g2' := hd (fun B wr h => G2.o B wr u h)
                rw [hgm] at g1 g2'
                simp only [fndV] at g1 g2'
                clear hgm
                go_wp2_with fail
                refine (g1.o _ _ HO.o).mono ?_
                rintro e w9 ⟨rfl, hO9⟩
                obtain ⟨a0, a1, a2, a3, a4, a5, a6, a7, z8⟩ := KEEP.o _ hO9.below
                have c1 := C1.o _ hO9.below
                have HO9 := hd hO9
                clear a0 a1 a2 a3 a4 a5 a6 a7 hO9
                go_wp2_with fail
                refine (g2'.o _ _ HO9.o).mono ?_
                rintro e w10 ⟨rfl, hO10⟩
                have HO10 := hd hO10
                clear hO10
                go_wp2
                go_roundw
                case rel => exact ⟨j + 1, by go_num, by omega, HO10⟩
                case measure => simp [intOf]; omega
              | some v =>
                have g1 := hd (fun B wr h => G1.o B wr u h)
                have g2' := hd (fun B wr h => G2.o B wr u h)
                rw [hgm] at g1 g2'
                obtain ⟨vu, vv, vg, vc⟩ := v
                simp only [fndV] at g1 g2'
                have m1 : (vv != vv) = false := by simp
                clear hgm
                go_wp2_with fail
                refine (g1.o _ _ HO.o).mono ?_
                rintro e w9 ⟨rfl, hO9⟩
                obtain ⟨a0, a1, a2, a3, a4, a5, a6, a7, z8⟩ := KEEP.o _ hO9.below
                have c1 := C1.o _ hO9.below
                have HO9 := hd hO9
                clear a0 a1 a2 a3 a4 a5 a6 a7 hO9
                go_wp2_with fail
                refine (g2'.o _ _ HO9.o).mono ?_
                rintro e w10 ⟨rfl, hO10⟩
                have HO10 := hd hO10
                clear hO10
                go_wp2
                go_roundw
                case rel => exact ⟨j + 1, by go_num, by omega, HO10⟩
                case measure => simp [intOf]; omega
            · have hj5i : decide ((j : Int) < 5) = false := by simp; omega
              go_wp2
              go_roundw
              case rel => exact ⟨k + 1, _, s', by go_num, by omega, HNL.o, HO⟩
              case measure => simp [intOf]; omega
          · obtain rfl : j = m := by omega
            have d1 : decide ((j : Int) < (j : Int)) = false := by simp
            go_wp2
            go_roundw
            case rel => exact ⟨k + 1, _, s', by go_num, by omega, HNL.o, HO⟩
            case measure => simp [intOf]; omega
      · obtain rfl : k = n := by omega
        go_wp2
        go_ret
        exact ⟨rfl, HO.o.below⟩

end Go.Proofs.Ytbeckfnhgeclnaa
