/-
  ReplicaKeeps, as a call: it returns true, whatever the answers.
-/
import Derived.Test.YtbeckfnhgeclnaaFirstR
import Derived.Test.YtbeckfnhgeclnaaLightR
import Derived.Test.YtbeckfnhgeclnaaIts
namespace Go.Proofs.Ytbeckfnhgeclnaa
open Go.RowKit Go.Lib

theorem fold_said (s : St) (asked : Int) (r : Rs) (l : List It) :
    ((foldSem s asked r l).1 ≠ 0 ∧ ((foldSem s asked r l).1 = 10 ∨ (foldSem s asked r l).1 = 1) ∧ (foldSem s asked r l).2 = s) ∨
    ((foldSem s asked r l).1 = 0 ∧ r.err = 8 ∧ (foldSem s asked r l).2 = ⟨0, false, []⟩) ∨
    ((foldSem s asked r l).1 = 0 ∧ r.err ≠ 8 ∧ asked = s.token ∧ (foldSem s asked r l).2.token = r.token ∧ ¬ r.token < s.token ∧ (foldSem s asked r l).2.more = r.more) := by
  by_cases h1 : r.kind ≠ 8 ∨ asked ≠ s.token
  · rw [fold_kind h1]; exact .inl ⟨(by decide : (10 : Int) ≠ 0), .inl rfl, rfl⟩
  · have h2 : r.kind = 8 := Decidable.byContradiction fun hn => h1 (.inl hn)
    have h3 : asked = s.token := Decidable.byContradiction fun hn => h1 (.inr hn)
    by_cases h4 : r.err = 8
    · rw [fold_tok h2 h3 h4]; exact .inr (.inl ⟨rfl, h4, rfl⟩)
    · by_cases h5 : r.err = 0
      · by_cases h6 : r.token < asked
        · rw [fold_low h2 h3 h5 h6]; exact .inl ⟨(by decide : (1 : Int) ≠ 0), .inr rfl, rfl⟩
        · by_cases h7 : okIts asked l
          · rw [fold_ok h2 h3 h5 h6 h7]; exact .inr (.inr ⟨rfl, h4, h3, rfl, h3 ▸ h6, rfl⟩)
          · rw [fold_bad h2 h3 h5 h6 h7]; exact .inl ⟨(by decide : (1 : Int) ≠ 0), .inr rfl, rfl⟩
      · rw [fold_err h2 h3 h4 h5]; exact .inl ⟨(by decide : (10 : Int) ≠ 0), .inl rfl, rfl⟩
theorem fold_len (s : St) (asked : Int) (r : Rs) (l : List It) : (foldSem s asked r l).2.ml.length ≤ s.ml.length + l.length := by
  by_cases h1 : r.kind ≠ 8 ∨ asked ≠ s.token
  · rw [fold_kind h1]; simp
  · have h2 : r.kind = 8 := Decidable.byContradiction fun hn => h1 (.inl hn)
    have h3 : asked = s.token := Decidable.byContradiction fun hn => h1 (.inr hn)
    by_cases h4 : r.err = 8
    · rw [fold_tok h2 h3 h4]; simp
    · by_cases h5 : r.err = 0
      · by_cases h6 : r.token < asked
        · rw [fold_low h2 h3 h5 h6]; simp
        · by_cases h7 : okIts asked l
          · rw [fold_ok h2 h3 h5 h6 h7]
            have := foldIts_len (if asked = 0 then [] else s.ml) l
            simp only
            split at this <;> simp_all <;> omega
          · rw [fold_bad h2 h3 h5 h6 h7]; simp
      · rw [fold_err h2 h3 h4 h5]; simp

theorem lightA_len {l : List Ac} (h : lightA l = true) : l.length ≤ 40 := by
  simp [lightA] at h
  omega
theorem lightA_each {l : List Ac} (h : lightA l = true) : ∀ x ∈ l, x.items.length ≤ 120 := fun x hx => by
  simp only [lightA, Bool.and_eq_true, List.all_eq_true] at h
  have := h.2 x hx
  simp only [lightR, Bool.and_eq_true, Bool.not_eq_true', Bool.or_eq_false_iff, decide_eq_false_iff_not] at this
  omega

set_option maxRecDepth 100000 in
set_option maxHeartbeats 8000000 in
theorem keeps_calls (w : World) (A : Option Addr) (n c : Nat) (l : List Ac) (hr : Rds w A n 9 (acsEnc l)) (hn : n = l.length) (hm : n ≤ maxLen) (hok : ∀ x ∈ l, RsOk w x.rs x.A x.items) :
    Calls Try.prog 4 #[.slice A n c] w fun e w' => e = .returned (.bool true) ∧ Below w.heap.size w w' := by
  have HN := hd hn
  have HOK := hd hok
  have HR := hd hr
  cases hlt : lightA l with
  | false =>
    have HLI := hd (fun w' (hb : Below w.heap.size w w') => light_calls w' A n c l (hr.below hb) hn hm (fun x hx => (hok x hx).below hb))
    rw [hlt] at HLI
    unfold maxLen at hm
    clear hn hok hr hlt
    go_enter Try.func4, Try.ntmps4
    go_wp2_with fail
    refine (first_calls w).mono ?_
    rintro e w1 ⟨rfl, b1⟩
    go_wp2_with fail
    refine (HLI.o w1 b1).mono ?_
    rintro e w2 ⟨rfl, b2⟩
    go_wp2_with fail
    refine (first_calls w2).mono ?_
    rintro e w3 ⟨rfl, b3⟩
    go_wp2
    go_ret
    exact ⟨rfl, b1.trans ((b2.mono b1.size).trans (b3.mono (by have := b1.size; have := b2.size; omega)))⟩
  | true =>
    have HLI := hd (fun w' (hb : Below w.heap.size w w') => light_calls w' A n c l (hr.below hb) hn hm (fun x hx => (hok x hx).below hb))
    rw [hlt] at HLI
    have hn40 : n ≤ 40 := by rw [hn]; exact lightA_len hlt
    have HE := hd (lightA_each hlt)
    unfold maxLen at hm
    clear hn hok hr hlt
    go_enter Try.func4, Try.ntmps4
    go_wp2_with fail
    refine (first_calls w).mono ?_
    rintro e w1 ⟨rfl, b1⟩
    go_wp2_with fail
    refine (HLI.o w1 b1).mono ?_
    rintro e w2 ⟨rfl, b2⟩
    have b12 : Below w.heap.size w w2 := b1.trans (b2.mono b1.size)
    clear b1 b2
    go_wp2_with fail
    refine (rnew_calls w2 (fun q => w2.heap.size ≤ q) (fun _ h => h)).mono ?_
    rintro e w3 ⟨b, rfl, hbb, hrep, hbe⟩
    have HO := hd (own_new b12 hrep hbe)
    clear hrep hbe hbb b12
    go_wp2_with fail
    go_loopw [4] (fun i wr => ∃ (k B : Nat) (s : St), i = .int .i64 k ∧ k ≤ n ∧ s.ml.length ≤ 120 * k ∧ Hd (OwnR B w wr b s)) (fun i _ => n - (intOf i).toNat)
    case atStart => exact ⟨0, _, ⟨0, false, []⟩, rfl, Nat.zero_le _, Nat.le_refl _, HO⟩
    case round =>
      clear HO
      obtain ⟨k, B, s, rfl, hk, hsl, HO⟩ := hrel
      have hki : (0 : Int) ≤ (k : Int) := by omega
      by_cases hlt : k < n
      · have hlti : (k : Int) < (n : Int) := by omega
        have hkl : k < l.length := by rw [← HN.o]; exact hlt
        obtain ⟨g, o, rfl, hg, hc⟩ := HR.o.at_ (by omega)
        obtain ⟨x, hx⟩ : ∃ x, l[k]'hkl = x := ⟨_, rfl⟩
        have HXOK := hd (HOK.o x (by rw [← hx]; exact List.getElem_mem hkl))
        have HX120 := hd (HE.o x (by rw [← hx]; exact List.getElem_mem hkl))
        have hcell : ∀ j u, j < 9 → (acEnc x)[j]? = some u → w.cell? ⟨g, o + (k * 9 + j), none⟩ = some u := fun j u hj hv => hc _ _ ((flat_at acEnc 9 acEnc_len l k hkl j hj).trans (by rw [hx]; exact hv))
        go_wp2_with fail
        refine (own_token HO.o).mono ?_
        rintro e w4 ⟨rfl, rfl⟩
        go_wp2_with fail
        refine (own_more HO.o).mono ?_
        rintro e w4 ⟨rfl, rfl⟩
        go_wp2_with fail
        refine (own_cards HO.o (by omega)).mono ?_
        rintro e w5 ⟨A5, c5, rfl, hr5, ha5, b5⟩
        have HO5 := hd (HO.o.bel b5)
        have HR5 := hd hr5
        have HA5 := hd ha5
        have hBle := HO.o.le
        have hcell5 : ∀ j u, j < 9 → (acEnc x)[j]? = some u → w5.cell? ⟨g, o + (k * 9 + j), none⟩ = some u := fun j u hj hv => (HO5.o.below.cell (p := ⟨g, o + (k * 9 + j), none⟩) hg).trans (hcell j u hj hv)
        obtain ⟨asked, rs, A2, c2, items⟩ := x
        have HF := hd (own_fold (HO5.o.bel (bdrEntItem (Below.refl _ _))) asked rs items A2 c2 ((HXOK.o.below (bdrEntItem HO5.o.below)).rds) (fun hne q hq => .inl (rds_lt HXOK.o.rds (List.length_pos_iff.2 hne) q hq)) (by have := HX120.o; simp only at this; omega) (fun y hy => (HXOK.o.each y hy).1))
        have hsaid := fold_said s asked rs items
        have hfl := fold_len s asked rs items
        have h120 := HX120.o
        simp only at h120
        obtain ⟨m, hmm⟩ : ∃ m, items.length = m := ⟨_, rfl⟩
        obtain ⟨er, ht1⟩ : ∃ er, (foldSem s asked rs items).1 = er := ⟨_, rfl⟩
        obtain ⟨s', ht2⟩ : ∃ s', (foldSem s asked rs items).2 = s' := ⟨_, rfl⟩
        rw [ht1, ht2] at HF hsaid
        rw [ht2] at hfl
        have HCELL := hd (fun (w' : World) (hb : Below w.heap.size w w') (j : Nat) (u : Value) (hj : j < 9) (hv : (acEnc ⟨asked, rs, A2, c2, items⟩)[j]? = some u) => (hb.cell (p := ⟨g, o + (k * 9 + j), none⟩) hg).trans (hcell j u hj hv))
        obtain ⟨kind, err, tok, version, card, index, mr⟩ := rs
        have k0 := hcell5 0 _ (by omega) rfl
        have k1 := hcell5 1 _ (by omega) rfl
        have k2 := hcell5 2 _ (by omega) rfl
        have k3 := hcell5 3 _ (by omega) rfl
        have k4 := hcell5 4 _ (by omega) rfl
        have k5 := hcell5 5 _ (by omega) rfl
        have k6 := hcell5 6 _ (by omega) rfl
        have k7 := hcell5 7 _ (by omega) rfl
        have k8 := hcell5 8 _ (by omega) rfl
        rw [← Nat.add_assoc] at k0 k1 k2 k3 k4 k5 k6 k7 k8
        rw [Nat.add_zero] at k0
        simp only [hmm] at k8 HF
        simp only [rsEnc] at HF
        rw [hmm] at hfl h120
        simp only at hsaid
        have hnl : s'.ml.length ≤ 120 * (k + 1) := by omega
        have HNL := hd hnl
        clear hcell5 hcell hc hx hmm ht1 ht2 hkl hr5 b5 ha5
        go_wp2_with fail
        go_still_tail 11, (by kernel_rfl)
        go_wp2_with fail
        refine HF.o.mono ?_
        rintro e w6 ⟨rfl, hO6, hc6⟩
        have HR6 := hd ((show Rds w5.drew A5 _ 4 _ from ⟨HR5.o.len, HR5.o.at_⟩).chg hc6 (fun q hq hb => by have := HA5.o q hq; omega))
        have HO6 := hd hO6
        have b6 := hO6.below
        have HC6 := hd (HCELL.o w6 b6)
        clear hc6 hO6 b6 k0 k1 k2 k3 k4 k5 k6 k7 k8
        rcases hsaid with ⟨h1, h2, h3⟩ | ⟨h1, h2, h3⟩ | ⟨h1, h2, h3, h4, h5, h6⟩
        · subst h3
          rcases h2 with h2 | h2
          all_goals
            subst h2
            have f3 : (s'.token != s'.token) = false := by simp
            have f4 : (s'.more != s'.more) = false := by simp
            clear h1
            go_wp2_with fail
            refine (own_token HO6.o).mono ?_
            rintro e w7 ⟨rfl, rfl⟩
            go_wp2_with fail
            refine (own_more HO6.o).mono ?_
            rintro e w7 ⟨rfl, rfl⟩
            go_wp2_with fail
            refine (own_cards HO6.o (by omega)).mono ?_
            rintro e w8 ⟨A8, c8, rfl, hr8, ha8, b8⟩
            have HO8 := hd (HO6.o.bel b8)
            go_wp2_with fail
            refine (its_calls w8 A8 A5 _ _ c8 c5 (s'.ml.map (·.2)) (s'.ml.map (·.2)) (by simp) (by simp) hr8 (HR6.o.below b8) (by omega) (by omega)).mono ?_
            rintro e w9 ⟨rfl, b9⟩
            rw [decide_eq_true (rfl : s'.ml.map (·.2) = s'.ml.map (·.2))]
            have HO9 := hd (HO8.o.bel b9)
            clear hr8 ha8 b8 b9
            go_wp2
            go_roundw
            case rel => exact ⟨k + 1, _, s', by go_num, by omega, HNL.o, HO9⟩
            case measure => simp [intOf]; omega
        · subst h1 h3
          have e2 := HC6.o 2 _ (by omega) rfl
          rw [← Nat.add_assoc] at e2
          have f8 : (err == 8) = true := by simpa using h2
          clear h2
          go_wp2_with fail
          refine (own_token HO6.o).mono ?_
          rintro e w7 ⟨rfl, rfl⟩
          go_wp2_with fail
          refine (own_more HO6.o).mono ?_
          rintro e w7 ⟨rfl, rfl⟩
          go_wp2_with fail
          refine (own_cards HO6.o (by simp)).mono ?_
          rintro e w8 ⟨A8, c8, rfl, hr8, ha8, b8⟩
          have HO8 := hd (HO6.o.bel b8)
          clear hr8 ha8 b8
          go_wp2
          go_roundw
          case rel => exact ⟨k + 1, _, _, by go_num, by omega, HNL.o, HO8⟩
          case measure => simp [intOf]; omega
        · subst h1 h3
          have e0 := HC6.o 0 _ (by omega) rfl
          have e2 := HC6.o 2 _ (by omega) rfl
          have e3 := HC6.o 3 _ (by omega) rfl
          have e7 := HC6.o 7 _ (by omega) rfl
          rw [← Nat.add_assoc] at e0 e2 e3 e7
          rw [Nat.add_zero] at e0
          have f8 : (err == 8) = false := by simpa using h2
          have f1 : (s.token != s.token) = false := by simp
          have f2 : (tok != tok) = false := by simp
          have f3 : decide (tok < s.token) = false := by simpa using h5
          have f4 : (mr != mr) = false := by simp
          have HT := hd (fun (q : Nat) => (own_token (HO6.o.bel (bdrewN (Below.refl _ _) q))))
          have HM := hd (fun (q : Nat) => (own_more (HO6.o.bel (bdrewN (Below.refl _ _) q))))
          rw [h4] at HT
          rw [h6] at HM
          clear h2 h4 h5 h6
          go_wp2_with fail
          go_quiet (first | (go_at_call 25; exact q1 (HT.o _)) | (go_at_call 25; exact q2 (HT.o _)) | (go_at_call 26; exact q1 (HM.o _)) | (go_at_call 26; exact q2 (HM.o _)))
          go_wp2
          go_roundw
          case rel => exact ⟨k + 1, _, s', by go_num, by omega, HNL.o, hd (HO6.o.bel (bdrewN (Below.refl _ _) nq))⟩
          case measure => simp [intOf]; omega
      · obtain rfl : k = n := by omega
        go_wp2
        go_ret
        exact ⟨rfl, HO.o.below⟩

end Go.Proofs.Ytbeckfnhgeclnaa
