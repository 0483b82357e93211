/-
  ColPlays, as a call: it returns true, whatever the acts.
-/
import Derived.Test.YtbeckfnhgeclnaaTwoC
import Derived.Test.YtbeckfnhgeclnaaLightC
import Derived.Test.YtbeckfnhgeclnaaIts
import Derived.Deep.RegionHeld3
namespace Go.Proofs.Ytbeckfnhgeclnaa
open Go.RowKit Go.Lib

set_option maxRecDepth 100000 in
set_option maxHeartbeats 8000000 in
theorem cplays_calls (w : World) (birth cards log : Int) (A : Option Addr) (n c : Nat) (l : List ActV) (hr : Rds w A n 6 (actsE l)) (hn : n = l.length) (hm : n ≤ maxLen) (hok : ∀ x ∈ l, OpOk x.1) :
    Calls Try.prog 10 #[.int .i64 birth, .int .i64 cards, .int .i64 log, .slice A n c] w fun e w' => e = .returned (.bool true) ∧ Below w.heap.size w w' := by
  cases hlt : lightC l with
  | false =>
    have HLI := hd (fun w' (hb : Below w.heap.size w w') => clight_calls w' A n c l (hr.below hb) hn hm hok)
    rw [hlt] at HLI
    unfold maxLen at hm
    clear hn hok hr hlt
    go_enter Try.func10, Try.ntmps10
    go_wp2_with fail
    refine (cfirst_calls w).mono ?_
    rintro e w1 ⟨rfl, b1⟩
    go_wp2_with fail
    refine (HLI.o w1 b1).mono ?_
    rintro e w2 ⟨rfl, b2⟩
    go_wp2_with fail
    refine (cfirst_calls w2).mono ?_
    rintro e w3 ⟨rfl, b3⟩
    go_wp2
    go_ret
    exact ⟨rfl, b1.trans ((b2.mono b1.size).trans (b3.mono (by have := b1.size; have := b2.size; omega)))⟩
  | true =>
    have HLI := hd (fun w' (hb : Below w.heap.size w w') => clight_calls w' A n c l (hr.below hb) hn hm hok)
    rw [hlt] at HLI
    have hn80 : n ≤ 80 := by rw [hn]; exact lightC_len hlt
    have HE := hd (lightC_each hlt)
    have HR := hd hr
    have HN := hd hn
    unfold maxLen at hm
    clear hn hok hr hlt
    go_enter Try.func10, Try.ntmps10
    go_wp2_with fail
    refine (cfirst_calls w).mono ?_
    rintro e w1 ⟨rfl, b1⟩
    go_wp2_with fail
    refine (HLI.o w1 b1).mono ?_
    rintro e w2 ⟨rfl, b2⟩
    have b12 : Below w.heap.size w w2 := b1.trans (b2.mono b1.size)
    clear b1 b2
    go_wp2_with fail
    refine (ownc_new b12 birth cards log).mono ?_
    rintro e w3 ⟨b, rfl, hO, _⟩
    have HO := hd hO
    clear hO b12
    go_wp2_with fail
    refine (twoc_new HO.o birth cards log).mono ?_
    rintro e w4 ⟨b2, rfl, hT⟩
    have HT := hd hT
    clear hT HO
    go_wp2_with fail
    go_loopw [11] (fun i wr => ∃ (k B : Nat) (s : Cs), i = .int .i64 k ∧ k ≤ n ∧ s.ml.length ≤ k ∧ s.log.length ≤ k ∧ bytesM s.ml ≤ 1000 * (k : Int) ∧ Hd (TwoC B w wr b b2 s s)) (fun i _ => n - (intOf i).toNat)
    case atStart => exact ⟨0, _, Cs.new birth cards log, rfl, Nat.zero_le _, Nat.le_refl _, Nat.le_refl _, by simp [Cs.new, bytesM], HT⟩
    case round =>
      clear HT
      obtain ⟨k, B, s, rfl, hk, hs1, hs2, hs3, HO⟩ := hrel
      have hki : (0 : Int) ≤ (k : Int) := by omega
      by_cases hlt : k < n
      · have hlti : (k : Int) < (n : Int) := by omega
        have hkl : k < l.length := by rw [← HN.o]; exact hlt
        obtain ⟨g, o, rfl, hg, hc⟩ := HR.o.at_ (by omega)
        obtain ⟨x, hx⟩ : ∃ x, l[k]'hkl = x := ⟨_, rfl⟩
        have hxs := HE.o x (by rw [← hx]; exact List.getElem_mem hkl)
        have hcell : ∀ j u, j < 6 → (actE x)[j]? = some u → w.cell? ⟨g, o + (k * 6 + j), none⟩ = some u := fun j u hj hv => hc _ _ ((actsE_at l k hkl j hj).trans (by rw [hx]; exact hv))
        obtain ⟨⟨del, uid, text, ck, cv⟩, tok⟩ := x
        simp only at hxs
        have hsz := Cs.step_sizes HO.o.ok1 ⟨del, uid, text, ck, cv⟩ tok
        simp only at hsz
        have F1 := hd (fun (B : Nat) (wr : World) (h : TwoC B w wr b b2 s s) => twoc_apply1 h ⟨del, uid, text, ck, cv⟩ tok (by omega) (by omega) (by omega) (by show text.length ≤ _; omega) (by show uid.length ≤ maxLen; unfold maxLen; omega))
        have F2 := hd (fun (B : Nat) (wr : World) (h : TwoC B w wr b b2 (s.step ⟨del, uid, text, ck, cv⟩ tok).2 s) => twoc_apply2 h ⟨del, uid, text, ck, cv⟩ tok (by omega) (by omega))
        obtain ⟨er, ht1⟩ : ∃ er, (s.step ⟨del, uid, text, ck, cv⟩ tok).1 = er := ⟨_, rfl⟩
        obtain ⟨s', ht2⟩ : ∃ s', (s.step ⟨del, uid, text, ck, cv⟩ tok).2 = s' := ⟨_, rfl⟩
        rw [ht1, ht2] at F1 F2
        rw [ht2] at hsz
        simp only [opEnc] at F1 F2
        have hn1 : s'.ml.length ≤ k + 1 := by omega
        have hn2 : s'.log.length ≤ k + 1 := by omega
        have hn3 : bytesM s'.ml ≤ 1000 * ((k + 1 : Nat) : Int) := by omega
        have SM := hd (fun (B : Nat) (wr : World) (h : TwoC B w wr b b2 s' s') => twoc_same h (by omega) (by omega))
        have G1 := hd (fun (B : Nat) (wr : World) (h : TwoC B w wr b b2 s' s') => twoc_get1 h uid (by omega))
        have G2 := hd (fun (B : Nat) (wr : World) (h : TwoC B w wr b b2 s' s') => twoc_get2 h uid (by omega))
        have HNX := hd (And.intro hn1 (And.intro hn2 hn3))
        generalize verM s'.ml uid = gv at G1 G2
        generalize txtM s'.ml uid = gt at G1 G2
        generalize hasM s'.ml uid = gh at G1 G2
        have KEEP : Hd (∀ w', Below w.heap.size w w' → w'.cell? ⟨g, o + k * 6, none⟩ = some (.bool del) ∧ w'.cell? ⟨g, o + k * 6 + 1, none⟩ = some (.string (bs uid)) ∧ w'.cell? ⟨g, o + k * 6 + 2, none⟩ = some (.string (bs text)) ∧ w'.cell? ⟨g, o + k * 6 + 3, none⟩ = some (.int .i64 ck) ∧ w'.cell? ⟨g, o + k * 6 + 4, none⟩ = some (.int .i64 cv) ∧ w'.cell? ⟨g, o + k * 6 + 5, none⟩ = some (.int .i64 tok)) := hd (fun w' hb => by
          have kk := fun (j : Nat) (u : Value) (hj : j < 6) (hv : (actE (⟨del, uid, text, ck, cv⟩, tok))[j]? = some u) => (hb.cell (p := ⟨g, o + (k * 6 + j), none⟩) hg).trans (hcell j u hj hv)
          have k0 := kk 0 _ (by omega) rfl
          have k1 := kk 1 _ (by omega) rfl
          have k2 := kk 2 _ (by omega) rfl
          have k3 := kk 3 _ (by omega) rfl
          have k4 := kk 4 _ (by omega) rfl
          have k5 := kk 5 _ (by omega) rfl
          rw [← Nat.add_assoc] at k0 k1 k2 k3 k4 k5
          exact ⟨k0, k1, k2, k3, k4, k5⟩)
        have n1 : (er != er) = false := by simp
        have n2 : (gv != gv) = false := by simp
        have n3 : (gh != gh) = false := by simp
        obtain ⟨a0, a1, a2, a3, a4, a5⟩ := KEEP.o _ HO.o.below
        have T0 := HO.o
        clear hcell hc hx ht1 ht2 hkl hsz HO hxs hs1 hs2 hs3 hn1 hn2 hn3
        go_wp2_with fail
        go_region_held3 (fun w' => w'.cell? ⟨g, o + k * 6, none⟩ = some (.bool del) ∧ w'.cell? ⟨g, o + k * 6 + 1, none⟩ = some (.string (bs uid)) ∧ w'.cell? ⟨g, o + k * 6 + 2, none⟩ = some (.string (bs text)) ∧ w'.cell? ⟨g, o + k * 6 + 3, none⟩ = some (.int .i64 ck) ∧ w'.cell? ⟨g, o + k * 6 + 4, none⟩ = some (.int .i64 cv) ∧ w'.cell? ⟨g, o + k * 6 + 5, none⟩ = some (.int .i64 tok)) (with_reducible first
            | exact KEEP.o _ (TwoC.below (by assumption))
            | exact KEEP.o _ (TwoC.below (TwoC.drew (by assumption))))
          (first
            | (go_at_call 44
               with_reducible refine (F1.o _ _ (by first | assumption | exact TwoC.drew (by assumption))).mono ?_
               rintro e w6 ⟨rfl, hT1⟩)
            | (go_at_call 45
               with_reducible refine (F2.o _ _ (by first | assumption | exact TwoC.drew (by assumption))).mono ?_
               rintro e w7 ⟨rfl, hT2⟩)
            | (go_at_call 46
               with_reducible refine (SM.o _ _ (by first | assumption | exact TwoC.drew (by assumption))).mono ?_
               rintro e w8 ⟨rfl, hT3⟩))
        have HO8 := hd hT3
        clear hT1 hT2 hT3 T0 F1 F2 SM a0 a1 a2 a3 a4 a5 n1
        obtain ⟨a0, a1, a2, a3, a4, a5⟩ := KEEP.o _ HO8.o.below
        clear a0 a2 a3 a4 a5
        go_wp2_with fail
        refine (G1.o _ _ HO8.o).mono ?_
        rintro e w9 ⟨rfl, hO9⟩
        have HO9 := hd hO9
        obtain ⟨a0, a1, a2, a3, a4, a5⟩ := KEEP.o _ hO9.below
        clear hO9 a0 a2 a3 a4 a5
        go_wp2_with fail
        refine (G2.o _ _ HO9.o).mono ?_
        rintro e w10 ⟨rfl, hO10⟩
        have HO10 := hd hO10
        clear hO10 a1
        go_wp2
        go_roundw
        case rel => exact ⟨k + 1, _, s', by go_num, by omega, HNX.o.1, HNX.o.2.1, HNX.o.2.2, HO10⟩
        case measure => simp [intOf]; omega
      · obtain rfl : k = n := by omega
        have SM := hd (fun (B : Nat) (wr : World) (h : TwoC B w wr b b2 s s) => twoc_same h (by omega) (by omega))
        have L1 := hd (fun (B : Nat) (wr : World) (h : TwoC B w wr b b2 s s) => twoc_live1 h (by omega))
        have L2 := hd (fun (B : Nat) (wr : World) (h : TwoC B w wr b b2 s s) => twoc_live2 h (by omega))
        have hI := fun (wr : World) (A1 A2 : Option Addr) (c1 c2 : Nat) (h1 : Rds wr A1 s.ml.length 4 (itsEnc (liveL s.ml))) (h2 : Rds wr A2 s.ml.length 4 (itsEnc (liveL s.ml))) => its_calls wr A1 A2 s.ml.length s.ml.length c1 c2 (liveL s.ml) (liveL s.ml) (liveL_len _).symm (liveL_len _).symm h1 h2 (by omega) (by omega)
        rw [decide_eq_true (rfl : liveL s.ml = liveL s.ml)] at hI
        have HI := hd hI
        clear hI
        go_wp2_with fail
        refine (SM.o _ _ HO.o).mono ?_
        rintro e w8 ⟨rfl, hO8⟩
        have HO8 := hd hO8
        clear hO8
        go_wp2_with fail
        refine (L1.o _ _ HO8.o).mono ?_
        rintro e w9 ⟨A1, c1, rfl, hr1, hO9, hb9⟩
        have HR1 := hd hr1.rds
        have HO9 := hd hO9
        clear hr1 hO9 hb9
        go_wp2_with fail
        refine (L2.o _ _ HO9.o).mono ?_
        rintro e w10 ⟨A2, c2, rfl, hr2, hO10, hb10⟩
        have HR2 := hd hr2
        have HR3 := hd (HR1.o.below hb10)
        have HO10 := hd hO10
        clear hr2 hO10 hb10
        go_wp2_with fail
        refine (HI.o _ _ _ _ _ HR3.o HR2.o).mono ?_
        rintro e w11 ⟨rfl, hb11⟩
        have HB11 := hd (HO10.o.bel hb11).below
        clear hb11
        go_wp2
        go_ret
        exact ⟨rfl, HB11.o⟩

end Go.Proofs.Ytbeckfnhgeclnaa
