/-
  A collection behind some writes, and the reference's.
-/
import Derived.Test.YtbeckfnhgeclnaaTwoC
import Derived.Test.YtbeckfnhgeclnaaLightC
import Derived.Deep.RegionHeld3
set_option linter.unusedVariables false
set_option linter.unusedSimpArgs false
namespace Go.Proofs.Ytbeckfnhgeclnaa
open Go.RowKit Go.Lib

/-- The collection behind the acts. -/
def madeF (s : Cs) (l : List ActV) : Cs := l.foldl (fun s x => (s.step x.1 x.2).2) s
theorem madeF_snoc (s : Cs) (l : List ActV) (k : Nat) (h : k < l.length) : madeF s (l.take (k + 1)) = ((madeF s (l.take k)).step l[k].1 l[k].2).2 := by
  unfold madeF
  rw [List.take_succ_eq_append_getElem h, List.foldl_append]
  rfl
/-- How great it may be. -/
structure Cs.Small (s : Cs) (k : Nat) : Prop where
  ml : s.ml.length ≤ k
  log : s.log.length ≤ k
  bytes : bytesM s.ml ≤ 1000 * (k : Int)

set_option maxRecDepth 100000 in
set_option maxHeartbeats 8000000 in
theorem made_calls (w w0 : World) (hw : Below w.heap.size w w0) (birth cards log : Int) (A : Option Addr) (n c : Nat) (l : List ActV) (hr : Rds w A n 6 (actsE l)) (hn : n = l.length) (hlt : lightC l = true) :
    Calls Try.prog 33 #[.int .i64 birth, .int .i64 cards, .int .i64 log, .slice A n c] w0 fun e w' => ∃ b b2 B, e = .returned (.tuple #[.pointer (some ⟨b, 0, none⟩), .pointer (some ⟨b2, 0, none⟩)]) ∧ (madeF (Cs.new birth cards log) l).Small 80 ∧ TwoC B w w' b b2 (madeF (Cs.new birth cards log) l) (madeF (Cs.new birth cards log) l) := by
  have hn80 : n ≤ 80 := by rw [hn]; exact lightC_len hlt
  have HE := hd (lightC_each hlt)
  have HR := hd hr
  have HN := hd hn
  clear hn hr hlt
  obtain ⟨s0, hs0⟩ : ∃ s0, Cs.new birth cards log = s0 := ⟨_, rfl⟩
  have H0 : Hd (s0.Small 0) := hd (by rw [← hs0]; exact ⟨Nat.le_refl _, Nat.le_refl _, by simp [Cs.new, bytesM]⟩)
  rw [hs0]
  have HS0 := hd hs0
  clear hs0
  go_enter Try.func33, Try.ntmps33
  go_wp2_with fail
  refine (ownc_new hw birth cards log).mono ?_
  rintro e w3 ⟨b, rfl, hO, _⟩
  have HO := hd hO
  clear hO hw
  go_wp2_with fail
  refine (twoc_new HO.o birth cards log).mono ?_
  rintro e w4 ⟨b2, rfl, hT⟩
  have HT := hd hT
  clear hT HO
  rw [HS0.o] at HT
  go_wp2_with fail
  go_loopw [12] (fun i wr => ∃ (k B : Nat) (s : Cs), i = .int .i64 k ∧ k ≤ n ∧ Hd (s = madeF s0 (l.take k)) ∧ Hd (s.Small k) ∧ Hd (TwoC B w wr b b2 s s)) (fun i _ => n - (intOf i).toNat)
  case atStart => exact ⟨0, _, s0, rfl, Nat.zero_le _, hd rfl, H0, HT⟩
  case round =>
    clear HT H0
    obtain ⟨k, B, s, rfl, hk, HS, HZ, HO⟩ := hrel
    have hki : (0 : Int) ≤ (k : Int) := by omega
    by_cases hlt : k < n
    · have hlti : (k : Int) < (n : Int) := by omega
      have hkl : k < l.length := by rw [← HN.o]; exact hlt
      obtain ⟨g, o, rfl, hg, hc⟩ := HR.o.at_ (by omega)
      obtain ⟨x, hx⟩ : ∃ x, l[k]'hkl = x := ⟨_, rfl⟩
      have hxs := HE.o x (by rw [← hx]; exact List.getElem_mem hkl)
      have hcell : ∀ j u, j < 6 → (actE x)[j]? = some u → w.cell? ⟨g, o + (k * 6 + j), none⟩ = some u := fun j u hj hv => hc _ _ ((actsE_at l k hkl j hj).trans (by rw [hx]; exact hv))
      have hnx := madeF_snoc s0 l k hkl
      rw [← HS.o, hx] at hnx
      obtain ⟨⟨del, uid, text, ck, cv⟩, tok⟩ := x
      simp only at hxs hnx
      have hsz := Cs.step_sizes HO.o.ok1 ⟨del, uid, text, ck, cv⟩ tok
      simp only at hsz
      obtain ⟨hs1, hs2, hs3⟩ := HZ.o
      have F1 := hd (fun (B : Nat) (wr : World) (h : TwoC B w wr b b2 s s) => twoc_apply1 h ⟨del, uid, text, ck, cv⟩ tok (by omega) (by omega) (by omega) (by show text.length ≤ _; omega) (by show uid.length ≤ maxLen; unfold maxLen; omega))
      have F2 := hd (fun (B : Nat) (wr : World) (h : TwoC B w wr b b2 (s.step ⟨del, uid, text, ck, cv⟩ tok).2 s) => twoc_apply2 h ⟨del, uid, text, ck, cv⟩ tok (by omega) (by omega))
      obtain ⟨er, ht1⟩ : ∃ er, (s.step ⟨del, uid, text, ck, cv⟩ tok).1 = er := ⟨_, rfl⟩
      obtain ⟨s', ht2⟩ : ∃ s', (s.step ⟨del, uid, text, ck, cv⟩ tok).2 = s' := ⟨_, rfl⟩
      rw [ht1, ht2] at F1 F2
      rw [ht2] at hsz hnx
      simp only [opEnc] at F1 F2
      have HZ2 : Hd (s'.Small (k + 1)) := hd ⟨by omega, by omega, by omega⟩
      have HS2 : Hd (s' = madeF s0 (l.take (k + 1))) := hd hnx.symm
      have KEEP : Hd (∀ w', Below w.heap.size w w' → w'.cell? ⟨g, o + k * 6, none⟩ = some (.bool del) ∧ w'.cell? ⟨g, o + k * 6 + 1, none⟩ = some (.string (bs uid)) ∧ w'.cell? ⟨g, o + k * 6 + 2, none⟩ = some (.string (bs text)) ∧ w'.cell? ⟨g, o + k * 6 + 3, none⟩ = some (.int .i64 ck) ∧ w'.cell? ⟨g, o + k * 6 + 4, none⟩ = some (.int .i64 cv) ∧ w'.cell? ⟨g, o + k * 6 + 5, none⟩ = some (.int .i64 tok)) := hd (fun w' hb => by
        have kk := fun (j : Nat) (u : Value) (hj : j < 6) (hv : (actE (⟨del, uid, text, ck, cv⟩, tok))[j]? = some u) => (hb.cell (p := ⟨g, o + (k * 6 + j), none⟩) hg).trans (hcell j u hj hv)
        have k0 := kk 0 _ (by omega) rfl
        have k1 := kk 1 _ (by omega) rfl
        have k2 := kk 2 _ (by omega) rfl
        have k3 := kk 3 _ (by omega) rfl
        have k4 := kk 4 _ (by omega) rfl
        have k5 := kk 5 _ (by omega) rfl
        rw [← Nat.add_assoc] at k0 k1 k2 k3 k4 k5
        exact ⟨k0, k1, k2, k3, k4, k5⟩)
      obtain ⟨a0, a1, a2, a3, a4, a5⟩ := KEEP.o _ HO.o.below
      have T0 := HO.o
      clear hcell hc hx ht1 ht2 hkl hsz hnx HO hxs hs1 hs2 hs3 HZ HS
      go_wp2_with fail
      go_region_held3 (fun w' => w'.cell? ⟨g, o + k * 6, none⟩ = some (.bool del) ∧ w'.cell? ⟨g, o + k * 6 + 1, none⟩ = some (.string (bs uid)) ∧ w'.cell? ⟨g, o + k * 6 + 2, none⟩ = some (.string (bs text)) ∧ w'.cell? ⟨g, o + k * 6 + 3, none⟩ = some (.int .i64 ck) ∧ w'.cell? ⟨g, o + k * 6 + 4, none⟩ = some (.int .i64 cv) ∧ w'.cell? ⟨g, o + k * 6 + 5, none⟩ = some (.int .i64 tok)) (with_reducible first
          | exact KEEP.o _ (TwoC.below (by assumption))
          | exact KEEP.o _ (TwoC.below (TwoC.drew (by assumption))))
        ((go_at_call 44
          with_reducible refine (F1.o _ _ (by first | assumption | exact TwoC.drew (by assumption))).mono ?_
          rintro e w6 ⟨rfl, hT1⟩))
      clear a0 a1 a2 a3 a4 a5 T0 F1
      obtain ⟨a0, a1, a2, a3, a4, a5⟩ := KEEP.o _ hT1.below
      go_wp2_with fail
      go_region_held3 (fun w' => w'.cell? ⟨g, o + k * 6, none⟩ = some (.bool del) ∧ w'.cell? ⟨g, o + k * 6 + 1, none⟩ = some (.string (bs uid)) ∧ w'.cell? ⟨g, o + k * 6 + 2, none⟩ = some (.string (bs text)) ∧ w'.cell? ⟨g, o + k * 6 + 3, none⟩ = some (.int .i64 ck) ∧ w'.cell? ⟨g, o + k * 6 + 4, none⟩ = some (.int .i64 cv) ∧ w'.cell? ⟨g, o + k * 6 + 5, none⟩ = some (.int .i64 tok)) (with_reducible first
          | exact KEEP.o _ (TwoC.below (by assumption))
          | exact KEEP.o _ (TwoC.below (TwoC.drew (by assumption))))
        ((go_at_call 45
          with_reducible refine (F2.o _ _ (by first | assumption | exact TwoC.drew (by assumption))).mono ?_
          rintro e w7 ⟨rfl, hT2⟩))
      have HO7 := hd hT2
      clear hT1 hT2 a0 a1 a2 a3 a4 a5 F2
      go_wp2
      go_roundw
      case rel => exact ⟨k + 1, _, s', by go_num, by omega, HS2, HZ2, HO7⟩
      case measure => simp [intOf]; omega
    · obtain rfl : k = n := by omega
      have HSF : Hd (s = madeF s0 l) := hd (by rw [HS.o, List.take_of_length_le (by rw [HN.o]; exact Nat.le_refl _)])
      have HZF : Hd (s.Small 80) := hd (by obtain ⟨h1, h2, h3⟩ := HZ.o; exact ⟨by omega, by omega, by omega⟩)
      clear HS HZ
      go_wp2
      go_ret2
      refine ⟨b, b2, B, rfl, ?_, ?_⟩
      · rw [← HSF.o]; exact HZF.o
      · rw [← HSF.o]; exact HO.o

end Go.Proofs.Ytbeckfnhgeclnaa
