/-
  ReplicaTurned, as a call: it returns true, whatever the two answers.
-/
import Derived.Test.YtbeckfnhgeclnaaTwoR
import Derived.Test.YtbeckfnhgeclnaaBackR
import Derived.Deep.RegionHeld3
namespace Go.Proofs.Ytbeckfnhgeclnaa
open Go.RowKit Go.Lib

theorem TwoR.drew {B : Nat} {w wr : World} {b1 b2 : Nat} {s1 s2 : St} (h : TwoR B w wr b1 b2 s1 s2) : TwoR B w wr.drew b1 b2 s1 s2 := h.bel (bdrEntItem (Below.refl _ _))
theorem Row_drewR {w : World} {A : Option Addr} {n k : Nat} {xs : List Value} (h : Rds w A n k xs) : Rds w.drew A n k xs := ⟨h.len, h.at_⟩
/-- The first copy folds what came in. -/
theorem two_foldA {B : Nat} {w wr : World} {b1 b2 : Nat} {s1 s2 : St} {r : Rs} {A : Option Addr} {items : List It} (h : TwoR B w wr b1 b2 s1 s2) (ok : RsOk w r A items) (asked : Int) (c : Nat) (hl : s1.ml.length + items.length ≤ 1000000) :
    Calls Try.prog 21 #[.pointer (some ⟨b1, 0, none⟩), .int .i64 asked, .agg (rsEnc r A items.length c).toArray] wr fun e w' => e = .returned (.int .i64 (foldSem s1 asked r items).1) ∧ TwoR w'.heap.size w w' b1 b2 (foldSem s1 asked r items).2 s2 :=
  (two_fold h asked r items A c (ok.rds.below h.below) (fun hne q hq => .inl (rds_lt ok.rds (List.length_pos_iff.2 hne) q hq)) hl (fun y hy => (ok.each y hy).1)).mono fun e w' ⟨h1, h2, _⟩ => ⟨h1, h2⟩
theorem two_back {B : Nat} {w wr : World} {b1 b2 : Nat} {s1 s2 : St} {r : Rs} {A : Option Addr} {items : List It} (h : TwoR B w wr b1 b2 s1 s2) (ok : RsOk w r A items) (c : Nat) (hl : items.length ≤ 1000000) :
    Calls Try.prog 30 #[.agg (rsEnc r A items.length c).toArray] wr fun e w' => ∃ A' c', e = .returned (.agg (rsEnc r A' items.length c').toArray) ∧ TwoR B w w' b1 b2 s1 s2 ∧ Rds w' A' items.length 4 (itsEnc items.reverse) ∧ (∀ q, Of A' q → B ≤ q) :=
  (back_calls wr r A c items (ok.rds.below h.below) hl).mono fun e w' ⟨A', c', h1, h2, h3⟩ => ⟨A', c', h1, h.bel h3, h2.rds, fun q hq => by
    have h4 : wr.heap.size ≤ q := h2.of_sub q hq
    have := h.le
    omega⟩
/-- The second copy folds what was turned. -/
theorem two_foldB {B : Nat} {w wr : World} {b1 b2 : Nat} {s1 s2 : St} {r : Rs} {A A' : Option Addr} {items : List It} (h : TwoR B w wr b1 b2 s1 s2) (ok : RsOk w r A items) (asked : Int) (c : Nat) (hr : Rds wr A' items.length 4 (itsEnc items.reverse)) (hA : ∀ q, Of A' q → B ≤ q) (hl : s2.ml.length + items.length ≤ 1000000) :
    Calls Try.prog 21 #[.pointer (some ⟨b2, 0, none⟩), .int .i64 asked, .agg (rsEnc r A' items.length c).toArray] wr fun e w' => e = .returned (.int .i64 (foldSem s2 asked r items).1) ∧ TwoR w'.heap.size w w' b1 b2 s1 (foldSem s2 asked r items).2 := by
  have h1 := two_fold h.swap asked r items.reverse A' c (by rw [List.length_reverse]; exact hr) (fun _ q hq => .inr (hA q hq)) (by rw [List.length_reverse]; exact hl) (fun y hy => (ok.each y (List.mem_reverse.1 hy)).1)
  rw [List.length_reverse, foldSem_perm h.swap.rise asked r (List.reverse_perm items)] at h1
  exact h1.mono fun e w' ⟨h1, h2, _⟩ => ⟨h1, h2.swap⟩
theorem two_token2 {B : Nat} {w wr : World} {b1 b2 : Nat} {s1 s2 : St} (h : TwoR B w wr b1 b2 s1 s2) : Calls Try.prog 25 #[.pointer (some ⟨b2, 0, none⟩)] wr fun e w' => e = .returned (.int .i64 s2.token) ∧ wr = w' := two_token h.swap
theorem two_more2 {B : Nat} {w wr : World} {b1 b2 : Nat} {s1 s2 : St} (h : TwoR B w wr b1 b2 s1 s2) : Calls Try.prog 26 #[.pointer (some ⟨b2, 0, none⟩)] wr fun e w' => e = .returned (.bool s2.more) ∧ wr = w' := two_more h.swap
theorem lightR_len {r : Rs} {items : List It} (h : lightR r items = true) : items.length ≤ 120 := by
  simp only [lightR, Bool.and_eq_true, Bool.not_eq_true', Bool.or_eq_false_iff, decide_eq_false_iff_not] at h
  omega
theorem fold_len (s : St) (asked : Int) (r : Rs) (l : List It) : (foldSem s asked r l).2.ml.length ≤ s.ml.length + l.length := by
  by_cases h1 : r.kind ≠ 8 ∨ asked ≠ s.token
  · rw [fold_kind h1]; simp
  · have h2 : r.kind = 8 := Decidable.byContradiction fun hn => h1 (.inl hn)
    have h3 : asked = s.token := Decidable.byContradiction fun hn => h1 (.inr hn)
    by_cases h4 : r.err = 8
    · rw [fold_tok h2 h3 h4]; simp
    · by_cases h5 : r.err = 0
      · by_cases h6 : r.token < asked
        · rw [fold_low h2 h3 h5 h6]; simp
        · by_cases h7 : okIts asked l
          · rw [fold_ok h2 h3 h5 h6 h7]
            have := foldIts_len (if asked = 0 then [] else s.ml) l
            simp only
            split at this <;> simp_all <;> omega
          · rw [fold_bad h2 h3 h5 h6 h7]; simp
      · rw [fold_err h2 h3 h4 h5]; simp

theorem box8 {w w' : World} {b t B : Nat} {v0 v1 v2 v3 v4 v5 v6 v7 : Value} (h : Blk w b t #[v0, v1, v2, v3, v4, v5, v6, v7]) (hb : Below B w w') (hB : b < B) : w'.cell? ⟨b, 0, none⟩ = some v0 ∧ w'.cell? ⟨b, 1, none⟩ = some v1 ∧ w'.cell? ⟨b, 2, none⟩ = some v2 ∧ w'.cell? ⟨b, 3, none⟩ = some v3 ∧ w'.cell? ⟨b, 4, none⟩ = some v4 ∧ w'.cell? ⟨b, 5, none⟩ = some v5 ∧ w'.cell? ⟨b, 6, none⟩ = some v6 ∧ w'.cell? ⟨b, 7, none⟩ = some v7 :=
  have h := h.below hb hB
  ⟨h.at_ 0 rfl, h.at_ 1 rfl, h.at_ 2 rfl, h.at_ 3 rfl, h.at_ 4 rfl, h.at_ 5 rfl, h.at_ 6 rfl, h.at_ 7 rfl⟩

set_option maxRecDepth 100000 in
set_option maxHeartbeats 8000000 in
theorem turned_calls (w : World) (ra rb : Rs) (A B : Option Addr) (ca cb : Nat) (ia ib : List It) (oa : RsOk w ra A ia) (ob : RsOk w rb B ib) :
    Calls Try.prog 5 #[.agg (rsEnc ra A ia.length ca).toArray, .agg (rsEnc rb B ib.length cb).toArray] w fun e w' => e = .returned (.bool true) ∧ Below w.heap.size w w' := by
  have OA := hd oa
  have OB := hd ob
  clear oa ob
  have HLA := hd (fun w' (hb : Below w.heap.size w w') => lresp_calls w' ra A ca ia (OA.o.below hb))
  have HLB := hd (fun w' (hb : Below w.heap.size w w') => lresp_calls w' rb B cb ib (OB.o.below hb))
  obtain ⟨la, hla⟩ : ∃ x, lightR ra ia = x := ⟨_, rfl⟩
  obtain ⟨lb, hlb⟩ : ∃ x, lightR rb ib = x := ⟨_, rfl⟩
  rw [hla] at HLA
  rw [hlb] at HLB
  have TA := hd hla
  have TB := hd hlb
  clear hla hlb
  obtain ⟨n, hn⟩ : ∃ n, ia.length = n := ⟨_, rfl⟩
  obtain ⟨m, hm⟩ : ∃ n, ib.length = n := ⟨_, rfl⟩
  have LA := hd hn
  have LB := hd hm
  rw [hn] at HLA ⊢
  rw [hm] at HLB ⊢
  clear hn hm
  obtain ⟨ak, ae, at_, av, ac, ai, am⟩ := ra
  obtain ⟨bk, be, bt, bv, bc, bi, bm⟩ := rb
  simp only [rsEnc] at HLA HLB ⊢
  cases la with
  | false =>
    go_enter Try.func5, Try.ntmps5
    go_wp2_with fail
    generalize h0 : World.alloc (World.alloc w _) _ = w0
    have HW0 : Hd (Below w.heap.size w w0) := hd (h0 ▸ ((Below.refl _ w).alloc (Nat.le_refl _) _).alloc (by simp) _)
    have KEEP : Hd (∀ w', Below w0.heap.size w0 w' → (w'.cell? ⟨w.heap.size, 0, none⟩ = some (.int .i64 ak) ∧ w'.cell? ⟨w.heap.size, 1, none⟩ = some (.int .i64 ae) ∧ w'.cell? ⟨w.heap.size, 2, none⟩ = some (.int .i64 at_) ∧ w'.cell? ⟨w.heap.size, 3, none⟩ = some (.int .i64 av) ∧ w'.cell? ⟨w.heap.size, 4, none⟩ = some (.string (bs ac)) ∧ w'.cell? ⟨w.heap.size, 5, none⟩ = some (.int .i64 ai) ∧ w'.cell? ⟨w.heap.size, 6, none⟩ = some (.bool am) ∧ w'.cell? ⟨w.heap.size, 7, none⟩ = some (.slice A n ca)) ∧ (w'.cell? ⟨w.heap.size + 1, 0, none⟩ = some (.int .i64 bk) ∧ w'.cell? ⟨w.heap.size + 1, 1, none⟩ = some (.int .i64 be) ∧ w'.cell? ⟨w.heap.size + 1, 2, none⟩ = some (.int .i64 bt) ∧ w'.cell? ⟨w.heap.size + 1, 3, none⟩ = some (.int .i64 bv) ∧ w'.cell? ⟨w.heap.size + 1, 4, none⟩ = some (.string (bs bc)) ∧ w'.cell? ⟨w.heap.size + 1, 5, none⟩ = some (.int .i64 bi) ∧ w'.cell? ⟨w.heap.size + 1, 6, none⟩ = some (.bool bm) ∧ w'.cell? ⟨w.heap.size + 1, 7, none⟩ = some (.slice B m cb))) := hd (fun w' hb =>
      ⟨box8 (h0 ▸ ((Blk.new w 35 _).alloc _)) hb (by subst h0; simp; omega), box8 (h0 ▸ (Blk.new_ _ _ (by simp) 35 _)) hb (by subst h0; simp)⟩)
    clear h0
    refine (first_calls _).mono ?_
    rintro e w1 ⟨rfl, b1⟩
    obtain ⟨⟨x0, x1, x2, x3, x4, x5, x6, x7⟩, ⟨y0, y1, y2, y3, y4, y5, y6, y7⟩⟩ := KEEP.o w1 b1
    go_wp2_with fail
    refine (HLA.o w1 (HW0.o.trans (b1.mono HW0.o.size))).mono ?_
    rintro e w2 ⟨rfl, b2⟩
    clear x0 x1 x2 x3 x4 x5 x6 x7 y0 y1 y2 y3 y4 y5 y6 y7
    go_wp2_with fail
    refine (first_calls w2).mono ?_
    rintro e w3 ⟨rfl, b3⟩
    have BB := hd (HW0.o.trans ((b1.trans ((b2.trans (b3.mono b2.size)).mono b1.size)).mono HW0.o.size))
    clear b1 b2 b3
    go_wp2
    go_ret
    exact ⟨rfl, BB.o⟩
  | true =>
    go_enter Try.func5, Try.ntmps5
    go_wp2_with fail
    generalize h0 : World.alloc (World.alloc w _) _ = w0
    have HW0 : Hd (Below w.heap.size w w0) := hd (h0 ▸ ((Below.refl _ w).alloc (Nat.le_refl _) _).alloc (by simp) _)
    have KEEP : Hd (∀ w', Below w0.heap.size w0 w' → (w'.cell? ⟨w.heap.size, 0, none⟩ = some (.int .i64 ak) ∧ w'.cell? ⟨w.heap.size, 1, none⟩ = some (.int .i64 ae) ∧ w'.cell? ⟨w.heap.size, 2, none⟩ = some (.int .i64 at_) ∧ w'.cell? ⟨w.heap.size, 3, none⟩ = some (.int .i64 av) ∧ w'.cell? ⟨w.heap.size, 4, none⟩ = some (.string (bs ac)) ∧ w'.cell? ⟨w.heap.size, 5, none⟩ = some (.int .i64 ai) ∧ w'.cell? ⟨w.heap.size, 6, none⟩ = some (.bool am) ∧ w'.cell? ⟨w.heap.size, 7, none⟩ = some (.slice A n ca)) ∧ (w'.cell? ⟨w.heap.size + 1, 0, none⟩ = some (.int .i64 bk) ∧ w'.cell? ⟨w.heap.size + 1, 1, none⟩ = some (.int .i64 be) ∧ w'.cell? ⟨w.heap.size + 1, 2, none⟩ = some (.int .i64 bt) ∧ w'.cell? ⟨w.heap.size + 1, 3, none⟩ = some (.int .i64 bv) ∧ w'.cell? ⟨w.heap.size + 1, 4, none⟩ = some (.string (bs bc)) ∧ w'.cell? ⟨w.heap.size + 1, 5, none⟩ = some (.int .i64 bi) ∧ w'.cell? ⟨w.heap.size + 1, 6, none⟩ = some (.bool bm) ∧ w'.cell? ⟨w.heap.size + 1, 7, none⟩ = some (.slice B m cb))) := hd (fun w' hb =>
      ⟨box8 (h0 ▸ ((Blk.new w 35 _).alloc _)) hb (by subst h0; simp; omega), box8 (h0 ▸ (Blk.new_ _ _ (by simp) 35 _)) hb (by subst h0; simp)⟩)
    clear h0
    refine (first_calls _).mono ?_
    rintro e w1 ⟨rfl, b1⟩
    obtain ⟨⟨x0, x1, x2, x3, x4, x5, x6, x7⟩, ⟨y0, y1, y2, y3, y4, y5, y6, y7⟩⟩ := KEEP.o w1 b1
    go_wp2_with fail
    refine (HLA.o w1 (HW0.o.trans (b1.mono HW0.o.size))).mono ?_
    rintro e w2 ⟨rfl, b2⟩
    clear x0 x1 x2 x3 x4 x5 x6 x7 y0 y1 y2 y3 y4 y5 y6 y7
    have b12 := b1.trans (b2.mono b1.size)
    clear b1 b2
    obtain ⟨⟨x0, x1, x2, x3, x4, x5, x6, x7⟩, ⟨y0, y1, y2, y3, y4, y5, y6, y7⟩⟩ := KEEP.o w2 b12
    go_wp2_with fail
    refine (HLB.o w2 (HW0.o.trans (b12.mono HW0.o.size))).mono ?_
    rintro e w3 ⟨rfl, b3⟩
    clear x0 x1 x2 x3 x4 x5 x6 x7 y0 y1 y2 y3 y4 y5 y6 y7
    have b13 := b12.trans (b3.mono b12.size)
    clear b12 b3
    cases lb with
    | false =>
      go_wp2_with fail
      refine (first_calls w3).mono ?_
      rintro e w4 ⟨rfl, b4⟩
      have BB := hd (HW0.o.trans ((b13.trans (b4.mono b13.size)).mono HW0.o.size))
      clear b13 b4
      go_wp2
      go_ret
      exact ⟨rfl, BB.o⟩
    | true =>
      have OA0 := hd (OA.o.below HW0.o)
      have OB0 := hd (OB.o.below HW0.o)
      have n120 := lightR_len TA.o
      have m120 := lightR_len TB.o
      rw [LA.o] at n120
      rw [LB.o] at m120
      have HB13 := hd b13
      clear HLA HLB b13
      go_wp2_with fail
      refine (rnew_calls w3 (fun q => w3.heap.size ≤ q) (fun _ h => h)).mono ?_
      rintro e w4 ⟨b1, rfl, hb1, hrep1, hbe1⟩
      go_wp2_with fail
      refine (rnew_calls w4 (fun q => w4.heap.size ≤ q) (fun _ h => h)).mono ?_
      rintro e w5 ⟨b2, rfl, hb2, hrep2, hbe2⟩
      have T0 := two_new HB13.o hrep1 hbe1 hrep2 hbe2
      clear hb1 hrep1 hbe1 hb2 hrep2 hbe2 HB13
      obtain ⟨B0, hB0⟩ : ∃ x, w5.heap.size = x := ⟨_, rfl⟩
      rw [hB0] at T0
      obtain ⟨e1, he1⟩ : ∃ x, (foldSem ⟨0, false, []⟩ 0 ⟨ak, ae, at_, av, ac, ai, am⟩ ia).1 = x := ⟨_, rfl⟩
      obtain ⟨s1, hs1⟩ : ∃ x, (foldSem ⟨0, false, []⟩ 0 ⟨ak, ae, at_, av, ac, ai, am⟩ ia).2 = x := ⟨_, rfl⟩
      obtain ⟨e2, he2⟩ : ∃ x, (foldSem s1 s1.token ⟨bk, be, bt, bv, bc, bi, bm⟩ ib).1 = x := ⟨_, rfl⟩
      obtain ⟨s2, hs2⟩ : ∃ x, (foldSem s1 s1.token ⟨bk, be, bt, bv, bc, bi, bm⟩ ib).2 = x := ⟨_, rfl⟩
      have l1 : s1.ml.length ≤ 120 := by
        have := fold_len ⟨0, false, []⟩ 0 ⟨ak, ae, at_, av, ac, ai, am⟩ ia
        rw [hs1, LA.o] at this
        simp at this
        omega
      have l2 : s2.ml.length ≤ 240 := by
        have := fold_len s1 s1.token ⟨bk, be, bt, bv, bc, bi, bm⟩ ib
        rw [hs2, LB.o] at this
        omega
      have F1 := hd (fun (B wr : _) (s' : St) (h : TwoR B w0 wr b1 b2 ⟨0, false, []⟩ s') => two_foldA h OA0.o 0 ca (by rw [LA.o]; simp; omega))
      have F2 := hd (fun (B wr : _) (s' : St) (A' : _) (c' : Nat) (h : TwoR B w0 wr b1 b2 s' ⟨0, false, []⟩) (hr : Rds wr A' ia.length 4 (itsEnc ia.reverse)) (hA : ∀ q, Of A' q → B ≤ q) => two_foldB h OA0.o 0 c' hr hA (by rw [LA.o]; simp; omega))
      have F3 := hd (fun (B wr : _) (s' : St) (h : TwoR B w0 wr b1 b2 s1 s') => two_foldA h OB0.o s1.token cb (by rw [LB.o]; omega))
      have F4 := hd (fun (B wr : _) (s' : St) (A' : _) (c' : Nat) (h : TwoR B w0 wr b1 b2 s' s1) (hr : Rds wr A' ib.length 4 (itsEnc ib.reverse)) (hA : ∀ q, Of A' q → B ≤ q) => two_foldB h OB0.o s1.token c' hr hA (by rw [LB.o]; omega))
      have G1 := hd (fun (B wr : _) (s' s'' : St) (h : TwoR B w0 wr b1 b2 s' s'') => two_back h OA0.o ca (by rw [LA.o]; omega))
      have G2 := hd (fun (B wr : _) (s' s'' : St) (h : TwoR B w0 wr b1 b2 s' s'') => two_back h OB0.o cb (by rw [LB.o]; omega))
      rw [he1, hs1, LA.o] at F1 F2
      rw [he2, hs2, LB.o] at F3 F4
      rw [LA.o] at G1
      rw [LB.o] at G2
      simp only [rsEnc] at F1 F2 F3 F4 G1 G2
      have n1 : (e1 != e1) = false := by simp
      have n2 : (e2 != e2) = false := by simp
      clear he1 he2 hs1 hs2 OA OB OA0 OB0 TA TB LA LB hB0
      go_wp2_with fail
      go_region_held3 (fun w' => (w'.cell? ⟨w.heap.size, 0, none⟩ = some (.int .i64 ak) ∧ w'.cell? ⟨w.heap.size, 1, none⟩ = some (.int .i64 ae) ∧ w'.cell? ⟨w.heap.size, 2, none⟩ = some (.int .i64 at_) ∧ w'.cell? ⟨w.heap.size, 3, none⟩ = some (.int .i64 av) ∧ w'.cell? ⟨w.heap.size, 4, none⟩ = some (.string (bs ac)) ∧ w'.cell? ⟨w.heap.size, 5, none⟩ = some (.int .i64 ai) ∧ w'.cell? ⟨w.heap.size, 6, none⟩ = some (.bool am) ∧ w'.cell? ⟨w.heap.size, 7, none⟩ = some (.slice A n ca)) ∧ (w'.cell? ⟨w.heap.size + 1, 0, none⟩ = some (.int .i64 bk) ∧ w'.cell? ⟨w.heap.size + 1, 1, none⟩ = some (.int .i64 be) ∧ w'.cell? ⟨w.heap.size + 1, 2, none⟩ = some (.int .i64 bt) ∧ w'.cell? ⟨w.heap.size + 1, 3, none⟩ = some (.int .i64 bv) ∧ w'.cell? ⟨w.heap.size + 1, 4, none⟩ = some (.string (bs bc)) ∧ w'.cell? ⟨w.heap.size + 1, 5, none⟩ = some (.int .i64 bi) ∧ w'.cell? ⟨w.heap.size + 1, 6, none⟩ = some (.bool bm) ∧ w'.cell? ⟨w.heap.size + 1, 7, none⟩ = some (.slice B m cb))) (with_reducible first
          | exact KEEP.o _ (TwoR.below (by assumption))
          | exact KEEP.o _ (TwoR.below (TwoR.drew (by assumption))))
        (first
          | (go_at_call 21
             with_reducible refine (F1.o _ _ _ (by first | assumption | exact TwoR.drew (by assumption))).mono ?_
             rintro e w6 ⟨rfl, hT1⟩)
          | (go_at_call 30
             with_reducible refine (G1.o _ _ _ _ (by first | assumption | exact TwoR.drew (by assumption))).mono ?_
             rintro e w7 ⟨A7, c7, rfl, hT2, hR7, hA7⟩)
          | (go_at_call 21
             with_reducible refine (F2.o _ _ _ _ _ (by first | assumption | exact TwoR.drew (by assumption)) (by first | assumption | exact Row_drewR (by assumption)) (by assumption)).mono ?_
             rintro e w8 ⟨rfl, hT3⟩)
          | (go_at_call 25
             with_reducible refine (two_token (by first | assumption | exact TwoR.drew (by assumption))).mono ?_
             rintro e w9 ⟨rfl, rfl⟩)
          | (go_at_call 21
             with_reducible refine (F3.o _ _ _ (by first | assumption | exact TwoR.drew (by assumption))).mono ?_
             rintro e w10 ⟨rfl, hT4⟩)
          | (go_at_call 25
             with_reducible refine (two_token2 (by first | assumption | exact TwoR.drew (by assumption))).mono ?_
             rintro e w11 ⟨rfl, rfl⟩)
          | (go_at_call 30
             with_reducible refine (G2.o _ _ _ _ (by first | assumption | exact TwoR.drew (by assumption))).mono ?_
             rintro e w12 ⟨A12, c12, rfl, hT5, hR12, hA12⟩)
          | (go_at_call 21
             with_reducible refine (F4.o _ _ _ _ _ (by first | assumption | exact TwoR.drew (by assumption)) (by first | assumption | exact Row_drewR (by assumption)) (by assumption)).mono ?_
             rintro e w13 ⟨rfl, hT6⟩))
      have T7 := hd hT6
      clear hT1 hT2 hT3 hT4 hT5 hR7 hA7 hR12 hA12 F1 F2 F3 F4 G1 G2 KEEP T0
      have n3 : (s2.token == s2.token) = true := by simp
      have n4 : (s2.more == s2.more) = true := by simp
      go_wp2_with fail
      refine (two_token T7.o).mono ?_
      rintro e w14 ⟨rfl, rfl⟩
      go_wp2_with fail
      refine (two_token2 T7.o).mono ?_
      rintro e w15 ⟨rfl, rfl⟩
      go_wp2_with fail
      refine (two_more T7.o).mono ?_
      rintro e w16 ⟨rfl, rfl⟩
      go_wp2_with fail
      refine (two_more2 T7.o).mono ?_
      rintro e w17 ⟨rfl, rfl⟩
      go_wp2_with fail
      refine (two_cards T7.o (by omega)).mono ?_
      rintro e w18 ⟨A8, c8, rfl, hr8, b8⟩
      have T8 := hd (T7.o.bel b8)
      go_wp2_with fail
      refine (two_cards T8.o.swap (by omega)).mono ?_
      rintro e w19 ⟨A9, c9, rfl, hr9, b9⟩
      have T9 := hd (T8.o.bel b9)
      go_wp2_with fail
      refine (its_calls w19 A8 A9 _ _ c8 c9 (s2.ml.map (·.2)) (s2.ml.map (·.2)) (by simp) (by simp) (hr8.below b9) hr9 (by omega) (by omega)).mono ?_
      rintro e w20 ⟨rfl, b10⟩
      rw [decide_eq_true (rfl : s2.ml.map (·.2) = s2.ml.map (·.2))]
      have BB := hd (HW0.o.trans ((T9.o.bel b10).below.mono HW0.o.size))
      clear hr8 hr9 b8 b9 b10
      go_wp2
      go_ret
      exact ⟨rfl, BB.o⟩

end Go.Proofs.Ytbeckfnhgeclnaa
