/-
  ReplicaCut, as a call: it returns true, whatever the answer and wherever it is cut.
-/
import Derived.Test.YtbeckfnhgeclnaaTurnR
namespace Go.Proofs.Ytbeckfnhgeclnaa
open Go.RowKit Go.Lib

/-- What a cut leaves: the second part folds to what the whole one left. -/
theorem fold_cut {ra : Rs} {ia : List It} {k : Nat} {m : Int} (h : (foldSem ⟨0, false, []⟩ 0 ra ia).1 = 0) (he : ra.err = 0) (hm : 1 ≤ m) (hmt : m ≤ ra.token) (hv : ∀ x ∈ ia.drop k, m < x.ver) (rp : Rs) (hp : rp.kind = ra.kind ∧ rp.err = ra.err ∧ rp.token = m ∧ rp.more = true) :
    ∃ s1 : St, foldSem ⟨0, false, []⟩ 0 rp (ia.take k) = (0, s1) ∧ s1.token = m ∧ s1.more = true ∧ foldSem s1 m ra (ia.drop k) = (0, (foldSem ⟨0, false, []⟩ 0 ra ia).2) := by
  obtain ⟨h1, _, h3, h4⟩ := fold_taken h he
  obtain ⟨p1, p2, p3, p4⟩ := hp
  have e1 : foldSem ⟨0, false, []⟩ 0 rp (ia.take k) = _ := fold_ok (p1.trans h1) rfl (p2.trans he) (by omega) (okIts_take h4 k)
  refine ⟨_, e1, p3, p4, ?_⟩
  rw [fold_ok (s := ⟨0, false, []⟩) h1 rfl he h3 h4, fold_ok h1 p3.symm he (by omega) (okIts_drop h4 k hv)]
  rw [if_neg (show ¬ m = 0 by omega), if_pos rfl, foldIts_split]

theorem cutP {w : World} {P Q t : Nat} {a0 a1 a2 a3 a4 a5 a6 a7 : Value} (h : Blk w P t #[a0, a1, a2, a3, a4, a5, a6, a7]) (hPQ : P ≠ Q) (v7 v2 v6 u : Value) : Blk ((((w.setCell ⟨P, 7, none⟩ v7).setCell ⟨P, 2, none⟩ v2).setCell ⟨P, 6, none⟩ v6).setCell ⟨Q, 7, none⟩ u) P t #[a0, a1, v2, a3, a4, a5, v6, v7] := by
  have h1 : Blk (w.setCell ⟨P, 7, none⟩ v7) P t #[a0, a1, a2, a3, a4, a5, a6, v7] := by
    have := Blk.set_ h 7 v7
    simpa using this
  have h2 : Blk ((w.setCell ⟨P, 7, none⟩ v7).setCell ⟨P, 2, none⟩ v2) P t #[a0, a1, v2, a3, a4, a5, a6, v7] := by
    have := Blk.set_ h1 2 v2
    simpa using this
  have h3 : Blk (((w.setCell ⟨P, 7, none⟩ v7).setCell ⟨P, 2, none⟩ v2).setCell ⟨P, 6, none⟩ v6) P t #[a0, a1, v2, a3, a4, a5, v6, v7] := by
    have := Blk.set_ h2 6 v6
    simpa using this
  exact h3.far (p := ⟨Q, 7, none⟩) hPQ u
theorem cutQ {w : World} {P Q t : Nat} {a0 a1 a2 a3 a4 a5 a6 a7 : Value} (h : Blk w Q t #[a0, a1, a2, a3, a4, a5, a6, a7]) (hQP : Q ≠ P) (v7 v2 v6 u : Value) : Blk ((((w.setCell ⟨P, 7, none⟩ v7).setCell ⟨P, 2, none⟩ v2).setCell ⟨P, 6, none⟩ v6).setCell ⟨Q, 7, none⟩ u) Q t #[a0, a1, a2, a3, a4, a5, a6, u] := by
  have h1 := ((h.far (p := ⟨P, 7, none⟩) hQP v7).far (p := ⟨P, 2, none⟩) hQP v2).far (p := ⟨P, 6, none⟩) hQP v6
  have := Blk.set_ h1 7 u
  simpa using this
theorem cutB {w W : World} {P Q : Nat} (h : Below w.heap.size w W) (hP : w.heap.size ≤ P) (hQ : w.heap.size ≤ Q) (v7 v2 v6 u : Value) : Below w.heap.size w ((((W.setCell ⟨P, 7, none⟩ v7).setCell ⟨P, 2, none⟩ v2).setCell ⟨P, 6, none⟩ v6).setCell ⟨Q, 7, none⟩ u) := by
  have h1 : Chg (From w.heap.size) W ((((W.setCell ⟨P, 7, none⟩ v7).setCell ⟨P, 2, none⟩ v2).setCell ⟨P, 6, none⟩ v6).setCell ⟨Q, 7, none⟩ u) :=
    ((((Chg.refl _ W).setCell (p := ⟨P, 7, none⟩) (.inl hP) v7).setCell (p := ⟨P, 2, none⟩) (.inl hP) v2).setCell (p := ⟨P, 6, none⟩) (.inl hP) v6).setCell (p := ⟨Q, 7, none⟩) (.inl hQ) u
  exact h.trans (h1.below (fun q hq => hq) h.size)

theorem two_foldC {B : Nat} {w wr : World} {b1 b2 : Nat} {s1 s2 : St} {r : Rs} {A : Option Addr} {items : List It} (h : TwoR B w wr b1 b2 s1 s2) (ok : RsOk w r A items) (asked : Int) (c : Nat) (hl : s1.ml.length + items.length ≤ 1000000) :
    Calls Try.prog 21 #[.pointer (some ⟨b1, 0, none⟩), .int .i64 asked, .agg (rsEnc r A items.length c).toArray] wr fun e w' => e = .returned (.int .i64 (foldSem s1 asked r items).1) ∧ TwoR w'.heap.size w w' b1 b2 (foldSem s1 asked r items).2 s2 ∧ Chg (fun q => w.heap.size ≤ q ∧ q < B) wr w' :=
  two_fold h asked r items A c (ok.rds.below h.below) (fun hne q hq => .inl (rds_lt ok.rds (List.length_pos_iff.2 hne) q hq)) hl (fun y hy => (ok.each y hy).1)
theorem Rds_take {w : World} {A : Option Addr} {l : List It} (h : Rds w A l.length 4 (itsEnc l)) (k : Nat) (hk : k ≤ l.length) : Rds w A (l.take k).length 4 (itsEnc (l.take k)) := by
  have e : itsEnc (l.take k) = (itsEnc l).take (k * 4) := (flat_take itEnc 4 itEnc_len l k).symm
  refine ⟨by rw [e, List.length_take, List.length_take, h.len]; omega, fun hn => ?_⟩
  obtain ⟨g, o, h1, h2, h3⟩ := h.at_ (by rw [List.length_take] at hn; omega)
  refine ⟨g, o, h1, h2, fun j u hu => h3 j u ?_⟩
  rw [e, List.getElem?_take] at hu
  split at hu
  · exact hu
  · cases hu
theorem Rds_drop {w : World} {A : Option Addr} {l : List It} (h : Rds w A l.length 4 (itsEnc l)) (k : Nat) (hk : k ≤ l.length) {A' : Option Addr} (hA : ∀ g o, k < l.length → A = some ⟨g, o, none⟩ → A' = some ⟨g, o + k * 4, none⟩) : Rds w A' (l.drop k).length 4 (itsEnc (l.drop k)) := by
  have e : itsEnc (l.drop k) = (itsEnc l).drop (k * 4) := (flat_drop itEnc 4 itEnc_len l k).symm
  refine ⟨by rw [e, List.length_drop, List.length_drop, h.len]; omega, fun hn => ?_⟩
  rw [List.length_drop] at hn
  obtain ⟨g, o, h1, h2, h3⟩ := h.at_ (by omega)
  refine ⟨g, o + k * 4, hA g o (by omega) h1, h2, fun j u hu => ?_⟩
  rw [e, List.getElem?_drop] at hu
  rw [Nat.add_assoc]
  exact h3 _ u hu

set_option maxRecDepth 100000 in
set_option maxHeartbeats 8000000 in
theorem cut_no (w : World) (ra : Rs) (A : Option Addr) (ca : Nat) (ia : List It) (oa : RsOk w ra A ia) (at_ m : Int) (hno : (lightR ra ia && decide (0 ≤ at_) && decide (at_ ≤ ia.length) && decide (1 ≤ m) && decide (m ≤ ra.token)) = false) :
    Calls Try.prog 6 #[.agg (rsEnc ra A ia.length ca).toArray, .int .i64 at_, .int .i64 m] w fun e w' => e = .returned (.bool true) ∧ Below w.heap.size w w' := by
  have OA := hd oa
  clear oa
  have HLA := hd (fun w' (hb : Below w.heap.size w w') => lresp_calls w' ra A ca ia (OA.o.below hb))
  obtain ⟨la, hla⟩ : ∃ x, lightR ra ia = x := ⟨_, rfl⟩
  rw [hla] at HLA hno
  clear hla
  obtain ⟨n, hn⟩ : ∃ n, ia.length = n := ⟨_, rfl⟩
  have LA := hd hn
  rw [hn] at HLA hno ⊢
  clear hn
  obtain ⟨ak, ae, tok, av, ac, ai, am⟩ := ra
  simp only [rsEnc] at HLA ⊢
  simp only at hno
  have HNO : Hd (la = false ∨ at_ < 0 ∨ (n : Int) < at_ ∨ m < 1 ∨ tok < m) := hd (by
    simp only [Bool.and_eq_false_iff, decide_eq_false_iff_not] at hno
    rcases hno with (((h | h) | h) | h) | h
    · exact .inl h
    all_goals omega)
  clear hno
  go_enter Try.func6, Try.ntmps6
  go_wp2_with fail
  generalize h0 : World.alloc w _ = w0
  have HW0 : Hd (Below w.heap.size w w0) := hd (h0 ▸ (Below.refl _ w).alloc (Nat.le_refl _) _)
  have KEEP : Hd (∀ w', Below w0.heap.size w0 w' → w'.cell? ⟨w.heap.size, 0, none⟩ = some (.int .i64 ak) ∧ w'.cell? ⟨w.heap.size, 1, none⟩ = some (.int .i64 ae) ∧ w'.cell? ⟨w.heap.size, 2, none⟩ = some (.int .i64 tok) ∧ w'.cell? ⟨w.heap.size, 3, none⟩ = some (.int .i64 av) ∧ w'.cell? ⟨w.heap.size, 4, none⟩ = some (.string (bs ac)) ∧ w'.cell? ⟨w.heap.size, 5, none⟩ = some (.int .i64 ai) ∧ w'.cell? ⟨w.heap.size, 6, none⟩ = some (.bool am) ∧ w'.cell? ⟨w.heap.size, 7, none⟩ = some (.slice A n ca)) := hd (fun w' hb => box8 (h0 ▸ Blk.new w 35 _) hb (by subst h0; simp))
  clear h0
  refine (first_calls _).mono ?_
  rintro e w1 ⟨rfl, b1⟩
  obtain ⟨x0, x1, x2, x3, x4, x5, x6, x7⟩ := KEEP.o w1 b1
  go_wp2_with fail
  refine (HLA.o w1 (HW0.o.trans (b1.mono HW0.o.size))).mono ?_
  rintro e w2 ⟨rfl, b2⟩
  have b12 := b1.trans (b2.mono b1.size)
  clear x0 x1 x2 x3 x4 x5 x6 x7 b1 b2
  obtain ⟨x0, x1, x2, x3, x4, x5, x6, x7⟩ := KEEP.o w2 b12
  go_wp2_with fail
  all_goals first
    | (exfalso
       rcases HNO.o with h | h
       · subst h
         contradiction
       · omega)
    | (refine (first_calls w2).mono ?_
       rintro e w3 ⟨rfl, b3⟩
       have BB := hd (HW0.o.trans ((b12.trans (b3.mono b12.size)).mono HW0.o.size))
       clear b12 b3 x0 x1 x2 x3 x4 x5 x6 x7 HLA KEEP
       go_wp2
       go_ret
       exact ⟨rfl, BB.o⟩)

set_option maxRecDepth 100000 in
set_option maxHeartbeats 8000000 in
theorem cut_yes (w : World) (ra : Rs) (A : Option Addr) (ca : Nat) (ia : List It) (oa : RsOk w ra A ia) (hca : ia.length ≤ ca) (k : Nat) (m : Int) (hl : lightR ra ia = true) (hk : k ≤ ia.length) (hm : 1 ≤ m) (hmt : m ≤ ra.token) :
    Calls Try.prog 6 #[.agg (rsEnc ra A ia.length ca).toArray, .int .i64 k, .int .i64 m] w fun e w' => e = .returned (.bool true) ∧ Below w.heap.size w w' := by
  have OA := hd oa
  have n120 := lightR_len hl
  have HLA := hd (fun w' (hb : Below w.heap.size w w') => lresp_calls w' ra A ca ia (OA.o.below hb))
  rw [hl] at HLA
  have FC := hd (fun h he hv rp hp => fold_cut (ra := ra) (ia := ia) (k := k) (m := m) h he hm hmt hv rp hp)
  obtain ⟨n, hn⟩ : ∃ n, ia.length = n := ⟨_, rfl⟩
  have LA := hd hn
  have FL := hd (fold_len ⟨0, false, []⟩ 0 ra ia)
  rw [hn] at HLA FL n120 hk hca ⊢
  clear hn oa hl
  obtain ⟨ak, ae, tok, av, ac, ai, am⟩ := ra
  simp only [rsEnc] at HLA ⊢
  simp only at hmt FC
  have hk0 : (0 : Int) ≤ (k : Int) := by omega
  have hkn : (k : Int) ≤ (n : Int) := by omega
  go_enter Try.func6, Try.ntmps6
  go_wp2_with fail
  generalize h0 : World.alloc w _ = w0
  have HW0 : Hd (Below w.heap.size w w0) := hd (h0 ▸ (Below.refl _ w).alloc (Nat.le_refl _) _)
  have KEEP : Hd (∀ w', Below w0.heap.size w0 w' → w'.cell? ⟨w.heap.size, 0, none⟩ = some (.int .i64 ak) ∧ w'.cell? ⟨w.heap.size, 1, none⟩ = some (.int .i64 ae) ∧ w'.cell? ⟨w.heap.size, 2, none⟩ = some (.int .i64 tok) ∧ w'.cell? ⟨w.heap.size, 3, none⟩ = some (.int .i64 av) ∧ w'.cell? ⟨w.heap.size, 4, none⟩ = some (.string (bs ac)) ∧ w'.cell? ⟨w.heap.size, 5, none⟩ = some (.int .i64 ai) ∧ w'.cell? ⟨w.heap.size, 6, none⟩ = some (.bool am) ∧ w'.cell? ⟨w.heap.size, 7, none⟩ = some (.slice A n ca)) := hd (fun w' hb => box8 (h0 ▸ Blk.new w 35 _) hb (by subst h0; simp))
  have BL : w.heap.size < w0.heap.size := by subst h0; simp
  clear h0
  refine (first_calls _).mono ?_
  rintro e w1 ⟨rfl, b1⟩
  obtain ⟨x0, x1, x2, x3, x4, x5, x6, x7⟩ := KEEP.o w1 b1
  go_wp2_with fail
  refine (HLA.o w1 (HW0.o.trans (b1.mono HW0.o.size))).mono ?_
  rintro e w2 ⟨rfl, b2⟩
  have b12 := b1.trans (b2.mono b1.size)
  clear x0 x1 x2 x3 x4 x5 x6 x7 b1 b2 HLA
  obtain ⟨x0, x1, x2, x3, x4, x5, x6, x7⟩ := KEEP.o w2 b12
  have OA0 := hd (OA.o.below HW0.o)
  have HB2 := hd b12
  clear b12
  go_wp2_with fail
  go_loopw [7] (fun i wr => ∃ j : Nat, i = .int .i64 j ∧ k ≤ j ∧ j ≤ n ∧ wr = w2 ∧ Hd (∀ p, k ≤ p → p < j → ∀ h : p < ia.length, m < ia[p].ver)) (fun i _ => n - (intOf i).toNat)
  case atStart => exact ⟨k, rfl, Nat.le_refl _, hk, rfl, hd (fun p h1 h2 => by omega)⟩
  case round =>
    obtain ⟨j, rfl, hkj, hjn, rfl, HJ⟩ := hrel
    have hj0 : (0 : Int) ≤ (j : Int) := by omega
    by_cases hlt : j < n
    · have hjl : (j : Int) < (n : Int) := by omega
      have hji : j < ia.length := by rw [LA.o]; exact hlt
      obtain ⟨g, o, rfl, hg, hc⟩ := (OA0.o.rds.below HB2.o).at_ (by omega)
      obtain ⟨x, hx, hxc⟩ : ∃ x, ia[j] = x ∧ ∀ q, q < 4 → (itsEnc ia)[j * 4 + q]? = (itEnc x)[q]? := ⟨_, rfl, fun q hq => flat_at itEnc 4 itEnc_len ia j hji q hq⟩
      have hcx : ∀ q u, q < 4 → (itEnc x)[q]? = some u → wr.cell? ⟨g, o + (j * 4 + q), none⟩ = some u := fun q u hj hv => hc _ _ ((hxc q hj).trans hv)
      have HN : Hd (m < x.ver → ∀ p, k ≤ p → p < j + 1 → ∀ h : p < ia.length, m < ia[p].ver) := hd (fun hmx p h1 h2 h3 => by
        by_cases hp : p < j
        · exact HJ.o p h1 hp h3
        · obtain rfl : p = j := by omega
          rw [hx]; exact hmx)
      obtain ⟨xu, xv, xg, xc⟩ := x
      have a1 := hcx 1 _ (by omega) rfl
      rw [← Nat.add_assoc] at a1
      simp only at HN
      clear hc hxc hcx hx HJ
      by_cases hxm : xv ≤ m
      · go_wp2_with fail
        refine (first_calls wr).mono ?_
        rintro e w3 ⟨rfl, b3⟩
        have BB := hd (HW0.o.trans ((HB2.o.trans (b3.mono HB2.o.size)).mono HW0.o.size))
        clear b3
        go_wp2
        go_ret
        exact ⟨rfl, BB.o⟩
      · go_wp2
        go_roundw
        case rel => exact ⟨j + 1, by go_num, by omega, by omega, by first | rfl | trivial, hd (HN.o (by omega))⟩
        case measure => simp [intOf]; omega
    · have hje : n = j := by omega
      subst hje
      have HV : Hd (∀ x ∈ ia.drop k, m < x.ver) := hd (fun x hx => by
        obtain ⟨q, hq, rfl⟩ := List.getElem_of_mem hx
        rw [List.length_drop] at hq
        rw [List.getElem_drop]
        exact HJ.o _ (by omega) (by rw [← LA.o]; omega) _)
      clear HJ
      go_wp2_with fail
      clear x0 x1 x2 x3 x4 x5 x6 x7
      refine (rnew_calls wr (fun q => wr.heap.size ≤ q) (fun _ h => h)).mono ?_
      rintro e w4 ⟨b1, rfl, hb1, hrep1, hbe1⟩
      go_wp2_with fail
      refine (rnew_calls w4 (fun q => w4.heap.size ≤ q) (fun _ h => h)).mono ?_
      rintro e w5 ⟨b2, rfl, hb2, hrep2, hbe2⟩
      have T0 := hd (two_new HB2.o hrep1 hbe1 hrep2 hbe2)
      clear hb1 hrep1 hbe1 hb2 hrep2 hbe2
      have F1 := hd (two_foldA T0.o OA0.o 0 ca (by rw [LA.o]; simp; omega))
      obtain ⟨sr, hsr⟩ : ∃ x, foldSem ⟨0, false, []⟩ 0 ⟨ak, ae, tok, av, ac, ai, am⟩ ia = x := ⟨_, rfl⟩
      rw [hsr, LA.o] at F1
      rw [hsr] at FC FL
      simp only [rsEnc] at F1
      obtain ⟨er, s⟩ := sr
      simp only at F1 FC FL
      clear hsr
      obtain ⟨x0, x1, x2, x3, x4, x5, x6, x7⟩ := KEEP.o w5 T0.o.below
      go_wp2_with fail
      refine F1.o.mono ?_
      rintro e w6 ⟨rfl, t1⟩
      have T1 := hd t1
      have BW6 := hd (HW0.o.trans (t1.below.mono HW0.o.size))
      clear x0 x1 x2 x3 x4 x5 x6 x7 F1 t1
      obtain ⟨x0, x1, x2, x3, x4, x5, x6, x7⟩ := KEEP.o w6 T1.o.below
      by_cases hok : er = 0 ∧ ae = 0
      · obtain ⟨rfl, rfl⟩ := hok
        obtain ⟨s1, hp1, hp2, hp3, hp4⟩ := FC.o rfl rfl HV.o ⟨ak, 0, m, av, ac, ai, true⟩ ⟨rfl, rfl, rfl, rfl⟩
        have P1 := hd hp1
        have P4 := hd hp4
        have P2 := hd hp2
        have P3 := hd hp3
        clear hp1 hp2 hp3 hp4 FC
        have BL6 : w.heap.size < w6.heap.size := Nat.lt_of_lt_of_le BL T1.o.below.size
        go_wp2_with fail
        go_cut [10, 11] from 74 to 75 (fun s10 s11 W => ∃ P Q : Nat, s10 = .pointer (some ⟨P, 0, none⟩) ∧ s11 = .pointer (some ⟨Q, 0, none⟩) ∧ P ≠ Q ∧ w6.heap.size ≤ P ∧ w6.heap.size ≤ Q ∧ Blk W P 35 #[.int .i64 ak, .int .i64 0, .int .i64 tok, .int .i64 av, .string (bs ac), .int .i64 ai, .bool am, .slice A n ca] ∧ Blk W Q 35 #[.int .i64 ak, .int .i64 0, .int .i64 tok, .int .i64 av, .string (bs ac), .int .i64 ai, .bool am, .slice A n ca] ∧ Below w6.heap.size w6 W)
        case first =>
          go_region
          all_goals
            go_wp2_with fail
            go_meet
            first
              | exact ⟨w6.heap.size, w6.heap.size + 1, rfl, rfl, by omega, by omega, by omega, ((Blk.new w6 _ _).alloc _).drew, (Blk.new_ _ _ (by simp) _ _).drew, bdrEntItem (((Below.refl _ w6).alloc (Nat.le_refl _) _).alloc (by simp) _)⟩
              | exact ⟨w6.heap.size + 1, w6.heap.size, rfl, rfl, by omega, by omega, by omega, (Blk.new_ _ _ (by simp) _ _).drew, ((Blk.new w6 _ _).alloc _).drew, bdrEntItem (((Below.refl _ w6).alloc (Nat.le_refl _) _).alloc (by simp) _)⟩
        case rest =>
          clear x0 x1 x2 x3 x4 x5 x6 x7
          obtain ⟨P, Q, rfl, rfl, hPQ, hPw, hQw, bP, bQ, bW⟩ := hcut
          have TC := hd (T1.o.bel bW)
          obtain ⟨x0, x1, x2, x3, x4, x5, x6, x7⟩ := KEEP.o wc TC.o.below
          have hQP : Q ≠ P := fun h => hPQ h.symm
          have hwP : w.heap.size ≠ P := by omega
          have hwQ : w.heap.size ≠ Q := by omega
          have BP := hd bP
          have BQ := hd bQ
          have BWC := hd bW
          have HPW := hd hPw
          have HQW := hd hQw
          have p2 := bP.at_ 2 rfl
          have p6 := bP.at_ 6 rfl
          have p7 := bP.at_ 7 rfl
          have q7 := bQ.at_ 7 rfl
          have fp2 := bP.frozen 2
          have fp6 := bP.frozen 6
          have fp7 := bP.frozen 7
          have fq7 := bQ.frozen 7
          clear bP bQ bW
          go_upto_region 17 with fail
          go_cut [10, 11] from 84 to 88 (fun s10 s11 W => s10 = .pointer (some ⟨P, 0, none⟩) ∧ s11 = .pointer (some ⟨Q, 0, none⟩) ∧ ∃ (A2 : Option Addr) (c2 : Nat), (∀ g o, k < n → A = some ⟨g, o, none⟩ → A2 = some ⟨g, o + k * 4, none⟩) ∧ Blk W P 35 #[.int .i64 ak, .int .i64 0, .int .i64 m, .int .i64 av, .string (bs ac), .int .i64 ai, .bool true, .slice A k ca] ∧ Blk W Q 35 #[.int .i64 ak, .int .i64 0, .int .i64 tok, .int .i64 av, .string (bs ac), .int .i64 ai, .bool am, .slice A2 (n - k) c2] ∧ Below w6.heap.size w6 W)
          case first =>
            by_cases hck : ca = k
            · obtain rfl := hck
              go_wp2_with fail
              go_meet
              refine ⟨rfl, rfl, A, 0, fun g o h _ => by omega, cutP BP.o hPQ _ _ _ _, ?_, cutB BWC.o HPW.o HQW.o _ _ _ _⟩
              rw [show n - ca = 0 by omega]
              exact cutQ BQ.o hQP _ _ _ _
            · go_wp2_with fail
              go_meet
              exact ⟨rfl, rfl, A.map fun x => x.add (k * 4), ca - k, fun g o h hA => by rw [hA]; simp [Addr.add], cutP BP.o hPQ _ _ _ _, cutQ BQ.o hQP _ _ _ _, cutB BWC.o HPW.o HQW.o _ _ _ _⟩
          case rest =>
            obtain ⟨rfl, rfl, A2, c2, hA2, cP, cQ, bW2⟩ := hcut
            have TD := hd (T1.o.bel bW2)
            have ia1 : (ia.take k).length = k := by rw [List.length_take, LA.o]; omega
            have ia2 : (ia.drop k).length = n - k := by rw [List.length_drop, LA.o]
            have OP : RsOk w0 ⟨ak, 0, m, av, ac, ai, true⟩ A (ia.take k) := ⟨Rds_take OA0.o.rds k (by rw [LA.o]; exact hk), by rw [ia1]; unfold maxLen; omega, OA0.o.card, fun y hy => OA0.o.each y (List.mem_of_mem_take hy)⟩
            have OQ : RsOk w0 ⟨ak, 0, tok, av, ac, ai, am⟩ A2 (ia.drop k) := ⟨Rds_drop OA0.o.rds k (by rw [LA.o]; exact hk) (fun g o h1 h2 => hA2 g o (by rw [← LA.o]; exact h1) h2), by rw [ia2]; unfold maxLen; omega, OA0.o.card, fun y hy => OA0.o.each y (List.mem_of_mem_drop hy)⟩
            have HCP := hd cP
            have HCQ := hd cQ
            have G1 := hd (two_foldC TD.o.swap OP 0 ca (by rw [ia1]; simp; omega))
            rw [P1.o, ia1] at G1
            simp only [rsEnc] at G1
            have p0 := cP.at_ 0 rfl
            have p1 := cP.at_ 1 rfl
            have p2 := cP.at_ 2 rfl
            have p3 := cP.at_ 3 rfl
            have p4 := cP.at_ 4 rfl
            have p5 := cP.at_ 5 rfl
            have p6 := cP.at_ 6 rfl
            have p7 := cP.at_ 7 rfl
            have hwl := cQ.lt
            clear cP cQ bW2 OP hA2
            go_wp2_with fail
            refine G1.o.mono ?_
            rintro e w8 ⟨rfl, t8, c8⟩
            have T8 := hd t8
            have cQ8 := HCQ.o.chg c8 (fun h => by have := HQW.o; omega)
            have hsm : (m != m) = false := by simp
            have G2 := hd (two_token T8.o)
            have G3 := hd (two_more T8.o)
            have G4 := hd (two_foldA T8.o OQ m c2 (by
              have h1 := fold_len ⟨0, false, []⟩ 0 ⟨ak, 0, m, av, ac, ai, true⟩ (ia.take k)
              rw [P1.o, ia1] at h1
              rw [ia2]
              simp at h1
              omega))
            rw [P2.o] at G2
            rw [P3.o] at G3
            rw [P4.o, ia2] at G4
            simp only [rsEnc] at G4
            have q0 := cQ8.at_ 0 rfl
            have q1 := cQ8.at_ 1 rfl
            have q2 := cQ8.at_ 2 rfl
            have q3 := cQ8.at_ 3 rfl
            have q4 := cQ8.at_ 4 rfl
            have q5 := cQ8.at_ 5 rfl
            have q6 := cQ8.at_ 6 rfl
            have q7 := cQ8.at_ 7 rfl
            clear p0 p1 p2 p3 p4 p5 p6 p7 t8 c8 cQ8 OQ G1 KEEP OA OA0
            go_wp2_with fail
            refine G2.o.mono ?_
            rintro e w9 ⟨rfl, rfl⟩
            go_wp2_with fail
            refine G3.o.mono ?_
            rintro e w9 ⟨rfl, rfl⟩
            go_wp2_with fail
            refine G4.o.mono ?_
            rintro e w10 ⟨rfl, t10⟩
            have T7 := hd t10
            have n3 : (s.token == s.token) = true := by simp
            have n4 : (s.more == s.more) = true := by simp
            have hsl : s.ml.length ≤ 1000000 := by
              have h1 := FL.o
              simp at h1
              omega
            clear q0 q1 q2 q3 q4 q5 q6 q7 t10 G2 G3 G4
            go_wp2_with fail
            refine (two_token2 T7.o).mono ?_
            rintro e w14 ⟨rfl, rfl⟩
            go_wp2_with fail
            refine (two_token T7.o).mono ?_
            rintro e w15 ⟨rfl, rfl⟩
            go_wp2_with fail
            refine (two_more2 T7.o).mono ?_
            rintro e w16 ⟨rfl, rfl⟩
            go_wp2_with fail
            refine (two_more T7.o).mono ?_
            rintro e w17 ⟨rfl, rfl⟩
            go_wp2_with fail
            refine (two_cards T7.o.swap hsl).mono ?_
            rintro e w18 ⟨A8, c8, rfl, hr8, b8⟩
            have T8 := hd (T7.o.bel b8)
            go_wp2_with fail
            refine (two_cards T8.o hsl).mono ?_
            rintro e w19 ⟨A9, c9, rfl, hr9, b9⟩
            have T9 := hd (T8.o.bel b9)
            go_wp2_with fail
            refine (its_calls w19 A8 A9 _ _ c8 c9 (s.ml.map (·.2)) (s.ml.map (·.2)) (by simp) (by simp) (hr8.below b9) hr9 hsl hsl).mono ?_
            rintro e w20 ⟨rfl, b10⟩
            rw [decide_eq_true (rfl : s.ml.map (·.2) = s.ml.map (·.2))]
            have BB := hd (HW0.o.trans ((T9.o.bel b10).below.mono HW0.o.size))
            clear hr8 hr9 b8 b9 b10
            go_wp2
            go_ret
            exact ⟨rfl, BB.o⟩
      · have hne : ((er != 0) || (ae != 0)) = true := by
          by_cases h : er = 0
          · have : ¬ ae = 0 := fun h2 => hok ⟨h, h2⟩
            simp [this]
          · simp [h]
        have HNE := hd hne
        clear hne
        go_wp2_with fail
        all_goals
          refine (first_calls w6).mono ?_
          rintro e w7 ⟨rfl, b7⟩
          have BB := hd (BW6.o.trans (b7.mono BW6.o.size))
          clear b7
          go_wp2
          go_ret
          exact ⟨rfl, BB.o⟩

theorem cut_calls (w : World) (ra : Rs) (A : Option Addr) (ca : Nat) (ia : List It) (oa : RsOk w ra A ia) (hca : ia.length ≤ ca) (at_ m : Int) :
    Calls Try.prog 6 #[.agg (rsEnc ra A ia.length ca).toArray, .int .i64 at_, .int .i64 m] w fun e w' => e = .returned (.bool true) ∧ Below w.heap.size w w' := by
  cases h : (lightR ra ia && decide (0 ≤ at_) && decide (at_ ≤ ia.length) && decide (1 ≤ m) && decide (m ≤ ra.token)) with
  | false => exact cut_no w ra A ca ia oa at_ m h
  | true =>
    simp only [Bool.and_eq_true, decide_eq_true_eq] at h
    obtain ⟨k, rfl⟩ : ∃ k : Nat, at_ = k := ⟨at_.toNat, by omega⟩
    exact cut_yes w ra A ca ia oa hca k m h.1.1.1.1 (by omega) h.1.2 h.2

end Go.Proofs.Ytbeckfnhgeclnaa
