/-
  henlaw26.SessAsks.
-/
import Derived.Test.YtogjokofmfpmgaaGreatDoorGRA
import Derived.Test.YtogjokofmfpmgaaGreatDoorGRB
import Derived.Test.YtogjokofmfpmgaaGreatDoorSFst
import Derived.Test.YtogjokofmfpmgaaGreatDoorGRC
import Derived.Test.YtogjokofmfpmgaaGreatDoorRqSame
import Derived.Test.YtogjokofmfpmgaaGreatDoorGAO
set_option linter.unusedVariables false
set_option linter.unusedSimpArgs false
namespace Go.Proofs.YtogjokofmfpmgaaGreatDoor
open Go.RowKit

/-- A session that has read all there is. -/
def stA (T : List UInt8) (m : Nat) : Ss := ⟨1048576, [], false, T, m, false⟩
theorem stA_idle (T : List UInt8) (m : Nat) : Idle (stA T m) := ⟨rfl, rfl, rfl⟩
/-- One request more. -/
structure AskS (T : List UInt8) (m : Nat) (q : Rq) (M : Ss) : Prop where
  may : mayFeed (stA T m) (frameB q.k.toNat (encB q)) = true
  fed : feedS (stA T m) (frameB q.k.toNat (encB q)) = M
  buf : M.buf.length ≤ 1000000
  seq : M.seq = m
  next : nextS M = if (q.k = 1 ↔ T ≠ []) then (⟨2, (m : Int) + 1, q.k, rq0, 10⟩, stA T (m + 1)) else (⟨1, (m : Int) + 1, q.k, q, 0⟩, if q.k = 1 then stA q.tn (m + 1) else stA T (m + 1))
theorem ask_s (T : List UInt8) (m : Nat) {q : Rq} (h : chk q = 0) (hb : RqB q) : AskS T m q (moreS (stA T m) (frameB q.k.toNat (encB q))) := by
  have hl := enc_len h hb
  have hm : mayFeed (stA T m) (frameB q.k.toNat (encB q)) = true := by
    unfold mayFeed stA
    simp only [Bool.not_false, Bool.true_and, decide_eq_true_eq, frameB_len, List.length_nil]
    omega
  refine ⟨hm, feed_may hm, ?_, rfl, ?_⟩
  · show ((stA T m).buf ++ frameB q.k.toNat (encB q)).length ≤ _
    rw [List.length_append, frameB_len]
    show 0 + _ ≤ _
    omega
  · rw [asks_next (stA_idle T m) h hb]
    have e : ((m : Nat) : Int) + 1 = ((m + 1 : Nat) : Int) := by omega
    show (if (q.k = 1 ↔ T ≠ []) then (Tn.mk 2 ((m : Int) + 1) q.k rq0 10, Ss.mk 1048576 [] false T ((m : Int) + 1) false) else (Tn.mk 1 ((m : Int) + 1) q.k q 0, if q.k = 1 then Ss.mk 1048576 [] false q.tn ((m : Int) + 1) false else Ss.mk 1048576 [] false T ((m : Int) + 1) false)) = _
    unfold stA
    rw [e]
def heQ (T : List UInt8) : Rq := ⟨1, T, [], [], [], 0, 0, [], 0, 0, 0⟩
theorem heQ_b (T : List UInt8) : RqB (heQ T) := ⟨by unfold heQ; simp only; omega, by unfold heQ; simp only; omega, by unfold heQ; simp only; omega, (fun o ho => by cases ho), by unfold heQ; simp only; omega, by unfold heQ; simp only; omega, by unfold heQ; simp only; omega⟩
theorem heQ_s {T : List UInt8} (h : T.length ≤ 60) : RqS (heQ T) := ⟨by show T.length ≤ _; omega, Nat.zero_le _, Nat.zero_le _, Nat.zero_le _, Nat.zero_le _, (fun o ho => by cases ho)⟩
theorem heQ_tn {T : List UInt8} (h : chk (heQ T) = 0) : T ≠ [] := by
  obtain ⟨_, _, h3, _, _⟩ := chk_0 h
  unfold namedB at h3
  simp only [Bool.and_eq_true, Bool.or_eq_true, Bool.not_eq_true'] at h3
  have hn : nameB T = true := by
    rcases h3.1.1.1 with k | k
    · exact absurd k (by show ¬ hT 1 = false; decide)
    · exact k
  rintro rfl
  exact absurd hn (by decide)
theorem light_s2 {q : Rq} (h : lightQ q = true) : RqS q := by
  obtain ⟨a, b, c, d, e, f⟩ := light_le h
  exact ⟨by omega, by omega, by omega, by omega, by omega, fun o ho => by have := f o ho; omega⟩
theorem stA_new : newS 1048576 = stA [] 0 := rfl
theorem SesA.drewN {v w : World} {g p : Nat} {s : Ss} (h : SesA v w g p s) (n : Nat) : SesA v (w.drewN n) g p s := ⟨⟨h.r.b.drewN n, h.r.p.drewN n⟩, h.g, h.p, ⟨h.b.os, h.b.tape, h.b.output, h.b.size, h.b.block⟩⟩
/-- Ahead of each request. -/
structure AskR (v : World) (g p Tb : Nat) (T : List UInt8) (m : Nat) (w : World) : Prop where
  o : ∃ (t : Tn) (A : Option Addr) (c : Nat), SesA v w g p (stA T m) ∧ Blk w Tb 61 (turnE t A c).toArray
set_option maxRecDepth 100000 in
set_option maxHeartbeats 8000000 in
theorem sasks_law (s0 : ByteArray) (A : Option Addr) (n c : Nat) (l : List RqA) (w : World) (ht : Tbs w) (hs0 : s0.size ≤ maxLen) (hr : Rds w A n 11 (rqaE l)) (hn : n = l.length) (hm : n ≤ maxLen) (hok : ∀ x ∈ l, RqOk w x.q x.A) :
    Calls Tryz.prog 12 #[.string s0, .slice A n c] w fun e w' => e = .returned (.bool true) ∧ Below w.heap.size w w' := by
  obtain ⟨T, rfl⟩ : ∃ T, s0 = bs T := ⟨s0.data.toList, (bs_self s0).symm⟩
  have HT := hd ht
  have HR := hd hr
  have HN := hd hn
  have HOKS := hd hok
  obtain ⟨tz, htz⟩ : ∃ tz, (bs T).size = tz := ⟨_, rfl⟩
  have HTZ := hd (show T.length = tz by rw [← htz, bs_size])
  rw [htz] at hs0
  unfold maxLen at hm hs0
  clear ht hr hn hok
  by_cases c1 : 20 < n
  case pos =>
    have d1 : decide ((20 : Int) < (n : Int)) = true := by simp; omega
    clear c1
    go_enter Tryz.func12, Tryz.ntmps12
    go_wp2_with fail
    refine (sfirst_calls w HT.o).mono ?_
    rintro e w1 ⟨rfl, b1⟩
    go_wp2_with fail
    refine (sfirst_calls w1 (HT.o.below b1)).mono ?_
    rintro e w3 ⟨rfl, b3⟩
    go_wp2
    go_ret
    exact ⟨rfl, b1.trans (b3.mono b1.size)⟩
  case neg =>
  have d1 : decide ((20 : Int) < (n : Int)) = false := by simp; omega
  by_cases c2 : 60 < tz
  case pos =>
    have d2 : decide ((60 : Int) < (tz : Int)) = true := by simp; omega
    clear c1 c2
    go_enter Tryz.func12, Tryz.ntmps12
    go_wp2_with fail
    refine (sfirst_calls w HT.o).mono ?_
    rintro e w1 ⟨rfl, b1⟩
    go_wp2_with fail
    refine (sfirst_calls w1 (HT.o.below b1)).mono ?_
    rintro e w3 ⟨rfl, b3⟩
    go_wp2
    go_ret
    exact ⟨rfl, b1.trans (b3.mono b1.size)⟩
  case neg =>
  have d2 : decide ((60 : Int) < (tz : Int)) = false := by simp; omega
  go_enter Tryz.func12, Tryz.ntmps12
  go_wp2_with fail
  refine (sfirst_calls w HT.o).mono ?_
  rintro e w1 ⟨rfl, b1⟩
  have B1 := hd b1
  clear b1
  go_upto_region 5 with (fail)
  clear d1 d2
  have hn20 : n ≤ 20 := by omega
  have htz60 : tz ≤ 60 := by omega
  clear c1 c2
  go_wp2_with fail
  go_loopw [5] (fun i wr => ∃ k : Nat, i = .int .i64 k ∧ k ≤ n ∧ Hd (∀ j (h : j < l.length), j < k → lightQ l[j].q = true) ∧ Hd (Below w.heap.size w wr)) (fun i _ => n - (intOf i).toNat)
  case atStart => exact ⟨0, rfl, Nat.zero_le _, hd (fun j _ h => absurd h (Nat.not_lt_zero _)), B1⟩
  case round =>
    clear B1
    obtain ⟨k, rfl, hk, HALL, HB⟩ := hrel
    obtain ⟨wi, rfl⟩ : ∃ wi : World, wi = wr := ⟨_, rfl⟩
    have hki : (0 : Int) ≤ (k : Int) := by omega
    by_cases hlt : k < n
    · have hlti : (k : Int) < (n : Int) := by omega
      have hkl : k < l.length := by rw [← HN.o]; exact hlt
      obtain ⟨g0, o, rfl, hg, hc⟩ := HR.o.at_ (by omega)
      obtain ⟨X, hX⟩ : ∃ X, l[k]'hkl = X := ⟨_, rfl⟩
      have hmem : X ∈ l := by rw [← hX]; exact List.getElem_mem hkl
      have hcell : ∀ (W : World) (j : Nat) (u : Value), Below w.heap.size w W → j < 11 → (rqaEnc X)[j]? = some u → W.cell? ⟨g0, o + (k * 11 + j), none⟩ = some u := fun W j u hb hj hv => (hb.cell (p := ⟨g0, o + (k * 11 + j), none⟩) hg).trans (hc _ _ ((rqaE_at l k hkl j hj).trans (by rw [hX]; exact hv)))
      have hXok := HOKS.o X hmem
      obtain ⟨x, AX, cX⟩ := X
      have KEEP := hd (fun (W : World) (hb : Below w.heap.size w W) => show W.cell? ⟨g0, o + k * 11, none⟩ = some (.int .i64 x.k) ∧ W.cell? ⟨g0, o + k * 11 + 1, none⟩ = some (.string (bs x.tn)) ∧ W.cell? ⟨g0, o + k * 11 + 2, none⟩ = some (.string (bs x.col)) ∧ W.cell? ⟨g0, o + k * 11 + 3, none⟩ = some (.string (bs x.uid)) ∧ W.cell? ⟨g0, o + k * 11 + 4, none⟩ = some (.string (bs x.card)) ∧ W.cell? ⟨g0, o + k * 11 + 5, none⟩ = some (.int .i64 x.ck) ∧ W.cell? ⟨g0, o + k * 11 + 6, none⟩ = some (.int .i64 x.cv) ∧ W.cell? ⟨g0, o + k * 11 + 7, none⟩ = some (.slice AX x.ops.length cX) ∧ W.cell? ⟨g0, o + k * 11 + 8, none⟩ = some (.int .i64 x.tok) ∧ W.cell? ⟨g0, o + k * 11 + 9, none⟩ = some (.int .i64 x.most) ∧ W.cell? ⟨g0, o + k * 11 + 10, none⟩ = some (.int .i64 x.ticks) from ⟨hcell W 0 _ hb (by omega) rfl, hcell W 1 _ hb (by omega) rfl, hcell W 2 _ hb (by omega) rfl, hcell W 3 _ hb (by omega) rfl, hcell W 4 _ hb (by omega) rfl, hcell W 5 _ hb (by omega) rfl, hcell W 6 _ hb (by omega) rfl, hcell W 7 _ hb (by omega) rfl, hcell W 8 _ hb (by omega) rfl, hcell W 9 _ hb (by omega) rfl, hcell W 10 _ hb (by omega) rfl⟩)
      simp only at hXok

      obtain ⟨a0, a1, a2, a3, a4, a5, a6, a7, a8, a9, a10⟩ := KEEP.o wi HB.o
      have CL := light_calls wi x AX cX (hXok.below HB.o)
      obtain ⟨lq, hlq⟩ : ∃ lq, lightQ x = lq := ⟨_, rfl⟩
      rw [hlq] at CL
      have HNX := hd (fun (h : lq = true) (j : Nat) (hj : j < l.length) (hjk : j < k + 1) => show lightQ l[j].q = true by
        by_cases hjj : j < k
        · exact HALL.o j hj hjj
        · obtain rfl : j = k := by omega
          rw [hX]
          exact hlq.trans h)
      unfold reqV reqE at CL
      replace CL := hd CL
      clear hXok hlq hmem hcell hX hc hkl HALL
      generalize x.ops.length = xo at *
      go_wp2_with fail
      refine CL.o.mono ?_
      rintro e w2 ⟨rfl, b2⟩
      have HB2 := hd (HB.o.trans (b2.mono HB.o.size))
      clear b2 CL HB a0 a1 a2 a3 a4 a5 a6 a7 a8 a9 a10 KEEP
      cases lq with
      | false =>
        clear HNX
        go_wp2_with fail
        refine (sfirst_calls w2 (HT.o.below HB2.o)).mono ?_
        rintro e w3 ⟨rfl, b3⟩
        go_wp2
        go_ret
        exact ⟨rfl, HB2.o.trans (b3.mono HB2.o.size)⟩
      | true =>
        have HNY := hd (HNX.o rfl)
        clear HNX
        go_wp2
        go_roundw
        case rel => exact ⟨k + 1, by go_num, by omega, HNY, HB2⟩
        case measure => simp [intOf]; omega
    · obtain rfl : n = k := by omega
      have hki2 : ¬ (n : Int) < (n : Int) := by omega
      have HALLQ := hd (fun (x : RqA) (hx : x ∈ l) => show lightQ x.q = true by
        obtain ⟨j, hj, rfl⟩ := List.getElem_of_mem hx
        exact HALL.o j hj (by rw [HN.o]; exact hj))
      clear HALL
      go_upto_region 10 with (fail)
      clear hki2 hlt
      go_wp2_with fail
      refine (snew_a w wi 1048576 HB.o).mono ?_
      rintro e w2 ⟨g, p, rfl, hs2, _⟩
      rw [stA_new] at hs2
      have HS2 := hd hs2
      clear hs2 HB
      have CE := enc_calls (heQ T) none 0 w2 (HT.o.below HS2.o.b) (Row.rds (Row.nil w2 Non 43 5)) (heQ_s (by rw [HTZ.o]; exact htz60)) (heQ_b T)
      have CE := hd (show Calls Tryz.prog 15 #[.agg #[.int .i64 1, .string (bs T), .string ⟨#[]⟩, .string ⟨#[]⟩, .string ⟨#[]⟩, .int .i64 0, .int .i64 0, .slice none 0 0, .int .i64 0, .int .i64 0, .int .i64 0]] w2 fun e w' => EncR w2 (heQ T) e w' from CE)
      by_cases h0 : chk (heQ T) = 0
      case neg =>
        have HC := hd (show ∀ e w', EncR w2 (heQ T) e w' → e = .returned (.tuple #[.slice none 0 0, .int .i64 (chk (heQ T))]) ∧ Below w2.heap.size w2 w' from fun e w' h => h.no h0)
        have hcb : (chk (heQ T) != 0) = true := by simpa using h0
        generalize chk (heQ T) = ce at *
        clear h0
        go_wp2_with fail
        refine CE.o.mono ?_
        rintro e w3 hE
        obtain ⟨rfl, b3⟩ := HC.o _ _ hE
        have HB3 := hd (HS2.o.b.trans (b3.mono HS2.o.b.size))
        clear hE b3 HC CE HS2
        go_wp2_with fail
        refine (sfirst_calls w3 (HT.o.below HB3.o)).mono ?_
        rintro e w4 ⟨rfl, b4⟩
        go_wp2
        go_ret
        exact ⟨rfl, HB3.o.trans (b4.mono HB3.o.size)⟩
      case pos =>
      have HC := hd (show ∀ e w', EncR w2 (heQ T) e w' → ∃ (A : Option Addr) (m c : Nat), e = .returned (.tuple #[.slice A m c, .int .i64 0]) ∧ m = (encB (heQ T)).length ∧ Row w' (From w2.heap.size) 5 1 A m c (u8E (encB (heQ T))) ∧ Below w2.heap.size w2 w' from fun e w' h => h.yes h0)
      have HBL := hd (enc_len h0 (heQ_b T))
      have HAS := hd (ask_s [] 0 h0 (heQ_b T))
      have HTN := hd (heQ_tn h0)
      obtain ⟨F, hF⟩ : ∃ F, frameB (heQ T).k.toNat (encB (heQ T)) = F := ⟨_, rfl⟩
      have HF := hd (show ([] : List UInt8) ++ frameB 1 (bs (encB (heQ T))).data.toList = F by rw [bs_data, ← hF]; rfl)
      have HFL := hd (show F.length ≤ 13000 by rw [← hF, frameB_len]; have := HBL.o; omega)
      obtain ⟨M, hM⟩ : ∃ M, moreS (stA [] 0) F = M := ⟨_, rfl⟩
      have HM1 := hd (show mayFeed (stA [] 0) F = true by rw [← hF]; exact HAS.o.may)
      have HM2 := hd (show feedS (stA [] 0) F = M by rw [← hM, ← hF]; exact HAS.o.fed)
      have HM3 := hd (show M.buf.length ≤ 1000000 by rw [← hM, ← hF]; exact HAS.o.buf)
      have HM4 := hd (show M.seq = 0 by rw [← hM]; rfl)
      have HM5 := hd (show nextS M = (⟨1, 1, 1, heQ T, 0⟩, stA T 1) by
        rw [← hM, ← hF, HAS.o.next, if_neg (by show ¬ ((1 : Int) = 1 ↔ ([] : List UInt8) ≠ []); simp), if_pos (by rfl)]
        rfl)
      generalize encB (heQ T) = B at *
      clear hF hM HAS h0
      go_wp2_with fail
      refine CE.o.mono ?_
      rintro e w3 hE
      obtain ⟨A1, m1, k1, rfl, hm1, hr1, hb1⟩ := HC.o _ _ hE
      have HS3 := hd (HS2.o.below hb1)
      have kc := conv_back (P := Tryz.prog) w3 27 9 5 Tryz.underlying27 Tryz.underlying5 Tryz.underlying9 A1 m1 k1 B hm1 hr1.rds
      have CP := put_yes w3 none 0 0 [] 1 (bs B) rfl (rds_0 w3 none) (by omega) (by omega) (by rw [bs_size]; have := HBL.o; omega)
      rw [HF.o] at CP
      replace CP := hd CP
      clear hE hm1 hr1 hb1 HC CE HS2
      go_wp2_with fail
      refine CP.o.mono ?_
      rintro e w4 ⟨⟨A2, m2, k2, rfl, hm2, hr2, hb2⟩⟩
      have HS4 := hd (HS3.o.below hb2)
      have kc2 := conv_back (P := Tryz.prog) w4 27 9 5 Tryz.underlying27 Tryz.underlying5 Tryz.underlying9 A2 m2 k2 F hm2 hr2.rds
      have CF := feed_a w w4 g p (stA [] 0) (bs F) HS4.o (by decide) (by decide) (by decide) (by rw [bs_size]; have := HFL.o; omega)
      rw [bs_data, HM1.o, HM2.o] at CF
      replace CF := hd CF
      clear hm2 hr2 hb2 kc CP HS3
      go_wp2_with fail
      refine CF.o.mono ?_
      rintro e w5 ⟨rfl, hs5, _⟩
      have CN := next_a w w5 g p M HT.o hs5 HM3.o (by rw [HM4.o]; omega)
      rw [HM5.o] at CN
      replace CN := hd CN
      clear hs5 kc2 CF HS4
      go_wp2_with fail
      refine CN.o.mono ?_
      rintro e w6 ⟨A2, c2, he, hrow, hs6, hc6⟩
      have he2 : e = .returned (.agg #[.int .i64 1, .int .i64 1, .int .i64 1, .int .i64 1, .string (bs T), .string ⟨#[]⟩, .string ⟨#[]⟩, .string ⟨#[]⟩, .int .i64 0, .int .i64 0, .slice A2 0 c2, .int .i64 0, .int .i64 0, .int .i64 0, .int .i64 0]) := he
      subst he2
      obtain ⟨w7, hw7⟩ : ∃ w7, w7 = w6.alloc (.cells #[.int .i64 1, .int .i64 1, .int .i64 1, .int .i64 1, .string (bs T), .string ⟨#[]⟩, .string ⟨#[]⟩, .string ⟨#[]⟩, .int .i64 0, .int .i64 0, .slice A2 0 c2, .int .i64 0, .int .i64 0, .int .i64 0, .int .i64 0] 61) := ⟨_, rfl⟩
      have HB7 := hd (show Below w6.heap.size w6 w7 by rw [hw7]; exact (Below.refl _ _).alloc (Nat.le_refl _) _)
      have HS7 := hd (hs6.below HB7.o)
      have HT7 := hd (show Blk w7 w6.heap.size 61 #[.int .i64 1, .int .i64 1, .int .i64 1, .int .i64 1, .string (bs T), .string ⟨#[]⟩, .string ⟨#[]⟩, .string ⟨#[]⟩, .int .i64 0, .int .i64 0, .slice A2 0 c2, .int .i64 0, .int .i64 0, .int .i64 0, .int .i64 0] by rw [hw7]; exact Blk.new _ _ _)
      have hTl : w.heap.size ≤ w6.heap.size := hs6.b.size
      have HTL := hd hTl
      have HW7 := hd hw7
      have z0 := HT7.o.at_ 0 (v := .int .i64 1) rfl
      have z1 := HT7.o.at_ 1 (v := .int .i64 1) rfl
      have z2 := HT7.o.at_ 2 (v := .int .i64 1) rfl
      have z4 := HT7.o.at_ 4 (v := .string (bs T)) rfl
      have CT := hd (show Calls Tryz.prog 38 #[.pointer (some ⟨g, 0, none⟩)] w7 fun e w' => e = .returned (.string (bs T)) ∧ w7 = w' from tenant_calls w7 g p (stA T 1) HS7.o.r)
      have t3 : ((bs T).toList == (bs T).toList) = true := by simp
      clear he hrow hs6 hc6 hw7 HB7 CN hTl
      go_upto_region 18 with (fail)
      rw [← HW7.o]
      go_wp2_with fail
      refine CT.o.mono ?_
      rintro e w' ⟨rfl, rfl⟩
      have HAR := hd (show AskR w g p w6.heap.size T 1 w7 from ⟨⟨⟨1, 1, 1, heQ T, 0⟩, A2, c2, HS7.o, HT7.o⟩⟩)
      generalize w6.heap.size = Tb at *
      clear CT HS7 HT7 z0 z1 z2 z4 HW7 HM1 HM2 HM3 HM4 HM5 HF HFL HBL
      go_upto_region 21 with (fail)
      go_wp2_with fail
      go_loopw [13, 12] (fun i nn wr => ∃ (k m : Nat), i = .int .i64 k ∧ nn = .int .i64 m ∧ k ≤ n ∧ m ≤ k + 1 ∧ Hd (AskR w g p Tb T m wr)) (fun i _ _ => n - (intOf i).toNat)
      case atStart => exact ⟨0, 1, rfl, rfl, Nat.zero_le _, Nat.le_refl _, HAR⟩
      case round =>
        clear HAR hk hki
        obtain ⟨k, m, rfl, rfl, hk, hmk, HAR⟩ := hrel
        obtain ⟨wi, rfl⟩ : ∃ wi : World, wi = wr := ⟨_, rfl⟩
        have hki : (0 : Int) ≤ (k : Int) := by omega
        obtain ⟨tt, AT, cT, hSA, hTB⟩ := HAR.o.o
        by_cases hlt : k < n
        · have hlti : (k : Int) < (n : Int) := by omega
          have hkl : k < l.length := by rw [← HN.o]; exact hlt
          obtain ⟨g0, o, rfl, hg, hc⟩ := HR.o.at_ (by omega)
          obtain ⟨X, hX⟩ : ∃ X, l[k]'hkl = X := ⟨_, rfl⟩
          have hmem : X ∈ l := by rw [← hX]; exact List.getElem_mem hkl
          have hcell : ∀ (W : World) (j : Nat) (u : Value), Below w.heap.size w W → j < 11 → (rqaEnc X)[j]? = some u → W.cell? ⟨g0, o + (k * 11 + j), none⟩ = some u := fun W j u hb hj hv => (hb.cell (p := ⟨g0, o + (k * 11 + j), none⟩) hg).trans (hc _ _ ((rqaE_at l k hkl j hj).trans (by rw [hX]; exact hv)))
          have hXok := HOKS.o X hmem
          obtain ⟨x, AX, cX⟩ := X
          have KEEP := hd (fun (W : World) (hb : Below w.heap.size w W) => show W.cell? ⟨g0, o + k * 11, none⟩ = some (.int .i64 x.k) ∧ W.cell? ⟨g0, o + k * 11 + 1, none⟩ = some (.string (bs x.tn)) ∧ W.cell? ⟨g0, o + k * 11 + 2, none⟩ = some (.string (bs x.col)) ∧ W.cell? ⟨g0, o + k * 11 + 3, none⟩ = some (.string (bs x.uid)) ∧ W.cell? ⟨g0, o + k * 11 + 4, none⟩ = some (.string (bs x.card)) ∧ W.cell? ⟨g0, o + k * 11 + 5, none⟩ = some (.int .i64 x.ck) ∧ W.cell? ⟨g0, o + k * 11 + 6, none⟩ = some (.int .i64 x.cv) ∧ W.cell? ⟨g0, o + k * 11 + 7, none⟩ = some (.slice AX x.ops.length cX) ∧ W.cell? ⟨g0, o + k * 11 + 8, none⟩ = some (.int .i64 x.tok) ∧ W.cell? ⟨g0, o + k * 11 + 9, none⟩ = some (.int .i64 x.most) ∧ W.cell? ⟨g0, o + k * 11 + 10, none⟩ = some (.int .i64 x.ticks) from ⟨hcell W 0 _ hb (by omega) rfl, hcell W 1 _ hb (by omega) rfl, hcell W 2 _ hb (by omega) rfl, hcell W 3 _ hb (by omega) rfl, hcell W 4 _ hb (by omega) rfl, hcell W 5 _ hb (by omega) rfl, hcell W 6 _ hb (by omega) rfl, hcell W 7 _ hb (by omega) rfl, hcell W 8 _ hb (by omega) rfl, hcell W 9 _ hb (by omega) rfl, hcell W 10 _ hb (by omega) rfl⟩)
          simp only at hXok

          have hlight := HALLQ.o ⟨x, AX, cX⟩ hmem
          simp only at hlight
          have HXS := hd (light_s2 hlight)
          have HXK := hd hXok
          obtain ⟨a0, a1, a2, a3, a4, a5, a6, a7, a8, a9, a10⟩ := KEEP.o wi hSA.b
          have HSA := hd hSA
          have HTB := hd hTB
          have CE := enc_calls x AX cX wi (HT.o.below hSA.b) (hXok.below hSA.b).rds HXS.o hXok.num
          unfold reqV reqE at CE
          replace CE := hd CE
          have HXO := hd (show x.ops.length ≤ 20 from (light_le hlight).2.2.2.2.1)
          clear hXok hmem hcell hX hc hkl hlight hSA hTB
          by_cases h0 : chk x = 0
          case neg =>
            have HC := hd (show ∀ e w', EncR wi x e w' → e = .returned (.tuple #[.slice none 0 0, .int .i64 (chk x)]) ∧ Below wi.heap.size wi w' from fun e w' h => h.no h0)
            have hcb : (chk x != 0) = true := by simpa using h0
            generalize chk x = ce at *
            clear h0 HXO
            go_wp2_with fail
            refine CE.o.mono ?_
            rintro e w3 hE
            obtain ⟨rfl, b3⟩ := HC.o _ _ hE
            have HAR3 := hd (show AskR w g p Tb T m w3 from ⟨⟨tt, AT, cT, HSA.o.below b3, HTB.o.below b3 HTB.o.lt⟩⟩)
            clear hE b3 HC CE HSA HTB HAR KEEP a0 a1 a2 a3 a4 a5 a6 a7 a8 a9 a10
            go_wp2
            go_roundw
            case rel => exact ⟨k + 1, m, by go_num, rfl, by omega, by omega, HAR3⟩
            case measure => simp [intOf]; omega
          case pos =>
          have HC := hd (show ∀ e w', EncR wi x e w' → ∃ (A : Option Addr) (m c : Nat), e = .returned (.tuple #[.slice A m c, .int .i64 0]) ∧ m = (encB x).length ∧ Row w' (From wi.heap.size) 5 1 A m c (u8E (encB x)) ∧ Below wi.heap.size wi w' from fun e w' h => h.yes h0)
          have hxk : 1 ≤ x.k ∧ x.k ≤ 11 := by have := (chk_0 h0).1; unfold isK at this; simpa using this
          have HBL := hd (enc_len h0 HXK.o.num)
          have HAS := hd (ask_s T m h0 HXK.o.num)
          obtain ⟨F, hF⟩ : ∃ F, frameB x.k.toNat (encB x) = F := ⟨_, rfl⟩
          have HFL := hd (show F.length ≤ 13000 by rw [← hF, frameB_len]; have := HBL.o; omega)
          have CP := fun (W : World) => put_yes W none 0 0 [] x.k.toNat (bs (encB x)) rfl (rds_0 W none) (by omega) (by omega) (by rw [bs_size]; have := HBL.o; omega)
          rw [bs_data, hF, show ((x.k.toNat : Nat) : Int) = x.k by omega, List.nil_append] at CP
          obtain ⟨M, hM⟩ : ∃ M, moreS (stA T m) F = M := ⟨_, rfl⟩
          have HM1 := hd (show mayFeed (stA T m) F = true by rw [← hF]; exact HAS.o.may)
          have HM2 := hd (show feedS (stA T m) F = M by rw [← hM, ← hF]; exact HAS.o.fed)
          have HM3 := hd (show M.buf.length ≤ 1000000 by rw [← hM, ← hF]; exact HAS.o.buf)
          have HM4 := hd (show M.seq = m by rw [← hM]; rfl)
          have HM5 := hd (show nextS M = if x.k = 1 then (⟨2, (m : Int) + 1, x.k, rq0, 10⟩, stA T (m + 1)) else (⟨1, (m : Int) + 1, x.k, x, 0⟩, stA T (m + 1)) by
            rw [← hM, ← hF, HAS.o.next]
            by_cases h1 : x.k = 1
            · rw [if_pos ⟨fun _ => HTN.o, fun _ => h1⟩, if_pos h1]
            · rw [if_neg (fun h => h1 (h.2 HTN.o)), if_neg h1, if_neg h1])
          generalize encB x = B at *
          replace CP := hd CP
          clear hF hM HAS h0 hxk
          go_wp2_with fail
          refine CE.o.mono ?_
          rintro e w3 hE
          obtain ⟨A1, m1, k1, rfl, hm1, hr1, hb1⟩ := HC.o _ _ hE
          have HS3 := hd (HSA.o.below hb1)
          have HT3 := hd (HTB.o.below hb1 HTB.o.lt)
          have CPB := hd (fun (W : World) (h : Below w3.heap.size w3 W) => (CP.o W).mono (R' := fun e w' => ∃ (A : Option Addr) (m c : Nat), e = .returned (.tuple #[.slice A m c, .int .i64 0]) ∧ m = F.length ∧ Rds w' A m 1 (u8E F) ∧ Below w3.heap.size w3 w') (fun e w' ⟨⟨A, m, c, h1, h2, h3, h4⟩⟩ => ⟨A, m, c, h1, h2, h3.rds, h.trans (h4.mono h.size)⟩))
          have KCV := hd (fun (W : World) (h : Below w3.heap.size w3 W) => show W.cell? ⟨g0, o + k * 11, none⟩ = some (.int .i64 x.k) ∧ (convert 27 9 (.slice A1 m1 k1)).run Tryz.prog W = .ok (.string (bs B)) W from ⟨(KEEP.o W (HS3.o.b.trans (h.mono HS3.o.b.size))).1, conv_back (P := Tryz.prog) W 27 9 5 Tryz.underlying27 Tryz.underlying5 Tryz.underlying9 A1 m1 k1 B hm1 (hr1.rds.below h)⟩)
          have T0 : Below w3.heap.size w3 w3 := Below.refl _ _
          obtain ⟨q0, q1⟩ := KCV.o _ T0
          clear hE hm1 hr1 hb1 HC CE HSA HTB CP a0 a1 a2 a3 a4 a5 a6 a7 a8 a9 a10 HAR
          go_upto_region 26 with (fail)
          go_region_held3 (fun W => W.cell? ⟨g0, o + k * 11, none⟩ = some (.int .i64 x.k) ∧ (convert 27 9 (.slice A1 m1 k1)).run Tryz.prog W = .ok (.string (bs B)) W) (with_reducible first
              | exact KCV.o _ (by assumption)
              | exact KCV.o _ (Below.drew (by assumption)))
            ((go_at_call 41
              with_reducible refine (CPB.o _ (by first | assumption | exact Below.drew (by assumption))).mono ?_
              rintro e w4 ⟨A2, m2, k2, rfl, hm2, hr2, hb2⟩))
          have HS4 := hd (HS3.o.below hb2)
          have HT4 := hd (HT3.o.below hb2 HT3.o.lt)
          have HTX := hd (show Tb ≠ g ∧ Tb ≠ p from ⟨HT4.o.ne_ HS4.o.r.b (by decide), HT4.o.ne_ HS4.o.r.p (by decide)⟩)
          subst hm2
          have kc2 := conv_back (P := Tryz.prog) w4 27 9 5 Tryz.underlying27 Tryz.underlying5 Tryz.underlying9 A2 F.length k2 F rfl hr2
          have CF := feed_a w w4 g p (stA T m) (bs F) HS4.o (by show (0 : Int) ≤ 1048576; decide) (by show (1048576 : Int) ≤ _; decide) (Nat.zero_le _) (by rw [bs_size]; have := HFL.o; omega)
          rw [bs_data, HM1.o, HM2.o] at CF
          replace CF := hd CF
          clear hr2 hb2 HS3 HT3 CPB KCV T0 q0 q1 HM1 HM2 HBL HFL
          go_upto_region 27 with (fail)
          go_wp2_with fail
          refine CF.o.mono ?_
          rintro e w5 ⟨rfl, hs5, hc5⟩
          have HT5 := hd (HT4.o.chg hc5.two (fun k => by rcases k with k | k; exact HTX.o.1 k; exact HTX.o.2 k))
          have CN := next_a w w5 g p M HT.o hs5 HM3.o (by rw [HM4.o]; omega)
          rw [HM5.o] at CN
          clear hs5 hc5 kc2 CF HS4 HT4 HM3 HM4 HM5
          have hm21 : m ≤ 21 := by omega
          have t1 : ((m : Int) + 1 != (m : Int) + 1) = false := by simp
          have t2 : (x.k != x.k) = false := by simp
          have hnx : ((m : Int) + 1) = ((m + 1 : Nat) : Int) := by omega
          have HNX := hd hnx
          clear hnx
          by_cases h1 : x.k = 1
          · have k1 : (x.k == 1) = true := by simpa using h1
            rw [if_pos h1] at CN
            replace CN := hd CN
            clear h1
            go_wp2_with fail
            refine CN.o.mono ?_
            rintro e w6 ⟨A2, c2, he, hrow, hs6, hc6⟩
            have he2 : e = .returned (.agg #[.int .i64 2, .int .i64 ((m : Int) + 1), .int .i64 x.k, .int .i64 0, .string ⟨#[]⟩, .string ⟨#[]⟩, .string ⟨#[]⟩, .string ⟨#[]⟩, .int .i64 0, .int .i64 0, .slice A2 0 c2, .int .i64 0, .int .i64 0, .int .i64 0, .int .i64 10]) := he
            subst he2
            have HT6 := hd (HT5.o.chg hc6 (fun k => by rcases k with k | k; exact HTX.o.1 k; exact HTX.o.2 k))
            have HRW := hd hrow
            have HS6 := hd hs6
            have HT6' := hd (show Blk w6 Tb 61 #[.int .i64 tt.what, .int .i64 tt.seq, .int .i64 tt.k, .int .i64 tt.q.k, .string (bs tt.q.tn), .string (bs tt.q.col), .string (bs tt.q.uid), .string (bs tt.q.card), .int .i64 tt.q.ck, .int .i64 tt.q.cv, .slice AT tt.q.ops.length cT, .int .i64 tt.q.tok, .int .i64 tt.q.most, .int .i64 tt.q.ticks, .int .i64 tt.e] from HT6.o)
            obtain ⟨y0, y1, y2, y3, y4, y5, y6, y7, y8, y9, y10, y11, y12, y13, y14⟩ := c15 HT6'.o
            obtain ⟨f0, f1, f2, f3, f4, f5, f6, f7, f8, f9, f10, f11, f12, f13, f14⟩ := f15 HT6'.o
            clear he hrow hs6 hc6 CN HT5 HT6
            go_upto_region 30 with (fail)
            obtain ⟨w7, hw7⟩ : ∃ w7, w7 = (((((((((((((((w6.setCell ⟨Tb, 0, none⟩ (.int .i64 2)).setCell ⟨Tb, 1, none⟩ (.int .i64 ((m : Int) + 1))).setCell ⟨Tb, 2, none⟩ (.int .i64 x.k)).setCell ⟨Tb, 3, none⟩ (.int .i64 0)).setCell ⟨Tb, 4, none⟩ (.string ⟨#[]⟩)).setCell ⟨Tb, 5, none⟩ (.string ⟨#[]⟩)).setCell ⟨Tb, 6, none⟩ (.string ⟨#[]⟩)).setCell ⟨Tb, 7, none⟩ (.string ⟨#[]⟩)).setCell ⟨Tb, 8, none⟩ (.int .i64 0)).setCell ⟨Tb, 9, none⟩ (.int .i64 0)).setCell ⟨Tb, 10, none⟩ (.slice A2 0 c2)).setCell ⟨Tb, 11, none⟩ (.int .i64 0)).setCell ⟨Tb, 12, none⟩ (.int .i64 0)).setCell ⟨Tb, 13, none⟩ (.int .i64 0)).setCell ⟨Tb, 14, none⟩ (.int .i64 10)) := ⟨_, rfl⟩
            rw [← hw7]
            have HT7 := hd (show Blk w7 Tb 61 #[.int .i64 2, .int .i64 ((m : Int) + 1), .int .i64 x.k, .int .i64 0, .string ⟨#[]⟩, .string ⟨#[]⟩, .string ⟨#[]⟩, .string ⟨#[]⟩, .int .i64 0, .int .i64 0, .slice A2 0 c2, .int .i64 0, .int .i64 0, .int .i64 0, .int .i64 10] by rw [hw7]; exact set15 HT6'.o)
            have HS7 := hd (show SesA w w7 g p (stA T (m + 1)) from ⟨by rw [hw7]; exact ⟨far15 HS6.o.r.b HTX.o.1.symm, far15 HS6.o.r.p HTX.o.2.symm⟩, HS6.o.g, HS6.o.p, by rw [hw7]; exact HS6.o.b.trans ((chg15 (S := One Tb) (Chg.refl _ w6) (.inl rfl)).below (fun k hk => by rw [show k = Tb from hk]; exact HTL.o) HS6.o.b.size)⟩)
            clear hw7 HT6' y0 f0 y1 f1 y2 f2 y3 f3 y4 f4 y5 f5 y6 f6 y7 f7 y8 f8 y9 f9 y10 f10 y11 f11 y12 f12 y13 f13 y14 f14 HRW HS6
            have z1 := HT7.o.at_ 1 (v := .int .i64 ((m : Int) + 1)) rfl
            have z2 := HT7.o.at_ 2 (v := .int .i64 x.k) rfl
            obtain ⟨a0, a1, a2, a3, a4, a5, a6, a7, a8, a9, a10⟩ := KEEP.o _ HS7.o.b
            have CT := hd (fun (W : World) (h : SesA w W g p (stA T (m + 1))) => (show Calls Tryz.prog 38 #[.pointer (some ⟨g, 0, none⟩)] W fun e w' => e = .returned (.string (bs T)) ∧ w' = W from (tenant_calls W g p (stA T (m + 1)) h.r).mono (fun e w' ⟨h1, h2⟩ => ⟨h1, h2.symm⟩)))
            go_quiet ((go_at_call 38; first | exact Calls.quiet_of_same (CT.o _ (HS7.o.drewN _)) | exact Calls.quiet_of_same (CT.o _ HS7.o)))
            obtain ⟨w8, hw8⟩ : ∃ w8, w8 = w7.drewN nq := ⟨_, rfl⟩
            rw [← hw8]
            have HT8 := hd (show Blk w8 Tb 61 #[.int .i64 2, .int .i64 ((m : Int) + 1), .int .i64 x.k, .int .i64 0, .string ⟨#[]⟩, .string ⟨#[]⟩, .string ⟨#[]⟩, .string ⟨#[]⟩, .int .i64 0, .int .i64 0, .slice A2 0 c2, .int .i64 0, .int .i64 0, .int .i64 0, .int .i64 10] by rw [hw8]; exact HT7.o.drewN nq)
            have HS8 := hd (show SesA w w8 g p (stA T (m + 1)) by rw [hw8]; exact HS7.o.drewN nq)
            clear hw8 HT7 HS7 CT z1 z2 t1 t2 a0 a1 a2 a3 a4 a5 a6 a7 a8 a9 a10
            obtain ⟨a0, a1, a2, a3, a4, a5, a6, a7, a8, a9, a10⟩ := KEEP.o _ HS8.o.b
            have z0 := HT8.o.at_ 0 (v := .int .i64 2) rfl
            have z14 := HT8.o.at_ 14 (v := .int .i64 10) rfl
            have z3 := HT8.o.at_ 3 (v := .int .i64 0) rfl
            have HARN := hd (show AskR w g p Tb T (m + 1) w8 from ⟨⟨⟨2, (m : Int) + 1, x.k, rq0, 10⟩, A2, c2, HS8.o, HT8.o⟩⟩)
            clear HT8 HS8 KEEP HXK HXS HXO
            go_wp2
            clear z0 z14 z3 a0 a1 a2 a3 a4 a5 a6 a7 a8 a9 a10
            go_roundw
            case rel => exact ⟨k + 1, m + 1, by go_num, by rw [HNX.o], by omega, by omega, HARN⟩
            case measure => simp [intOf]; omega
          · have k1 : (x.k == 1) = false := by simpa using h1
            rw [if_neg h1] at CN
            replace CN := hd CN
            clear h1
            go_wp2_with fail
            refine CN.o.mono ?_
            rintro e w6 ⟨A2, c2, he, hrow, hs6, hc6⟩
            have he2 : e = .returned (.agg #[.int .i64 1, .int .i64 ((m : Int) + 1), .int .i64 x.k, .int .i64 x.k, .string (bs x.tn), .string (bs x.col), .string (bs x.uid), .string (bs x.card), .int .i64 x.ck, .int .i64 x.cv, .slice A2 x.ops.length c2, .int .i64 x.tok, .int .i64 x.most, .int .i64 x.ticks, .int .i64 0]) := he
            subst he2
            have HT6 := hd (HT5.o.chg hc6 (fun k => by rcases k with k | k; exact HTX.o.1 k; exact HTX.o.2 k))
            have HRW := hd hrow
            have HS6 := hd hs6
            have HT6' := hd (show Blk w6 Tb 61 #[.int .i64 tt.what, .int .i64 tt.seq, .int .i64 tt.k, .int .i64 tt.q.k, .string (bs tt.q.tn), .string (bs tt.q.col), .string (bs tt.q.uid), .string (bs tt.q.card), .int .i64 tt.q.ck, .int .i64 tt.q.cv, .slice AT tt.q.ops.length cT, .int .i64 tt.q.tok, .int .i64 tt.q.most, .int .i64 tt.q.ticks, .int .i64 tt.e] from HT6.o)
            obtain ⟨y0, y1, y2, y3, y4, y5, y6, y7, y8, y9, y10, y11, y12, y13, y14⟩ := c15 HT6'.o
            obtain ⟨f0, f1, f2, f3, f4, f5, f6, f7, f8, f9, f10, f11, f12, f13, f14⟩ := f15 HT6'.o
            clear he hrow hs6 hc6 CN HT5 HT6
            go_upto_region 30 with (fail)
            obtain ⟨w7, hw7⟩ : ∃ w7, w7 = (((((((((((((((w6.setCell ⟨Tb, 0, none⟩ (.int .i64 1)).setCell ⟨Tb, 1, none⟩ (.int .i64 ((m : Int) + 1))).setCell ⟨Tb, 2, none⟩ (.int .i64 x.k)).setCell ⟨Tb, 3, none⟩ (.int .i64 x.k)).setCell ⟨Tb, 4, none⟩ (.string (bs x.tn))).setCell ⟨Tb, 5, none⟩ (.string (bs x.col))).setCell ⟨Tb, 6, none⟩ (.string (bs x.uid))).setCell ⟨Tb, 7, none⟩ (.string (bs x.card))).setCell ⟨Tb, 8, none⟩ (.int .i64 x.ck)).setCell ⟨Tb, 9, none⟩ (.int .i64 x.cv)).setCell ⟨Tb, 10, none⟩ (.slice A2 x.ops.length c2)).setCell ⟨Tb, 11, none⟩ (.int .i64 x.tok)).setCell ⟨Tb, 12, none⟩ (.int .i64 x.most)).setCell ⟨Tb, 13, none⟩ (.int .i64 x.ticks)).setCell ⟨Tb, 14, none⟩ (.int .i64 0)) := ⟨_, rfl⟩
            rw [← hw7]
            have HT7 := hd (show Blk w7 Tb 61 #[.int .i64 1, .int .i64 ((m : Int) + 1), .int .i64 x.k, .int .i64 x.k, .string (bs x.tn), .string (bs x.col), .string (bs x.uid), .string (bs x.card), .int .i64 x.ck, .int .i64 x.cv, .slice A2 x.ops.length c2, .int .i64 x.tok, .int .i64 x.most, .int .i64 x.ticks, .int .i64 0] by rw [hw7]; exact set15 HT6'.o)
            have HS7 := hd (show SesA w w7 g p (stA T (m + 1)) from ⟨by rw [hw7]; exact ⟨far15 HS6.o.r.b HTX.o.1.symm, far15 HS6.o.r.p HTX.o.2.symm⟩, HS6.o.g, HS6.o.p, by rw [hw7]; exact HS6.o.b.trans ((chg15 (S := One Tb) (Chg.refl _ w6) (.inl rfl)).below (fun k hk => by rw [show k = Tb from hk]; exact HTL.o) HS6.o.b.size)⟩)
            have HRW7 := hd (show Row w7 (From w5.heap.size) 43 5 A2 x.ops.length c2 (opsE x.ops) by rw [hw7]; exact HRW.o.set15 HT6'.o (by decide))
            clear hw7 HT6' y0 f0 y1 f1 y2 f2 y3 f3 y4 f4 y5 f5 y6 f6 y7 f7 y8 f8 y9 f9 y10 f10 y11 f11 y12 f12 y13 f13 y14 f14 HRW HS6
            have z1 := HT7.o.at_ 1 (v := .int .i64 ((m : Int) + 1)) rfl
            have z2 := HT7.o.at_ 2 (v := .int .i64 x.k) rfl
            obtain ⟨a0, a1, a2, a3, a4, a5, a6, a7, a8, a9, a10⟩ := KEEP.o _ HS7.o.b
            have CT := hd (fun (W : World) (h : SesA w W g p (stA T (m + 1))) => (show Calls Tryz.prog 38 #[.pointer (some ⟨g, 0, none⟩)] W fun e w' => e = .returned (.string (bs T)) ∧ w' = W from (tenant_calls W g p (stA T (m + 1)) h.r).mono (fun e w' ⟨h1, h2⟩ => ⟨h1, h2.symm⟩)))
            go_quiet ((go_at_call 38; first | exact Calls.quiet_of_same (CT.o _ (HS7.o.drewN _)) | exact Calls.quiet_of_same (CT.o _ HS7.o)))
            obtain ⟨w8, hw8⟩ : ∃ w8, w8 = w7.drewN nq := ⟨_, rfl⟩
            rw [← hw8]
            have HT8 := hd (show Blk w8 Tb 61 #[.int .i64 1, .int .i64 ((m : Int) + 1), .int .i64 x.k, .int .i64 x.k, .string (bs x.tn), .string (bs x.col), .string (bs x.uid), .string (bs x.card), .int .i64 x.ck, .int .i64 x.cv, .slice A2 x.ops.length c2, .int .i64 x.tok, .int .i64 x.most, .int .i64 x.ticks, .int .i64 0] by rw [hw8]; exact HT7.o.drewN nq)
            have HS8 := hd (show SesA w w8 g p (stA T (m + 1)) by rw [hw8]; exact HS7.o.drewN nq)
            have HR8 := hd (show Row w8 (From w5.heap.size) 43 5 A2 x.ops.length c2 (opsE x.ops) by rw [hw8]; exact HRW7.o.drewN nq)
            clear HRW7
            clear hw8 HT7 HS7 CT z1 z2 t1 t2 a0 a1 a2 a3 a4 a5 a6 a7 a8 a9 a10
            obtain ⟨a0, a1, a2, a3, a4, a5, a6, a7, a8, a9, a10⟩ := KEEP.o _ HS8.o.b
            have z0 := HT8.o.at_ 0 (v := .int .i64 1) rfl
            have z14 := HT8.o.at_ 14 (v := .int .i64 0) rfl
            have z3 := HT8.o.at_ 3 (v := .int .i64 x.k) rfl
            have HARN := hd (fun (W : World) (h : Below w8.heap.size w8 W) => show AskR w g p Tb T (m + 1) W from ⟨⟨⟨1, (m : Int) + 1, x.k, x, 0⟩, A2, c2, HS8.o.below h, HT8.o.below h HT8.o.lt⟩⟩)
            have KS := hd (fun (W : World) (h : Below w8.heap.size w8 W) => show W.cell? ⟨Tb, 0, none⟩ = some (.int .i64 1) ∧ W.cell? ⟨Tb, 14, none⟩ = some (.int .i64 0) ∧ W.cell? ⟨Tb, 3, none⟩ = some (.int .i64 x.k) ∧ W.cell? ⟨Tb, 4, none⟩ = some (.string (bs x.tn)) ∧ W.cell? ⟨Tb, 5, none⟩ = some (.string (bs x.col)) ∧ W.cell? ⟨Tb, 6, none⟩ = some (.string (bs x.uid)) ∧ W.cell? ⟨Tb, 7, none⟩ = some (.string (bs x.card)) ∧ W.cell? ⟨Tb, 8, none⟩ = some (.int .i64 x.ck) ∧ W.cell? ⟨Tb, 9, none⟩ = some (.int .i64 x.cv) ∧ W.cell? ⟨Tb, 10, none⟩ = some (.slice A2 x.ops.length c2) ∧ W.cell? ⟨Tb, 11, none⟩ = some (.int .i64 x.tok) ∧ W.cell? ⟨Tb, 12, none⟩ = some (.int .i64 x.most) ∧ W.cell? ⟨Tb, 13, none⟩ = some (.int .i64 x.ticks) ∧ W.cell? ⟨g0, o + k * 11, none⟩ = some (.int .i64 x.k) ∧ W.cell? ⟨g0, o + k * 11 + 1, none⟩ = some (.string (bs x.tn)) ∧ W.cell? ⟨g0, o + k * 11 + 2, none⟩ = some (.string (bs x.col)) ∧ W.cell? ⟨g0, o + k * 11 + 3, none⟩ = some (.string (bs x.uid)) ∧ W.cell? ⟨g0, o + k * 11 + 4, none⟩ = some (.string (bs x.card)) ∧ W.cell? ⟨g0, o + k * 11 + 5, none⟩ = some (.int .i64 x.ck) ∧ W.cell? ⟨g0, o + k * 11 + 6, none⟩ = some (.int .i64 x.cv) ∧ W.cell? ⟨g0, o + k * 11 + 7, none⟩ = some (.slice AX x.ops.length cX) ∧ W.cell? ⟨g0, o + k * 11 + 8, none⟩ = some (.int .i64 x.tok) ∧ W.cell? ⟨g0, o + k * 11 + 9, none⟩ = some (.int .i64 x.most) ∧ W.cell? ⟨g0, o + k * 11 + 10, none⟩ = some (.int .i64 x.ticks) from by
              have hb := HT8.o.below h HT8.o.lt
              obtain ⟨b0, b1, b2, b3, b4, b5, b6, b7, b8, b9, b10⟩ := KEEP.o W (HS8.o.b.trans (h.mono HS8.o.b.size))
              exact ⟨hb.at_ 0 rfl, hb.at_ 14 rfl, hb.at_ 3 rfl, hb.at_ 4 rfl, hb.at_ 5 rfl, hb.at_ 6 rfl, hb.at_ 7 rfl, hb.at_ 8 rfl, hb.at_ 9 rfl, hb.at_ 10 rfl, hb.at_ 11 rfl, hb.at_ 12 rfl, hb.at_ 13 rfl, b0, b1, b2, b3, b4, b5, b6, b7, b8, b9, b10⟩)
            have SM := fun (W : World) (h : Below w8.heap.size w8 W) => (same_calls x x A2 AX c2 cX W ((HR8.o.below h).rds) (HXK.o.rds.below (HS8.o.b.trans (h.mono HS8.o.b.size))) (by have := HXO.o; omega) (by have := HXO.o; omega)).mono (R' := fun e w' => e = .returned (.bool true) ∧ Below w8.heap.size w8 w') (fun e w' ⟨h1, h2⟩ => ⟨by rw [h1, decide_eq_true rfl], h.trans (h2.mono h.size)⟩)
            unfold reqV reqE at SM
            replace SM := hd SM
            have T0 : Below w8.heap.size w8 w8 := Below.refl _ _
            clear z0 z14 z3 a1 a2 a3 a4 a5 a6 a7 a8 a9 a10
            go_upto_region 35 with (fail)
            clear a0
            obtain ⟨z0, z14, z3, z4, z5, z6, z7, z8, z9, z10, z11, z12, z13, a0, a1, a2, a3, a4, a5, a6, a7, a8, a9, a10⟩ := KS.o _ T0
            clear HT8 HS8 HR8 KEEP HXK HXS HXO
            go_region_held3 (fun W => W.cell? ⟨Tb, 0, none⟩ = some (.int .i64 1) ∧ W.cell? ⟨Tb, 14, none⟩ = some (.int .i64 0) ∧ W.cell? ⟨Tb, 3, none⟩ = some (.int .i64 x.k) ∧ W.cell? ⟨Tb, 4, none⟩ = some (.string (bs x.tn)) ∧ W.cell? ⟨Tb, 5, none⟩ = some (.string (bs x.col)) ∧ W.cell? ⟨Tb, 6, none⟩ = some (.string (bs x.uid)) ∧ W.cell? ⟨Tb, 7, none⟩ = some (.string (bs x.card)) ∧ W.cell? ⟨Tb, 8, none⟩ = some (.int .i64 x.ck) ∧ W.cell? ⟨Tb, 9, none⟩ = some (.int .i64 x.cv) ∧ W.cell? ⟨Tb, 10, none⟩ = some (.slice A2 x.ops.length c2) ∧ W.cell? ⟨Tb, 11, none⟩ = some (.int .i64 x.tok) ∧ W.cell? ⟨Tb, 12, none⟩ = some (.int .i64 x.most) ∧ W.cell? ⟨Tb, 13, none⟩ = some (.int .i64 x.ticks) ∧ W.cell? ⟨g0, o + k * 11, none⟩ = some (.int .i64 x.k) ∧ W.cell? ⟨g0, o + k * 11 + 1, none⟩ = some (.string (bs x.tn)) ∧ W.cell? ⟨g0, o + k * 11 + 2, none⟩ = some (.string (bs x.col)) ∧ W.cell? ⟨g0, o + k * 11 + 3, none⟩ = some (.string (bs x.uid)) ∧ W.cell? ⟨g0, o + k * 11 + 4, none⟩ = some (.string (bs x.card)) ∧ W.cell? ⟨g0, o + k * 11 + 5, none⟩ = some (.int .i64 x.ck) ∧ W.cell? ⟨g0, o + k * 11 + 6, none⟩ = some (.int .i64 x.cv) ∧ W.cell? ⟨g0, o + k * 11 + 7, none⟩ = some (.slice AX x.ops.length cX) ∧ W.cell? ⟨g0, o + k * 11 + 8, none⟩ = some (.int .i64 x.tok) ∧ W.cell? ⟨g0, o + k * 11 + 9, none⟩ = some (.int .i64 x.most) ∧ W.cell? ⟨g0, o + k * 11 + 10, none⟩ = some (.int .i64 x.ticks)) (with_reducible first
                | exact KS.o _ (by assumption)
                | exact KS.o _ (Below.drew (by assumption)))
              ((go_at_call 21
                with_reducible refine (SM.o _ (by first | assumption | exact Below.drew (by assumption))).mono ?_
                rintro e w9 ⟨rfl, hT9⟩))
            have HARM := hd (HARN.o _ hT9)
            clear hT9 T0 SM KS HARN z0 z14 z3 z4 z5 z6 z7 z8 z9 z10 z11 z12 z13 a0 a1 a2 a3 a4 a5 a6 a7 a8 a9 a10
            go_wp2
            go_roundw
            case rel => exact ⟨k + 1, m + 1, by go_num, by rw [HNX.o], by omega, by omega, HARM⟩
            case measure => simp [intOf]; omega
        · obtain rfl : n = k := by omega
          have hki2 : ¬ (n : Int) < (n : Int) := by omega
          have CN := next_a w wi g p (stA T m) HT.o hSA (Nat.zero_le _) (by show 0 ≤ (m : Int) ∧ (m : Int) ≤ 1000000; omega)
          rw [next_0 (idle_look (stA_idle T m))] at CN
          replace CN := hd CN
          clear hSA hTB HAR hlt
          go_upto_region 37 with (fail)
          clear hki2
          go_wp2_with fail
          refine CN.o.mono ?_
          rintro e w7 ⟨A2, c2, he, _, hs7, _⟩
          have he2 : e = .returned (.agg #[.int .i64 0, .int .i64 0, .int .i64 0, .int .i64 0, .string ⟨#[]⟩, .string ⟨#[]⟩, .string ⟨#[]⟩, .string ⟨#[]⟩, .int .i64 0, .int .i64 0, .slice A2 0 c2, .int .i64 0, .int .i64 0, .int .i64 0, .int .i64 0]) := he
          subst he2
          have HS7 := hd hs7
          have kf : (Instr.field 61 (.agg #[.int .i64 0, .int .i64 0, .int .i64 0, .int .i64 0, .string ⟨#[]⟩, .string ⟨#[]⟩, .string ⟨#[]⟩, .string ⟨#[]⟩, .int .i64 0, .int .i64 0, .slice A2 0 c2, .int .i64 0, .int .i64 0, .int .i64 0, .int .i64 0]) 0).run Tryz.prog w7 = .ok (.int .i64 0) w7 := by kernel_rfl
          have CS := hd (show Calls Tryz.prog 39 #[.pointer (some ⟨g, 0, none⟩)] w7 fun e w' => e = .returned (.int .i64 (m : Int)) ∧ w7 = w' from seq_calls w7 g p (stA T m) hs7.r)
          clear he hs7 CN
          go_wp2_with fail
          refine CS.o.mono ?_
          rintro e w' ⟨rfl, rfl⟩
          have HB7 := hd HS7.o.b
          clear CS HS7
          go_wp2_with fail
          go_ret
          exact ⟨rfl, HB7.o⟩
end Go.Proofs.YtogjokofmfpmgaaGreatDoor
