/-
  henlaw26.SessBound.
-/
import Derived.Test.YtogjokofmfpmgaaGreatDoorGAX
set_option linter.unusedVariables false
set_option linter.unusedSimpArgs false
namespace Go.Proofs.YtogjokofmfpmgaaGreatDoor
open Go.RowKit

theorem feed_keeps (s : Ss) (x : List UInt8) : (feedS s x).seq = s.seq ∧ (feedS s x).tn = s.tn ∧ (feedS s x).broken = s.broken := by
  unfold feedS
  split <;> exact ⟨rfl, rfl, rfl⟩
theorem raw_s2 {q : Rq} (h : RawOk q) : RqS q :=
  ⟨Nat.le_trans h.tn.1 (by decide), Nat.le_trans h.col.1 (by decide), Nat.le_trans h.uid.1 (by decide), Nat.le_trans h.card.1 (by decide), Nat.le_trans h.ops.1 (by decide), fun o ho => ⟨Nat.le_trans (h.ops.2.1 o ho).1 (by decide), Nat.le_trans (h.ops.2.1 o ho).2.1 (by decide)⟩⟩
/-- What is known of what is asked. -/
theorem ask_is {s : Ss} (h : lookW s = 1) (he : errS s = 0) : ∃ q : Rq, (q.k = 1 ↔ s.tn = []) ∧ chk q = 0 ∧ RqS q ∧ nextS s = (⟨1, s.seq + 1, q.k, q, 0⟩, if q.k = 1 then ⟨s.room, s.buf.drop (frN s.buf), s.closed, q.tn, s.seq + 1, s.broken⟩ else ⟨s.room, s.buf.drop (frN s.buf), s.closed, s.tn, s.seq + 1, s.broken⟩) := by
  obtain ⟨h1, h2⟩ := err_ok he
  obtain ⟨h3, h4, h5, h6⟩ := dec_ok h1
  refine ⟨(decQ (frK s.buf) (frB s.buf)).1, h2, h4, raw_s2 h6, ?_⟩
  have hk : 1 ≤ (decQ (frK s.buf) (frB s.buf)).1.k ∧ (decQ (frK s.buf) (frB s.buf)).1.k ≤ 11 := by have := (chk_0 h4).1; unfold isK at this; simpa using this
  have e1 : nextS s = (⟨1, s.seq + 1, kindS s, (decQ (frK s.buf) (frB s.buf)).1, 0⟩, if (decQ (frK s.buf) (frB s.buf)).1.k = 1 then ⟨s.room, s.buf.drop (frN s.buf), s.closed, (decQ (frK s.buf) (frB s.buf)).1.tn, s.seq + 1, s.broken⟩ else ⟨s.room, s.buf.drop (frN s.buf), s.closed, s.tn, s.seq + 1, s.broken⟩) := next_1 h he
  rw [e1]
  have e : kindS s = (decQ (frK s.buf) (frB s.buf)).1.k := by
    rw [h3] at hk ⊢
    unfold kindS
    rw [if_pos (by omega)]
  rw [e]
set_option maxRecDepth 100000 in
set_option maxHeartbeats 8000000 in
theorem sbound_law (room : Int) (A : Option Addr) (n c : Nat) (l : List SAc) (w : World) (ht : Tbs w) (hroom : -9223372036854775808 ≤ room ∧ room ≤ 9223372036854775807) (hr : Rds w A n 2 (sacE l)) (hn : n = l.length) (hm : n ≤ maxLen) (hok : ∀ a ∈ l, a.s.length ≤ maxLen) :
    Calls Tryz.prog 11 #[.int .i64 room, .slice A n c] w fun e w' => e = .returned (.bool true) ∧ Below w.heap.size w w' := by
  cases hlt : lightL l with
  | false =>
    have HLI := fun w' (hb : Below w.heap.size w w') => slight_calls w' l A c (by rw [← hn]; exact hr.below hb) (by rw [← hn]; exact hm) hok
    rw [hlt, ← hn] at HLI
    replace HLI := hd HLI
    have HT := hd ht
    clear hr hn hm hok hlt ht hroom
    go_enter Tryz.func11, Tryz.ntmps11
    go_wp2_with fail
    refine (sfirst_calls w HT.o).mono ?_
    rintro e w1 ⟨rfl, b1⟩
    go_wp2_with fail
    refine (HLI.o w1 b1).mono ?_
    rintro e w2 ⟨rfl, rfl⟩
    go_wp2_with fail
    refine (sfirst_calls w1 (HT.o.below b1)).mono ?_
    rintro e w3 ⟨rfl, b3⟩
    go_wp2
    go_ret
    exact ⟨rfl, b1.trans (b3.mono b1.size)⟩
  | true =>
    have HLI := fun w' (hb : Below w.heap.size w w') => slight_calls w' l A c (by rw [← hn]; exact hr.below hb) (by rw [← hn]; exact hm) hok
    rw [hlt, ← hn] at HLI
    replace HLI := hd HLI
    obtain ⟨hn60, hE⟩ := lightL_le hlt
    rw [← hn] at hn60
    have HE := hd hE
    have HN := hd hn
    have HT := hd ht
    have HR := hd hr
    have HROOM := hd hroom
    unfold maxLen at hm
    clear hr hn hok hlt ht hE hroom
    go_enter Tryz.func11, Tryz.ntmps11
    go_wp2_with fail
    refine (sfirst_calls w HT.o).mono ?_
    rintro e w1 ⟨rfl, b1⟩
    go_wp2_with fail
    refine (HLI.o w1 b1).mono ?_
    rintro e w2 ⟨rfl, rfl⟩
    have B1 := hd b1
    clear b1 HLI
    go_wp2_with fail
    refine (snew_a w w1 room B1.o).mono ?_
    rintro e w2 ⟨g, p, rfl, hs2, _⟩
    have HS0 := hd hs2
    clear hs2 B1
    go_wp2_with fail
    go_loopw [9, 6, 7, 8] (fun i sn st sb wr => ∃ (k : Nat) (s : Ss), i = .int .i64 k ∧ sn = .int .i64 s.seq ∧ st = .string (bs s.tn) ∧ sb = .bool s.broken ∧ k ≤ n ∧ Hd (SOk k room s) ∧ Hd (SesA w wr g p s)) (fun i _ _ _ _  => n - (intOf i).toNat)
    case atStart => exact ⟨0, newS room, rfl, rfl, rfl, rfl, Nat.zero_le _, hd (sok_new room), HS0⟩
    case round =>
      clear HS0
      obtain ⟨k, s, rfl, rfl, rfl, rfl, hk, HOK, HS⟩ := hrel
      obtain ⟨wi, rfl⟩ : ∃ wi : World, wi = wr := ⟨_, rfl⟩
      have hki : (0 : Int) ≤ (k : Int) := by omega
      by_cases hlt : k < n
      · have hlti : (k : Int) < (n : Int) := by omega
        have hkl : k < l.length := by rw [← HN.o]; exact hlt
        obtain ⟨g0, o, rfl, hg, hc⟩ := HR.o.at_ (by omega)
        obtain ⟨x, hx⟩ : ∃ x, l[k]'hkl = x := ⟨_, rfl⟩
        have h2000 := HE.o x (by rw [← hx]; exact List.getElem_mem hkl)
        have hcell : ∀ j u, j < 2 → (sacEnc x)[j]? = some u → wi.cell? ⟨g0, o + (k * 2 + j), none⟩ = some u := fun j u hj hv => (HS.o.b.cell (p := ⟨g0, o + (k * 2 + j), none⟩) hg).trans (hc _ _ ((sacE_at l k hkl j hj).trans (by rw [hx]; exact hv)))
        obtain ⟨xo, xs⟩ := x
        have y0 : wi.cell? ⟨g0, o + k * 2, none⟩ = some (.int .i64 xo) := hcell 0 _ (by omega) rfl
        have y1 : wi.cell? ⟨g0, o + k * 2 + 1, none⟩ = some (.string (bs xs)) := hcell 1 _ (by omega) rfl
        simp only at h2000
        have hroom := HOK.o.room_ HROOM.o.2
        have hbuf : s.buf.length ≤ 120000 := by have := HOK.o.buf; omega
        have hseq := HOK.o.seq
        have C1 := hd (feed_a w wi g p s (bs xs) HS.o hroom.1 hroom.2 (by omega) (by rw [bs_size]; omega))
        have C2 := hd (half_calls wi g p s HS.o.r)
        have C3 := hd (ready_calls wi g p s HS.o.r (by omega))
        have C6 := hd (fun W (hW : SesA w W g p s) => next_a w W g p s HT.o hW (by omega) (by omega))
        have N1 := hd (sok_feed (x := xs) HOK.o h2000)
        have N2 := hd (sok_half HOK.o)
        have N3 := hd (sok_next HOK.o)
        clear hcell hc hx hkl h2000 hroom hbuf hseq
        clear C3
        have hq0 : 0 ≤ s.seq := HOK.o.seq.1
        have hq1 : s.seq ≤ 60 := by have := HOK.o.seq.2; omega
        by_cases e0 : xo = 0
        · subst e0
          clear C2 C6 N2 N3
          obtain ⟨kp1, kp2, kp3⟩ := feed_keeps s xs
          rw [← kp1, ← kp2, ← kp3]
          have HKP := hd (And.intro kp1 (And.intro kp2 kp3))
          clear kp1 kp2 kp3
          go_wp2_with fail
          refine C1.o.mono ?_
          rintro e w3 ⟨rfl, hs3, _⟩
          have HS3 := hd hs3
          rw [bs_data] at HS3
          clear hs3 HS HOK C1
          go_wp2
          go_roundw
          case rel => exact ⟨k + 1, _, by go_num, rfl, rfl, rfl, by omega, N1, HS3⟩
          case measure => simp [intOf]; omega
        by_cases e1 : xo = 1
        · subst e1
          clear C1 C6 N1 N3
          go_wp2_with fail
          refine C2.o.mono ?_
          rintro e w3 ⟨rfl, hs3, hc3⟩
          have HS3 := hd (HS.o.chg hc3.two hs3)
          clear hs3 hc3 HS HOK C2
          go_wp2
          go_roundw
          case rel => exact ⟨k + 1, halfS s, by go_num, rfl, rfl, rfl, by omega, N2, HS3⟩
          case measure => simp [intOf]; omega
        have b0 : (xo == 0) = false := by simpa using e0
        have b1 : (xo == 1) = false := by simpa using e1
        have C6' := C6.o
        have sq : (s.seq != s.seq) = false := by simp
        have sq1 : (s.seq + 1 != s.seq + 1) = false := by simp
        clear C1 C2 N1 N2 e0 e1 C6
        rcases look_or s with h0 | h4 | ⟨h3, hb3, hf0, _⟩ | ⟨h1, hb1, _⟩
        · have hbk : s.broken = false := by
            cases hb : s.broken with
            | false => rfl
            | true => have : lookW s = 4 := by unfold lookW; rw [if_pos hb]
                      omega
          rw [next_0 h0] at N3 C6'
          have C6 := hd C6'
          have HBK := hd hbk
          rw [hbk]
          clear C6' h0 hbk sq1
          as_aux_lemma =>
            go_wp2_with fail
            refine (C6.o wi HS.o).mono ?_
            rintro e w4 ⟨A2, c2, he, hrow, hs4, _⟩
            have he2 : e = .returned (.agg #[.int .i64 0, .int .i64 0, .int .i64 0, .int .i64 0, .string ⟨#[]⟩, .string ⟨#[]⟩, .string ⟨#[]⟩, .string ⟨#[]⟩, .int .i64 0, .int .i64 0, .slice A2 0 c2, .int .i64 0, .int .i64 0, .int .i64 0, .int .i64 0]) := he
            subst he2
            obtain ⟨w5, hw5⟩ : ∃ w5, w5 = w4.alloc (.cells #[.int .i64 0, .int .i64 0, .int .i64 0, .int .i64 0, .string ⟨#[]⟩, .string ⟨#[]⟩, .string ⟨#[]⟩, .string ⟨#[]⟩, .int .i64 0, .int .i64 0, .slice A2 0 c2, .int .i64 0, .int .i64 0, .int .i64 0, .int .i64 0] 61) := ⟨_, rfl⟩
            have HB5 := hd (show Below w4.heap.size w4 w5 by rw [hw5]; exact (Below.refl _ _).alloc (Nat.le_refl _) _)
            have HS5 := hd (hs4.below HB5.o)
            have HT5 := show Blk w5 w4.heap.size 61 _ by rw [hw5]; exact Blk.new _ _ _
            have z0 := HT5.at_ 0 rfl
            have z1 := HT5.at_ 1 rfl
            have z2 := HT5.at_ 2 rfl
            have z14 := HT5.at_ 14 rfl
            have HW5 := hd hw5
            have C9 := hd (seq_calls w5 g p _ HS5.o.r)
            have C10 := hd (tenant_calls w5 g p _ HS5.o.r)
            clear he hs4 hw5 HT5 hrow C6 y0 y1
            go_upto_region 18 with (fail)
            rw [← HW5.o]
            go_wp2_with fail
            refine C9.o.mono ?_
            rintro e w' ⟨rfl, rfl⟩
            go_wp2_with fail
            refine C10.o.mono ?_
            rintro e w' ⟨rfl, rfl⟩
            clear C9 C10 HOK
            go_wp2
            go_roundw
            case rel => exact ⟨k + 1, s, by go_num, rfl, rfl, congrArg Value.bool HBK.o.symm, by omega, N3, HS5⟩
            case measure => simp [intOf]; omega
        · rw [next_4 h4] at N3 C6'
          have C6 := hd C6'
          clear C6' h4 sq1
          cases hbk : s.broken
          all_goals
            have HBK := hd hbk
            clear hbk
            as_aux_lemma =>
              go_wp2_with fail
              refine (C6.o wi HS.o).mono ?_
              rintro e w4 ⟨A2, c2, he, hrow, hs4, _⟩
              have he2 : e = .returned (.agg #[.int .i64 4, .int .i64 0, .int .i64 0, .int .i64 0, .string ⟨#[]⟩, .string ⟨#[]⟩, .string ⟨#[]⟩, .string ⟨#[]⟩, .int .i64 0, .int .i64 0, .slice A2 0 c2, .int .i64 0, .int .i64 0, .int .i64 0, .int .i64 0]) := he
              subst he2
              obtain ⟨w5, hw5⟩ : ∃ w5, w5 = w4.alloc (.cells #[.int .i64 4, .int .i64 0, .int .i64 0, .int .i64 0, .string ⟨#[]⟩, .string ⟨#[]⟩, .string ⟨#[]⟩, .string ⟨#[]⟩, .int .i64 0, .int .i64 0, .slice A2 0 c2, .int .i64 0, .int .i64 0, .int .i64 0, .int .i64 0] 61) := ⟨_, rfl⟩
              have HB5 := hd (show Below w4.heap.size w4 w5 by rw [hw5]; exact (Below.refl _ _).alloc (Nat.le_refl _) _)
              have HS5 := hd (hs4.below HB5.o)
              have HT5 := show Blk w5 w4.heap.size 61 _ by rw [hw5]; exact Blk.new _ _ _
              have z0 := HT5.at_ 0 rfl
              have z1 := HT5.at_ 1 rfl
              have z2 := HT5.at_ 2 rfl
              have z14 := HT5.at_ 14 rfl
              have HW5 := hd hw5
              have C9 := hd (seq_calls w5 g p _ HS5.o.r)
              have C10 := hd (tenant_calls w5 g p _ HS5.o.r)
              clear he hs4 hw5 HT5 hrow C6 y0 y1
              go_upto_region 18 with (fail)
              rw [← HW5.o]
              go_wp2_with fail
              refine C9.o.mono ?_
              rintro e w' ⟨rfl, rfl⟩
              go_wp2_with fail
              refine C10.o.mono ?_
              rintro e w' ⟨rfl, rfl⟩
              clear C9 C10 HOK
              go_wp2
              go_roundw
              case rel => exact ⟨k + 1, s, by go_num, rfl, rfl, congrArg Value.bool HBK.o.symm, by omega, N3, HS5⟩
              case measure => simp [intOf]; omega
        · rw [next_3 h3] at N3 C6'
          have C6 := hd C6'
          rw [hb3]
          have f0 : (frE s.buf == 0) = false := by simpa using hf0
          generalize frE s.buf = fe at *
          clear C6' h3 hb3 hf0 sq
          as_aux_lemma =>
            go_wp2_with fail
            refine (C6.o wi HS.o).mono ?_
            rintro e w4 ⟨A2, c2, he, hrow, hs4, _⟩
            have he2 : e = .returned (.agg #[.int .i64 3, .int .i64 (s.seq + 1), .int .i64 0, .int .i64 0, .string ⟨#[]⟩, .string ⟨#[]⟩, .string ⟨#[]⟩, .string ⟨#[]⟩, .int .i64 0, .int .i64 0, .slice A2 0 c2, .int .i64 0, .int .i64 0, .int .i64 0, .int .i64 fe]) := he
            subst he2
            obtain ⟨w5, hw5⟩ : ∃ w5, w5 = w4.alloc (.cells #[.int .i64 3, .int .i64 (s.seq + 1), .int .i64 0, .int .i64 0, .string ⟨#[]⟩, .string ⟨#[]⟩, .string ⟨#[]⟩, .string ⟨#[]⟩, .int .i64 0, .int .i64 0, .slice A2 0 c2, .int .i64 0, .int .i64 0, .int .i64 0, .int .i64 fe] 61) := ⟨_, rfl⟩
            have HB5 := hd (show Below w4.heap.size w4 w5 by rw [hw5]; exact (Below.refl _ _).alloc (Nat.le_refl _) _)
            have HS5 := hd (hs4.below HB5.o)
            have HT5 := show Blk w5 w4.heap.size 61 _ by rw [hw5]; exact Blk.new _ _ _
            have z0 := HT5.at_ 0 rfl
            have z1 := HT5.at_ 1 rfl
            have z2 := HT5.at_ 2 rfl
            have z3 := HT5.at_ 3 rfl
            have z14 := HT5.at_ 14 rfl
            have HW5 := hd hw5
            have C9 := hd (seq_calls w5 g p _ HS5.o.r)
            have C10 := hd (tenant_calls w5 g p _ HS5.o.r)
            clear he hs4 hw5 HT5 hrow C6 y0 y1
            go_upto_region 18 with (fail)
            rw [← HW5.o]
            go_wp2_with fail
            refine C9.o.mono ?_
            rintro e w' ⟨rfl, rfl⟩
            go_wp2_with fail
            refine C10.o.mono ?_
            rintro e w' ⟨rfl, rfl⟩
            clear C9 C10 HOK
            go_wp2
            go_roundw
            case rel => exact ⟨k + 1, { s with seq := s.seq + 1, broken := true }, by go_num, rfl, rfl, rfl, by omega, N3, HS5⟩
            case measure => simp [intOf]; omega
        · by_cases he : errS s = 0
          · obtain ⟨q, hq1, hq2, hq3, hq4⟩ := ask_is h1 he
            have QC := hd hq2
            have QS := hd hq3
            have kq : (q.k != q.k) = false := by simp
            rw [hq4] at N3 C6'
            by_cases htn : s.tn = []
            · have hqk := hq1.2 htn
              rw [if_pos hqk] at N3 C6'
              have C6 := hd C6'
              have HB1 := hd hb1
              rw [hb1]
              have k1 : (q.k == 1) = true := by simpa using hqk
              have t1 : (bs s.tn).toList.isEmpty = true := by rw [bs_toL, htn]; rfl
              clear C6' h1 hb1 he hq1 hq2 hq3 hq4 hqk htn sq
              as_aux_lemma =>
                go_wp2_with fail
                refine (C6.o wi HS.o).mono ?_
                rintro e w4 ⟨A2, c2, he, hrow, hs4, _⟩
                have he2 : e = .returned (.agg #[.int .i64 1, .int .i64 (s.seq + 1), .int .i64 q.k, .int .i64 q.k, .string (bs q.tn), .string (bs q.col), .string (bs q.uid), .string (bs q.card), .int .i64 q.ck, .int .i64 q.cv, .slice A2 q.ops.length c2, .int .i64 q.tok, .int .i64 q.most, .int .i64 q.ticks, .int .i64 0]) := he
                subst he2
                obtain ⟨w5, hw5⟩ : ∃ w5, w5 = w4.alloc (.cells #[.int .i64 1, .int .i64 (s.seq + 1), .int .i64 q.k, .int .i64 q.k, .string (bs q.tn), .string (bs q.col), .string (bs q.uid), .string (bs q.card), .int .i64 q.ck, .int .i64 q.cv, .slice A2 q.ops.length c2, .int .i64 q.tok, .int .i64 q.most, .int .i64 q.ticks, .int .i64 0] 61) := ⟨_, rfl⟩
                have HB5 := hd (show Below w4.heap.size w4 w5 by rw [hw5]; exact (Below.refl _ _).alloc (Nat.le_refl _) _)
                have HS5 := hd (hs4.below HB5.o)
                have HT5 := show Blk w5 w4.heap.size 61 _ by rw [hw5]; exact Blk.new _ _ _
                have z0 := HT5.at_ 0 rfl
                have z1 := HT5.at_ 1 rfl
                have z2 := HT5.at_ 2 rfl
                have z3 := HT5.at_ 3 rfl
                have z4 := HT5.at_ 4 rfl
                have z5 := HT5.at_ 5 rfl
                have z6 := HT5.at_ 6 rfl
                have z7 := HT5.at_ 7 rfl
                have z8 := HT5.at_ 8 rfl
                have z9 := HT5.at_ 9 rfl
                have z10 := HT5.at_ 10 rfl
                have z11 := HT5.at_ 11 rfl
                have z12 := HT5.at_ 12 rfl
                have z13 := HT5.at_ 13 rfl
                have z14 := HT5.at_ 14 rfl
                have HW5 := hd hw5
                have HT5' := hd HT5
                have CC := hd (check_calls q A2 c2 w5 (HT.o.below HS5.o.b) ((hrow.below HB5.o).rds) QS.o)
                rw [QC.o] at CC
                clear he hs4 hw5 HT5 hrow C6 y0 y1
                go_upto_region 18 with (fail)
                rw [← HW5.o]
                go_wp2_with fail
                refine CC.o.mono ?_
                rintro e w6 ⟨rfl, hb6⟩
                have HS6 := hd (HS5.o.below hb6)
                have hl6 : w4.heap.size < w5.heap.size := HT5'.o.lt
                have HT6 := HT5'.o.below hb6 hl6
                have x0 := HT6.at_ 0 rfl
                have x1 := HT6.at_ 1 rfl
                have x2 := HT6.at_ 2 rfl
                have x3 := HT6.at_ 3 rfl
                have x4 := HT6.at_ 4 rfl
                have x14 := HT6.at_ 14 rfl
                have C9 := hd (seq_calls w6 g p _ HS6.o.r)
                have C10 := hd (tenant_calls w6 g p _ HS6.o.r)
                clear hb6 HT6 CC z0 z1 z2 z3 z4 z5 z6 z7 z8 z9 z10 z11 z12 z13 z14
                go_wp2_with fail
                refine C9.o.mono ?_
                rintro e w' ⟨rfl, rfl⟩
                go_wp2_with fail
                refine C10.o.mono ?_
                rintro e w' ⟨rfl, rfl⟩
                clear C9 C10 HOK
                go_wp2
                go_roundw
                case rel => exact ⟨k + 1, ⟨s.room, s.buf.drop (frN s.buf), s.closed, q.tn, s.seq + 1, s.broken⟩, by go_num, rfl, rfl, congrArg Value.bool HB1.o.symm, by omega, N3, HS6⟩
                case measure => simp [intOf]; omega
            · have hqk : ¬ q.k = 1 := fun h => htn (hq1.1 h)
              rw [if_neg hqk] at N3 C6'
              have C6 := hd C6'
              have HB1 := hd hb1
              rw [hb1]
              have k1 : (q.k == 1) = false := by simpa using hqk
              have t1 : (bs s.tn).toList.isEmpty = false := by rw [bs_toL]; simpa using htn
              clear C6' h1 hb1 he hq1 hq2 hq3 hq4 hqk htn sq
              as_aux_lemma =>
                go_wp2_with fail
                refine (C6.o wi HS.o).mono ?_
                rintro e w4 ⟨A2, c2, he, hrow, hs4, _⟩
                have he2 : e = .returned (.agg #[.int .i64 1, .int .i64 (s.seq + 1), .int .i64 q.k, .int .i64 q.k, .string (bs q.tn), .string (bs q.col), .string (bs q.uid), .string (bs q.card), .int .i64 q.ck, .int .i64 q.cv, .slice A2 q.ops.length c2, .int .i64 q.tok, .int .i64 q.most, .int .i64 q.ticks, .int .i64 0]) := he
                subst he2
                obtain ⟨w5, hw5⟩ : ∃ w5, w5 = w4.alloc (.cells #[.int .i64 1, .int .i64 (s.seq + 1), .int .i64 q.k, .int .i64 q.k, .string (bs q.tn), .string (bs q.col), .string (bs q.uid), .string (bs q.card), .int .i64 q.ck, .int .i64 q.cv, .slice A2 q.ops.length c2, .int .i64 q.tok, .int .i64 q.most, .int .i64 q.ticks, .int .i64 0] 61) := ⟨_, rfl⟩
                have HB5 := hd (show Below w4.heap.size w4 w5 by rw [hw5]; exact (Below.refl _ _).alloc (Nat.le_refl _) _)
                have HS5 := hd (hs4.below HB5.o)
                have HT5 := show Blk w5 w4.heap.size 61 _ by rw [hw5]; exact Blk.new _ _ _
                have z0 := HT5.at_ 0 rfl
                have z1 := HT5.at_ 1 rfl
                have z2 := HT5.at_ 2 rfl
                have z3 := HT5.at_ 3 rfl
                have z4 := HT5.at_ 4 rfl
                have z5 := HT5.at_ 5 rfl
                have z6 := HT5.at_ 6 rfl
                have z7 := HT5.at_ 7 rfl
                have z8 := HT5.at_ 8 rfl
                have z9 := HT5.at_ 9 rfl
                have z10 := HT5.at_ 10 rfl
                have z11 := HT5.at_ 11 rfl
                have z12 := HT5.at_ 12 rfl
                have z13 := HT5.at_ 13 rfl
                have z14 := HT5.at_ 14 rfl
                have HW5 := hd hw5
                have HT5' := hd HT5
                have CC := hd (check_calls q A2 c2 w5 (HT.o.below HS5.o.b) ((hrow.below HB5.o).rds) QS.o)
                rw [QC.o] at CC
                clear he hs4 hw5 HT5 hrow C6 y0 y1
                go_upto_region 18 with (fail)
                rw [← HW5.o]
                go_wp2_with fail
                refine CC.o.mono ?_
                rintro e w6 ⟨rfl, hb6⟩
                have HS6 := hd (HS5.o.below hb6)
                have hl6 : w4.heap.size < w5.heap.size := HT5'.o.lt
                have HT6 := HT5'.o.below hb6 hl6
                have x0 := HT6.at_ 0 rfl
                have x1 := HT6.at_ 1 rfl
                have x2 := HT6.at_ 2 rfl
                have x3 := HT6.at_ 3 rfl
                have x4 := HT6.at_ 4 rfl
                have x14 := HT6.at_ 14 rfl
                have C9 := hd (seq_calls w6 g p _ HS6.o.r)
                have C10 := hd (tenant_calls w6 g p _ HS6.o.r)
                clear hb6 HT6 CC z0 z1 z2 z3 z4 z5 z6 z7 z8 z9 z10 z11 z12 z13 z14
                go_wp2_with fail
                refine C9.o.mono ?_
                rintro e w' ⟨rfl, rfl⟩
                go_wp2_with fail
                refine C10.o.mono ?_
                rintro e w' ⟨rfl, rfl⟩
                clear C9 C10 HOK
                go_wp2
                go_roundw
                case rel => exact ⟨k + 1, ⟨s.room, s.buf.drop (frN s.buf), s.closed, s.tn, s.seq + 1, s.broken⟩, by go_num, rfl, rfl, congrArg Value.bool HB1.o.symm, by omega, N3, HS6⟩
                case measure => simp [intOf]; omega
          · rw [show nextS s = (⟨2, s.seq + 1, kindS s, rq0, errS s⟩, ⟨s.room, s.buf.drop (frN s.buf), s.closed, s.tn, s.seq + 1, s.broken⟩) from next_2 h1 he] at N3 C6'
            have C6 := hd C6'
            have HB1 := hd hb1
            rw [hb1]
            have f0 : (errS s == 0) = false := by simpa using he
            generalize errS s = fe at *
            generalize kindS s = ks at *
            clear C6' h1 hb1 he sq
            as_aux_lemma =>
              go_wp2_with fail
              refine (C6.o wi HS.o).mono ?_
              rintro e w4 ⟨A2, c2, he, hrow, hs4, _⟩
              have he2 : e = .returned (.agg #[.int .i64 2, .int .i64 (s.seq + 1), .int .i64 ks, .int .i64 0, .string ⟨#[]⟩, .string ⟨#[]⟩, .string ⟨#[]⟩, .string ⟨#[]⟩, .int .i64 0, .int .i64 0, .slice A2 0 c2, .int .i64 0, .int .i64 0, .int .i64 0, .int .i64 fe]) := he
              subst he2
              obtain ⟨w5, hw5⟩ : ∃ w5, w5 = w4.alloc (.cells #[.int .i64 2, .int .i64 (s.seq + 1), .int .i64 ks, .int .i64 0, .string ⟨#[]⟩, .string ⟨#[]⟩, .string ⟨#[]⟩, .string ⟨#[]⟩, .int .i64 0, .int .i64 0, .slice A2 0 c2, .int .i64 0, .int .i64 0, .int .i64 0, .int .i64 fe] 61) := ⟨_, rfl⟩
              have HB5 := hd (show Below w4.heap.size w4 w5 by rw [hw5]; exact (Below.refl _ _).alloc (Nat.le_refl _) _)
              have HS5 := hd (hs4.below HB5.o)
              have HT5 := show Blk w5 w4.heap.size 61 _ by rw [hw5]; exact Blk.new _ _ _
              have z0 := HT5.at_ 0 rfl
              have z1 := HT5.at_ 1 rfl
              have z2 := HT5.at_ 2 rfl
              have z3 := HT5.at_ 3 rfl
              have z14 := HT5.at_ 14 rfl
              have HW5 := hd hw5
              have C9 := hd (seq_calls w5 g p _ HS5.o.r)
              have C10 := hd (tenant_calls w5 g p _ HS5.o.r)
              clear he hs4 hw5 HT5 hrow C6 y0 y1
              go_upto_region 18 with (fail)
              rw [← HW5.o]
              go_wp2_with fail
              refine C9.o.mono ?_
              rintro e w' ⟨rfl, rfl⟩
              go_wp2_with fail
              refine C10.o.mono ?_
              rintro e w' ⟨rfl, rfl⟩
              clear C9 C10 HOK
              go_wp2
              go_roundw
              case rel => exact ⟨k + 1, ⟨s.room, s.buf.drop (frN s.buf), s.closed, s.tn, s.seq + 1, s.broken⟩, by go_num, rfl, rfl, congrArg Value.bool HB1.o.symm, by omega, N3, HS5⟩
              case measure => simp [intOf]; omega
      · obtain rfl : k = n := by omega
        have hki2 : ¬ (k : Int) < (k : Int) := by omega
        have HB := hd HS.o.b
        clear HS HOK
        go_wp2
        go_ret
        exact ⟨rfl, HB.o⟩
end Go.Proofs.YtogjokofmfpmgaaGreatDoor
