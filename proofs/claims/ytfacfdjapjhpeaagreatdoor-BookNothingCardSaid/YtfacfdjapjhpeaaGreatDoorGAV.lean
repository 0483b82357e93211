/-
  Books: Do, where a List is asked.
-/
import Derived.Test.YtfacfdjapjhpeaaGreatDoorGAU
import Derived.Test.YtfacfdjapjhpeaaGreatDoorGAL
import Derived.Test.YtfacfdjapjhpeaaGreatDoorGAT
set_option linter.unusedVariables false
set_option linter.unusedSimpArgs false
namespace Go.Proofs.YtfacfdjapjhpeaaGreatDoor
open Go.RowKit Go.Lib

attribute [local go_sem] Oper.semAt_some

set_option maxRecDepth 100000 in
set_option maxHeartbeats 8000000 in
theorem bdo_list (w : World) (y : Lay) (b : Nat) (c : Cf) (T0 : Int) (st : BkS) (nm : List UInt8) (q : Rq) (A : Option Addr) (cp : Nat) (h10 : q.k = 10) (her : errB nm q = 0)
    (h : BookR w y b c st) (hok : BkOk c.q T0 st) (hl : st.ts.length ≤ 900000) (ht : Tbs w) (hs : RqS q) (hnm : nm.length ≤ 1000000) (hr : Rds w A q.ops.length 5 (opsE q.ops)) (hnc : q.ops.length ≤ cp) (hof : ∀ z, OfN A q.ops.length z → y.lam z = .no) (hqm : c.q.may = true) :
    Calls Tryz.prog 18 #[.pointer (some ⟨b, 0, none⟩), .string (bs nm), reqV q A cp] w fun e w' => DoR w w' y b c (doB c.q st nm q) e := by
  have hoz := hr.lt
  obtain ⟨w3, hw3⟩ : ∃ w3, w3 = ((w.alloc (.cells (reqE q A cp).toArray 45)).alloc (.cells #[.int .i64 0, .int .i64 0, .int .i64 0, .int .i64 0, .string ⟨#[]⟩, .int .i64 0, .bool false, .slice none 0 0] 39)).alloc (.cells #[.int .i64 q.k, .int .i64 0, .int .i64 0, .int .i64 0, .string ⟨#[]⟩, .int .i64 0, .bool false, .slice none 0 0] 39) := ⟨_, rfl⟩
  have hz1 : (w.alloc (.cells (reqE q A cp).toArray 45)).heap.size = w.heap.size + 1 := by simp
  have hz2 : ((w.alloc (.cells (reqE q A cp).toArray 45)).alloc (.cells #[.int .i64 0, .int .i64 0, .int .i64 0, .int .i64 0, .string ⟨#[]⟩, .int .i64 0, .bool false, .slice none 0 0] 39)).heap.size = w.heap.size + 1 + 1 := by simp
  have hB3 : Below w.heap.size w w3 := by rw [hw3]; exact (((Below.refl _ w).alloc (Nat.le_refl _) _).alloc (by omega) _).alloc (by omega) _
  have hk5 : Blk w3 w.heap.size 45 (reqE q A cp).toArray := by rw [hw3]; exact ((Blk.new _ _ _).alloc _).alloc _
  have hk6 : Blk w3 (w.heap.size + 1) 39 #[.int .i64 0, .int .i64 0, .int .i64 0, .int .i64 0, .string ⟨#[]⟩, .int .i64 0, .bool false, .slice none 0 0] := by rw [hw3]; exact (Blk.new_ _ _ hz1.symm _ _).alloc _
  have hk7 : Blk w3 (w.heap.size + 1 + 1) 39 #[.int .i64 q.k, .int .i64 0, .int .i64 0, .int .i64 0, .string ⟨#[]⟩, .int .i64 0, .bool false, .slice none 0 0] := by rw [hw3]; exact Blk.new_ _ _ hz2.symm _ _
  have C := hd (check_calls q A cp w3 (ht.below hB3) (hr.below hB3) hs)
  have NC := hd (fun W => name_calls (bs nm) (by rw [bs_size]; omega) W)
  have H := hd h
  have HOK := hd hok
  have HW3 := hd hw3
  have HK5 := hd hk5
  have HK6 := hd hk6
  have HK7 := hd hk7
  have HB3 := hd hB3
  have HQ := hd (show ∃ q0 : Rq, q0 = q from ⟨_, rfl⟩)
  have her2 := err_0 her
  have HNB := hd her2.1
  have HCK0 := hd her2.2.1
  have HER := hd her
  clear her her2
  rw [HCK0.o] at C
  simp only [bs_data, HNB.o] at NC
  have HD : Hd (doB c.q st nm q = putB st nm (coreB c.q st.ctr (tenB st.ts nm) q)) := hd (by unfold doB; rw [if_neg (by rw [HER.o]; exact fun h => h rfl)])
  have HRQ := hd hr
  have HNC := hd hnc
  clear hw3 hz1 hz2 hB3 hk6 hk7 h hok ht hs hr hnm hnc
  obtain ⟨k, tn, col, uid, card, ck, cv, ops, tok, most, ticks⟩ := q
  unfold reqV at C ⊢
  simp only [reqE] at hk5 HK5 HW3 C ⊢
  simp only at h10 HD HK7 HER
  subst h10
  have q0 := hk5.at_ 0 rfl; have q1 := hk5.at_ 1 rfl; have q2 := hk5.at_ 2 rfl; have q3 := hk5.at_ 3 rfl; have q4 := hk5.at_ 4 rfl; have q5 := hk5.at_ 5 rfl; have q6 := hk5.at_ 6 rfl; have q7 := hk5.at_ 7 rfl; have q8 := hk5.at_ 8 rfl; have q9 := hk5.at_ 9 rfl; have q10 := hk5.at_ 10 rfl
  clear hk5
  refine (callsIn_wide (n := 5)).1 (callsIn_of_wp_marks Tryz.func18 rfl trivial ((wpIn_wide (n := 5)).2 ?_))
  simp only [Tryz.ntmps18, List.size_toArray, List.length_cons, List.length_nil, Nat.reduceAdd, Nat.reduceSub, Array.replicate_succ, Array.replicate_zero, List.push_toArray, List.append_toArray, List.nil_append, List.cons_append]
  go_upto_region 2 with (fail)
  rw [← HW3.o]
  clear HW3
  go_upto_block 0 with (go_at_call 41; refine C.o.mono ?_; rintro e w4 ⟨rfl, hb4⟩; have HB4 := hd hb4; clear hb4)
  have k0 : w4.cell? ⟨w.heap.size, 0, none⟩ = some (.int .i64 10) := (HK5.o.below HB4.o HK5.o.lt).at_ 0 rfl
  have hp5 := HK5.o.lt
  clear C q0 q1 q2 q3 q4 q5 q6 q7 q8 q9 q10
  go_cut [8] from 21 to 37 (fun s8 wx => s8 = .int .i64 0 ∧ wx = w4)
  case first =>
    go_wp2_with (go_at_call 42; refine (NC.o _).mono ?_; rintro e w' ⟨rfl, rfl⟩)
    go_meet
    exact ⟨rfl, rfl⟩
  case rest =>
    obtain ⟨rfl, hww⟩ := hcut
    have hww2 := hww.symm
    subst hww2
    clear hww
    have HBC : Hd (Below w.heap.size w w4) := hd (HB3.o.trans (HB4.o.mono HB3.o.size))
    have hz3 : w.heap.size + 1 + 1 < w3.heap.size := HK7.o.lt
    have HC5 : Hd (Blk w4 w.heap.size 45 _) := hd (HK5.o.below HB4.o HK5.o.lt)
    have HC6 : Hd (Blk w4 (w.heap.size + 1) 39 #[.int .i64 0, .int .i64 0, .int .i64 0, .int .i64 0, .string ⟨#[]⟩, .int .i64 0, .bool false, .slice none 0 0]) := hd (HK6.o.below HB4.o HK6.o.lt)
    have HC7 : Hd (Blk w4 (w.heap.size + 1 + 1) 39 #[.int .i64 10, .int .i64 0, .int .i64 0, .int .i64 0, .string ⟨#[]⟩, .int .i64 0, .bool false, .slice none 0 0]) := hd (HK7.o.below HB4.o hz3)
    have hz4 := HB4.o.size
    have HZ4 : Hd (w.heap.size + 1 + 1 + 1 ≤ w4.heap.size) := hd (by omega)
    have HNO : Hd (∀ z, w.heap.size ≤ z → y.lam z = .no) := hd (fun z hz => no_of H.o.lt hz)
    clear HB4 HK5 HK6 HK7 HB3 NC
    have HV := hd (H.o.below HBC.o)
    have b9 : w4.cell? ⟨b, 9, none⟩ = some (.pointer (some ⟨y.mb, 0, none⟩)) := HV.o.blk.at_ 9 rfl
    obtain ⟨pt, fl, G, HPT⟩ : ∃ (pt : Option Addr) (fl : Bool), Hd (Calls Tryz.prog 43 #[.pointer (some ⟨y.mb, 0, none⟩), .string (bs nm)] w4 fun e w' => e = .returned (.tuple #[.pointer pt, .bool fl]) ∧ Below w4.heap.size w4 w') ∧ Hd ((fl = true → pt = some ⟨y.tb nm, 0, none⟩ ∧ putM st.ts nm (tenB st.ts nm) = st.ts) ∧ (fl = false → getM st.ts nm = none)) := by
      cases hg : getM st.ts nm with
      | some cs => exact ⟨_, true, hd (tget_some HV.o (by omega) nm cs hg), hd ⟨fun _ => ⟨rfl, by rw [tenB_some hg]; exact putM_self HOK.o.rise hg⟩, (fun h => by cases h)⟩⟩
      | none => exact ⟨_, false, hd (tget_none HV.o (by omega) nm hg), hd ⟨(fun h => by cases h), fun _ => rfl⟩⟩
    go_upto_if 52 with (go_at_call 43; refine G.o.mono ?_; rintro e w5 ⟨rfl, hb5⟩; have HB5 := hd hb5; clear hb5)
    have HV5 := hd (HV.o.below HB5.o)
    go_cut [9, 11, 12] from 53 to 73 (fun s9 _ _ wx => ∃ y' : Lay, s9 = .pointer (some ⟨y'.tb nm, 0, none⟩) ∧ Hd (TenS w4 wx y y' b c st nm))
    case first =>
      clear b9 k0 G
      cases fl with
      | true =>
        obtain ⟨rfl, hs⟩ := HPT.o.1 rfl
        have HS := hd hs
        clear hs
        go_wp2_with fail
        go_meet
        exact ⟨y, rfl, hd ⟨by rw [HS.o]; exact HV5.o, Lay.Sub.refl _ _, Chg.of_below _ HB5.o⟩⟩
      | false =>
        have HG := hd (HPT.o.2 rfl)
        clear HPT
        have c4 : w5.cell? ⟨b, 4, none⟩ = some (.int .i64 c.q.cols) := HV5.o.blk.at_ 4 rfl
        have c5 : w5.cell? ⟨b, 5, none⟩ = some (.int .i64 c.q.cards) := HV5.o.blk.at_ 5 rfl
        have c6 : w5.cell? ⟨b, 6, none⟩ = some (.int .i64 c.q.bytes) := HV5.o.blk.at_ 6 rfl
        have c7 : w5.cell? ⟨b, 7, none⟩ = some (.int .i64 c.q.log) := HV5.o.blk.at_ 7 rfl
        have QN : Hd (Calls Tryz.prog 44 #[.agg #[.int .i64 c.q.cols, .int .i64 c.q.cards, .int .i64 c.q.bytes, .int .i64 c.q.log]] w5 fun e w' => ∃ b, e = .returned (.tuple #[.pointer (some ⟨b, 0, none⟩), .int .i64 0]) ∧ w5.heap.size ≤ b ∧ Blk w' b _ (buE c.q 0 0) ∧ Below w5.heap.size w5 w') := hd (qnew_calls c.q hqm w5)
        go_wp2_with fail
        refine QN.o.mono ?_
        rintro e w6 ⟨bu, rfl, hbu, hkb, hb6⟩
        have HKB := hd hkb
        have HB6 := hd hb6
        clear hb6 hkb c4 c5 c6 c7 QN
        go_wp2_with fail
        refine (omnewEntCp_calls w6 (One w6.heap.size) rfl).mono ?_
        rintro e w7 ⟨rfl, hO7, hb7⟩
        have HO7 := hd hO7
        have HB7 := hd hb7
        clear hO7 hb7
        go_upto_region 15 with (fail)
        obtain ⟨w8, hw8⟩ : ∃ w8, w8 = w7.alloc (.cells #[.pointer (some ⟨w6.heap.size, 0, none⟩), .pointer (some ⟨bu, 0, none⟩)] 110) := ⟨_, rfl⟩
        rw [← hw8]
        have hol := HO7.o.lt
        have hbl := HKB.o.lt
        have h78 : Below w7.heap.size w7 w8 := by rw [hw8]; exact (Below.refl _ w7).alloc (Nat.le_refl _) _
        have h58 : Below w5.heap.size w5 w8 := HB6.o.trans ((HB7.o.trans (h78.mono HB7.o.size)).mono HB6.o.size)
        have HT8 : Hd (Blk w8 w7.heap.size 110 #[.pointer (some ⟨w6.heap.size, 0, none⟩), .pointer (some ⟨bu, 0, none⟩)]) := hd (by rw [hw8]; exact Blk.new _ _ _)
        have hbu8 := (HKB.o.below HB7.o hbl).below h78 (Nat.lt_of_lt_of_le hbl HB7.o.size)
        have HBU8 := hd hbu8
        have HO8 := hd (HO7.o.below h78)
        have HV8 := hd (HV5.o.below h58)
        have H58 := hd h58
        have c9 : w8.cell? ⟨b, 9, none⟩ = some (.pointer (some ⟨y.mb, 0, none⟩)) := HV8.o.blk.at_ 9 rfl
        have hs6 := HB6.o.size
        have hs7 := HB7.o.size
        have HHF : Hd (hasM st.ts nm = false) := hd (by unfold hasM; rw [HG.o]; rfl)
        have HNB : Hd (w7.heap.size ≠ bu ∧ w7.heap.size ≠ w6.heap.size ∧ bu ≠ w6.heap.size ∧ w5.heap.size ≤ w7.heap.size ∧ w5.heap.size ≤ bu ∧ w5.heap.size ≤ w6.heap.size) := hd ⟨by omega, by omega, by omega, by omega, hbu, hs6⟩
        have PT := hd (omputEntTn_new w8 (fun k => y.lam k = .bm) y.mb (ptrs y.tb st.ts) nm w7.heap.size HV8.o.om (by rw [ptrs_len]; omega) (fun z hz => HV8.o.lt z (by have hz : y.lam z = .bm := hz; rw [hz]; exact nofun)) (by rw [ptrs_has]; exact HHF.o))
        clear hw8 hbu8 h78 h58 hol hbl HKB HO7 hs6 hs7
        go_wp2_with fail
        refine PT.o.mono ?_
        rintro e w9 ⟨rfl, hM9, hc9⟩
        have HM9 := hd hM9
        have HC9 := hd hc9
        clear hM9 hc9 PT c9
        go_wp2_with fail
        go_meet
        obtain ⟨r1, r2⟩ := HV5.o.tenant HOK.o.rise HHF.o H58.o HT8.o HBU8.o HO8.o HNB.o.2.2.2.1 HNB.o.2.2.2.2.1 HNB.o.2.2.2.2.2 HNB.o.1 HNB.o.2.1 HNB.o.2.2.1 HC9.o HM9.o
        refine ⟨y.ten w8.heap.size w9.heap.size nm w7.heap.size bu w6.heap.size, ?_, hd ⟨by rw [tenB_none HG.o]; exact r1, fun z hz => (r2 z hz).imp id (fun h => Nat.le_trans HB5.o.size h), ?_⟩⟩
        · show _ = Value.pointer (some ⟨if nm = nm then w7.heap.size else _, 0, none⟩)
          rw [if_pos rfl]
        · exact ((Chg.of_below _ (HB5.o.trans (H58.o.mono HB5.o.size))).trans HC9.o (fun z hz => .inl (by have hz : y.lam z = .bm := hz; rw [hz]; exact nofun)))
    case rest =>
      obtain ⟨y', rfl, HT⟩ := hcut
      obtain ⟨cs, hcs⟩ : ∃ cs, tenB st.ts nm = cs := ⟨_, rfl⟩
      have HCS := hd hcs
      have hbook := HT.o.book
      have ht1 := HOK.o.ten nm
      rw [hcs] at hbook ht1 HD
      have hp1 := putM_spec nm cs HOK.o.rise
      have HV := hd (hbook.open_ hp1.1 (show getM (putM st.ts nm cs) nm = some cs by rw [hp1.2.1, if_pos rfl]))
      have HTN := hd ht1
      have hlow := HOK.o.low
      have hstart := HOK.o.start
      have hhigh := HOK.o.high
      have HY : Hd (y'.lam (w.heap.size + 1) = .no ∧ y'.lam (w.heap.size + 1 + 1) = .no ∧ ∀ z, OfN A ops.length z → y'.lam z = .no) := hd (by
        have h4 := HZ4.o
        exact ⟨sub_no HT.o.sub (HNO.o _ (by omega)) (by omega), sub_no HT.o.sub (HNO.o _ (by omega)) (by omega), fun z hz => sub_no HT.o.sub (hof z hz) (by have := hoz z hz; omega)⟩)
      have hk5 : Blk wc w.heap.size 45 _ := HC5.o.chg HT.o.chg (fun h => h (HNO.o _ (Nat.le_refl _)))
      have HC6 : Hd (Blk wc (w.heap.size + 1) 39 #[.int .i64 0, .int .i64 0, .int .i64 0, .int .i64 0, .string ⟨#[]⟩, .int .i64 0, .bool false, .slice none 0 0]) := hd (HC6.o.chg HT.o.chg (fun h => h (HNO.o _ (by omega))))
      have HC7 : Hd (Blk wc (w.heap.size + 1 + 1) 39 #[.int .i64 10, .int .i64 0, .int .i64 0, .int .i64 0, .string ⟨#[]⟩, .int .i64 0, .bool false, .slice none 0 0]) := hd (HC7.o.chg HT.o.chg (fun h => h (HNO.o _ (by omega))))
      have q0 := hk5.at_ 0 rfl; have q1 := hk5.at_ 1 rfl; have q2 := hk5.at_ 2 rfl; have q3 := hk5.at_ 3 rfl; have q4 := hk5.at_ 4 rfl; have q5 := hk5.at_ 5 rfl; have q6 := hk5.at_ 6 rfl; have q7 := hk5.at_ 7 rfl; have q8 := hk5.at_ 8 rfl; have q9 := hk5.at_ 9 rfl; have q10 := hk5.at_ 10 rfl
      have ql := hk5.lt
      clear hcs hbook ht1 hk5 HV5 HB5 G HPT b9 k0
      have t0 : wc.cell? ⟨y'.tb nm, 0, none⟩ = some (.pointer (some ⟨y'.ob nm, 0, none⟩)) := HV.o.tblk.at_ 0 rfl
      go_wp2_with (go_at_call 48; refine (omallEntCp_calls _ (y'.ob nm)).mono ?_; rintro e w' ⟨rfl, rfl⟩)
      have HDD := HD
      have hcsl : cs.length ≤ 8 := by have := HTN.o.len; have := HOK.o.q.c2; omega
      have bM : Blk ((wc.alloc (.cells #[.pointer (some ⟨y'.ob nm, 0, none⟩)] 106)).alloc (.cells #[.string ⟨#[]⟩] 9)) wc.heap.size 106 #[.pointer (some ⟨y'.ob nm, 0, none⟩)] := (Blk.new _ _ _).alloc _
      have bP : Blk ((wc.alloc (.cells #[.pointer (some ⟨y'.ob nm, 0, none⟩)] 106)).alloc (.cells #[.string ⟨#[]⟩] 9)) (wc.heap.size + 1) 9 #[.string ⟨#[]⟩] := Blk.new_ _ _ (by simp) _ _
      have hB0 : Below wc.heap.size wc ((wc.alloc (.cells #[.pointer (some ⟨y'.ob nm, 0, none⟩)] 106)).alloc (.cells #[.string ⟨#[]⟩] 9)) := ((Below.refl _ wc).alloc (Nat.le_refl _) _).alloc (by simp) _
      have hsz : ((wc.alloc (.cells #[.pointer (some ⟨y'.ob nm, 0, none⟩)] 106)).alloc (.cells #[.string ⟨#[]⟩] 9)).heap.size = wc.heap.size + 2 := by simp
      obtain ⟨W0, hW0⟩ : ∃ W0, ((wc.alloc (.cells #[.pointer (some ⟨y'.ob nm, 0, none⟩)] 106)).alloc (.cells #[.string ⟨#[]⟩] 9)) = W0 := ⟨_, rfl⟩
      rw [hW0] at bM bP hB0 hsz ⊢
      clear hW0 t0
      have hzw := HZ4.o
      have hzc := HT.o.chg.size
      obtain ⟨i0, hi, hz0, hz1, hz2⟩ := info_parts itInfo
      have HI := hd hi
      have HVW := hd (HV.o.below hB0)
      have HD6 : Hd (Blk W0 (w.heap.size + 1) 39 #[.int .i64 0, .int .i64 0, .int .i64 0, .int .i64 0, .string ⟨#[]⟩, .int .i64 0, .bool false, .slice none 0 0]) := hd (HC6.o.below hB0 HC6.o.lt)
      have HD7 : Hd (Blk W0 (w.heap.size + 1 + 1) 39 (rsEnc (rsE 10 0) none 0 0).toArray) := hd (HC7.o.below hB0 HC7.o.lt)
      have HLOW := hd HV.o.lt
      have hT : ∀ z, (((z < wc.heap.size) ∧ z ≠ w.heap.size + 1 + 1) ∨ z = wc.heap.size ∨ z = wc.heap.size + 1) → z < W0.heap.size := fun z hz => by omega
      have HTM : Hd (∀ z, y'.lam z = .tm nm → (((z < wc.heap.size) ∧ z ≠ w.heap.size + 1 + 1) ∨ z = wc.heap.size ∨ z = wc.heap.size + 1)) := hd (fun z hz => .inl ⟨HLOW.o z (by rw [hz]; exact nofun), fun e => by have h2 := HY.o.2.1; rw [← e, hz] at h2; cases h2⟩)
      have HB0 := hd hB0
      have HNEW : Hd (∀ z, W0.heap.size ≤ z → y'.lam z = .no) := hd (fun z hz => by
        cases hl : y'.lam z with
        | no => rfl
        | _ => have := HLOW.o z (by rw [hl]; exact nofun); omega)
      clear q0 q1 q2 q3 q4 q5 q6 q7 q8 q9 q10 hi
      refine (wpIn_wide (n := 5)).1 ?_
      refine wpIn_rangeFunc_ownH rfl (by omega) (gf := 115) (lb := #[.pointer (some ⟨wc.heap.size, 0, none⟩), .pointer (some ⟨wc.heap.size + 1, 0, none⟩)]) rfl trivial (enters_of Tryz.func115 (by kernel_rfl) rfl)
        (cols_stops 3 wc.heap.size (wc.heap.size + 1) (y'.ob nm) (fun z => (((z < wc.heap.size) ∧ z ≠ w.heap.size + 1 + 1) ∨ z = wc.heap.size ∨ z = wc.heap.size + 1)) (fun z => y'.lam z = .tm nm) (y'.cb nm) cs (by omega) W0 bM bP (.inr (.inl rfl)) (.inr (.inr rfl)) HVW.o.tom HTM.o) chgK_t (chgK_b hT) (Below.refl _ _) (fun _ => rfl)
        (fun pre W => (∃ A c, Blk W (w.heap.size + 1 + 1) 39 (rsEnc (rsE 10 0) A pre.length c).toArray ∧ Row W (From W0.heap.size) 63 4 A pre.length c (itsEnc (listB (pre.map (·.1))))) ∧ Blk W (w.heap.size + 1) 39 #[.int .i64 0, .int .i64 0, .int .i64 0, .int .i64 0, .string ⟨#[]⟩, .int .i64 0, .bool false, .slice none 0 0] ∧ Hd (BkV W y' b c st.ctr (putM st.ts nm cs) nm (cs.length : Nat) (bytesT cs) cs) ∧ Chg (One (w.heap.size + 1 + 1)) W0 W)
        (fun _ _ _ => False)
        (fun pre X Y row hs hg hr => by
          obtain ⟨⟨A, c, h1, h2⟩, h3, h4, h5⟩ := hs
          have hgc : Chg (fun z => W0.heap.size ≤ z) X Y := (Chg.refl _ X).grown hg (fun z hz => .inl (hr z hz).1)
          exact ⟨⟨A, c, blk_own h1 hg hr, row_own h2 hg hr⟩, blk_own h3 hg hr, hd (h4.o.chg hgc (fun z hz => HNEW.o z hz)), h5.trans hgc (fun z hz => .inr hz)⟩)
        (fun _ _ _ _ _ hs _ _ => hs)
        ⟨⟨none, 0, HD7.o, Row.nil _ _ _ _⟩, HD6.o, HVW, Chg.refl _ _⟩
        (fun x a' W => a' = { tmps := (.pointer (some ⟨b, 0, none⟩) :: .string (bs nm) :: .agg #[.int .i64 10, .string (bs tn), .string (bs col), .string (bs uid), .string (bs card), .int .i64 ck, .int .i64 cv, .slice A ops.length cp, .int .i64 tok, .int .i64 most, .int .i64 ticks] :: undef :: undef :: .pointer (some ⟨w.heap.size, 0, none⟩) :: .pointer (some ⟨w.heap.size + 1, 0, none⟩) :: .pointer (some ⟨w.heap.size + 1 + 1, 0, none⟩) :: .int .i64 0 :: .pointer (some ⟨y'.tb nm, 0, none⟩) :: .bool fl :: u11 :: u12 :: .string (bs x.1.1) :: .pointer (some ⟨y'.cb nm x.1.1, 0, none⟩) :: undef :: .pointer (some ⟨w.heap.size, 0, none⟩) :: .int .i64 10 :: .agg #[.int .i64 10, .int .i64 0, .int .i64 0, .int .i64 0, .string ⟨#[]⟩, .int .i64 0, .bool false, .slice none 0 0] :: .agg #[.int .i64 10, .string (bs tn), .string (bs col), .string (bs uid), .string (bs card), .int .i64 ck, .int .i64 cv, .slice A ops.length cp, .int .i64 tok, .int .i64 most, .int .i64 ticks] :: .int .i64 0 :: u21 :: u22 :: u23 :: u24 :: u25 :: u26 :: u27 :: u28 :: u29 :: u30 :: u31 :: u32 :: u33 :: u34 :: u35 :: u36 :: .int .i64 0 :: .bool false :: undef :: undef :: undef :: .tuple #[.pointer pt, .bool fl] :: .pointer (some ⟨b, 0, none⟩) :: .pointer (some ⟨b, 0, none⟩) :: .pointer (some ⟨b, 9, none⟩) :: .pointer (some ⟨y.mb, 0, none⟩) :: .string (bs nm) :: .tuple #[.pointer pt, .bool fl] :: .pointer pt :: .bool fl :: .bool fl :: .bool (!fl) :: u53 :: u54 :: u55 :: u56 :: u57 :: u58 :: u59 :: u60 :: u61 :: u62 :: u63 :: u64 :: u65 :: u66 :: u67 :: u68 :: u69 :: u70 :: u71 :: u72 :: .pointer (some ⟨w.heap.size, 0, none⟩) :: .int .i64 10 :: .bool false :: .bool false :: undef :: undef :: undef :: undef :: undef :: .bool true :: .bool true :: .pointer (some ⟨y'.tb nm, 0, none⟩) :: .pointer (some ⟨y'.tb nm, 0, none⟩) :: .pointer (some ⟨y'.tb nm, 0, none⟩) :: .pointer (some ⟨y'.ob nm, 0, none⟩) :: .func (.func 115) #[] #[.pointer (some ⟨wc.heap.size, 0, none⟩), .pointer (some ⟨wc.heap.size + 1, 0, none⟩)] :: .string (bs x.1.1) :: .pointer (some ⟨y'.cb nm x.1.1, 0, none⟩) :: undef :: undef :: undef :: undef :: undef :: undef :: undef :: undef :: undef :: undef :: undef :: undef :: undef :: undef :: undef :: undef :: undef :: undef :: undef :: undef :: undef :: undef :: undef :: undef :: undef :: undef :: undef :: undef :: undef :: undef :: []).toArray, defers := [] })
        (fun x a' _ X Y row hs hg hr => hs)
        ?assign ?body ?done ?stop
      case assign =>
        rintro l pre x W K ⟨⟨A1, c1, h1, h2⟩, h3, h4, h5⟩ hK
        gi_wp2
        exact hK _ _ (KeepsFrom.refl _ _) (Chg.refl _ _) ⟨⟨A1, c1, h1, h2⟩, h3, h4, h5⟩ rfl
      case body =>
        rintro l pre x a' W hl2 ⟨r, hr⟩ ⟨⟨A1, c1, h1, h2⟩, h3, h4, h5⟩ rfl hlt
        have c7 : W.cell? ⟨w.heap.size + 1 + 1, 7, none⟩ = some (.slice A1 pre.length c1) := h1.at_ 7 rfl
        have f7 := h1.frozen 7
        have l7 := h1.lt
        have hcol := h4.o.col _ x.2
        have LC := hd (fun (W' : World) (hb : Below W.heap.size W W') => clatest_calls W' _ (y'.cb nm x.1.1) x.1.2 (hcol.below hb))
        have HH := hd h1
        have HR1 := hd h2
        have HH6 := hd h3
        have HCH := hd h5
        have HZX := hd (show ¬ Of A1 (w.heap.size + 1 + 1) from fun hk => by
          have h6 : W0.heap.size ≤ w.heap.size + 1 + 1 := h2.of_sub _ hk
          omega)
        have hpl : pre.length < 1000000 := by omega
        have HCL := hd (fun z o hz ho => of_cells h2 z o hz ho)
        have HCB := hd (fun o ho => blk_cells h1 o ho)
        clear h1 h2 h3 h5 hcol
        have mixed : Tryz.prog.follows .mixedOrders = true := by kernel_rfl
        gi_wp2_with fail
        refine wpIn_region_any mixed ?_
        change wpAnyIn _ _ _ _ _ _ _ _ _ (World.drew _)
        generalize hWD : World.drew W = WD
        have HWD : Hd (Chg Non W WD) := hd (by rw [← hWD]; exact (Chg.refl Non W).drew)
        have c7' : WD.cell? ⟨w.heap.size + 1 + 1, 7, none⟩ = some (.slice A1 pre.length c1) := by rw [← hWD]; exact c7
        have l7' : w.heap.size + 1 + 1 < WD.heap.size := by rw [← hWD]; exact l7
        have LC := hd (show Calls Tryz.prog _ #[.pointer (some ⟨y'.cb nm x.1.1, 0, none⟩)] WD _ from by rw [← hWD]; exact LC.o _ (bdrewN (Below.refl _ W) 1))
        have HH := hd (show Blk WD (w.heap.size + 1 + 1) 39 _ from by rw [← hWD]; exact HH.o.drew)
        have HR1 := hd (show Row WD (From W0.heap.size) 63 4 A1 pre.length c1 (itsEnc (listB (pre.map (·.1)))) from by rw [← hWD]; exact HR1.o.drew)
        have HWA : Hd (Chg Non W (WD.alloc (.cells #[.string (bs x.1.1), .int .i64 x.1.2.latest, .bool false, .string ⟨#[]⟩] 63))) := hd (HWD.o.alloc _)
        have FIN : Hd (∀ A2 c2 w2, Blk w2 (w.heap.size + 1 + 1) 39 (rsEnc (rsE 10 0) A1 pre.length c1).toArray → Row w2 (Plus (Of A1) (WD.alloc (.cells #[.string (bs x.1.1), .int .i64 x.1.2.latest, .bool false, .string ⟨#[]⟩] 63)).heap.size) 63 4 A2 (pre.length + 1) c2 (itsEnc (listB (pre.map (·.1))) ++ [.string (bs x.1.1), .int .i64 x.1.2.latest, .bool false, .string ⟨#[]⟩]) → Chg (Of A1) (WD.alloc (.cells #[.string (bs x.1.1), .int .i64 x.1.2.latest, .bool false, .string ⟨#[]⟩] 63)) w2 →
            Chg (fun z => Of A1 z ∨ z = w.heap.size + 1 + 1) W (w2.setCell ⟨w.heap.size + 1 + 1, 7, none⟩ (.slice A2 (pre.length + 1) c2)) ∧ (∃ A c, Blk (w2.setCell ⟨w.heap.size + 1 + 1, 7, none⟩ (.slice A2 (pre.length + 1) c2)) (w.heap.size + 1 + 1) 39 (rsEnc (rsE 10 0) A (pre ++ [x]).length c).toArray ∧ Row (w2.setCell ⟨w.heap.size + 1 + 1, 7, none⟩ (.slice A2 (pre.length + 1) c2)) (From W0.heap.size) 63 4 A (pre ++ [x]).length c (itsEnc (listB ((pre ++ [x]).map (·.1)))))) := hd (fun A2 c2 w2 hb hw hc => by
          have hs0 : W0.heap.size ≤ W.heap.size := HCH.o.size
          have hs1 := HWA.o.size
          refine ⟨(HWA.o.mono (fun _ h => h.elim) |>.trans hc (fun z hz => .inl (.inl hz))).setCell (.inl (.inr rfl)) _, A2, c2, ?_, ?_⟩
          · rw [List.length_append, List.length_singleton]
            exact hb.set_ 7 _
          · have e2 : itsEnc (listB ((pre ++ [x]).map (·.1))) = itsEnc (listB (pre.map (·.1))) ++ [.string (bs x.1.1), .int .i64 x.1.2.latest, .bool false, .string ⟨#[]⟩] := by
              simp [itsEnc, itEnc, listB, bs]
            rw [e2, List.length_append, List.length_singleton]
            refine (hw.mono fun z hz => ?_).far (hw.ne_blk hb (by decide)) _
            rcases hz with hz | hz
            · exact HR1.o.of_sub z hz
            · show W0.heap.size ≤ z
              omega)
        have HCELL : Hd (∀ z o, (Of A1 z ∨ z = w.heap.size + 1 + 1) → W.heap[z]? = some o → o.isCells = true) := hd (fun z o hz ho => by
          rcases hz with hz | rfl
          · exact HCL.o z o hz ho
          · exact HCB.o o ho)
        have HGO : Hd (∀ Wf, Chg (fun z => Of A1 z ∨ z = w.heap.size + 1 + 1) W Wf → Chg (fun z => ¬ (((z < wc.heap.size) ∧ z ≠ w.heap.size + 1 + 1) ∨ z = wc.heap.size ∨ z = wc.heap.size + 1)) W Wf ∧ Blk Wf (w.heap.size + 1) 39 #[.int .i64 0, .int .i64 0, .int .i64 0, .int .i64 0, .string ⟨#[]⟩, .int .i64 0, .bool false, .slice none 0 0] ∧ Hd (BkV Wf y' b c st.ctr (putM st.ts nm cs) nm (cs.length : Nat) (bytesT cs) cs) ∧ Chg (One (w.heap.size + 1 + 1)) W0 Wf) := hd (fun Wf hc => by
          have hgt : ∀ z, Of A1 z → W0.heap.size ≤ z := fun z hz => HR1.o.of_sub z hz
          refine ⟨hc.mono (fun z hz ht => ?_), HH6.o.chg hc (fun h => ?_), hd (h4.o.chg hc (fun z hz => ?_)), HCH.o.trans hc (fun z hz => ?_)⟩
          · rcases hz with hz | rfl
            · have := hgt z hz; omega
            · omega
          · rcases h with h | h
            · have := hgt _ h; omega
            · omega
          · rcases hz with hz | rfl
            · exact HNEW.o z (hgt z hz)
            · exact HY.o.2.1
          · rcases hz with hz | rfl
            · exact .inr (hgt z hz)
            · exact .inl rfl)
        clear c7 l7 f7
        refine anyIn_round l (noDef_spec (by kernel_rfl)) _ _ _ _ ?_
        refine wpAnyIn_take (i := 0) (v := ?_) rfl rfl (by kernel_rfl) (by kernel_rfl) (by kernel_rfl) (fun _ _ _ h => h) ⟨Or.inl ⟨by rfl, ?_⟩, fun _ => rfl⟩ ?_
        rotate_left
        · intro W9; go_simp; with_reducible rfl
        refine wpAnyIn_take (i := 2) (v := ?_) rfl rfl (by kernel_rfl) (by kernel_rfl) (by kernel_rfl) (fun _ _ _ h => h) ⟨Or.inl ⟨by rfl, ?_⟩, fun _ => rfl⟩ ?_
        rotate_left
        · intro W9; go_simp; with_reducible rfl
        refine wpAnyIn_take (i := 3) (v := ?_) rfl rfl (by kernel_rfl) (by kernel_rfl) (by kernel_rfl) (fun _ _ _ h => h) ⟨Or.inl ⟨by rfl, ?_⟩, fun _ => rfl⟩ ?_
        rotate_left
        · intro W9; go_simp; with_reducible rfl
        refine wpAnyIn_ready (rs := [1, 4]) (by kernel_rfl) (by simp) ?_
        refine AllReadyIn.cons rfl (fun K hK => ?_) ?_
        · go_simp
          refine hK _ _ ?_
          clear hK K
          refine wpAnyIn_ready (rs := [4]) (by kernel_rfl) (by simp) ?_
          refine AllReadyIn.cons rfl (fun K hK => ?_) ?_
          · go_simp
            refine ⟨trivial, (callsIn_wide.2 LC.o).mono ?_⟩
            rintro e w' ⟨rfl, rfl⟩
            refine hK _ _ ?_
            clear hK K
            refine wpAnyIn_take (i := 5) (v := ?_) rfl rfl (by kernel_rfl) (by kernel_rfl) (by kernel_rfl) (fun _ _ _ h => h) ⟨Or.inl ⟨by rfl, ?_⟩, fun _ => rfl⟩ ?_
            rotate_left
            · intro W9; go_simp; with_reducible rfl
            refine wpAnyIn_ready (rs := [6]) (by kernel_rfl) (by simp) ?_
            refine AllReadyIn.cons rfl (fun K hK => ?_) ?_
            · go_simp
              refine hK _ _ ?_
              clear hK K
              refine wpAnyIn_ready (rs := [7]) (by kernel_rfl) (by simp) ?_
              refine AllReadyIn.cons rfl (fun K hK => ?_) ?_
              · rw [if_pos (by simp [Region.wanted])]
                refine opIn_append_row (.tmp 92) (.tmp 97) 37 rfl (Of A1) 63 i0 (.agg #[.string ⟨#[]⟩, .int .i64 0, .bool false, .string ⟨#[]⟩]) 4 48 Tryz.underlying37 HI.o hz0 hz1 hz2 rfl A1 pre.length c1 (itsEnc (listB (pre.map (·.1)))) rfl (HR1.o.own_.alloc _) ⟨WD.heap.size, 0, none⟩ 1 1 [.string (bs x.1.1), .int .i64 x.1.2.latest, .bool false, .string ⟨#[]⟩] rfl rfl (cells_at (Blk.new_ _ _ rfl _ _) rfl) (itEnc_one ⟨x.1.1, x.1.2.latest, false, []⟩) (by omega) (by unfold maxLen; omega) (by omega) ?_
                intro A2 c2 w2 hown2 hchg2
                refine hK _ _ ?_
                clear hK K
                have hb2 := (HH.o.alloc _).chg hchg2 HZX.o
                have q1 : w2.cell? ⟨w.heap.size + 1 + 1, 7, none⟩ = some (.slice A1 pre.length c1) := hb2.at_ 7 rfl
                have q2 := hb2.frozen 7
                have ql2 := hb2.lt
                have HB2 := hd hb2
                have HW2 := hd hown2
                have HC2 := hd hchg2
                clear hb2 hown2 hchg2
                refine wpAnyIn_take (i := 8) (v := ?_) rfl rfl (by kernel_rfl) (by kernel_rfl) (by kernel_rfl) (fun _ _ _ h => h) ⟨Or.inl ⟨by rfl, ?_⟩, fun _ => rfl⟩ ?_
                rotate_left
                · intro W9; go_simp; with_reducible rfl
                refine wpAnyIn_ready (rs := [9]) (by kernel_rfl) (by simp) ?_
                refine AllReadyIn.cons rfl (fun K hK => ?_) ?_
                · go_simp
                  refine hK _ _ ?_
                  clear hK K
                  refine wpAnyIn_done (by kernel_rfl) ?_ _
                  obtain ⟨g1, g2⟩ := FIN.o _ _ _ HB2.o HW2.o HC2.o
                  obtain ⟨g3, g4, g5, g6⟩ := HGO.o _ g1
                  exact ⟨kf_of_chg g1 HCELL.o, g3, g2, g4, g5, g6⟩
                exact AllReadyIn.nil
              exact AllReadyIn.nil
            exact AllReadyIn.nil
          exact AllReadyIn.nil
        refine AllReadyIn.cons rfl (fun K hK => ?_) ?_
        · go_simp
          refine ⟨trivial, (callsIn_wide.2 LC.o).mono ?_⟩
          rintro e w' ⟨rfl, rfl⟩
          refine hK _ _ ?_
          clear hK K
          refine wpAnyIn_take (i := 5) (v := ?_) rfl rfl (by kernel_rfl) (by kernel_rfl) (by kernel_rfl) (fun _ _ _ h => h) ⟨Or.inl ⟨by rfl, ?_⟩, fun _ => rfl⟩ ?_
          rotate_left
          · intro W9; go_simp; with_reducible rfl
          refine wpAnyIn_ready (rs := [1, 6]) (by kernel_rfl) (by simp) ?_
          refine AllReadyIn.cons rfl (fun K hK => ?_) ?_
          · go_simp
            refine hK _ _ ?_
            clear hK K
            refine wpAnyIn_ready (rs := [6]) (by kernel_rfl) (by simp) ?_
            refine AllReadyIn.cons rfl (fun K hK => ?_) ?_
            · go_simp
              refine hK _ _ ?_
              clear hK K
              refine wpAnyIn_ready (rs := [7]) (by kernel_rfl) (by simp) ?_
              refine AllReadyIn.cons rfl (fun K hK => ?_) ?_
              · rw [if_pos (by simp [Region.wanted])]
                refine opIn_append_row (.tmp 92) (.tmp 97) 37 rfl (Of A1) 63 i0 (.agg #[.string ⟨#[]⟩, .int .i64 0, .bool false, .string ⟨#[]⟩]) 4 48 Tryz.underlying37 HI.o hz0 hz1 hz2 rfl A1 pre.length c1 (itsEnc (listB (pre.map (·.1)))) rfl (HR1.o.own_.alloc _) ⟨WD.heap.size, 0, none⟩ 1 1 [.string (bs x.1.1), .int .i64 x.1.2.latest, .bool false, .string ⟨#[]⟩] rfl rfl (cells_at (Blk.new_ _ _ rfl _ _) rfl) (itEnc_one ⟨x.1.1, x.1.2.latest, false, []⟩) (by omega) (by unfold maxLen; omega) (by omega) ?_
                intro A2 c2 w2 hown2 hchg2
                refine hK _ _ ?_
                clear hK K
                have hb2 := (HH.o.alloc _).chg hchg2 HZX.o
                have q1 : w2.cell? ⟨w.heap.size + 1 + 1, 7, none⟩ = some (.slice A1 pre.length c1) := hb2.at_ 7 rfl
                have q2 := hb2.frozen 7
                have ql2 := hb2.lt
                have HB2 := hd hb2
                have HW2 := hd hown2
                have HC2 := hd hchg2
                clear hb2 hown2 hchg2
                refine wpAnyIn_take (i := 8) (v := ?_) rfl rfl (by kernel_rfl) (by kernel_rfl) (by kernel_rfl) (fun _ _ _ h => h) ⟨Or.inl ⟨by rfl, ?_⟩, fun _ => rfl⟩ ?_
                rotate_left
                · intro W9; go_simp; with_reducible rfl
                refine wpAnyIn_ready (rs := [9]) (by kernel_rfl) (by simp) ?_
                refine AllReadyIn.cons rfl (fun K hK => ?_) ?_
                · go_simp
                  refine hK _ _ ?_
                  clear hK K
                  refine wpAnyIn_done (by kernel_rfl) ?_ _
                  obtain ⟨g1, g2⟩ := FIN.o _ _ _ HB2.o HW2.o HC2.o
                  obtain ⟨g3, g4, g5, g6⟩ := HGO.o _ g1
                  exact ⟨kf_of_chg g1 HCELL.o, g3, g2, g4, g5, g6⟩
                exact AllReadyIn.nil
              exact AllReadyIn.nil
            exact AllReadyIn.nil
          refine AllReadyIn.cons rfl (fun K hK => ?_) ?_
          · go_simp
            refine hK _ _ ?_
            clear hK K
            refine wpAnyIn_ready (rs := [1]) (by kernel_rfl) (by simp) ?_
            refine AllReadyIn.cons rfl (fun K hK => ?_) ?_
            · go_simp
              refine hK _ _ ?_
              clear hK K
              refine wpAnyIn_ready (rs := [7]) (by kernel_rfl) (by simp) ?_
              refine AllReadyIn.cons rfl (fun K hK => ?_) ?_
              · rw [if_pos (by simp [Region.wanted])]
                refine opIn_append_row (.tmp 92) (.tmp 97) 37 rfl (Of A1) 63 i0 (.agg #[.string ⟨#[]⟩, .int .i64 0, .bool false, .string ⟨#[]⟩]) 4 48 Tryz.underlying37 HI.o hz0 hz1 hz2 rfl A1 pre.length c1 (itsEnc (listB (pre.map (·.1)))) rfl (HR1.o.own_.alloc _) ⟨WD.heap.size, 0, none⟩ 1 1 [.string (bs x.1.1), .int .i64 x.1.2.latest, .bool false, .string ⟨#[]⟩] rfl rfl (cells_at (Blk.new_ _ _ rfl _ _) rfl) (itEnc_one ⟨x.1.1, x.1.2.latest, false, []⟩) (by omega) (by unfold maxLen; omega) (by omega) ?_
                intro A2 c2 w2 hown2 hchg2
                refine hK _ _ ?_
                clear hK K
                have hb2 := (HH.o.alloc _).chg hchg2 HZX.o
                have q1 : w2.cell? ⟨w.heap.size + 1 + 1, 7, none⟩ = some (.slice A1 pre.length c1) := hb2.at_ 7 rfl
                have q2 := hb2.frozen 7
                have ql2 := hb2.lt
                have HB2 := hd hb2
                have HW2 := hd hown2
                have HC2 := hd hchg2
                clear hb2 hown2 hchg2
                refine wpAnyIn_take (i := 8) (v := ?_) rfl rfl (by kernel_rfl) (by kernel_rfl) (by kernel_rfl) (fun _ _ _ h => h) ⟨Or.inl ⟨by rfl, ?_⟩, fun _ => rfl⟩ ?_
                rotate_left
                · intro W9; go_simp; with_reducible rfl
                refine wpAnyIn_ready (rs := [9]) (by kernel_rfl) (by simp) ?_
                refine AllReadyIn.cons rfl (fun K hK => ?_) ?_
                · go_simp
                  refine hK _ _ ?_
                  clear hK K
                  refine wpAnyIn_done (by kernel_rfl) ?_ _
                  obtain ⟨g1, g2⟩ := FIN.o _ _ _ HB2.o HW2.o HC2.o
                  obtain ⟨g3, g4, g5, g6⟩ := HGO.o _ g1
                  exact ⟨kf_of_chg g1 HCELL.o, g3, g2, g4, g5, g6⟩
                exact AllReadyIn.nil
              exact AllReadyIn.nil
            exact AllReadyIn.nil
          exact AllReadyIn.nil
        exact AllReadyIn.nil
      case done =>
        rintro D ys W hD hys ⟨⟨A1, c1, h1, h2⟩, h3, h4, h5⟩ hK
        have b0 : W.cell? ⟨w.heap.size + 1 + 1, 0, none⟩ = some (.int .i64 10) := h1.at_ 0 rfl
        have b1 : W.cell? ⟨w.heap.size + 1 + 1, 1, none⟩ = some (.int .i64 0) := h1.at_ 1 rfl
        have b2 : W.cell? ⟨w.heap.size + 1 + 1, 2, none⟩ = some (.int .i64 0) := h1.at_ 2 rfl
        have b3 : W.cell? ⟨w.heap.size + 1 + 1, 3, none⟩ = some (.int .i64 0) := h1.at_ 3 rfl
        have b4 : W.cell? ⟨w.heap.size + 1 + 1, 4, none⟩ = some (.string ⟨#[]⟩) := h1.at_ 4 rfl
        have b5 : W.cell? ⟨w.heap.size + 1 + 1, 5, none⟩ = some (.int .i64 0) := h1.at_ 5 rfl
        have b6 : W.cell? ⟨w.heap.size + 1 + 1, 6, none⟩ = some (.bool false) := h1.at_ 6 rfl
        have b7 : W.cell? ⟨w.heap.size + 1 + 1, 7, none⟩ = some (.slice A1 ys.length c1) := h1.at_ 7 rfl
        have a0 := h3.at_ 0 rfl; have a1 := h3.at_ 1 rfl; have a2 := h3.at_ 2 rfl; have a3 := h3.at_ 3 rfl; have a4 := h3.at_ 4 rfl; have a5 := h3.at_ 5 rfl; have a6 := h3.at_ 6 rfl; have a7 := h3.at_ 7 rfl
        have f0 := h3.frozen 0; have f1 := h3.frozen 1; have f2 := h3.frozen 2; have f3 := h3.frozen 3; have f4 := h3.frozen 4; have f5 := h3.frozen 5; have f6 := h3.frozen 6; have f7 := h3.frozen 7
        have l6 := h3.lt
        have l7 := h1.lt
        have H6 := hd h3
        have HR1 := hd h2
        have HCH := hd h5
        have HK := hd hK
        have HD := hd hD
        have HYS := hd (show ys.map (·.1) = cs from hys)
        have HD2 : Hd (doB c.q st nm ⟨10, tn, col, uid, card, ck, cv, ops, tok, most, ticks⟩ = putB st nm (rsE 10 0, listB cs, st.ctr, cs)) := hd (by rw [HDD.o]; rfl)
        clear h1 h2 h3 h5 hK hD hys
        go_wp2
        obtain ⟨Wf, hWf⟩ : ∃ Wf, Wf = ((((((((W.setCell ⟨w.heap.size + 1, 0, none⟩ (.int .i64 10)).setCell ⟨w.heap.size + 1, 1, none⟩ (.int .i64 0)).setCell ⟨w.heap.size + 1, 2, none⟩ (.int .i64 0)).setCell ⟨w.heap.size + 1, 3, none⟩ (.int .i64 0)).setCell ⟨w.heap.size + 1, 4, none⟩ (.string ⟨#[]⟩)).setCell ⟨w.heap.size + 1, 5, none⟩ (.int .i64 0)).setCell ⟨w.heap.size + 1, 6, none⟩ (.bool false)).setCell ⟨w.heap.size + 1, 7, none⟩ (.slice A1 ys.length c1)) := ⟨_, rfl⟩
        rw [← hWf]
        have hch8 : Chg (One (w.heap.size + 1)) W Wf := by rw [hWf]; exact chg8 _ _ _ _ _ _ _ _
        have hbf : Blk Wf (w.heap.size + 1) 39 #[.int .i64 10, .int .i64 0, .int .i64 0, .int .i64 0, .string ⟨#[]⟩, .int .i64 0, .bool false, .slice A1 ys.length c1] := by rw [hWf]; exact set8 H6.o
        have hDl := HD.o
        have hWs : W0.heap.size ≤ W.heap.size := HCH.o.size
        have hKf : Wf.heap[D]? = some (.deferred (some [])) := (hch8.block D (Array.getElem?_eq_some_iff.1 HK.o).1 (fun h => by have h : D = w.heap.size + 1 := h; omega)).trans HK.o
        obtain ⟨g1, g2⟩ := put_own (o' := .deferred none) hKf rfl
        refine ⟨by simp, .inl ⟨_, _, rfl, run_takeDeferred hKf, ?_⟩⟩
        refine ⟨_, results_cell_row rfl _ _ (w.heap.size + 1) 39 _ _ _ rfl (blk_own hbf g1 g2) rfl rfl rfl, ?_⟩
        rw [HD2.o]
        have hrow := row_own (HR1.o.chg hch8 (fun z hz he => by have h1 : W0.heap.size ≤ z := hz; have he : z = w.heap.size + 1 := he; omega)) g1 g2
        have hgr : Chg (fun z => z = D) Wf (Wf.putObj D (.deferred none)) := (Chg.refl _ Wf).grown g1 (fun z hz => .inl (by injection hz with hz; exact hz.symm))
        have hbk := ((h4.o.chg hch8 (fun z hz => by have hz : z = w.heap.size + 1 := hz; rw [hz]; exact HY.o.1)).chg hgr (fun z hz => HNEW.o z (by omega))).shut rfl rfl
        rw [putM_twice HOK.o.rise] at hbk
        have hnew : ∀ z, Of A1 z → W0.heap.size ≤ z := fun z hz => HR1.o.of_sub z hz
        have hll : (listB cs).length = ys.length := by
          have h1 := congrArg List.length HYS.o
          rw [List.length_map] at h1
          rw [show (listB cs).length = cs.length by simp [listB]]
          exact h1.symm
        have hcc : Chg (fun z => y.lam z ≠ .no) w (Wf.putObj D (.deferred none)) := by
          refine (((((Chg.of_below _ HBC.o).trans HT.o.chg (fun z hz => .inl hz)).then_below HB0.o).trans HCH.o (fun z hz => .inr ?_)).trans hch8 (fun z hz => .inr ?_)).trans hgr (fun z hz => .inr ?_)
          · have hz : z = w.heap.size + 1 + 1 := hz; omega
          · have hz : z = w.heap.size + 1 := hz; omega
          · omega
        refine ⟨⟨A1, c1, y', ?_, ?_, fun z hz => ?_, fun z hz => HNEW.o z (hnew z hz), hbk, fun z hz => (HT.o.sub z hz).imp id (fun h => by omega)⟩, hcc⟩
        · show _ = Ending.returned (.agg (rsEnc (rsE 10 0) A1 (listB cs).length c1).toArray)
          rw [hll]
          rfl
        · show Rds _ A1 (listB cs).length 4 (itsEnc (listB cs))
          rw [hll]
          have hr2 := hrow.rds
          rw [HYS.o] at hr2
          exact hr2
        · have := hnew z hz
          omega
      case stop =>
        rintro D c pre W _ _ h _
        exact h.elim

end Go.Proofs.YtfacfdjapjhpeaaGreatDoor
namespace Go.Proofs.YtfacfdjapjhpeaaGreatDoor
open Go.RowKit Go.Lib

theorem bdo_calls (w : World) (y : Lay) (b : Nat) (c : Cf) (T0 : Int) (st : BkS) (nm : List UInt8) (q : Rq) (A : Option Addr) (cp : Nat)
    (h : BookR w y b c st) (hok : BkOk c.q T0 st) (hl : st.ts.length ≤ 900000) (ht : Tbs w) (hs : RqS q) (hnm : nm.length ≤ 1000000) (hr : Rds w A q.ops.length 5 (opsE q.ops)) (hnc : q.ops.length ≤ cp) (hof : ∀ z, OfN A q.ops.length z → y.lam z = .no) (hqm : c.q.may = true) :
    Calls Tryz.prog 18 #[.pointer (some ⟨b, 0, none⟩), .string (bs nm), reqV q A cp] w fun e w' => DoR w w' y b c (doB c.q st nm q) e := by
  by_cases h1 : errB nm q = 0
  · by_cases h2 : q.k = 10
    · exact bdo_list w y b c T0 st nm q A cp h2 h1 h hok hl ht hs hnm hr hnc hof hqm
    · exact bdo_gen w y b c T0 st nm q A cp (fun _ => h2) h hok hl ht hs hnm hr hnc hof hqm
  · exact bdo_gen w y b c T0 st nm q A cp (fun h => absurd h h1) h hok hl ht hs hnm hr hnc hof hqm

end Go.Proofs.YtfacfdjapjhpeaaGreatDoor
namespace Go.Proofs.YtfacfdjapjhpeaaGreatDoor
open Go.RowKit Go.Lib

/-- What an answer says. -/
structure Toks (c : Int) (cs : ML Cs) (q : Rq) (a : Co) : Prop where
  kind : a.1.kind = q.k
  out : a.1.err = 9 → writesK q.k = true ∧ c = maxTok
  yes : writesK q.k = true → a.1.err = 0 → c ≠ maxTok ∧ a.2.2.1 = c + 1 ∧ a.1.token = c + 1 ∧ a.1.version = if q.k = 4 then c + 1 else 0
  no : ¬ (writesK q.k = true ∧ a.1.err = 0) → a.2.2 = (c, cs)
  bad : a.1.err ≠ 0 → a.1.token = 0 ∧ a.1.version = 0 ∧ a.1.card = [] ∧ a.1.more = false ∧ a.2.1 = []
theorem chkO_9 {s : Cs} {room : Int} {pre : List OpV} {o : OpV} {m g e : Int} (h : chkO s room pre o m g = .inl e) : e = 11 ∨ e = 6 ∨ e = 4 ∨ e = 7 := by
  unfold chkO at h
  by_cases c1 : uidIn pre o.uid = true
  · rw [if_pos c1] at h; have h := Sum.inl.inj h; omega
  · rw [if_neg c1] at h
    by_cases c2 : holdsP o.ck o.cv (hasM s.ml o.uid) (verM s.ml o.uid) = false
    · rw [if_pos c2] at h; have h := Sum.inl.inj h; omega
    · rw [if_neg c2] at h
      by_cases c3 : o.del = true ∧ hasM s.ml o.uid = false
      · rw [if_pos c3] at h; have h := Sum.inl.inj h; omega
      · rw [if_neg c3] at h
        simp only at h
        by_cases c4 : s.most < (if hasM s.ml o.uid = true then m - 1 else m) + (if o.del = true then 0 else 1) ∨ room < (if hasM s.ml o.uid = true then g - ((txtM s.ml o.uid).length : Int) else g) + (if o.del = true then 0 else (o.card.length : Int))
        · rw [if_pos c4] at h; have h := Sum.inl.inj h; omega
        · rw [if_neg c4] at h; cases h
theorem chkG_9 {s : Cs} {room : Int} : ∀ (r pre : List OpV) (m g : Int), (chkG s room pre r m g).2.2 = 0 ∨ (chkG s room pre r m g).2.2 = 11 ∨ (chkG s room pre r m g).2.2 = 6 ∨ (chkG s room pre r m g).2.2 = 4 ∨ (chkG s room pre r m g).2.2 = 7
  | [], _, _, _ => .inl rfl
  | o :: r, pre, m, g => by
    rw [chkG]
    cases h : chkO s room pre o m g with
    | inl e => exact .inr (chkO_9 h)
    | inr p => exact chkG_9 r _ _ _
theorem chk_or (q : Rq) : chk q = 0 ∨ chk q = 12 ∨ chk q = 1 ∨ chk q = 3 := by
  unfold chk
  repeat' split
  all_goals omega
theorem err_or (nm : List UInt8) (q : Rq) : errB nm q = 0 ∨ errB nm q = 12 ∨ errB nm q = 1 ∨ errB nm q = 3 ∨ errB nm q = 10 := by
  unfold errB
  have := chk_or q
  repeat' split
  all_goals omega
theorem toks_err {c : Int} {cs : ML Cs} {q : Rq} {e : Int} (h0 : e ≠ 0) (h9 : e = 9 → writesK q.k = true ∧ c = maxTok) : Toks c cs q (rsE q.k e, [], c, cs) :=
  ⟨rfl, h9, fun _ h => absurd h h0, fun _ => rfl, fun _ => ⟨rfl, rfl, rfl, rfl, rfl⟩⟩
theorem writes_no {k : Int} (h : k = 6 ∨ k = 8 ∨ k = 9 ∨ k = 10) : ¬ writesK k = true := by
  rcases h with rfl | rfl | rfl | rfl <;> decide
theorem sinceF_err (s : Cs) (tok : Int) : (sinceF s tok).2 = 0 ∨ (sinceF s tok).2 = 8 := by
  unfold sinceF
  split
  · rename_i h
    rcases h.choose_spec with ⟨_, h1, _⟩ | ⟨_, _, h1, _⟩ | ⟨_, _, h1, _⟩
    · exact .inl h1
    · exact .inr h1
    · exact .inl h1
  · exact .inl rfl
theorem core_toks (Q : Qt) (c : Int) (cs : ML Cs) {nm : List UInt8} {q : Rq} (he : errB nm q = 0) : Toks c cs q (coreB Q c cs q) := by
    obtain ⟨hn, hq, h1, h11⟩ := err_0 he
    unfold coreB
    by_cases c2 : q.k = 2
    · rw [if_pos c2]
      have hw : writesK q.k = true := by rw [c2]; decide
      unfold createB
      by_cases d1 : hasM cs q.col = true
      · rw [if_pos d1]; exact toks_err (by decide) (fun h => by omega)
      · rw [if_neg d1]
        by_cases d2 : Q.cols ≤ (cs.length : Int)
        · rw [if_pos d2]; exact toks_err (by decide) (fun h => by omega)
        · rw [if_neg d2]
          by_cases d3 : c = maxTok
          · rw [if_pos d3]; exact toks_err (by decide) (fun h => ⟨hw, d3⟩)
          · rw [if_neg d3]
            exact ⟨rfl, (fun h => by cases h), fun _ _ => ⟨d3, rfl, rfl, by rw [if_neg (by omega)]; rfl⟩, fun h => absurd ⟨hw, rfl⟩ h, fun h => absurd rfl h⟩
    · rw [if_neg c2]
      by_cases c10 : q.k = 10
      · rw [if_pos c10]
        have hw := writes_no (k := q.k) (by omega)
        exact ⟨rfl, (fun h => by cases h), fun h => absurd h hw, fun _ => rfl, fun h => absurd rfl h⟩
      · rw [if_neg c10]
        cases hg : getM cs q.col with
        | none => exact toks_err (by decide) (fun h => by omega)
        | some s =>
          simp only
          unfold withinB
          by_cases c3 : q.k = 3
          · rw [if_pos c3]
            have hw : writesK q.k = true := by rw [c3]; decide
            by_cases d : c = maxTok
            · rw [if_pos d]; exact toks_err (by decide) (fun h => ⟨hw, d⟩)
            · rw [if_neg d]
              exact ⟨rfl, (fun h => by cases h), fun _ _ => ⟨d, rfl, rfl, by rw [if_neg (by omega)]; rfl⟩, fun h => absurd ⟨hw, rfl⟩ h, fun h => absurd rfl h⟩
          · rw [if_neg c3]
            by_cases c6 : q.k = 6
            · rw [if_pos c6]
              have hw := writes_no (k := q.k) (by omega)
              split
              · exact ⟨rfl, (fun h => by cases h), fun h => absurd h hw, fun _ => rfl, fun h => absurd rfl h⟩
              · exact toks_err (by decide) (fun h => by omega)
            · rw [if_neg c6]
              by_cases c8 : q.k = 8
              · rw [if_pos c8]
                have hw := writes_no (k := q.k) (by omega)
                have hse := sinceF_err s q.tok
                refine ⟨rfl, fun h => by simp only at h; omega, fun h => absurd h hw, fun _ => rfl, fun h => ?_⟩
                have h : (sinceF s q.tok).2 ≠ 0 := h
                have hp : pageF s q.tok q.most = ([], 0, false) := by unfold pageF pageR; rw [if_neg h]
                simp only [hp]
                exact ⟨trivial, trivial, trivial, trivial, trivial⟩
              · rw [if_neg c8]
                by_cases c9 : q.k = 9
                · rw [if_pos c9]
                  have hw := writes_no (k := q.k) (by omega)
                  split
                  · exact toks_err (by decide) (fun h => by omega)
                  · exact ⟨rfl, (fun h => by cases h), fun h => absurd h hw, fun _ => rfl, fun h => absurd rfl h⟩
                · rw [if_neg c9]
                  have hk := kind_col hq h1 c10 h11
                  have hw : writesK q.k = true := by unfold writesK; simp; omega
                  unfold writeB
                  by_cases d1 : (chkQ Q cs q s).2.2 ≠ 0
                  · rw [if_pos d1]
                    have h9 := chkG_9 (s := s) (room := Q.bytes - bytesT cs) (opsQ q) [] (s.ml.length : Nat) 0
                    refine ⟨rfl, fun h => ?_, fun _ h => absurd h d1, fun _ => rfl, fun _ => ⟨rfl, rfl, rfl, rfl, rfl⟩⟩
                    have h : (chkG s (Q.bytes - bytesT cs) [] (opsQ q) (s.ml.length : Nat) 0).2.2 = 9 := h
                    omega
                  · rw [if_neg d1]
                    by_cases d2 : c = maxTok
                    · rw [if_pos d2]; exact toks_err (by decide) (fun h => ⟨hw, d2⟩)
                    · rw [if_neg d2]
                      exact ⟨rfl, (fun h => by cases h), fun _ _ => ⟨d2, rfl, rfl, rfl⟩, fun h => absurd ⟨hw, rfl⟩ h, fun h => absurd rfl h⟩

end Go.Proofs.YtfacfdjapjhpeaaGreatDoor
namespace Go.Proofs.YtfacfdjapjhpeaaGreatDoor
open Go.RowKit Go.Lib

theorem do_len (Q : Qt) (st : BkS) (nm : List UInt8) (q : Rq) : (doB Q st nm q).2.2.ts.length ≤ st.ts.length + 1 := by
  unfold doB
  split
  · exact Nat.le_succ _
  · exact putM_len _ _ _

/-- A book that a law has made, above what was there. -/
structure BkT (v w : World) (y : Lay) (b : Nat) (c : Cf) (n : Nat) (st : BkS) : Prop where
  r : BookR w y b c st
  ok : BkOk c.q c.start st
  may : c.q.may = true
  len : st.ts.length ≤ n
  up : ∀ k, y.lam k ≠ .no → v.heap.size ≤ k
  b : Below v.heap.size v w
theorem BkT.chg {v w w' : World} {y : Lay} {b : Nat} {c : Cf} {n : Nat} {st : BkS} {T : Nat → Prop} (h : BkT v w y b c n st) (hc : Chg T w w') (h1 : ∀ k, T k → y.lam k = .no) (h2 : ∀ k, T k → v.heap.size ≤ k) : BkT v w' y b c n st :=
  ⟨h.r.chg hc h1, h.ok, h.may, h.len, h.up, h.b.trans (hc.below h2 h.b.size)⟩
theorem BkT.below {v w w' : World} {y : Lay} {b : Nat} {c : Cf} {n : Nat} {st : BkS} (h : BkT v w y b c n st) (hb : Below w.heap.size w w') : BkT v w' y b c n st :=
  ⟨h.r.below hb, h.ok, h.may, h.len, h.up, h.b.trans (hb.mono h.b.size)⟩

/-- What is known behind a request to a law's own book. -/
structure DoT (v w w' : World) (y : Lay) (b : Nat) (c : Cf) (n : Nat) (an : An) (A : Option Addr) (y' : Lay) : Prop where
  it : Rds w' A an.2.1.length 4 (itsEnc an.2.1)
  new : ∀ k, Of A k → w.heap.size ≤ k
  no : ∀ k, Of A k → y'.lam k = .no
  r : BkT v w' y' b c (n + 1) an.2.2
  sub : y.Sub y' w.heap.size
  chg : Chg (fun k => y.lam k ≠ .no) w w'
/-- May be asked. -/
structure RqT (w : World) (y : Lay) (q : Rq) (A : Option Addr) (cp : Nat) : Prop where
  s : RqS q
  r : Rds w A q.ops.length 5 (opsE q.ops)
  cap : q.ops.length ≤ cp
  no : ∀ z, OfN A q.ops.length z → y.lam z = .no
theorem bdo_t (v w : World) (y : Lay) (b : Nat) (c : Cf) (n : Nat) (st : BkS) (nm : List UInt8) (q : Rq) (A : Option Addr) (cp : Nat) (ht : Tbs v) (h : BkT v w y b c n st) (hn : n ≤ 900000) (hnm : nm.length ≤ 1000000) (hq : RqT w y q A cp) :
    Calls Tryz.prog 18 #[.pointer (some ⟨b, 0, none⟩), .string (bs nm), reqV q A cp] w fun e w' => ∃ A' cp' y', e = .returned (.agg (rsEnc (doB c.q st nm q).1 A' (doB c.q st nm q).2.1.length cp').toArray) ∧ DoT v w w' y b c n (doB c.q st nm q) A' y' :=
  (bdo_calls w y b c c.start st nm q A cp h.r h.ok (Nat.le_trans h.len hn) (ht.below h.b) hq.s hnm hq.r hq.cap hq.no h.may).mono fun e w' hr => by
    obtain ⟨⟨A', cp', y', he, hi, hnew, hno, hb, hsub⟩, hc⟩ := hr
    refine ⟨A', cp', y', he, hi, hnew, hno, ⟨hb, do_ok h.ok nm q, h.may, Nat.le_trans (do_len _ _ _ _) (Nat.succ_le_succ h.len), fun k hk => ?_, h.b.trans (hc.below (fun k hk => h.up k hk) h.b.size)⟩, hsub, hc⟩
    rcases hsub k hk with h1 | h1
    · exact h.up k h1
    · exact Nat.le_trans h.b.size h1
theorem bnew_t (v w : World) (c : Cf) (h : c.err = 0) (hs : c.start ≤ maxTok) (hb : Below v.heap.size v w) :
    Calls Tryz.prog 13 #[.agg (cfE c).toArray] w fun e w' => ∃ b y, e = .returned (.tuple #[.pointer (some ⟨b, 0, none⟩), .int .i64 0]) ∧ BkT v w' y b c 0 ⟨c.start, []⟩ ∧ (∀ k, y.lam k ≠ .no → w.heap.size ≤ k) ∧ Below w.heap.size w w' :=
  (bnew_yes c h w).mono fun e w' ⟨b, y, he, hr, hu, hbl⟩ => by
    have hm : c.may = true := by
      unfold Cf.err at h
      by_cases hh : c.may = true
      · exact hh
      · rw [if_neg hh] at h; cases h
    have hq : c.q.may = true := by unfold Cf.may at hm; rw [Bool.and_eq_true] at hm; exact hm.2
    exact ⟨b, y, he, ⟨hr, new_ok hm hs, hq, Nat.le_refl _, fun k hk => Nat.le_trans hb.size (hu k hk), hb.trans (hbl.mono hb.size)⟩, hu, hbl⟩

set_option maxHeartbeats 2000000 in
theorem rquota_calls (q : Qt) (w : World) : Calls Tryz.prog 38 #[.agg (quE q).toArray] w fun e w' => e = .returned (.int .i64 q.err) ∧ Below w.heap.size w w' := by
  have hb := hd ((Below.refl w.heap.size w).alloc (Nat.le_refl _) (.cells (quE q).toArray 23))
  have HA : Hd (q.may = true ↔ (1 ≤ q.cols ∧ q.cols ≤ 8 ∧ 1 ≤ q.cards ∧ q.cards ≤ 16 ∧ 1 ≤ q.bytes ∧ q.bytes ≤ 1048576 ∧ 1 ≤ q.log ∧ q.log ≤ 64)) := hd (by simp [Qt.may, and_assoc])
  have HE : Hd (q.err = if q.may = true then 0 else 12) := hd rfl
  generalize q.may = m at *
  generalize q.err = r at *
  obtain ⟨q1, q2, q3, q4⟩ := q
  simp only [quE] at *
  have HB : Hd (¬ (1 ≤ q1 ∧ q1 ≤ 8 ∧ 1 ≤ q2 ∧ q2 ≤ 16 ∧ 1 ≤ q3 ∧ q3 ≤ 1048576 ∧ 1 ≤ q4 ∧ q4 ≤ 64) → r = 12) := hd (fun h => by rw [HE.o, if_neg (fun hm => h (HA.o.1 hm))])
  have HG : Hd ((1 ≤ q1 ∧ q1 ≤ 8 ∧ 1 ≤ q2 ∧ q2 ≤ 16 ∧ 1 ≤ q3 ∧ q3 ≤ 1048576 ∧ 1 ≤ q4 ∧ q4 ≤ 64) → r = 0) := hd (fun h => by rw [HE.o, if_pos (HA.o.2 h)])
  clear HA HE
  by_cases g1 : q1 < 1
  · have a1 : decide (q1 < 1) = true := by simpa using g1
    have HR : Hd (r = 12) := hd (HB.o (by omega))
    go_enter Tryz.func38, Tryz.ntmps38
    go_wp2
    go_ret
    exact ⟨ret_int HR.o.symm, hb.o⟩
  have a1 : decide (q1 < 1) = false := by simpa using g1
  by_cases g2 : 8 < q1
  · have a2 : decide (8 < q1) = true := by simpa using g2
    have HR : Hd (r = 12) := hd (HB.o (by omega))
    go_enter Tryz.func38, Tryz.ntmps38
    go_wp2
    go_ret
    exact ⟨ret_int HR.o.symm, hb.o⟩
  have a2 : decide (8 < q1) = false := by simpa using g2
  by_cases g3 : q2 < 1
  · have a3 : decide (q2 < 1) = true := by simpa using g3
    have HR : Hd (r = 12) := hd (HB.o (by omega))
    go_enter Tryz.func38, Tryz.ntmps38
    go_wp2
    go_ret
    exact ⟨ret_int HR.o.symm, hb.o⟩
  have a3 : decide (q2 < 1) = false := by simpa using g3
  by_cases g4 : 16 < q2
  · have a4 : decide (16 < q2) = true := by simpa using g4
    have HR : Hd (r = 12) := hd (HB.o (by omega))
    go_enter Tryz.func38, Tryz.ntmps38
    go_wp2
    go_ret
    exact ⟨ret_int HR.o.symm, hb.o⟩
  have a4 : decide (16 < q2) = false := by simpa using g4
  by_cases g5 : q3 < 1
  · have a5 : decide (q3 < 1) = true := by simpa using g5
    have HR : Hd (r = 12) := hd (HB.o (by omega))
    go_enter Tryz.func38, Tryz.ntmps38
    go_wp2
    go_ret
    exact ⟨ret_int HR.o.symm, hb.o⟩
  have a5 : decide (q3 < 1) = false := by simpa using g5
  by_cases g6 : 1048576 < q3
  · have a6 : decide (1048576 < q3) = true := by simpa using g6
    have HR : Hd (r = 12) := hd (HB.o (by omega))
    go_enter Tryz.func38, Tryz.ntmps38
    go_wp2
    go_ret
    exact ⟨ret_int HR.o.symm, hb.o⟩
  have a6 : decide (1048576 < q3) = false := by simpa using g6
  by_cases g7 : q4 < 1
  · have a7 : decide (q4 < 1) = true := by simpa using g7
    have HR : Hd (r = 12) := hd (HB.o (by omega))
    go_enter Tryz.func38, Tryz.ntmps38
    go_wp2
    go_ret
    exact ⟨ret_int HR.o.symm, hb.o⟩
  have a7 : decide (q4 < 1) = false := by simpa using g7
  by_cases g8 : 64 < q4
  · have a8 : decide (64 < q4) = true := by simpa using g8
    have HR : Hd (r = 12) := hd (HB.o (by omega))
    go_enter Tryz.func38, Tryz.ntmps38
    go_wp2
    go_ret
    exact ⟨ret_int HR.o.symm, hb.o⟩
  have a8 : decide (64 < q4) = false := by simpa using g8
  have HR : Hd (r = 0) := hd (HG.o (by omega))
  go_enter Tryz.func38, Tryz.ntmps38
  go_wp2
  go_ret
  exact ⟨ret_int HR.o.symm, hb.o⟩
set_option maxHeartbeats 2000000 in
theorem rconf_calls (c : Cf) (w : World) : Calls Tryz.prog 12 #[.agg (cfE c).toArray] w fun e w' => e = .returned (.int .i64 c.err) ∧ Below w.heap.size w w' := by
  have hb := hd ((Below.refl w.heap.size w).alloc (Nat.le_refl _) (.cells (cfE c).toArray 25))
  have C := hd (rquota_calls c.q (w.alloc (.cells (cfE c).toArray 25)))
  have HA : Hd (c.mayA = true ↔ (1 ≤ c.conns ∧ c.conns ≤ 12 ∧ 0 ≤ c.start ∧ 20006 ≤ c.room ∧ c.room ≤ 40000 ∧ 1 ≤ c.shards ∧ c.shards ≤ 16)) := hd (by simp [Cf.mayA, and_assoc])
  have HB := hd (fun h => cf_bad (c := c) h)
  have HG := hd (fun h => cf_good (c := c) h)
  generalize c.mayA = m at *
  generalize c.err = r at *
  obtain ⟨conns, start, room, shards, q1, q2, q3, q4⟩ := c
  simp only [cfE, quE] at *
  generalize Qt.err ⟨q1, q2, q3, q4⟩ = qe at *
  have fin : Hd (∀ p : Prop, p → ¬ p → r = 12) := hd (fun p h h' => absurd h h')
  by_cases g1 : conns < 1
  · have a1 : decide (conns < 1) = true := by simpa using g1
    have HR : Hd (r = 12) := hd (HB.o (fun h => by have := HA.o.1 h; omega))
    go_enter Tryz.func12, Tryz.ntmps12
    go_wp2
    go_ret
    exact ⟨ret_int HR.o.symm, hb.o⟩
  have a1 : decide (conns < 1) = false := by simpa using g1
  by_cases g2 : 12 < conns
  · have a2 : decide (12 < conns) = true := by simpa using g2
    have HR : Hd (r = 12) := hd (HB.o (fun h => by have := HA.o.1 h; omega))
    go_enter Tryz.func12, Tryz.ntmps12
    go_wp2
    go_ret
    exact ⟨ret_int HR.o.symm, hb.o⟩
  have a2 : decide (12 < conns) = false := by simpa using g2
  by_cases g3 : start < 0
  · have a3 : decide (start < 0) = true := by simpa using g3
    have HR : Hd (r = 12) := hd (HB.o (fun h => by have := HA.o.1 h; omega))
    go_enter Tryz.func12, Tryz.ntmps12
    go_wp2
    go_ret
    exact ⟨ret_int HR.o.symm, hb.o⟩
  have a3 : decide (start < 0) = false := by simpa using g3
  by_cases g4 : room < 20006
  · have a4 : decide (room < 20006) = true := by simpa using g4
    have HR : Hd (r = 12) := hd (HB.o (fun h => by have := HA.o.1 h; omega))
    go_enter Tryz.func12, Tryz.ntmps12
    go_wp2
    go_ret
    exact ⟨ret_int HR.o.symm, hb.o⟩
  have a4 : decide (room < 20006) = false := by simpa using g4
  by_cases g5 : 40000 < room
  · have a5 : decide (40000 < room) = true := by simpa using g5
    have HR : Hd (r = 12) := hd (HB.o (fun h => by have := HA.o.1 h; omega))
    go_enter Tryz.func12, Tryz.ntmps12
    go_wp2
    go_ret
    exact ⟨ret_int HR.o.symm, hb.o⟩
  have a5 : decide (40000 < room) = false := by simpa using g5
  by_cases g6 : shards < 1
  · have a6 : decide (shards < 1) = true := by simpa using g6
    have HR : Hd (r = 12) := hd (HB.o (fun h => by have := HA.o.1 h; omega))
    go_enter Tryz.func12, Tryz.ntmps12
    go_wp2
    go_ret
    exact ⟨ret_int HR.o.symm, hb.o⟩
  have a6 : decide (shards < 1) = false := by simpa using g6
  by_cases g7 : 16 < shards
  · have a7 : decide (16 < shards) = true := by simpa using g7
    have HR : Hd (r = 12) := hd (HB.o (fun h => by have := HA.o.1 h; omega))
    go_enter Tryz.func12, Tryz.ntmps12
    go_wp2
    go_ret
    exact ⟨ret_int HR.o.symm, hb.o⟩
  have a7 : decide (16 < shards) = false := by simpa using g7
  have HR : Hd (r = qe) := hd (HG.o (HA.o.2 (by omega)))
  go_enter Tryz.func12, Tryz.ntmps12
  go_wp2_with fail
  refine C.o.mono ?_
  rintro e w1 ⟨rfl, hbe⟩
  have HB1 := hd (hb.o.trans (hbe.mono hb.o.size))
  clear hbe
  go_wp2_with fail
  go_ret
  exact ⟨ret_int HR.o.symm, HB1.o⟩

end Go.Proofs.YtfacfdjapjhpeaaGreatDoor
namespace Go.Proofs.YtfacfdjapjhpeaaGreatDoor
open Go.RowKit
def fa : Fld := ⟨1, 0, [65, 110, 110]⟩
theorem may_plain {k : Int} {v : List UInt8} (hk : k = 6 ∨ k = 1) (h : cleanT v = v ∧ cleanE v = 0) : MayF ⟨k, 0, v⟩ := by
  have hk3 : ¬ k = 3 := by omega
  have hk4 : ¬ k = 4 := by omega
  have hk5 : ¬ k = 5 := by omega
  refine ⟨?_, ?_⟩
  · show (if okKL k 0 then valE k v else 1) = 0
    rw [if_pos (show okKL k 0 from ⟨by omega, by omega, .inl rfl⟩)]
    unfold valE
    rw [if_neg hk3, if_neg hk4, if_neg (fun h => hk5 h.2.1)]
    exact h.2
  · show valT k v = v
    unfold valT
    rw [if_neg hk3, if_neg hk4]
    exact h.1
theorem fa_may : MayF fa := may_plain (.inr rfl) (clean_plain (by intro c hc; simp at hc; rcases hc with rfl | rfl <;> decide) (by decide) (by decide))
end Go.Proofs.YtfacfdjapjhpeaaGreatDoor
