/-
  Books: Do, its parts: a tenant that is made.
-/
import Derived.Test.YtfacfdjapjhpeaaGreatDoorGAO
import Derived.Test.YtfacfdjapjhpeaaGreatDoorGAT
import Derived.Test.YtfacfdjapjhpeaaGreatDoorGAN
import Derived.Test.YtfacfdjapjhpeaaGreatDoorGAK
import Derived.Test.YtfacfdjapjhpeaaGreatDoorGAE
import Derived.RangeFuncNested
import Derived.RangeFuncBound
import Derived.RangeFuncCalls
import Derived.RangeFuncLeaves
import Derived.Shelf.Abstract
import Derived.Shelf.RegionOpen
import Derived.OwnWalkIn
import Derived.TacticsInMore
import Derived.LoopNIn
import Derived.LoopIn
import Derived.Deep.CutRange
import Derived.Test.YtfacfdjapjhpeaaGreatDoorGAJ
import Derived.Test.YtfacfdjapjhpeaaGreatDoorGAA
set_option linter.unusedVariables false
set_option linter.unusedSimpArgs false
namespace Go.Proofs.YtfacfdjapjhpeaaGreatDoor
open Go.RowKit Go.Lib

/-- What is known behind Do. -/
structure DoR (w w' : World) (y : Lay) (b : Nat) (c : Cf) (an : An) (e : Ending) : Prop where
  ex : ∃ A cp y', e = .returned (.agg (rsEnc an.1 A an.2.1.length cp).toArray) ∧ Rds w' A an.2.1.length 4 (itsEnc an.2.1) ∧ (∀ k, Of A k → w.heap.size ≤ k) ∧ (∀ k, Of A k → y'.lam k = .no) ∧ BookR w' y' b c an.2.2 ∧ y.Sub y' w.heap.size
  chg : Chg (fun k => y.lam k ≠ .no) w w'
/-- Behind the tenant's being there. -/
structure TenS (w wx : World) (y y' : Lay) (b : Nat) (c : Cf) (st : BkS) (nm : List UInt8) : Prop where
  book : BookR wx y' b c ⟨st.ctr, putM st.ts nm (tenB st.ts nm)⟩
  sub : y.Sub y' w.heap.size
  chg : Chg (fun k => y.lam k ≠ .no) w wx
theorem no_of {y : Lay} {w : World} (h : ∀ k, y.lam k ≠ .no → k < w.heap.size) {k : Nat} (hk : w.heap.size ≤ k) : y.lam k = .no := by
  cases hl : y.lam k with
  | no => rfl
  | _ => have := h k (by rw [hl]; exact nofun); omega
theorem sub_no {y y' : Lay} {B k : Nat} (h : y.Sub y' B) (hn : y.lam k = .no) (hk : k < B) : y'.lam k = .no := by
  cases hl : y'.lam k with
  | no => rfl
  | _ =>
    rcases h k (by rw [hl]; exact nofun) with h1 | h1
    · exact absurd hn h1
    · omega

theorem set8 {w : World} {g : Nat} {t : TypeId} {c0 c1 c2 c3 c4 c5 c6 c7 v0 v1 v2 v3 v4 v5 v6 v7 : Value} (h : Blk w g t #[c0, c1, c2, c3, c4, c5, c6, c7]) : Blk ((((((((w.setCell ⟨g, 0, none⟩ v0).setCell ⟨g, 1, none⟩ v1).setCell ⟨g, 2, none⟩ v2).setCell ⟨g, 3, none⟩ v3).setCell ⟨g, 4, none⟩ v4).setCell ⟨g, 5, none⟩ v5).setCell ⟨g, 6, none⟩ v6).setCell ⟨g, 7, none⟩ v7) g t #[v0, v1, v2, v3, v4, v5, v6, v7] := by
  have h0 : Blk (w.setCell ⟨g, 0, none⟩ v0) g t #[v0, c1, c2, c3, c4, c5, c6, c7] := h.set_ 0 v0
  have h1 : Blk ((w.setCell ⟨g, 0, none⟩ v0).setCell ⟨g, 1, none⟩ v1) g t #[v0, v1, c2, c3, c4, c5, c6, c7] := h0.set_ 1 v1
  have h2 : Blk (((w.setCell ⟨g, 0, none⟩ v0).setCell ⟨g, 1, none⟩ v1).setCell ⟨g, 2, none⟩ v2) g t #[v0, v1, v2, c3, c4, c5, c6, c7] := h1.set_ 2 v2
  have h3 : Blk ((((w.setCell ⟨g, 0, none⟩ v0).setCell ⟨g, 1, none⟩ v1).setCell ⟨g, 2, none⟩ v2).setCell ⟨g, 3, none⟩ v3) g t #[v0, v1, v2, v3, c4, c5, c6, c7] := h2.set_ 3 v3
  have h4 : Blk (((((w.setCell ⟨g, 0, none⟩ v0).setCell ⟨g, 1, none⟩ v1).setCell ⟨g, 2, none⟩ v2).setCell ⟨g, 3, none⟩ v3).setCell ⟨g, 4, none⟩ v4) g t #[v0, v1, v2, v3, v4, c5, c6, c7] := h3.set_ 4 v4
  have h5 : Blk ((((((w.setCell ⟨g, 0, none⟩ v0).setCell ⟨g, 1, none⟩ v1).setCell ⟨g, 2, none⟩ v2).setCell ⟨g, 3, none⟩ v3).setCell ⟨g, 4, none⟩ v4).setCell ⟨g, 5, none⟩ v5) g t #[v0, v1, v2, v3, v4, v5, c6, c7] := h4.set_ 5 v5
  have h6 : Blk (((((((w.setCell ⟨g, 0, none⟩ v0).setCell ⟨g, 1, none⟩ v1).setCell ⟨g, 2, none⟩ v2).setCell ⟨g, 3, none⟩ v3).setCell ⟨g, 4, none⟩ v4).setCell ⟨g, 5, none⟩ v5).setCell ⟨g, 6, none⟩ v6) g t #[v0, v1, v2, v3, v4, v5, v6, c7] := h5.set_ 6 v6
  have h7 : Blk ((((((((w.setCell ⟨g, 0, none⟩ v0).setCell ⟨g, 1, none⟩ v1).setCell ⟨g, 2, none⟩ v2).setCell ⟨g, 3, none⟩ v3).setCell ⟨g, 4, none⟩ v4).setCell ⟨g, 5, none⟩ v5).setCell ⟨g, 6, none⟩ v6).setCell ⟨g, 7, none⟩ v7) g t #[v0, v1, v2, v3, v4, v5, v6, v7] := h6.set_ 7 v7
  exact h7
theorem chg8 {w : World} {g : Nat} (v0 v1 v2 v3 v4 v5 v6 v7 : Value) : Chg (One g) w ((((((((w.setCell ⟨g, 0, none⟩ v0).setCell ⟨g, 1, none⟩ v1).setCell ⟨g, 2, none⟩ v2).setCell ⟨g, 3, none⟩ v3).setCell ⟨g, 4, none⟩ v4).setCell ⟨g, 5, none⟩ v5).setCell ⟨g, 6, none⟩ v6).setCell ⟨g, 7, none⟩ v7) :=
  (((((((((Chg.refl (One g) w).setCell (p := ⟨g, 0, none⟩) (.inl rfl) _).setCell (p := ⟨g, 1, none⟩) (.inl rfl) _).setCell (p := ⟨g, 2, none⟩) (.inl rfl) _).setCell (p := ⟨g, 3, none⟩) (.inl rfl) _).setCell (p := ⟨g, 4, none⟩) (.inl rfl) _).setCell (p := ⟨g, 5, none⟩) (.inl rfl) _).setCell (p := ⟨g, 6, none⟩) (.inl rfl) _).setCell (p := ⟨g, 7, none⟩) (.inl rfl) _)
theorem Chg.drop {S : Nat → Prop} {w W : World} {g : Nat} (h : Chg (fun k => S k ∨ k = g) w W) (hg : w.heap.size ≤ g) : Chg S w W :=
  ⟨h.os, h.tape, h.output, h.size, fun k hk hn => h.block k hk (fun hh => hh.elim hn (fun e => by omega))⟩
theorem do_fin {w W W' : World} {y y' : Lay} {b p6 : Nat} {c : Cf} {an : An} {A : Option Addr} {cp : Nat} (hb : BookR W y' b c an.2.2) (hs : y.Sub y' w.heap.size) (hi : Rds W A an.2.1.length 4 (itsEnc an.2.1)) (hA : ∀ k, Of A k → w.heap.size ≤ k ∧ k ≠ p6) (hn : ∀ k, Of A k → y'.lam k = .no) (h6 : y'.lam p6 = .no) (hp6 : w.heap.size ≤ p6) (hc : Chg (One p6) W W') (h0 : Chg (fun k => y.lam k ≠ .no) w W) :
    DoR w W' y b c an (.returned (.agg (rsEnc an.1 A an.2.1.length cp).toArray)) :=
  ⟨⟨A, cp, y', rfl, hi.chg hc (fun k hk e => (hA k hk).2 e), fun k hk => (hA k hk).1, hn, hb.chg hc (fun k hk => by cases hk; exact h6), hs⟩, h0.trans hc (fun k hk => by cases hk; exact .inr hp6)⟩

theorem do_end {w w4 wx w9 W' : World} {y y' : Lay} {b : Nat} {c : Cf} {st : BkS} {nm : List UInt8} {r : Co} {A : Option Addr} {cp : Nat} (HB : Below w.heap.size w w4) (hz : w.heap.size + 1 + 1 + 1 ≤ w4.heap.size) (low : ∀ k, y.lam k ≠ .no → k < w.heap.size) (HT : TenS w4 wx y y' b c st nm) (hr : Rising st.ts)
    (ha : AnsR wx w9 y' b (w.heap.size + 1 + 1) c (putM st.ts nm (tenB st.ts nm)) nm r A cp) (hA : ∀ k, Of A k → wx.heap.size ≤ k) (hc : Chg (One (w.heap.size + 1)) w9 W') : DoR w W' y b c (putB st nm r) (.returned (.agg (rsEnc r.1 A r.2.1.length cp).toArray)) := by
  obtain ⟨y2, h1, h2, h3, h4⟩ := ha.ex
  have hs := HT.chg.size
  have e1 : ∀ z, y'.lam z ≠ .no → y.lam z ≠ .no ∨ w.heap.size ≤ z := fun z hz' => (HT.sub z hz').imp id (fun h => by omega)
  have hsub : y.Sub y2 w.heap.size := fun z hz' => by
    rcases h2 z hz' with h | h
    · exact e1 z h
    · exact .inr (by omega)
  rw [putM_twice hr] at h1
  have n6 : y2.lam (w.heap.size + 1) = .no := sub_no h2 (sub_no HT.sub (no_of low (by omega)) (by omega)) (by omega)
  refine do_fin (an := putB st nm r) h1 hsub ha.its (fun k hk => ⟨by have := hA k hk; omega, by have := hA k hk; omega⟩) h4 n6 (by omega) hc ?_
  refine ((Chg.of_below _ HB).trans HT.chg (fun z hz' => .inl hz')).trans ha.chg (fun z hz' => ?_)
  rcases hz' with h | h
  · exact e1 z h
  · exact .inr (by omega)

set_option maxRecDepth 100000 in
set_option maxHeartbeats 8000000 in
theorem bdo_gen (w : World) (y : Lay) (b : Nat) (c : Cf) (T0 : Int) (st : BkS) (nm : List UInt8) (q : Rq) (A : Option Addr) (cp : Nat) (hno : errB nm q = 0 → q.k ≠ 10)
    (h : BookR w y b c st) (hok : BkOk c.q T0 st) (hl : st.ts.length ≤ 900000) (ht : Tbs w) (hs : RqS q) (hnm : nm.length ≤ 1000000) (hr : Rds w A q.ops.length 5 (opsE q.ops)) (hnc : q.ops.length ≤ cp) (hof : ∀ z, OfN A q.ops.length z → y.lam z = .no) (hqm : c.q.may = true) :
    Calls Tryz.prog 18 #[.pointer (some ⟨b, 0, none⟩), .string (bs nm), reqV q A cp] w fun e w' => DoR w w' y b c (doB c.q st nm q) e := by
  have hoz := hr.lt
  obtain ⟨w3, hw3⟩ : ∃ w3, w3 = ((w.alloc (.cells (reqE q A cp).toArray 45)).alloc (.cells #[.int .i64 0, .int .i64 0, .int .i64 0, .int .i64 0, .string ⟨#[]⟩, .int .i64 0, .bool false, .slice none 0 0] 39)).alloc (.cells #[.int .i64 q.k, .int .i64 0, .int .i64 0, .int .i64 0, .string ⟨#[]⟩, .int .i64 0, .bool false, .slice none 0 0] 39) := ⟨_, rfl⟩
  have hz1 : (w.alloc (.cells (reqE q A cp).toArray 45)).heap.size = w.heap.size + 1 := by simp
  have hz2 : ((w.alloc (.cells (reqE q A cp).toArray 45)).alloc (.cells #[.int .i64 0, .int .i64 0, .int .i64 0, .int .i64 0, .string ⟨#[]⟩, .int .i64 0, .bool false, .slice none 0 0] 39)).heap.size = w.heap.size + 1 + 1 := by simp
  have hB3 : Below w.heap.size w w3 := by rw [hw3]; exact (((Below.refl _ w).alloc (Nat.le_refl _) _).alloc (by omega) _).alloc (by omega) _
  have hk5 : Blk w3 w.heap.size 45 (reqE q A cp).toArray := by rw [hw3]; exact ((Blk.new _ _ _).alloc _).alloc _
  have hk6 : Blk w3 (w.heap.size + 1) 39 #[.int .i64 0, .int .i64 0, .int .i64 0, .int .i64 0, .string ⟨#[]⟩, .int .i64 0, .bool false, .slice none 0 0] := by rw [hw3]; exact (Blk.new_ _ _ hz1.symm _ _).alloc _
  have hk7 : Blk w3 (w.heap.size + 1 + 1) 39 #[.int .i64 q.k, .int .i64 0, .int .i64 0, .int .i64 0, .string ⟨#[]⟩, .int .i64 0, .bool false, .slice none 0 0] := by rw [hw3]; exact Blk.new_ _ _ hz2.symm _ _
  have C := hd (check_calls q A cp w3 (ht.below hB3) (hr.below hB3) hs)
  have NC := hd (fun W => name_calls (bs nm) (by rw [bs_size]; omega) W)
  have HERR : Hd (errB nm q = if nameB nm = false then 3 else if chk q ≠ 0 then chk q else if q.k = 1 ∨ q.k = 11 then 10 else 0) := hd rfl
  have H := hd h
  have HOK := hd hok
  have HW3 := hd hw3
  have HK5 := hd hk5
  have HK6 := hd hk6
  have HK7 := hd hk7
  have HB3 := hd hB3
  have HQ := hd (show ∃ q0 : Rq, q0 = q from ⟨_, rfl⟩)
  obtain ⟨E, hE⟩ : ∃ E, errB nm q = E := ⟨_, rfl⟩
  have HE := hd hE
  obtain ⟨CK, hCK⟩ : ∃ E, chk q = E := ⟨_, rfl⟩
  have HCK := hd hCK
  obtain ⟨NB, hNB⟩ : ∃ E, nameB nm = E := ⟨_, rfl⟩
  rw [hE, hCK, hNB] at HERR
  rw [hCK] at C
  simp only [bs_data, hNB] at NC
  have HDO : Hd (doB c.q st nm q = if E ≠ 0 then (rsE q.k E, [], st) else putB st nm (coreB c.q st.ctr (tenB st.ts nm) q)) := hd (by unfold doB; rw [hE])
  have HRQ := hd hr
  have HNC := hd hnc
  clear hw3 hz1 hz2 hB3 hk6 hk7 h hok hE hCK ht hs hr hnm hNB hnc
  obtain ⟨k, tn, col, uid, card, ck, cv, ops, tok, most, ticks⟩ := q
  unfold reqV at C ⊢
  simp only [reqE] at hk5 HK5 HW3 C ⊢
  simp only at HERR HDO HK7
  have HNO10 := hd hno
  simp only at HNO10
  clear hno
  have q0 := hk5.at_ 0 rfl; have q1 := hk5.at_ 1 rfl; have q2 := hk5.at_ 2 rfl; have q3 := hk5.at_ 3 rfl; have q4 := hk5.at_ 4 rfl; have q5 := hk5.at_ 5 rfl; have q6 := hk5.at_ 6 rfl; have q7 := hk5.at_ 7 rfl; have q8 := hk5.at_ 8 rfl; have q9 := hk5.at_ 9 rfl; have q10 := hk5.at_ 10 rfl
  clear hk5
  go_enter Tryz.func18, Tryz.ntmps18
  go_upto_region 2 with (fail)
  rw [← HW3.o]
  clear HW3
  go_upto_block 0 with (go_at_call 41; refine C.o.mono ?_; rintro e w4 ⟨rfl, hb4⟩; have HB4 := hd hb4; clear hb4)
  have k0 : w4.cell? ⟨w.heap.size, 0, none⟩ = some (.int .i64 k) := (HK5.o.below HB4.o HK5.o.lt).at_ 0 rfl
  have hp5 := HK5.o.lt
  clear C q0 q1 q2 q3 q4 q5 q6 q7 q8 q9 q10
  go_cut [8] from 21 to 37 (fun s8 wx => s8 = .int .i64 E ∧ wx = w4)
  case first =>
    cases NB with
    | false =>
      have HX : Hd (E = 3) := hd (by rw [HERR.o]; rfl)
      go_wp2_with (go_at_call 42; refine (NC.o _).mono ?_; rintro e w' ⟨rfl, rfl⟩)
      go_meet
      exact ⟨by rw [HX.o], rfl⟩
    | true =>
      by_cases hc0 : CK = 0
      · subst hc0
        by_cases hk1 : k = 1
        · have HX : Hd (E = 10) := hd (by rw [HERR.o, if_neg (by decide), if_neg (by decide), if_pos (.inl hk1)])
          subst hk1
          go_wp2_with (go_at_call 42; refine (NC.o _).mono ?_; rintro e w' ⟨rfl, rfl⟩)
          go_meet
          exact ⟨by rw [HX.o], rfl⟩
        · have e1 : (k == 1) = false := by simpa using hk1
          by_cases hk2 : k = 11
          · have HX : Hd (E = 10) := hd (by rw [HERR.o, if_neg (by decide), if_neg (by decide), if_pos (.inr hk2)])
            subst hk2
            go_wp2_with (go_at_call 42; refine (NC.o _).mono ?_; rintro e w' ⟨rfl, rfl⟩)
            go_meet
            exact ⟨by rw [HX.o], rfl⟩
          · have e2 : (k == 11) = false := by simpa using hk2
            have HX : Hd (E = 0) := hd (by rw [HERR.o, if_neg (by decide), if_neg (by decide), if_neg (by omega)])
            clear hk1 hk2
            go_wp2_with (go_at_call 42; refine (NC.o _).mono ?_; rintro e w' ⟨rfl, rfl⟩)
            go_meet
            exact ⟨by rw [HX.o], rfl⟩
      · have HX : Hd (E = CK) := hd (by rw [HERR.o, if_neg (by decide), if_pos hc0])
        have e1 : (CK != 0) = true := by simpa using hc0
        clear hc0
        go_wp2_with (go_at_call 42; refine (NC.o _).mono ?_; rintro e w' ⟨rfl, rfl⟩)
        go_meet
        exact ⟨by rw [HX.o], rfl⟩
  case rest =>
    obtain ⟨rfl, hww⟩ := hcut
    have hww2 := hww.symm
    subst hww2
    clear hww
    have HBC : Hd (Below w.heap.size w w4) := hd (HB3.o.trans (HB4.o.mono HB3.o.size))
    have hz3 : w.heap.size + 1 + 1 < w3.heap.size := HK7.o.lt
    have HC5 : Hd (Blk w4 w.heap.size 45 _) := hd (HK5.o.below HB4.o HK5.o.lt)
    have HC6 : Hd (Blk w4 (w.heap.size + 1) 39 #[.int .i64 0, .int .i64 0, .int .i64 0, .int .i64 0, .string ⟨#[]⟩, .int .i64 0, .bool false, .slice none 0 0]) := hd (HK6.o.below HB4.o HK6.o.lt)
    have HC7 : Hd (Blk w4 (w.heap.size + 1 + 1) 39 #[.int .i64 k, .int .i64 0, .int .i64 0, .int .i64 0, .string ⟨#[]⟩, .int .i64 0, .bool false, .slice none 0 0]) := hd (HK7.o.below HB4.o hz3)
    have hz4 := HB4.o.size
    have HZ4 : Hd (w.heap.size + 1 + 1 + 1 ≤ w4.heap.size) := hd (by omega)
    have HNO : Hd (∀ z, w.heap.size ≤ z → y.lam z = .no) := hd (fun z hz => no_of H.o.lt hz)
    clear HB4 HK5 HK6 HK7 HB3 NC HERR
    by_cases hE0 : E ≠ 0
    · have e1 : (E != 0) = true := by simpa using hE0
      have HD : Hd (doB c.q st nm ⟨k, tn, col, uid, card, ck, cv, ops, tok, most, ticks⟩ = (rsE k E, [], st)) := hd (by rw [HDO.o, if_pos hE0])
      have x1 : w4.cell? ⟨w.heap.size + 1 + 1, 1, none⟩ = some (.int .i64 0) := HC7.o.at_ 1 rfl
      have xf := HC7.o.frozen 1
      have xl := HC7.o.lt
      clear hE0
      go_upto_region 10 with (fail)
      obtain ⟨w5, hw5⟩ : ∃ w5, w5 = w4.setCell ⟨w.heap.size + 1 + 1, 1, none⟩ (.int .i64 E) := ⟨_, rfl⟩
      rw [← hw5]
      have h7 : Blk w5 (w.heap.size + 1 + 1) 39 #[.int .i64 k, .int .i64 E, .int .i64 0, .int .i64 0, .string ⟨#[]⟩, .int .i64 0, .bool false, .slice none 0 0] := by rw [hw5]; exact HC7.o.set_ 1 _
      have h6 : Blk w5 (w.heap.size + 1) 39 #[.int .i64 0, .int .i64 0, .int .i64 0, .int .i64 0, .string ⟨#[]⟩, .int .i64 0, .bool false, .slice none 0 0] := by rw [hw5]; exact HC6.o.far (by show w.heap.size + 1 ≠ w.heap.size + 1 + 1; omega) _
      have HCH : Hd (Chg (One (w.heap.size + 1 + 1)) w4 w5) := hd (by rw [hw5]; exact one_ab w4 _ 1 _)
      have H6 := hd h6
      clear hw5 x1 xf xl
      have b0 := h7.at_ 0 rfl; have b1 := h7.at_ 1 rfl; have b2 := h7.at_ 2 rfl; have b3 := h7.at_ 3 rfl; have b4 := h7.at_ 4 rfl; have b5 := h7.at_ 5 rfl; have b6 := h7.at_ 6 rfl; have b7 := h7.at_ 7 rfl
      have a0 := h6.at_ 0 rfl; have a1 := h6.at_ 1 rfl; have a2 := h6.at_ 2 rfl; have a3 := h6.at_ 3 rfl; have a4 := h6.at_ 4 rfl; have a5 := h6.at_ 5 rfl; have a6 := h6.at_ 6 rfl; have a7 := h6.at_ 7 rfl
      have f0 := h6.frozen 0; have f1 := h6.frozen 1; have f2 := h6.frozen 2; have f3 := h6.frozen 3; have f4 := h6.frozen 4; have f5 := h6.frozen 5; have f6 := h6.frozen 6; have f7 := h6.frozen 7
      have l6 := h6.lt
      have l7 := h7.lt
      clear h6 h7
      go_wp2
      refine bodyPost_ret (results_cell_row rfl _ _ (w.heap.size + 1) 39 _ _ _ rfl (set8 H6.o) rfl rfl rfl) rfl ?_
      rw [HD.o]
      have hb := (H.o.below HBC.o).chg HCH.o (fun z hz => by have hz : z = w.heap.size + 1 + 1 := hz; exact HNO.o z (by omega))
      exact do_fin (A := none) (cp := 0) hb (Lay.Sub.refl _ _) (Row.nil _ (fun _ => True) 39 4).rds (fun _ hk => (Of.none hk).elim) (fun _ hk => (Of.none hk).elim) (HNO.o _ (by omega)) (by omega) (chg8 _ _ _ _ _ _ _ _) ((((Chg.of_below _ HBC.o).trans HCH.o (fun z hz => .inr (by have hz : z = w.heap.size + 1 + 1 := hz; omega))).mono (fun _ h => h)))
    · have e1 : (E != 0) = false := by simpa using hE0
      have hE0 : E = 0 := by omega
      have HD : Hd (doB c.q st nm ⟨k, tn, col, uid, card, ck, cv, ops, tok, most, ticks⟩ = putB st nm (coreB c.q st.ctr (tenB st.ts nm) ⟨k, tn, col, uid, card, ck, cv, ops, tok, most, ticks⟩)) := hd (by rw [HDO.o, if_neg (by omega)])
      have HE0 : Hd (errB nm ⟨k, tn, col, uid, card, ck, cv, ops, tok, most, ticks⟩ = 0) := hd (by rw [HE.o]; exact hE0)
      have h10 : k ≠ 10 := HNO10.o HE0.o
      have e10 : (k == 10) = false := by simpa using h10
      clear hE0
      have HV := hd (H.o.below HBC.o)
      have b9 : w4.cell? ⟨b, 9, none⟩ = some (.pointer (some ⟨y.mb, 0, none⟩)) := HV.o.blk.at_ 9 rfl
      obtain ⟨pt, fl, G, HPT⟩ : ∃ (pt : Option Addr) (fl : Bool), Hd (Calls Tryz.prog 43 #[.pointer (some ⟨y.mb, 0, none⟩), .string (bs nm)] w4 fun e w' => e = .returned (.tuple #[.pointer pt, .bool fl]) ∧ Below w4.heap.size w4 w') ∧ Hd ((fl = true → pt = some ⟨y.tb nm, 0, none⟩ ∧ putM st.ts nm (tenB st.ts nm) = st.ts) ∧ (fl = false → getM st.ts nm = none)) := by
        cases hg : getM st.ts nm with
        | some cs => exact ⟨_, true, hd (tget_some HV.o (by omega) nm cs hg), hd ⟨fun _ => ⟨rfl, by rw [tenB_some hg]; exact putM_self HOK.o.rise hg⟩, (fun h => by cases h)⟩⟩
        | none => exact ⟨_, false, hd (tget_none HV.o (by omega) nm hg), hd ⟨(fun h => by cases h), fun _ => rfl⟩⟩
      go_upto_if 52 with (go_at_call 43; refine G.o.mono ?_; rintro e w5 ⟨rfl, hb5⟩; have HB5 := hd hb5; clear hb5)
      have HV5 := hd (HV.o.below HB5.o)
      go_cut [9, 11, 12] from 53 to 73 (fun s9 _ _ wx => ∃ y' : Lay, s9 = .pointer (some ⟨y'.tb nm, 0, none⟩) ∧ Hd (TenS w4 wx y y' b c st nm))
      case first =>
        clear b9 e1 k0 G
        cases fl with
        | true =>
          obtain ⟨rfl, hs⟩ := HPT.o.1 rfl
          have HS := hd hs
          clear hs
          go_wp2_with fail
          go_meet
          exact ⟨y, rfl, hd ⟨by rw [HS.o]; exact HV5.o, Lay.Sub.refl _ _, Chg.of_below _ HB5.o⟩⟩
        | false =>
          have HG := hd (HPT.o.2 rfl)
          clear HPT
          have c4 : w5.cell? ⟨b, 4, none⟩ = some (.int .i64 c.q.cols) := HV5.o.blk.at_ 4 rfl
          have c5 : w5.cell? ⟨b, 5, none⟩ = some (.int .i64 c.q.cards) := HV5.o.blk.at_ 5 rfl
          have c6 : w5.cell? ⟨b, 6, none⟩ = some (.int .i64 c.q.bytes) := HV5.o.blk.at_ 6 rfl
          have c7 : w5.cell? ⟨b, 7, none⟩ = some (.int .i64 c.q.log) := HV5.o.blk.at_ 7 rfl
          have QN : Hd (Calls Tryz.prog 44 #[.agg #[.int .i64 c.q.cols, .int .i64 c.q.cards, .int .i64 c.q.bytes, .int .i64 c.q.log]] w5 fun e w' => ∃ b, e = .returned (.tuple #[.pointer (some ⟨b, 0, none⟩), .int .i64 0]) ∧ w5.heap.size ≤ b ∧ Blk w' b _ (buE c.q 0 0) ∧ Below w5.heap.size w5 w') := hd (qnew_calls c.q hqm w5)
          go_wp2_with fail
          refine QN.o.mono ?_
          rintro e w6 ⟨bu, rfl, hbu, hkb, hb6⟩
          have HKB := hd hkb
          have HB6 := hd hb6
          clear hb6 hkb c4 c5 c6 c7 QN
          go_wp2_with fail
          refine (omnewEntCp_calls w6 (One w6.heap.size) rfl).mono ?_
          rintro e w7 ⟨rfl, hO7, hb7⟩
          have HO7 := hd hO7
          have HB7 := hd hb7
          clear hO7 hb7
          go_upto_region 15 with (fail)
          obtain ⟨w8, hw8⟩ : ∃ w8, w8 = w7.alloc (.cells #[.pointer (some ⟨w6.heap.size, 0, none⟩), .pointer (some ⟨bu, 0, none⟩)] 110) := ⟨_, rfl⟩
          rw [← hw8]
          have hol := HO7.o.lt
          have hbl := HKB.o.lt
          have h78 : Below w7.heap.size w7 w8 := by rw [hw8]; exact (Below.refl _ w7).alloc (Nat.le_refl _) _
          have h58 : Below w5.heap.size w5 w8 := HB6.o.trans ((HB7.o.trans (h78.mono HB7.o.size)).mono HB6.o.size)
          have HT8 : Hd (Blk w8 w7.heap.size 110 #[.pointer (some ⟨w6.heap.size, 0, none⟩), .pointer (some ⟨bu, 0, none⟩)]) := hd (by rw [hw8]; exact Blk.new _ _ _)
          have hbu8 := (HKB.o.below HB7.o hbl).below h78 (Nat.lt_of_lt_of_le hbl HB7.o.size)
          have HBU8 := hd hbu8
          have HO8 := hd (HO7.o.below h78)
          have HV8 := hd (HV5.o.below h58)
          have H58 := hd h58
          have c9 : w8.cell? ⟨b, 9, none⟩ = some (.pointer (some ⟨y.mb, 0, none⟩)) := HV8.o.blk.at_ 9 rfl
          have hs6 := HB6.o.size
          have hs7 := HB7.o.size
          have HHF : Hd (hasM st.ts nm = false) := hd (by unfold hasM; rw [HG.o]; rfl)
          have HNB : Hd (w7.heap.size ≠ bu ∧ w7.heap.size ≠ w6.heap.size ∧ bu ≠ w6.heap.size ∧ w5.heap.size ≤ w7.heap.size ∧ w5.heap.size ≤ bu ∧ w5.heap.size ≤ w6.heap.size) := hd ⟨by omega, by omega, by omega, by omega, hbu, hs6⟩
          have PT := hd (omputEntTn_new w8 (fun k => y.lam k = .bm) y.mb (ptrs y.tb st.ts) nm w7.heap.size HV8.o.om (by rw [ptrs_len]; omega) (fun z hz => HV8.o.lt z (by have hz : y.lam z = .bm := hz; rw [hz]; exact nofun)) (by rw [ptrs_has]; exact HHF.o))
          clear hw8 hbu8 h78 h58 hol hbl HKB HO7 hs6 hs7
          go_wp2_with fail
          refine PT.o.mono ?_
          rintro e w9 ⟨rfl, hM9, hc9⟩
          have HM9 := hd hM9
          have HC9 := hd hc9
          clear hM9 hc9 PT c9
          go_wp2_with fail
          go_meet
          obtain ⟨r1, r2⟩ := HV5.o.tenant HOK.o.rise HHF.o H58.o HT8.o HBU8.o HO8.o HNB.o.2.2.2.1 HNB.o.2.2.2.2.1 HNB.o.2.2.2.2.2 HNB.o.1 HNB.o.2.1 HNB.o.2.2.1 HC9.o HM9.o
          refine ⟨y.ten w8.heap.size w9.heap.size nm w7.heap.size bu w6.heap.size, ?_, hd ⟨by rw [tenB_none HG.o]; exact r1, fun z hz => (r2 z hz).imp id (fun h => Nat.le_trans HB5.o.size h), ?_⟩⟩
          · show _ = Value.pointer (some ⟨if nm = nm then w7.heap.size else _, 0, none⟩)
            rw [if_pos rfl]
          · exact ((Chg.of_below _ (HB5.o.trans (H58.o.mono HB5.o.size))).trans HC9.o (fun z hz => .inl (by have hz : y.lam z = .bm := hz; rw [hz]; exact nofun)))
      case rest =>
        obtain ⟨y', rfl, HT⟩ := hcut
        obtain ⟨cs, hcs⟩ : ∃ cs, tenB st.ts nm = cs := ⟨_, rfl⟩
        have HCS := hd hcs
        have hbook := HT.o.book
        have ht1 := HOK.o.ten nm
        rw [hcs] at hbook ht1 HD
        have hp1 := putM_spec nm cs HOK.o.rise
        have HV := hd (hbook.open_ hp1.1 (show getM (putM st.ts nm cs) nm = some cs by rw [hp1.2.1, if_pos rfl]))
        have HTN := hd ht1
        have hlow := HOK.o.low
        have hstart := HOK.o.start
        have hhigh := HOK.o.high
        have HY : Hd (y'.lam (w.heap.size + 1) = .no ∧ y'.lam (w.heap.size + 1 + 1) = .no ∧ ∀ z, OfN A ops.length z → y'.lam z = .no) := hd (by
          have h4 := HZ4.o
          exact ⟨sub_no HT.o.sub (HNO.o _ (by omega)) (by omega), sub_no HT.o.sub (HNO.o _ (by omega)) (by omega), fun z hz => sub_no HT.o.sub (hof z hz) (by have := hoz z hz; omega)⟩)
        have hk5 : Blk wc w.heap.size 45 _ := HC5.o.chg HT.o.chg (fun h => h (HNO.o _ (Nat.le_refl _)))
        have HC6 : Hd (Blk wc (w.heap.size + 1) 39 #[.int .i64 0, .int .i64 0, .int .i64 0, .int .i64 0, .string ⟨#[]⟩, .int .i64 0, .bool false, .slice none 0 0]) := hd (HC6.o.chg HT.o.chg (fun h => h (HNO.o _ (by omega))))
        have HC7 : Hd (Blk wc (w.heap.size + 1 + 1) 39 #[.int .i64 k, .int .i64 0, .int .i64 0, .int .i64 0, .string ⟨#[]⟩, .int .i64 0, .bool false, .slice none 0 0]) := hd (HC7.o.chg HT.o.chg (fun h => h (HNO.o _ (by omega))))
        have q0 := hk5.at_ 0 rfl; have q1 := hk5.at_ 1 rfl; have q2 := hk5.at_ 2 rfl; have q3 := hk5.at_ 3 rfl; have q4 := hk5.at_ 4 rfl; have q5 := hk5.at_ 5 rfl; have q6 := hk5.at_ 6 rfl; have q7 := hk5.at_ 7 rfl; have q8 := hk5.at_ 8 rfl; have q9 := hk5.at_ 9 rfl; have q10 := hk5.at_ 10 rfl
        have ql := hk5.lt
        have HRDW : Hd (Rds wc A ops.length 5 (opsE ops)) := hd ((HRQ.o.below HBC.o).chgN HT.o.chg (fun z hz h => h (hof z hz)))
        have HAZ : Hd (∀ z, OfN A ops.length z → z ≠ w.heap.size + 1 + 1) := hd (fun z hz e => by have := hoz z hz; omega)
        clear hcs hbook ht1 hk5 HV5 HB5 G HPT b9 k0
        by_cases hk2 : k = 2
        · subst hk2
          have CR := hd (bcreate_calls wc y' b (w.heap.size + 1 + 1) c st.ctr (putM st.ts nm cs) nm cs ⟨2, tn, col, uid, card, ck, cv, ops, tok, most, ticks⟩ A cp HV.o HOK.o.q (by omega) hhigh HTN.o HC7.o HY.o.2.1)
          have HX : Hd (coreB c.q st.ctr cs ⟨2, tn, col, uid, card, ck, cv, ops, tok, most, ticks⟩ = createB c.q st.ctr cs ⟨2, tn, col, uid, card, ck, cv, ops, tok, most, ticks⟩) := hd (by unfold coreB; rw [if_pos rfl])
          rw [HX.o] at HD
          obtain ⟨r, hr⟩ : ∃ r, createB c.q st.ctr cs ⟨2, tn, col, uid, card, ck, cv, ops, tok, most, ticks⟩ = r := ⟨_, rfl⟩
          rw [hr] at CR HD
          unfold reqV at CR
          simp only [reqE] at CR
          clear hr HX
          go_upto_region 19 with (go_at_call 47; refine CR.o.mono ?_; rintro e w9 ⟨⟨v, rfl⟩, hans⟩; have HANS := hd hans; clear hans)
          have h7 := HANS.o.a
          have h6 : Blk w9 (w.heap.size + 1) 39 #[.int .i64 0, .int .i64 0, .int .i64 0, .int .i64 0, .string ⟨#[]⟩, .int .i64 0, .bool false, .slice none 0 0] := HC6.o.chg HANS.o.chg (fun h => by rcases h with h | h; exact h HY.o.1; omega)
          clear q0 q1 q2 q3 q4 q5 q6 q7 q8 q9 q10 CR
          have HANS' : Hd (AnsR wc w9 y' b (w.heap.size + 1 + 1) c (putM st.ts nm (tenB st.ts nm)) nm r none 0) := hd (by rw [HCS.o]; exact HANS.o)
          have b0 : w9.cell? ⟨w.heap.size + 1 + 1, 0, none⟩ = some (.int .i64 r.1.kind) := h7.at_ 0 rfl
          have b1 : w9.cell? ⟨w.heap.size + 1 + 1, 1, none⟩ = some (.int .i64 r.1.err) := h7.at_ 1 rfl
          have b2 : w9.cell? ⟨w.heap.size + 1 + 1, 2, none⟩ = some (.int .i64 r.1.token) := h7.at_ 2 rfl
          have b3 : w9.cell? ⟨w.heap.size + 1 + 1, 3, none⟩ = some (.int .i64 r.1.version) := h7.at_ 3 rfl
          have b4 : w9.cell? ⟨w.heap.size + 1 + 1, 4, none⟩ = some (.string (bs r.1.card)) := h7.at_ 4 rfl
          have b5 : w9.cell? ⟨w.heap.size + 1 + 1, 5, none⟩ = some (.int .i64 r.1.index) := h7.at_ 5 rfl
          have b6 : w9.cell? ⟨w.heap.size + 1 + 1, 6, none⟩ = some (.bool r.1.more) := h7.at_ 6 rfl
          have b7 : w9.cell? ⟨w.heap.size + 1 + 1, 7, none⟩ = some (.slice none r.2.1.length 0) := h7.at_ 7 rfl
          have a0 := h6.at_ 0 rfl; have a1 := h6.at_ 1 rfl; have a2 := h6.at_ 2 rfl; have a3 := h6.at_ 3 rfl; have a4 := h6.at_ 4 rfl; have a5 := h6.at_ 5 rfl; have a6 := h6.at_ 6 rfl; have a7 := h6.at_ 7 rfl
          have f0 := h6.frozen 0; have f1 := h6.frozen 1; have f2 := h6.frozen 2; have f3 := h6.frozen 3; have f4 := h6.frozen 4; have f5 := h6.frozen 5; have f6 := h6.frozen 6; have f7 := h6.frozen 7
          have l6 := h6.lt
          have l7 := h7.lt
          have H6 := hd h6
          clear h6 h7
          go_wp2
          refine bodyPost_ret (results_cell_row rfl _ _ (w.heap.size + 1) 39 _ _ _ rfl (set8 H6.o) rfl rfl rfl) rfl ?_
          rw [HD.o]
          exact do_end HBC.o HZ4.o H.o.lt HT.o HOK.o.rise HANS'.o (fun _ hk => (Of.none hk).elim) (chg8 _ _ _ _ _ _ _ _)
        · have e2 : (k == 2) = false := by simpa using hk2
          have HCO : Hd (coreB c.q st.ctr cs ⟨k, tn, col, uid, card, ck, cv, ops, tok, most, ticks⟩ = match getM cs col with | none => (rsE k 4, [], st.ctr, cs) | some s => withinB c.q st.ctr cs ⟨k, tn, col, uid, card, ck, cv, ops, tok, most, ticks⟩ s) := hd (by unfold coreB; rw [if_neg hk2, if_neg h10]; rfl)
          have hc8 : cs.length ≤ 8 := by have := HTN.o.len; have := HOK.o.q.c2; omega
          have t0 : wc.cell? ⟨y'.tb nm, 0, none⟩ = some (.pointer (some ⟨y'.ob nm, 0, none⟩)) := HV.o.tblk.at_ 0 rfl
          have q2' : wc.cell? ⟨w.heap.size, 2, none⟩ = some (.string (bs col)) := q2
          obtain ⟨pt2, fl2, G2, HPT2⟩ : ∃ (pt2 : Option Addr) (fl2 : Bool), Hd (Calls Tryz.prog 50 #[.pointer (some ⟨y'.ob nm, 0, none⟩), .string (bs col)] wc.drew fun e w' => e = .returned (.tuple #[.pointer pt2, .bool fl2]) ∧ Below wc.drew.heap.size wc.drew w') ∧ Hd ((fl2 = true → ∃ s, getM cs col = some s ∧ pt2 = some ⟨y'.cb nm col, 0, none⟩) ∧ (fl2 = false → getM cs col = none)) := by
            have ho : OmEntCp wc.drew (fun z => y'.lam z = .tm nm) (y'.ob nm) (ptrs (y'.cb nm) cs) := HV.o.tom.drew
            cases hg : getM cs col with
            | some s => exact ⟨_, true, hd (cpget_some ho (by omega) col s hg), hd ⟨fun _ => ⟨s, rfl, rfl⟩, (fun h => by cases h)⟩⟩
            | none => exact ⟨_, false, hd (cpget_none ho (by omega) col hg), hd ⟨(fun h => by cases h), fun _ => rfl⟩⟩
          have HJ := hd (fun (W : World) (hb : Below wc.drew.heap.size wc.drew W) => ((⟨((HV.o.tblk.drew).below hb HV.o.tblk.lt).at_ 0 rfl, (hb.cell (p := ⟨w.heap.size, 2, none⟩) ql).trans q2'⟩) : W.cell? ⟨y'.tb nm, 0, none⟩ = some (.pointer (some ⟨y'.ob nm, 0, none⟩)) ∧ W.cell? ⟨w.heap.size, 2, none⟩ = some (.string (bs col))))
          have HQ5 := hd (fun (W : World) (hb : Below wc.drew.heap.size wc.drew W) => ((⟨(hb.cell (p := ⟨w.heap.size, 0, none⟩) ql).trans q0, (hb.cell (p := ⟨w.heap.size, 1, none⟩) ql).trans q1, (hb.cell (p := ⟨w.heap.size, 2, none⟩) ql).trans q2, (hb.cell (p := ⟨w.heap.size, 3, none⟩) ql).trans q3, (hb.cell (p := ⟨w.heap.size, 4, none⟩) ql).trans q4, (hb.cell (p := ⟨w.heap.size, 5, none⟩) ql).trans q5, (hb.cell (p := ⟨w.heap.size, 6, none⟩) ql).trans q6, (hb.cell (p := ⟨w.heap.size, 7, none⟩) ql).trans q7, (hb.cell (p := ⟨w.heap.size, 8, none⟩) ql).trans q8, (hb.cell (p := ⟨w.heap.size, 9, none⟩) ql).trans q9, (hb.cell (p := ⟨w.heap.size, 10, none⟩) ql).trans q10⟩) : W.cell? ⟨w.heap.size, 0, none⟩ = some (.int .i64 k) ∧ W.cell? ⟨w.heap.size, 1, none⟩ = some (.string (bs tn)) ∧ W.cell? ⟨w.heap.size, 2, none⟩ = some (.string (bs col)) ∧ W.cell? ⟨w.heap.size, 3, none⟩ = some (.string (bs uid)) ∧ W.cell? ⟨w.heap.size, 4, none⟩ = some (.string (bs card)) ∧ W.cell? ⟨w.heap.size, 5, none⟩ = some (.int .i64 ck) ∧ W.cell? ⟨w.heap.size, 6, none⟩ = some (.int .i64 cv) ∧ W.cell? ⟨w.heap.size, 7, none⟩ = some (.slice A ops.length cp) ∧ W.cell? ⟨w.heap.size, 8, none⟩ = some (.int .i64 tok) ∧ W.cell? ⟨w.heap.size, 9, none⟩ = some (.int .i64 most) ∧ W.cell? ⟨w.heap.size, 10, none⟩ = some (.int .i64 ticks)))
          clear q1 q2 q3 q4 q5 q6 q7 q8 q9 q10
          go_wp2_with fail
          go_region_held3 (fun w' => w'.cell? ⟨y'.tb nm, 0, none⟩ = some (.pointer (some ⟨y'.ob nm, 0, none⟩)) ∧ w'.cell? ⟨w.heap.size, 2, none⟩ = some (.string (bs col))) (first | go_keep | (with_reducible exact ⟨t0, q2'⟩) | (with_reducible exact ⟨j0, j2⟩)) (first
            | (go_at_call 50; with_reducible refine G2.o.mono ?_; rintro e w8 ⟨rfl, hb8⟩; have HB8 := hd hb8; have j0 := (HJ.o _ hb8).1; have j2 := (HJ.o _ hb8).2; clear hb8))
          have HBW8 : Hd (Below wc.heap.size wc w8) := hd ⟨HB8.o.os, HB8.o.tape, HB8.o.output, HB8.o.size, HB8.o.block⟩
          have HV8 := hd (HV.o.below HBW8.o)
          have HE7 : Hd (Blk w8 (w.heap.size + 1 + 1) 39 #[.int .i64 k, .int .i64 0, .int .i64 0, .int .i64 0, .string ⟨#[]⟩, .int .i64 0, .bool false, .slice none 0 0]) := hd (HC7.o.below HBW8.o HC7.o.lt)
          have HE6 : Hd (Blk w8 (w.heap.size + 1) 39 #[.int .i64 0, .int .i64 0, .int .i64 0, .int .i64 0, .string ⟨#[]⟩, .int .i64 0, .bool false, .slice none 0 0]) := hd (HC6.o.below HBW8.o HC6.o.lt)
          have HQ58 := hd (HQ5.o w8 HB8.o)
          clear q0 t0 q2' j0 j2 HJ HQ5 G2 ql
          cases fl2 with
          | false =>
            have HG := HPT2.o.2 rfl
            rw [HG] at HCO
            simp only at HCO
            rw [HCO.o] at HD
            have x1 := HE7.o.at_ 1 rfl
            have xf := HE7.o.frozen 1
            have xl := HE7.o.lt
            clear HG HPT2 HCO HQ58
            go_upto_region 29 with (fail)
            obtain ⟨w9, hw9⟩ : ∃ w9, w9 = w8.setCell ⟨w.heap.size + 1 + 1, 1, none⟩ (.int .i64 4) := ⟨_, rfl⟩
            rw [← hw9]
            obtain ⟨R, hRr⟩ : ∃ R : Co, R = (rsE k 4, [], st.ctr, cs) := ⟨_, rfl⟩
            have h7 : Blk w9 (w.heap.size + 1 + 1) 39 (rsEnc R.1 none R.2.1.length 0).toArray := by rw [hw9, hRr]; exact HE7.o.set_ 1 _
            have h6 : Blk w9 (w.heap.size + 1) 39 #[.int .i64 0, .int .i64 0, .int .i64 0, .int .i64 0, .string ⟨#[]⟩, .int .i64 0, .bool false, .slice none 0 0] := by rw [hw9]; exact HE6.o.far (by show w.heap.size + 1 ≠ w.heap.size + 1 + 1; omega) _
            have HANS' : Hd (AnsR wc w9 y' b (w.heap.size + 1 + 1) c (putM st.ts nm (tenB st.ts nm)) nm R none 0) := hd (by
              rw [HCS.o]
              have hch : Chg (One (w.heap.size + 1 + 1)) w8 w9 := by rw [hw9]; exact one_ab w8 _ 1 _
              have hv := HV8.o.chg hch (fun z hz => by cases hz; exact HY.o.2.1)
              refine ans_mk (by rw [hRr]) (by rw [hRr]; exact hv.shut rfl rfl) (Lay.Sub.refl _ _) HY.o.2.1 (by have h8 := h7; rw [show R.2.1.length = 0 by rw [hRr]; rfl] at h8; exact h8) (((Chg.of_below _ HBW8.o)).trans hch (fun z hz => .inl (.inr hz))))
            rw [← hRr] at HD
            clear hw9 hRr x1 xf xl
            have b0 : w9.cell? ⟨w.heap.size + 1 + 1, 0, none⟩ = some (.int .i64 R.1.kind) := h7.at_ 0 rfl
            have b1 : w9.cell? ⟨w.heap.size + 1 + 1, 1, none⟩ = some (.int .i64 R.1.err) := h7.at_ 1 rfl
            have b2 : w9.cell? ⟨w.heap.size + 1 + 1, 2, none⟩ = some (.int .i64 R.1.token) := h7.at_ 2 rfl
            have b3 : w9.cell? ⟨w.heap.size + 1 + 1, 3, none⟩ = some (.int .i64 R.1.version) := h7.at_ 3 rfl
            have b4 : w9.cell? ⟨w.heap.size + 1 + 1, 4, none⟩ = some (.string (bs R.1.card)) := h7.at_ 4 rfl
            have b5 : w9.cell? ⟨w.heap.size + 1 + 1, 5, none⟩ = some (.int .i64 R.1.index) := h7.at_ 5 rfl
            have b6 : w9.cell? ⟨w.heap.size + 1 + 1, 6, none⟩ = some (.bool R.1.more) := h7.at_ 6 rfl
            have b7 : w9.cell? ⟨w.heap.size + 1 + 1, 7, none⟩ = some (.slice none R.2.1.length 0) := h7.at_ 7 rfl
            have a0 := h6.at_ 0 rfl; have a1 := h6.at_ 1 rfl; have a2 := h6.at_ 2 rfl; have a3 := h6.at_ 3 rfl; have a4 := h6.at_ 4 rfl; have a5 := h6.at_ 5 rfl; have a6 := h6.at_ 6 rfl; have a7 := h6.at_ 7 rfl
            have f0 := h6.frozen 0; have f1 := h6.frozen 1; have f2 := h6.frozen 2; have f3 := h6.frozen 3; have f4 := h6.frozen 4; have f5 := h6.frozen 5; have f6 := h6.frozen 6; have f7 := h6.frozen 7
            have l6 := h6.lt
            have l7 := h7.lt
            have H6 := hd h6
            clear h6 h7
            go_wp2
            refine bodyPost_ret (results_cell_row rfl _ _ (w.heap.size + 1) 39 _ _ _ rfl (set8 H6.o) rfl rfl rfl) rfl ?_
            rw [HD.o]
            exact do_end HBC.o HZ4.o H.o.lt HT.o HOK.o.rise HANS'.o (fun _ hk => (Of.none hk).elim) (chg8 _ _ _ _ _ _ _ _)
          | true =>
            obtain ⟨s, hgs, rfl⟩ := HPT2.o.1 rfl
            rw [hgs] at HCO
            simp only at HCO
            rw [HCO.o] at HD
            have hkc := err_0 HE0.o
            have hkk := kind_col hkc.2.1 hkc.2.2.1 h10 hkc.2.2.2
            have WI := hd (bwithin_calls w8 y' b (w.heap.size + 1 + 1) c st.ctr (putM st.ts nm cs) nm cs ⟨k, tn, col, uid, card, ck, cv, ops, tok, most, ticks⟩ A cp s HV8.o HOK.o.q (by omega) hhigh HTN.o hgs HE7.o HY.o.2.1 hkc.2.1 hkk hk2 (HRDW.o.below HBW8.o) HNC.o HY.o.2.2 HAZ.o)
            obtain ⟨R, hRr⟩ : ∃ R, withinB c.q st.ctr cs ⟨k, tn, col, uid, card, ck, cv, ops, tok, most, ticks⟩ s = R := ⟨_, rfl⟩
            rw [hRr] at WI HD
            unfold reqV at WI
            simp only [reqE] at WI
            obtain ⟨z0, z1, z2, z3, z4, z5, z6, z7, z8, z9, z10⟩ := HQ58.o
            have zl : w.heap.size < w8.heap.size := Nat.lt_trans (by omega) HE7.o.lt
            clear hRr hgs HPT2 HCO HQ58 hkc hkk
            go_upto_region 31 with (go_at_call 51; refine WI.o.mono ?_; rintro e w9 ⟨⟨v, rfl⟩, hans⟩; have HANS := hd hans; clear hans)
            obtain ⟨A', cp', hans, hA'⟩ := HANS.o.ex
            have h7 := hans.a
            have h6 : Blk w9 (w.heap.size + 1) 39 #[.int .i64 0, .int .i64 0, .int .i64 0, .int .i64 0, .string ⟨#[]⟩, .int .i64 0, .bool false, .slice none 0 0] := HE6.o.chg hans.chg (fun h => by rcases h with h | h; exact h HY.o.1; omega)
            have HANS' : Hd (AnsR wc w9 y' b (w.heap.size + 1 + 1) c (putM st.ts nm (tenB st.ts nm)) nm R A' cp') := hd (by rw [HCS.o]; exact hans.from HBW8.o)
            have HAA := hd (fun z hz => Nat.le_trans HBW8.o.size (hA' z hz))
            clear z0 z1 z2 z3 z4 z5 z6 z7 z8 z9 z10 zl WI hans hA'
            have b0 : w9.cell? ⟨w.heap.size + 1 + 1, 0, none⟩ = some (.int .i64 R.1.kind) := h7.at_ 0 rfl
            have b1 : w9.cell? ⟨w.heap.size + 1 + 1, 1, none⟩ = some (.int .i64 R.1.err) := h7.at_ 1 rfl
            have b2 : w9.cell? ⟨w.heap.size + 1 + 1, 2, none⟩ = some (.int .i64 R.1.token) := h7.at_ 2 rfl
            have b3 : w9.cell? ⟨w.heap.size + 1 + 1, 3, none⟩ = some (.int .i64 R.1.version) := h7.at_ 3 rfl
            have b4 : w9.cell? ⟨w.heap.size + 1 + 1, 4, none⟩ = some (.string (bs R.1.card)) := h7.at_ 4 rfl
            have b5 : w9.cell? ⟨w.heap.size + 1 + 1, 5, none⟩ = some (.int .i64 R.1.index) := h7.at_ 5 rfl
            have b6 : w9.cell? ⟨w.heap.size + 1 + 1, 6, none⟩ = some (.bool R.1.more) := h7.at_ 6 rfl
            have b7 : w9.cell? ⟨w.heap.size + 1 + 1, 7, none⟩ = some (.slice A' R.2.1.length cp') := h7.at_ 7 rfl
            have a0 := h6.at_ 0 rfl; have a1 := h6.at_ 1 rfl; have a2 := h6.at_ 2 rfl; have a3 := h6.at_ 3 rfl; have a4 := h6.at_ 4 rfl; have a5 := h6.at_ 5 rfl; have a6 := h6.at_ 6 rfl; have a7 := h6.at_ 7 rfl
            have f0 := h6.frozen 0; have f1 := h6.frozen 1; have f2 := h6.frozen 2; have f3 := h6.frozen 3; have f4 := h6.frozen 4; have f5 := h6.frozen 5; have f6 := h6.frozen 6; have f7 := h6.frozen 7
            have l6 := h6.lt
            have l7 := h7.lt
            have H6 := hd h6
            clear h6 h7
            go_wp2
            refine bodyPost_ret (results_cell_row rfl _ _ (w.heap.size + 1) 39 _ _ _ rfl (set8 H6.o) rfl rfl rfl) rfl ?_
            rw [HD.o]
            exact do_end HBC.o HZ4.o H.o.lt HT.o HOK.o.rise HANS'.o HAA.o (chg8 _ _ _ _ _ _ _ _)

end Go.Proofs.YtfacfdjapjhpeaaGreatDoor
namespace Go.Proofs.YtfacfdjapjhpeaaGreatDoor
open Go.RowKit Go.Lib

attribute [local go_sem] Oper.semAt_some

set_option maxHeartbeats 4000000 in
set_option maxRecDepth 100000 in
theorem under1EntCp_calls (n l Bm Bp b : Nat) (T S : Nat → Prop) (ml : ML Nat) (hl : ml.length ≤ 1000000) (J Jx : ML Nat → World → Prop)
    (hY : ∀ pre x W, J pre W → (pre ++ [x]) <+: ml → YieldAt Fence.wide n Tryz.prog l #[.string (bs x.1), .pointer (some ⟨x.2, 0, none⟩)] W fun e W' => (e = .returned (.bool true) ∧ J (pre ++ [x]) W' ∧ Chg (fun k => ¬ T k) W W') ∨ (e = .returned (.bool false) ∧ Jx (pre ++ [x]) W'))
    (W : World) (hJ : AbidesFrom W.heap.size J) (hBm : Blk W Bm 106 #[.pointer (some ⟨b, 0, none⟩)]) (hBp : Blk W Bp 9 #[.string ⟨#[]⟩]) (TBm : T Bm) (TBp : T Bp) (hO : OmEntCp W S b ml) (hS : ∀ k, S k → T k) (h0 : J [] W) :
    Calls Tryz.prog 115 #[.func (.yield l) #[] #[], .pointer (some ⟨Bm, 0, none⟩), .pointer (some ⟨Bp, 0, none⟩)] W fun e W' => (∃ v, e = .returned v) ∧ ((∃ ys, ys = ml ∧ J ys W') ∨ (∃ pre, pre <+: ml ∧ Jx pre W')) := by
  obtain ⟨M, hm⟩ : ∃ M, ml.length = M := ⟨_, rfl⟩
  have hF := hd (findEntCp_calls W S b ml [] hO hl)
  have HJ := hd hJ
  have HY := hd hY
  have HO := hd hO
  have H0 := hd h0
  have HBm := hd hBm
  have HBp := hd hBp
  have HM := hd hm
  rw [place_nil] at hF
  rw [hm] at hl
  have cm := hBm.at_ 0 rfl
  have cp := hBp.at_ 0 rfl
  generalize hasM ml [] = q at *
  clear hJ hY hO h0 hBm hBp hm
  go_enter Tryz.func115, Tryz.ntmps115
  go_wp2_with fail
  refine hF.o.mono ?_
  rintro e w1 ⟨rfl, hbe⟩
  have HJ1 := hd (HJ.o _ _ _ _ H0.o (gb_of_below hbe) (fun r hr => by cases hr))
  have HC1 := hd (Chg.of_below (fun k => ¬ T k) hbe)
  clear cm cp hbe hF
  go_wp2_with fail
  go_loopw [4] (fun i wr => ∃ m : Nat, i = .int .i64 m ∧ m ≤ M ∧ Hd (J (ml.take m) wr) ∧ Hd (Chg (fun k => ¬ T k) W wr)) (fun i _ => M - (RowKit.intOf i).toNat)
  case atStart => exact ⟨0, rfl, Nat.zero_le _, HJ1, HC1⟩
  case round =>
    clear HJ1 HC1
    obtain ⟨m, rfl, hk, HJk, HCk⟩ := hrel
    have hbm := HBm.o.chg HCk.o (fun h => h TBm)
    have hbp := HBp.o.chg HCk.o (fun h => h TBp)
    obtain ⟨A, c, hb, hr, hSb, _⟩ := HO.o.chg HCk.o (fun k hk h => h (hS k hk))
    rw [HM.o] at hb hr
    have cm := hbm.at_ 0 rfl
    have cp := hbp.at_ 0 rfl
    have cb := hb.at_ 0 rfl
    have hcap := hr.cap
    unfold maxLen at hcap
    have hki : (0 : Int) ≤ (m : Int) := by omega
    by_cases hlt : m < M
    · have hlti : (m : Int) < (M : Int) := by omega
      have hkl : m < ml.length := by rw [HM.o]; exact hlt
      obtain ⟨g, rfl, _, hgw, _, _, hcl, _⟩ := hr.at_ (by omega)
      obtain ⟨x, hx⟩ : ∃ x, ml[m] = x := ⟨_, rfl⟩
      have hcc : ∀ j u, j < 2 → (enEntCp x)[j]? = some u → wr.cell? ⟨g, m * 2 + j, none⟩ = some u := fun j u hj hv => hcl _ _ ((meEntCp_at ml m hkl j hj).trans (by rw [hx]; exact hv))
      have HT : Hd (ml.take (m + 1) = ml.take m ++ [x]) := hd (by rw [List.take_succ_eq_append_getElem hkl, hx])
      have HLN : Hd ((ml.take m).length < ml.length) := hd (by rw [List.length_take]; omega)
      have HPRE : Hd ((ml.take m ++ [x]) <+: ml) := hd (by rw [← HT.o]; exact List.take_prefix _ _)
      obtain ⟨key, pv⟩ := x
      have hdk : decide ((m : Int) < (M : Int)) = true := by simpa using hlti
      clear hbm hbp hb hr hcl hx
      (have k0 := hcc 0 _ (by omega) rfl; have k1 := hcc 1 _ (by omega) rfl; rw [Nat.add_zero] at k0)
      clear hcc
      go_wp2_with fail
      go_quiet (first | (go_at_call 116; exact q1 (hp_calls _ _)) | (go_at_call 116; exact q2 (hp_calls _ _)))
      go_upto_region 3 with (fail)
      obtain ⟨wq, hwq⟩ : ∃ wq, wq = wr.drewN nq := ⟨_, rfl⟩
      have HJq := hd (HJ.o _ _ _ _ (HJ.o _ _ _ _ HJk.o (gb_drewN wr nq) (fun r hr => by cases hr)) (gb_drew (wr.drewN nq)) (fun r hr => by cases hr))
      have HCq := hd (HCk.o.drewN nq).drew
      rw [← hwq] at HJq HCq ⊢
      have dm : wq.cell? ⟨Bm, 0, none⟩ = some (.pointer (some ⟨b, 0, none⟩)) := by rw [hwq]; exact cm
      have db : wq.cell? ⟨b, 0, none⟩ = some (.slice (some ⟨g, 0, none⟩) M c) := by rw [hwq]; exact cb
      (have d0 : wq.cell? ⟨g, m * 2, none⟩ = some (.string (bs key)) := (by rw [hwq]; exact k0); have d1 : wq.cell? ⟨g, m * 2 + 1, none⟩ = some (.pointer (some ⟨pv, 0, none⟩)) := (by rw [hwq]; exact k1))
      clear hwq cm cp cb k0 k1 HJk HCk
      go_cut [51] from 12 to 51 (fun s wx => ∃ bb : Bool, s = .bool (!bb) ∧ Hd ((bb = true ∧ J (ml.take m ++ [(key, pv)]) wx ∧ Chg (fun k => ¬ T k) W wx) ∨ (bb = false ∧ Jx (ml.take m ++ [(key, pv)]) wx)))
      case first =>
        obtain ⟨fn, tmps, assign, body, hy, hR⟩ := HY.o (ml.take m) (key, pv) wq.drew HJq.o HPRE.o
        have HR : Hd (RoundIn Fence.wide n Tryz.prog l fn tmps assign body wq.drew (fun e W' => ∃ bb : Bool, e = .returned (.bool bb) ∧ Hd ((bb = true ∧ J (ml.take m ++ [(key, pv)]) W' ∧ Chg (fun k => ¬ T k) W W') ∨ (bb = false ∧ Jx (ml.take m ++ [(key, pv)]) W')))) := hd (hR.mono (fun e W' h => by
          rcases h with ⟨rfl, h1, h2⟩ | ⟨rfl, h1⟩
          · exact ⟨true, rfl, .inl ⟨rfl, h1, HCq.o.trans h2 (fun q hq => .inl hq)⟩⟩
          · exact ⟨false, rfl, .inr ⟨rfl, h1⟩⟩))
        clear hR
        have mixed : Tryz.prog.follows .mixedOrders = true := by kernel_rfl
        refine (wpIn_wide (n := n + 1)).1 ?_
        gi_region_with_o (first
          | (refine HR.o.mono ?_; rintro e W' ⟨bb, rfl, hbb⟩)
          | (refine ⟨fun h => (by cases h), ?_⟩; refine HR.o.mono ?_; rintro e W' ⟨bb, rfl, hbb⟩))
        all_goals
          go_simp
          go_wp2_with fail
          go_meet
          exact ⟨bb, rfl, hbb⟩
      case rest =>
        obtain ⟨bb, rfl, hbb⟩ := hcut
        cases bb with
        | true =>
          have h1 : Hd (J (ml.take (m + 1)) wc ∧ Chg (fun k => ¬ T k) W wc) := hd (by
            rw [HT.o]
            rcases hbb.o with ⟨_, h1, h2⟩ | ⟨h, _⟩
            · exact ⟨h1, h2⟩
            · cases h)
          clear hbb
          go_wp2
          go_roundw
          case rel => exact ⟨m + 1, by go_num, by omega, h1.o.1, h1.o.2⟩
          case measure => simp [RowKit.intOf]; omega
        | false =>
          have h1 : Hd (Jx (ml.take m ++ [(key, pv)]) wc) := hd (by
            rcases hbb.o with ⟨h, _⟩ | ⟨_, h1⟩
            · cases h
            · exact h1)
          clear hbb
          go_wp2
          refine bodyPost_ret (results_none rfl _ _ _) rfl ?_
          exact ⟨⟨_, rfl⟩, .inr ⟨_, HPRE.o, h1.o⟩⟩
    · obtain rfl : m = M := by omega
      have hdk : decide ((m : Int) < (m : Int)) = false := by simp
      have HE : Hd (ml.take m = ml) := hd (List.take_of_length_le (by rw [HM.o]; exact Nat.le_refl _))
      clear hbm hbp hb hr
      go_wp2_with fail
      go_quiet (fail)
      go_wp2
      go_end0
      exact ⟨⟨_, rfl⟩, .inl ⟨_, HE.o, HJ.o _ _ _ _ HJk.o (gb_drewN wr nq) (fun r hr => by cases hr)⟩⟩

end Go.Proofs.YtfacfdjapjhpeaaGreatDoor
namespace Go.Proofs.YtfacfdjapjhpeaaGreatDoor
open Go.RowKit Go.Lib

theorem underEntCp_calls (w : World) (b : Nat) (p : ByteArray) :
    Calls Tryz.prog 79 #[.pointer (some ⟨b, 0, none⟩), .string p] w fun e w' => e = .returned (.func (.func 115) #[] #[.pointer (some ⟨w.heap.size, 0, none⟩), .pointer (some ⟨w.heap.size + 1, 0, none⟩)]) ∧ (w.alloc (.cells #[.pointer (some ⟨b, 0, none⟩)] 106)).alloc (.cells #[.string p] 9) = w' := by
  go_enter Tryz.func79, Tryz.ntmps79
  go_wp2
  go_ret
  exact ⟨rfl, rfl⟩
theorem omallEntCp_calls (w : World) (b : Nat) :
    Calls Tryz.prog 48 #[.pointer (some ⟨b, 0, none⟩)] w fun e w' => e = .returned (.func (.func 115) #[] #[.pointer (some ⟨w.heap.size, 0, none⟩), .pointer (some ⟨w.heap.size + 1, 0, none⟩)]) ∧ (w.alloc (.cells #[.pointer (some ⟨b, 0, none⟩)] 106)).alloc (.cells #[.string ⟨#[]⟩] 9) = w' := by
  have hu := hd (underEntCp_calls w b ⟨#[]⟩)
  go_enter Tryz.func48, Tryz.ntmps48
  go_wp2_with fail
  refine hu.o.mono ?_
  rintro e w1 ⟨rfl, rfl⟩
  go_wp2_with fail
  go_ret
  exact ⟨rfl, rfl⟩

end Go.Proofs.YtfacfdjapjhpeaaGreatDoor
namespace Go.Proofs.YtfacfdjapjhpeaaGreatDoor
open Go.RowKit Go.Lib

theorem cols_stops (n Bm Bp o : Nat) (T S : Nat → Prop) (cb : List UInt8 → Nat) (cs : ML Cs) (hl : cs.length ≤ 1000000) (w : World) (hBm : Blk w Bm 106 #[.pointer (some ⟨o, 0, none⟩)]) (hBp : Blk w Bp 9 #[.string ⟨#[]⟩]) (TBm : T Bm) (TBp : T Bp) (hO : OmEntCp w S o (ptrs cb cs)) (hS : ∀ k, S k → T k) :
    SeqStopsK Fence.wide (n + 1) Tryz.prog 115 #[.pointer (some ⟨Bm, 0, none⟩), .pointer (some ⟨Bp, 0, none⟩)] (fun x : {x : List UInt8 × Cs // x ∈ cs} => #[.string (bs x.1.1), .pointer (some ⟨cb x.1.1, 0, none⟩)]) (Chg (fun k => ¬ T k)) (fun ys => ys.map (·.1) = cs) (fun _ => True) cs.length w := by
  intro l J Jx W hW hJ hJx hY h0
  refine callsIn_wide.2 ((under1EntCp_calls n l Bm Bp o T S (ptrs cb cs) (by rw [ptrs_len]; exact hl) (fun pre W => ∃ pre' : List {x : List UInt8 × Cs // x ∈ cs}, pre'.map (·.1) = cs.take pre.length ∧ pre.length ≤ cs.length ∧ J pre' W) (fun pre W => ∃ pre' : List {x : List UInt8 × Cs // x ∈ cs}, Jx pre' W) (fun pre x W1 hj hpre => ?_) W
    (fun s A B row hs hg hr => by
      obtain ⟨pre', h1, h2, h3⟩ := hs
      exact ⟨pre', h1, h2, hJ pre' A B row h3 hg hr⟩) (hBm.below hW hBm.lt) (hBp.below hW hBp.lt) TBm TBp (hO.below hW) hS ⟨[], rfl, Nat.zero_le _, h0⟩).mono (fun e W' h => ⟨h.1, ?_⟩))
  · obtain ⟨pre', h1, h2, h3⟩ := hj
    have hlen := hpre.length_le
    rw [List.length_append, List.length_singleton, ptrs_len] at hlen
    have hlt : pre.length < cs.length := by omega
    have hx : x = (cs[pre.length].1, cb cs[pre.length].1) := by
      have := hpre.getElem (i := pre.length) (by simp)
      rw [List.getElem_append_right (Nat.le_refl _)] at this
      simp only [Nat.sub_self, List.getElem_singleton] at this
      rw [this]
      unfold ptrs
      rw [List.getElem_map]
    have hpl : pre'.length = pre.length := by
      have := congrArg List.length h1
      rw [List.length_map, List.length_take] at this
      omega
    subst hx
    refine (hY pre' ⟨cs[pre.length], List.getElem_mem hlt⟩ W1 h3 (by omega)).mono (fun e W' h => ?_)
    rcases h with ⟨rfl, h4, h5⟩ | ⟨rfl, h4⟩
    · refine .inl ⟨rfl, ⟨pre' ++ [⟨cs[pre.length], List.getElem_mem hlt⟩], ?_, ?_, h4⟩, h5⟩
      · rw [List.map_append, h1, List.length_append, List.length_singleton, List.take_succ_eq_append_getElem hlt]
        rfl
      · rw [List.length_append, List.length_singleton]; omega
    · exact .inr ⟨rfl, _, h4⟩
  · rcases h.2 with ⟨ys, rfl, pre', h1, h2, h3⟩ | ⟨pre, _, pre', h3⟩
    · refine .inl ⟨pre', ?_, h3⟩
      show pre'.map (·.1) = cs
      rw [h1, ptrs_len]
      exact List.take_length
    · exact .inr ⟨pre', trivial, h3⟩

end Go.Proofs.YtfacfdjapjhpeaaGreatDoor
namespace Go.Proofs.YtfacfdjapjhpeaaGreatDoor
open Go.RowKit

theorem uponIn_round {F : Fence} {n : Nat} {P : Program} {o : Oper} {a : Act} {K K' : Act → World → Prop} {Q : Exit → Act → World → Prop} (l : Nat) (hK : ∀ a w, K a w → K' a w) : ∀ r : Result Go.Next, o.uponIn F n P a K Q r → o.uponIn (F.inRound l) n P a K' Q r
  | .ok (.value v) w', h => hK _ _ h
  | .ok .skip w', h => hK _ _ h
  | .ok (.defer d) w', h => hK _ _ h
  | .ok (.enter f args) w', h => ⟨h.1, (CallsIn.inRound l h.2).mono fun e w'' he => by
      cases e with
      | returned v => exact hK _ _ he
      | panicked c => exact he
      | outgrown => exact he⟩
  | .ok (.row row args) w', h => ⟨h.1, RowsIn.mono (F := F.inRound l) h.2 fun v w'' he => hK _ _ he⟩
  | .ok (.round l' f tmps assign body) w', h => ⟨h.1, RoundIn.mono (F := F.inRound l) h.2 fun e w'' he => by
      cases e with
      | returned v => exact hK _ _ he
      | panicked c => exact he
      | outgrown => exact he⟩
  | .halt (.panic v) w', h => h
theorem opIn_round {F : Fence} {n : Nat} {P : Program} {o : Oper} {a : Act} {w : World} {K K' : Act → World → Prop} {Q : Exit → Act → World → Prop} (l : Nat) (ho : ∀ c, o.op ≠ .defer c) (hK : ∀ a w, K a w → K' a w) (h : o.wpIn F n P a w K Q) : o.wpIn (F.inRound l) n P a w K' Q := by
  refine ⟨h.1, ?_⟩
  have h2 := h.2
  rw [Oper.semAt_plain _ _ _ ho] at h2 ⊢
  exact uponIn_round l hK _ h2
theorem anyIn_round {F : Fence} {n : Nat} {P : Program} {md : Region.Mode} {ops : Array Oper} {Q : Exit → Act → World → Prop} (l : Nat) (ho : ∀ (i : Nat) (o : Oper), ops[i]? = some o → ∀ c, o.op ≠ .defer c) : ∀ (fuel : Nat) (listed : Array Bool) (a : Act) (w : World), wpAnyIn F n P md ops Q fuel listed a w → wpAnyIn (F.inRound l) n P md ops Q fuel listed a w
  | 0, _, _, _, h => h
  | fuel + 1, listed, a, w, h => ⟨h.1, fun i hi => by
      have h2 := h.2 i hi
      unfold wpOpIn at h2 ⊢
      cases hoi : ops[i]? with
      | none => rw [hoi] at h2; exact anyIn_round l ho fuel _ _ _ h2
      | some o =>
        rw [hoi] at h2
        simp only at h2 ⊢
        split
        · rename_i hw
          rw [if_pos hw] at h2
          exact opIn_round l (ho i o hoi) (fun a w h => anyIn_round l ho fuel _ a w h) h2
        · rename_i hw
          rw [if_neg hw] at h2
          exact ⟨h2.1, anyIn_round l ho fuel _ _ _ h2.2⟩⟩

/-- No operation defers a call. -/
def noDef (ops : Array Oper) : Bool := ops.toList.all fun o => match o.op with | .defer _ => false | _ => true
theorem noDef_spec {ops : Array Oper} (h : noDef ops = true) : ∀ (i : Nat) (o : Oper), ops[i]? = some o → ∀ c, o.op ≠ .defer c := by
  intro i o hio c hc
  unfold noDef at h
  have hm : o ∈ ops.toList := by
    rw [← Array.getElem?_toList] at hio
    exact List.mem_of_getElem? hio
  have := List.all_eq_true.1 h o hm
  rw [hc] at this
  cases this
/-- append, as an operation. -/
theorem opIn_append_row {F : Fence} {n : Nat} {P : Program} {w : World} {Q : Exit → Act → World → Prop} {a : Act} {K : Act → World → Prop} {o : Oper} (s x : Operand) (t : TypeId)
    (ho : o.op = .call { callee := .builtin .append, args := #[s, x], argTypes := #[t, t] })
    (S : Nat → Prop) (e : TypeId) (i : TypeInfo) (z : Value) (size bytes : Nat) (ht : P.underlying t = some (.slice e)) (hi : P.info? e = some i) (hz : i.zero = some z)
    (hsize : i.size = size) (hby : i.bytes = bytes) (hzs : z.cells.size = size) (A : Option Addr) (k cap : Nat) (xs : List Value) (hs : a.eval s = .slice A k cap) (hr : Row w S e size A k cap xs)
    (ad : Addr) (m c : Nat) (news : List Value) (hx : a.eval x = .slice (some ad) m c) (hl : news.length = m * size) (hnews : ∀ j u, news[j]? = some u → w.cell? (ad.add j) = some u) (h1 : ∀ u ∈ news, u.oneCell' = true)
    (h0 : 0 < m) (h63 : k + m ≤ maxLen) (hbytes : (k + m) * bytes ≤ 140737488355328)
    (h : ∀ A' c' w', Row w' (Plus S w.heap.size) e size A' (k + m) c' (xs ++ news) → Chg S w w' → K (a.put o.dst (.slice A' (k + m) c')) w') : o.wpIn F n P a w K Q := by
  obtain ⟨A', c', w', hrun, h2, h3⟩ := run_append_row (P := P) w S t o.type e i z size bytes ht hi hz hsize hby hzs A k cap xs hr ad m c news hl hnews h1 h0 h63 hbytes
  unfold Oper.wpIn
  refine ⟨?_, ?_⟩
  · simp [Oper.about, ho, resolve, Target.leads, Sem.run_pure]
  · rw [Oper.semAt_plain F _ _ (by rw [ho]; intro c hc'; cases hc')]
    simp [execOp, ho, resolve, invoke, builtin, hs, hx, hrun, Result.andThen]
    exact h A' c' w' h2 h3

end Go.Proofs.YtfacfdjapjhpeaaGreatDoor
