/-
  Page, of a collection.
-/
import Derived.Test.YtfacfdjapjhpeaaGreatDoorGAJ
import Derived.Test.YtfacfdjapjhpeaaGreatDoorGAI
import Derived.Deep.Cut
import Derived.Deep.CutRange
import Derived.Test.YtfacfdjapjhpeaaGreatDoorGAN
import Derived.Test.YtfacfdjapjhpeaaGreatDoorGAB
import Derived.Test.YtfacfdjapjhpeaaGreatDoorProg
import Derived.Test.YtfacfdjapjhpeaaGreatDoorGAK
import Derived.Shelf.Strings.Prefix
import Derived.Shelf.LaysM
set_option linter.unusedVariables false
set_option linter.unusedSimpArgs false
namespace Go.Proofs.YtfacfdjapjhpeaaGreatDoor
open Go.RowKit Go.Lib

theorem since_lenB {s : Cs} {tok : Int} {l' : List It} {err : Int} (h : SinceIs s tok l' err) : l'.length ≤ s.ml.length ∨ l'.length ≤ s.log.length := by
  rcases h with ⟨_, _, h⟩ | ⟨_, _, _, h⟩ | ⟨_, _, _, h⟩
  · left; rw [h.1.length_eq, liveL_len]; exact Nat.le_refl _
  · left; rw [h]; exact Nat.zero_le _
  · right; rw [h.1.length_eq]; have := outP_len s.ml tok _ s.log.reverse rfl; simpa using this

set_option maxRecDepth 100000 in
set_option maxHeartbeats 4000000 in
theorem cpageB_calls (w : World) (S : Nat → Prop) (b : Nat) (s : Cs) (h : ColR w S b s) (tok most : Int) (hl : s.ml.length ≤ 1000000) (hlg : s.log.length ≤ 1000000) (hu : ∀ x ∈ s.log, x.2.length ≤ maxLen) :
    Calls Tryz.prog 86 #[.pointer (some ⟨b, 0, none⟩), .int .i64 tok, .int .i64 most] w fun e w' => ∃ l' err A c, e = .returned (.tuple #[.slice A (pageR l' tok most s.latest err).1.length c, .int .i64 (pageR l' tok most s.latest err).2.1, .bool (pageR l' tok most s.latest err).2.2, .int .i64 err]) ∧ SinceIs s tok l' err ∧ Rds w' A (pageR l' tok most s.latest err).1.length 4 (itsEnc (pageR l' tok most s.latest err).1) ∧ (∀ k, Of A k → w.heap.size ≤ k) ∧ Below w.heap.size w w' := by
  have HS := hd (since_calls w S b s tok h hl hlg hu)
  have HLA := hd (fun (w' : World) (h' : Below w.heap.size w w') => (by
    obtain ⟨mb, rb, S1, S2, hb, _⟩ := h.below h'
    exact hb.at_ 4 rfl : w'.cell? ⟨b, 4, none⟩ = some (.int .i64 s.latest)))
  generalize s.latest = la at *
  clear h
  go_enter Tryz.func86, Tryz.ntmps86
  go_wp2_with fail
  refine HS.o.mono ?_
  rintro e w2 ⟨l', err, A, c, rfl, hs, hr, hb⟩
  have HSI := hd hs
  have HROW := hd hr
  have HB := hd hb
  have hle := since_lenB hs
  have hcap := hr.cap
  clear hs hr hb HS
  by_cases he : err = 0
  · subst he
    have hpr : ∀ la, pageR l' tok most la 0 = pageP l' tok most la := fun la => by unfold pageR; rw [if_pos rfl]
    have HPR := hd hpr
    have HPN : Hd (pageN l' tok most ≤ l'.length ∧ (pageN l' tok most = l'.length ∨ 1 ≤ pageN l' tok most)) := hd (by
      unfold pageN
      split
      · exact ⟨Nat.le_refl _, .inl rfl⟩
      · exact ⟨splitP_le _ _, splitP_pos _ _⟩)
    have HSP := hd (csplit_calls w2 A l'.length c l' most HROW.o.rds rfl (by omega) hcap.1)
    have HPZ : Hd (tok = 0 → pageN l' tok most = l'.length) := hd (fun h => by unfold pageN; rw [if_pos h])
    have HPS : Hd (tok ≠ 0 → splitP l' most = pageN l' tok most) := hd (fun h => by unfold pageN; rw [if_neg h])
    have HPP : Hd (pageP l' tok most la = if pageN l' tok most = l'.length then (l', la, false) else (l'.take (pageN l' tok most), (l'.getD (pageN l' tok most - 1) default).ver, true)) := hd rfl
    obtain ⟨q, hq⟩ : ∃ q, l'.length = q := ⟨_, rfl⟩
    obtain ⟨pn, hpn⟩ : ∃ q, pageN l' tok most = q := ⟨_, rfl⟩
    have HQ := hd hq
    rw [hq] at HPN HSP HPZ HPP HROW hle hcap
    rw [hpn] at HPN HPZ HPS HPP
    simp only [hq]
    clear hq hpn hpr
    have l4 := HLA.o w2 HB.o
    have HSP2 : Hd (tok ≠ 0 → Calls Tryz.prog 126 #[.slice A q c, .int .i64 most] w2 fun e w' => e = .returned (.int .i64 (pn : Nat)) ∧ Below w2.heap.size w2 w') := hd (fun h => by rw [← HPS.o h]; exact HSP.o)
    clear HSP
    go_upto_if 23 with (fail)
    go_cut [10] from 23 to 26 (fun s10 wx => s10 = .int .i64 (pn : Nat) ∧ Hd (Below w2.heap.size w2 wx))
    case first =>
      by_cases ht : tok = 0
      · have f1 : (tok != 0) = false := by simpa using ht
        have hpq := HPZ.o ht
        clear ht
        subst hpq
        go_wp2_with fail
        go_meet
        exact ⟨rfl, hd (Below.refl _ _)⟩
      · have f1 : (tok != 0) = true := by simpa using ht
        have HC := hd (HSP2.o ht)
        clear ht
        go_wp2_with fail
        refine HC.o.mono ?_
        rintro e w3 ⟨rfl, hb⟩
        have HB3 := hd hb
        clear hb
        go_wp2_with fail
        go_meet
        exact ⟨rfl, HB3⟩
    case rest =>
      obtain ⟨rfl, HB3⟩ := hcut
      have HR3 := hd (HROW.o.below HB3.o)
      have HBF := hd (HB.o.trans (HB3.o.mono HB.o.size))
      have y4 := HLA.o wc HBF.o
      have HOF := hd (fun k (hk : Of A k) => HROW.o.of_sub k hk)
      clear HSP2 l4 HROW
      by_cases hpq : pn = q
      · have f1 : ((pn : Int) == (q : Int)) = true := by rw [hpq]; simp
        have HP : Hd (pageR l' tok most la 0 = (l', la, false)) := hd (by rw [HPR.o, HPP.o, if_pos hpq])
        clear hpq
        go_wp2_with fail
        go_quiet (fail)
        go_wp2
        (try simp only [Exit.inBlock, Exit.then]); refine bodyPost_ret (results_tmp4 rfl _ _ _) rfl ?_
        exact ⟨l', 0, A, c, by rw [HP.o]; show _ = Ending.returned (.tuple #[.slice A l'.length c, _, _, _]); rw [HQ.o]; rfl, HSI.o, by rw [HP.o]; show Rds _ A l'.length 4 (itsEnc l'); rw [HQ.o]; exact (HR3.o.drewN _).rds, fun k hk => HOF.o k hk, bdrewN HBF.o _⟩
      · have f1 : ((pn : Int) == (q : Int)) = false := by simp; omega
        have hp1 : 1 ≤ pn := by have := HPN.o; omega
        obtain ⟨p, rfl⟩ : ∃ p, pn = p + 1 := ⟨pn - 1, by omega⟩
        have hpl : p + 1 < q := by have := HPN.o; omega
        have HPL := hd hpl
        have hpll : p < l'.length := by rw [HQ.o]; omega
        obtain ⟨g, rfl, _, _, hqc, _, hcl, _⟩ := HR3.o.at_ (by omega)
        obtain ⟨v, hv⟩ : ∃ v, (l'[p]'hpll).ver = v := ⟨_, rfl⟩
        have k1 := hcl (p * 4 + 1) _ ((flat_at itEnc 4 itEnc_len l' p hpll 1 (by omega)).trans (by simp [itEnc]; rfl))
        rw [hv] at k1
        have HP : Hd (pageR l' tok most la 0 = (l'.take (p + 1), v, true)) := hd (by
          rw [HPR.o, HPP.o, if_neg hpq]
          simp only [Nat.add_sub_cancel]
          rw [List.getD_eq_getElem?_getD, List.getElem?_eq_getElem hpll, Option.getD_some, hv])
        have hpi : (p : Int) < (q : Int) := by omega
        have hpc : (p : Int) + 1 ≤ (c : Int) := by omega
        have hp0 : (0 : Int) ≤ (p : Int) + 1 := by omega
        have HLT : Hd ((l'.take (p + 1)).length = p + 1) := hd (by rw [List.length_take, HQ.o]; omega)
        clear hpq hcl hv hpll hp1 hpl
        go_wp2_with fail
        go_quiet (fail)
        go_wp2
        (try simp only [Exit.inBlock, Exit.then]); refine bodyPost_ret (results_tmp4 rfl _ _ _) rfl ?_
        exact ⟨l', 0, _, p + 1, by rw [HP.o]; show _ = Ending.returned (.tuple #[.slice _ (l'.take (p + 1)).length _, _, _, _]); rw [HLT.o]; rfl, HSI.o, by rw [HP.o]; exact (HR3.o.drewN _).rds.takeN (p + 1) (by have := HPL.o; omega), fun k hk => HOF.o k hk, bdrewN HBF.o _⟩
  · have hen : (err != 0) = true := by simpa using he
    have hpr : pageR l' tok most la err = ([], 0, false) := by unfold pageR; rw [if_neg he]
    have HPR := hd hpr
    clear he hpr
    go_wp2
    (try simp only [Exit.inBlock, Exit.then]); refine bodyPost_ret (results_tmp4 rfl _ _ _) rfl ?_
    refine ⟨l', err, none, 0, by rw [HPR.o]; rfl, HSI.o, by rw [HPR.o]; exact (Row.nil w2 (fun _ => True) 63 4).rds, fun k hk => (Of.none hk).elim, HB.o⟩

end Go.Proofs.YtfacfdjapjhpeaaGreatDoor
namespace Go.Proofs.YtfacfdjapjhpeaaGreatDoor
open Go.RowKit Go.Lib

/-- An answer, its items in new memory. -/
structure AnsW (w w' : World) (y : Lay) (b ab : Nat) (c : Cf) (ts : ML (ML Cs)) (nm : List UInt8) (r : Co) : Prop where
  ex : ∃ A cp, AnsR w w' y b ab c ts nm r A cp ∧ (∀ k, Of A k → w.heap.size ≤ k)
theorem AnsR.w {w w' : World} {y : Lay} {b ab : Nat} {c : Cf} {ts : ML (ML Cs)} {nm : List UInt8} {r : Co} (h : AnsR w w' y b ab c ts nm r none 0) (_ : r.2.1 = []) : AnsW w w' y b ab c ts nm r := ⟨none, 0, h, fun _ hk => (Of.none hk).elim⟩
/-- What a walk within a collection starts from, its request boxed. -/
structure WiS (w w0 : World) (y : Lay) (b ab : Nat) (c : Cf) (ctr : Int) (ts : ML (ML Cs)) (nm : List UInt8) (cs : ML Cs) (q : Rq) (A : Option Addr) (cp : Nat) (s : Cs) : Prop where
  v : BkV w0 y b c ctr ts nm (cs.length : Nat) (bytesT cs) cs
  a : Blk w0 ab 39 (rsEnc (rsE q.k 0) none 0 0).toArray
  box : Blk w0 w.heap.size 45 (reqE q A cp).toArray
  col : ColR w0 (fun k => y.lam k = .cl nm q.col) (y.cb nm q.col) s
  ok : CsOk c.q ctr s
  below : Below w.heap.size w w0
  hq : QtOk c.q
  h0 : 0 ≤ ctr
  hm : ctr ≤ maxTok
  ten : TnOk c.q ctr cs
  get : getM cs q.col = some s
  nab : y.lam ab = .no
  abl : ab < w.heap.size
  low : ∀ k, y.lam k ≠ .no → k < w.heap.size
theorem WiS.mk' {w : World} {y : Lay} {b ab : Nat} {c : Cf} {ctr : Int} {ts : ML (ML Cs)} {nm : List UInt8} {cs : ML Cs} {q : Rq} (A : Option Addr) (cp : Nat) {s : Cs}
    (h : BkV w y b c ctr ts nm (cs.length : Nat) (bytesT cs) cs) (hQ : QtOk c.q) (h0 : 0 ≤ ctr) (hm : ctr ≤ maxTok) (ht : TnOk c.q ctr cs) (hg : getM cs q.col = some s) (ha : Blk w ab 39 (rsEnc (rsE q.k 0) none 0 0).toArray) (hab : y.lam ab = .no) :
    WiS w (w.alloc (.cells (reqE q A cp).toArray 45)) y b ab c ctr ts nm cs q A cp s := by
  have hB : Below w.heap.size w (w.alloc (.cells (reqE q A cp).toArray 45)) := (Below.refl _ w).alloc (Nat.le_refl _) _
  exact ⟨h.below hB, ha.below hB ha.lt, Blk.new _ _ _, (h.col _ (getM_mem hg)).below hB, ht.get hg, hB, hQ, h0, hm, ht, hg, hab, ha.lt, h.lt⟩
/-- Nothing is changed but the answer. -/
theorem WiS.same {w w0 w1 : World} {y : Lay} {b ab : Nat} {c : Cf} {ctr : Int} {ts : ML (ML Cs)} {nm : List UInt8} {cs : ML Cs} {q : Rq} {A : Option Addr} {cp : Nat} {s : Cs} (h : WiS w w0 y b ab c ctr ts nm cs q A cp s) (hb : Below w0.heap.size w0 w1) {W : World} (hc : Chg (One ab) w1 W) {r : Co} {A' : Option Addr} {cp' : Nat} (hr : r.2.2 = (ctr, cs))
    (ha : Blk W ab 39 (rsEnc r.1 A' r.2.1.length cp').toArray) (hi : Rds W A' r.2.1.length 4 (itsEnc r.2.1)) (hA : ∀ k, Of A' k → w.heap.size ≤ k := by exact fun _ h => (Of.none h).elim) : AnsR w W y b ab c ts nm r A' cp' := by
  have hv := (h.v.below hb).chg hc (fun k hk => by cases hk; exact h.nab)
  obtain ⟨a1, a2, a3, a4⟩ := r
  obtain ⟨rfl, rfl⟩ := Prod.mk.inj hr
  refine ⟨⟨y, hv.shut rfl rfl, Lay.Sub.refl _ _, h.nab, fun k hk => ?_⟩, ha, hi, (Chg.of_below _ (h.below.trans (hb.mono h.below.size))).trans hc (fun k hk => .inl (.inr hk))⟩
  have h1 := hA k hk
  cases hl : y.lam k with
  | no => rfl
  | _ => have := h.low k (by rw [hl]; exact nofun); omega

section
variable (w : World) (y : Lay) (b ab : Nat) (c : Cf) (ctr : Int) (ts : ML (ML Cs)) (nm : List UInt8) (cs : ML Cs) (q : Rq) (A : Option Addr) (cp : Nat) (s : Cs)

set_option maxRecDepth 100000 in
set_option maxHeartbeats 8000000 in
theorem bwithin_get (hk : q.k = 6) (hS : WiS w (w.alloc (.cells (reqE q A cp).toArray 45)) y b ab c ctr ts nm cs q A cp s) :
    Calls Tryz.prog 51 #[.pointer (some ⟨b, 0, none⟩), .pointer (some ⟨y.tb nm, 0, none⟩), .pointer (some ⟨y.cb nm q.col, 0, none⟩), reqV q A cp, .pointer (some ⟨ab, 0, none⟩)] w fun e w' => (∃ v, e = .returned v) ∧ AnsW w w' y b ab c ts nm (withinB c.q ctr cs q s) := by
  obtain ⟨z1, z2, z3⟩ := hS.ok.sizes hS.hq
  obtain ⟨w0, hw0⟩ : ∃ w0, w0 = w.alloc (.cells (reqE q A cp).toArray 45) := ⟨_, rfl⟩
  rw [← hw0] at hS
  have G := hd (cget_calls w0 _ (y.cb nm q.col) s q.uid hS.col (by omega))
  have HE1 : Hd (hasM s.ml q.uid = true → withinB c.q ctr cs q s = (⟨q.k, 0, 0, verM s.ml q.uid, txtM s.ml q.uid, 0, false⟩, [], ctr, cs)) := hd (fun h => by unfold withinB; rw [if_neg (by omega), if_pos hk, if_pos h])
  have HE2 : Hd (hasM s.ml q.uid = false → withinB c.q ctr cs q s = (rsE q.k 4, [], ctr, cs)) := hd (fun h => by unfold withinB; rw [if_neg (by omega), if_pos hk, if_neg (by rw [h]; decide)])
  obtain ⟨R, hR⟩ : ∃ R, withinB c.q ctr cs q s = R := ⟨_, rfl⟩
  rw [hR] at HE1 HE2 ⊢
  have HS := hd hS
  have HW := hd hw0
  have q0 : w0.cell? ⟨w.heap.size, 0, none⟩ = some (.int .i64 q.k) := hS.box.at_ 0 rfl
  have q3 : w0.cell? ⟨w.heap.size, 3, none⟩ = some (.string (bs q.uid)) := hS.box.at_ 3 rfl
  generalize verM s.ml q.uid = vr at *
  generalize txtM s.ml q.uid = tx at *
  generalize hasM s.ml q.uid = th at *
  rw [hk] at q0
  unfold reqV
  obtain ⟨k, tn, col, uid, card, ck, cv, ops, tok, most, ticks⟩ := q
  simp only at hk q3 HE1 HE2 G ⊢
  subst hk
  simp only [reqE] at HW ⊢
  generalize ops.length = nops at *
  clear hS hw0 hR
  go_enter Tryz.func51, Tryz.ntmps51
  go_upto_region 1 with (fail)
  rw [← HW.o]
  clear HW
  go_wp2_with fail
  refine G.o.mono ?_
  rintro e w1 ⟨rfl, hb1⟩
  have HB1 := hd hb1
  have ha1 := HS.o.a.below hb1 (Nat.lt_of_lt_of_le HS.o.abl HS.o.below.size)
  have HA1 := hd ha1
  have al1 := ha1.lt
  cases th with
  | true =>
    have HE := hd (HE1.o rfl)
    have a3 : w1.cell? ⟨ab, 3, none⟩ = some (.int .i64 0) := ha1.at_ 3 rfl
    have f3 := ha1.frozen 3
    have a4 : w1.cell? ⟨ab, 4, none⟩ = some (.string ⟨#[]⟩) := ha1.at_ 4 rfl
    have f4 := ha1.frozen 4
    clear ha1 hb1 HE1 HE2 G
    go_wp2
    go_end0
    refine ⟨⟨_, rfl⟩, ?_⟩
    rw [HE.o]
    have hc : Chg (One ab) w1 ((w1.setCell ⟨ab, 3, none⟩ (.int .i64 vr)).setCell ⟨ab, 4, none⟩ (.string (bs tx))) := (one_ab w1 ab 3 _).setCell (p := ⟨ab, 4, none⟩) (.inl rfl) _
    exact (HS.o.same HB1.o hc rfl ((HA1.o.set_ 3 _).set_ 4 _) (Row.nil _ (fun _ => True) 39 4).rds).w rfl
  | false =>
    have HE := hd (HE2.o rfl)
    have a1 : w1.cell? ⟨ab, 1, none⟩ = some (.int .i64 0) := ha1.at_ 1 rfl
    have f1 := ha1.frozen 1
    clear ha1 hb1 HE1 HE2 G
    go_wp2
    refine bodyPost_ret (results_none rfl _ _ _) rfl ?_
    refine ⟨⟨_, rfl⟩, ?_⟩
    rw [HE.o]
    exact (HS.o.same HB1.o (one_ab w1 ab 1 _) rfl (HA1.o.set_ 1 _) (Row.nil _ (fun _ => True) 39 4).rds).w rfl

set_option maxRecDepth 100000 in
set_option maxHeartbeats 8000000 in
theorem bwithin_wait (hk : q.k = 9) (hS : WiS w (w.alloc (.cells (reqE q A cp).toArray 45)) y b ab c ctr ts nm cs q A cp s) :
    Calls Tryz.prog 51 #[.pointer (some ⟨b, 0, none⟩), .pointer (some ⟨y.tb nm, 0, none⟩), .pointer (some ⟨y.cb nm q.col, 0, none⟩), reqV q A cp, .pointer (some ⟨ab, 0, none⟩)] w fun e w' => (∃ v, e = .returned v) ∧ AnsW w w' y b ab c ts nm (withinB c.q ctr cs q s) := by
  obtain ⟨w0, hw0⟩ : ∃ w0, w0 = w.alloc (.cells (reqE q A cp).toArray 45) := ⟨_, rfl⟩
  rw [← hw0] at hS
  have G := hd (fun m => clatest_calls (w0.drewN m) _ (y.cb nm q.col) s (hS.col.below (bdrewN (Below.refl _ _) m)))
  have HE1 : Hd (s.latest ≤ q.tok → withinB c.q ctr cs q s = (rsE q.k 15, [], ctr, cs)) := hd (fun h => by unfold withinB; rw [if_neg (by omega), if_neg (by omega), if_neg (by omega), if_pos hk, if_pos h])
  have HE2 : Hd (¬ s.latest ≤ q.tok → withinB c.q ctr cs q s = (rsT q.k s.latest, [], ctr, cs)) := hd (fun h => by unfold withinB; rw [if_neg (by omega), if_neg (by omega), if_neg (by omega), if_pos hk, if_neg h])
  obtain ⟨R, hR⟩ : ∃ R, withinB c.q ctr cs q s = R := ⟨_, rfl⟩
  rw [hR] at HE1 HE2 ⊢
  have HS := hd hS
  have HW := hd hw0
  have q0 : w0.cell? ⟨w.heap.size, 0, none⟩ = some (.int .i64 q.k) := hS.box.at_ 0 rfl
  have q7 : w0.cell? ⟨w.heap.size, 8, none⟩ = some (.int .i64 q.tok) := hS.box.at_ 8 rfl
  generalize s.latest = lt at *
  rw [hk] at q0
  unfold reqV
  obtain ⟨k, tn, col, uid, card, ck, cv, ops, tok, most, ticks⟩ := q
  simp only at hk q7 HE1 HE2 G ⊢
  subst hk
  simp only [reqE] at HW ⊢
  generalize ops.length = nops at *
  clear hS hw0 hR
  go_enter Tryz.func51, Tryz.ntmps51
  go_upto_region 1 with (fail)
  rw [← HW.o]
  clear HW
  go_wp2_with fail
  go_quiet (first | (go_at_call 49; exact q1 (G.o _)) | (go_at_call 49; exact q2 (G.o _)))
  obtain ⟨wn, hwn⟩ : ∃ wn, wn = w0.drewN nq := ⟨_, rfl⟩
  have HB1 : Hd (Below w0.heap.size w0 wn) := hd (by rw [hwn]; exact bdrewN (Below.refl _ _) _)
  have G2 := hd (G.o nq)
  rw [← hwn] at G2 ⊢
  have ha1 := HS.o.a.below HB1.o (Nat.lt_of_lt_of_le HS.o.abl HS.o.below.size)
  have HA1 := hd ha1
  have al1 := ha1.lt
  by_cases hlt : lt ≤ tok
  · have HE := hd (HE1.o hlt)
    have d1 : decide (lt ≤ tok) = true := by simpa using hlt
    have a1 : wn.cell? ⟨ab, 1, none⟩ = some (.int .i64 0) := ha1.at_ 1 rfl
    have f1 := ha1.frozen 1
    clear ha1 HE1 HE2 G G2 hwn q0 q7
    go_wp2_with fail
    refine bodyPost_ret (results_none rfl _ _ _) rfl ?_
    refine ⟨⟨_, rfl⟩, ?_⟩
    rw [HE.o]
    exact (HS.o.same HB1.o (one_ab wn ab 1 _) rfl (HA1.o.set_ 1 _) (Row.nil _ (fun _ => True) 39 4).rds).w rfl
  · have HE := hd (HE2.o (by omega))
    have d1 : decide (lt ≤ tok) = false := by simpa using hlt
    have a2 : wn.cell? ⟨ab, 2, none⟩ = some (.int .i64 0) := ha1.at_ 2 rfl
    have f2 := ha1.frozen 2
    clear ha1 HE1 HE2 G hwn q0 q7
    go_wp2_with fail
    refine G2.o.mono ?_
    rintro e w3 ⟨rfl, rfl⟩
    go_wp2
    go_end0
    refine ⟨⟨_, rfl⟩, ?_⟩
    rw [HE.o]
    exact (HS.o.same HB1.o (one_ab wn ab 2 _) rfl (HA1.o.set_ 2 _) (Row.nil _ (fun _ => True) 39 4).rds).w rfl
end

end Go.Proofs.YtfacfdjapjhpeaaGreatDoor
namespace Go.Proofs.YtfacfdjapjhpeaaGreatDoor
open Go.RowKit Go.Lib

theorem write_put {Q : Qt} {ctr : Int} {cs : ML Cs} {q : Rq} {s : Cs} (hk : q.k = 4) : withinB Q ctr cs q s = ({ (writeW Q ctr cs q.col q.k (opsQ q) s).1 with version := (writeW Q ctr cs q.col q.k (opsQ q) s).1.token }, (writeW Q ctr cs q.col q.k (opsQ q) s).2) := by
  unfold withinB writeB writeW chkQ
  rw [if_neg (by omega), if_neg (by omega), if_neg (by omega), if_neg (by omega)]
  by_cases h1 : (chkG s (Q.bytes - bytesT cs) [] (opsQ q) (s.ml.length : Nat) 0).2.2 ≠ 0
  · rw [if_pos h1, if_pos h1]
  · rw [if_neg h1, if_neg h1]
    by_cases h2 : ctr = maxTok
    · rw [if_pos h2, if_pos h2]; rfl
    · rw [if_neg h2, if_neg h2, if_pos hk]; rfl
theorem write_oth {Q : Qt} {ctr : Int} {cs : ML Cs} {q : Rq} {s : Cs} (hk : q.k = 5 ∨ q.k = 7) : withinB Q ctr cs q s = writeW Q ctr cs q.col q.k (opsQ q) s := by
  unfold withinB writeB writeW chkQ
  rw [if_neg (by omega), if_neg (by omega), if_neg (by omega), if_neg (by omega)]
  by_cases h1 : (chkG s (Q.bytes - bytesT cs) [] (opsQ q) (s.ml.length : Nat) 0).2.2 ≠ 0
  · rw [if_pos h1, if_pos h1]
  · rw [if_neg h1, if_neg h1]
    by_cases h2 : ctr = maxTok
    · rw [if_pos h2, if_pos h2]
    · rw [if_neg h2, if_neg h2, if_neg (by omega)]; rfl
theorem writeW_its (Q : Qt) (ctr : Int) (cs : ML Cs) (cn : List UInt8) (k : Int) (ops : List OpV) (s : Cs) : (writeW Q ctr cs cn k ops s).2.1 = [] ∧ (writeW Q ctr cs cn k ops s).1.version = 0 := by
  unfold writeW
  repeat' split
  all_goals exact ⟨rfl, rfl⟩
/-- A row of one write, new. -/
theorem rds_one (W : World) (v0 v1 v2 v3 v4 : Value) : Rds (W.alloc (.cells #[v0, v1, v2, v3, v4] 60)) (some ⟨W.heap.size, 0, none⟩) 1 5 [v0, v1, v2, v3, v4] :=
  (Row.of_block (S := fun _ => True) (Blk.new W 60 #[v0, v1, v2, v3, v4]) trivial (Nat.le_refl 1) (by unfold maxLen; omega) rfl rfl rfl).rds
/-- A call within, behind some new memory. -/
theorem AnsR.from {w w1 w' : World} {y : Lay} {b ab : Nat} {c : Cf} {ts : ML (ML Cs)} {nm : List UInt8} {r : Co} {A : Option Addr} {cp : Nat} (h : AnsR w1 w' y b ab c ts nm r A cp) (hb : Below w.heap.size w w1) : AnsR w w' y b ab c ts nm r A cp := by
  obtain ⟨y', h1, h2, h3, h4⟩ := h.ex
  exact ⟨⟨y', h1, fun k hk => (h2 k hk).imp id (fun h => Nat.le_trans hb.size h), h3, h4⟩, h.a, h.its, (Chg.of_below _ hb).trans h.chg (fun _ hk => .inl hk)⟩

section
variable (w : World) (y : Lay) (b ab : Nat) (c : Cf) (ctr : Int) (ts : ML (ML Cs)) (nm : List UInt8) (cs : ML Cs) (q : Rq) (A : Option Addr) (cp : Nat) (s : Cs)

set_option maxRecDepth 100000 in
set_option maxHeartbeats 8000000 in
theorem bwithin_put (hk : q.k = 4) (hS : WiS w (w.alloc (.cells (reqE q A cp).toArray 45)) y b ab c ctr ts nm cs q A cp s) (hsm : OpSm (⟨false, q.uid, q.card, q.ck, q.cv⟩ : OpV)) :
    Calls Tryz.prog 51 #[.pointer (some ⟨b, 0, none⟩), .pointer (some ⟨y.tb nm, 0, none⟩), .pointer (some ⟨y.cb nm q.col, 0, none⟩), reqV q A cp, .pointer (some ⟨ab, 0, none⟩)] w fun e w' => (∃ v, e = .returned v) ∧ AnsW w w' y b ab c ts nm (withinB c.q ctr cs q s) := by
  obtain ⟨w0, hw0⟩ : ∃ w0, w0 = w.alloc (.cells (reqE q A cp).toArray 45) := ⟨_, rfl⟩
  rw [← hw0] at hS
  have hopq : opsQ q = [(⟨false, q.uid, q.card, q.ck, q.cv⟩ : OpV)] := by unfold opsQ; rw [if_pos hk]
  have hop : ∀ o ∈ [(⟨false, q.uid, q.card, q.ck, q.cv⟩ : OpV)], OpSm o := fun o ho => by rw [List.mem_singleton] at ho; subst ho; exact hsm
  have HWR := hd (fun (W : World) (g : Nat) (hb : Below w0.heap.size w0 W) (hg : w0.heap.size ≤ g) (hr : Rds W (some ⟨g, 0, none⟩) 1 5 (opsE (opsQ q))) => bwrite_calls W y b ab c ctr ts nm q.col cs s (some ⟨g, 0, none⟩) 1 1 (opsQ q) q.k (hS.v.below hb) hS.hq hS.h0 hS.hm hS.ten hS.get hr (by rw [hopq]; rfl) (Nat.le_refl _) (fun z hz => by
    have hz : z = g := hz.2.some_
    subst hz
    cases hl : y.lam z with
    | no => rfl
    | _ => have := hS.low z (by rw [hl]; exact nofun); have := hS.below.size; omega) (by rw [hopq]; exact hop) (by rw [hopq]; simp) (hS.a.below hb (Nat.lt_of_lt_of_le hS.abl hS.below.size)) hS.nab (fun z hz e => by have hz : z = g := hz.2.some_; have := hS.abl; have := hS.below.size; omega))
  have HE := hd (write_put (Q := c.q) (ctr := ctr) (cs := cs) (s := s) hk)
  have HITS := hd (writeW_its c.q ctr cs q.col q.k (opsQ q) s)
  rw [hopq] at HWR
  obtain ⟨R0, hR0⟩ : ∃ R, writeW c.q ctr cs q.col q.k (opsQ q) s = R := ⟨_, rfl⟩
  rw [hopq] at hR0
  rw [hopq, hR0] at HE HITS
  rw [hR0] at HWR
  obtain ⟨R, hR⟩ : ∃ R, withinB c.q ctr cs q s = R := ⟨_, rfl⟩
  rw [hR] at HE ⊢
  have HS := hd hS
  have HW := hd hw0
  have q0 : w0.cell? ⟨w.heap.size, 0, none⟩ = some (.int .i64 q.k) := hS.box.at_ 0 rfl
  have q3 : w0.cell? ⟨w.heap.size, 3, none⟩ = some (.string (bs q.uid)) := hS.box.at_ 3 rfl
  have q4 : w0.cell? ⟨w.heap.size, 4, none⟩ = some (.string (bs q.card)) := hS.box.at_ 4 rfl
  have q5 : w0.cell? ⟨w.heap.size, 5, none⟩ = some (.int .i64 q.ck) := hS.box.at_ 5 rfl
  have q6 : w0.cell? ⟨w.heap.size, 6, none⟩ = some (.int .i64 q.cv) := hS.box.at_ 6 rfl
  rw [hk] at q0
  unfold reqV
  obtain ⟨k, tn, col, uid, card, ck, cv, ops, tok, most, ticks⟩ := q
  simp only at q3 q4 q5 q6 HE HWR ⊢
  subst hk
  simp only [reqE] at HW ⊢
  obtain ⟨nops, hnops⟩ : ∃ n, ops.length = n := ⟨_, rfl⟩
  have HNOPS := hd hnops
  rw [hnops] at HW ⊢
  clear hS hw0 hR hnops
  go_enter Tryz.func51, Tryz.ntmps51
  go_upto_region 1 with (fail)
  rw [← HW.o]
  clear HW
  go_wp2_with fail
  refine (HWR.o _ w0.heap.size ((Below.refl _ w0).alloc (Nat.le_refl _) _) (Nat.le_refl _) (rds_one w0 _ _ _ _ _)).mono ?_
  rintro e w2 ⟨⟨v, rfl⟩, hans⟩
  have HANS := hd hans
  have hA2 : Blk w2 ab 39 (rsEnc R0.1 none R0.2.1.length 0).toArray := hans.a
  have HA2 := hd hA2
  have a2 : w2.cell? ⟨ab, 2, none⟩ = some (.int .i64 R0.1.token) := hA2.at_ 2 rfl
  have a3 : w2.cell? ⟨ab, 3, none⟩ = some (.int .i64 R0.1.version) := hA2.at_ 3 rfl
  have f3 := hA2.frozen 3
  have al2 := hA2.lt
  clear hans hA2 HWR q0 q3 q4 q5 q6
  go_wp2
  go_end0
  refine ⟨⟨_, rfl⟩, ?_⟩
  rw [HE.o]
  have hB : Below w.heap.size w (w0.alloc (.cells #[.bool false, .string (bs uid), .string (bs card), .int .i64 ck, .int .i64 cv] 60)) := HS.o.below.alloc HS.o.below.size _
  have hX := HANS.o.from hB
  obtain ⟨y', h1, h2, h3, h4⟩ := hX.ex
  have hits := HITS.o.1
  have hc := one_ab w2 ab 3 (.int .i64 R0.1.token)
  refine AnsR.w (r := ({ R0.1 with version := R0.1.token }, R0.2)) ⟨⟨y', h1.chg hc (fun k hk => by cases hk; exact h3), h2, h3, h4⟩, ?_, ?_, hX.chg.trans hc (fun k hk => .inl (.inr hk))⟩ hits
  · show Blk _ ab 39 (rsEnc { R0.1 with version := R0.1.token } none R0.2.1.length 0).toArray
    exact HA2.o.set_ 3 _
  · show Rds _ none R0.2.1.length 4 (itsEnc R0.2.1)
    rw [hits]
    exact (Row.nil _ (fun _ => True) 39 4).rds

set_option maxRecDepth 100000 in
set_option maxHeartbeats 8000000 in
theorem bwithin_del (hk : q.k = 5) (hS : WiS w (w.alloc (.cells (reqE q A cp).toArray 45)) y b ab c ctr ts nm cs q A cp s) (hsm : OpSm (⟨true, q.uid, [], q.ck, q.cv⟩ : OpV)) :
    Calls Tryz.prog 51 #[.pointer (some ⟨b, 0, none⟩), .pointer (some ⟨y.tb nm, 0, none⟩), .pointer (some ⟨y.cb nm q.col, 0, none⟩), reqV q A cp, .pointer (some ⟨ab, 0, none⟩)] w fun e w' => (∃ v, e = .returned v) ∧ AnsW w w' y b ab c ts nm (withinB c.q ctr cs q s) := by
  obtain ⟨w0, hw0⟩ : ∃ w0, w0 = w.alloc (.cells (reqE q A cp).toArray 45) := ⟨_, rfl⟩
  rw [← hw0] at hS
  have hopq : opsQ q = [(⟨true, q.uid, [], q.ck, q.cv⟩ : OpV)] := by unfold opsQ; rw [if_neg (by omega), if_pos hk]
  have hop : ∀ o ∈ [(⟨true, q.uid, [], q.ck, q.cv⟩ : OpV)], OpSm o := fun o ho => by rw [List.mem_singleton] at ho; subst ho; exact hsm
  have HWR := hd (fun (W : World) (g : Nat) (hb : Below w0.heap.size w0 W) (hg : w0.heap.size ≤ g) (hr : Rds W (some ⟨g, 0, none⟩) 1 5 (opsE (opsQ q))) => bwrite_calls W y b ab c ctr ts nm q.col cs s (some ⟨g, 0, none⟩) 1 1 (opsQ q) q.k (hS.v.below hb) hS.hq hS.h0 hS.hm hS.ten hS.get hr (by rw [hopq]; rfl) (Nat.le_refl _) (fun z hz => by
    have hz : z = g := hz.2.some_
    subst hz
    cases hl : y.lam z with
    | no => rfl
    | _ => have := hS.low z (by rw [hl]; exact nofun); have := hS.below.size; omega) (by rw [hopq]; exact hop) (by rw [hopq]; simp) (hS.a.below hb (Nat.lt_of_lt_of_le hS.abl hS.below.size)) hS.nab (fun z hz e => by have hz : z = g := hz.2.some_; have := hS.abl; have := hS.below.size; omega))
  have HE := hd (write_oth (Q := c.q) (ctr := ctr) (cs := cs) (q := q) (s := s) (by omega))
  have HITS := hd (writeW_its c.q ctr cs q.col q.k (opsQ q) s)
  obtain ⟨R0, hR0⟩ : ∃ R, writeW c.q ctr cs q.col q.k (opsQ q) s = R := ⟨_, rfl⟩
  rw [hopq] at HWR hR0
  rw [hopq, hR0] at HE HITS
  rw [hR0] at HWR
  obtain ⟨R, hR⟩ : ∃ R, withinB c.q ctr cs q s = R := ⟨_, rfl⟩
  rw [hR] at HE ⊢
  have HS := hd hS
  have HW := hd hw0
  have q0 : w0.cell? ⟨w.heap.size, 0, none⟩ = some (.int .i64 q.k) := hS.box.at_ 0 rfl
  have q3 : w0.cell? ⟨w.heap.size, 3, none⟩ = some (.string (bs q.uid)) := hS.box.at_ 3 rfl
  have q5 : w0.cell? ⟨w.heap.size, 5, none⟩ = some (.int .i64 q.ck) := hS.box.at_ 5 rfl
  have q6 : w0.cell? ⟨w.heap.size, 6, none⟩ = some (.int .i64 q.cv) := hS.box.at_ 6 rfl
  rw [hk] at q0
  unfold reqV
  obtain ⟨k, tn, col, uid, card, ck, cv, ops, tok, most, ticks⟩ := q
  simp only at q3 q5 q6 HE HWR ⊢
  subst hk
  simp only [reqE] at HW ⊢
  obtain ⟨nops, hnops⟩ : ∃ n, ops.length = n := ⟨_, rfl⟩
  have HNOPS := hd hnops
  rw [hnops] at HW ⊢
  clear hS hw0 hR hnops
  go_enter Tryz.func51, Tryz.ntmps51
  go_upto_region 1 with (fail)
  rw [← HW.o]
  clear HW
  go_wp2_with fail
  refine (HWR.o _ w0.heap.size ((Below.refl _ w0).alloc (Nat.le_refl _) _) (Nat.le_refl _) (rds_one w0 _ _ _ _ _)).mono ?_
  rintro e w2 ⟨⟨v, rfl⟩, hans⟩
  have HANS := hd hans
  clear hans HWR q0 q3 q5 q6
  go_wp2
  go_end0
  refine ⟨⟨_, rfl⟩, ?_⟩
  rw [HE.o]
  have hB : Below w.heap.size w (w0.alloc (.cells #[.bool true, .string (bs uid), .string (bs []), .int .i64 ck, .int .i64 cv] 60)) := HS.o.below.alloc HS.o.below.size _
  exact (HANS.o.from hB).w HITS.o.1

set_option maxRecDepth 100000 in
set_option maxHeartbeats 8000000 in
theorem bwithin_batch (hk : q.k = 7) (hS : WiS w (w.alloc (.cells (reqE q A cp).toArray 45)) y b ab c ctr ts nm cs q A cp s) (hop : ∀ o ∈ q.ops, OpSm o) (hl8 : q.ops.length ≤ 8) (hr : Rds w A q.ops.length 5 (opsE q.ops)) (hnc : q.ops.length ≤ cp) (hof : ∀ z, OfN A q.ops.length z → y.lam z = .no) (hAa : ∀ z, OfN A q.ops.length z → z ≠ ab) :
    Calls Tryz.prog 51 #[.pointer (some ⟨b, 0, none⟩), .pointer (some ⟨y.tb nm, 0, none⟩), .pointer (some ⟨y.cb nm q.col, 0, none⟩), reqV q A cp, .pointer (some ⟨ab, 0, none⟩)] w fun e w' => (∃ v, e = .returned v) ∧ AnsW w w' y b ab c ts nm (withinB c.q ctr cs q s) := by
  obtain ⟨w0, hw0⟩ : ∃ w0, w0 = w.alloc (.cells (reqE q A cp).toArray 45) := ⟨_, rfl⟩
  rw [← hw0] at hS
  have hopq : opsQ q = q.ops := by unfold opsQ; rw [if_neg (by omega), if_neg (by omega)]
  have HWR := hd (bwrite_calls w0 y b ab c ctr ts nm q.col cs s A q.ops.length cp q.ops q.k hS.v hS.hq hS.h0 hS.hm hS.ten hS.get (hr.below hS.below) rfl hnc hof hop hl8 hS.a hS.nab hAa)
  have HE := hd (write_oth (Q := c.q) (ctr := ctr) (cs := cs) (q := q) (s := s) (by omega))
  have HITS := hd (writeW_its c.q ctr cs q.col q.k (opsQ q) s)
  obtain ⟨R0, hR0⟩ : ∃ R, writeW c.q ctr cs q.col q.k (opsQ q) s = R := ⟨_, rfl⟩
  rw [hopq] at hR0
  rw [hopq, hR0] at HE HITS
  rw [hR0] at HWR
  obtain ⟨R, hR⟩ : ∃ R, withinB c.q ctr cs q s = R := ⟨_, rfl⟩
  rw [hR] at HE ⊢
  have HS := hd hS
  have HW := hd hw0
  have q0 : w0.cell? ⟨w.heap.size, 0, none⟩ = some (.int .i64 q.k) := hS.box.at_ 0 rfl
  have q7 : w0.cell? ⟨w.heap.size, 7, none⟩ = some (.slice A q.ops.length cp) := hS.box.at_ 7 rfl
  rw [hk] at q0
  unfold reqV
  obtain ⟨k, tn, col, uid, card, ck, cv, ops, tok, most, ticks⟩ := q
  simp only at q7 HE HWR ⊢
  subst hk
  simp only [reqE] at HW ⊢
  obtain ⟨nops, hnops⟩ : ∃ n, ops.length = n := ⟨_, rfl⟩
  have HNOPS := hd hnops
  rw [hnops] at HW q7 HWR ⊢
  clear hS hw0 hR hnops
  go_enter Tryz.func51, Tryz.ntmps51
  go_upto_region 1 with (fail)
  rw [← HW.o]
  clear HW
  go_wp2_with fail
  refine HWR.o.mono ?_
  rintro e w2 ⟨⟨v, rfl⟩, hans⟩
  have HANS := hd hans
  clear hans HWR q0 q7
  go_wp2
  go_end0
  refine ⟨⟨_, rfl⟩, ?_⟩
  rw [HE.o]
  exact (HANS.o.from HS.o.below).w HITS.o.1
end

end Go.Proofs.YtfacfdjapjhpeaaGreatDoor
namespace Go.Proofs.YtfacfdjapjhpeaaGreatDoor
open Go.RowKit

theorem delEntCp_info : (Tryz.prog.info? 161).map (fun i => (i.zero, i.size, i.bytes)) = some (some (.agg #[Value.string ⟨#[]⟩, Value.pointer none]), 2, 24) := by kernel_rfl
theorem delEntCp_zero (w : World) : (zeroValue 161).run Tryz.prog w = .ok (.agg #[Value.string ⟨#[]⟩, Value.pointer none]) w := by kernel_rfl

set_option maxHeartbeats 1600000 in
set_option maxRecDepth 100000 in
theorem delEntCp_calls (w : World) (S : Nat → Prop) (A : Option Addr) (n c i : Nat) (xs : List Value) (hr : Row w S 161 2 A n c xs) (h1 : ∀ u ∈ xs, u.oneCell' = true) (hi : i < n) :
    Calls Tryz.prog 119 #[.slice A n c, .int .i64 i, .int .i64 ((i : Int) + 1)] w fun e w' => e = .returned (.slice A (n - 1) c) ∧ Row w' S 161 2 A (n - 1) c (xs.take (i * 2) ++ xs.drop ((i + 1) * 2)) ∧ Chg S w w' := by
  obtain ⟨i0, hi0, hz0, hz1, hz2⟩ := info_parts delEntCp_info
  have hlen := hr.len
  obtain ⟨g0, hA, _⟩ := hr.at_ (by omega)
  obtain ⟨g, cur, e0, hS, hb, hnc, hcm, hcs, ht⟩ := hr.block hA
  injection e0 with e0
  subst e0
  subst hA
  unfold maxLen at hcm
  obtain ⟨news, hnews⟩ : ∃ news, news = xs.drop ((i + 1) * 2) := ⟨_, rfl⟩
  have hnl : news.length = (n - (i + 1)) * 2 := by rw [hnews, List.length_drop, hlen, Nat.sub_mul]
  have hcell : ∀ j u, xs[j]? = some u → w.cell? ⟨g0, j, none⟩ = some u := by
    intro j u hu
    rw [hb.cell]
    rw [← ht, List.getElem?_take] at hu
    split at hu
    · simpa using hu
    · cases hu
  obtain ⟨A1, hA1, hsrc⟩ : ∃ A1 : Addr, (if c = i + 1 then some (⟨g0, 0, none⟩ : Addr) else some ⟨g0, (i + 1) * 2, none⟩) = some A1 ∧ Hd (∀ j u, news[j]? = some u → w.drew.cell? (A1.add j) = some u) := by
    by_cases h : c = i + 1
    · refine ⟨⟨g0, 0, none⟩, by simp [h], fun j u hu => ?_⟩
      have h0 : news.length = 0 := by rw [hnl]; have : n - (i + 1) = 0 := by omega
                                      rw [this, Nat.zero_mul]
      rw [List.length_eq_zero_iff.1 h0] at hu
      simp at hu
    · refine ⟨⟨g0, (i + 1) * 2, none⟩, by simp [h], fun j u hu => ?_⟩
      rw [hnews, List.getElem?_drop] at hu
      rw [Addr.add_lit]
      exact hcell _ _ hu
  have s1 : Hd (news.length = (n - (i + 1)) * 2) := hnl
  have s2 : Hd (∀ u ∈ news, u.oneCell' = true) := fun u hu => h1 u (List.mem_of_mem_drop (hnews ▸ hu))
  obtain ⟨cur1, hcur1⟩ : ∃ cur1, cur1 = (cur.toList.take (i * 2) ++ news ++ cur.toList.drop (i * 2 + news.length)).toArray := ⟨_, rfl⟩
  have s3 : Hd (i * 2 + news.length ≤ cur.size) := by unfold Hd; rw [hnl, hcs]; omega
  have hbd : Hd (Blk w.drew g0 161 cur) := hb.drew
  obtain ⟨W1, hW1⟩ : ∃ W1, W1 = w.drew.setRow g0 cur1 := ⟨_, rfl⟩
  have hb1 : Blk W1 g0 161 cur1 := by rw [hW1]; exact hb.drew.setRow _
  have hs1 : cur1.size = cur.size := by
    rw [hcur1]; simp only [List.size_toArray, List.length_append, List.length_take, List.length_drop, Array.length_toList]
    have := s3.o; omega
  have hcl : ∀ ty, (Builtin.clear_ #[148] ty #[.slice (some ⟨g0, (i + (n - (i + 1))) * 2, none⟩) (n - (i + (n - (i + 1)))) (c - (i + (n - (i + 1))))]).run Tryz.prog W1 = .ok (.tuple #[]) (W1.setRow g0 (cur1.toList.take ((i + (n - (i + 1))) * 2) ++ [Value.string ⟨#[]⟩, Value.pointer none] ++ cur1.toList.drop ((i + (n - (i + 1))) * 2 + 2)).toArray) := by
    intro ty
    have e1 : n - (i + (n - (i + 1))) = 1 := by omega
    rw [e1]
    have hz1 : ∀ v ∈ ([Value.string ⟨#[]⟩, Value.pointer none] : List Value), v.oneCell' = true := by decide
    have hfit : (i + (n - (i + 1))) * 2 + ([Value.string ⟨#[]⟩, Value.pointer none] : List Value).length ≤ cur1.size := by rw [hs1, hcs]; simp only [List.length_cons, List.length_nil]; omega
    exact run_clear_one W1 148 161 ty (.agg #[Value.string ⟨#[]⟩, Value.pointer none]) [Value.string ⟨#[]⟩, Value.pointer none] Tryz.underlying148 delEntCp_zero rfl (by decide) hz1 g0 _ _ cur1 hb1 hfit
  have X := hd hW1
  have Y := hd hcur1
  have hic : i ≤ c := by omega
  have hwr : IntKind.i64.wrap ((i : Int) + 1) = (i : Int) + 1 := by rw [IntKind.wrap_i64]; omega
  have hp0 : (0 : Int) ≤ (i : Int) + 1 := by omega
  have hp1 : (i : Int) + 1 ≤ (n : Int) := by omega
  have hp2 : ((i : Int) + 1).toNat = i + 1 := by omega
  have hp3 : ((i : Int) == (i : Int) + 1) = false := by simp; omega
  have Z := hd hb1
  have hnn := hd hnews
  clear hW1 hcur1 hb1 hnews hnl hcell hb h1 hr
  have HT := hd ht
  have HL := hd hlen
  have HS := hd hs1
  have HC := hd hcs
  clear ht hlen hs1 hcs
  go_enter Tryz.func119, Tryz.ntmps119
  go_wp2_with fail
  go_region_law (refine step_append_row rfl (.tmp 22) (.tmp 25) 148 rfl 161 i0 2 Tryz.underlying148 hi0 hz1 g0 i c cur hbd.o (by simp [Act.eval, Act.put]) A1 (n - (i + 1)) (c - (i + 1)) news (by simp [Act.eval, Act.put]) s1.o hsrc.o s2.o (by omega) s3.o ?_; rw [← Y.o, ← X.o])
  go_wp2
  go_ret
  have e1 : i + (n - (i + 1)) = n - 1 := by omega
  have hs1 := s1.o
  have hs3 := s3.o
  have hT := HT.o
  have hL := HL.o
  have hS1 := HS.o
  have hC := HC.o
  refine ⟨ret_val (a := .slice (some ⟨g0, 0, none⟩) (i + (n - (i + 1))) c) (by rw [e1]), ?_, ?_⟩
  · refine Row.of_block (Z.o.setRow _) hS (by omega) (by unfold maxLen; omega) ?_ ?_ ?_
    · simp only [List.size_toArray, List.length_append, List.length_take, List.length_drop, Array.length_toList, List.length_cons, List.length_nil]
      rw [hS1, hC]; omega
    · rw [e1, Y.o]
      have hd := del_list cur.toList xs news [Value.string ⟨#[]⟩, Value.pointer none] (i * 2) 2 ((n - 1) * 2) (by rw [← hT]; congr 1; omega) (by rw [Array.length_toList, hC]; omega) (by omega) (by rw [hnn.o]; congr 1; omega)
      rw [show (i + 1) * 2 = i * 2 + 2 by omega]
      simp only [List.append_assoc, List.cons_append, List.nil_append, List.length_cons, List.length_nil, Nat.zero_add, Nat.reduceAdd] at hd ⊢
      exact hd
    · simp only [List.length_append, List.length_take, List.length_drop]
      rw [hL]; omega
  · rw [X.o]
    exact ((Chg.refl _ _).drew.setRow (.inl hS) _).setRow (.inl hS) _

end Go.Proofs.YtfacfdjapjhpeaaGreatDoor
namespace Go.Proofs.YtfacfdjapjhpeaaGreatDoor
open Go.RowKit Go.Lib

theorem omdelEntCp_calls (w : World) (S : Nat → Prop) (b : Nat) (l : ML Nat) (k : List UInt8) (h : OmEntCp w S b l) (hl : l.length ≤ 1000000) :
    Calls Tryz.prog 81 #[.pointer (some ⟨b, 0, none⟩), .string (bs k)] w fun e w' => e = .returned (.bool (hasM l k)) ∧ OmEntCp w' (Plus S w.heap.size) b (delM l k) ∧ Chg S w w' := by
  have hc := hd (findEntCp_calls w S b l k h hl)
  have hsp := hd (delM_spec k h.rise)
  cases hq : hasM l k with
  | false =>
    have e : delM l k = l := by simp [delM, hq]
    rw [hq] at hc
    rw [e]
    have H := hd h
    generalize place l k = p at *
    clear h hsp hq e
    go_enter Tryz.func81, Tryz.ntmps81
    go_wp2_with fail
    refine hc.o.mono ?_
    rintro e w1 ⟨rfl, hbe⟩
    go_wp2_with fail
    go_ret
    exact ⟨rfl, (H.o.below hbe).mono (fun _ h => .inl h), Chg.of_below _ hbe⟩
  | true =>
    obtain ⟨hp, hpk, _⟩ := hasM_at h.rise hq
    have e : delM l k = l.eraseIdx (place l k) := by simp [delM, hq]
    rw [hq] at hc
    rw [e] at hsp ⊢
    have H := hd h
    obtain ⟨p, hpp⟩ : ∃ p, place l k = p := ⟨_, rfl⟩
    rw [hpp] at hp hc hsp ⊢
    clear h hq e hpk hpp
    obtain ⟨n, hn⟩ : ∃ n, l.length = n := ⟨_, rfl⟩
    have HN := hd hn
    have hpn : p < n := by omega
    have hl' : n ≤ 1000000 := by omega
    clear hn hp hl
    go_enter Tryz.func81, Tryz.ntmps81
    go_wp2_with fail
    refine hc.o.mono ?_
    rintro e w1 ⟨rfl, hbe⟩
    obtain ⟨A, c, hb, hr, hS, _⟩ := H.o.below hbe
    rw [HN.o] at hb hr
    have hb0 := hb.at_ 0 rfl
    have hne := hr.ne_blk hb (by decide)
    have hB := hd hb
    clear hb
    have hwr : IntKind.i64.wrap ((p : Int) + 1) = (p : Int) + 1 := by rw [IntKind.wrap_i64]; omega
    go_wp2_with fail
    refine (delEntCp_calls w1 (Of A) A n c p (meEntCp l) hr.own_ (meEntCp_one l) hpn).mono ?_
    rintro e w2 ⟨rfl, hr2, hc2⟩
    have hb2 : Blk w2 b 150 #[.slice A n c] := hB.o.chg hc2 (fun hk => by
      cases A with
      | none => exact Of.none hk
      | some a => exact hne a rfl hk.some_.symm)
    have h1 := hb2.at_ 0 rfl
    have hf := hb2.frozen 0
    have HB2 := hd hb2
    clear hb2
    go_wp2
    go_ret
    have hlen : (l.eraseIdx p).length = n - 1 := by rw [List.length_eraseIdx, if_pos (by rw [HN.o]; exact hpn), HN.o]
    refine ⟨rfl, ⟨A, c, ?_, ?_, .inl hS, hsp.o.1⟩, ?_⟩
    · rw [hlen]; exact HB2.o.set_ 0 _
    · rw [hlen, meEntCp_erase]
      exact (hr2.far hne _).mono (fun q hq => .inl (hr.of_sub q hq))
    · exact (((Chg.refl S w).then_below hbe).trans hc2 (fun q hq => .inl (hr.of_sub q hq))).setCell (.inl hS) _

end Go.Proofs.YtfacfdjapjhpeaaGreatDoor
namespace Go.Proofs.YtfacfdjapjhpeaaGreatDoor
open Go.RowKit Go.Lib

theorem delM_lenN {V : Type} {l : ML V} {k : List UInt8} (hr : Rising l) (h : hasM l k = true) : (delM l k).length + 1 = l.length := by
  obtain ⟨hp, _⟩ := hasM_at hr h
  unfold delM
  rw [if_pos h, List.length_eraseIdx, if_pos hp]
  omega

section
variable (w : World) (y : Lay) (b ab : Nat) (c : Cf) (ctr : Int) (ts : ML (ML Cs)) (nm : List UInt8) (cs : ML Cs) (q : Rq) (A : Option Addr) (cp : Nat) (s : Cs)

set_option maxRecDepth 100000 in
set_option maxHeartbeats 8000000 in
theorem bwithin_delta (hk : q.k = 8) (hS : WiS w (w.alloc (.cells (reqE q A cp).toArray 45)) y b ab c ctr ts nm cs q A cp s) :
    Calls Tryz.prog 51 #[.pointer (some ⟨b, 0, none⟩), .pointer (some ⟨y.tb nm, 0, none⟩), .pointer (some ⟨y.cb nm q.col, 0, none⟩), reqV q A cp, .pointer (some ⟨ab, 0, none⟩)] w fun e w' => (∃ v, e = .returned v) ∧ AnsW w w' y b ab c ts nm (withinB c.q ctr cs q s) := by
  obtain ⟨w0, hw0⟩ : ∃ w0, w0 = w.alloc (.cells (reqE q A cp).toArray 45) := ⟨_, rfl⟩
  rw [← hw0] at hS
  obtain ⟨z1, z2, z3⟩ := hS.ok.sizes hS.hq
  have G := hd (cpageB_calls w0 _ (y.cb nm q.col) s hS.col q.tok q.most (by omega) (by omega) (fun x hx => by have := hS.ok.log x hx; unfold maxLen; omega))
  have HE := hd (show withinB c.q ctr cs q s = (⟨q.k, (sinceF s q.tok).2, (pageF s q.tok q.most).2.1, 0, [], 0, (pageF s q.tok q.most).2.2⟩, (pageF s q.tok q.most).1, ctr, cs) by unfold withinB; rw [if_neg (by omega), if_neg (by omega), if_pos hk])
  have HSI := hd (fun l e (h : SinceIs s q.tok l e) => sinceF_is hS.ok.ok.rise hS.ok.tok h)
  have HPG := hd (show pageF s q.tok q.most = pageR (sinceF s q.tok).1 q.tok q.most s.latest (sinceF s q.tok).2 from rfl)
  obtain ⟨R, hR⟩ : ∃ R, withinB c.q ctr cs q s = R := ⟨_, rfl⟩
  rw [hR] at HE ⊢
  have HS := hd hS
  have HW := hd hw0
  have q0 : w0.cell? ⟨w.heap.size, 0, none⟩ = some (.int .i64 q.k) := hS.box.at_ 0 rfl
  have q8 : w0.cell? ⟨w.heap.size, 8, none⟩ = some (.int .i64 q.tok) := hS.box.at_ 8 rfl
  have q9 : w0.cell? ⟨w.heap.size, 9, none⟩ = some (.int .i64 q.most) := hS.box.at_ 9 rfl
  rw [hk] at q0
  unfold reqV
  obtain ⟨k, tn, col, uid, card, ck, cv, ops, tok, most, ticks⟩ := q
  simp only at q8 q9 HE G HSI HPG ⊢
  subst hk
  simp only [reqE] at HW ⊢
  obtain ⟨nops, hnops⟩ : ∃ n, ops.length = n := ⟨_, rfl⟩
  have HNOPS := hd hnops
  rw [hnops] at HW ⊢
  clear hS hw0 hR hnops
  go_enter Tryz.func51, Tryz.ntmps51
  go_upto_region 1 with (fail)
  rw [← HW.o]
  clear HW
  go_wp2_with fail
  refine G.o.mono ?_
  rintro e w1 ⟨l', er, A', c', rfl, hsi, hrd, hnew, hb1⟩
  have hse := HSI.o _ _ hsi
  rw [hse] at HE HPG
  have HP : Hd (pageF s tok most = pageR l' tok most s.latest er) := hd HPG.o
  rw [HP.o] at HE
  obtain ⟨P, hP⟩ : ∃ P, pageR l' tok most s.latest er = P := ⟨_, rfl⟩
  rw [hP] at HE hrd ⊢
  have HB1 := hd hb1
  have HRD := hd hrd
  have HNEW := hd hnew
  have ha1 := HS.o.a.below hb1 (Nat.lt_of_lt_of_le HS.o.abl HS.o.below.size)
  have HA1 := hd ha1
  have al1 := ha1.lt
  have a7 : w1.cell? ⟨ab, 7, none⟩ = some (.slice none 0 0) := ha1.at_ 7 rfl
  have f7 := ha1.frozen 7
  have a2 : w1.cell? ⟨ab, 2, none⟩ = some (.int .i64 0) := ha1.at_ 2 rfl
  have f2 := ha1.frozen 2
  have a6 : w1.cell? ⟨ab, 6, none⟩ = some (.bool false) := ha1.at_ 6 rfl
  have f6 := ha1.frozen 6
  have a1 : w1.cell? ⟨ab, 1, none⟩ = some (.int .i64 0) := ha1.at_ 1 rfl
  have f1 := ha1.frozen 1
  obtain ⟨np, hnp⟩ : ∃ n, P.1.length = n := ⟨_, rfl⟩
  rw [hnp]
  have HNP := hd hnp
  clear ha1 hb1 hrd hnew hsi hse hP G HSI HPG HP hnp q0 q8 q9
  go_wp2
  go_end0
  refine ⟨⟨_, rfl⟩, ?_⟩
  rw [HE.o]
  have hc : Chg (One ab) w1 ((((w1.setCell ⟨ab, 7, none⟩ (.slice A' np c')).setCell ⟨ab, 2, none⟩ (.int .i64 P.2.1)).setCell ⟨ab, 6, none⟩ (.bool P.2.2)).setCell ⟨ab, 1, none⟩ (.int .i64 er)) := (((one_ab w1 ab 7 _).setCell (p := ⟨ab, 2, none⟩) (.inl rfl) _).setCell (p := ⟨ab, 6, none⟩) (.inl rfl) _).setCell (p := ⟨ab, 1, none⟩) (.inl rfl) _
  refine ⟨A', c', HS.o.same HB1.o hc rfl ?_ (HRD.o.chg hc (fun k hk he => ?_)) (fun k hk => Nat.le_trans HS.o.below.size (HNEW.o k hk)), fun k hk => Nat.le_trans HS.o.below.size (HNEW.o k hk)⟩
  · show Blk _ ab 39 (rsEnc ⟨8, er, P.2.1, 0, [], 0, P.2.2⟩ A' P.1.length c').toArray
    rw [HNP.o]
    exact (((HA1.o.set_ 7 _).set_ 2 _).set_ 6 _).set_ 1 _
  · have h1 := HNEW.o k hk
    have he : k = ab := he
    have := HS.o.abl
    have := HS.o.below.size
    omega

set_option maxRecDepth 100000 in
set_option maxHeartbeats 8000000 in
theorem bwithin_drop (hk : q.k = 3) (hS : WiS w (w.alloc (.cells (reqE q A cp).toArray 45)) y b ab c ctr ts nm cs q A cp s) :
    Calls Tryz.prog 51 #[.pointer (some ⟨b, 0, none⟩), .pointer (some ⟨y.tb nm, 0, none⟩), .pointer (some ⟨y.cb nm q.col, 0, none⟩), reqV q A cp, .pointer (some ⟨ab, 0, none⟩)] w fun e w' => (∃ v, e = .returned v) ∧ AnsW w w' y b ab c ts nm (withinB c.q ctr cs q s) := by
  obtain ⟨w0, hw0⟩ : ∃ w0, w0 = w.alloc (.cells (reqE q A cp).toArray 45) := ⟨_, rfl⟩
  rw [← hw0] at hS
  have HE1 : Hd (ctr = maxTok → withinB c.q ctr cs q s = (rsE q.k 9, [], ctr, cs)) := hd (fun h => by unfold withinB; rw [if_pos hk, if_pos h])
  have HE2 : Hd (ctr ≠ maxTok → withinB c.q ctr cs q s = (rsT q.k (ctr + 1), [], ctr + 1, delM cs q.col)) := hd (fun h => by unfold withinB; rw [if_pos hk, if_neg h])
  have HHAS : Hd (hasM cs q.col = true) := hd (has_of_get hS.get)
  have HGET := hd hS.get
  obtain ⟨R, hR⟩ : ∃ R, withinB c.q ctr cs q s = R := ⟨_, rfl⟩
  rw [hR] at HE1 HE2 ⊢
  have HS := hd hS
  have HW := hd hw0
  have q0 : w0.cell? ⟨w.heap.size, 0, none⟩ = some (.int .i64 q.k) := hS.box.at_ 0 rfl
  have q2 : w0.cell? ⟨w.heap.size, 2, none⟩ = some (.string (bs q.col)) := hS.box.at_ 2 rfl
  rw [hk] at q0
  unfold reqV
  obtain ⟨k, tn, col, uid, card, ck, cv, ops, tok, most, ticks⟩ := q
  simp only at q2 HE1 HE2 HHAS HGET ⊢
  subst hk
  simp only [reqE] at HW ⊢
  obtain ⟨nops, hnops⟩ : ∃ n, ops.length = n := ⟨_, rfl⟩
  have HNOPS := hd hnops
  rw [hnops] at HW ⊢
  clear hS hw0 hR hnops
  go_enter Tryz.func51, Tryz.ntmps51
  go_upto_region 1 with (fail)
  rw [← HW.o]
  clear HW
  go_wp2_with fail
  have hlen : cs.length ≤ 8 := by have := HS.o.ten.len; have := HS.o.hq.c2; omega
  by_cases hct : ctr = maxTok
  · have HE := hd (HE1.o hct)
    have hv := HS.o.v.blk
    rw [hct] at hv
    have D := hd (bdraw_no w0 b c y.mb hv)
    have a1 : w0.cell? ⟨ab, 1, none⟩ = some (.int .i64 0) := HS.o.a.at_ 1 rfl
    have f1 := HS.o.a.frozen 1
    have al1 := HS.o.a.lt
    clear hct hv HE1 HE2 q0
    refine D.o.mono ?_
    rintro e w3 ⟨rfl, rfl⟩
    go_wp2_with fail
    refine bodyPost_ret (results_none rfl _ _ _) rfl ?_
    refine ⟨⟨_, rfl⟩, ?_⟩
    rw [HE.o]
    exact (HS.o.same (Below.refl _ _) (one_ab w0 ab 1 _) rfl (HS.o.a.set_ 1 _) (Row.nil _ (fun _ => True) 39 4).rds).w rfl
  · have HE := hd (HE2.o hct)
    have D := hd (bdraw_yes w0 b c ctr y.mb HS.o.v.blk HS.o.h0 HS.o.hm hct)
    have HC0 : Hd (ctr + 1 ≤ maxTok) := hd (by have := HS.o.hm; omega)
    clear hct HE1 HE2 q0
    refine D.o.mono ?_
    rintro e w3 ⟨rfl, hw3⟩
    have HV3 : Hd (BkV w3 y b c (ctr + 1) ts nm (cs.length : Nat) (bytesT cs) cs ∧ Blk w3 ab 39 (rsEnc (rsE 3 0) none 0 0).toArray ∧ Blk w3 w.heap.size 45 _ ∧ Chg (fun k => y.lam k ≠ .no) w w3 ∧ ColR w3 (fun k => y.lam k = .cl nm col) (y.cb nm col) s) := hd (by
      have hlb := HS.o.v.lb
      have hne : ab ≠ b := fun e => by have := HS.o.nab; rw [e, hlb] at this; cases this
      have hne2 : w.heap.size ≠ b := fun e => by have := HS.o.low b (by rw [hlb]; exact nofun); omega
      rw [← hw3]
      exact ⟨HS.o.v.draw _, HS.o.a.far hne _, HS.o.box.far hne2 _, (Chg.of_below _ HS.o.below).setCell (.inl (by rw [hlb]; exact nofun)) _, HS.o.col.chg ((Chg.refl (One b) w0).setCell (p := ⟨b, 8, none⟩) (.inl rfl) _) (fun k hk he => by cases he; rw [hlb] at hk; cases hk)⟩)
    clear hw3 D q2
    have t0 : w3.cell? ⟨y.tb nm, 0, none⟩ = some (.pointer (some ⟨y.ob nm, 0, none⟩)) := HV3.o.1.tblk.at_ 0 rfl
    have x2 : w3.cell? ⟨w.heap.size, 2, none⟩ = some (.string (bs col)) := HV3.o.2.2.1.at_ 2 rfl
    have DL : Hd (Calls Tryz.prog 81 #[.pointer (some ⟨y.ob nm, 0, none⟩), .string (bs col)] w3.drew fun e w' => e = .returned (.bool true) ∧ OmEntCp w' (Plus (fun k => y.lam k = .tm nm) w3.drew.heap.size) (y.ob nm) (delM (ptrs (y.cb nm) cs) col) ∧ Chg (fun k => y.lam k = .tm nm) w3.drew w') := hd (by
      have h1 := omdelEntCp_calls w3.drew _ (y.ob nm) (ptrs (y.cb nm) cs) col HV3.o.1.tom.drew (by rw [ptrs_len]; omega)
      rw [ptrs_has, HHAS.o] at h1
      exact h1)
    have HNW : Hd (y.lam w.heap.size = .no) := hd (by
      cases hl : y.lam w.heap.size with
      | no => rfl
      | _ => have := HS.o.low w.heap.size (by rw [hl]; exact nofun); omega)
    have HJ := hd (fun (W : World) (hc : Chg (fun k => y.lam k = .tm nm) w3.drew W) => ((⟨((HV3.o.1.tblk.drew).chg hc (fun h => by have h : y.lam (y.tb nm) = .tm nm := h; rw [HV3.o.1.tlt] at h; cases h)).at_ 0 rfl, ((HV3.o.2.2.1.drew).chg hc (fun h => by have h : y.lam w.heap.size = .tm nm := h; rw [HNW.o] at h; cases h)).at_ 2 rfl⟩) : W.cell? ⟨y.tb nm, 0, none⟩ = some (.pointer (some ⟨y.ob nm, 0, none⟩)) ∧ W.cell? ⟨w.heap.size, 2, none⟩ = some (.string (bs col))))
    go_wp2_with fail
    go_region_held3 (fun w' => w'.cell? ⟨y.tb nm, 0, none⟩ = some (.pointer (some ⟨y.ob nm, 0, none⟩)) ∧ w'.cell? ⟨w.heap.size, 2, none⟩ = some (.string (bs col))) (first | go_keep | (with_reducible exact ⟨t0, x2⟩) | (with_reducible exact ⟨j0, j2⟩)) (first
      | (go_at_call 81; with_reducible refine DL.o.mono ?_; rintro e w4 ⟨rfl, hO, hc4⟩; have HO4 := hd hO; have HC4 := hd hc4; have j0 := (HJ.o _ hc4).1; have j2 := (HJ.o _ hc4).2; clear hO hc4))
    have HV4 : Hd (BkV w4 (y.to w3.drew.heap.size w4.heap.size (.tm nm)) b c (ctr + 1) ts nm (cs.length : Nat) (bytesT cs) (delM cs col) ∧ Blk w4 ab 39 (rsEnc (rsE 3 0) none 0 0).toArray ∧ Chg (fun k => y.lam k ≠ .no) w w4 ∧ ColR w4 (fun k => y.lam k = .cl nm col) (y.cb nm col) s) := hd
      ⟨(HV3.o.1.chg ((Chg.refl Non w3).drew) (fun _ h => h.elim)).less HS.o.ten.rise HC4.o HO4.o, (HV3.o.2.1.drew).chg HC4.o (fun h => by have h : y.lam ab = .tm nm := h; rw [HS.o.nab] at h; cases h), (HV3.o.2.2.2.1.drew).trans HC4.o (fun k hk => .inl (by have hk : y.lam k = .tm nm := hk; rw [hk]; exact nofun)),
        (HV3.o.2.2.2.2.chg ((Chg.refl Non w3).drew) (fun _ _ h => h.elim)).chg HC4.o (fun k hk h => by have h : y.lam k = .tm nm := h; have hk : y.lam k = .cl nm col := hk; rw [hk] at h; cases h)⟩
    have HSZ : Hd (w.heap.size ≤ w3.drew.heap.size) := hd HV3.o.2.2.2.1.size
    clear t0 x2 j0 j2 HJ DL HO4 HC4
    obtain ⟨y2, hy2⟩ : ∃ y2, y2 = y.to w3.drew.heap.size w4.heap.size (.tm nm) := ⟨_, rfl⟩
    have HY2 : Hd (y.Sub y2 w.heap.size ∧ y2.lam ab = .no ∧ y2.tb = y.tb ∧ y2.bb = y.bb ∧ y2.cb = y.cb) := hd (by
      subst hy2
      refine ⟨y.to_sub _ _ HSZ.o, ?_, rfl, rfl, rfl⟩
      show relab y.lam _ _ _ ab = .no
      rw [relab_old (Nat.lt_of_lt_of_le HS.o.abl HSZ.o)]
      exact HS.o.nab)
    rw [← hy2] at HV4
    clear hy2
    have t1 : w4.cell? ⟨y.tb nm, 1, none⟩ = some (.pointer (some ⟨y.bb nm, 0, none⟩)) := by
      have h1 := HV4.o.1.tblk.at_ 1 rfl
      rw [HY2.o.2.2.1, HY2.o.2.2.2.1] at h1
      exact h1
    have CB := hd (fun m => cbytes_calls (w4.drewN m) _ (y.cb nm col) s (HV4.o.2.2.2.below (bdrewN (Below.refl _ _) m)))
    have CBd := hd (cbytes_calls w4.drew _ (y.cb nm col) s (HV4.o.2.2.2.chg ((Chg.refl Non w4).drew) (fun _ _ h => h.elim)))
    have hge := bytesT_get HGET.o
    have hbn := bytesM_nn s.ml
    have htb := HS.o.ten.bytes
    have hq2 := HS.o.hq.b2
    have hl1 := delM_lenN HS.o.ten.rise HHAS.o
    have CL := hd (qclose_calls c.q (cs.length : Nat) (bytesT cs) (y.bb nm) w4.drew (by have h1 := HV4.o.1.bud; rw [HY2.o.2.2.2.1] at h1; exact h1.drew) (bytesM s.ml) (by omega) (by omega) hbn hge (by omega))
    have HBB : Hd (y.tb nm ≠ y.bb nm) := hd (by
      intro e
      have h1 := HV4.o.1.lbu
      have h2 := HV4.o.1.tlt
      rw [HY2.o.2.2.2.1] at h1
      rw [HY2.o.2.2.1, e, h1] at h2
      cases h2)
    have HJ2 := hd (fun (W : World) (hc : Chg (One (y.bb nm)) w4.drew W) => (by
      have h1 := (HV4.o.1.tblk.drew).chg hc (by rw [HY2.o.2.2.1]; exact HBB.o)
      have h1 := h1.at_ 1 rfl
      rw [HY2.o.2.2.1, HY2.o.2.2.2.1] at h1
      exact h1 : W.cell? ⟨y.tb nm, 1, none⟩ = some (.pointer (some ⟨y.bb nm, 0, none⟩))))
    have HLEN := hd hl1
    clear hge hbn htb hq2 hl1 hlen
    go_wp2_with fail
    go_region_held3 (fun w' => w'.cell? ⟨y.tb nm, 1, none⟩ = some (.pointer (some ⟨y.bb nm, 0, none⟩))) (first | go_keep | (with_reducible exact t1) | (with_reducible exact j1)) (first
      | (go_at_call 83; with_reducible refine CBd.o.mono ?_; rintro e w5 ⟨rfl, rfl⟩)
      | (go_at_call 82; with_reducible refine CL.o.mono ?_; rintro e w5 ⟨⟨v, rfl⟩, hb5, hc5⟩; have HB5 := hd hb5; have HC5 := hd hc5; have j1 := HJ2.o _ hc5; clear hb5 hc5))
    have hlu : y2.lam (y.bb nm) = .bu nm := by have h1 := HV4.o.1.lbu; rw [HY2.o.2.2.2.1] at h1; exact h1
    have hA5 : Blk w5 ab 39 (rsEnc (rsE 3 0) none 0 0).toArray := (HV4.o.2.1.drew).chg HC5.o (fun h => by have h : ab = y.bb nm := h; have h2 := HY2.o.2.1; rw [h, hlu] at h2; cases h2)
    have HA5 := hd hA5
    have HLU := hd hlu
    have a2 : w5.cell? ⟨ab, 2, none⟩ = some (.int .i64 0) := hA5.at_ 2 rfl
    have f2 := hA5.frozen 2
    have al5 := hA5.lt
    clear hA5 hlu t1 j1 CB CBd CL HJ2
    go_wp2_with fail
    go_end0
    refine ⟨⟨_, rfl⟩, ?_⟩
    rw [HE.o]
    have hv5 := (HV4.o.1.chg ((Chg.refl Non w4).drew) (fun _ h => h.elim)).budget (w' := w5) (n' := (cs.length : Nat) - 1) (by' := bytesT cs - bytesM s.ml) (by rw [HY2.o.2.2.2.1]; exact HC5.o) (by rw [HY2.o.2.2.2.1]; exact HB5.o)
    have hc5 : Chg (fun k => y.lam k ≠ .no) w w5 := (HV4.o.2.2.1.drew).trans HC5.o (fun k hk => by
      have hk : k = y.bb nm := hk
      exact HY2.o.1 k (by rw [hk, HLU.o]; exact nofun))
    refine (ans_mk (y := y) rfl ((hv5.chg (one_ab w5 ab 2 _) (fun k hk => by cases hk; exact HY2.o.2.1)).shut ?_ ?_) HY2.o.1 HY2.o.2.1 (HA5.o.set_ 2 _) (chg_ab hc5 2 _)).w rfl
    · have := HLEN.o
      show ((cs.length : Nat) : Int) - 1 = ((delM cs col).length : Nat)
      omega
    · show bytesT cs - bytesM s.ml = bytesT (delM cs col)
      rw [bytesT_del _ HS.o.ten.rise, HGET.o]
end

end Go.Proofs.YtfacfdjapjhpeaaGreatDoor
namespace Go.Proofs.YtfacfdjapjhpeaaGreatDoor
open Go.RowKit Go.Lib

theorem bwithin_calls (w : World) (y : Lay) (b ab : Nat) (c : Cf) (ctr : Int) (ts : ML (ML Cs)) (nm : List UInt8) (cs : ML Cs) (q : Rq) (A : Option Addr) (cp : Nat) (s : Cs)
    (h : BkV w y b c ctr ts nm (cs.length : Nat) (bytesT cs) cs) (hQ : QtOk c.q) (h0 : 0 ≤ ctr) (hm : ctr ≤ maxTok) (ht : TnOk c.q ctr cs) (hg : getM cs q.col = some s) (ha : Blk w ab 39 (rsEnc (rsE q.k 0) none 0 0).toArray) (hab : y.lam ab = .no)
    (hq : chk q = 0) (hk : 2 ≤ q.k ∧ q.k ≤ 9) (h2 : q.k ≠ 2) (hr : Rds w A q.ops.length 5 (opsE q.ops)) (hnc : q.ops.length ≤ cp) (hof : ∀ z, OfN A q.ops.length z → y.lam z = .no) (hAa : ∀ z, OfN A q.ops.length z → z ≠ ab) :
    Calls Tryz.prog 51 #[.pointer (some ⟨b, 0, none⟩), .pointer (some ⟨y.tb nm, 0, none⟩), .pointer (some ⟨y.cb nm q.col, 0, none⟩), reqV q A cp, .pointer (some ⟨ab, 0, none⟩)] w fun e w' => (∃ v, e = .returned v) ∧ AnsW w w' y b ab c ts nm (withinB c.q ctr cs q s) := by
  have hS := WiS.mk' A cp h hQ h0 hm ht hg ha hab
  obtain ⟨hop, hl8⟩ := chk_ops hq
  have hoq := (chk_opsQ hq).1
  have hcase : q.k = 3 ∨ q.k = 4 ∨ q.k = 5 ∨ q.k = 6 ∨ q.k = 7 ∨ q.k = 8 ∨ q.k = 9 := by omega
  rcases hcase with hk | hk | hk | hk | hk | hk | hk
  · exact bwithin_drop w y b ab c ctr ts nm cs q A cp s hk hS
  · exact bwithin_put w y b ab c ctr ts nm cs q A cp s hk hS (hoq _ (by unfold opsQ; rw [if_pos hk]; simp))
  · exact bwithin_del w y b ab c ctr ts nm cs q A cp s hk hS (hoq _ (by unfold opsQ; rw [if_neg (by omega), if_pos hk]; simp))
  · exact bwithin_get w y b ab c ctr ts nm cs q A cp s hk hS
  · exact bwithin_batch w y b ab c ctr ts nm cs q A cp s hk hS hop hl8 hr hnc hof hAa
  · exact bwithin_delta w y b ab c ctr ts nm cs q A cp s hk hS
  · exact bwithin_wait w y b ab c ctr ts nm cs q A cp s hk hS

end Go.Proofs.YtfacfdjapjhpeaaGreatDoor
namespace Go.Proofs.YtfacfdjapjhpeaaGreatDoor
open Go.Shelf
def lays101_ren : Go.Shelf.Ren := ⟨fun | 101 => 273 | 208 => 281 | 206 => 139 | n => n, fun | 9 => 9 | 4 => 4 | 3 => 3 | n => n, fun | n => n⟩
theorem lays101 : Go.Proofs.Lays.n101 Tryz.prog lays101_ren := {
  mixed := by kernel_rfl
  f101 := Tryz.func273.trans (congrArg some (by kernel_rfl))
  f206 := Tryz.func139.trans (congrArg some (by kernel_rfl))
  f208 := Tryz.func281.trans (congrArg some (by kernel_rfl))
  t3 := Tryz.underlying3
  a3 := Tryz.isAgg3
  z3 := Tryz.sizeOf3
  v3 := Tryz.zeroValue3
  t4 := Tryz.underlying4
  a4 := Tryz.isAgg4
  z4 := Tryz.sizeOf4
  v4 := Tryz.zeroValue4
  t9 := Tryz.underlying9
  a9 := Tryz.isAgg9
  z9 := Tryz.sizeOf9
  v9 := Tryz.zeroValue9 }
end Go.Proofs.YtfacfdjapjhpeaaGreatDoor
