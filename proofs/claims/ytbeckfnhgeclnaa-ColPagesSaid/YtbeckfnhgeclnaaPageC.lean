/-
  Page, both.
-/
import Derived.Test.YtbeckfnhgeclnaaSinceC
import Derived.Test.YtbeckfnhgeclnaaSplit
set_option linter.unusedVariables false
set_option linter.unusedSimpArgs false
namespace Go.Proofs.Ytbeckfnhgeclnaa
open Go.RowKit Go.Lib

theorem results_tmp4 {fn : Func} {t u v x : Tmp} (h : fn.results = #[.tmp t, .tmp u, .tmp v, .tmp x]) (tmps : Array Value) (P : Program) (w : World) :
    (results fn tmps).run P w = .ok (.tuple #[tmps.getD t undef, tmps.getD u undef, tmps.getD v undef, tmps.getD x undef]) w := by
  simp [results, h]

theorem splitG_ge (l : List It) : ∀ f n, splitG l f n = l.length ∨ n ≤ splitG l f n
  | 0, _ => .inl rfl
  | f + 1, n => by
    unfold splitG
    split
    · split
      · exact .inr (Nat.le_refl _)
      · rcases splitG_ge l f (n + 1) with h | h
        · exact .inl h
        · exact .inr (by omega)
    · exact .inl rfl
theorem splitP_pos (l : List It) (most : Int) : splitP l most = l.length ∨ 1 ≤ splitP l most := by
  unfold splitP splitV
  rcases splitG_ge l (l.length - (max most 1).toNat) (max most 1).toNat with h | h
  · exact .inl h
  · exact .inr (by omega)
/-- What a page is. -/
def pageN (l : List It) (tok most : Int) : Nat := if tok = 0 then l.length else splitP l most
def pageP (l : List It) (tok most latest : Int) : List It × Int × Bool := if pageN l tok most = l.length then (l, latest, false) else (l.take (pageN l tok most), (l.getD (pageN l tok most - 1) default).ver, true)
def pageR (l : List It) (tok most latest err : Int) : List It × Int × Bool := if err = 0 then pageP l tok most latest else ([], 0, false)
theorem Rds.takeN {w : World} {A : Option Addr} {n : Nat} {l : List It} (h : Rds w A n 4 (itsEnc l)) (m : Nat) (hm : m ≤ n) : Rds w A (l.take m).length 4 (itsEnc (l.take m)) := by
  have hl := h.len
  rw [itsEnc_len'] at hl
  have : (l.take m).length = m := by rw [List.length_take]; omega
  rw [this]
  exact h.takeI m hm

set_option maxRecDepth 100000 in
set_option maxHeartbeats 4000000 in
theorem cpage_calls {B : Nat} {w wr : World} {b1 b2 : Nat} {s1 s2 : Cs} (h : TwoC B w wr b1 b2 s1 s2) (tok most : Int) (hl : s1.ml.length ≤ 1000000) (hlg : s1.log.length ≤ 1000000) :
    Calls Try.prog 50 #[.pointer (some ⟨b1, 0, none⟩), .int .i64 tok, .int .i64 most] wr fun e w' => ∃ l' err A c, e = .returned (.tuple #[.slice A (pageR l' tok most s1.latest err).1.length c, .int .i64 (pageR l' tok most s1.latest err).2.1, .bool (pageR l' tok most s1.latest err).2.2, .int .i64 err]) ∧ SinceIs s1 tok l' err ∧ Rds w' A (pageR l' tok most s1.latest err).1.length 4 (itsEnc (pageR l' tok most s1.latest err).1) ∧ TwoC B w w' b1 b2 s1 s2 ∧ Below wr.heap.size wr w' := by
  have HS := hd (twoc_since1 h tok hl hlg)
  have HLA := hd (fun (w' : World) (h' : TwoC B w w' b1 b2 s1 s2) => (by
    obtain ⟨S, T, ⟨mb, rb, S1, S2, hb, _⟩, _⟩ := h'.ex
    exact hb.at_ 4 rfl : w'.cell? ⟨b1, 4, none⟩ = some (.int .i64 s1.latest)))
  generalize s1.latest = la at *
  clear h
  go_enter Try.func50, Try.ntmps50
  go_wp2_with fail
  refine HS.o.mono ?_
  rintro e w2 ⟨l', err, A, c, rfl, hs, hr, hO, hb⟩
  have HSI := hd hs
  have HROW := hd hr
  have HO := hd hO
  have HB := hd hb
  have hle := since_len hs
  have hcap := hr.cap
  clear hs hr hO hb HS
  by_cases he : err = 0
  · subst he
    have hpr : ∀ la, pageR l' tok most la 0 = pageP l' tok most la := fun la => by unfold pageR; rw [if_pos rfl]
    have HPR := hd hpr
    have HPN : Hd (pageN l' tok most ≤ l'.length ∧ (pageN l' tok most = l'.length ∨ 1 ≤ pageN l' tok most)) := hd (by
      unfold pageN
      split
      · exact ⟨Nat.le_refl _, .inl rfl⟩
      · exact ⟨splitP_le _ _, splitP_pos _ _⟩)
    have HSP := hd (csplit_calls w2 A l'.length c l' most HROW.o.rds rfl (by omega) hcap.1)
    have HPZ : Hd (tok = 0 → pageN l' tok most = l'.length) := hd (fun h => by unfold pageN; rw [if_pos h])
    have HPS : Hd (tok ≠ 0 → splitP l' most = pageN l' tok most) := hd (fun h => by unfold pageN; rw [if_neg h])
    have HPP : Hd (pageP l' tok most la = if pageN l' tok most = l'.length then (l', la, false) else (l'.take (pageN l' tok most), (l'.getD (pageN l' tok most - 1) default).ver, true)) := hd rfl
    obtain ⟨q, hq⟩ : ∃ q, l'.length = q := ⟨_, rfl⟩
    obtain ⟨pn, hpn⟩ : ∃ q, pageN l' tok most = q := ⟨_, rfl⟩
    have HQ := hd hq
    rw [hq] at HPN HSP HPZ HPP HROW hle hcap
    rw [hpn] at HPN HPZ HPS HPP
    simp only [hq]
    clear hq hpn hpr
    have l4 := HLA.o w2 HO.o
    have HSP2 : Hd (tok ≠ 0 → Calls Try.prog 48 #[.slice A q c, .int .i64 most] w2 fun e w' => e = .returned (.int .i64 (pn : Nat)) ∧ Below w2.heap.size w2 w') := hd (fun h => by rw [← HPS.o h]; exact HSP.o)
    clear HSP
    go_upto_if 23 with (fail)
    go_cut [10] from 23 to 26 (fun s10 wx => s10 = .int .i64 (pn : Nat) ∧ Hd (Below w2.heap.size w2 wx))
    case first =>
      by_cases ht : tok = 0
      · have f1 : (tok != 0) = false := by simpa using ht
        have hpq := HPZ.o ht
        clear ht
        subst hpq
        go_wp2_with fail
        go_meet
        exact ⟨rfl, hd (Below.refl _ _)⟩
      · have f1 : (tok != 0) = true := by simpa using ht
        have HC := hd (HSP2.o ht)
        clear ht
        go_wp2_with fail
        refine HC.o.mono ?_
        rintro e w3 ⟨rfl, hb⟩
        have HB3 := hd hb
        clear hb
        go_wp2_with fail
        go_meet
        exact ⟨rfl, HB3⟩
    case rest =>
      obtain ⟨rfl, HB3⟩ := hcut
      have HO3 := hd (HO.o.bel HB3.o)
      have HR3 := hd (HROW.o.below HB3.o)
      have HBF := hd (HB.o.trans (HB3.o.mono HB.o.size))
      have y4 := HLA.o wc HO3.o
      clear HSP2 l4 HO HROW
      by_cases hpq : pn = q
      · have f1 : ((pn : Int) == (q : Int)) = true := by rw [hpq]; simp
        have HP : Hd (pageR l' tok most la 0 = (l', la, false)) := hd (by rw [HPR.o, HPP.o, if_pos hpq])
        clear hpq
        go_wp2_with fail
        go_quiet (fail)
        go_wp2
        (try simp only [Exit.inBlock, Exit.then]); refine bodyPost_ret (results_tmp4 rfl _ _ _) rfl ?_
        exact ⟨l', 0, A, c, by rw [HP.o]; show _ = Ending.returned (.tuple #[.slice A l'.length c, _, _, _]); rw [HQ.o]; rfl, HSI.o, by rw [HP.o]; show Rds _ A l'.length 4 (itsEnc l'); rw [HQ.o]; exact (HR3.o.drewN _).rds, HO3.o.drewN _, bdrewN HBF.o _⟩
      · have f1 : ((pn : Int) == (q : Int)) = false := by simp; omega
        have hp1 : 1 ≤ pn := by have := HPN.o; omega
        obtain ⟨p, rfl⟩ : ∃ p, pn = p + 1 := ⟨pn - 1, by omega⟩
        have hpl : p + 1 < q := by have := HPN.o; omega
        have HPL := hd hpl
        have hpll : p < l'.length := by rw [HQ.o]; omega
        obtain ⟨g, rfl, _, _, hqc, _, hcl, _⟩ := HR3.o.at_ (by omega)
        obtain ⟨v, hv⟩ : ∃ v, (l'[p]'hpll).ver = v := ⟨_, rfl⟩
        have k1 := hcl (p * 4 + 1) _ ((flat_at itEnc 4 itEnc_len l' p hpll 1 (by omega)).trans (by simp [itEnc]; rfl))
        rw [hv] at k1
        have HP : Hd (pageR l' tok most la 0 = (l'.take (p + 1), v, true)) := hd (by
          rw [HPR.o, HPP.o, if_neg hpq]
          simp only [Nat.add_sub_cancel]
          rw [List.getD_eq_getElem?_getD, List.getElem?_eq_getElem hpll, Option.getD_some, hv])
        have hpi : (p : Int) < (q : Int) := by omega
        have hpc : (p : Int) + 1 ≤ (c : Int) := by omega
        have hp0 : (0 : Int) ≤ (p : Int) + 1 := by omega
        have HLT : Hd ((l'.take (p + 1)).length = p + 1) := hd (by rw [List.length_take, HQ.o]; omega)
        clear hpq hcl hv hpll hp1 hpl
        go_wp2_with fail
        go_quiet (fail)
        go_wp2
        (try simp only [Exit.inBlock, Exit.then]); refine bodyPost_ret (results_tmp4 rfl _ _ _) rfl ?_
        exact ⟨l', 0, _, p + 1, by rw [HP.o]; show _ = Ending.returned (.tuple #[.slice _ (l'.take (p + 1)).length _, _, _, _]); rw [HLT.o]; rfl, HSI.o, by rw [HP.o]; exact (HR3.o.drewN _).rds.takeN (p + 1) (by have := HPL.o; omega), HO3.o.drewN _, bdrewN HBF.o _⟩
  · have hen : (err != 0) = true := by simpa using he
    have hpr : pageR l' tok most la err = ([], 0, false) := by unfold pageR; rw [if_neg he]
    have HPR := hd hpr
    clear he hpr
    go_wp2
    (try simp only [Exit.inBlock, Exit.then]); refine bodyPost_ret (results_tmp4 rfl _ _ _) rfl ?_
    refine ⟨l', err, none, 0, by rw [HPR.o]; rfl, HSI.o, by rw [HPR.o]; exact (Row.nil w2 (fun _ => True) 41 4).rds, HO.o, HB.o⟩

theorem RowO.cap {w : World} {S : Nat → Prop} {e : TypeId} {size n c : Nat} {A : Option Addr} {xs : List Value} (h : RowO w S e size A n c xs) : n ≤ c := by
  rcases h with h | ⟨rfl, rfl, rfl⟩
  · exact h.cap.1
  · exact Nat.le_refl _
theorem RowO.pos {w : World} {S : Nat → Prop} {e : TypeId} {size n c : Nat} {A : Option Addr} {xs : List Value} (h : RowO w S e size A n c xs) (hn : 0 < n) : Row w S e size A n c xs := by
  rcases h with h | ⟨rfl, _, _⟩
  · exact h
  · omega
theorem RowO.below {w w' : World} {S : Nat → Prop} {e : TypeId} {size n c : Nat} {A : Option Addr} {xs : List Value} (h : RowO w S e size A n c xs) (hb : Below w.heap.size w w') : RowO w' S e size A n c xs := h.imp (fun h => h.below hb) id
theorem outR_len (ml : ML Ce) (tok : Int) : ∀ l : List Ch, (outR ml tok l).length ≤ l.length := by
  refine ind_snoc (by simp [outR]) fun l x ih => ?_
  rw [outR_snoc]
  have := stepR_len ml tok (outR ml tok l) x
  rw [List.length_append, List.length_singleton]
  omega
theorem rsince_len {s : Cs} {tok : Int} {l' : List It} {err : Int} (h : RSinceIs s tok l' err) : l'.length ≤ s.ml.length ∨ l'.length ≤ s.log.length := by
  rcases h with ⟨_, _, h⟩ | ⟨_, _, _, h⟩ | ⟨_, _, _, h⟩
  · left; rw [h.1.length_eq, liveL_len]; exact Nat.le_refl _
  · left; rw [h]; exact Nat.zero_le _
  · right; rw [h.1.length_eq]; have := outR_len s.ml tok s.log.reverse; simpa using this

set_option maxRecDepth 100000 in
set_option maxHeartbeats 4000000 in
theorem rpage_calls {B : Nat} {w wr : World} {b1 b2 : Nat} {s1 s2 : Cs} (h : TwoC B w wr b1 b2 s1 s2) (tok most : Int) (hl : s2.ml.length ≤ 1000000) (hlg : s2.log.length ≤ 1000000) :
    Calls Try.prog 51 #[.pointer (some ⟨b2, 0, none⟩), .int .i64 tok, .int .i64 most] wr fun e w' => ∃ l' err A c, e = .returned (.tuple #[.slice A (pageR l' tok most s2.latest err).1.length c, .int .i64 (pageR l' tok most s2.latest err).2.1, .bool (pageR l' tok most s2.latest err).2.2, .int .i64 err]) ∧ RSinceIs s2 tok l' err ∧ Rds w' A (pageR l' tok most s2.latest err).1.length 4 (itsEnc (pageR l' tok most s2.latest err).1) ∧ TwoC B w w' b1 b2 s1 s2 ∧ Below wr.heap.size wr w' := by
  have HS := hd (twoc_since2o h tok hl hlg)
  have HLA := hd (fun (w' : World) (h' : TwoC B w w' b1 b2 s1 s2) => (by
    obtain ⟨S, T, _, ⟨A0, c0, A00, c00, hb, _⟩, _⟩ := h'.ex
    exact hb.at_ 4 rfl : w'.cell? ⟨b2, 4, none⟩ = some (.int .i64 s2.latest)))
  generalize s2.latest = la at *
  clear h
  go_enter Try.func51, Try.ntmps51
  go_wp2_with fail
  refine HS.o.mono ?_
  rintro e w2 ⟨l', err, A, c, rfl, hs, hr, hO, hb⟩
  have HSI := hd hs
  have HROW := hd hr
  have HO := hd hO
  have HB := hd hb
  have hle := rsince_len hs
  have hcap := RowO.cap hr
  clear hs hr hO hb HS
  by_cases he : err = 0
  · subst he
    have hpr : ∀ la, pageR l' tok most la 0 = pageP l' tok most la := fun la => by unfold pageR; rw [if_pos rfl]
    have HPR := hd hpr
    have HPN : Hd (pageN l' tok most ≤ l'.length ∧ (pageN l' tok most = l'.length ∨ 1 ≤ pageN l' tok most)) := hd (by
      unfold pageN
      split
      · exact ⟨Nat.le_refl _, .inl rfl⟩
      · exact ⟨splitP_le _ _, splitP_pos _ _⟩)
    have HSP := hd (rsplit_calls w2 A l'.length c l' most (RowO.rds HROW.o) rfl (by omega))
    have HPZ : Hd (tok = 0 → pageN l' tok most = l'.length) := hd (fun h => by unfold pageN; rw [if_pos h])
    have HPS : Hd (tok ≠ 0 → splitP l' most = pageN l' tok most) := hd (fun h => by unfold pageN; rw [if_neg h])
    have HPP : Hd (pageP l' tok most la = if pageN l' tok most = l'.length then (l', la, false) else (l'.take (pageN l' tok most), (l'.getD (pageN l' tok most - 1) default).ver, true)) := hd rfl
    obtain ⟨q, hq⟩ : ∃ q, l'.length = q := ⟨_, rfl⟩
    obtain ⟨pn, hpn⟩ : ∃ q, pageN l' tok most = q := ⟨_, rfl⟩
    have HQ := hd hq
    rw [hq] at HPN HSP HPZ HPP HROW hle hcap
    rw [hpn] at HPN HPZ HPS HPP
    simp only [hq]
    clear hq hpn hpr
    have l4 := HLA.o w2 HO.o
    have HSP2 : Hd (tok ≠ 0 → Calls Try.prog 49 #[.slice A q c, .int .i64 most] w2 fun e w' => e = .returned (.int .i64 (pn : Nat)) ∧ Below w2.heap.size w2 w') := hd (fun h => by rw [← HPS.o h]; exact HSP.o)
    clear HSP
    go_upto_if 25 with (fail)
    go_cut [12] from 25 to 28 (fun s10 wx => s10 = .int .i64 (pn : Nat) ∧ Hd (Below w2.heap.size w2 wx))
    case first =>
      by_cases ht : tok = 0
      · have f1 : (tok != 0) = false := by simpa using ht
        have hpq := HPZ.o ht
        clear ht
        subst hpq
        go_wp2_with fail
        go_meet
        exact ⟨rfl, hd (Below.refl _ _)⟩
      · have f1 : (tok != 0) = true := by simpa using ht
        have HC := hd (HSP2.o ht)
        clear ht
        go_wp2_with fail
        refine HC.o.mono ?_
        rintro e w3 ⟨rfl, hb⟩
        have HB3 := hd hb
        clear hb
        go_wp2_with fail
        go_meet
        exact ⟨rfl, HB3⟩
    case rest =>
      obtain ⟨rfl, HB3⟩ := hcut
      have HO3 := hd (HO.o.bel HB3.o)
      have HR3 := hd (RowO.below HROW.o HB3.o)
      have HBF := hd (HB.o.trans (HB3.o.mono HB.o.size))
      have y4 := HLA.o wc HO3.o
      clear HSP2 l4 HO HROW
      by_cases hpq : pn = q
      · have f1 : ((pn : Int) == (q : Int)) = true := by rw [hpq]; simp
        have HP : Hd (pageR l' tok most la 0 = (l', la, false)) := hd (by rw [HPR.o, HPP.o, if_pos hpq])
        clear hpq
        go_wp2_with fail
        go_quiet (fail)
        go_wp2
        (try simp only [Exit.inBlock, Exit.then]); refine bodyPost_ret (results_tmp4 rfl _ _ _) rfl ?_
        exact ⟨l', 0, A, c, by rw [HP.o]; show _ = Ending.returned (.tuple #[.slice A l'.length c, _, _, _]); rw [HQ.o]; rfl, HSI.o, by rw [HP.o]; show Rds _ A l'.length 4 (itsEnc l'); rw [HQ.o]; exact RowO.rds (RowO.drewN HR3.o _), HO3.o.drewN _, bdrewN HBF.o _⟩
      · have f1 : ((pn : Int) == (q : Int)) = false := by simp; omega
        have hp1 : 1 ≤ pn := by have := HPN.o; omega
        obtain ⟨p, rfl⟩ : ∃ p, pn = p + 1 := ⟨pn - 1, by omega⟩
        have hpl : p + 1 < q := by have := HPN.o; omega
        have HPL := hd hpl
        have hpll : p < l'.length := by rw [HQ.o]; omega
        obtain ⟨g, rfl, _, _, hqc, _, hcl, _⟩ := (RowO.pos HR3.o (by omega)).at_ (by omega)
        obtain ⟨v, hv⟩ : ∃ v, (l'[p]'hpll).ver = v := ⟨_, rfl⟩
        have k1 := hcl (p * 4 + 1) _ ((flat_at itEnc 4 itEnc_len l' p hpll 1 (by omega)).trans (by simp [itEnc]; rfl))
        rw [hv] at k1
        have HP : Hd (pageR l' tok most la 0 = (l'.take (p + 1), v, true)) := hd (by
          rw [HPR.o, HPP.o, if_neg hpq]
          simp only [Nat.add_sub_cancel]
          rw [List.getD_eq_getElem?_getD, List.getElem?_eq_getElem hpll, Option.getD_some, hv])
        have hpi : (p : Int) < (q : Int) := by omega
        have hpc : (p : Int) + 1 ≤ (c : Int) := by omega
        have hp0 : (0 : Int) ≤ (p : Int) + 1 := by omega
        have HLT : Hd ((l'.take (p + 1)).length = p + 1) := hd (by rw [List.length_take, HQ.o]; omega)
        clear hpq hcl hv hpll hp1 hpl
        go_wp2_with fail
        go_quiet (fail)
        go_wp2
        (try simp only [Exit.inBlock, Exit.then]); refine bodyPost_ret (results_tmp4 rfl _ _ _) rfl ?_
        exact ⟨l', 0, _, _, by rw [HP.o]; show _ = Ending.returned (.tuple #[.slice _ (l'.take (p + 1)).length _, _, _, _]); rw [HLT.o]; rfl, HSI.o, by rw [HP.o]; exact (RowO.rds (RowO.drewN HR3.o _)).takeN (p + 1) (by have := HPL.o; omega), HO3.o.drewN _, bdrewN HBF.o _⟩
  · have hen : (err != 0) = true := by simpa using he
    have hpr : pageR l' tok most la err = ([], 0, false) := by unfold pageR; rw [if_neg he]
    have HPR := hd hpr
    clear he hpr
    go_wp2
    (try simp only [Exit.inBlock, Exit.then]); refine bodyPost_ret (results_tmp4 rfl _ _ _) rfl ?_
    refine ⟨l', err, none, 0, by rw [HPR.o]; rfl, HSI.o, by rw [HPR.o]; exact (Row.nil w2 (fun _ => True) 41 4).rds, HO.o, HB.o⟩

end Go.Proofs.Ytbeckfnhgeclnaa
