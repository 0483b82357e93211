/-
  The reference's Since.
-/
import Derived.Test.YtbeckfnhgeclnaaRiseR
import Derived.Test.YtbeckfnhgeclnaaTwoC
import Derived.Deep.RegionLaw
import Derived.Deep.CutRange
import Derived.Deep.Cut
set_option linter.unusedVariables false
set_option linter.unusedSimpArgs false
namespace Go.Proofs.Ytbeckfnhgeclnaa
open Go.RowKit Go.Lib

/-- What the reference gathers. -/
def seenR (out : List It) (u : List UInt8) : Bool := out.any fun y => y.uid == u
def stepR (ml : ML Ce) (tok : Int) (out : List It) (x : Ch) : List It := if x.1 ≤ tok ∨ seenR out x.2 = true then out else out ++ [itAt ml x]
def outR (ml : ML Ce) (tok : Int) (l : List Ch) : List It := l.foldl (stepR ml tok) []
theorem outR_snoc (ml : ML Ce) (tok : Int) (l : List Ch) (x : Ch) : outR ml tok (l ++ [x]) = stepR ml tok (outR ml tok l) x := by simp [outR]
theorem stepR_len (ml : ML Ce) (tok : Int) (out : List It) (x : Ch) : (stepR ml tok out x).length ≤ out.length + 1 := by
  unfold stepR
  split <;> simp
def RSinceIs (s : Cs) (tok : Int) (l' : List It) (err : Int) : Prop :=
  (tok = 0 ∧ err = 0 ∧ SortedOf (liveL s.ml) l') ∨ (tok ≠ 0 ∧ s.bad tok = true ∧ err = 8 ∧ l' = []) ∨ (tok ≠ 0 ∧ s.bad tok = false ∧ err = 0 ∧ SortedOf (outR s.ml tok s.log.reverse) l')
theorem log_back (l : List Ch) (j : Nat) (h : j < l.length) : (l.drop j).reverse = (l.drop (j + 1)).reverse ++ [l[j]] := by
  rw [List.drop_eq_getElem_cons h, List.reverse_cons]
theorem seenR_take (out : List It) (u : List UInt8) (i : Nat) (h : i < out.length) : seenR (out.take (i + 1)) u = (seenR (out.take i) u || out[i].uid == u) := by
  unfold seenR
  rw [List.take_succ_eq_append_getElem h, List.any_append]
  simp

set_option maxHeartbeats 4000000 in
theorem rsince_zero (w : World) (S : Nat → Prop) (b : Nat) (s : Cs) (h : RCol w S b s) (hl : s.ml.length ≤ 1000000) :
    Calls Try.prog 35 #[.pointer (some ⟨b, 0, none⟩), .int .i64 0] w fun e w' => ∃ l' A c, e = .returned (.tuple #[.slice A l'.length c, .int .i64 0]) ∧ SortedOf (liveL s.ml) l' ∧ RowO w' (From w.heap.size) 41 4 A l'.length c (itsEnc l') ∧ Below w.heap.size w w' := by
  have HL := hd (rlive_calls w S b s h hl)
  have HRI := hd (fun (w' : World) (A : Option Addr) (c : Nat) (hr : RowO w' (From w.heap.size) 41 4 A s.ml.length c (itsEnc (liveL s.ml))) => rise_calls w' (From w.heap.size) A s.ml.length c (liveL s.ml) hr (liveL_len _).symm hl)
  obtain ⟨n, hn⟩ : ∃ n, s.ml.length = n := ⟨_, rfl⟩
  have HN := hd hn
  rw [hn] at HL HRI
  clear h hl hn
  go_enter Try.func35, Try.ntmps35
  go_wp2_with fail
  refine HL.o.mono ?_
  rintro e w1 ⟨A, c, rfl, hr, hb⟩
  have HR := hd hr
  have HB := hd hb
  clear hr hb
  go_wp2_with fail
  refine (HRI.o _ _ _ HR.o).mono ?_
  rintro e w2 ⟨rfl, l', hs, hr2, hc⟩
  have HS := hd hs
  have HR2 := hd hr2
  have HC := hd hc
  clear hs hr2 hc
  go_wp2
  go_ret2
  have hl' : l'.length = n := by rw [HS.o.1.length_eq, liveL_len, HN.o]
  exact ⟨l', A, c, by rw [hl']; rfl, HS.o, by rw [hl']; exact HR2.o, HB.o.trans (HC.o.below (fun q hq => hq) HB.o.size)⟩

set_option maxHeartbeats 4000000 in
theorem rsince_bad (w : World) (S : Nat → Prop) (b : Nat) (s : Cs) (tok : Int) (h : RCol w S b s) (h0 : tok ≠ 0) (hb : s.bad tok = true) :
    Calls Try.prog 35 #[.pointer (some ⟨b, 0, none⟩), .int .i64 tok] w fun e w' => e = .returned (.tuple #[.slice none 0 0, .int .i64 8]) ∧ Below w.heap.size w w' := by
  obtain ⟨A, c, A2, c2, hB, _⟩ := h
  have y4 := hB.at_ 4 rfl
  have y5 := hB.at_ 5 rfl
  have e0 : (tok == 0) = false := by simpa using h0
  have HB : Hd (tok < s.horizon ∨ (¬ tok < s.horizon ∧ s.latest < tok)) := hd (by
    unfold Cs.bad at hb
    by_cases c1 : tok < s.horizon
    · exact .inl c1
    · exact .inr ⟨c1, by simpa [c1] using hb⟩)
  generalize s.latest = la at *
  generalize s.horizon = ho at *
  clear hB h0 hb
  rcases HB.o with v | ⟨v, v2⟩
  · have f1 : decide (tok < ho) = true := by simpa using v
    clear v HB
    go_enter Try.func35, Try.ntmps35
    go_wp2
    go_ret2
    exact ⟨rfl, Below.refl _ _⟩
  · have f1 : decide (tok < ho) = false := by simpa using v
    have f2 : decide (la < tok) = true := by simpa using v2
    clear v v2 HB
    go_enter Try.func35, Try.ntmps35
    go_wp2
    go_ret2
    exact ⟨rfl, Below.refl _ _⟩

/-- Behind w, all of it as it was. -/
structure RB (w W : World) : Prop where
  below : Below w.heap.size w W
theorem RB.alloc {w W : World} (h : RB w W) (o : Obj) : RB w (W.alloc o) := ⟨h.below.alloc h.below.size o⟩
theorem RB.drew {w W : World} (h : RB w W) : RB w W.drew := ⟨bdrewN h.below 1⟩
theorem RB.drewN {w W : World} (h : RB w W) (q : Nat) : RB w (W.drewN q) := ⟨bdrewN h.below q⟩
theorem RB.chg {w W w2 : World} (h : RB w W) (hc : Chg (From w.heap.size) W w2) : RB w w2 := ⟨h.below.trans (hc.below (fun q hq => hq) h.below.size)⟩
theorem RB.row {w W w2 : World} (h : RB w W) {A : Option Addr} {n c : Nat} {xs : List Value} (hr : Row w2 (Plus (From w.heap.size) W.heap.size) 41 4 A n c xs) : Row w2 (From w.heap.size) 41 4 A n c xs := hr.mono fun q hq => hq.elim id (fun h2 => Nat.le_trans h.below.size h2)
theorem RB.both {w W w2 : World} (h : RB w W) {A : Option Addr} {n c : Nat} {xs : List Value} (hr : Row w2 (Plus (From w.heap.size) W.heap.size) 41 4 A n c xs) (hc : Chg (From w.heap.size) W w2) : RB w w2 ∧ Row w2 (From w.heap.size) 41 4 A n c xs := ⟨h.chg hc, h.row hr⟩
theorem its_app (l : List It) (x : It) : itsEnc (l ++ [x]) = itsEnc l ++ itEnc x := by simp [itsEnc]

set_option maxRecDepth 100000 in
set_option maxHeartbeats 8000000 in
theorem rsince_some (w : World) (S : Nat → Prop) (b : Nat) (s : Cs) (tok : Int) (h : RCol w S b s) (hri : Rising s.ml) (hl : s.ml.length ≤ 1000000) (hlg : s.log.length ≤ 1000000) (h0 : tok ≠ 0) (hb : s.bad tok = false) :
    Calls Try.prog 35 #[.pointer (some ⟨b, 0, none⟩), .int .i64 tok] w fun e w' => ∃ l' A c, e = .returned (.tuple #[.slice A l'.length c, .int .i64 0]) ∧ SortedOf (outR s.ml tok s.log.reverse) l' ∧ RowO w' (From w.heap.size) 41 4 A l'.length c (itsEnc l') ∧ Below w.heap.size w w' := by
  obtain ⟨i0, hi, hz0, hz1, hz2⟩ := info_parts itInfo
  have HGET := hd (fun (w' : World) (u : List UInt8) (hbe : RB w w') => rcget_calls w' S b s u (h.below hbe.below) hri hl)
  have HRISE := hd (fun (w' : World) (A : Option Addr) (n c : Nat) (l : List It) (hr : RowO w' (From w.heap.size) 41 4 A n c (itsEnc l)) (hn : n = l.length) (hnb : n ≤ 1000000) => rise_calls w' (From w.heap.size) A n c l hr hn hnb)
  obtain ⟨A, c, A2, c2, hB, _, hG, _⟩ := h
  obtain ⟨n, hn⟩ : ∃ n, s.log.length = n := ⟨_, rfl⟩
  have HN := hd hn
  have hG2 := hG.rds
  rw [hn] at hB hG2 hlg
  have KEEP : Hd (∀ W, RB w W → W.cell? ⟨b, 3, none⟩ = some (.slice A2 n c2)) := hd (fun W hW => (hB.below hW.below hB.lt).at_ 3 rfl)
  have HLOG : Hd (∀ j (hj : j < s.log.length), ∃ g, A2 = some ⟨g, 0, none⟩ ∧ ∀ W, RB w W → W.cell? ⟨g, j * 2, none⟩ = some (.int .i64 (s.log[j]).1) ∧ W.cell? ⟨g, j * 2 + 1, none⟩ = some (.string (bs (s.log[j]).2))) := hd (fun j hj => by
    obtain ⟨g, hA, _, hgl, _, _, hcl, _⟩ := hG.at_ (by omega)
    refine ⟨g, hA, fun W hW => ⟨?_, ?_⟩⟩
    · have := hcl (j * 2 + 0) _ ((chsEnc_at s.log j hj 0 (by omega)).trans rfl)
      exact (hW.below.cell (p := ⟨g, j * 2, none⟩) hgl).trans this
    · have := hcl (j * 2 + 1) _ ((chsEnc_at s.log j hj 1 (by omega)).trans rfl)
      exact (hW.below.cell (p := ⟨g, j * 2 + 1, none⟩) hgl).trans this)
  have y3 := hB.at_ 3 rfl
  have y4 := hB.at_ 4 rfl
  have y5 := hB.at_ 5 rfl
  have e0 : (tok == 0) = false := by simpa using h0
  have hbb : ¬ tok < s.horizon ∧ ¬ s.latest < tok := by
    unfold Cs.bad at hb
    simpa using hb
  have f1 : decide (tok < s.horizon) = false := by simpa using hbb.1
  have f2 : decide (s.latest < tok) = false := by simpa using hbb.2
  obtain ⟨log, hlog⟩ : ∃ l, s.log = l := ⟨_, rfl⟩
  obtain ⟨ml, hml⟩ : ∃ l, s.ml = l := ⟨_, rfl⟩
  obtain ⟨res, hres⟩ : ∃ l, outR ml tok log.reverse = l := ⟨_, rfl⟩
  have HRES := hd hres
  rw [hlog, hml, hres]
  rw [hlog] at HLOG HN
  rw [hml] at HGET
  have HONE : Hd (∀ L : List It, ∀ u ∈ itsEnc L, u.oneCell' = true) := hd (fun L u hu => by
    obtain ⟨x, _, h⟩ := List.mem_flatMap.1 hu
    exact itEnc_one x u h)
  generalize s.latest = la at *
  generalize s.horizon = ho at *
  clear hB hG hG2 h0 hb hbb hri hl hn hlog hml hres
  go_enter Try.func35, Try.ntmps35
  go_wp2_with fail
  clear y3 y4 y5 f1 f2 e0
  go_loopw [6, 7, 8, 9, 10, 11, 12] (fun o i _ _ _ _ _ wr => ∃ (k m : Nat) (iv : Int) (out : List It) (A3 : Option Addr) (c3 : Nat), i = .int .i64 iv ∧ iv = (k : Int) - 1 ∧ k ≤ n ∧ o = .slice A3 m c3 ∧ m + k ≤ n ∧ Hd (out.length = m) ∧ Hd (out = outR ml tok (log.drop k).reverse) ∧ Hd (Row wr (From w.heap.size) 41 4 A3 m c3 (itsEnc out)) ∧ Hd (RB w wr)) (fun _ i _ _ _ _ _ _ => (intOf i + 1).toNat)
  case atStart => exact ⟨n, 0, _, [], none, 0, rfl, rfl, Nat.le_refl _, rfl, by omega, hd rfl, hd (by rw [List.drop_eq_nil_of_le (by rw [HN.o]; exact Nat.le_refl _)]; rfl), hd (Row.nil _ _ _ _), hd ⟨Below.refl _ _⟩⟩
  case round =>
    obtain ⟨k, m, iv, out, A3, c3, rfl, hiv, hk, rfl, hm, HM, HOUT, HROW, HRB⟩ := hrel
    rcases k with _ | j
    · have hg0 : decide ((0 : Int) ≤ iv) = false := by simp; omega
      have HF : Hd (out = res) := hd (by rw [HOUT.o, List.drop_zero, HRES.o])
      have RI := hd (HRISE.o wr A3 m c3 out (.inl HROW.o) HM.o.symm (by omega))
      go_wp2_with fail
      refine RI.o.mono ?_
      rintro e w2 ⟨rfl, l', hs, hr2, hc⟩
      have HS := hd hs
      have HR2 := hd hr2
      have HC := hd hc
      clear hs hr2 hc
      go_wp2
      go_ret2
      have hl' : l'.length = m := by rw [HS.o.1.length_eq, HM.o]
      exact ⟨l', A3, c3, by rw [hl']; rfl, by rw [← HF.o]; exact HS.o, by rw [hl']; exact HR2.o, (HRB.o.chg HC.o).below⟩
    · obtain rfl : iv = (j : Int) := by omega
      have hjn : j < n := by omega
      have hji : (0 : Int) ≤ (j : Int) := by omega
      have hjni : (j : Int) < (n : Int) := by omega
      have hjl : j < log.length := by rw [HN.o]; exact hjn
      obtain ⟨g, hA2, hcl⟩ := HLOG.o j hjl
      obtain ⟨x, hx⟩ : ∃ x, log[j]'hjl = x := ⟨_, rfl⟩
      have hst : outR ml tok (log.drop j).reverse = stepR ml tok out x := by rw [log_back log j hjl, outR_snoc, ← HOUT.o, hx]
      rw [hx] at hcl
      obtain ⟨tk, u⟩ := x
      simp only at hcl
      have HST := hd hst
      have HCL := hd hcl
      have HA2 := hd hA2
      subst hA2
      have y3 := KEEP.o wr HRB.o
      have k0 := (HCL.o wr HRB.o).1
      clear hst hcl hx hjl hiv
      by_cases v : tk ≤ tok
      · have f1 : decide (tk ≤ tok) = true := by simpa using v
        have HO2 : Hd (out = outR ml tok (log.drop j).reverse) := hd (by rw [HST.o]; unfold stepR; rw [if_pos (.inl v)])
        clear v
        go_wp2
        go_roundw
        case rel => exact ⟨j, m, (j : Int) - 1, out, A3, c3, by first | rfl | go_num, rfl, by omega, rfl, by omega, HM, HO2, HROW, HRB⟩
        case measure => first | (simp [intOf]; done) | (simp [intOf]; omega)
      · have f1 : decide (tk ≤ tok) = false := by simpa using v
        have HV := hd v
        clear v
        obtain ⟨wo, rfl⟩ : ∃ wo : World, wo = wr := ⟨_, rfl⟩
        go_wp2_with fail
        go_loopw [8, 9] (fun se i2 wr => ∃ (q : Nat) (sb : Bool), i2 = .int .i64 q ∧ q ≤ m ∧ se = .bool sb ∧ Hd (sb = seenR (out.take q) u) ∧ Hd (∃ z, wr = wo.drewN z)) (fun _ i2 _ => m - (intOf i2).toNat)
        case atStart => exact ⟨0, false, rfl, Nat.zero_le _, rfl, hd rfl, hd ⟨0, rfl⟩⟩
        case round =>
          obtain ⟨q, sb, rfl, hq, rfl, HSB, HZ⟩ := hrel
          clear y3 k0
          have hqi : (0 : Int) ≤ (q : Int) := by omega
          have HRBi : Hd (RB w wr) := hd (by obtain ⟨z, rfl⟩ := HZ.o; exact HRB.o.drewN z)
          have HROWi : Hd (Row wr (From w.heap.size) 41 4 A3 m c3 (itsEnc out)) := hd (by obtain ⟨z, rfl⟩ := HZ.o; exact HROW.o.drewN z)
          have y3 := KEEP.o wr HRBi.o
          have k1 := (HCL.o wr HRBi.o).2
          by_cases hqm : q < m
          · have hqmi : (q : Int) < (m : Int) := by omega
            have hql : q < out.length := by rw [HM.o]; exact hqm
            obtain ⟨g3, rfl, hg3S, hg3l, _, _, hcl3, _⟩ := HROWi.o.at_ (by omega)
            obtain ⟨y, hy⟩ : ∃ y, out[q]'hql = y := ⟨_, rfl⟩
            have c0 := hcl3 (q * 4 + 0) _ ((flat_at itEnc 4 itEnc_len out q hql 0 (by omega)).trans (by rw [hy]; rfl))
            have hsn := seenR_take out u q hql
            rw [hy, ← HSB.o] at hsn
            obtain ⟨ou, ov, og, oc⟩ := y
            simp only [Nat.add_zero] at c0 hsn
            have heq := rstr_eq ou u
            have hbd : (ou == u) = decide (ou = u) := by rw [Bool.eq_iff_iff]; simp
            rw [hbd] at hsn
            obtain ⟨be, hbe⟩ : ∃ be : Bool, decide (ou = u) = be := ⟨_, rfl⟩
            rw [hbe] at heq hsn
            have HSN := hd hsn
            clear hsn hbd hbe hcl3 hy hql hg3S
            cases sb with
            | true =>
              have HN2 : Hd (true = seenR (out.take (q + 1)) u) := hd (by rw [HSN.o]; rfl)
              go_wp2_with fail
              go_quiet (fail)
              go_wp2
              go_roundw
              case rel => exact ⟨q + 1, true, by go_num, by omega, rfl, HN2, hd (by obtain ⟨z, hz⟩ := HZ.o; exact ⟨_, by rw [hz, drewN_add]⟩)⟩
              case measure => simp [intOf]; omega
            | false =>
              have HN2 : Hd (be = seenR (out.take (q + 1)) u) := hd (by rw [HSN.o]; rfl)
              go_wp2_with fail
              go_quiet (fail)
              go_wp2
              go_roundw
              case rel => exact ⟨q + 1, be, by go_num, by omega, rfl, HN2, hd (by obtain ⟨z, hz⟩ := HZ.o; exact ⟨_, by rw [hz, drewN_add]⟩)⟩
              case measure => simp [intOf]; omega
          · obtain rfl : q = m := by omega
            have HSE : Hd (sb = seenR out u) := hd (by rw [HSB.o, List.take_of_length_le (by rw [HM.o]; exact Nat.le_refl _)])
            have d1 : decide ((q : Int) < (q : Int)) = false := by simp
            clear HSB
            cases sb with
            | true =>
              have HO2 : Hd (out = outR ml tok (log.drop j).reverse) := hd (by rw [HST.o]; unfold stepR; rw [if_pos (.inr HSE.o.symm)])
              clear HST
              go_wp2
              go_roundw
              case rel => exact ⟨j, q, (j : Int) - 1, out, A3, c3, by first | rfl | go_num, rfl, by omega, rfl, by omega, HM, HO2, HROWi, HRBi⟩
              case measure => first | (simp [intOf]; done) | (simp [intOf]; omega)
            | false =>
              have hne : ¬ ((tk, u).1 ≤ tok ∨ seenR out (tk, u).2 = true) := by
                rintro (h | h)
                · have h2 : tk ≤ tok := h
                  have := HV.o
                  omega
                · have h2 : seenR out u = true := h
                  rw [← HSE.o] at h2
                  cases h2
              have HO2 : Hd (outR ml tok (log.drop j).reverse = out ++ [itAt ml (tk, u)]) := hd (by rw [HST.o]; unfold stepR; rw [if_neg hne])
              clear hne
              clear HST
              have hG := HGET.o wr u HRBi.o
              have hit : itAt ml (tk, u) = if hasM ml u = true then ⟨u, verM ml u, false, txtM ml u⟩ else ⟨u, tk, true, []⟩ := rfl
              obtain ⟨th, hth⟩ : ∃ x, hasM ml u = x := ⟨_, rfl⟩
              obtain ⟨gv, hgv⟩ : ∃ x, verM ml u = x := ⟨_, rfl⟩
              obtain ⟨gt, hgt⟩ : ∃ x, txtM ml u = x := ⟨_, rfl⟩
              rw [hth, hgv, hgt] at hG hit
              have HG := hd hG
              have HIT := hd hit
              clear hG hit hth hgv hgt
              go_wp2_with fail
              refine HG.o.mono ?_
              rintro e w3 ⟨rfl, q3, rfl⟩
              obtain ⟨wj, hwj⟩ : ∃ wj, wj = wr.drewN q3 := ⟨_, rfl⟩
              have HRBj : Hd (RB w wj) := hd (by rw [hwj]; exact HRBi.o.drewN q3)
              have HROWj : Hd (Row wj (From w.heap.size) 41 4 A3 q c3 (itsEnc out)) := hd (by rw [hwj]; exact HROWi.o.drewN q3)
              rw [← hwj]
              clear hwj y3 k1
              have y3 := KEEP.o wj HRBj.o
              have k0 := (HCL.o wj HRBj.o).1
              have k1 := (HCL.o wj HRBj.o).2
              have hmm : q + 1 ≤ maxLen := by unfold maxLen; omega
              have hby : (q + 1) * 48 ≤ 140737488355328 := by omega
              cases th with
              | true =>
                have HIT2 : Hd (itAt ml (tk, u) = ⟨u, gv, false, gt⟩) := hd (by rw [HIT.o]; rfl)
                go_wp2_with (at_builtin; refine wpList_append_row rfl _ _ 28 rfl (From w.heap.size) 41 i0 (.agg #[.string ⟨#[]⟩, .int .i64 0, .bool false, .string ⟨#[]⟩]) 4 48 Try.underlying28 hi hz0 hz1 hz2 rfl A3 q c3 (itsEnc out) rfl (HROWj.o.alloc _) ⟨wj.heap.size, 0, none⟩ 1 1 [.string (bs u), .int .i64 gv, .bool false, .string (bs gt)] rfl rfl (cells_at (Blk.new_ _ _ rfl 41 _) rfl) (itEnc_one ⟨u, gv, false, gt⟩) (by omega) hmm hby ?_; intro E4 e4 w4 hr4 hc4; have HB4 := hd (RB.both (w := w) (HRBj.o.alloc _) hr4 hc4); clear hr4 hc4)
                go_roundw
                case rel => exact ⟨j, q + 1, (j : Int) - 1, out ++ [⟨u, gv, false, gt⟩], E4, e4, by first | rfl | go_num, rfl, by omega, rfl, by omega, hd (by rw [List.length_append, HM.o]; rfl), hd (by rw [HO2.o, HIT2.o]), hd (by rw [its_app]; exact HB4.o.2), hd HB4.o.1⟩
                case measure => first | (simp [intOf]; done) | (simp [intOf]; omega)
              | false =>
                have HIT2 : Hd (itAt ml (tk, u) = ⟨u, tk, true, []⟩) := hd (by rw [HIT.o]; rfl)
                have HRQ : Hd (RowO wj (From w.heap.size) 41 4 A3 q c3 (itsEnc out)) := hd (.inl HROWj.o)
                have HONE2 : Hd (∀ z ∈ ([.string (bs u), .int .i64 tk, .bool true, .string ⟨#[]⟩] : List Value), z.oneCell' = true) := hd (itEnc_one ⟨u, tk, true, []⟩)
                go_wp2_with fail
                go_region_law (
                  (refine step_append_or (by rfl) _ _ 28 (by rfl) (From w.heap.size) 41 i0 (.agg #[.string ⟨#[]⟩, .int .i64 0, .bool false, .string ⟨#[]⟩]) 4 48 Try.underlying28 hi hz0 hz1 hz2 rfl A3 q c3 (itsEnc out) (by rfl) _ 1 1 [.string (bs u), .int .i64 tk, .bool true, .string ⟨#[]⟩] (by rfl) rfl HONE2.o (by omega) hmm hby ?_ ?_ ?_
                   · (with_reducible (repeat (first | exact HRQ.o | refine RowO.alloc ?_ _ | refine RowO.drew ?_)))
                   · (refine cells_at (t := 41) (cs := #[.string (bs u), .int .i64 tk, .bool true, .string ⟨#[]⟩]) ?_ rfl
                      repeat (first | (with_reducible refine Blk.new_ _ _ ?_ _ _; simp; done) | with_reducible refine Blk.alloc ?_ _ | with_reducible refine Blk.drew ?_))
                   intro E1 e1 w4 z1 zc1
                   have HB4 := hd (RB.both (w := w) (by with_reducible (repeat (first | exact HRBj.o | refine RB.alloc ?_ _ | refine RB.drew ?_))) z1 zc1)
                   clear z1 zc1))
                all_goals
                  go_wp2
                  go_roundw
                  case rel => exact ⟨j, q + 1, (j : Int) - 1, out ++ [⟨u, tk, true, []⟩], E1, e1, by first | rfl | go_num, rfl, by omega, rfl, by omega, hd (by rw [List.length_append, HM.o]; rfl), hd (by rw [HO2.o, HIT2.o]), hd (by rw [its_app]; exact HB4.o.2), hd HB4.o.1⟩
                  case measure => first | (simp [intOf]; done) | (simp [intOf]; omega)

theorem rsince_calls (w : World) (S : Nat → Prop) (b : Nat) (s : Cs) (tok : Int) (h : RCol w S b s) (hri : Rising s.ml) (hl : s.ml.length ≤ 1000000) (hlg : s.log.length ≤ 1000000) :
    Calls Try.prog 35 #[.pointer (some ⟨b, 0, none⟩), .int .i64 tok] w fun e w' => ∃ l' err A c, e = .returned (.tuple #[.slice A l'.length c, .int .i64 err]) ∧ RSinceIs s tok l' err ∧ RowO w' (From w.heap.size) 41 4 A l'.length c (itsEnc l') ∧ Below w.heap.size w w' := by
  by_cases h0 : tok = 0
  · subst h0
    exact (rsince_zero w S b s h hl).mono fun e w' ⟨l', A, c, h1, h2, h3, h4⟩ => ⟨l', 0, A, c, h1, .inl ⟨rfl, rfl, h2⟩, h3, h4⟩
  · cases hb : s.bad tok with
    | true => exact (rsince_bad w S b s tok h h0 hb).mono fun e w' ⟨h1, h2⟩ => ⟨[], 8, none, 0, h1, .inr (.inl ⟨h0, hb, rfl, rfl⟩), (.inr ⟨rfl, rfl, rfl⟩), h2⟩
    | false => exact (rsince_some w S b s tok h hri hl hlg h0 hb).mono fun e w' ⟨l', A, c, h1, h2, h3, h4⟩ => ⟨l', 0, A, c, h1, .inr (.inr ⟨h0, hb, rfl, h2⟩), h3, h4⟩

end Go.Proofs.Ytbeckfnhgeclnaa
