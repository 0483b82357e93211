/-
  ColRight: whatever the arguments, the call returns true, and all reads as it did. No condition.
-/
import Derived.Test.YtbeckfnhgeclnaaRiseP
import Derived.Test.YtbeckfnhgeclnaaRColA
import Derived.BigRegion
import Derived.Test.YtbeckfnhgeclnaaTwoC
import Derived.Deep.RegionLaw
import Derived.Deep.CutRange
import Derived.Deep.Cut
import Derived.Test.YtbeckfnhgeclnaaMade
import Derived.Test.YtbeckfnhgeclnaaChkP
import Derived.Test.YtbeckfnhgeclnaaColLift
import Derived.Test.YtbeckfnhgeclnaaIts
import Derived.Test.YtbeckfnhgeclnaaChecksC
set_option linter.unusedVariables false
set_option linter.unusedSimpArgs false
/-
  The reference's rise.
-/
namespace Go.Proofs.Ytbeckfnhgeclnaa
open Go.RowKit Go.Lib

theorem row_setk4 {w : World} {S : Nat → Prop} {e size n c g : Nat} {xs : List Value} (h : Row w S e size (some ⟨g, 0, none⟩) n c xs) (j : Nat) (u : Value) : Row (w.setCell ⟨g, j, none⟩ u) S e size (some ⟨g, 0, none⟩) n c (xs.set j u) := by
  obtain ⟨g', cur, e1, hS, hB, hnc, hcm, hcs, ht⟩ := h.block rfl
  injection e1 with e1
  subst e1
  refine Row.of_block (hB.set_ j u) hS hnc hcm (by simp [hcs]) ?_ (by simpa using h.len)
  rw [← ht]
  simp [List.take_set]

set_option maxRecDepth 100000 in
set_option maxHeartbeats 4000000 in
theorem rise_calls (w : World) (S : Nat → Prop) (A : Option Addr) (n c : Nat) (l : List It) (hr : RowO w S 41 4 A n c (itsEnc l)) (hn : n = l.length) (hb : n ≤ 1000000) :
    Calls Try.prog 66 #[.slice A n c] w fun e w' => e = .returned (.slice A n c) ∧ ∃ l', SortedOf l l' ∧ RowO w' S 41 4 A n c (itsEnc l') ∧ Chg S w w' := by
  have HN := hd hn
  have HR := hd hr
  clear hn hr
  go_enter Try.func66, Try.ntmps66
  go_wp2_with fail
  go_loopw [3, 4] (fun i _ wr => ∃ (k : Nat) (L : List It), i = .int .i64 k ∧ 1 ≤ k ∧ Hd (Srt L k) ∧ Hd (L.Perm l) ∧ Hd (RowO wr S 41 4 A n c (itsEnc L)) ∧ Hd (Chg S w wr)) (fun i _ _ => n + 1 - (intOf i).toNat)
  case atStart => exact ⟨1, l, rfl, Nat.le_refl _, hd (srt_one _ _ (Nat.le_refl _)), hd (List.Perm.refl _), HR, hd (Chg.refl _ _)⟩
  case round =>
    obtain ⟨k, L, rfl, hk1, HS, HP, HRW, HC⟩ := hrel
    by_cases hlt : k < n
    · have hlti : (k : Int) < (n : Int) := by omega
      go_wp2_with fail
      go_loopw [4] (fun i wr => ∃ (j : Nat) (L : List It), i = .int .i64 j ∧ j ≤ k ∧ Hd (Inn L k j) ∧ Hd (L.Perm l) ∧ Hd (RowO wr S 41 4 A n c (itsEnc L)) ∧ Hd (Chg S w wr)) (fun i _ => (intOf i).toNat)
      case atStart => exact ⟨k, L, rfl, Nat.le_refl _, hd (inn_start HS.o), HP, HRW, HC⟩
      case round =>
        clear HRW HC HS HP
        obtain ⟨j, L, rfl, hjk, HI, HP, HRW, HC⟩ := hrel
        rcases j with _ | j
        · have HS2 := hd (inn_zero HI.o)
          go_wp2_with fail
          go_quiet (fail)
          go_wp2
          go_roundw
          case rel => exact ⟨k + 1, L, by go_num, by omega, HS2, HP, hd (HRW.o.drewN _), hd (HC.o.drewN _)⟩
          case measure => simp [intOf]; omega
        · have hLl : L.length = n := by rw [HP.o.length_eq, ← HN.o]
          have hj1 : j + 1 < L.length := by omega
          have HJ := hd hj1
          have hji : (0 : Int) ≤ (j : Int) := by omega
          have hjn : (j : Int) + 1 < (n : Int) := by omega
          have hjn2 : (j : Int) < (n : Int) := by omega
          obtain ⟨x, hx⟩ : ∃ x, L[j]'(by omega) = x := ⟨_, rfl⟩
          obtain ⟨y, hy⟩ : ∃ y, L[j + 1]'hj1 = y := ⟨_, rfl⟩
          have HX : Hd (L[j]'(Nat.lt_of_succ_lt HJ.o) = x) := hd hx
          have HY : Hd (L[j + 1]'HJ.o = y) := hd hy
          have hrow : Row wr S 41 4 A n c (itsEnc L) := by
            rcases HRW.o with h | ⟨h, _⟩
            · exact h
            · omega
          obtain ⟨g, rfl, hgS, hgl, hnc, hcm, hcl, hfz⟩ := hrow.at_ (by omega)
          have hcx : ∀ t u, t < 4 → (itEnc x)[t]? = some u → wr.cell? ⟨g, j * 4 + t, none⟩ = some u := fun t u ht hv => hcl _ _ ((flat_at itEnc 4 itEnc_len L j (by omega) t ht).trans (by rw [hx]; exact hv))
          have hcy : ∀ t u, t < 4 → (itEnc y)[t]? = some u → wr.cell? ⟨g, (j + 1) * 4 + t, none⟩ = some u := fun t u ht hv => hcl _ _ ((flat_at itEnc 4 itEnc_len L (j + 1) hj1 t ht).trans (by rw [hy]; exact hv))
          have HROW := hd hrow
          have HFZ := hd hfz
          have HLT : Hd (itLt y x = (decide (y.ver < x.ver) || (decide (y.ver = x.ver) && decide (compareBytes y.uid x.uid < 0)))) := hd rfl
          obtain ⟨xu, xv, xg, xc⟩ := x
          obtain ⟨yu, yv, yg, yc⟩ := y
          have x0 := hcx 0 _ (by omega) rfl
          have x1 := hcx 1 _ (by omega) rfl
          have x2 := hcx 2 _ (by omega) rfl
          have x3 := hcx 3 _ (by omega) rfl
          have y0 := hcy 0 _ (by omega) rfl
          have y1 := hcy 1 _ (by omega) rfl
          have y2 := hcy 2 _ (by omega) rfl
          have y3 := hcy 3 _ (by omega) rfl
          simp only [Nat.add_zero] at x0 y0
          have hle := rstr_less yu xu
          rw [geq_dec, Bool.not_not] at hle
          obtain ⟨tl, htl⟩ : ∃ t, itLt (⟨yu, yv, yg, yc⟩ : It) ⟨xu, xv, xg, xc⟩ = t := ⟨_, rfl⟩
          rw [htl] at HLT
          have HTL := hd htl
          clear hcx hcy hcl hfz hrow hx hy hj1 hLl htl
          go_wp2_with fail
          go_cut [55] from 12 to 55 (fun s55 wx => s55 = .bool tl ∧ Hd (∃ q, wx = wr.drewN q))
          case first =>
            have hjp : (0 : Int) < (j : Int) + 1 := by omega
            by_cases v1 : yv < xv
            · have f1 : decide (yv < xv) = true := by simpa using v1
              have HT : Hd (tl = true) := hd (by rw [HLT.o]; simp [v1])
              clear v1
              go_quiet (fail)
              go_wp2_with fail
              go_meet
              exact ⟨by rw [HT.o], hd ⟨_, rfl⟩⟩
            · have f1 : decide (yv < xv) = false := by simpa using v1
              by_cases v2 : yv = xv
              · have f2 : (yv == xv) = true := by simpa using v2
                obtain ⟨cb, hcb⟩ : ∃ b : Bool, decide (compareBytes yu xu < 0) = b := ⟨_, rfl⟩
                rw [hcb] at hle
                have HT : Hd (tl = cb) := hd (by rw [HLT.o, ← hcb]; simp [v1, v2])
                clear v1 v2 hcb
                go_quiet (fail)
                go_wp2_with fail
                go_meet
                exact ⟨by rw [HT.o], hd ⟨_, rfl⟩⟩
              · have f2 : (yv == xv) = false := by simpa using v2
                have HT : Hd (tl = false) := hd (by rw [HLT.o]; simp [v1, v2])
                clear v1 v2
                go_quiet (fail)
                go_wp2_with fail
                go_meet
                exact ⟨by rw [HT.o], hd ⟨_, rfl⟩⟩
          case rest =>
            obtain ⟨rfl, hq⟩ := hcut
            have HQ := hq
            clear hq hle
            cases tl with
            | false =>
              have HS2 := hd (inn_end HJ.o HI.o hjk (by rw [HX.o, HY.o]; exact HTL.o))
              have HW : Hd (RowO wc S 41 4 (some ⟨g, 0, none⟩) n c (itsEnc L) ∧ Chg S w wc) := hd (by obtain ⟨q, rfl⟩ := HQ.o; exact ⟨HRW.o.drewN q, HC.o.drewN q⟩)
              clear x0 x1 x2 x3 y0 y1 y2 y3
              go_wp2
              go_roundw
              case rel => exact ⟨k + 1, L, by go_num, by omega, HS2, HP, hd HW.o.1, hd HW.o.2⟩
              case measure => simp [intOf]; omega
            | true =>
              have HS2 := hd (inn_step HJ.o HI.o hjk (by rw [HX.o, HY.o]; exact HTL.o))
              have HP2 := hd ((swp_perm L j HJ.o).trans HP.o)
              have HEN := hd (swp_enc L j HJ.o _ _ HX.o HY.o)
              have HW : Hd (Row wc S 41 4 (some ⟨g, 0, none⟩) n c (itsEnc L) ∧ Chg S w wc) := hd (by obtain ⟨q, rfl⟩ := HQ.o; exact ⟨HROW.o.drewN q, HC.o.drewN q⟩)
              have hcells : ∀ p u, wr.cell? p = some u → wc.cell? p = some u := fun p u h => by obtain ⟨q, rfl⟩ := HQ.o; exact h
              have hfr : ∀ i, wc.frozen? ⟨g, i, none⟩ = false := fun i => by obtain ⟨q, rfl⟩ := HQ.o; exact HFZ.o i
              have x0 := hcells _ _ x0
              have x1 := hcells _ _ x1
              have x2 := hcells _ _ x2
              have x3 := hcells _ _ x3
              have y0 := hcells _ _ y0
              have y1 := hcells _ _ y1
              have y2 := hcells _ _ y2
              have y3 := hcells _ _ y3
              have fx0 := hfr (j * 4)
              have fx1 := hfr (j * 4 + 1)
              have fx2 := hfr (j * 4 + 2)
              have fx3 := hfr (j * 4 + 3)
              have fy0 := hfr ((j + 1) * 4)
              have fy1 := hfr ((j + 1) * 4 + 1)
              have fy2 := hfr ((j + 1) * 4 + 2)
              have fy3 := hfr ((j + 1) * 4 + 3)
              clear hcells hfr
              go_wp2_with fail
              go_region
              all_goals
                go_wp2
                go_roundw
                case rel =>
                  refine ⟨j, swp L j HJ.o, rfl, by omega, HS2, HP2, hd (.inl ?_), hd ?_⟩
                  · rw [HEN.o]
                    exact (row_setk4 (row_setk4 (row_setk4 (row_setk4 (row_setk4 (row_setk4 (row_setk4 (row_setk4 HW.o.1 _ _) _ _) _ _) _ _) _ _) _ _) _ _) _ _).drew
                  · have hof : ∀ i : Nat, S (Addr.block ⟨g, i, none⟩) ∨ w.heap.size ≤ (Addr.block ⟨g, i, none⟩) := fun i => .inl hgS
                    exact ((((((((HW.o.2.setCell (hof _) _).setCell (hof _) _).setCell (hof _) _).setCell (hof _) _).setCell (hof _) _).setCell (hof _) _).setCell (hof _) _).setCell (hof _) _).drew
                case measure => first | (simp [intOf]; done) | (simp [intOf]; omega)
    · have hlti : decide ((k : Int) < (n : Int)) = false := by simp; omega
      go_wp2
      go_ret
      exact ⟨rfl, L, ⟨HP.o, srt_all HS.o (by rw [HP.o.length_eq, ← HN.o]; omega)⟩, HRW.o, HC.o⟩

end Go.Proofs.Ytbeckfnhgeclnaa
/-
  The reference's Since.
-/
namespace Go.Proofs.Ytbeckfnhgeclnaa
open Go.RowKit Go.Lib

/-- What the reference gathers. -/
def seenR (out : List It) (u : List UInt8) : Bool := out.any fun y => y.uid == u
def stepR (ml : ML Ce) (tok : Int) (out : List It) (x : Ch) : List It := if x.1 ≤ tok ∨ seenR out x.2 = true then out else out ++ [itAt ml x]
def outR (ml : ML Ce) (tok : Int) (l : List Ch) : List It := l.foldl (stepR ml tok) []
theorem outR_snoc (ml : ML Ce) (tok : Int) (l : List Ch) (x : Ch) : outR ml tok (l ++ [x]) = stepR ml tok (outR ml tok l) x := by simp [outR]
theorem stepR_len (ml : ML Ce) (tok : Int) (out : List It) (x : Ch) : (stepR ml tok out x).length ≤ out.length + 1 := by
  unfold stepR
  split <;> simp
def RSinceIs (s : Cs) (tok : Int) (l' : List It) (err : Int) : Prop :=
  (tok = 0 ∧ err = 0 ∧ SortedOf (liveL s.ml) l') ∨ (tok ≠ 0 ∧ s.bad tok = true ∧ err = 8 ∧ l' = []) ∨ (tok ≠ 0 ∧ s.bad tok = false ∧ err = 0 ∧ SortedOf (outR s.ml tok s.log.reverse) l')
theorem log_back (l : List Ch) (j : Nat) (h : j < l.length) : (l.drop j).reverse = (l.drop (j + 1)).reverse ++ [l[j]] := by
  rw [List.drop_eq_getElem_cons h, List.reverse_cons]
theorem seenR_take (out : List It) (u : List UInt8) (i : Nat) (h : i < out.length) : seenR (out.take (i + 1)) u = (seenR (out.take i) u || out[i].uid == u) := by
  unfold seenR
  rw [List.take_succ_eq_append_getElem h, List.any_append]
  simp

set_option maxHeartbeats 4000000 in
theorem rsince_zero (w : World) (S : Nat → Prop) (b : Nat) (s : Cs) (h : RCol w S b s) (hl : s.ml.length ≤ 1000000) :
    Calls Try.prog 35 #[.pointer (some ⟨b, 0, none⟩), .int .i64 0] w fun e w' => ∃ l' A c, e = .returned (.tuple #[.slice A l'.length c, .int .i64 0]) ∧ SortedOf (liveL s.ml) l' ∧ RowO w' (From w.heap.size) 41 4 A l'.length c (itsEnc l') ∧ Below w.heap.size w w' := by
  have HL := hd (rlive_calls w S b s h hl)
  have HRI := hd (fun (w' : World) (A : Option Addr) (c : Nat) (hr : RowO w' (From w.heap.size) 41 4 A s.ml.length c (itsEnc (liveL s.ml))) => rise_calls w' (From w.heap.size) A s.ml.length c (liveL s.ml) hr (liveL_len _).symm hl)
  obtain ⟨n, hn⟩ : ∃ n, s.ml.length = n := ⟨_, rfl⟩
  have HN := hd hn
  rw [hn] at HL HRI
  clear h hl hn
  go_enter Try.func35, Try.ntmps35
  go_wp2_with fail
  refine HL.o.mono ?_
  rintro e w1 ⟨A, c, rfl, hr, hb⟩
  have HR := hd hr
  have HB := hd hb
  clear hr hb
  go_wp2_with fail
  refine (HRI.o _ _ _ HR.o).mono ?_
  rintro e w2 ⟨rfl, l', hs, hr2, hc⟩
  have HS := hd hs
  have HR2 := hd hr2
  have HC := hd hc
  clear hs hr2 hc
  go_wp2
  go_ret2
  have hl' : l'.length = n := by rw [HS.o.1.length_eq, liveL_len, HN.o]
  exact ⟨l', A, c, by rw [hl']; rfl, HS.o, by rw [hl']; exact HR2.o, HB.o.trans (HC.o.below (fun q hq => hq) HB.o.size)⟩

set_option maxHeartbeats 4000000 in
theorem rsince_bad (w : World) (S : Nat → Prop) (b : Nat) (s : Cs) (tok : Int) (h : RCol w S b s) (h0 : tok ≠ 0) (hb : s.bad tok = true) :
    Calls Try.prog 35 #[.pointer (some ⟨b, 0, none⟩), .int .i64 tok] w fun e w' => e = .returned (.tuple #[.slice none 0 0, .int .i64 8]) ∧ Below w.heap.size w w' := by
  obtain ⟨A, c, A2, c2, hB, _⟩ := h
  have y4 := hB.at_ 4 rfl
  have y5 := hB.at_ 5 rfl
  have e0 : (tok == 0) = false := by simpa using h0
  have HB : Hd (tok < s.horizon ∨ (¬ tok < s.horizon ∧ s.latest < tok)) := hd (by
    unfold Cs.bad at hb
    by_cases c1 : tok < s.horizon
    · exact .inl c1
    · exact .inr ⟨c1, by simpa [c1] using hb⟩)
  generalize s.latest = la at *
  generalize s.horizon = ho at *
  clear hB h0 hb
  rcases HB.o with v | ⟨v, v2⟩
  · have f1 : decide (tok < ho) = true := by simpa using v
    clear v HB
    go_enter Try.func35, Try.ntmps35
    go_wp2
    go_ret2
    exact ⟨rfl, Below.refl _ _⟩
  · have f1 : decide (tok < ho) = false := by simpa using v
    have f2 : decide (la < tok) = true := by simpa using v2
    clear v v2 HB
    go_enter Try.func35, Try.ntmps35
    go_wp2
    go_ret2
    exact ⟨rfl, Below.refl _ _⟩

/-- Behind w, all of it as it was. -/
structure RB (w W : World) : Prop where
  below : Below w.heap.size w W
theorem RB.alloc {w W : World} (h : RB w W) (o : Obj) : RB w (W.alloc o) := ⟨h.below.alloc h.below.size o⟩
theorem RB.drew {w W : World} (h : RB w W) : RB w W.drew := ⟨bdrewN h.below 1⟩
theorem RB.drewN {w W : World} (h : RB w W) (q : Nat) : RB w (W.drewN q) := ⟨bdrewN h.below q⟩
theorem RB.chg {w W w2 : World} (h : RB w W) (hc : Chg (From w.heap.size) W w2) : RB w w2 := ⟨h.below.trans (hc.below (fun q hq => hq) h.below.size)⟩
theorem RB.row {w W w2 : World} (h : RB w W) {A : Option Addr} {n c : Nat} {xs : List Value} (hr : Row w2 (Plus (From w.heap.size) W.heap.size) 41 4 A n c xs) : Row w2 (From w.heap.size) 41 4 A n c xs := hr.mono fun q hq => hq.elim id (fun h2 => Nat.le_trans h.below.size h2)
theorem RB.both {w W w2 : World} (h : RB w W) {A : Option Addr} {n c : Nat} {xs : List Value} (hr : Row w2 (Plus (From w.heap.size) W.heap.size) 41 4 A n c xs) (hc : Chg (From w.heap.size) W w2) : RB w w2 ∧ Row w2 (From w.heap.size) 41 4 A n c xs := ⟨h.chg hc, h.row hr⟩
theorem its_app (l : List It) (x : It) : itsEnc (l ++ [x]) = itsEnc l ++ itEnc x := by simp [itsEnc]

set_option maxRecDepth 100000 in
set_option maxHeartbeats 8000000 in
theorem rsince_some (w : World) (S : Nat → Prop) (b : Nat) (s : Cs) (tok : Int) (h : RCol w S b s) (hri : Rising s.ml) (hl : s.ml.length ≤ 1000000) (hlg : s.log.length ≤ 1000000) (h0 : tok ≠ 0) (hb : s.bad tok = false) :
    Calls Try.prog 35 #[.pointer (some ⟨b, 0, none⟩), .int .i64 tok] w fun e w' => ∃ l' A c, e = .returned (.tuple #[.slice A l'.length c, .int .i64 0]) ∧ SortedOf (outR s.ml tok s.log.reverse) l' ∧ RowO w' (From w.heap.size) 41 4 A l'.length c (itsEnc l') ∧ Below w.heap.size w w' := by
  obtain ⟨i0, hi, hz0, hz1, hz2⟩ := info_parts itInfo
  have HGET := hd (fun (w' : World) (u : List UInt8) (hbe : RB w w') => rcget_calls w' S b s u (h.below hbe.below) hri hl)
  have HRISE := hd (fun (w' : World) (A : Option Addr) (n c : Nat) (l : List It) (hr : RowO w' (From w.heap.size) 41 4 A n c (itsEnc l)) (hn : n = l.length) (hnb : n ≤ 1000000) => rise_calls w' (From w.heap.size) A n c l hr hn hnb)
  obtain ⟨A, c, A2, c2, hB, _, hG, _⟩ := h
  obtain ⟨n, hn⟩ : ∃ n, s.log.length = n := ⟨_, rfl⟩
  have HN := hd hn
  have hG2 := hG.rds
  rw [hn] at hB hG2 hlg
  have KEEP : Hd (∀ W, RB w W → W.cell? ⟨b, 3, none⟩ = some (.slice A2 n c2)) := hd (fun W hW => (hB.below hW.below hB.lt).at_ 3 rfl)
  have HLOG : Hd (∀ j (hj : j < s.log.length), ∃ g, A2 = some ⟨g, 0, none⟩ ∧ ∀ W, RB w W → W.cell? ⟨g, j * 2, none⟩ = some (.int .i64 (s.log[j]).1) ∧ W.cell? ⟨g, j * 2 + 1, none⟩ = some (.string (bs (s.log[j]).2))) := hd (fun j hj => by
    obtain ⟨g, hA, _, hgl, _, _, hcl, _⟩ := hG.at_ (by omega)
    refine ⟨g, hA, fun W hW => ⟨?_, ?_⟩⟩
    · have := hcl (j * 2 + 0) _ ((chsEnc_at s.log j hj 0 (by omega)).trans rfl)
      exact (hW.below.cell (p := ⟨g, j * 2, none⟩) hgl).trans this
    · have := hcl (j * 2 + 1) _ ((chsEnc_at s.log j hj 1 (by omega)).trans rfl)
      exact (hW.below.cell (p := ⟨g, j * 2 + 1, none⟩) hgl).trans this)
  have y3 := hB.at_ 3 rfl
  have y4 := hB.at_ 4 rfl
  have y5 := hB.at_ 5 rfl
  have e0 : (tok == 0) = false := by simpa using h0
  have hbb : ¬ tok < s.horizon ∧ ¬ s.latest < tok := by
    unfold Cs.bad at hb
    simpa using hb
  have f1 : decide (tok < s.horizon) = false := by simpa using hbb.1
  have f2 : decide (s.latest < tok) = false := by simpa using hbb.2
  obtain ⟨log, hlog⟩ : ∃ l, s.log = l := ⟨_, rfl⟩
  obtain ⟨ml, hml⟩ : ∃ l, s.ml = l := ⟨_, rfl⟩
  obtain ⟨res, hres⟩ : ∃ l, outR ml tok log.reverse = l := ⟨_, rfl⟩
  have HRES := hd hres
  rw [hlog, hml, hres]
  rw [hlog] at HLOG HN
  rw [hml] at HGET
  have HONE : Hd (∀ L : List It, ∀ u ∈ itsEnc L, u.oneCell' = true) := hd (fun L u hu => by
    obtain ⟨x, _, h⟩ := List.mem_flatMap.1 hu
    exact itEnc_one x u h)
  generalize s.latest = la at *
  generalize s.horizon = ho at *
  clear hB hG hG2 h0 hb hbb hri hl hn hlog hml hres
  go_enter Try.func35, Try.ntmps35
  go_wp2_with fail
  clear y3 y4 y5 f1 f2 e0
  go_loopw [6, 7, 8, 9, 10, 11, 12] (fun o i _ _ _ _ _ wr => ∃ (k m : Nat) (iv : Int) (out : List It) (A3 : Option Addr) (c3 : Nat), i = .int .i64 iv ∧ iv = (k : Int) - 1 ∧ k ≤ n ∧ o = .slice A3 m c3 ∧ m + k ≤ n ∧ Hd (out.length = m) ∧ Hd (out = outR ml tok (log.drop k).reverse) ∧ Hd (Row wr (From w.heap.size) 41 4 A3 m c3 (itsEnc out)) ∧ Hd (RB w wr)) (fun _ i _ _ _ _ _ _ => (intOf i + 1).toNat)
  case atStart => exact ⟨n, 0, _, [], none, 0, rfl, rfl, Nat.le_refl _, rfl, by omega, hd rfl, hd (by rw [List.drop_eq_nil_of_le (by rw [HN.o]; exact Nat.le_refl _)]; rfl), hd (Row.nil _ _ _ _), hd ⟨Below.refl _ _⟩⟩
  case round =>
    obtain ⟨k, m, iv, out, A3, c3, rfl, hiv, hk, rfl, hm, HM, HOUT, HROW, HRB⟩ := hrel
    rcases k with _ | j
    · have hg0 : decide ((0 : Int) ≤ iv) = false := by simp; omega
      have HF : Hd (out = res) := hd (by rw [HOUT.o, List.drop_zero, HRES.o])
      have RI := hd (HRISE.o wr A3 m c3 out (.inl HROW.o) HM.o.symm (by omega))
      go_wp2_with fail
      refine RI.o.mono ?_
      rintro e w2 ⟨rfl, l', hs, hr2, hc⟩
      have HS := hd hs
      have HR2 := hd hr2
      have HC := hd hc
      clear hs hr2 hc
      go_wp2
      go_ret2
      have hl' : l'.length = m := by rw [HS.o.1.length_eq, HM.o]
      exact ⟨l', A3, c3, by rw [hl']; rfl, by rw [← HF.o]; exact HS.o, by rw [hl']; exact HR2.o, (HRB.o.chg HC.o).below⟩
    · obtain rfl : iv = (j : Int) := by omega
      have hjn : j < n := by omega
      have hji : (0 : Int) ≤ (j : Int) := by omega
      have hjni : (j : Int) < (n : Int) := by omega
      have hjl : j < log.length := by rw [HN.o]; exact hjn
      obtain ⟨g, hA2, hcl⟩ := HLOG.o j hjl
      obtain ⟨x, hx⟩ : ∃ x, log[j]'hjl = x := ⟨_, rfl⟩
      have hst : outR ml tok (log.drop j).reverse = stepR ml tok out x := by rw [log_back log j hjl, outR_snoc, ← HOUT.o, hx]
      rw [hx] at hcl
      obtain ⟨tk, u⟩ := x
      simp only at hcl
      have HST := hd hst
      have HCL := hd hcl
      have HA2 := hd hA2
      subst hA2
      have y3 := KEEP.o wr HRB.o
      have k0 := (HCL.o wr HRB.o).1
      clear hst hcl hx hjl hiv
      by_cases v : tk ≤ tok
      · have f1 : decide (tk ≤ tok) = true := by simpa using v
        have HO2 : Hd (out = outR ml tok (log.drop j).reverse) := hd (by rw [HST.o]; unfold stepR; rw [if_pos (.inl v)])
        clear v
        go_wp2
        go_roundw
        case rel => exact ⟨j, m, (j : Int) - 1, out, A3, c3, by first | rfl | go_num, rfl, by omega, rfl, by omega, HM, HO2, HROW, HRB⟩
        case measure => first | (simp [intOf]; done) | (simp [intOf]; omega)
      · have f1 : decide (tk ≤ tok) = false := by simpa using v
        have HV := hd v
        clear v
        obtain ⟨wo, rfl⟩ : ∃ wo : World, wo = wr := ⟨_, rfl⟩
        go_wp2_with fail
        go_loopw [8, 9] (fun se i2 wr => ∃ (q : Nat) (sb : Bool), i2 = .int .i64 q ∧ q ≤ m ∧ se = .bool sb ∧ Hd (sb = seenR (out.take q) u) ∧ Hd (∃ z, wr = wo.drewN z)) (fun _ i2 _ => m - (intOf i2).toNat)
        case atStart => exact ⟨0, false, rfl, Nat.zero_le _, rfl, hd rfl, hd ⟨0, rfl⟩⟩
        case round =>
          obtain ⟨q, sb, rfl, hq, rfl, HSB, HZ⟩ := hrel
          clear y3 k0
          have hqi : (0 : Int) ≤ (q : Int) := by omega
          have HRBi : Hd (RB w wr) := hd (by obtain ⟨z, rfl⟩ := HZ.o; exact HRB.o.drewN z)
          have HROWi : Hd (Row wr (From w.heap.size) 41 4 A3 m c3 (itsEnc out)) := hd (by obtain ⟨z, rfl⟩ := HZ.o; exact HROW.o.drewN z)
          have y3 := KEEP.o wr HRBi.o
          have k1 := (HCL.o wr HRBi.o).2
          by_cases hqm : q < m
          · have hqmi : (q : Int) < (m : Int) := by omega
            have hql : q < out.length := by rw [HM.o]; exact hqm
            obtain ⟨g3, rfl, hg3S, hg3l, _, _, hcl3, _⟩ := HROWi.o.at_ (by omega)
            obtain ⟨y, hy⟩ : ∃ y, out[q]'hql = y := ⟨_, rfl⟩
            have c0 := hcl3 (q * 4 + 0) _ ((flat_at itEnc 4 itEnc_len out q hql 0 (by omega)).trans (by rw [hy]; rfl))
            have hsn := seenR_take out u q hql
            rw [hy, ← HSB.o] at hsn
            obtain ⟨ou, ov, og, oc⟩ := y
            simp only [Nat.add_zero] at c0 hsn
            have heq := rstr_eq ou u
            have hbd : (ou == u) = decide (ou = u) := by rw [Bool.eq_iff_iff]; simp
            rw [hbd] at hsn
            obtain ⟨be, hbe⟩ : ∃ be : Bool, decide (ou = u) = be := ⟨_, rfl⟩
            rw [hbe] at heq hsn
            have HSN := hd hsn
            clear hsn hbd hbe hcl3 hy hql hg3S
            cases sb with
            | true =>
              have HN2 : Hd (true = seenR (out.take (q + 1)) u) := hd (by rw [HSN.o]; rfl)
              go_wp2_with fail
              go_quiet (fail)
              go_wp2
              go_roundw
              case rel => exact ⟨q + 1, true, by go_num, by omega, rfl, HN2, hd (by obtain ⟨z, hz⟩ := HZ.o; exact ⟨_, by rw [hz, drewN_add]⟩)⟩
              case measure => simp [intOf]; omega
            | false =>
              have HN2 : Hd (be = seenR (out.take (q + 1)) u) := hd (by rw [HSN.o]; rfl)
              go_wp2_with fail
              go_quiet (fail)
              go_wp2
              go_roundw
              case rel => exact ⟨q + 1, be, by go_num, by omega, rfl, HN2, hd (by obtain ⟨z, hz⟩ := HZ.o; exact ⟨_, by rw [hz, drewN_add]⟩)⟩
              case measure => simp [intOf]; omega
          · obtain rfl : q = m := by omega
            have HSE : Hd (sb = seenR out u) := hd (by rw [HSB.o, List.take_of_length_le (by rw [HM.o]; exact Nat.le_refl _)])
            have d1 : decide ((q : Int) < (q : Int)) = false := by simp
            clear HSB
            cases sb with
            | true =>
              have HO2 : Hd (out = outR ml tok (log.drop j).reverse) := hd (by rw [HST.o]; unfold stepR; rw [if_pos (.inr HSE.o.symm)])
              clear HST
              go_wp2
              go_roundw
              case rel => exact ⟨j, q, (j : Int) - 1, out, A3, c3, by first | rfl | go_num, rfl, by omega, rfl, by omega, HM, HO2, HROWi, HRBi⟩
              case measure => first | (simp [intOf]; done) | (simp [intOf]; omega)
            | false =>
              have hne : ¬ ((tk, u).1 ≤ tok ∨ seenR out (tk, u).2 = true) := by
                rintro (h | h)
                · have h2 : tk ≤ tok := h
                  have := HV.o
                  omega
                · have h2 : seenR out u = true := h
                  rw [← HSE.o] at h2
                  cases h2
              have HO2 : Hd (outR ml tok (log.drop j).reverse = out ++ [itAt ml (tk, u)]) := hd (by rw [HST.o]; unfold stepR; rw [if_neg hne])
              clear hne
              clear HST
              have hG := HGET.o wr u HRBi.o
              have hit : itAt ml (tk, u) = if hasM ml u = true then ⟨u, verM ml u, false, txtM ml u⟩ else ⟨u, tk, true, []⟩ := rfl
              obtain ⟨th, hth⟩ : ∃ x, hasM ml u = x := ⟨_, rfl⟩
              obtain ⟨gv, hgv⟩ : ∃ x, verM ml u = x := ⟨_, rfl⟩
              obtain ⟨gt, hgt⟩ : ∃ x, txtM ml u = x := ⟨_, rfl⟩
              rw [hth, hgv, hgt] at hG hit
              have HG := hd hG
              have HIT := hd hit
              clear hG hit hth hgv hgt
              go_wp2_with fail
              refine HG.o.mono ?_
              rintro e w3 ⟨rfl, q3, rfl⟩
              obtain ⟨wj, hwj⟩ : ∃ wj, wj = wr.drewN q3 := ⟨_, rfl⟩
              have HRBj : Hd (RB w wj) := hd (by rw [hwj]; exact HRBi.o.drewN q3)
              have HROWj : Hd (Row wj (From w.heap.size) 41 4 A3 q c3 (itsEnc out)) := hd (by rw [hwj]; exact HROWi.o.drewN q3)
              rw [← hwj]
              clear hwj y3 k1
              have y3 := KEEP.o wj HRBj.o
              have k0 := (HCL.o wj HRBj.o).1
              have k1 := (HCL.o wj HRBj.o).2
              have hmm : q + 1 ≤ maxLen := by unfold maxLen; omega
              have hby : (q + 1) * 48 ≤ 140737488355328 := by omega
              cases th with
              | true =>
                have HIT2 : Hd (itAt ml (tk, u) = ⟨u, gv, false, gt⟩) := hd (by rw [HIT.o]; rfl)
                go_wp2_with (at_builtin; refine wpList_append_row rfl _ _ 28 rfl (From w.heap.size) 41 i0 (.agg #[.string ⟨#[]⟩, .int .i64 0, .bool false, .string ⟨#[]⟩]) 4 48 Try.underlying28 hi hz0 hz1 hz2 rfl A3 q c3 (itsEnc out) rfl (HROWj.o.alloc _) ⟨wj.heap.size, 0, none⟩ 1 1 [.string (bs u), .int .i64 gv, .bool false, .string (bs gt)] rfl rfl (cells_at (Blk.new_ _ _ rfl 41 _) rfl) (itEnc_one ⟨u, gv, false, gt⟩) (by omega) hmm hby ?_; intro E4 e4 w4 hr4 hc4; have HB4 := hd (RB.both (w := w) (HRBj.o.alloc _) hr4 hc4); clear hr4 hc4)
                go_roundw
                case rel => exact ⟨j, q + 1, (j : Int) - 1, out ++ [⟨u, gv, false, gt⟩], E4, e4, by first | rfl | go_num, rfl, by omega, rfl, by omega, hd (by rw [List.length_append, HM.o]; rfl), hd (by rw [HO2.o, HIT2.o]), hd (by rw [its_app]; exact HB4.o.2), hd HB4.o.1⟩
                case measure => first | (simp [intOf]; done) | (simp [intOf]; omega)
              | false =>
                have HIT2 : Hd (itAt ml (tk, u) = ⟨u, tk, true, []⟩) := hd (by rw [HIT.o]; rfl)
                have HRQ : Hd (RowO wj (From w.heap.size) 41 4 A3 q c3 (itsEnc out)) := hd (.inl HROWj.o)
                have HONE2 : Hd (∀ z ∈ ([.string (bs u), .int .i64 tk, .bool true, .string ⟨#[]⟩] : List Value), z.oneCell' = true) := hd (itEnc_one ⟨u, tk, true, []⟩)
                go_wp2_with fail
                go_region_law (
                  (refine step_append_or (by rfl) _ _ 28 (by rfl) (From w.heap.size) 41 i0 (.agg #[.string ⟨#[]⟩, .int .i64 0, .bool false, .string ⟨#[]⟩]) 4 48 Try.underlying28 hi hz0 hz1 hz2 rfl A3 q c3 (itsEnc out) (by rfl) _ 1 1 [.string (bs u), .int .i64 tk, .bool true, .string ⟨#[]⟩] (by rfl) rfl HONE2.o (by omega) hmm hby ?_ ?_ ?_
                   · (with_reducible (repeat (first | exact HRQ.o | refine RowO.alloc ?_ _ | refine RowO.drew ?_)))
                   · (refine cells_at (t := 41) (cs := #[.string (bs u), .int .i64 tk, .bool true, .string ⟨#[]⟩]) ?_ rfl
                      repeat (first | (with_reducible refine Blk.new_ _ _ ?_ _ _; simp; done) | with_reducible refine Blk.alloc ?_ _ | with_reducible refine Blk.drew ?_))
                   intro E1 e1 w4 z1 zc1
                   have HB4 := hd (RB.both (w := w) (by with_reducible (repeat (first | exact HRBj.o | refine RB.alloc ?_ _ | refine RB.drew ?_))) z1 zc1)
                   clear z1 zc1))
                all_goals
                  go_wp2
                  go_roundw
                  case rel => exact ⟨j, q + 1, (j : Int) - 1, out ++ [⟨u, tk, true, []⟩], E1, e1, by first | rfl | go_num, rfl, by omega, rfl, by omega, hd (by rw [List.length_append, HM.o]; rfl), hd (by rw [HO2.o, HIT2.o]), hd (by rw [its_app]; exact HB4.o.2), hd HB4.o.1⟩
                  case measure => first | (simp [intOf]; done) | (simp [intOf]; omega)

theorem rsince_calls (w : World) (S : Nat → Prop) (b : Nat) (s : Cs) (tok : Int) (h : RCol w S b s) (hri : Rising s.ml) (hl : s.ml.length ≤ 1000000) (hlg : s.log.length ≤ 1000000) :
    Calls Try.prog 35 #[.pointer (some ⟨b, 0, none⟩), .int .i64 tok] w fun e w' => ∃ l' err A c, e = .returned (.tuple #[.slice A l'.length c, .int .i64 err]) ∧ RSinceIs s tok l' err ∧ RowO w' (From w.heap.size) 41 4 A l'.length c (itsEnc l') ∧ Below w.heap.size w w' := by
  by_cases h0 : tok = 0
  · subst h0
    exact (rsince_zero w S b s h hl).mono fun e w' ⟨l', A, c, h1, h2, h3, h4⟩ => ⟨l', 0, A, c, h1, .inl ⟨rfl, rfl, h2⟩, h3, h4⟩
  · cases hb : s.bad tok with
    | true => exact (rsince_bad w S b s tok h h0 hb).mono fun e w' ⟨h1, h2⟩ => ⟨[], 8, none, 0, h1, .inr (.inl ⟨h0, hb, rfl, rfl⟩), (.inr ⟨rfl, rfl, rfl⟩), h2⟩
    | false => exact (rsince_some w S b s tok h hri hl hlg h0 hb).mono fun e w' ⟨l', A, c, h1, h2, h3, h4⟩ => ⟨l', 0, A, c, h1, .inr (.inr ⟨h0, hb, rfl, h2⟩), h3, h4⟩

end Go.Proofs.Ytbeckfnhgeclnaa
/-
  What Since tells, plainly: the program's list and the reference's are the same.
-/
namespace Go.Proofs.Ytbeckfnhgeclnaa
open Go.RowKit Go.Lib

theorem ind_snoc {α : Type} {P : List α → Prop} (h0 : P []) (h1 : ∀ l x, P l → P (l ++ [x])) : ∀ l, P l := by
  have : ∀ (k : Nat) (l : List α), l.length = k → P l := by
    intro k
    induction k with
    | zero => intro l h; obtain rfl : l = [] := List.eq_nil_of_length_eq_zero h; exact h0
    | succ k ih =>
      intro l h
      obtain ⟨l', x, rfl⟩ : ∃ l' x, l = l' ++ [x] := ⟨l.dropLast, l.getLast (by rintro rfl; simp at h), (List.dropLast_concat_getLast _).symm⟩
      exact h1 l' x (ih l' (by simpa using h))
  exact fun l => this _ l rfl
theorem itAt_uid (ml : ML Ce) (x : Ch) : (itAt ml x).uid = x.2 := by
  unfold itAt
  split <;> rfl
theorem seenR_app (a : List It) (x : It) (u : List UInt8) : seenR (a ++ [x]) u = (seenR a u || x.uid == u) := by simp [seenR, List.any_append]
theorem seen_outR (ml : ML Ce) (tok : Int) : ∀ l : List Ch, (∀ x ∈ l, tok < x.1) → ∀ u, seenR (outR ml tok l) u = decide (0 < chSeen l u) := by
  refine ind_snoc (fun _ _ => by simp [outR, seenR, chSeen]) fun l x ih h u => ?_
  have hx := h x (by simp)
  have hl := ih (fun y hy => h y (by simp [hy]))
  rw [outR_snoc, chSeen_snoc]
  unfold stepR
  by_cases hs : seenR (outR ml tok l) x.2 = true
  · rw [if_pos (.inr hs), hl]
    have h2 := hl x.2
    rw [hs] at h2
    have h3 : 0 < chSeen l x.2 := by simpa using h2.symm
    by_cases he : x.2 = u
    · subst he; simp [h3]
    · simp [he]
  · rw [if_neg (by rintro (h | h); omega; exact hs h), seenR_app, hl, itAt_uid]
    by_cases he : x.2 = u
    · subst he; simp
    · simp [he]
/-- Tokens that fall (the log from behind). -/
def Falls (l : List Ch) : Prop := l.Pairwise fun x y => y.1 ≤ x.1
theorem outP_eq (ml : ML Ce) (tok : Int) : ∀ l : List Ch, Falls l → outP ml tok l = outR ml tok l := by
  refine ind_snoc (fun _ => by simp [outP, outS, outR]) fun l x ih h => ?_
  have h' := List.pairwise_append.1 h
  rw [outP_snoc, outR_snoc, ih h'.1]
  unfold stepS stepR
  by_cases c : x.1 ≤ tok
  · rw [if_pos (.inl c), if_pos (.inl c), List.append_nil]
  · have hs := seen_outR ml tok l (fun y hy => by have := h'.2.2 y hy x (by simp); omega) x.2
    by_cases c2 : 0 < chSeen l x.2
    · rw [if_pos (.inr c2), if_pos (.inr (by rw [hs]; simpa using c2)), List.append_nil]
    · rw [if_neg (by rintro (h | h); exact c h; exact c2 h), if_neg (by rintro (h | h); exact c h; rw [hs] at h; exact c2 (by simpa using h))]
theorem outR_uniq (ml : ML Ce) (tok : Int) : ∀ l : List Ch, ∀ x ∈ outR ml tok l, ∀ y ∈ outR ml tok l, x.uid = y.uid → x = y := by
  refine ind_snoc (fun x hx => by simp [outR] at hx) fun l z ih x hx y hy hu => ?_
  rw [outR_snoc] at hx hy
  unfold stepR at hx hy
  by_cases c : z.1 ≤ tok ∨ seenR (outR ml tok l) z.2 = true
  · rw [if_pos c] at hx hy
    exact ih x hx y hy hu
  · rw [if_neg c] at hx hy
    have hno : ∀ y ∈ outR ml tok l, y.uid ≠ z.2 := fun y hy he => c (.inr (by
      unfold seenR
      rw [List.any_eq_true]
      exact ⟨y, hy, by simpa using he⟩))
    rcases List.mem_append.1 hx with hx | hx <;> rcases List.mem_append.1 hy with hy | hy
    · exact ih x hx y hy hu
    · rw [List.mem_singleton] at hy
      subst hy
      rw [itAt_uid] at hu
      exact absurd hu (hno x hx)
    · rw [List.mem_singleton] at hx
      subst hx
      rw [itAt_uid] at hu
      exact absurd hu.symm (hno y hy)
    · rw [List.mem_singleton] at hx hy
      rw [hx, hy]
theorem live_uniq {ml : ML Ce} (hr : Rising ml) : ∀ x ∈ liveL ml, ∀ y ∈ liveL ml, x.uid = y.uid → x = y := by
  intro x hx y hy hu
  unfold liveL at hx hy
  obtain ⟨a, ha, rfl⟩ := List.mem_map.1 hx
  obtain ⟨b, hb, rfl⟩ := List.mem_map.1 hy
  obtain ⟨i, hi, rfl⟩ := List.getElem_of_mem ha
  obtain ⟨j, hj, rfl⟩ := List.getElem_of_mem hb
  have hp := List.pairwise_iff_getElem.1 hr
  have hk : ml[i].1 = ml[j].1 := hu
  by_cases hij : i = j
  · subst hij; rfl
  · exfalso
    by_cases h : i < j
    · have := hp i j hi hj h
      rw [hk, cmp_self] at this
      omega
    · have := hp j i hj hi (by omega)
      rw [hk, cmp_self] at this
      omega

/-- Tokens rise in the log, up to Latest. -/
structure Cs.Tok (s : Cs) : Prop where
  rise : s.log.Pairwise fun x y => x.1 ≤ y.1
  le : ∀ x ∈ s.log, x.1 ≤ s.latest
theorem Cs.new_tok (birth cards log : Int) : (Cs.new birth cards log).Tok := ⟨List.Pairwise.nil, fun _ h => by cases h⟩
theorem pushL_sub {cap : Int} {l : List Ch} {x y : Ch} (h : y ∈ pushL cap l x) : y ∈ l ∨ y = x := by
  unfold pushL at h
  rcases List.mem_append.1 h with h | h
  · left
    split at h
    · exact List.mem_of_mem_drop h
    · exact h
  · right
    simpa using h
theorem Cs.step_tok {s : Cs} (h : s.Tok) (o : OpV) (t : Int) : (s.step o t).2.Tok := by
  unfold Cs.step
  cases hn : s.no o t with
  | true => exact h
  | false =>
    have ht : s.latest ≤ t := by
      unfold Cs.no at hn
      simp only [Bool.or_eq_false_iff, decide_eq_false_iff_not] at hn
      omega
    refine ⟨?_, fun x hx => ?_⟩
    · show (pushL s.cap s.log (t, o.uid)).Pairwise _
      unfold pushL
      refine List.pairwise_append.2 ⟨?_, by simp, fun x hx y hy => ?_⟩
      · split
        · exact h.rise.sublist (List.drop_sublist _ _)
        · exact h.rise
      · rw [List.mem_singleton] at hy
        subst hy
        have hm : x ∈ s.log := by
          split at hx
          · exact List.mem_of_mem_drop hx
          · exact hx
        have := h.le x hm
        show x.1 ≤ t
        omega
    · rcases pushL_sub hx with h2 | h2
      · have := h.le x h2
        show x.1 ≤ t
        omega
      · subst h2
        exact Int.le_refl _
theorem madeF_ind {P : Cs → Prop} (hs : ∀ s o t, P s → P (s.step o t).2) : ∀ (l : List ActV) (s : Cs), P s → P (madeF s l)
  | [], _, h => h
  | x :: l, s, h => madeF_ind hs l _ (hs s x.1 x.2 h)
theorem made_tok (birth cards log : Int) (l : List ActV) : (madeF (Cs.new birth cards log) l).Tok := madeF_ind (P := Cs.Tok) (fun _ o t h => Cs.step_tok h o t) l _ (Cs.new_tok _ _ _)
theorem Cs.Tok.falls {s : Cs} (h : s.Tok) : Falls s.log.reverse := List.pairwise_reverse.2 h.rise

theorem since_agree {s : Cs} (hr : Rising s.ml) (ht : s.Tok) {tok : Int} {l1 l2 : List It} {e1 e2 : Int} (h1 : SinceIs s tok l1 e1) (h2 : RSinceIs s tok l2 e2) : e1 = e2 ∧ l1 = l2 := by
  rcases h1 with ⟨a, b, c⟩ | ⟨a, b, c, d⟩ | ⟨a, b, c, d⟩ <;> rcases h2 with ⟨a', b', c'⟩ | ⟨a', b', c', d'⟩ | ⟨a', b', c', d'⟩
  · exact ⟨by rw [b, b'], sorted_same c c' (live_uniq hr)⟩
  · exact absurd a a'
  · exact absurd a a'
  · exact absurd a' a
  · exact ⟨by rw [c, c'], by rw [d, d']⟩
  · rw [b] at b'; cases b'
  · exact absurd a' a
  · rw [b] at b'; cases b'
  · rw [outP_eq _ _ _ ht.falls] at d
    exact ⟨by rw [c, c'], sorted_same d d' (outR_uniq _ _ _)⟩

end Go.Proofs.Ytbeckfnhgeclnaa
/-
  What Since tells is so: plainly.
-/
namespace Go.Proofs.Ytbeckfnhgeclnaa
open Go.RowKit Go.Lib

/-- The last token of a UID in the log. -/
def lastTok (l : List Ch) (u : List UInt8) : Option Int := (l.reverse.find? fun x => x.2 == u).map (·.1)
theorem lastTok_snoc (l : List Ch) (x : Ch) (u : List UInt8) : lastTok (l ++ [x]) u = if x.2 = u then some x.1 else lastTok l u := by
  unfold lastTok
  rw [List.reverse_append, List.reverse_singleton, List.singleton_append, List.find?_cons]
  by_cases h : x.2 = u
  · simp [h]
  · have : (x.2 == u) = false := by simpa using h
    rw [this, if_neg h]
theorem lastTok_drop {l : List Ch} {k : Nat} {u : List UInt8} {t : Int} (h : lastTok (l.drop k) u = some t) : lastTok l u = some t := by
  have e : l.reverse = (l.drop k).reverse ++ (l.take k).reverse := by rw [← List.reverse_append, List.take_append_drop]
  unfold lastTok at h ⊢
  rw [e, List.find?_append]
  obtain ⟨x, hx, hxt⟩ := Option.map_eq_some_iff.1 h
  rw [hx]
  simpa using hxt
/-- Who is there has the version of its last write. -/
def Cs.Ver (s : Cs) : Prop := ∀ u t, lastTok s.log u = some t → hasM s.ml u = true → verM s.ml u = t
theorem mls_get {s : Cs} (hr : Rising s.ml) (o : OpV) (t : Int) (u : List UInt8) : getM (s.mls o t) u = if u = o.uid then (if o.del = true then none else some ⟨t, o.card⟩) else getM s.ml u := by
  unfold Cs.mls
  cases o.del with
  | true => rw [if_pos rfl, (delM_spec o.uid hr).2.1 u]; simp
  | false => rw [if_neg (by simp), (putM_spec o.uid ⟨t, o.card⟩ hr).2.1 u]; simp
theorem Cs.step_ver {s : Cs} (h : s.Ver) (hok : s.Ok) (o : OpV) (t : Int) : (s.step o t).2.Ver := by
  unfold Cs.step
  cases hn : s.no o t with
  | true => exact h
  | false =>
    intro u t' hl hh
    have hl : lastTok (pushL s.cap s.log (t, o.uid)) u = some t' := hl
    have hg := mls_get hok.rise o t u
    have hh : hasM (s.mls o t) u = true := hh
    show verM (s.mls o t) u = t'
    unfold pushL at hl
    rw [lastTok_snoc] at hl
    by_cases he : o.uid = u
    · rw [if_pos he] at hl
      have hle : t = t' := Option.some.inj hl
      subst he
      rw [if_pos rfl] at hg
      unfold hasM at hh
      rw [hg] at hh
      cases hd : o.del with
      | true => rw [hd] at hh; simp at hh
      | false =>
        rw [hd, if_neg (by simp)] at hg
        unfold verM
        rw [hg]
        exact hle
    · rw [if_neg he] at hl
      rw [if_neg (fun e => he e.symm)] at hg
      have hl2 : lastTok s.log u = some t' := by
        split at hl
        · exact lastTok_drop hl
        · exact hl
      have e1 : hasM (s.mls o t) u = hasM s.ml u := by unfold hasM; rw [hg]
      have e2 : verM (s.mls o t) u = verM s.ml u := by unfold verM; rw [hg]
      rw [e2]
      exact h u t' hl2 (by rw [← e1]; exact hh)
structure Cs.Good (s : Cs) : Prop where
  ok : s.Ok
  ver : s.Ver
theorem made_good (birth cards log : Int) (l : List ActV) : (madeF (Cs.new birth cards log) l).Good :=
  madeF_ind (P := Cs.Good) (fun s o t h => ⟨Cs.step_ok h.ok o t, Cs.step_ver h.ver h.ok o t⟩) l _ ⟨Cs.new_ok _ _ _, fun u t h => by simp [Cs.new, lastTok] at h⟩

/-- What is told of a card. -/
structure Told (s : Cs) (tok : Int) (x : It) : Prop where
  gone : hasM s.ml x.uid = !x.gone
  there : hasM s.ml x.uid = true → verM s.ml x.uid = x.ver ∧ txtM s.ml x.uid = x.card
  none : hasM s.ml x.uid = false → x.card = []
  new : tok ≠ 0 → tok < x.ver
theorem get_mem {ml : ML Ce} (hr : Rising ml) {e : List UInt8 × Ce} (h : e ∈ ml) : getM ml e.1 = some e.2 := by
  induction ml with
  | nil => cases h
  | cons x l ih =>
    rcases List.mem_cons.1 h with rfl | h
    · exact getM_cons_eq rfl
    · have hlt := (List.pairwise_cons.1 hr).1 e h
      rw [getM_cons_ne (cmp_ne hlt)]
      exact ih (List.pairwise_cons.1 hr).2 h
theorem told_live {s : Cs} (hr : Rising s.ml) : ∀ x ∈ liveL s.ml, Told s 0 x := by
  intro x hx
  obtain ⟨e, he, rfl⟩ := List.mem_map.1 hx
  have hg := get_mem hr he
  have h1 : hasM s.ml e.1 = true := by unfold hasM; rw [hg]; rfl
  refine ⟨by rw [show (itOf e).uid = e.1 from rfl, h1]; rfl, fun _ => ⟨?_, ?_⟩, fun h => ?_, fun h => absurd rfl h⟩
  · show verM s.ml e.1 = e.2.ver
    unfold verM; rw [hg]
  · show txtM s.ml e.1 = e.2.text
    unfold txtM; rw [hg]
  · rw [show (itOf e).uid = e.1 from rfl, h1] at h; cases h
theorem outR_mem (ml : ML Ce) (tok : Int) : ∀ l : List Ch, Falls l → ∀ y ∈ outR ml tok l, ∃ x ∈ l, y = itAt ml x ∧ tok < x.1 ∧ l.find? (fun z => z.2 == x.2) = some x := by
  refine ind_snoc (fun _ y hy => by simp [outR] at hy) fun l x ih hf y hy => ?_
  have hf' := List.pairwise_append.1 hf
  rw [outR_snoc] at hy
  unfold stepR at hy
  by_cases c : x.1 ≤ tok ∨ seenR (outR ml tok l) x.2 = true
  · rw [if_pos c] at hy
    obtain ⟨z, hz, e, h1, h2⟩ := ih hf'.1 y hy
    exact ⟨z, by simp [hz], e, h1, by rw [List.find?_append, h2]; rfl⟩
  · rw [if_neg c] at hy
    rcases List.mem_append.1 hy with hy | hy
    · obtain ⟨z, hz, e, h1, h2⟩ := ih hf'.1 y hy
      exact ⟨z, by simp [hz], e, h1, by rw [List.find?_append, h2]; rfl⟩
    · rw [List.mem_singleton] at hy
      have hx : tok < x.1 := by
        have : ¬ x.1 ≤ tok := fun h => c (.inl h)
        omega
      refine ⟨x, by simp, hy, hx, ?_⟩
      have hs := seen_outR ml tok l (fun z hz => by have := hf'.2.2 z hz x (by simp); omega) x.2
      have hn : ¬ 0 < chSeen l x.2 := fun h => c (.inr (by rw [hs]; simpa using h))
      have hno : l.find? (fun z => z.2 == x.2) = none := by
        rw [List.find?_eq_none]
        intro z hz hzz
        exact hn (List.countP_pos_iff.2 ⟨z, hz, hzz⟩)
      rw [List.find?_append, hno]
      simp
theorem told_out {s : Cs} (hv : s.Ver) (ht : s.Tok) (tok : Int) : ∀ y ∈ outR s.ml tok s.log.reverse, Told s tok y := by
  intro y hy
  obtain ⟨x, hx, rfl, h1, h2⟩ := outR_mem s.ml tok _ ht.falls y hy
  have hl : lastTok s.log x.2 = some x.1 := by unfold lastTok; rw [h2]; rfl
  have hu := itAt_uid s.ml x
  unfold itAt at hu ⊢
  by_cases hh : hasM s.ml x.2 = true
  · rw [if_pos hh]
    exact ⟨by simpa using hh, fun _ => ⟨rfl, rfl⟩, fun h => (by rw [show (⟨x.2, verM s.ml x.2, false, txtM s.ml x.2⟩ : It).uid = x.2 from rfl, hh] at h; cases h), fun _ => (by show tok < verM s.ml x.2; rw [hv x.2 x.1 hl hh]; exact h1)⟩
  · have hf : hasM s.ml x.2 = false := by simpa using hh
    rw [if_neg hh]
    exact ⟨by simpa using hf, fun h => (by rw [show (⟨x.2, x.1, true, []⟩ : It).uid = x.2 from rfl, hf] at h; cases h), fun _ => rfl, fun _ => h1⟩
/-- They rise strictly. -/
theorem outR_apart (ml : ML Ce) (tok : Int) : ∀ l : List Ch, (outR ml tok l).Pairwise (fun x y => x.uid ≠ y.uid) := by
  refine ind_snoc (by simp [outR]) fun l x ih => ?_
  rw [outR_snoc]
  unfold stepR
  by_cases c : x.1 ≤ tok ∨ seenR (outR ml tok l) x.2 = true
  · rw [if_pos c]; exact ih
  · rw [if_neg c]
    refine List.pairwise_append.2 ⟨ih, by simp, fun y hy z hz => ?_⟩
    rw [List.mem_singleton] at hz
    subst hz
    rw [itAt_uid]
    intro he
    exact c (.inr (by unfold seenR; rw [List.any_eq_true]; exact ⟨y, hy, by simpa using he⟩))
theorem live_apart {ml : ML Ce} (hr : Rising ml) : (liveL ml).Pairwise (fun x y => x.uid ≠ y.uid) := by
  unfold liveL
  rw [List.pairwise_map]
  exact hr.imp fun h => by exact cmp_ne h
def Next (x y : It) : Prop := x.ver < y.ver ∨ (x.ver = y.ver ∧ compareBytes x.uid y.uid < 0)
theorem sorted_next {l l' : List It} (h : SortedOf l l') (ha : l.Pairwise (fun x y => x.uid ≠ y.uid)) : l'.Pairwise Next := by
  have ha' := (h.1.pairwise_iff (R := fun x y : It => x.uid ≠ y.uid) (fun h e => h e.symm)).2 ha
  refine (h.2.and ha').imp fun {x y} ⟨h1, h2⟩ => ?_
  have k : ¬ itLt y x = true := by simp [h1]
  rw [itLt_eq] at k
  by_cases c : x.ver < y.ver
  · exact .inl c
  · have c2 : ¬ y.ver < x.ver := fun h => k (.inl h)
    have c3 : x.ver = y.ver := by omega
    refine .inr ⟨c3, ?_⟩
    exact cmp_not (fun h => k (.inr ⟨c3.symm, h⟩)) (fun e => h2 e.symm)
structure Knows (s : Cs) (tok : Int) (l' : List It) (err : Int) : Prop where
  is : err = if tok = 0 ∨ s.bad tok = false then 0 else 8
  none : err ≠ 0 → l' = []
  told : ∀ x ∈ l', Told s tok x
  next : l'.Pairwise Next
  all : tok = 0 → l'.length = s.ml.length
theorem knows {s : Cs} (hg : s.Good) (ht : s.Tok) {tok : Int} {l' : List It} {err : Int} (h : SinceIs s tok l' err) : Knows s tok l' err := by
  rcases h with ⟨a, b, c⟩ | ⟨a, b, c, d⟩ | ⟨a, b, c, d⟩
  · subst a
    exact ⟨by rw [b]; simp, fun h => absurd b h, fun x hx => told_live hg.ok.rise x (c.1.mem_iff.1 hx), sorted_next c (live_apart hg.ok.rise), fun _ => by rw [c.1.length_eq, liveL_len]⟩
  · subst d
    exact ⟨by rw [c, if_neg (by simp [a, b])], fun _ => rfl, fun x hx => (by cases hx), List.Pairwise.nil, fun h => absurd h a⟩
  · rw [outP_eq _ _ _ ht.falls] at d
    exact ⟨by rw [c]; simp [b], fun h => absurd c h, fun x hx => told_out hg.ver ht tok x (d.1.mem_iff.1 hx), sorted_next d (outR_apart _ _ _), fun h => absurd h a⟩

end Go.Proofs.Ytbeckfnhgeclnaa
/-
  Writes that a check takes are all taken: plainly.
-/
namespace Go.Proofs.Ytbeckfnhgeclnaa
open Go.RowKit Go.Lib

theorem place_there {ml : ML Ce} {k : List UInt8} (hr : Rising ml) (h : hasM ml k = true) : place ml k < ml.length := by
  unfold hasM at h
  rw [getM_place hr] at h
  cases hp : ml[place ml k]? with
  | none => rw [hp] at h; cases h
  | some x => exact (List.getElem?_eq_some_iff.1 hp).1
theorem delM_len_there {ml : ML Ce} {k : List UInt8} (hr : Rising ml) (h : hasM ml k = true) : (delM ml k).length + 1 = ml.length := by
  have hp := place_there hr h
  unfold delM
  rw [if_pos h, List.length_eraseIdx, if_pos hp]
  omega
theorem putM_len_new {ml : ML Ce} {k : List UInt8} {v : Ce} (h : hasM ml k = false) : (putM ml k v).length = ml.length + 1 := by
  have hp := place_le ml k
  unfold putM
  rw [if_neg (by simp [h]), List.length_append, List.length_take, List.length_cons, List.length_drop]
  omega

/-- The collection behind the first writes of a check, T their token. -/
structure Far (s s' : Cs) (pre : List OpV) (room m g T : Int) : Prop where
  ok : s'.Ok
  most : s'.most = s.most
  get : ∀ u, uidIn pre u = false → getM s'.ml u = getM s.ml u
  len : (s'.ml.length : Int) = m
  bytes : bytesM s'.ml = bytesM s.ml + g
  le : s'.latest ≤ T
  is : pre ≠ [] → s'.latest = T ∧ g ≤ room
theorem far_start {s : Cs} (h : s.Ok) (room : Int) {T : Int} (hT : s.latest ≤ T) : Far s s [] room (s.ml.length : Nat) 0 T :=
  ⟨h, rfl, fun _ _ => rfl, rfl, by omega, hT, fun h => absurd rfl h⟩
theorem chkO_ok {s : Cs} {room : Int} {pre : List OpV} {o : OpV} {m g : Int} {p : Int × Int} (h : chkO s room pre o m g = .inr p) :
    uidIn pre o.uid = false ∧ ¬ (o.del = true ∧ hasM s.ml o.uid = false) ∧ p.1 = (if hasM s.ml o.uid = true then m - 1 else m) + (if o.del = true then 0 else 1) ∧
    p.2 = (if hasM s.ml o.uid = true then g - ((txtM s.ml o.uid).length : Int) else g) + (if o.del = true then 0 else (o.card.length : Int)) ∧ p.1 ≤ s.most ∧ p.2 ≤ room := by
  unfold chkO at h
  by_cases c1 : uidIn pre o.uid = true
  · rw [if_pos c1] at h; cases h
  · rw [if_neg c1] at h
    by_cases c2 : holdsP o.ck o.cv (hasM s.ml o.uid) (verM s.ml o.uid) = false
    · rw [if_pos c2] at h; cases h
    · rw [if_neg c2] at h
      by_cases c3 : o.del = true ∧ hasM s.ml o.uid = false
      · rw [if_pos c3] at h; cases h
      · rw [if_neg c3] at h
        simp only at h
        by_cases c4 : s.most < (if hasM s.ml o.uid = true then m - 1 else m) + (if o.del = true then 0 else 1) ∨ room < (if hasM s.ml o.uid = true then g - ((txtM s.ml o.uid).length : Int) else g) + (if o.del = true then 0 else (o.card.length : Int))
        · rw [if_pos c4] at h; cases h
        · rw [if_neg c4] at h
          have h := (Sum.inr.inj h).symm
          subst h
          exact ⟨by simpa using c1, c3, rfl, rfl, by simp only; omega, by simp only; omega⟩
theorem chkO_err {s : Cs} {room : Int} {pre : List OpV} {o : OpV} {m g : Int} {e : Int} (h : chkO s room pre o m g = .inl e) : e ≠ 0 := by
  unfold chkO at h
  by_cases c1 : uidIn pre o.uid = true
  · rw [if_pos c1] at h; have h := Sum.inl.inj h; omega
  · rw [if_neg c1] at h
    by_cases c2 : holdsP o.ck o.cv (hasM s.ml o.uid) (verM s.ml o.uid) = false
    · rw [if_pos c2] at h; have h := Sum.inl.inj h; omega
    · rw [if_neg c2] at h
      by_cases c3 : o.del = true ∧ hasM s.ml o.uid = false
      · rw [if_pos c3] at h; have h := Sum.inl.inj h; omega
      · rw [if_neg c3] at h
        simp only at h
        by_cases c4 : s.most < (if hasM s.ml o.uid = true then m - 1 else m) + (if o.del = true then 0 else 1) ∨ room < (if hasM s.ml o.uid = true then g - ((txtM s.ml o.uid).length : Int) else g) + (if o.del = true then 0 else (o.card.length : Int))
        · rw [if_pos c4] at h; have h := Sum.inl.inj h; omega
        · rw [if_neg c4] at h; cases h
theorem far_step {s s' : Cs} {pre : List OpV} {room m g T : Int} (h : Far s s' pre room m g T) {o : OpV} {p : Int × Int} (hc : chkO s room pre o m g = .inr p) :
    (s'.step o T).1 = true ∧ Far s (s'.step o T).2 (pre ++ [o]) room p.1 p.2 T := by
  obtain ⟨h1, h2, h3, h4, h5, h6⟩ := chkO_ok hc
  have hg := h.get o.uid h1
  have hh : hasM s'.ml o.uid = hasM s.ml o.uid := by unfold hasM; rw [hg]
  have ht : txtM s'.ml o.uid = txtM s.ml o.uid := by unfold txtM; rw [hg]
  have hle := h.le
  have hlen := h.len
  have hmo := h.most
  have hno : s'.no o T = false := by
    unfold Cs.no
    rw [hh]
    have c1 : decide (T < s'.latest) = false := by simp; omega
    rw [c1]
    cases hd : o.del with
    | true =>
      cases hx : hasM s.ml o.uid with
      | true => rfl
      | false => exact absurd ⟨hd, hx⟩ h2
    | false =>
      cases hx : hasM s.ml o.uid with
      | true => rfl
      | false =>
        rw [hx, hd] at h3
        simp only [Bool.false_eq_true, if_false] at h3
        simp
        omega
  have e : s'.step o T = (true, s'.app o T) := by unfold Cs.step; rw [hno]; rfl
  rw [e]
  refine ⟨rfl, Cs.app_ok h.ok hno, h.most, fun u hu => ?_, ?_, ?_, Int.le_refl _, fun _ => ⟨rfl, h6⟩⟩
  · rw [uidIn_snoc, Bool.or_eq_false_iff] at hu
    have hne : o.uid ≠ u := by simpa using hu.2
    show getM (s'.mls o T) u = _
    rw [mls_get h.ok.rise, if_neg (fun e => hne e.symm)]
    exact h.get u hu.1
  · show ((s'.mls o T).length : Int) = p.1
    rw [h3]
    unfold Cs.mls
    cases hd : o.del with
    | true =>
      rw [if_pos rfl, if_pos rfl]
      have hx : hasM s.ml o.uid = true := by
        cases hx : hasM s.ml o.uid with
        | true => rfl
        | false => exact absurd ⟨hd, hx⟩ h2
      have := delM_len_there h.ok.rise (hh.trans hx)
      rw [if_pos hx]
      omega
    | false =>
      simp only [Bool.false_eq_true, if_false]
      cases hx : hasM s.ml o.uid with
      | true => rw [putM_there_len (hh.trans hx), if_pos rfl]; omega
      | false => rw [putM_len_new (hh.trans hx), if_neg (by simp)]; omega
  · show bytesM (s'.mls o T) = bytesM s.ml + p.2
    rw [h4]
    have hb := h.bytes
    unfold Cs.mls
    cases hd : o.del with
    | true =>
      rw [if_pos rfl, if_pos rfl, bytesM_del _ h.ok.rise, ht]
      have hx : hasM s.ml o.uid = true := by
        cases hx : hasM s.ml o.uid with
        | true => rfl
        | false => exact absurd ⟨hd, hx⟩ h2
      rw [if_pos hx]
      omega
    | false =>
      simp only [Bool.false_eq_true, if_false]
      rw [bytesM_put _ _ h.ok.rise, ht]
      simp only
      cases hx : hasM s.ml o.uid with
      | true => rw [if_pos rfl]; omega
      | false => rw [txt_none hx, if_neg (by simp)]; simp; omega
/-- What a round of the law knows. -/
theorem chkG_next {s : Cs} {room : Int} {l : List OpV} {k : Nat} {m g gr : Int} {i : Int} (hk : k < l.length) (h : chkG s room (l.take k) (l.drop k) m g = (i, gr, 0)) :
    ∃ p, chkO s room (l.take k) l[k] m g = .inr p ∧ chkG s room (l.take (k + 1)) (l.drop (k + 1)) p.1 p.2 = (i, gr, 0) := by
  cases hc : chkO s room (l.take k) l[k] m g with
  | inl e =>
    exfalso
    rw [chkG_err hk hc] at h
    have he : e = 0 := by injection h with _ h; injection h
    exact chkO_err hc he
  | inr p => exact ⟨p, rfl, by rw [← chkG_ok hk hc]; exact h⟩
theorem chkG_done {s : Cs} {room : Int} {l : List OpV} {m g gr : Int} {i : Int} (h : chkG s room l [] m g = (i, gr, 0)) : gr = g := by
  injection h with _ h
  injection h with h _
  exact h.symm
theorem madeF_most (birth cards log : Int) (l : List ActV) : (madeF (Cs.new birth cards log) l).most = max cards 1 :=
  madeF_ind (P := fun s => s.most = max cards 1) (fun s o t h => by unfold Cs.step; split <;> exact h) l _ rfl

end Go.Proofs.Ytbeckfnhgeclnaa
/-
  Acts that came in, with their tokens' bounds.
-/
namespace Go.Proofs.Ytbeckfnhgeclnaa
open Go.ChangeShapes Go.WideShapes Go.ChangeAt Go.RowKit

def Int64B (x : Int) : Prop := -9223372036854775808 ≤ x ∧ x ≤ 9223372036854775807
section
variable {H : Type} {enc : TypeId × Value → H} {W : World} {base : Nat} {spare : Nat → Bool} {held : Bool}
set_option maxRecDepth 100000 in
theorem cdec_actB (fuel : Nat) (cs : List Value) (x : DataW H × List MemPlace) (hx : DataW.trod enc Try.prog W base spare held fuel 67 cs = some x) (hl : cs.length = 6) :
    ∃ r : ActV, cs = actE r ∧ (OpOk r.1 ∧ Int64B r.2) := by
  obtain ⟨xs, m, _, _, _, hxl, hf⟩ := DataW.trod_struct Try.underlying67 hx
  match cs, hl with
  | [c0, c1, c2, c3, c4, c5], _ =>
    have f0 := hf 0 _ rfl
    have f1 := hf 1 _ rfl
    change DataW.trod enc Try.prog W base spare held m 65 (List.take (Try.prog.cellsOf 65) (List.drop 0 [c0, c1, c2, c3, c4, c5])) = xs[0]? at f0
    change DataW.trod enc Try.prog W base spare held m 2 (List.take (Try.prog.cellsOf 2) (List.drop 5 [c0, c1, c2, c3, c4, c5])) = xs[1]? at f1
    simp only [cc_op, cc_i64, List.drop_zero, List.take_succ_cons, List.take_zero, List.drop_succ_cons] at f0 f1
    simp only [List.size_toArray, List.length_cons, List.length_nil] at hxl
    rw [List.getElem?_eq_getElem (by omega)] at f0 f1
    obtain ⟨n1, e1, _, wn⟩ := DataW.trod_int Try.underlying2 f1
    obtain ⟨o, e0, ho⟩ := cdec_op m [c0, c1, c2, c3, c4] _ f0 rfl
    simp only [List.cons.injEq, and_true] at e1
    subst e1
    exact ⟨⟨o, n1⟩, by rw [show [c0, c1, c2, c3, c4, Value.int .i64 n1] = [c0, c1, c2, c3, c4] ++ [.int .i64 n1] from rfl, e0]; rfl, ho, by simpa [Int64B, Lit.wf, IntKind.min, IntKind.max, IntKind.signed, IntKind.bits] using wn⟩
theorem rds_of_actsB {t : TypeId} {A : Option Addr} {n c : Nat} {d : DataW H} {p : List MemPlace} (ht : Try.prog.underlying t = some (.slice 67)) (h : DataW.Trod enc Try.prog W base spare held t (.slice A n c) d p) :
    ∃ l : List ActV, Rds W A n 6 (actsE l) ∧ n = l.length ∧ n ≤ maxLen ∧ (∀ r ∈ l, OpOk r.1 ∧ Int64B r.2) :=
  rds_of_slice (R := ActV) actE 6 actE_len (by decide) (fun r => OpOk r.1 ∧ Int64B r.2) ht cc_act (fun fuel cs x hx hl => cdec_actB fuel cs x hx hl) h
end
theorem made_lat : ∀ (l : List ActV) (s : Cs), (∀ x ∈ l, Int64B x.2) → Int64B s.latest → Int64B (madeF s l).latest
  | [], _, _, h => h
  | x :: l, s, hl, h => made_lat l _ (fun y hy => hl y (List.mem_cons_of_mem _ hy)) (by
    show Int64B (s.step x.1 x.2).2.latest
    unfold Cs.step
    split
    · exact h
    · exact hl x (List.mem_cons_self ..))

end Go.Proofs.Ytbeckfnhgeclnaa
/-
  ColSince, as a call: it returns true, whatever the acts and the token.
-/
namespace Go.Proofs.Ytbeckfnhgeclnaa
open Go.RowKit Go.Lib

theorem twoc_since1 {B : Nat} {w wr : World} {b1 b2 : Nat} {s1 s2 : Cs} (h : TwoC B w wr b1 b2 s1 s2) (tok : Int) (hl : s1.ml.length ≤ 1000000) (hlg : s1.log.length ≤ 1000000) :
    Calls Try.prog 34 #[.pointer (some ⟨b1, 0, none⟩), .int .i64 tok] wr fun e w' => ∃ l' err A c, e = .returned (.tuple #[.slice A l'.length c, .int .i64 err]) ∧ SinceIs s1 tok l' err ∧ Row w' (From wr.heap.size) 41 4 A l'.length c (itsEnc l') ∧ TwoC B w w' b1 b2 s1 s2 ∧ Below wr.heap.size wr w' := by
  obtain ⟨S, T, h1, h2, _⟩ := h.ex
  exact (since_calls wr S b1 s1 tok h1 hl hlg h.uid).mono fun e w' ⟨l', err, A, c, he, hs, hr, hb⟩ => ⟨l', err, A, c, he, hs, hr, h.bel hb, hb⟩
theorem twoc_since2o {B : Nat} {w wr : World} {b1 b2 : Nat} {s1 s2 : Cs} (h : TwoC B w wr b1 b2 s1 s2) (tok : Int) (hl : s2.ml.length ≤ 1000000) (hlg : s2.log.length ≤ 1000000) :
    Calls Try.prog 35 #[.pointer (some ⟨b2, 0, none⟩), .int .i64 tok] wr fun e w' => ∃ l' err A c, e = .returned (.tuple #[.slice A l'.length c, .int .i64 err]) ∧ RSinceIs s2 tok l' err ∧ RowO w' (From wr.heap.size) 41 4 A l'.length c (itsEnc l') ∧ TwoC B w w' b1 b2 s1 s2 ∧ Below wr.heap.size wr w' := by
  obtain ⟨S, T, h1, h2, _⟩ := h.ex
  exact (rsince_calls wr T b2 s2 tok h2 h.ok2.rise hl hlg).mono fun e w' ⟨l', err, A, c, he, hs, hr, hb⟩ => ⟨l', err, A, c, he, hs, hr, h.bel hb, hb⟩
theorem twoc_since2 {B : Nat} {w wr : World} {b1 b2 : Nat} {s1 s2 : Cs} (h : TwoC B w wr b1 b2 s1 s2) (tok : Int) (hl : s2.ml.length ≤ 1000000) (hlg : s2.log.length ≤ 1000000) :
    Calls Try.prog 35 #[.pointer (some ⟨b2, 0, none⟩), .int .i64 tok] wr fun e w' => ∃ l' err A c, e = .returned (.tuple #[.slice A l'.length c, .int .i64 err]) ∧ RSinceIs s2 tok l' err ∧ Rds w' A l'.length 4 (itsEnc l') ∧ TwoC B w w' b1 b2 s1 s2 ∧ Below wr.heap.size wr w' :=
  (twoc_since2o h tok hl hlg).mono fun e w' ⟨l', err, A, c, he, hs, hr, hO, hb⟩ => ⟨l', err, A, c, he, hs, RowO.rds hr, hO, hb⟩
theorem since_len {s : Cs} {tok : Int} {l' : List It} {err : Int} (h : SinceIs s tok l' err) : l'.length ≤ s.ml.length ∨ l'.length ≤ s.log.length := by
  rcases h with ⟨_, _, h⟩ | ⟨_, _, _, h⟩ | ⟨_, _, _, h⟩
  · left; rw [h.1.length_eq, liveL_len]; exact Nat.le_refl _
  · left; rw [h]; exact Nat.zero_le _
  · right; rw [h.1.length_eq]; have := outP_len s.ml tok _ s.log.reverse rfl; simpa using this

set_option maxRecDepth 100000 in
set_option maxHeartbeats 4000000 in
theorem lsince_calls (w : World) (birth cards log : Int) (A : Option Addr) (n c : Nat) (l : List ActV) (tok : Int) (hr : Rds w A n 6 (actsE l)) (hn : n = l.length) (hm : n ≤ maxLen) (hok : ∀ x ∈ l, OpOk x.1) :
    Calls Try.prog 7 #[.int .i64 birth, .int .i64 cards, .int .i64 log, .slice A n c, .int .i64 tok] w fun e w' => e = .returned (.bool true) ∧ Below w.heap.size w w' := by
  have HLI := hd (fun w' (hb : Below w.heap.size w w') => clight_calls w' A n c l (hr.below hb) hn hm hok)
  cases hlt : lightC l with
  | false =>
    rw [hlt] at HLI
    clear hn hok hr hlt
    go_enter Try.func7, Try.ntmps7
    go_wp2_with fail
    refine (cfirst_calls w).mono ?_
    rintro e w1 ⟨rfl, b1⟩
    go_wp2_with fail
    refine (HLI.o w1 b1).mono ?_
    rintro e w2 ⟨rfl, b2⟩
    go_wp2_with fail
    refine (cfirst_calls w2).mono ?_
    rintro e w3 ⟨rfl, b3⟩
    go_wp2
    go_ret
    exact ⟨rfl, b1.trans ((b2.mono b1.size).trans (b3.mono (by have := b1.size; have := b2.size; omega)))⟩
  | true =>
    rw [hlt] at HLI
    have HM := hd (fun w' (hb : Below w.heap.size w w') => made_calls w w' hb birth cards log A n c l hr hn hlt)
    have HT := hd (made_tok birth cards log l)
    obtain ⟨s, hs⟩ : ∃ s, madeF (Cs.new birth cards log) l = s := ⟨_, rfl⟩
    rw [hs] at HM HT
    clear hn hok hr hlt hs hm
    go_enter Try.func7, Try.ntmps7
    go_wp2_with fail
    refine (cfirst_calls w).mono ?_
    rintro e w1 ⟨rfl, b1⟩
    go_wp2_with fail
    refine (HLI.o w1 b1).mono ?_
    rintro e w2 ⟨rfl, b2⟩
    have b12 := hd (b1.trans (b2.mono b1.size))
    clear b1 b2
    go_wp2_with fail
    refine (HM.o w2 b12.o).mono ?_
    rintro e w3 ⟨b, b2, B, rfl, hz, hT⟩
    have HZ := hd hz
    have HO := hd hT
    clear hz hT b12
    go_wp2_with fail
    refine (twoc_since1 HO.o tok (by have := HZ.o.ml; omega) (by have := HZ.o.log; omega)).mono ?_
    rintro e w4 ⟨l1, e1, A1, c1, rfl, hs1, hr1, hO4, hb4⟩
    have HS1 := hd hs1
    have HR1 := hd hr1.rds
    have HO4 := hd hO4
    have hle := since_len hs1
    clear hs1 hr1 hO4 hb4 HO
    go_wp2_with fail
    refine (twoc_since2 HO4.o tok (by have := HZ.o.ml; omega) (by have := HZ.o.log; omega)).mono ?_
    rintro e w5 ⟨l2, e2, A2, c2, rfl, hs2, hr2, hO5, hb5⟩
    obtain ⟨rfl, rfl⟩ := since_agree HO4.o.ok1.rise HT.o HS1.o hs2
    have HR2 := hd hr2
    have HR3 := hd (HR1.o.below hb5)
    have HO5 := hd hO5
    have hz1 := HZ.o.ml
    have hz2 := HZ.o.log
    have hI := fun (wr : World) (h1 : Rds wr A1 l1.length 4 (itsEnc l1)) (h2 : Rds wr A2 l1.length 4 (itsEnc l1)) => its_calls wr A1 A2 l1.length l1.length c1 c2 l1 l1 rfl rfl h1 h2 (by omega) (by omega)
    rw [decide_eq_true (rfl : l1 = l1)] at hI
    have HI := hd hI
    obtain ⟨q, hq⟩ : ∃ q, l1.length = q := ⟨_, rfl⟩
    rw [hq] at HI HR2 HR3
    have n1 : (e1 == e1) = true := by simp
    clear hI hs2 hr2 hO5 hb5 HR1 HO4 hle hz1 hz2 HS1
    simp only [hq]
    go_wp2_with fail
    refine (HI.o _ HR3.o HR2.o).mono ?_
    rintro e w11 ⟨rfl, hb11⟩
    have HB11 := hd (HO5.o.bel hb11).below
    clear hb11
    go_wp2
    go_ret
    exact ⟨rfl, HB11.o⟩

end Go.Proofs.Ytbeckfnhgeclnaa
/-
  ColKnows, as a call: it returns true, whatever the acts and the token.
-/
namespace Go.Proofs.Ytbeckfnhgeclnaa
open Go.RowKit Go.Lib

theorem twoc_hor {B : Nat} {w wr : World} {b1 b2 : Nat} {s1 s2 : Cs} (h : TwoC B w wr b1 b2 s1 s2) : Calls Try.prog 36 #[.pointer (some ⟨b1, 0, none⟩)] wr fun e w' => e = .returned (.int .i64 s1.horizon) ∧ wr = w' := by
  obtain ⟨S, T, h1, h2, _⟩ := h.ex
  exact chor_calls wr S b1 s1 h1
theorem twoc_latest {B : Nat} {w wr : World} {b1 b2 : Nat} {s1 s2 : Cs} (h : TwoC B w wr b1 b2 s1 s2) : Calls Try.prog 37 #[.pointer (some ⟨b1, 0, none⟩)] wr fun e w' => e = .returned (.int .i64 s1.latest) ∧ wr = w' := by
  obtain ⟨S, T, h1, h2, _⟩ := h.ex
  exact clatest_calls wr S b1 s1 h1
theorem twoc_len {B : Nat} {w wr : World} {b1 b2 : Nat} {s1 s2 : Cs} (h : TwoC B w wr b1 b2 s1 s2) : Calls Try.prog 39 #[.pointer (some ⟨b1, 0, none⟩)] wr fun e w' => e = .returned (.int .i64 (s1.ml.length : Nat)) ∧ wr = w' := by
  obtain ⟨S, T, h1, h2, _⟩ := h.ex
  exact clen_calls wr S b1 s1 h1

theorem twoc_get1b {B : Nat} {w wr : World} {b1 b2 : Nat} {s1 s2 : Cs} (h : TwoC B w wr b1 b2 s1 s2) (k : List UInt8) (hl : s1.ml.length ≤ 1000000) : Calls Try.prog 38 #[.pointer (some ⟨b1, 0, none⟩), .string (bs k)] wr fun e w' => e = .returned (.tuple #[.int .i64 (verM s1.ml k), .string (bs (txtM s1.ml k)), .bool (hasM s1.ml k)]) ∧ TwoC B w w' b1 b2 s1 s2 ∧ Below wr.heap.size wr w' := by
  obtain ⟨S, T, h1, h2, _⟩ := h.ex
  exact (cget_calls wr S b1 s1 k h1 hl).mono fun e w' ⟨he, hb⟩ => ⟨he, h.bel hb, hb⟩

set_option maxRecDepth 100000 in
set_option maxHeartbeats 4000000 in
theorem lknows_calls (w : World) (birth cards log : Int) (A : Option Addr) (n c : Nat) (l : List ActV) (tok : Int) (hr : Rds w A n 6 (actsE l)) (hn : n = l.length) (hm : n ≤ maxLen) (hok : ∀ x ∈ l, OpOk x.1) :
    Calls Try.prog 8 #[.int .i64 birth, .int .i64 cards, .int .i64 log, .slice A n c, .int .i64 tok] w fun e w' => e = .returned (.bool true) ∧ Below w.heap.size w w' := by
  have HLI := hd (fun w' (hb : Below w.heap.size w w') => clight_calls w' A n c l (hr.below hb) hn hm hok)
  cases hlt : lightC l with
  | false =>
    rw [hlt] at HLI
    clear hn hok hr hlt
    go_enter Try.func8, Try.ntmps8
    go_wp2_with fail
    refine (cfirst_calls w).mono ?_
    rintro e w1 ⟨rfl, b1⟩
    go_wp2_with fail
    refine (HLI.o w1 b1).mono ?_
    rintro e w2 ⟨rfl, b2⟩
    go_wp2_with fail
    refine (cfirst_calls w2).mono ?_
    rintro e w3 ⟨rfl, b3⟩
    go_wp2
    go_ret
    exact ⟨rfl, b1.trans ((b2.mono b1.size).trans (b3.mono (by have := b1.size; have := b2.size; omega)))⟩
  | true =>
    rw [hlt] at HLI
    have HM := hd (fun w' (hb : Below w.heap.size w w') => made_calls w w' hb birth cards log A n c l hr hn hlt)
    have HT := hd (made_tok birth cards log l)
    have HG := hd (made_good birth cards log l)
    obtain ⟨s, hs⟩ : ∃ s, madeF (Cs.new birth cards log) l = s := ⟨_, rfl⟩
    rw [hs] at HM HT HG
    clear hn hok hr hlt hs hm
    go_enter Try.func8, Try.ntmps8
    go_wp2_with fail
    refine (cfirst_calls w).mono ?_
    rintro e w1 ⟨rfl, b1⟩
    go_wp2_with fail
    refine (HLI.o w1 b1).mono ?_
    rintro e w2 ⟨rfl, b2⟩
    have b12 := hd (b1.trans (b2.mono b1.size))
    clear b1 b2
    go_wp2_with fail
    refine (HM.o w2 b12.o).mono ?_
    rintro e w3 ⟨b, b2, B, rfl, hz, hT⟩
    have HZ := hd hz
    have HO := hd hT
    clear hz hT b12
    go_wp2_with fail
    refine (twoc_since1 HO.o tok (by have := HZ.o.ml; omega) (by have := HZ.o.log; omega)).mono ?_
    rintro e w4 ⟨l1, e1, A1, c1, rfl, hs1, hr1, hO4, hb4⟩
    have HK := hd (knows HG.o HT.o hs1)
    have HR1 := hd hr1.rds
    have HO4 := hd hO4
    have hle := since_len hs1
    clear hs1 hr1 hO4 hb4 HO
    obtain ⟨q, hq⟩ : ∃ q, l1.length = q := ⟨_, rfl⟩
    have HQ := hd hq
    have hz1 := HZ.o.ml
    have hz2 := HZ.o.log
    rw [hq] at HR1 hle
    simp only [hq]
    have HHO := hd (twoc_hor HO4.o)
    have HLA := hd (twoc_latest HO4.o)
    have HIS := hd HK.o.is
    have HNO := hd HK.o.none
    have HBAD : Hd (s.bad tok = (decide (tok < s.horizon) || decide (s.latest < tok))) := hd rfl
    clear hq
    obtain ⟨ho, hho⟩ : ∃ x, s.horizon = x := ⟨_, rfl⟩
    obtain ⟨la, hla⟩ : ∃ x, s.latest = x := ⟨_, rfl⟩
    rw [hho] at HHO HBAD
    rw [hla] at HLA HBAD
    clear hho hla
    go_upto_region 9 with (fail)
    go_cut [70] from 41 to 70 (fun s70 wx => s70 = .bool false ∧ wx = w4)
    case first =>
      by_cases t0 : tok = 0
      · subst t0
        have he : e1 = 0 := by have h := HIS.o; rw [if_pos (.inl rfl)] at h; exact h
        subst he
        go_wp2
        go_meet
        exact ⟨rfl, rfl⟩
      · have f0 : (tok == 0) = false := by simpa using t0
        by_cases c1 : tok < ho
        · have f1 : decide (ho ≤ tok) = false := by simp; omega
          have he : e1 = 8 := by have h := HIS.o; rw [if_neg (by rw [HBAD.o]; simp [t0, c1])] at h; exact h
          have hl0 : l1 = [] := HNO.o (by rw [he]; decide)
          have hq0 : q = 0 := by rw [← HQ.o, hl0]; rfl
          subst he hq0
          clear t0 c1 hl0
          go_wp2_with fail
          refine HHO.o.mono ?_
          rintro e w5 ⟨rfl, rfl⟩
          go_wp2
          go_meet
          exact ⟨rfl, rfl⟩
        · have f1 : decide (ho ≤ tok) = true := by simp; omega
          by_cases c2 : la < tok
          · have f2 : decide (tok ≤ la) = false := by simp; omega
            have he : e1 = 8 := by have h := HIS.o; rw [if_neg (by rw [HBAD.o]; simp [t0, c2])] at h; exact h
            have hl0 : l1 = [] := HNO.o (by rw [he]; decide)
            have hq0 : q = 0 := by rw [← HQ.o, hl0]; rfl
            subst he hq0
            clear t0 c1 c2 hl0
            go_wp2_with fail
            refine HHO.o.mono ?_
            rintro e w5 ⟨rfl, rfl⟩
            go_wp2_with fail
            refine HLA.o.mono ?_
            rintro e w6 ⟨rfl, rfl⟩
            go_wp2
            go_meet
            exact ⟨rfl, rfl⟩
          · have f2 : decide (tok ≤ la) = true := by simp; omega
            have he : e1 = 0 := by have h := HIS.o; rw [if_pos (.inr (by rw [HBAD.o]; simp [c1, c2]))] at h; exact h
            subst he
            clear t0 c1 c2
            go_wp2_with fail
            refine HHO.o.mono ?_
            rintro e w5 ⟨rfl, rfl⟩
            go_wp2_with fail
            refine HLA.o.mono ?_
            rintro e w6 ⟨rfl, rfl⟩
            go_wp2
            go_meet
            exact ⟨rfl, rfl⟩
    case rest =>
      obtain ⟨rfl, rfl⟩ := hcut
      have HTOLD := hd HK.o.told
      have HNEXT := hd (List.pairwise_iff_getElem.1 HK.o.next)
      have HALL := hd HK.o.all
      clear HHO HLA HIS HNO HBAD
      go_wp2_with fail
      go_loopw [15, 16, 17, 18] (fun i _ _ _ wr => ∃ (k : Nat), i = .int .i64 k ∧ k ≤ q ∧ Hd (TwoC B w wr b b2 s s) ∧ Hd (Rds wr A1 q 4 (itsEnc l1))) (fun i _ _ _ _ => q - (intOf i).toNat)
      case atStart => exact ⟨0, rfl, Nat.zero_le _, HO4, HR1⟩
      case round =>
        clear HO4 HR1
        obtain ⟨k, rfl, hk, HO, HR⟩ := hrel
        have hki : (0 : Int) ≤ (k : Int) := by omega
        by_cases hkq : k < q
        · have hkqi : (k : Int) < (q : Int) := by omega
          have hkl : k < l1.length := by rw [HQ.o]; exact hkq
          obtain ⟨x, hx⟩ : ∃ x, l1[k]'hkl = x := ⟨_, rfl⟩
          have ht := HTOLD.o x (by rw [← hx]; exact List.getElem_mem hkl)
          obtain ⟨g, o, rfl, hg, hc⟩ := HR.o.at_ (by omega)
          have hcell := hd (fun (W : World) (hb : Below wr.heap.size wr W) (t : Nat) (u : Value) (ht : t < 4) (hv : (itEnc x)[t]? = some u) => (hb.cell (p := ⟨g, o + (k * 4 + t), none⟩) hg).trans (hc _ _ ((flat_at itEnc 4 itEnc_len l1 k hkl t ht).trans (by rw [hx]; exact hv))))
          have HKL := hd hkl
          have HX : Hd (l1[k]'HKL.o = x) := hd hx
          have G1 := hd (twoc_get1b HO.o x.uid (by omega))
          obtain ⟨xu, xv, xg, xc⟩ := x
          obtain ⟨tg, tt, tn, tw⟩ := ht
          simp only at tg tt tn tw G1
          have k0 := hcell.o wr (Below.refl _ _) 0 _ (by omega) rfl
          rw [← Nat.add_assoc] at k0
          simp only [Nat.add_zero] at k0
          clear hc hx hkl
          obtain ⟨gv, hgv⟩ : ∃ v, verM s.ml xu = v := ⟨_, rfl⟩
          obtain ⟨gt, hgt⟩ : ∃ v, txtM s.ml xu = v := ⟨_, rfl⟩
          rw [tg, hgv, hgt] at G1
          rw [tg, hgv, hgt] at tt
          rw [tg] at tn
          clear hgv hgt tg
          go_wp2_with fail
          refine G1.o.mono ?_
          rintro e w5 ⟨rfl, hO5, hb5⟩
          have HO5 := hd hO5
          have HR5 := hd (HR.o.below hb5)
          have k1 := hcell.o w5 hb5 1 _ (by omega) rfl
          have k2 := hcell.o w5 hb5 2 _ (by omega) rfl
          have k3 := hcell.o w5 hb5 3 _ (by omega) rfl
          rw [← Nat.add_assoc] at k1 k2 k3
          clear hO5 hb5 k0
          go_upto_region 15 with (fail)
          go_cut [140] from 88 to 140 (fun s140 wx => s140 = .bool false ∧ wx = w5)
          case first =>
            cases xg with
            | true =>
              obtain rfl : xc = [] := tn rfl
              have k3' : w5.cell? ⟨g, o + k * 4 + 3, none⟩ = some (.string ⟨#[]⟩) := k3
              clear k3 tt tn
              by_cases t0 : tok = 0
              · have f0 : (tok != 0) = false := by simpa using t0
                clear t0 tw
                go_wp2
                go_meet
                exact ⟨rfl, rfl⟩
              · have f0 : (tok != 0) = true := by simpa using t0
                have f1 : decide (xv ≤ tok) = false := by have := tw t0; simp; omega
                clear t0 tw
                go_wp2
                go_meet
                exact ⟨rfl, rfl⟩
            | false =>
              obtain ⟨rfl, rfl⟩ := tt rfl
              have f2 : (gv != gv) = false := by simp
              clear tt tn
              by_cases t0 : tok = 0
              · have f0 : (tok != 0) = false := by simpa using t0
                clear t0 tw
                go_wp2
                go_meet
                exact ⟨rfl, rfl⟩
              · have f0 : (tok != 0) = true := by simpa using t0
                have f1 : decide (gv ≤ tok) = false := by have := tw t0; simp; omega
                clear t0 tw
                go_wp2
                go_meet
                exact ⟨rfl, rfl⟩
          case rest =>
            obtain ⟨rfl, rfl⟩ := hcut
            clear k1 k2 k3 tt tn tw
            obtain ⟨g', o', hA', hg', hc'⟩ := HR5.o.at_ (by omega)
            injection hA' with hA'
            injection hA' with hgg hoo
            subst hgg hoo
            have hall : ∀ (t : Nat) (ht : t < l1.length) (z : Nat) (u : Value), z < 4 → (itEnc l1[t])[z]? = some u → wc.cell? ⟨g, o + (t * 4 + z), none⟩ = some u := fun t ht z u hz hv => hc' _ _ ((flat_at itEnc 4 itEnc_len l1 t ht z hz).trans hv)
            clear hc'
            rcases k with _ | j
            · clear hall
              go_wp2_with fail
              go_quiet (fail)
              go_wp2
              go_roundw
              case rel => exact ⟨0 + 1, by go_num, by omega, hd (HO5.o.drewN _), hd (HR5.o.drewN _)⟩
              case measure => simp [intOf]; omega
            · have hjl : j < l1.length := Nat.lt_of_succ_lt HKL.o
              have hnx := HNEXT.o j (j + 1) hjl HKL.o (Nat.lt_succ_self j)
              have x0 := hall (j + 1) HKL.o 0 _ (by omega) (by rw [HX.o]; rfl)
              have x1 := hall (j + 1) HKL.o 1 _ (by omega) (by rw [HX.o]; rfl)
              rw [HX.o] at hnx
              obtain ⟨y, hy⟩ : ∃ y, l1[j]'hjl = y := ⟨_, rfl⟩
              have y0 := hall j hjl 0 _ (by omega) (by rw [hy]; rfl)
              have y1 := hall j hjl 1 _ (by omega) (by rw [hy]; rfl)
              rw [hy] at hnx
              obtain ⟨yu, yv, yg, yc⟩ := y
              simp only [Next] at hnx
              rw [← Nat.add_assoc] at x0 x1 y0 y1
              simp only [Nat.add_zero] at x0 y0
              have hji : (0 : Int) ≤ (j : Int) := by omega
              have hjqi : (j : Int) < (q : Int) := by omega
              have hj1 : (0 : Int) < (j : Int) + 1 := by omega
              clear hall hy hjl
              by_cases v1 : yv < xv
              · have f1 : decide (xv < yv) = false := by simp; omega
                have f2 : (yv == xv) = false := by simp; omega
                clear hnx v1
                go_wp2_with fail
                go_quiet (fail)
                go_wp2
                go_roundw
                case rel => exact ⟨j + 1 + 1, by go_num, by omega, hd (HO5.o.drewN _), hd (HR5.o.drewN _)⟩
                case measure => simp [intOf]; omega
              · have hc2 : yv = xv ∧ compareBytes yu xu < 0 := hnx.resolve_left v1
                have f1 : decide (xv < yv) = false := by simp; omega
                have f2 : (yv == xv) = true := by simpa using hc2.1
                have f3 : Op.bytesLess (bs yu).toList (bs xu).toList = true := by rw [rstr_less, geq_dec]; simpa using hc2.2
                clear hnx v1 hc2
                go_wp2_with fail
                go_quiet (fail)
                go_wp2
                go_roundw
                case rel => exact ⟨j + 1 + 1, by go_num, by omega, hd (HO5.o.drewN _), hd (HR5.o.drewN _)⟩
                case measure => simp [intOf]; omega
        · obtain rfl : k = q := by omega
          have d1 : decide ((k : Int) < (k : Int)) = false := by simp
          by_cases t0 : tok = 0
          · have f0 : (tok != 0) = false := by simpa using t0
            have hal := HALL.o t0
            rw [HQ.o] at hal
            have HL := hd (twoc_len HO.o)
            rw [← hal] at HL
            have f1 : ((k : Int) == (k : Int)) = true := by simp
            clear t0 hal
            go_wp2_with fail
            refine HL.o.mono ?_
            rintro e w5 ⟨rfl, rfl⟩
            go_wp2
            go_ret
            exact ⟨rfl, HO.o.below⟩
          · have f0 : (tok != 0) = true := by simpa using t0
            clear t0
            go_wp2
            go_ret
            exact ⟨rfl, HO.o.below⟩

end Go.Proofs.Ytbeckfnhgeclnaa
/-
  ColRight, as a call: it returns true, whatever the acts, the writes, the room.
-/
namespace Go.Proofs.Ytbeckfnhgeclnaa
open Go.RowKit Go.Lib

theorem twoc_bytes {B : Nat} {w wr : World} {b1 b2 : Nat} {s1 s2 : Cs} (h : TwoC B w wr b1 b2 s1 s2) : Calls Try.prog 56 #[.pointer (some ⟨b1, 0, none⟩)] wr fun e w' => e = .returned (.int .i64 (bytesM s1.ml)) ∧ wr = w' := by
  obtain ⟨S, T, h1, h2, _⟩ := h.ex
  exact cbytes_calls wr S b1 s1 h1

set_option maxRecDepth 100000 in
set_option maxHeartbeats 8000000 in
theorem lright_calls (w : World) (birth cards log : Int) (A : Option Addr) (n c : Nat) (l : List ActV) (A2 : Option Addr) (n2 c2 : Nat) (ops : List OpV) (room : Int) (hbi : Int64B birth) (hr : Rds w A n 6 (actsE l)) (hn : n = l.length) (hm : n ≤ maxLen) (hok : ∀ x ∈ l, OpOk x.1 ∧ Int64B x.2)
    (hr2 : Rds w A2 n2 5 (opsE ops)) (hn2 : n2 = ops.length) (hm2 : n2 ≤ maxLen) (hok2 : ∀ x ∈ ops, OpOk x) (hnc2 : n2 ≤ c2) :
    Calls Try.prog 15 #[.int .i64 birth, .int .i64 cards, .int .i64 log, .slice A n c, .slice A2 n2 c2, .int .i64 room] w fun e w' => e = .returned (.bool true) ∧ Below w.heap.size w w' := by
  have HLI := hd (fun w' (hb : Below w.heap.size w w') => clight_calls w' A n c l (hr.below hb) hn hm (fun x hx => (hok x hx).1))
  have HFE := hd (fun w' (hb : Below w.heap.size w w') => few_calls w' A2 n2 c2 ops (hr2.below hb) hn2 hm2 hok2)
  cases hlt : lightC l with
  | false =>
    rw [hlt] at HLI
    clear hn hok hr hlt hr2 hn2 hok2 HFE hbi
    go_enter Try.func15, Try.ntmps15
    go_wp2_with fail
    refine (cfirst_calls w).mono ?_
    rintro e w1 ⟨rfl, b1⟩
    go_wp2_with fail
    refine (HLI.o w1 b1).mono ?_
    rintro e w2 ⟨rfl, b2⟩
    go_wp2_with fail
    refine (cfirst_calls w2).mono ?_
    rintro e w3 ⟨rfl, b3⟩
    go_wp2
    go_ret
    exact ⟨rfl, b1.trans ((b2.mono b1.size).trans (b3.mono (by have := b1.size; have := b2.size; omega)))⟩
  | true =>
    rw [hlt] at HLI
    cases hfe : fewP ops with
    | false =>
      rw [hfe] at HFE
      clear hn hok hr hlt hr2 hn2 hok2 hfe hbi
      go_enter Try.func15, Try.ntmps15
      go_wp2_with fail
      refine (cfirst_calls w).mono ?_
      rintro e w1 ⟨rfl, b1⟩
      go_wp2_with fail
      refine (HLI.o w1 b1).mono ?_
      rintro e w2 ⟨rfl, b2⟩
      have b12 := hd (b1.trans (b2.mono b1.size))
      clear b1 b2
      go_wp2_with fail
      refine (HFE.o w2 b12.o).mono ?_
      rintro e w3 ⟨rfl, b3⟩
      have b13 := hd (b12.o.trans (b3.mono b12.o.size))
      clear b3
      go_wp2_with fail
      refine (cfirst_calls w3).mono ?_
      rintro e w4 ⟨rfl, b4⟩
      go_wp2
      go_ret
      exact ⟨rfl, b13.o.trans (b4.mono b13.o.size)⟩
    | true =>
      rw [hfe] at HFE
      have HM := hd (fun w' (hb : Below w.heap.size w w') => made_calls w w' hb birth cards log A n c l hr hn hlt)
      have HG := hd (made_good birth cards log l)
      have HMX := hd (madeF_most birth cards log l)
      have HLT := hd (made_lat l (Cs.new birth cards log) (fun x hx => (hok x hx).2) hbi)
      have HC1 := hd (fun (B : Nat) (wr : World) (b1 b2 : Nat) (s : Cs) (h : TwoC B w wr b1 b2 s s) (hz : s.Small 80) => twoc_check1 h A2 n2 c2 ops room (by have := hz.ml; omega) (by have := hz.bytes; omega) hr2 hn2 hnc2 hfe)
      have hn20 : n2 ≤ 20 := by rw [hn2]; exact fewP_len hfe
      have HE := hd (fewP_each hfe)
      have HR := hd hr2
      have HN := hd hn2
      obtain ⟨s, hs⟩ : ∃ s, madeF (Cs.new birth cards log) l = s := ⟨_, rfl⟩
      rw [hs] at HM HG HMX HLT
      clear hn hok hr hlt hs hm hr2 hn2 hok2 hfe hnc2 hm2 hbi
      go_enter Try.func15, Try.ntmps15
      go_wp2_with fail
      refine (cfirst_calls w).mono ?_
      rintro e w1 ⟨rfl, b1⟩
      go_wp2_with fail
      refine (HLI.o w1 b1).mono ?_
      rintro e w2 ⟨rfl, b2⟩
      have b12 := hd (b1.trans (b2.mono b1.size))
      clear b1 b2
      go_wp2_with fail
      refine (HFE.o w2 b12.o).mono ?_
      rintro e w3 ⟨rfl, b3⟩
      have b13 := hd (b12.o.trans (b3.mono b12.o.size))
      clear b3 b12
      go_wp2_with fail
      refine (HM.o w3 b13.o).mono ?_
      rintro e w4 ⟨b, b2, B, rfl, hz, hT⟩
      have HZ := hd hz
      have HO := hd hT
      clear hz hT b13
      have hK1 := HC1.o _ _ _ _ _ HO.o HZ.o
      have HY := hd (twoc_bytes HO.o)
      have HLA := hd (twoc_latest HO.o)
      have HFAR := hd (fun hT => far_start HG.o.ok room (T := s.latest + 1) hT)
      obtain ⟨R, hR⟩ : ∃ R, chkG s room [] ops (s.ml.length : Nat) 0 = R := ⟨_, rfl⟩
      have HR0 := hd hR
      rw [hR] at hK1
      obtain ⟨r1, r2, r3⟩ := R
      have HK1 := hd hK1
      simp only at HK1
      obtain ⟨la, hla⟩ : ∃ x, s.latest = x := ⟨_, rfl⟩
      obtain ⟨by0, hby0⟩ : ∃ x, bytesM s.ml = x := ⟨_, rfl⟩
      have HBY := hd hby0
      have HLAS := hd hla
      rw [hla] at HLA HLT HFAR
      rw [hby0] at HY
      clear hK1 hR hla hby0
      go_wp2_with fail
      refine HY.o.mono ?_
      rintro e w5 ⟨rfl, rfl⟩
      go_wp2_with fail
      refine HLA.o.mono ?_
      rintro e w6 ⟨rfl, rfl⟩
      go_wp2_with fail
      refine HK1.o.mono ?_
      rintro e w5 ⟨rfl, hO5⟩
      have HO5 := hd hO5
      clear hO5 HLA HY HK1 HC1
      by_cases c3 : r3 = 0
      · subst c3
        by_cases cm : la = 9223372036854775807
        · have f1 : (la == 9223372036854775807) = true := by simpa using cm
          clear cm
          go_wp2_with fail
          refine (cfirst_calls w5).mono ?_
          rintro e w7 ⟨rfl, b7⟩
          go_wp2
          go_ret
          exact ⟨rfl, HO5.o.below.trans (b7.mono HO5.o.below.size)⟩
        · have f1 : (la == 9223372036854775807) = false := by simpa using cm
          have hlo : -9223372036854775808 ≤ la := HLT.o.1
          have hhi : la ≤ 9223372036854775806 := by have := HLT.o.2; omega
          have HT : Hd (la ≤ la + 1) := hd (by omega)
          clear cm
          go_wp2_with fail
          go_loopw [20] (fun i wr => ∃ (k B : Nat) (s' : Cs) (m g : Int), i = .int .i64 k ∧ k ≤ n2 ∧ Hd (Far s s' (ops.take k) room m g (la + 1)) ∧ Hd (chkG s room (ops.take k) (ops.drop k) m g = (r1, r2, 0)) ∧ Hd (TwoC B w wr b b2 s' s) ∧ Hd (s'.ml.length ≤ 80 + k ∧ s'.log.length ≤ 80 + k ∧ bytesM s'.ml ≤ 80000 + 1000 * (k : Int))) (fun i _ => n2 - (intOf i).toNat)
          case atStart => exact ⟨0, _, s, _, 0, rfl, Nat.zero_le _, hd (HFAR.o HT.o), HR0, HO5, hd (by obtain ⟨h1, h2, h3⟩ := HZ.o; exact ⟨by omega, by omega, by omega⟩)⟩
          case round =>
            clear HO5
            obtain ⟨k, B, s', m, g, rfl, hk, HF, HCH, HO, HSZ⟩ := hrel
            have hki : (0 : Int) ≤ (k : Int) := by omega
            by_cases hlt : k < n2
            · have hlti : (k : Int) < (n2 : Int) := by omega
              have hkl : k < ops.length := by rw [← HN.o]; exact hlt
              obtain ⟨ga, oa, rfl, hga, hc⟩ := HR.o.at_ (by omega)
              obtain ⟨x, hx⟩ : ∃ x, ops[k]'hkl = x := ⟨_, rfl⟩
              have hxs := HE.o x (by rw [← hx]; exact List.getElem_mem hkl)
              have hcell : ∀ j u, j < 5 → (opEnc x)[j]? = some u → wr.cell? ⟨ga, oa + (k * 5 + j), none⟩ = some u := fun j u hj hv => (HO.o.below.cell (p := ⟨ga, oa + (k * 5 + j), none⟩) hga).trans (hc _ _ ((opsE_at ops k hkl j hj).trans (by rw [hx]; exact hv)))
              obtain ⟨p, hp, hch⟩ := chkG_next hkl HCH.o
              have HCH2 := hd hch
              rw [hx] at hp
              obtain ⟨hst, hfar⟩ := far_step HF.o hp
              have HFAR2 : Hd (Far s (s'.step x (la + 1)).2 (ops.take (k + 1)) room p.1 p.2 (la + 1)) := hd (by rw [List.take_succ_eq_append_getElem hkl, hx]; exact hfar)
              obtain ⟨xd, xu, xc, xk, xv⟩ := x
              simp only at hxs
              have hsz := Cs.step_sizes HO.o.ok1 ⟨xd, xu, xc, xk, xv⟩ (la + 1)
              simp only at hsz
              obtain ⟨z1, z2, z3⟩ := HSZ.o
              have hA := twoc_apply1 HO.o ⟨xd, xu, xc, xk, xv⟩ (la + 1) (by omega) (by omega) (by omega) (by show xc.length ≤ _; omega) (by show xu.length ≤ maxLen; unfold maxLen; omega)
              rw [hst] at hA
              obtain ⟨s2, hs2⟩ : ∃ x, (s'.step ⟨xd, xu, xc, xk, xv⟩ (la + 1)).2 = x := ⟨_, rfl⟩
              rw [hs2] at hA hsz HFAR2
              have HA := hd hA
              simp only [opEnc] at HA
              have HSZ2 : Hd (s2.ml.length ≤ 80 + (k + 1) ∧ s2.log.length ≤ 80 + (k + 1) ∧ bytesM s2.ml ≤ 80000 + 1000 * ((k + 1 : Nat) : Int)) := hd ⟨by omega, by omega, by omega⟩
              have k0 := hcell 0 _ (by omega) rfl
              have k1 := hcell 1 _ (by omega) rfl
              have k2 := hcell 2 _ (by omega) rfl
              have k3 := hcell 3 _ (by omega) rfl
              have k4 := hcell 4 _ (by omega) rfl
              rw [← Nat.add_assoc] at k0 k1 k2 k3 k4
              rw [Nat.add_zero] at k0
              clear hcell hc hx hp hch hst hfar hxs hsz hA hs2 hkl z1 z2 z3
              go_wp2_with fail
              refine HA.o.mono ?_
              rintro e w7 ⟨rfl, hO7⟩
              have HO7 := hd hO7
              clear hO7 k0 k1 k2 k3 k4
              go_wp2
              go_roundw
              case rel => exact ⟨k + 1, _, s2, _, _, by go_num, by omega, HFAR2, HCH2, HO7, HSZ2⟩
              case measure => clear hlo hhi; simp [intOf]; omega
            · obtain rfl : k = n2 := by omega
              have hr2 : r2 = g := chkG_done (by have h := HCH.o; rw [List.drop_eq_nil_of_le (by rw [← HN.o]; exact Nat.le_refl _)] at h; exact h)
              subst hr2
              have HFE := HF.o
              have hbe := HFE.bytes
              rw [HBY.o] at hbe
              have hb1 := HBY.o
              have hb2 := bytesM_nn s.ml
              have hb3 := HZ.o.bytes
              have hb4 := bytesM_nn s'.ml
              have hb5 := HSZ.o.2.2
              have hby1 : 0 ≤ by0 ∧ by0 ≤ 1000000 := by omega
              have hby2 : 0 ≤ by0 + r2 ∧ by0 + r2 ≤ 1000000 := by omega
              have HY := hd (twoc_bytes HO.o)
              rw [hbe] at HY
              have HLA := hd (twoc_latest HO.o)
              have HLN := hd (twoc_len HO.o)
              have hmx := HFE.ok.mllen
              rw [HFE.most, HMX.o] at hmx
              have HIS := hd HFE.is
              obtain ⟨q, hq⟩ : ∃ q, s'.ml.length = q := ⟨_, rfl⟩
              rw [hq] at hmx HLN
              have fq : decide ((q : Int) ≤ max cards 1) = true := by simpa using hmx
              have fb : (by0 + r2 == by0 + r2) = true := by simp
              clear hbe hb1 hb2 hb3 hb4 hb5 HFE hq HCH
              by_cases n0 : k = 0
              · have f0 : ((k : Int) == 0) = true := by simp; omega
                clear n0 hmx
                go_wp2_with fail
                refine HY.o.mono ?_
                rintro e w7 ⟨rfl, rfl⟩
                go_wp2_with fail
                refine HLN.o.mono ?_
                rintro e w7 ⟨rfl, rfl⟩
                go_wp2
                all_goals
                  go_ret
                  exact ⟨ret_bool (by first | rfl | (simp; omega)), HO.o.below⟩
              · have f0 : ((k : Int) == 0) = false := by simp; omega
                obtain ⟨i1, i2⟩ := HIS.o (by intro h; have : (ops.take k).length = 0 := by rw [h]; rfl
                                             rw [List.length_take, ← HN.o] at this; omega)
                rw [i1] at HLA
                have f1 : decide (r2 ≤ room) = true := by simpa using i2
                have f2 : (la + 1 == la + 1) = true := by simp
                clear n0 hmx i1 i2
                go_wp2_with fail
                refine HY.o.mono ?_
                rintro e w7 ⟨rfl, rfl⟩
                go_wp2_with fail
                refine HLA.o.mono ?_
                rintro e w7 ⟨rfl, rfl⟩
                go_wp2_with fail
                refine HLN.o.mono ?_
                rintro e w7 ⟨rfl, rfl⟩
                go_wp2
                all_goals
                  go_ret
                  exact ⟨ret_bool (by first | rfl | (simp; omega)), HO.o.below⟩
      · have f1 : (r3 != 0) = true := by simpa using c3
        clear c3
        go_wp2_with fail
        refine (cfirst_calls w5).mono ?_
        rintro e w7 ⟨rfl, b7⟩
        go_wp2
        go_ret
        exact ⟨rfl, HO5.o.below.trans (b7.mono HO5.o.below.size)⟩

end Go.Proofs.Ytbeckfnhgeclnaa
/-
  ColRight: whatever the arguments, the call returns true, and all reads as it did. No condition.
-/
namespace Go.Proofs.Ytbeckfnhgeclnaa.colRightLaw
open Go.ChangeShapes Go.WideShapes Go.ChangeAt Go.RowKit

set_option maxRecDepth 100000 in
theorem lifted (os : Os) (started : os.Started) (H : Type) (enc : TypeId × Value → H) :
    ReturnsInHanded {} Try.checked os 15 .any (Rows.colRightSpec.pre6 enc Try.prog Try.f15 Rows.colRightRow.domain false) (Rows.colRightSpec.post enc Try.prog Try.f15 false true false false) := by
  refine returnsInHanded_of_change (C := Try.checked) own started (by kernel_rfl) Try.func15
    (ChangeSpec.witness6 (enc := enc) (C := Try.checked) false ⟨#[], #[.int .i64 0, .int .i64 0, .int .i64 0, .slice none 0 0, .slice none 0 0, .int .i64 0], []⟩ 8 (by kernel_rfl) (by kernel_rfl) (by kernel_rfl) (by kernel_rfl)) ?_
  intro W base args ds gs before hval0 hW hcnd _
  have hval : ∀ (j : Nat) t v, Try.f15.params[j]? = some t → args[j]? = some v → Value.okWide Try.prog W .any base t v := hval0
  have hW' := hW
  obtain ⟨p, q, hA0, hV, rfl, hfz, hnd⟩ := hW
  have hA : DataW.TrodAll enc Try.prog W 0 (fun _ => true) true Try.f15.params.toList args.toList ds p := hA0
  rw [Try.params15] at hA hval
  obtain ⟨v0, vs0, d0, ds0, p0, q0, hargs0, rfl, rfl, h0, r0⟩ := trodAll_cons hA
  obtain ⟨v1, vs1, d1, ds1, p1, q1, hargs1, rfl, rfl, h1, r1⟩ := trodAll_cons r0
  obtain ⟨v2, vs2, d2, ds2, p2, q2, hargs2, rfl, rfl, h2, r2⟩ := trodAll_cons r1
  obtain ⟨v3, vs3, d3, ds3, p3, q3, hargs3, rfl, rfl, h3, r3⟩ := trodAll_cons r2
  obtain ⟨v4, vs4, d4, ds4, p4, q4, hargs4, rfl, rfl, h4, r4⟩ := trodAll_cons r3
  obtain ⟨v5, vs5, d5, ds5, p5, q5, hargs5, rfl, rfl, h5, r5⟩ := trodAll_cons r4
  obtain ⟨rfl, rfl, rfl⟩ := trodAll_nil r5
  obtain rfl : args = #[v0, v1, v2, v3, v4, v5] := by cases args; simp_all
  obtain ⟨rfl, rfl⟩ := trodVars_none hV
  have lt0 : ∀ x ∈ p0, x.block < W.heap.size := by obtain ⟨m, hm⟩ := h0; exact DataW.trod_lt m _ _ _ hm
  have lt1 : ∀ x ∈ p1, x.block < W.heap.size := by obtain ⟨m, hm⟩ := h1; exact DataW.trod_lt m _ _ _ hm
  have lt2 : ∀ x ∈ p2, x.block < W.heap.size := by obtain ⟨m, hm⟩ := h2; exact DataW.trod_lt m _ _ _ hm
  have lt3 : ∀ x ∈ p3, x.block < W.heap.size := by obtain ⟨m, hm⟩ := h3; exact DataW.trod_lt m _ _ _ hm
  have lt4 : ∀ x ∈ p4, x.block < W.heap.size := by obtain ⟨m, hm⟩ := h4; exact DataW.trod_lt m _ _ _ hm
  have lt5 : ∀ x ∈ p5, x.block < W.heap.size := by obtain ⟨m, hm⟩ := h5; exact DataW.trod_lt m _ _ _ hm
  have g0 := h0
  have g1 := h1
  have g2 := h2
  have g3 := h3
  have g4 := h4
  have g5 := h5
  obtain ⟨x0, rfl, lo0, hi0, wf0⟩ := open_int (k := .i64) Try.underlying2 (hval 0 2 v0 rfl rfl) g0
  have bd0 : Int64B x0 := by simpa [Int64B, Lit.wf, IntKind.min, IntKind.max, IntKind.signed, IntKind.bits] using wf0
  obtain ⟨x1, rfl, lo1, hi1⟩ := open_int (k := .i64) Try.underlying3 (hval 1 3 v1 rfl rfl) g1
  obtain ⟨x2, rfl, lo2, hi2⟩ := open_int (k := .i64) Try.underlying3 (hval 2 3 v2 rfl rfl) g2
  obtain ⟨A3, n3, c3, rfl⟩ := okWide_slice Try.underlying49 (hval 3 49 v3 rfl rfl)
  obtain ⟨l3, rd3, ln3, mx3, ok3⟩ := rds_of_actsB Try.underlying49 g3
  obtain ⟨A4, n4, c4, rfl⟩ := okWide_slice Try.underlying75 (hval 4 75 v4 rfl rfl)
  obtain ⟨l4, rd4, ln4, mx4, ok4⟩ := rds_of_ops Try.underlying75 g4
  obtain ⟨x5, rfl, lo5, hi5⟩ := open_int (k := .i64) Try.underlying3 (hval 5 3 v5 rfl rfl) g5
  clear hA0 hval0
  refine (lright_calls W x0 x1 x2 A3 n3 c3 l3 A4 n4 c4 l4 x5 bd0 rd3 ln3 mx3 ok3 rd4 ln4 mx4 ok4 (cap_of Try.underlying75 g4)).mono fun e W' ⟨he, bel⟩ => ?_
  subst he
  exact ⟨_, rfl, _, _, _, [], _, [], hW', trodAll_mk1 (shut_bool Try.underlying4 _), (trodAll_cons_mk (Below.trod laidOut (by kernel_rfl) (of_decide_eq_true (by kernel_rfl)) h0 bel lt0) (trodAll_cons_mk (Below.trod laidOut (by kernel_rfl) (of_decide_eq_true (by kernel_rfl)) h1 bel lt1) (trodAll_cons_mk (Below.trod laidOut (by kernel_rfl) (of_decide_eq_true (by kernel_rfl)) h2 bel lt2) (trodAll_cons_mk (Below.trod laidOut (by kernel_rfl) (of_decide_eq_true (by kernel_rfl)) h3 bel lt3) (trodAll_cons_mk (Below.trod laidOut (by kernel_rfl) (of_decide_eq_true (by kernel_rfl)) h4 bel lt4) (trodAll_cons_mk (Below.trod laidOut (by kernel_rfl) (of_decide_eq_true (by kernel_rfl)) h5 bel lt5) trodAll_mk0)))))), rfl, bel.frame _, fun h => by cases h⟩

theorem over : Rows.colRightRow.holds Try.pinned (OpenSpec.ofChange Rows.colRightSpec) :=
  OpenClaim.holds_of_wide 15 Try.f15 rfl rfl rfl rfl rfl rfl rfl ⟨rfl, rfl, rfl, rfl, rfl⟩ rfl rfl rfl rfl rfl (by kernel_rfl) Try.func15 (by kernel_rfl)
    (of_decide_eq_true (by kernel_rfl)) (by unfold Func.isWrapper; first | (rw [if_pos (by decide +kernel)]; kernel_rfl) | (rw [if_neg (by decide +kernel)]; exact ⟨rfl, rfl⟩))
    (fun os started H enc _ => lifted os started H enc)

/-- The statement. -/
theorem proved : Rows.ColRightSaid := over
end Go.Proofs.Ytbeckfnhgeclnaa.colRightLaw
