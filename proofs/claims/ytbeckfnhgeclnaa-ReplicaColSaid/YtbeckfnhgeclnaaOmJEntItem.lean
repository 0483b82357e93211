/-
  A map that rises (EntItem): the iterator All.
-/
import Derived.Test.YtbeckfnhgeclnaaOmGEntItem
import Derived.Test.YtbeckfnhgeclnaaHasP
import Derived.RangeFuncNested
import Derived.RangeFuncBound
import Derived.RangeFuncCalls
import Derived.RangeFuncLeaves
import Derived.Shelf.Abstract
import Derived.Shelf.RegionOpen
import Derived.OwnWalkIn
import Derived.TacticsInMore
import Derived.LoopNIn
import Derived.LoopIn
import Derived.Deep.CutRange
set_option linter.unusedVariables false
set_option linter.unusedSimpArgs false
namespace Go.Proofs.Ytbeckfnhgeclnaa
open Go.RowKit Go.Lib

theorem place_nil {V : Type} (l : ML V) : place l [] = 0 := by
  unfold place
  rw [List.countP_eq_zero]
  intro x _ h
  have h := of_decide_eq_true h
  cases hx : x.1 with
  | nil => rw [hx] at h; simp [compareBytes] at h
  | cons a t => rw [hx] at h; simp [compareBytes] at h
theorem gb_of_below {w w' : World} (h : Below w.heap.size w w') : w.grownBy w' none := ⟨h.os, h.tape, h.output, h.size, fun k hk _ => h.block k hk⟩
theorem gb_drewN (w : World) (n : Nat) : w.grownBy (w.drewN n) none := ⟨rfl, rfl, rfl, Nat.le_refl _, fun _ _ _ => rfl⟩
theorem gb_drew (w : World) : w.grownBy w.drew none := ⟨rfl, rfl, rfl, Nat.le_refl _, fun _ _ _ => rfl⟩

attribute [local go_sem] Oper.semAt_some

set_option maxHeartbeats 4000000 in
set_option maxRecDepth 100000 in
theorem under1EntItem_calls (n l Bm Bp b : Nat) (T S : Nat → Prop) (ml : ML It) (hl : ml.length ≤ 1000000) (J Jx : ML It → World → Prop)
    (hY : ∀ pre x W, J pre W → pre.length < ml.length → YieldAt Fence.wide n Try.prog l #[.string (bs x.1), .agg (itEnc x.2).toArray] W fun e W' => (e = .returned (.bool true) ∧ J (pre ++ [x]) W' ∧ Chg (fun k => ¬ T k) W W') ∨ (e = .returned (.bool false) ∧ Jx (pre ++ [x]) W'))
    (W : World) (hJ : AbidesFrom W.heap.size J) (hBm : Blk W Bm 86 #[.pointer (some ⟨b, 0, none⟩)]) (hBp : Blk W Bp 9 #[.string ⟨#[]⟩]) (TBm : T Bm) (TBp : T Bp) (hO : OmEntItem W S b ml) (hS : ∀ k, S k → T k) (h0 : J [] W) :
    Calls Try.prog 103 #[.func (.yield l) #[] #[], .pointer (some ⟨Bm, 0, none⟩), .pointer (some ⟨Bp, 0, none⟩)] W fun e W' => (∃ v, e = .returned v) ∧ ((∃ ys, ys = ml ∧ J ys W') ∨ (∃ pre, pre <+: ml ∧ Jx pre W')) := by
  obtain ⟨M, hm⟩ : ∃ M, ml.length = M := ⟨_, rfl⟩
  have hF := hd (findEntItem_calls W S b ml [] hO hl)
  have HJ := hd hJ
  have HY := hd hY
  have HO := hd hO
  have H0 := hd h0
  have HBm := hd hBm
  have HBp := hd hBp
  have HM := hd hm
  rw [place_nil] at hF
  rw [hm] at hl
  have cm := hBm.at_ 0 rfl
  have cp := hBp.at_ 0 rfl
  generalize hasM ml [] = q at *
  clear hJ hY hO h0 hBm hBp hm
  go_enter Try.func103, Try.ntmps103
  go_wp2_with fail
  refine hF.o.mono ?_
  rintro e w1 ⟨rfl, hbe⟩
  have HJ1 := hd (HJ.o _ _ _ _ H0.o (gb_of_below hbe) (fun r hr => by cases hr))
  have HC1 := hd (Chg.of_below (fun k => ¬ T k) hbe)
  clear cm cp hbe hF
  go_wp2_with fail
  go_loopw [4] (fun i wr => ∃ m : Nat, i = .int .i64 m ∧ m ≤ M ∧ Hd (J (ml.take m) wr) ∧ Hd (Chg (fun k => ¬ T k) W wr)) (fun i _ => M - (intOf i).toNat)
  case atStart => exact ⟨0, rfl, Nat.zero_le _, HJ1, HC1⟩
  case round =>
    clear HJ1 HC1
    obtain ⟨m, rfl, hk, HJk, HCk⟩ := hrel
    have hbm := HBm.o.chg HCk.o (fun h => h TBm)
    have hbp := HBp.o.chg HCk.o (fun h => h TBp)
    obtain ⟨A, c, hb, hr, hSb, _⟩ := HO.o.chg HCk.o (fun k hk h => h (hS k hk))
    rw [HM.o] at hb hr
    have cm := hbm.at_ 0 rfl
    have cp := hbp.at_ 0 rfl
    have cb := hb.at_ 0 rfl
    have hcap := hr.cap
    unfold maxLen at hcap
    have hki : (0 : Int) ≤ (m : Int) := by omega
    by_cases hlt : m < M
    · have hlti : (m : Int) < (M : Int) := by omega
      have hkl : m < ml.length := by rw [HM.o]; exact hlt
      obtain ⟨g, rfl, _, hgw, _, _, hcl, _⟩ := hr.at_ (by omega)
      obtain ⟨x, hx⟩ : ∃ x, ml[m] = x := ⟨_, rfl⟩
      have hcc : ∀ j u, j < 5 → (enEntItem x)[j]? = some u → wr.cell? ⟨g, m * 5 + j, none⟩ = some u := fun j u hj hv => hcl _ _ ((meEntItem_at ml m hkl j hj).trans (by rw [hx]; exact hv))
      have HT : Hd (ml.take (m + 1) = ml.take m ++ [x]) := hd (by rw [List.take_succ_eq_append_getElem hkl, hx])
      have HLN : Hd ((ml.take m).length < ml.length) := hd (by rw [List.length_take]; omega)
      have HPRE : Hd ((ml.take m ++ [x]) <+: ml) := hd (by rw [← HT.o]; exact List.take_prefix _ _)
      obtain ⟨key, ⟨uid, ver, gone, card⟩⟩ := x
      have hdk : decide ((m : Int) < (M : Int)) = true := by simpa using hlti
      clear hbm hbp hb hr hcl hx
      (have k0 := hcc 0 _ (by omega) rfl; have k1 := hcc 1 _ (by omega) rfl; have k2 := hcc 2 _ (by omega) rfl; have k3 := hcc 3 _ (by omega) rfl; have k4 := hcc 4 _ (by omega) rfl; rw [Nat.add_zero] at k0)
      clear hcc
      go_wp2_with fail
      go_quiet (first | (go_at_call 104; exact q1 (hp_calls _ _)) | (go_at_call 104; exact q2 (hp_calls _ _)))
      go_upto_region 3 with (fail)
      obtain ⟨wq, hwq⟩ : ∃ wq, wq = wr.drewN nq := ⟨_, rfl⟩
      have HJq := hd (HJ.o _ _ _ _ (HJ.o _ _ _ _ HJk.o (gb_drewN wr nq) (fun r hr => by cases hr)) (gb_drew (wr.drewN nq)) (fun r hr => by cases hr))
      have HCq := hd (HCk.o.drewN nq).drew
      rw [← hwq] at HJq HCq ⊢
      have dm : wq.cell? ⟨Bm, 0, none⟩ = some (.pointer (some ⟨b, 0, none⟩)) := by rw [hwq]; exact cm
      have db : wq.cell? ⟨b, 0, none⟩ = some (.slice (some ⟨g, 0, none⟩) M c) := by rw [hwq]; exact cb
      (have d0 : wq.cell? ⟨g, m * 5, none⟩ = some (.string (bs key)) := (by rw [hwq]; exact k0); have d1 : wq.cell? ⟨g, m * 5 + 1, none⟩ = some (.string (bs uid)) := (by rw [hwq]; exact k1); have d2 : wq.cell? ⟨g, m * 5 + 2, none⟩ = some (.int .i64 ver) := (by rw [hwq]; exact k2); have d3 : wq.cell? ⟨g, m * 5 + 3, none⟩ = some (.bool gone) := (by rw [hwq]; exact k3); have d4 : wq.cell? ⟨g, m * 5 + 4, none⟩ = some (.string (bs card)) := (by rw [hwq]; exact k4))
      clear hwq cm cp cb k0 k1 k2 k3 k4 HJk HCk
      go_cut [51] from 12 to 51 (fun s wx => ∃ bb : Bool, s = .bool (!bb) ∧ Hd ((bb = true ∧ J (ml.take m ++ [(key, ⟨uid, ver, gone, card⟩)]) wx ∧ Chg (fun k => ¬ T k) W wx) ∨ (bb = false ∧ Jx (ml.take m ++ [(key, ⟨uid, ver, gone, card⟩)]) wx)))
      case first =>
        obtain ⟨fn, tmps, assign, body, hy, hR⟩ := HY.o (ml.take m) (key, ⟨uid, ver, gone, card⟩) wq.drew HJq.o HLN.o
        have HR : Hd (RoundIn Fence.wide n Try.prog l fn tmps assign body wq.drew (fun e W' => ∃ bb : Bool, e = .returned (.bool bb) ∧ Hd ((bb = true ∧ J (ml.take m ++ [(key, ⟨uid, ver, gone, card⟩)]) W' ∧ Chg (fun k => ¬ T k) W W') ∨ (bb = false ∧ Jx (ml.take m ++ [(key, ⟨uid, ver, gone, card⟩)]) W')))) := hd (hR.mono (fun e W' h => by
          rcases h with ⟨rfl, h1, h2⟩ | ⟨rfl, h1⟩
          · exact ⟨true, rfl, .inl ⟨rfl, h1, HCq.o.trans h2 (fun q hq => .inl hq)⟩⟩
          · exact ⟨false, rfl, .inr ⟨rfl, h1⟩⟩))
        simp only [itEnc] at hy
        clear hR
        have mixed : Try.prog.follows .mixedOrders = true := by kernel_rfl
        refine (wpIn_wide (n := n + 1)).1 ?_
        gi_region_with_o (first
          | (refine HR.o.mono ?_; rintro e W' ⟨bb, rfl, hbb⟩)
          | (refine ⟨fun h => (by cases h), ?_⟩; refine HR.o.mono ?_; rintro e W' ⟨bb, rfl, hbb⟩))
        all_goals
          go_simp
          go_wp2_with fail
          go_meet
          exact ⟨bb, rfl, hbb⟩
      case rest =>
        obtain ⟨bb, rfl, hbb⟩ := hcut
        cases bb with
        | true =>
          have h1 : Hd (J (ml.take (m + 1)) wc ∧ Chg (fun k => ¬ T k) W wc) := hd (by
            rw [HT.o]
            rcases hbb.o with ⟨_, h1, h2⟩ | ⟨h, _⟩
            · exact ⟨h1, h2⟩
            · cases h)
          clear hbb
          go_wp2
          go_roundw
          case rel => exact ⟨m + 1, by go_num, by omega, h1.o.1, h1.o.2⟩
          case measure => simp [intOf]; omega
        | false =>
          have h1 : Hd (Jx (ml.take m ++ [(key, ⟨uid, ver, gone, card⟩)]) wc) := hd (by
            rcases hbb.o with ⟨h, _⟩ | ⟨_, h1⟩
            · cases h
            · exact h1)
          clear hbb
          go_wp2
          refine bodyPost_ret (results_none rfl _ _ _) rfl ?_
          exact ⟨⟨_, rfl⟩, .inr ⟨_, HPRE.o, h1.o⟩⟩
    · obtain rfl : m = M := by omega
      have hdk : decide ((m : Int) < (m : Int)) = false := by simp
      have HE : Hd (ml.take m = ml) := hd (List.take_of_length_le (by rw [HM.o]; exact Nat.le_refl _))
      clear hbm hbp hb hr
      go_wp2_with fail
      go_quiet (fail)
      go_wp2
      go_end0
      exact ⟨⟨_, rfl⟩, .inl ⟨_, HE.o, HJ.o _ _ _ _ HJk.o (gb_drewN wr nq) (fun r hr => by cases hr)⟩⟩

end Go.Proofs.Ytbeckfnhgeclnaa
