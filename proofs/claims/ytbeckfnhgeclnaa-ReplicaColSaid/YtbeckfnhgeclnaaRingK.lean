/-
  The ring's Back, as what a range takes.
-/
import Derived.Test.YtbeckfnhgeclnaaRing
import Derived.Test.YtbeckfnhgeclnaaRng
import Derived.Test.YtbeckfnhgeclnaaOmJEntCol
import Derived.RangeFuncNested
import Derived.RangeFuncBound
import Derived.RangeFuncCalls
import Derived.RangeFuncLeaves
import Derived.Shelf.Abstract
import Derived.Shelf.RegionOpen
import Derived.OwnWalkIn
import Derived.TacticsInMore
import Derived.LoopNIn
import Derived.LoopIn
import Derived.Deep.CutRange
set_option linter.unusedVariables false
set_option linter.unusedSimpArgs false
namespace Go.Proofs.Ytbeckfnhgeclnaa
open Go.RowKit Go.Lib

theorem back_calls (w : World) (b : Nat) :
    Calls Try.prog 63 #[.pointer (some ⟨b, 0, none⟩)] w fun e w' => e = .returned (.func (.func 87) #[] #[.pointer (some ⟨w.heap.size, 0, none⟩)]) ∧ w.alloc (.cells #[.pointer (some ⟨b, 0, none⟩)] 99) = w' := by
  go_enter Try.func63, Try.ntmps63
  go_wp2
  go_ret
  exact ⟨rfl, rfl⟩

attribute [local go_sem] Oper.semAt_some

set_option maxHeartbeats 4000000 in
set_option maxRecDepth 100000 in
theorem back1_calls (n l Bm b : Nat) (T S : Nat → Prop) (cap : Int) (P : Ch → Prop) (rl : List {x : Ch // P x}) (hl : rl.length ≤ 1000000) (J Jx : List {x : Ch // P x} → World → Prop)
    (hY : ∀ pre x W, J pre W → pre.length < rl.length → YieldAt Fence.wide n Try.prog l #[.agg (chEnc x.1).toArray] W fun e W' => (e = .returned (.bool true) ∧ J (pre ++ [x]) W' ∧ Chg (fun k => ¬ T k) W W') ∨ (e = .returned (.bool false) ∧ Jx (pre ++ [x]) W'))
    (W : World) (hJ : AbidesFrom W.heap.size J) (hBm : Blk W Bm 99 #[.pointer (some ⟨b, 0, none⟩)]) (TBm : T Bm) (hO : RingR W S b cap (rl.map (·.1))) (hS : ∀ k, S k → T k) (h0 : J [] W) :
    Calls Try.prog 87 #[.func (.yield l) #[] #[], .pointer (some ⟨Bm, 0, none⟩)] W fun e W' => (∃ v, e = .returned v) ∧ ((∃ ys, ys = rl.reverse ∧ J ys W') ∨ (∃ pre, pre <+: rl.reverse ∧ Jx pre W')) := by
  obtain ⟨M, hm⟩ : ∃ M, rl.length = M := ⟨_, rfl⟩
  have HJ := hd hJ
  have HY := hd hY
  have HO := hd hO
  have H0 := hd h0
  have HBm := hd hBm
  have HM := hd hm
  obtain ⟨A, c, hb, hr, hSb⟩ := hO
  rw [List.length_map, hm] at hb hr
  rw [hm] at hl
  have cm := hBm.at_ 0 rfl
  have cb := hb.at_ 1 rfl
  have hcap := hr.cap
  unfold maxLen at hcap
  have HCW := hd (Chg.refl (fun k => ¬ T k) W)
  clear hJ hY h0 hBm hm hb hr
  go_enter Try.func87, Try.ntmps87
  go_wp2_with fail
  go_loopw [3] (fun i wr => ∃ m : Nat, i = .int .i64 ((M : Int) - 1 - (m : Int)) ∧ m ≤ M ∧ Hd (J (rl.reverse.take m) wr) ∧ Hd (Chg (fun k => ¬ T k) W wr)) (fun i _ => (intOf i + 1).toNat)
  case atStart => exact ⟨0, by simp, Nat.zero_le _, H0, HCW⟩
  case round =>
    clear HCW cm cb
    obtain ⟨m, rfl, hk, HJk, HCk⟩ := hrel
    have hbm := HBm.o.chg HCk.o (fun h => h TBm)
    obtain ⟨A, c, hb, hr, hSb⟩ := HO.o.chg HCk.o (fun k hk h => h (hS k hk))
    rw [List.length_map, HM.o] at hb hr
    have cm := hbm.at_ 0 rfl
    have cb := hb.at_ 1 rfl
    have hcap := hr.cap
    unfold maxLen at hcap
    by_cases hlt : m < M
    · have hkl : m < rl.reverse.length := by rw [List.length_reverse, HM.o]; exact hlt
      have hkl2 : M - 1 - m < rl.length := by rw [HM.o]; omega
      obtain ⟨p, hp⟩ : ∃ p : Nat, p = M - 1 - m := ⟨_, rfl⟩
      have hpi : (M : Int) - 1 - (m : Int) = (p : Int) := by omega
      have hp0 : (0 : Int) ≤ (p : Int) := by omega
      have hpM : (p : Int) < (M : Int) := by omega
      have hpn : p < M := by omega
      have hkl3 : p < rl.length := by rw [HM.o]; exact hpn
      obtain ⟨g, rfl, _, hgw, _, _, hcl, _⟩ := hr.at_ (by omega)
      obtain ⟨x, hx⟩ : ∃ x, rl[p] = x := ⟨_, rfl⟩
      have hxr : rl.reverse[m] = x := by
        rw [← hx, List.getElem_reverse]
        congr 1
        rw [HM.o]
        omega
      have hcc : ∀ j u, j < 2 → (chEnc x.1)[j]? = some u → wr.cell? ⟨g, p * 2 + j, none⟩ = some u := fun j u hj hv => hcl _ _ ((chsEnc_at (rl.map (·.1)) p (by rw [List.length_map]; exact hkl3) j hj).trans (by rw [List.getElem_map, hx]; exact hv))
      have HT : Hd (rl.reverse.take (m + 1) = rl.reverse.take m ++ [x]) := hd (by rw [List.take_succ_eq_append_getElem hkl, hxr])
      have HLN : Hd ((rl.reverse.take m).length < rl.length) := hd (by have := HM.o; rw [List.length_take, List.length_reverse]; omega)
      have HPRE : Hd ((rl.reverse.take m ++ [x]) <+: rl.reverse) := hd (by rw [← HT.o]; exact List.take_prefix _ _)
      obtain ⟨⟨tk, u⟩, hPx⟩ := x
      have k0 := hcc 0 _ (by omega) rfl
      have k1 := hcc 1 _ (by omega) rfl
      rw [Nat.add_zero] at k0
      have hps : (p : Int) - 1 = (M : Int) - 1 - ((m + 1 : Nat) : Int) := by omega
      have HPS := hd hps
      rw [hpi]
      clear hbm hb hr hcl hx hxr hp hpi hcc hkl hkl2 hkl3 hps
      go_upto_region 3 with (fail)
      go_cut [23] from 10 to 23 (fun s wx => ∃ bb : Bool, s = .bool (!bb) ∧ Hd ((bb = true ∧ J (rl.reverse.take m ++ [⟨(tk, u), hPx⟩]) wx ∧ Chg (fun k => ¬ T k) W wx) ∨ (bb = false ∧ Jx (rl.reverse.take m ++ [⟨(tk, u), hPx⟩]) wx)))
      case first =>
        obtain ⟨fn, tmps, assign, body, hy, hR⟩ := HY.o (rl.reverse.take m) ⟨(tk, u), hPx⟩ wr HJk.o HLN.o
        have HR : Hd (RoundIn Fence.wide n Try.prog l fn tmps assign body wr (fun e W' => ∃ bb : Bool, e = .returned (.bool bb) ∧ Hd ((bb = true ∧ J (rl.reverse.take m ++ [⟨(tk, u), hPx⟩]) W' ∧ Chg (fun k => ¬ T k) W W') ∨ (bb = false ∧ Jx (rl.reverse.take m ++ [⟨(tk, u), hPx⟩]) W')))) := hd (hR.mono (fun e W' h => by
          rcases h with ⟨rfl, h1, h2⟩ | ⟨rfl, h1⟩
          · exact ⟨true, rfl, .inl ⟨rfl, h1, HCk.o.trans h2 (fun q hq => .inl hq)⟩⟩
          · exact ⟨false, rfl, .inr ⟨rfl, h1⟩⟩))
        simp only [chEnc] at hy
        clear hR
        refine (wpIn_wide (n := n + 1)).1 ?_
        gi_wp2_with fail
        refine HR.o.mono ?_
        rintro e W' ⟨bb, rfl, hbb⟩
        gi_wp2_with fail
        go_meet
        exact ⟨bb, rfl, hbb⟩
      case rest =>
        obtain ⟨bb, rfl, hbb⟩ := hcut
        cases bb with
        | true =>
          have h1 : Hd (J (rl.reverse.take (m + 1)) wc ∧ Chg (fun k => ¬ T k) W wc) := hd (by
            rw [HT.o]
            rcases hbb.o with ⟨_, h1, h2⟩ | ⟨h, _⟩
            · exact ⟨h1, h2⟩
            · cases h)
          clear hbb
          go_wp2
          go_roundw
          case rel => exact ⟨m + 1, congrArg (Value.int .i64) HPS.o, by omega, h1.o.1, h1.o.2⟩
          case measure => (simp [intOf]; try omega)
        | false =>
          have h1 : Hd (Jx (rl.reverse.take m ++ [⟨(tk, u), hPx⟩]) wc) := hd (by
            rcases hbb.o with ⟨h, _⟩ | ⟨_, h1⟩
            · cases h
            · exact h1)
          clear hbb
          go_wp2
          refine bodyPost_ret (results_none rfl _ _ _) rfl ?_
          exact ⟨⟨_, rfl⟩, .inr ⟨_, HPRE.o, h1.o⟩⟩
    · obtain rfl : m = M := by omega
      have HE : Hd (rl.reverse.take m = rl.reverse) := hd (List.take_of_length_le (by rw [List.length_reverse, HM.o]; exact Nat.le_refl _))
      have hpi : (m : Int) - 1 - (m : Int) = -1 := by omega
      rw [hpi]
      clear hbm hb hr hpi
      go_wp2
      go_end0
      exact ⟨⟨_, rfl⟩, .inl ⟨_, HE.o, HJk.o⟩⟩

theorem back_stops (n Bm b : Nat) (T S : Nat → Prop) (cap : Int) (P : Ch → Prop) (rl : List {x : Ch // P x}) (hl : rl.length ≤ 1000000) (w : World) (hBm : Blk w Bm 99 #[.pointer (some ⟨b, 0, none⟩)]) (TBm : T Bm) (hO : RingR w S b cap (rl.map (·.1))) (hS : ∀ k, S k → T k) :
    SeqStopsK Fence.wide (n + 1) Try.prog 87 #[.pointer (some ⟨Bm, 0, none⟩)] (fun x : {x : Ch // P x} => #[.agg (chEnc x.1).toArray]) (Chg (fun k => ¬ T k)) (fun ys => ys = rl.reverse) (fun pre => pre <+: rl.reverse) rl.length w :=
  fun l J Jx W hW hJ _ hY h0 => callsIn_wide.2 (back1_calls n l Bm b T S cap P rl hl J Jx hY W hJ (hBm.below hW hBm.lt) TBm (hO.below hW) hS h0)

end Go.Proofs.Ytbeckfnhgeclnaa
